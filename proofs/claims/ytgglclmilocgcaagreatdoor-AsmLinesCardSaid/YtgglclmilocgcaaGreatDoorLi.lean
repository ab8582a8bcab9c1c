/- The assembler's functions. -/
import Derived.Test.YtgglclmilocgcaaGreatDoorLs
set_option linter.unusedVariables false
set_option linter.unusedSimpArgs false
namespace Go.Proofs.YtgglclmilocgcaaGreatDoor.Md
open Go.RowKit Go.Proofs.YtgglclmilocgcaaGreatDoor.Ae Go.Proofs.YtgglclmilocgcaaGreatDoor.Bv Go.Proofs.YtgglclmilocgcaaGreatDoor
theorem list_nil (W : World) (gt : GTw W) : Calls Tryz.prog 7 #[.slice none 0 0] W fun e w' => e = .returned (.string (ba [])) ∧ Below W.heap.size W w' := by
  go_enter Tryz.func7, Tryz.ntmps7
  go_wp2_with fail
  go_loopw [13] (fun v wr => v = .int .i64 0 ∧ Lib.IsBuilder 49 5 W.heap.size W.heap.size (Lib.byteCells []) wr ∧ Below W.heap.size W wr) (fun v _ => 0)
  case atStart => exact ⟨rfl, Lib.fresh_isBuilder 49 5 W, (Below.refl _ W).alloc (Nat.le_refl _) _⟩
  case round =>
    obtain ⟨rfl, hB, hb1⟩ := hrel
    go_wp2_with fail
    go_at_call 19
    refine (Tryz.Builder_String_any W.heap.size W.heap.size _ _ hB hb1.size).mono ?_
    rintro e w6 ⟨rfl, b6⟩
    go_wp2_with fail
    go_ret
    exact ⟨rfl, hb1.trans b6⟩
theorem ints_cells {R : Ren} {w : World} {k : IntKind} {n : Nat} {L : List Int} {m : Nat} {c : Nat × Nat} (h : Holds R w [.ints k n L] m c) : L.length = n ∧ ∀ i, i < n → w.cell? ⟨m, c.1 + i, none⟩ = some (.int k (L.getD i 0)) := by
  obtain ⟨ho, cs, ty, fr, pre, xs, rest, h1, h2, h3, h4, h5⟩ := h
  have hl : L.length = n := ho _ (List.mem_singleton_self _)
  refine ⟨hl, fun i hi => ?_⟩
  have e1 : flat [Seg.ints k n L] = L.map (V.int k) := by simp [flat, Seg.flat]
  rw [e1] at h4
  have hx : ∀ (l : List Int) (ys : List Value), rels R (l.map (V.int k)) ys → ys = l.map (Value.int k) := by
    intro l
    induction l with
    | nil => intro ys h; cases h; rfl
    | cons a l ih =>
      intro ys h
      cases h with
      | cons ha ht =>
        have ha : _ = Value.int k a := ha
        rw [ha, ih _ ht]; rfl
  have hxs := hx L xs h4
  subst hxs
  unfold World.cell?
  simp only [h1]
  rw [← Array.getElem?_toList, h3, ← h2, List.getElem?_append_right (by omega), Nat.add_sub_cancel_left, List.getElem?_append_left (by simp; omega), List.getElem?_map, List.getElem?_eq_getElem (by omega)]
  simp [List.getD, List.getElem?_eq_getElem (show i < L.length by omega)]
theorem range_map (L : List Int) : (List.range L.length).map (fun i => (L.getD i 0).toNat) = L.map Int.toNat := by
  apply List.ext_getElem
  · simp
  · intro i h1 h2
    simp at h1
    simp [List.getD, List.getElem?_eq_getElem h1]
/-- List, in any blocks. -/
theorem list1 (L : List Int) (n : Nat) (hu : ∀ x ∈ L, 0 ≤ x ∧ x < 4294967296) (h0 : 0 < n) (hn : n ≤ 1000) {H : Hp} {p : Nat} {b : Blk} (g : H[p]? = some b) (hs : b.segs? = some [.ints .u32 n L]) : AC Tryz.prog 7 [.v (.sl p 0 0 n 1)] H (RetH H (tx (listL (L.map Int.toNat)))) := by
  refine ⟨⟨_, Tryz.func7, rfl, rfl⟩, fun R w vs ha hr => ?_⟩
  cases ha with
  | cons hx ht =>
    cases ht
    obtain ⟨m, c, hR, hx⟩ := hx
    obtain ⟨m', c', hR', hh⟩ := hr.holds p b _ g hs
    rw [hR] at hR'; injection hR' with e; injection e with e1 e2; subst e1 e2
    obtain ⟨hl, hc⟩ := ints_cells hh
    subst hl
    rcases hx with ⟨cap, rfl, _, _, _⟩ | ⟨e, _⟩
    · have gt : GTw w := fun x hx => (hr.tab x hx).1
      have hget : ∀ i, i < L.length → 0 ≤ L.getD i 0 ∧ L.getD i 0 < 4294967296 := fun i hi => by
        have := hu L[i] (List.getElem_mem hi)
        simpa [List.getD, List.getElem?_eq_getElem hi] using this
      refine (list_walk m (c.1 + (0 + 0 * 1)) L.length cap (fun i => (L.getD i 0).toNat) (fun i hi => by have := hget i hi; omega) w gt hh.lt (fun i hi => ?_) hn).mono ?_
      · have := hget i hi
        rw [show c.1 + (0 + 0 * 1) + i = c.1 + i by omega, hc i hi, show ((L.getD i 0).toNat : Int) = L.getD i 0 by omega]
      · rintro e w' ⟨rfl, hb⟩
        unfold listP
        rw [range_map]
        exact ⟨_, _, H, R, ⟨rfl, rfl⟩, rfl, rfl, hr.grown hb.block, Go.grown hb.os hb.tape hb.output hb.size hb.block⟩
    · omega
theorem list2 (H : Hp) : AC Tryz.prog 7 [.v .nilS] H (RetH H (tx [])) := by
  refine ⟨⟨_, Tryz.func7, rfl, rfl⟩, fun R w vs ha hr => ?_⟩
  cases ha with
  | cons hx ht =>
    cases ht
    have hx : _ = Value.slice none 0 0 := hx
    subst hx
    refine (list_nil w (fun x hx => (hr.tab x hx).1)).mono ?_
    rintro e w' ⟨rfl, hb⟩
    exact ⟨_, _, H, R, ⟨rfl, rfl⟩, rfl, rfl, hr.grown hb.block, Go.grown hb.os hb.tape hb.output hb.size hb.block⟩
end Go.Proofs.YtgglclmilocgcaaGreatDoor.Md
