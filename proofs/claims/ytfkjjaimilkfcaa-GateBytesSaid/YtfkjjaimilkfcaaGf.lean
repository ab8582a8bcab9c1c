/- The contracts of gate's Waits, New, Clear and Forward. -/
import Derived.Test.YtfkjjaimilkfcaaGt
set_option linter.unusedVariables false
set_option linter.unusedSimpArgs false
namespace Go.Proofs.Ytfkjjaimilkfcaa.Gt
open Go.RowKit Go.Proofs.Ytfkjjaimilkfcaa.Bv Go.Proofs.Ytfkjjaimilkfcaa.Al Go.Proofs.Ytfkjjaimilkfcaa.Ap
theorem ret_eq {k : IntKind} {a b : Int} (h : a = b) : Ending.returned (.int k a) = .returned (.int k b) := by rw [h]
theorem cWaits (W : World) (B p : Nat) (g : Option Nat) (l : List R) (h : Gate W B p g l) (hm : l.length ≤ 1000) : Calls Try.prog 11 #[.pointer (some ⟨p, 0, none⟩)] W fun e w' => e = .returned (.int .i64 l.length) ∧ W = w' := by
  obtain ⟨v, hv, hrow, hg⟩ := h.row
  obtain ⟨a, c, rfl⟩ := slice_form hrow
  clear h hrow hg
  go_enter Try.func11, Try.ntmps11
  go_wp2
  go_ret
  exact ⟨rfl, rfl⟩
theorem cNew (w : World) : Calls Try.prog 7 #[] w fun e w' => e = .returned (.pointer (some ⟨w.heap.size, 0, none⟩)) ∧ Gate w' w.heap.size w.heap.size none [] ∧ Below w.heap.size w w' := by
  go_enter Try.func7, Try.ntmps7
  go_wp2
  go_ret
  exact ⟨rfl, ⟨by simp, Nat.le_refl _, by simp, ⟨_, by simp, World.ownsRow_nil _ _ _ _, rfl⟩, by simp⟩, (Below.refl _ _).alloc (Nat.le_refl _) _⟩
theorem gate_set {W : World} {B p : Nat} {g : Option Nat} {l : List R} (h : Gate W B p g l) : Gate (W.setCell ⟨p, 0, none⟩ (.slice none 0 0)) B p none [] := by
  obtain ⟨v, hv, hrow, hg⟩ := h.row
  exact ⟨by have := h.lt; simpa using this, h.le, by have := h.fz; simpa using this, ⟨_, World.cell?_setCell_same _ _ _ hv, World.ownsRow_nil _ _ _ _, rfl⟩, by simp⟩
theorem only_set (W : World) (p : Nat) (g : Option Nat) (v : Value) : Only W (W.setCell ⟨p, 0, none⟩ v) p g :=
  ⟨rfl, rfl, rfl, by simp, fun k hk hp _ => Below.heap_setCell _ _ _ _ (by exact hp)⟩
theorem cClear (W : World) (B p : Nat) (g : Option Nat) (l : List R) (h : Gate W B p g l) : Calls Try.prog 20 #[.pointer (some ⟨p, 0, none⟩)] W fun e w' => e = .returned (.tuple #[]) ∧ Gate w' B p none [] ∧ Only W w' p g := by
  obtain ⟨v, hv, hrow, hg⟩ := h.row
  obtain ⟨a, c, rfl⟩ := slice_form hrow
  have hf := h.fz
  have H := Lib.hid h
  clear h hrow hg
  go_enter Try.func20, Try.ntmps20
  go_wp2
  go_end0
  exact ⟨rfl, gate_set H.out, only_set _ _ _ _⟩
/-- An element's cells. -/
theorem elem_at {W : World} {B : Nat} {a : Option Addr} {c : Nat} {l : List R} (h : W.ownsRow B 28 7 (.slice a l.length c) l.length (flat l)) (k : Nat) (hk : k < l.length) :
    ∃ g, a = some ⟨g, 0, none⟩ ∧ ∀ j, j < 7 → W.cell? ⟨g, k * 7 + j, none⟩ = (l[k]).cells[j]? := by
  rcases h.2 with ⟨_, h0⟩ | ⟨g, cap, cur, hv, hbg, hg, hnc, hcm, hcs, htake⟩
  · omega
  · injection hv with h1 h2 h3
    subst h1 h3
    refine ⟨g, rfl, fun j hj => ?_⟩
    have hc := h.cellAt (k * 7 + j) (by omega)
    rw [hc]
    clear hc htake hg hcs h
    induction l generalizing k with
    | nil => simp at hk
    | cons r l ih =>
      cases k with
      | zero =>
        simp only [flat, Nat.zero_mul, Nat.zero_add, List.getElem_cons_zero]
        rw [List.getElem?_append_left (by simp [R.cells]; omega)]
      | succ k =>
        simp only [flat, List.getElem_cons_succ]
        rw [List.getElem?_append_right (by simp [R.cells]; omega)]
        have := ih k (by simpa using hk) rfl (by simp at hnc; omega)
        rw [← this]
        congr 1
        simp [R.cells]; omega
/-- A word with what waits put into it. -/
def fwd (a : Nat) (l : List R) (x : Nat) : Nat := l.foldl (fun x r => if r.store && r.addr == a then merge x r.data r.mask else x) x
theorem fwd_lt (a : Nat) (l : List R) (x : Nat) (hx : x < 4294967296) : fwd a l x < 4294967296 := by
  unfold fwd
  induction l generalizing x with
  | nil => exact hx
  | cons r l ih =>
    rw [List.foldl_cons]
    apply ih
    split
    · exact merge_lt _ _ _
    · exact hx
theorem fwd_take (a : Nat) (l : List R) (x k : Nat) (hk : k < l.length) : fwd a (l.take (k + 1)) x = if (l[k]).store && (l[k]).addr == a then merge (fwd a (l.take k) x) (l[k]).data (l[k]).mask else fwd a (l.take k) x := by
  unfold fwd
  rw [List.take_succ_eq_append_getElem hk, List.foldl_append]; rfl
set_option maxHeartbeats 1000000 in
theorem cForward (W : World) (B p : Nat) (g : Option Nat) (l : List R) (h : Gate W B p g l) (hm : l.length ≤ 1000) (hd : ∀ r ∈ l, r.data < 4294967296) (a x : Nat) (hx : x < 4294967296) :
    Calls Try.prog 13 #[.pointer (some ⟨p, 0, none⟩), .int .u32 a, .int .u32 x] W fun e w' => e = .returned (.int .u32 (fwd a l x)) ∧ Below W.heap.size W w' := by
  obtain ⟨v, hv, hrow, hg⟩ := h.row
  obtain ⟨ad, c, rfl⟩ := slice_form hrow
  have HR := Lib.hid hrow
  have HX := Lib.hid hx
  have HD := Lib.hid hd
  clear h hrow hg hx hd
  go_enter Try.func13, Try.ntmps13
  go_wp2_with fail
  go_loopw [2, 14] (fun y i wr => ∃ k : Nat, k ≤ l.length ∧ i = .int .i64 k ∧ y = .int .u32 (fwd a (l.take k) x) ∧ Below W.heap.size W wr) (fun _ i _ => l.length - (intOf i).toNat)
  case atStart => exact ⟨0, Nat.zero_le _, rfl, by simp [fwd], Below.refl _ _⟩
  case round =>
    obtain ⟨k, hk, rfl, rfl, hb⟩ := hrel
    by_cases hlt : k < l.length
    · obtain ⟨q, rfl, hc⟩ := elem_at HR.out k hlt
      have hq : q < W.heap.size := (HR.out.lt q rfl).2
      have hd : (l[k]).data < 4294967296 := HD.out _ (List.getElem_mem hlt)
      have hs := fwd_take a l x k hlt
      have hlo := fwd_lt a (l.take k) x HX.out
      generalize fwd a (l.take k) x = y at hs hlo ⊢
      generalize l[k] = r at hc hd hs
      have c0 := (hb.cell (p := ⟨q, k * 7, none⟩) hq).trans (hc 0 (by decide))
      have c1 := (hb.cell (p := ⟨q, k * 7 + 1, none⟩) hq).trans (hc 1 (by decide))
      have c2 := (hb.cell (p := ⟨q, k * 7 + 2, none⟩) hq).trans (hc 2 (by decide))
      have c3 := (hb.cell (p := ⟨q, k * 7 + 3, none⟩) hq).trans (hc 3 (by decide))
      have c4 := (hb.cell (p := ⟨q, k * 7 + 4, none⟩) hq).trans (hc 4 (by decide))
      have c5 := (hb.cell (p := ⟨q, k * 7 + 5, none⟩) hq).trans (hc 5 (by decide))
      have c6 := (hb.cell (p := ⟨q, k * 7 + 6, none⟩) hq).trans (hc 6 (by decide))
      simp only [R.cells, List.getElem?_cons_zero, List.getElem?_cons_succ] at c0 c1 c2 c3 c4 c5 c6
      have HS := Lib.hid hs
      have HLO := Lib.hid hlo
      have HDD := Lib.hid hd
      clear hs hlo hd hc
      have hlt' : (k : Int) < l.length := by omega
      cases hst : r.store
      · rw [hst] at c3
        go_wp2_with fail
        go_roundw
        case rel => exact ⟨k + 1, by omega, by go_num, by rw [HS.out, hst]; rfl, (hb.alloc hb.size _)⟩
        case measure => simp [intOf]; omega
      · rw [hst] at c3
        cases hat : ((r.addr : Int) == (a : Int))
        · have hna : (r.addr == a) = false := by simp at hat ⊢; omega
          go_wp2_with fail
          go_roundw
          case rel => exact ⟨k + 1, by omega, by go_num, by rw [HS.out, hst, hna]; rfl, (hb.alloc hb.size _)⟩
          case measure => simp [intOf]; omega
        · have hna : (r.addr == a) = true := by simp at hat ⊢; omega
          go_wp2_with fail
          refine (cMerge y r.data r.mask HLO.out HDD.out _).mono ?_
          rintro e w2 ⟨rfl, rfl⟩
          go_wp2_with fail
          go_roundw
          case rel => exact ⟨k + 1, by omega, by go_num, by rw [HS.out, hst, hna]; rfl, (hb.alloc hb.size _)⟩
          case measure => simp [intOf]; omega
    · obtain rfl : k = l.length := by omega
      go_wp2_with fail
      go_ret
      exact ⟨ret_eq (by rw [List.take_length]), hb⟩
end Go.Proofs.Ytfkjjaimilkfcaa.Gt
