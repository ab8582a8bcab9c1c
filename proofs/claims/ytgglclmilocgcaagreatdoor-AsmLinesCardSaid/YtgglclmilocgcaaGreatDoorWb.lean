/- The assembler's laws, from what came in. -/
import Derived.Test.YtgglclmilocgcaaGreatDoorBe
import Derived.Test.YtgglclmilocgcaaGreatDoorOp
set_option linter.unusedVariables false
set_option linter.constructorNameAsVariable false
set_option linter.unusedSimpArgs false
namespace Go.Proofs.YtgglclmilocgcaaGreatDoor.Md
set_option maxRecDepth 100000
open Go.RowKit Go.Proofs.YtgglclmilocgcaaGreatDoor.Ae Go.Proofs.YtgglclmilocgcaaGreatDoor.Bv Go.Proofs.YtgglclmilocgcaaGreatDoor Go.ChangeShapes Go.WideShapes
/-- A tape's row, under any name. -/
def tapeOkQ (q : Nat) (tv : V) (b0 : Blk) : Prop := (tv = .nilS ∧ b0 = .dead) ∨ (tv = .sl q 0 0 0 1 ∧ b0 = .dead) ∨ ∃ (n : Nat) (l : List Int), tv = .sl q 0 0 n 1 ∧ b0 = .ro [.ints .i64 n l] ∧ n ≤ 9223372036854775807
theorem rep_two {R0 R1 : Ren} {w : World} {b0 b1 : Blk} (h0 : Rep R0 [b0] w) (h1 : Rep R1 [b1] w) (n0 : ∀ l, b0 ≠ .rw l) (n1 : ∀ l, b1 ≠ .rw l)
    (e0 : ∀ l, b0.segs? = some l → ∀ R R' : Ren, ∀ m c, Holds R w l m c → Holds R' w l m c) (e1 : ∀ l, b1.segs? = some l → ∀ R R' : Ren, ∀ m c, Holds R w l m c → Holds R' w l m c) :
    Rep (fun n => if n = 0 then R0 0 else if n = 1 then R1 0 else none) [b0, b1] w := by
  refine ⟨fun x hx => ⟨(h0.tab x hx).1, fun n l c h => ?_⟩, fun n b l h hs => ?_, fun n hn => ?_, fun n l m c h => ?_, fun n n' l b l' m c c' h => ?_⟩
  · rcases n with _ | _ | n <;> simp at h
    · exact absurd h (n0 l)
    · exact absurd h (n1 l)
  · rcases n with _ | _ | n
    · simp at h; subst h
      obtain ⟨m, c, r1, r2⟩ := h0.holds 0 b0 l rfl hs
      exact ⟨m, c, r1, e0 l hs _ _ m c r2⟩
    · simp at h; subst h
      obtain ⟨m, c, r1, r2⟩ := h1.holds 0 b1 l rfl hs
      exact ⟨m, c, r1, e1 l hs _ _ m c r2⟩
    · simp at h
  · have : n ≠ 0 ∧ n ≠ 1 := by simp at hn; omega
    simp [this]
  · rcases n with _ | _ | n <;> simp at h
    · exact absurd h (n0 l)
    · exact absurd h (n1 l)
  · rcases n with _ | _ | n <;> simp at h
    · exact absurd h (n0 l)
    · exact absurd h (n1 l)
theorem rels_plain {R R' : Ren} {k : IntKind} : ∀ {l : List Int} {cs : List Value}, rels R (l.map (V.int k)) cs → rels R' (l.map (V.int k)) cs
  | [], _, h => by cases h; exact .nil
  | _ :: _, _, h => by
    cases h with
    | cons h1 h2 => exact .cons h1 (rels_plain h2)
theorem tape_moves {tv : V} {b0 : Blk} (ht : tapeOk tv b0) {w : World} : (∀ l, b0 ≠ .rw l) ∧ ∀ l, b0.segs? = some l → ∀ R R' : Ren, ∀ m c, Holds R w l m c → Holds R' w l m c := by
  rcases ht with ⟨_, rfl⟩ | ⟨_, rfl⟩ | ⟨n, l, _, rfl, _⟩
  · exact ⟨fun l h => (by cases h), fun l h => (by cases h)⟩
  · exact ⟨fun l h => (by cases h), fun l h => (by cases h)⟩
  · refine ⟨fun l h => (by cases h), fun l' h => ?_⟩
    injection h with h; subst h
    rintro R R' m c ⟨o, cs, ty, fr, pre, xs, rest, a1, a2, a3, a4, a5⟩
    refine ⟨o, cs, ty, fr, pre, xs, rest, a1, a2, a3, ?_, a5⟩
    have a4 : rels R ((l.map (V.int .i64)) ++ []) xs := a4
    show rels R' ((l.map (V.int .i64)) ++ []) xs
    rw [List.append_nil] at a4 ⊢
    exact rels_plain a4
theorem tape_at {tv : V} {b0 : Blk} (ht : tapeOk tv b0) {R : Ren} {x : Value} (hx : tv.rel R x) (q : Nat) : ∃ tq : V, tapeOkQ q tq b0 ∧ ∀ R' : Ren, R' q = R 0 → tq.rel R' x := by
  rcases ht with ⟨rfl, rfl⟩ | ⟨rfl, rfl⟩ | ⟨n, l, rfl, rfl, hn⟩
  · exact ⟨.nilS, .inl ⟨rfl, rfl⟩, fun _ _ => hx⟩
  · refine ⟨.sl q 0 0 0 1, .inr (.inl ⟨rfl, rfl⟩), fun R' e => ?_⟩
    obtain ⟨m, c, h1, h2⟩ := hx
    exact ⟨m, c, e.trans h1, h2⟩
  · refine ⟨.sl q 0 0 n 1, .inr (.inr ⟨n, l, rfl, rfl, hn⟩), fun R' e => ?_⟩
    obtain ⟨m, c, h1, h2⟩ := hx
    exact ⟨m, c, e.trans h1, h2⟩
section
variable {K : Type} {enc : TypeId × Value → K} {W : World} {base b2 : Nat} {spare : Nat → Bool} {held : Bool}
theorem cellsW : Tryz.prog.cellsOf 29 = 1 := by kernel_rfl
/-- A row of words that came in, under the name 1. -/
theorem openWords (ht : GTw W) {a : Option Addr} {n c : Nat} {d : DataW K} {p : List MemPlace} (h : DataW.Trod enc Tryz.prog W base spare held 23 (.slice a n c) d p) (hv : Value.okWide Tryz.prog W .any b2 23 (.slice a n c)) :
    ∃ (lv : V) (b1 : Blk) (R : Ren), wordsAt lv b1 ∧ Rep R [b1] W ∧ ((∀ l, b1 ≠ .rw l) ∧ ∀ l, b1.segs? = some l → ∀ R R' : Ren, ∀ m c, Holds R W l m c → Holds R' W l m c) ∧ ∀ R' : Ren, R' 1 = R 0 → lv.rel R' (.slice a n c) := by
  obtain ⟨fuel, hf⟩ := h
  rcases open_ints Tryz.underlying23 Tryz.underlying29 cellsW hf with ⟨hcs, _⟩ | ⟨ad, len, cap, zs, hcs, _, hl, hm, hzl, _, hcell, hwf⟩
  · simp [Value.cells] at hcs
    obtain ⟨rfl, rfl, rfl⟩ := hcs
    exact ⟨.nilS, .dead, fun _ => none, .inl ⟨rfl, rfl⟩, rep_dead ht fun _ _ => rfl, ⟨fun l h => (by cases h), fun l h => (by cases h)⟩, fun _ _ => rfl⟩
  · simp [Value.cells] at hcs
    obtain ⟨rfl, rfl, rfl⟩ := hcs
    have hs : ad.spot = none := by
      simp only [Value.okWide, Tryz.underlying23, Cell.okWide, Cell.ok] at hv
      exact hv.2.2.2.1
    obtain ⟨b, off, spot⟩ := ad
    simp only at hs
    subst hs
    have hzs : n ≤ zs.length := by rw [hzl]; split <;> omega
    by_cases h0 : n = 0
    · subst h0
      refine ⟨.sl 1 0 0 0 1, .dead, fun n => if n = 0 then some (b, (off, c)) else none, .inr (.inl ⟨rfl, rfl⟩), rep_dead ht fun n hn => by simp; omega, ⟨fun l h => (by cases h), fun l h => (by cases h)⟩, fun R' e => ⟨b, (off, c), e.trans rfl, .inl ⟨c, by simp, Nat.zero_le _, by simp, hm⟩⟩⟩
    · have hh : ∀ R : Ren, Holds R W [.ints .u32 n (zs.take n)] b (off, c) := fun R => holds_ints (fun i hi => by
        have := hcell i (by omega)
        rwa [Addr.add_lit] at this) (by omega) hzs c hl R
      refine ⟨.sl 1 0 0 n 1, .ro [.ints .u32 n (zs.take n)], fun n => if n = 0 then some (b, (off, c)) else none, .inr (.inr ⟨n, _, by omega, rfl, rfl, by simp; omega, fun x hx => ?_, by unfold maxLen at hm; omega⟩), rep_ro ht hh, ⟨fun l h => (by cases h), fun l' h => ?_⟩, fun R' e => ⟨b, (off, c), e.trans rfl, .inl ⟨c, by simp, hl, by simp, hm⟩⟩⟩
      · have := hwf x (List.mem_of_mem_take hx)
        simp [Lit.wf, IntKind.min, IntKind.max, IntKind.bits, IntKind.signed] at this
        omega
      · injection h with h; subst h
        rintro R R' m c' ⟨o, cs, ty, fr, pre, xs, rest, a1, a2, a3, a4, a5⟩
        refine ⟨o, cs, ty, fr, pre, xs, rest, a1, a2, a3, ?_, a5⟩
        have a4 : rels R (((zs.take n).map (V.int .u32)) ++ []) xs := a4
        show rels R' (((zs.take n).map (V.int .u32)) ++ []) xs
        rw [List.append_nil] at a4 ⊢
        exact rels_plain a4
end
set_option maxRecDepth 100000 in
theorem walkBack {K : Type} {enc : TypeId × Value → K} {W0 : World} {base b2 b3 : Nat} {spare : Nat → Bool} {held : Bool} {x : Option Addr} {n c : Nat} {d : DataW K} {p : List MemPlace} (h1 : DataW.Trod enc Tryz.prog W0 base spare held 22 (.slice x n c) d p) (v1 : Value.okWide Tryz.prog W0 .any b2 22 (.slice x n c))
    {x' : Option Addr} {n' c' : Nat} {d' : DataW K} {p' : List MemPlace} (h2 : DataW.Trod enc Tryz.prog W0 base spare held 23 (.slice x' n' c') d' p') (v2 : Value.okWide Tryz.prog W0 .any b3 23 (.slice x' n' c')) (w : World) (gt : GTw w) (e0 : w = W0 := by rfl) :
    Calls Tryz.prog 3 #[.slice x n c, .slice x' n' c'] w fun e w' => e = .returned (.bool true) ∧ Below w.heap.size w w' := by
  subst e0
  obtain ⟨tv, b0, R, ht, hr, hx⟩ := openTape gt h1 v1
  obtain ⟨lv, b1, R1, hl, hr1, ⟨n0, n1⟩, hx1⟩ := openWords gt h2 v2
  obtain ⟨m0, m1⟩ := tape_moves (w := w) ht
  have key : AC Tryz.prog 3 [.v tv, .v lv] [b0, b1] (fun v _ => v = bo true) := by
    rcases hl with ⟨rfl, rfl⟩ | ⟨rfl, rfl⟩ | ⟨n, L, h0, rfl, rfl, hlen, hu, hn⟩
    · exact back_e tv b0 ht _ (.inl rfl)
    · exact back_e tv b0 ht _ (.inr rfl)
    · exact back_go tv b0 ht n L h0 hlen hu hn
  have tr : ∀ R' : Ren, R' 0 = R 0 → tv.rel R' (.slice x n c) := by
    intro R' e
    rcases ht with ⟨rfl, rfl⟩ | ⟨rfl, rfl⟩ | ⟨m, l, rfl, rfl, hn⟩
    · exact hx
    · obtain ⟨m, c, h1, h2⟩ := hx
      exact ⟨m, c, e.trans h1, h2⟩
    · obtain ⟨m, c, h1, h2⟩ := hx
      exact ⟨m, c, e.trans h1, h2⟩
  refine AC.law (R := fun n => if n = 0 then R 0 else if n = 1 then R1 0 else none) key (.cons (tr _ rfl) (.cons (hx1 _ rfl) .nil)) (rep_two hr hr1 m0 n0 m1 n1) ?_
  intro k l hk
  rcases k with _ | _ | k <;> simp at hk
  · exact m0 l hk
  · exact n0 l hk
end Go.Proofs.YtgglclmilocgcaaGreatDoor.Md
