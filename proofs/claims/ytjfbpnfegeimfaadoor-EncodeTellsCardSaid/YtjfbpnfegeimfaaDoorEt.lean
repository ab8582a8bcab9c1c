/- EncodeTells. -/
import Derived.Test.YtjfbpnfegeimfaaDoorLw
set_option linter.unusedVariables false
set_option linter.unusedSimpArgs false
namespace Go.Proofs.YtjfbpnfegeimfaaDoor.Md
open Go.RowKit Go.Proofs.YtjfbpnfegeimfaaDoor.Ae Go.Proofs.YtjfbpnfegeimfaaDoor.Bv Go.Proofs.YtjfbpnfegeimfaaDoor
theorem box_tape (tv : V) (b0 : Blk) (ht : tapeOk tv b0) (op rd r1 r2 im : Int) : AC Tryd.prog 4 [.v tv, .agg (inst op rd r1 r2 im)] [b0] (fun v _ => v = bo true) := by
  refine AC.of_body dok Tryd.func4 rfl rfl (Nat.le_of_ble_eq_true rfl) ?_
  conv => whnf
  refine (instZ tv b0 ht _ 2 (by decide) (Nat.le_of_ble_eq_true rfl) rfl rfl).mono ?_
  rintro v H' ⟨t, k, hv, rfl, rfl⟩
  obtain ⟨a, b, c, d, e⟩ := t
  conv => whnf
  refine (same1 a b c d e _).mono ?_
  rintro v H' ⟨rfl, rfl⟩
  conv => whnf
  refine (same1 op rd r1 r2 im _).mono ?_
  rintro v H' ⟨rfl, rfl⟩
  conv => whnf
  refine (same1 a b c d im _).mono ?_
  rintro v H' ⟨rfl, rfl⟩
  conv => whnf
  refine (same1 a b c r2 e _).mono ?_
  rintro v H' ⟨rfl, rfl⟩
  conv => whnf
  refine (known1 _).mono ?_
  rintro v H' ⟨rfl, rfl⟩
  conv => whnf
theorem ro_tape {tv : V} {b0 : Blk} (ht : tapeOk tv b0) : ∀ (n : Nat) (l : List Seg), ([b0] : Hp)[n]? ≠ some (Blk.rw l) := by
  intro k l hk
  rcases ht with ⟨_, rfl⟩ | ⟨_, rfl⟩ | ⟨n, l, _, rfl, _⟩ <;> cases k <;> simp at hk
theorem walkTells {K : Type} {enc : TypeId × Value → K} {W0 : World} {base b2 b3 : Nat} {spare : Nat → Bool} {held : Bool} {x : Option Addr} {n c : Nat} {d : DataW K} {p : List MemPlace} (h1 : DataW.Trod enc Tryd.prog W0 base spare held 29 (.slice x n c) d p) (v1 : Value.okWide Tryd.prog W0 .any b2 29 (.slice x n c))
    {v : Value} {d' : DataW K} {p' : List MemPlace} (h2 : DataW.Trod enc Tryd.prog W0 base spare held 27 v d' p') (v2 : Value.okWide Tryd.prog W0 .any b3 27 v) (w : World) (gt : GTw w) (e0 : w = W0 := by rfl) :
    Calls Tryd.prog 4 #[.slice x n c, v] w fun e w' => e = .returned (.bool true) ∧ Below w.heap.size w w' := by
  subst e0
  obtain ⟨tv, b0, R, ht, hr, hx⟩ := openTape gt h1 v1
  obtain ⟨op, rd, r1, r2, im, rfl⟩ := openInst h2 v2
  exact AC.law (box_tape tv b0 ht op rd r1 r2 im) (.cons hx (.cons ⟨fun s hs => by simp at hs; rcases hs with rfl | rfl | rfl | rfl | rfl <;> trivial, _, .cons rfl (.cons rfl (.cons rfl (.cons rfl (.cons rfl .nil)))), rfl⟩ .nil)) hr (ro_tape ht)
end Go.Proofs.YtjfbpnfegeimfaaDoor.Md
