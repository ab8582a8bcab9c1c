/- DecodeTells: words are decoded as the document says. -/
import Derived.Test.YtjhnolnnkebfhaaTq
import Derived.Test.YtjhnolnnkebfhaaRe
import Derived.Test.YtjhnolnnkebfhaaKd
import Derived.Test.YtjhnolnnkebfhaaOp
set_option linter.unusedVariables false
set_option linter.unusedSimpArgs false
namespace Go.Proofs.Ytjhnolnnkebfhaa.Md
open Go.RowKit Go.Proofs.Ytjhnolnnkebfhaa.Ae Go.Proofs.Ytjhnolnnkebfhaa.Bv Go.Proofs.Ytjhnolnnkebfhaa
theorem sameI (z : Int) (h : 0 ≤ z ∧ z < 4294967296) (H : Hp) : AC Try.prog 10 [u32 z] H (RetH H (bo true)) := by
  obtain ⟨x, rfl, hx⟩ := as_u32 h
  exact same1 x hx H
theorem tells0 (w : Nat) (hw : w < 4294967296) (tv : V) (b0 : Blk) (ht : tapeOk tv b0) (op rd r1 r2 im : Int) : AC Try.prog 5 [u32 w, .v tv, .agg (inst op rd r1 r2 im)] [b0] (fun v _ => v = bo true) := by
  refine AC.of_body dok Try.func5 rfl rfl (Nat.le_of_ble_eq_true rfl) ?_
  conv => whnf
  refine (instZ tv b0 ht _ 2 (by decide) (Nat.le_of_ble_eq_true rfl) rfl rfl).mono ?_
  rintro v H' ⟨t, k, hv, rfl, rfl⟩
  obtain ⟨a, b, c, d, e⟩ := t
  conv => whnf
  refine (renc1 a b c d e _).mono ?_
  rintro v H' ⟨⟨x, bb, hx, rfl⟩, rfl⟩
  conv => whnf
  refine (same1 w hw _).mono ?_
  rintro v H' ⟨rfl, rfl⟩
  conv => whnf
  iterate 5
    refine (sameI _ (range32 _ _ _) _).mono ?_
    rintro v H' ⟨rfl, rfl⟩
    conv => whnf
  refine (same1 x hx _).mono ?_
  rintro v H' ⟨rfl, rfl⟩
  conv => whnf
  refine (judged1 _ _ _ _ _ _).mono ?_
  rintro v H' ⟨rfl, rfl⟩
  conv => whnf
  refine (judged1 _ _ _ _ _ _).mono ?_
  rintro v H' ⟨rfl, rfl⟩
  conv => whnf
  refine (known1 _).mono ?_
  rintro v H' ⟨rfl, rfl⟩
  conv => whnf
theorem walkTells {K : Type} {enc : TypeId × Value → K} {W0 : World} {base b2 b3 : Nat} {spare : Nat → Bool} {held : Bool} (a : Int) {x : Option Addr} {n c : Nat} {d : DataW K} {p : List MemPlace} (h1 : DataW.Trod enc Try.prog W0 base spare held 33 (.slice x n c) d p) (v1 : Value.okWide Try.prog W0 .any b2 33 (.slice x n c))
    {v : Value} {d' : DataW K} {p' : List MemPlace} (h2 : DataW.Trod enc Try.prog W0 base spare held 24 v d' p') (v2 : Value.okWide Try.prog W0 .any b3 24 v) (w : World) (wa : (Lit.int .u32 a).wf = true) (e0 : w = W0 := by rfl) :
    Calls Try.prog 5 #[.int .u32 a, .slice x n c, v] w fun e w' => e = .returned (.bool true) ∧ Below w.heap.size w w' := by
  subst e0
  obtain ⟨m, rfl, hm⟩ := wf_u32 wa
  obtain ⟨tv, b0, R, ht, hr, hx⟩ := openTape h1 v1
  obtain ⟨op, rd, r1, r2, im, rfl⟩ := openInst h2 v2
  refine AC.law (tells0 m hm tv b0 ht op rd r1 r2 im) (.cons rfl (.cons hx (.cons ⟨fun s hs => by simp at hs; rcases hs with rfl | rfl | rfl | rfl | rfl <;> trivial, _, .cons rfl (.cons rfl (.cons rfl (.cons rfl (.cons rfl .nil)))), rfl⟩ .nil))) hr ?_
  intro k l hk
  rcases ht with ⟨_, rfl⟩ | ⟨_, rfl⟩ | ⟨n, l, _, rfl, _⟩ <;> cases k <;> simp at hk
end Go.Proofs.Ytjhnolnnkebfhaa.Md
