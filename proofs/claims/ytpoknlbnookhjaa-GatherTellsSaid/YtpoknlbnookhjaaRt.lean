/- The statement GatherTells: for every input the law returns true, on every schedule, without a data race; the other goroutines are over or only leaving; each argument reads behind the call as it read before. -/
import Derived.Test.YtpoknlbnookhjaaGt
import Derived.Test.YtpoknlbnookhjaaGn
import Derived.Test.YtpoknlbnookhjaaRows
import Derived.WalkKit
import Derived.ProofKit
import Derived.OpenShut
import Derived.ChangeOld
import Derived.Below
import Derived.SizedLaws
import Derived.Conc.LeavingOf
namespace Go.Proofs.Ytpoknlbnookhjaa.gatherTells
open Go.ChangeShapes Go.WideShapes Go.ChangeAt Go.RowKit
open Go.Conc (G solo)
set_option linter.unusedVariables false
theorem own : ownKnob Try.prog.godebug = none := by kernel_rfl
theorem laidOut : laidOutB Try.prog = true := by kernel_rfl
theorem noInit : Try.prog.inits.idxOf? 4 = none := by kernel_rfl
set_option maxRecDepth 100000 in
theorem lifted (os : Os) (started : os.Started) (H : Type) (enc : TypeId × Value → H) :
    ReturnsInLeavingWide {} Try.checked os 4 .any (Rows.gatherTellsSpec.pre6 enc Try.prog Try.f4 Rows.gatherTellsRow.domain false) (Rows.gatherTellsSpec.post enc Try.prog Try.f4 false true false false) := by
  refine returnsInLeavingWide_of_change_sized (C := Try.checked) own started Try.func4
    (ChangeSpec.witness6 (enc := enc) (C := Try.checked) false ⟨#[], #[.slice none 0 0, .slice none 0 0, .int .i64 0], []⟩ 8 (by kernel_rfl) (by kernel_rfl) (by kernel_rfl) (by kernel_rfl)) ?_
  intro W base args ds gs before hval0 hW hcnd hsz0 _
  have hval : ∀ (j : Nat) t v, Try.f4.params[j]? = some t → args[j]? = some v → Value.okWide Try.prog W .any base t v := hval0
  have hW' := hW
  obtain ⟨p, q, hA0, hV, rfl, hfz, hnd⟩ := hW
  have hA : DataW.TrodAll enc Try.prog W 0 (fun _ => true) true Try.f4.params.toList args.toList ds p := hA0
  rw [Try.params4] at hA hval
  obtain ⟨v0, vs0, d0, ds0, p0, q0, hargs, rfl, rfl, h0, r0⟩ := trodAll_cons hA
  obtain ⟨v1, vs1, d1, ds1, p1, q1, rfl, rfl, rfl, h1, r1⟩ := trodAll_cons r0
  obtain ⟨v2, vs2, d2, ds2, p2, q2, rfl, rfl, rfl, h2, r2⟩ := trodAll_cons r1
  obtain ⟨rfl, rfl, rfl⟩ := trodAll_nil r2
  obtain rfl : args = #[v0, v1, v2] := by cases args; simp_all
  obtain ⟨rfl, rfl⟩ := trodVars_none hV
  obtain ⟨x0, n0, c0, rfl⟩ := okWide_slice Try.underlying22 (hval 0 22 v0 rfl rfl)
  have l0 : ∀ x ∈ p0, x.block < W.heap.size := fun x hx => by simpa using hW'.lt x (by simp [hx])
  obtain ⟨x1, n1, c1, rfl⟩ := okWide_slice Try.underlying22 (hval 1 22 v1 rfl rfl)
  have l1 : ∀ x ∈ p1, x.block < W.heap.size := fun x hx => by simpa using hW'.lt x (by simp [hx])
  obtain ⟨a2, rfl, rfl, rfl, w2⟩ := open_int Try.underlying3 (hval 2 3 v2 rfl rfl) h2
  clear hA0 hval0 hsz0
  obtain ⟨k0, u0, A0, s0, g0⟩ := Md.openRow h0 (hval 0 22 _ rfl rfl)
  obtain ⟨k1, u1, A1, s1, g1⟩ := Md.openRow h1 (hval 1 22 _ rfl rfl)
  have hc := ((Md.tellsA (H := [k0, k1]) (n := a2) ((g0.form 0).row rfl) ((g1.form 1).row rfl)).mono fun v H' h => h.1).law (xs := [.slice x0 n0 c0, .slice x1 n1 c1, .int .i64 a2]) (.cons (g0.rel (Md.ren2 s0 s1) 0 rfl) (.cons (g1.rel (Md.ren2 s0 s1) 1 rfl) (.cons rfl .nil))) (Md.rep2 g0 g1) (Md.ro2 g0 g1)
  refine hc.good noInit ?_
  rintro v w' d ⟨rfl, bel0⟩
  have bel : Below W.heap.size W (w'.at d) := ⟨bel0.os, bel0.tape, bel0.output, bel0.size, bel0.block⟩
  exact ⟨_, _, _, [], _, [], hW', trodAll_mk1 (shut_bool Try.underlying4 _), (trodAll_cons_mk (Below.trod laidOut (by kernel_rfl) (of_decide_eq_true (by kernel_rfl)) h0 bel l0) (trodAll_cons_mk (Below.trod laidOut (by kernel_rfl) (of_decide_eq_true (by kernel_rfl)) h1 bel l1) (trodAll_cons_mk (shut_int Try.underlying3 w2) trodAll_mk0))), rfl, bel.frame _, fun h => by cases h⟩
theorem over : Rows.GatherTellsSaid :=
  OpenClaim.holds_of_wide_leaving 4 Try.f4 rfl rfl rfl rfl rfl rfl rfl ⟨rfl, rfl, rfl, rfl, rfl⟩ rfl rfl rfl rfl rfl (by kernel_rfl) Try.func4 (by kernel_rfl)
    (of_decide_eq_true (by kernel_rfl)) (by unfold Func.isWrapper; first | (rw [if_pos (by decide +kernel)]; kernel_rfl) | (rw [if_neg (by decide +kernel)]; exact ⟨rfl, rfl⟩))
    (fun os started H enc _ => lifted os started H enc)
end Go.Proofs.Ytpoknlbnookhjaa.gatherTells
namespace Go.Proofs.Ytpoknlbnookhjaa
/-- The row, under a short name, for the claim. -/
theorem gatherTells_holds : Rows.GatherTellsSaid := gatherTells.over
end Go.Proofs.Ytpoknlbnookhjaa
#print axioms Go.Proofs.Ytpoknlbnookhjaa.gatherTells_holds
