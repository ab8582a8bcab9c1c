/- The statement GatherNumbers: the law returns true, on every schedule, without a data race; the other goroutines are over or only leaving. -/
import Derived.Test.YtpoknlbnookhjaaGo
import Derived.Test.YtpoknlbnookhjaaGn
import Derived.Test.YtpoknlbnookhjaaRows
import Derived.WalkKit
import Derived.ProofKit
import Derived.OpenShut
import Derived.ChangeOld
import Derived.Below
import Derived.SizedLaws
import Derived.Conc.LeavingOf
namespace Go.Proofs.Ytpoknlbnookhjaa.gatherNumbers
open Go.ChangeShapes Go.WideShapes Go.ChangeAt Go.RowKit
open Go.Conc (G solo)
set_option linter.unusedVariables false
theorem own : ownKnob Try.prog.godebug = none := by kernel_rfl
theorem laidOut : laidOutB Try.prog = true := by kernel_rfl
theorem noInit : Try.prog.inits.idxOf? 3 = none := by kernel_rfl
set_option maxRecDepth 100000 in
theorem lifted (os : Os) (started : os.Started) (H : Type) (enc : TypeId × Value → H) :
    ReturnsInLeavingWide {} Try.checked os 3 .any (Rows.gatherNumbersSpec.pre6 enc Try.prog Try.f3 Rows.gatherNumbersRow.domain false) (Rows.gatherNumbersSpec.post enc Try.prog Try.f3 false true false false) := by
  refine returnsInLeavingWide_of_change_sized (C := Try.checked) own started Try.func3
    (ChangeSpec.witness6 (enc := enc) (C := Try.checked) false ⟨#[], #[], []⟩ 8 (by kernel_rfl) (by kernel_rfl) (by kernel_rfl) (by kernel_rfl)) ?_
  intro W base args ds gs before hval0 hW hcnd hsz0 _
  have hval : ∀ (j : Nat) t v, Try.f3.params[j]? = some t → args[j]? = some v → Value.okWide Try.prog W .any base t v := hval0
  have hW' := hW
  obtain ⟨p, q, hA0, hV, rfl, hfz, hnd⟩ := hW
  have hA : DataW.TrodAll enc Try.prog W 0 (fun _ => true) true Try.f3.params.toList args.toList ds p := hA0
  rw [Try.params3] at hA hval
  obtain ⟨hargs, rfl, rfl⟩ := trodAll_nil hA
  obtain rfl : args = #[] := by cases args; simp_all
  obtain ⟨rfl, rfl⟩ := trodVars_none hV
  clear hA0 hval0 hsz0
  have hc := ((Md.numbersA []).mono fun v H' h => h.1).law (R := fun _ => none) (w := W) (xs := []) .nil (Go.Proofs.Ytpoknlbnookhjaa.Ae.Rep.none W (fun x hx => by cases hx)) (fun n l h => by simp at h)
  refine hc.good noInit ?_
  rintro v w' d ⟨rfl, bel0⟩
  have bel : Below W.heap.size W (w'.at d) := ⟨bel0.os, bel0.tape, bel0.output, bel0.size, bel0.block⟩
  exact ⟨_, _, _, [], _, [], hW', trodAll_mk1 (shut_bool Try.underlying4 _), trodAll_mk0, rfl, bel.frame _, fun h => by cases h⟩
theorem over : Rows.GatherNumbersSaid :=
  OpenClaim.holds_of_wide_leaving 3 Try.f3 rfl rfl rfl rfl rfl rfl rfl ⟨rfl, rfl, rfl, rfl, rfl⟩ rfl rfl rfl rfl rfl (by kernel_rfl) Try.func3 (by kernel_rfl)
    (of_decide_eq_true (by kernel_rfl)) (by unfold Func.isWrapper; first | (rw [if_pos (by decide +kernel)]; kernel_rfl) | (rw [if_neg (by decide +kernel)]; exact ⟨rfl, rfl⟩))
    (fun os started H enc _ => lifted os started H enc)
end Go.Proofs.Ytpoknlbnookhjaa.gatherNumbers
namespace Go.Proofs.Ytpoknlbnookhjaa
/-- The row, under a short name, for the claim. -/
theorem gatherNumbers_holds : Rows.GatherNumbersSaid := gatherNumbers.over
end Go.Proofs.Ytpoknlbnookhjaa
#print axioms Go.Proofs.Ytpoknlbnookhjaa.gatherNumbers_holds
