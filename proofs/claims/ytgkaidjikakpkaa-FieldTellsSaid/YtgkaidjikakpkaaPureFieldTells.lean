/- For any word and any two numbers the parts that package field takes are those that the reference takes: the pure statement of FieldTells. -/
import Derived.Test.YtgkaidjikakpkaaPFieldTellsx2
import Derived.Test.YtgkaidjikakpkaaFld
set_option linter.unusedVariables false
set_option linter.unusedSimpArgs false
namespace Go.Proofs.Ytgkaidjikakpkaa.Pure
open Go.RowKit Go.Proofs.Ytgkaidjikakpkaa.PFieldTells Go.Proofs.YtgkaidjikakpkaaW.PrintWords Go.Proofs.YtgkaidjikakpkaaW.PrintLast

theorem FieldTells : dioscurilaw4_FieldTells.Pure := by
  intro w a n hw _ _
  obtain ⟨v, rfl, hv⟩ := Bv.wf_u32 hw
  refine ⟨34, ?_⟩
  unfold dioscurilaw4_FieldTells.f
  rw [Fld.same 34 (by decide) v hv, Option.bind_some, if_pos rfl, Fld.same 34 (by decide) v hv, Option.bind_some, if_pos rfl, Fld.known]
  rfl
end Go.Proofs.Ytgkaidjikakpkaa.Pure
