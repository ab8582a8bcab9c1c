/- What a row's listed variables give: the engine's tables lie where they lie. -/
import Derived.Test.YtjfbpnfegeimfaaDoorOp
import Derived.Test.YtjfbpnfegeimfaaDoorRows
import Derived.Lib.LaidTab
import Derived.Lib.ItoaNum
import Derived.LaidMore
import Derived.ProofKit
import Derived.Deep.DeepHandedRow
set_option linter.unusedVariables false
set_option linter.unusedSimpArgs false
namespace Go.Proofs.YtjfbpnfegeimfaaDoor.Md
open Go.RowKit Go.Proofs.YtjfbpnfegeimfaaDoor.Ae Go.Proofs.YtjfbpnfegeimfaaDoor.Bv Go.Proofs.YtjfbpnfegeimfaaDoor
/-- What the rows list. -/
def laid3 : List (String × DataW Unit) := [("math/bits.deBruijn32tab", Rows.laid_math_bits_deBruijn32tab), ("math/bits.deBruijn64tab", Rows.laid_math_bits_deBruijn64tab), ("internal/strconv.uint64pow10", Rows.laid_internal_strconv_uint64pow10)]
theorem laidGT {W : World} (h : laidMetH Tryd.prog laid3 W) : GTw W := by
  have h : laidMet Tryd.prog laid3 W := h
  obtain ⟨ps, ⟨_, _, _, _, _, _, _, _, _, _, ⟨_, _, _, _, _, _, _, _, _, _, ⟨g, t, cs, f, p, q, hg, ht, hv, hd, _, _⟩, _⟩, _⟩, _⟩ := h
  obtain rfl := Option.some.inj ((show Tryd.prog.globalNamed "internal/strconv.uint64pow10" = some 0 by kernel_rfl).symm.trans hg)
  obtain rfl := Option.some.inj ((show (Tryd.prog.globals[0]?).map (·.type) = some 87 by kernel_rfl).symm.trans ht)
  have e : cs.toList = Lib.pow10Tab.map fun z => Value.int .u64 z :=
    Lib.cells_of_tab (zs := Lib.pow10Tab) Tryd.underlying87 Tryd.underlying79 (by kernel_rfl) (by kernel_rfl) hd
  intro x hx
  obtain rfl := List.mem_singleton.1 hx
  unfold World.var? at hv
  rw [hg] at hv
  simp only [Option.bind] at hv
  split at hv
  · rename_i c ty fr hc
    injection hv with hv
    subst hv
    refine ⟨ty, fr, ?_⟩
    have e2 : c = #[.int .u64 1, .int .u64 10, .int .u64 100, .int .u64 1000, .int .u64 10000, .int .u64 100000, .int .u64 1000000, .int .u64 10000000, .int .u64 100000000, .int .u64 1000000000, .int .u64 10000000000, .int .u64 100000000000, .int .u64 1000000000000, .int .u64 10000000000000, .int .u64 100000000000000, .int .u64 1000000000000000, .int .u64 10000000000000000, .int .u64 100000000000000000, .int .u64 1000000000000000000, .int .u64 10000000000000000000] := by
      rw [← Array.toArray_toList (xs := c), e]; rfl
    rw [← e2]; exact hc
  · cases hv
end Go.Proofs.YtjfbpnfegeimfaaDoor.Md
