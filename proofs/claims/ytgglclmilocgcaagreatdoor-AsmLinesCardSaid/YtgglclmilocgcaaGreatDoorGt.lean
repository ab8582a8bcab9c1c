/- What the assembler's rows list of package variables: the engine's tables lie where they lie. -/
import Derived.Test.YtgglclmilocgcaaGreatDoorWb
import Derived.Test.YtgglclmilocgcaaGreatDoorRows
import Derived.Lib.LaidTab
import Derived.Lib.ItoaNum
import Derived.LaidMore
import Derived.MakeChecks
import Derived.ProofKit
import Derived.Shelf.Vars
import Derived.Stop.LaidErr
import Derived.Stop.Joined
import Derived.Deep.DeepHandedRow
set_option linter.unusedVariables false
set_option linter.unusedSimpArgs false
namespace Go.Proofs.YtgglclmilocgcaaGreatDoor.Md
open Go.RowKit Go.Proofs.YtgglclmilocgcaaGreatDoor.Ae Go.Proofs.YtgglclmilocgcaaGreatDoor.Bv Go.Proofs.YtgglclmilocgcaaGreatDoor
/-- What the rows list. -/
def laid7 : List (String × DataW Unit) := [("math/bits.deBruijn32tab", Rows.laid_math_bits_deBruijn32tab), ("math/bits.deBruijn64tab", Rows.laid_math_bits_deBruijn64tab), ("internal/strconv.uint64pow10", Rows.laid_internal_strconv_uint64pow10), ("unicode/utf8.acceptRanges", Rows.laid_unicode_utf8_acceptRanges), ("strconv.ErrRange", Rows.laid_strconv_ErrRange), ("strconv.ErrSyntax", Rows.laid_strconv_ErrSyntax), ("unicode/utf8.first", Rows.laid_unicode_utf8_first)]
theorem star : "*" ++ "errors.errorString" = "*errors.errorString" := by decide
theorem rowErr (u : TypeId) (h : Tryz.prog.typeName? 3 u = some "*errors.errorString") : u = 138 :=
  typeName_ptr_named (nm := "errors.errorString") (by rw [star]; kernel_rfl) (by kernel_rfl) (by decide) u (by rw [star]; exact h)
theorem cell_of_var {W : World} {n : String} {g : Nat} {cs : Array Value} (hg : Tryz.prog.globalNamed n = some g) (hv : W.var? Tryz.prog n = some cs) : ∃ ty fr, W.heap[g]? = some (.cells cs ty fr) := by
  unfold World.var? at hv
  rw [hg] at hv
  simp only [Option.bind] at hv
  split at hv
  · rename_i c ty fr hc
    injection hv with hv
    subst hv
    exact ⟨ty, fr, hc⟩
  · cases hv
theorem laidSen {n : String} {text : List UInt8} {r : List (String × DataW Unit)} {W : World} {g : Nat}
    (h : laidMet Tryz.prog ((n, .iface "*errors.errorString" (.ptr (.agg [.lit (.string text)]))) :: r) W)
    (hg : Tryz.prog.globalNamed n = some g) (ht : (Tryz.prog.globals[g]?).map (·.type) = some 56) : ∃ tp p ty fr, W.heap[g]? = some (.cells #[.iface tp p] ty fr) := by
  obtain ⟨a, s, hv, _⟩ := laid_sentinel h hg ht Tryz.underlying56 rowErr Tryz.underlying138 Tryz.underlying140 rfl rfl Tryz.underlying9 (by kernel_rfl) (by kernel_rfl)
  obtain ⟨ty, fr, hc⟩ := cell_of_var hg hv
  exact ⟨_, _, ty, fr, hc⟩
theorem laidGT {W : World} (h : laidMetH Tryz.prog laid7 W) (hsh : W.ShapedOpen Tryz.prog) : GTw W := by
  rw [MakeChecks.laidMetH_plain _ _ _ (by kernel_rfl)] at h
  have h2 := h.tail.tail
  have h4 := h2.tail.tail
  have h5 := h4.tail
  obtain ⟨ps, ⟨g, t, cs, f, p, q, hg, ht, hv, hd, _, _⟩, _⟩ := h2
  obtain rfl := Option.some.inj ((show Tryz.prog.globalNamed "internal/strconv.uint64pow10" = some 0 by kernel_rfl).symm.trans hg)
  obtain rfl := Option.some.inj ((show (Tryz.prog.globals[0]?).map (·.type) = some 123 by kernel_rfl).symm.trans ht)
  have e : cs.toList = Lib.pow10Tab.map fun z => Value.int .u64 z :=
    Lib.cells_of_tab (zs := Lib.pow10Tab) Tryz.underlying123 Tryz.underlying54 (by kernel_rfl) (by kernel_rfl) hd
  obtain ⟨ty0, fr0, c0⟩ := cell_of_var hg hv
  obtain ⟨m, hm⟩ := Go.Proofs.cell_of_shapedOpen_int (P := Tryz.prog) (g := 1) (t := 3) (zero := #[.int .i64 0]) hsh (of_decide_eq_true (by kernel_rfl)) (by kernel_rfl) rfl (by kernel_rfl) (by kernel_rfl) Tryz.underlying3
  obtain ⟨tp3, p3, ty3, fr3, c3⟩ := laidSen h4 (show Tryz.prog.globalNamed "strconv.ErrRange" = some 3 by kernel_rfl) (by kernel_rfl)
  obtain ⟨tp2, p2, ty2, fr2, c2⟩ := laidSen h5 (show Tryz.prog.globalNamed "strconv.ErrSyntax" = some 2 by kernel_rfl) (by kernel_rfl)
  obtain ⟨cs1, hh1, hs1, _⟩ := hsh.1 1 #[.int .i64 0] 3 (of_decide_eq_true (by kernel_rfl)) (by kernel_rfl)
  intro x hx
  simp only [GT, List.mem_cons, List.not_mem_nil, or_false] at hx
  rcases hx with rfl | rfl | rfl | rfl
  · refine ⟨cs, ty0, fr0, c0, ?_⟩
    show cs = _
    rw [← Array.toArray_toList (xs := cs), e]; rfl
  · refine ⟨cs1, _, _, hh1, m, ?_⟩
    have h1 : cs1.size = 1 := by simpa using hs1
    have hc : W.cell? ⟨1, 0, none⟩ = some cs1[0] := by simp [World.cell?, hh1, h1]
    rw [hc] at hm
    injection hm with hm
    apply Array.ext
    · simp [h1]
    · intro i a b
      obtain rfl : i = 0 := by omega
      simpa using hm
  · exact ⟨_, ty2, fr2, c2, tp2, p2, rfl⟩
  · exact ⟨_, ty3, fr3, c3, tp3, p3, rfl⟩
end Go.Proofs.YtgglclmilocgcaaGreatDoor.Md
