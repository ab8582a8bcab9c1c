/- The law GateOrder, for the slice that came in. -/
import Derived.Test.YtfkjjaimilkfcaaOpe
set_option linter.unusedVariables false
set_option linter.unusedSimpArgs false
namespace Go.Proofs.Ytfkjjaimilkfcaa.Gt
open Go.RowKit Go.Proofs.Ytfkjjaimilkfcaa.Bv
theorem order_walk {H : Type} {enc : TypeId × Value → H} {W0 : World} {base : Nat} {spare : Nat → Bool} {held : Bool} {a : Option Addr} {n c : Nat} {d : DataW H} {p : List MemPlace}
    (h : DataW.Trod enc Try.prog W0 base spare held 22 (.slice a n c) d p) (bad : Int) (w : World) (hw : (Lit.int .i64 bad).wf = true) (e0 : w = W0 := by rfl) :
    Calls Try.prog 3 #[.slice a n c, .int .i64 bad] w fun e w' => e = .returned (.bool true) ∧ Below w.heap.size w w' := by
  subst e0
  obtain ⟨fuel, hf⟩ := h
  obtain ⟨ad, c', L, hv, hl, hm, hA, hwf⟩ := open_rets hf ⟨a, n, c, rfl⟩
  injection hv with h1 h2 h3
  subst h1 h2 h3
  have hb := wf_i64 hw
  have hok : ∀ r ∈ L, r.ok := fun r hr => ⟨(hwf r hr).value, (hwf r hr).data⟩
  have hm2 : L.length ≤ 9223372036854775807 := by unfold maxLen at hm; omega
  by_cases h16 : L.length < 17
  · exact order_few a c L bad hb w hA hok hm2 h16
  · exact order_many a c L bad hb w hA hok hm2 (by omega)
end Go.Proofs.Ytfkjjaimilkfcaa.Gt
