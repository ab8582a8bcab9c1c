/- The law GateBytes, for the slice that came in. -/
import Derived.Test.YtfkjjaimilkfcaaGb
set_option linter.unusedVariables false
set_option linter.unusedSimpArgs false
namespace Go.Proofs.Ytfkjjaimilkfcaa.Gt
open Go.RowKit Go.Proofs.Ytfkjjaimilkfcaa.Bv
theorem bytes_walk {H : Type} {enc : TypeId × Value → H} {W0 : World} {base : Nat} {spare : Nat → Bool} {held : Bool} {a : Option Addr} {n c : Nat} {d : DataW H} {p : List MemPlace}
    (h : DataW.Trod enc Try.prog W0 base spare held 22 (.slice a n c) d p) (x : Int) (w : World) (hx : (Lit.int .u32 x).wf = true) (e0 : w = W0 := by rfl) :
    Calls Try.prog 4 #[.slice a n c, .int .u32 x] w fun e w' => e = .returned (.bool true) ∧ Below w.heap.size w w' := by
  subst e0
  obtain ⟨fuel, hf⟩ := h
  obtain ⟨ad, c', L, hv, hl, hm, hA, hwf⟩ := open_rets hf ⟨a, n, c, rfl⟩
  injection hv with h1 h2 h3
  subst h1 h2 h3
  obtain ⟨m, rfl, hm32⟩ := wf_u32 hx
  have hm2 : L.length ≤ 9223372036854775807 := by unfold maxLen at hm; omega
  exact bytes_calls a c L m hm32 w hA hwf hm2
end Go.Proofs.Ytfkjjaimilkfcaa.Gt
