/- The book's Within: a number that lies between. -/
import Derived.Test.YtfkjjaimilkfcaaMp
set_option linter.unusedVariables false
set_option linter.unusedSimpArgs false
namespace Go.Proofs.Ytfkjjaimilkfcaa.Wi
open Go.RowKit
/-- A number of 0 .. hi. -/
def Upto (hi : Nat) (w : World) (e : Ending) (w' : World) : Prop := ∃ k : Nat, k ≤ hi ∧ e = .returned (.int .i64 k) ∧ w = w'
theorem tmod_in (n : Int) (hi : Nat) : -((hi : Int)) ≤ Int.tmod n ((hi : Int) + 1) ∧ Int.tmod n ((hi : Int) + 1) ≤ hi := by
  have h1 := Int.tmod_lt_of_pos n (show (0 : Int) < (hi : Int) + 1 by omega)
  have h2 := Int.lt_tmod_of_pos n (show (0 : Int) < (hi : Int) + 1 by omega)
  omega
theorem upto_of {hi : Nat} {w : World} (m : Int) (h0 : 0 ≤ m) (h1 : m ≤ hi) : Upto hi w (.returned (.int .i64 m)) w := by
  obtain ⟨k, rfl⟩ := Int.eq_ofNat_of_zero_le h0
  exact ⟨k, by omega, rfl, rfl⟩
theorem cWithin (n : Int) (hi : Nat) (hh : hi < 2147483648) (hn : -9223372036854775808 ≤ n ∧ n ≤ 9223372036854775807) (w : World) : Calls Try.prog 9 #[.int .i64 n, .int .i64 0, .int .i64 hi] w (Upto hi w) := by
  obtain ⟨n0, n1⟩ := hn
  by_cases h0 : 0 ≤ n
  · by_cases h1 : n ≤ hi
    · go_enter Try.func9, Try.ntmps9
      go_wp2
      go_ret
      exact upto_of n h0 h1
    · obtain ⟨m, hm, m0, m1⟩ : ∃ m : Int, n % ((hi : Int) + 1) = m ∧ 0 ≤ m ∧ m ≤ hi :=
        ⟨_, rfl, Int.emod_nonneg _ (by omega), by have := Int.emod_lt_of_pos n (show (0 : Int) < (hi : Int) + 1 by omega); omega⟩
      go_enter Try.func9, Try.ntmps9
      go_wp2
      go_ret
      exact upto_of m m0 m1
  · obtain ⟨m, hm, m0, m1⟩ : ∃ m : Int, Int.tmod n ((hi : Int) + 1) = m ∧ -(hi : Int) ≤ m ∧ m ≤ hi := ⟨_, rfl, tmod_in n hi⟩
    by_cases h2 : m < 0
    · go_enter Try.func9, Try.ntmps9
      go_wp2
      go_ret
      exact upto_of _ (by omega) (by omega)
    · have h3 : 0 ≤ m := by omega
      go_enter Try.func9, Try.ntmps9
      go_wp2
      go_ret
      exact upto_of _ (by omega) (by omega)
end Go.Proofs.Ytfkjjaimilkfcaa.Wi
