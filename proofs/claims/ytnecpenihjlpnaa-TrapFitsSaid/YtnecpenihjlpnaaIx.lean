/- The contracts of package trap's Index and of its reference's. -/
import Derived.Test.YtnecpenihjlpnaaTr
set_option linter.unusedVariables false
set_option linter.unusedSimpArgs false
namespace Go.Proofs.Ytnecpenihjlpnaa.Al
open Go.RowKit Go.Proofs.Ytnecpenihjlpnaa.Bv
/-- A CSR's place. -/
def indexV (c : Int) : Int := if c = 773 then 0 else if c = 832 then 1 else if c = 833 then 2 else if c = 834 then 3 else if c = 835 then 4 else -1
theorem index_none (c : Int) (h : ¬ c = 773 ∧ ¬ c = 832 ∧ ¬ c = 833 ∧ ¬ c = 834 ∧ ¬ c = 835) : indexV c = -1 := by
  unfold indexV; rw [if_neg h.1, if_neg h.2.1, if_neg h.2.2.1, if_neg h.2.2.2.1, if_neg h.2.2.2.2]
theorem five {k : Nat} (h : k < 5) : k = 0 ∨ k = 1 ∨ k = 2 ∨ k = 3 ∨ k = 4 := by omega
set_option maxHeartbeats 1000000 in
theorem cIdx (c : Int) (b : Nat) (w : World) (h0 : w.cell? ⟨b, 0, none⟩ = some (.int .i64 773)) (h1 : w.cell? ⟨b, 1, none⟩ = some (.int .i64 832)) (h2 : w.cell? ⟨b, 2, none⟩ = some (.int .i64 833)) (h3 : w.cell? ⟨b, 3, none⟩ = some (.int .i64 834)) (h4 : w.cell? ⟨b, 4, none⟩ = some (.int .i64 835)) :
    Calls Try.prog 18 #[.slice (some ⟨b, 0, none⟩) 5 5, .int .i64 c] w fun e w' => e = .returned (.int .i64 (indexV c)) ∧ w = w' := by
  go_enter Try.func18, Try.ntmps18
  go_wp2_with fail
  go_loop [8] (fun v => ∃ j : Nat, j ≤ 5 ∧ ((0 < j → ¬ c = 773) ∧ (1 < j → ¬ c = 832) ∧ (2 < j → ¬ c = 833) ∧ (3 < j → ¬ c = 834) ∧ (4 < j → ¬ c = 835)) ∧ v = .int .i64 j) (fun v => 5 - (intOf v).toNat)
  case atStart => exact ⟨0, by omega, by omega, rfl⟩
  case round =>
    obtain ⟨j, hj, hn, rfl⟩ := hrel
    by_cases hlt : j < 5
    · rcases five hlt with rfl | rfl | rfl | rfl | rfl
      · by_cases hc : c = 773
        · subst hc
          go_wp2_with fail
          go_ret
          exact ⟨rfl, rfl⟩
        · have hb : (c == 773) = false := by simpa using hc
          have hb2 : ((773 : Int) == c) = false := by rw [beq_eq_false_iff_ne]; omega
          have HN := Lib.hid hn
          have HC := Lib.hid hc
          clear hn hc
          go_wp2_with fail
          go_round
          case rel => exact ⟨1, by omega, by have h1 := HN.out; have h2 := HC.out; omega, rfl⟩
          case measure => simp [intOf]
      · by_cases hc : c = 832
        · subst hc
          go_wp2_with fail
          go_ret
          exact ⟨rfl, rfl⟩
        · have hb : (c == 832) = false := by simpa using hc
          have hb2 : ((832 : Int) == c) = false := by rw [beq_eq_false_iff_ne]; omega
          have HN := Lib.hid hn
          have HC := Lib.hid hc
          clear hn hc
          go_wp2_with fail
          go_round
          case rel => exact ⟨2, by omega, by have h1 := HN.out; have h2 := HC.out; omega, rfl⟩
          case measure => simp [intOf]
      · by_cases hc : c = 833
        · subst hc
          go_wp2_with fail
          go_ret
          exact ⟨rfl, rfl⟩
        · have hb : (c == 833) = false := by simpa using hc
          have hb2 : ((833 : Int) == c) = false := by rw [beq_eq_false_iff_ne]; omega
          have HN := Lib.hid hn
          have HC := Lib.hid hc
          clear hn hc
          go_wp2_with fail
          go_round
          case rel => exact ⟨3, by omega, by have h1 := HN.out; have h2 := HC.out; omega, rfl⟩
          case measure => simp [intOf]
      · by_cases hc : c = 834
        · subst hc
          go_wp2_with fail
          go_ret
          exact ⟨rfl, rfl⟩
        · have hb : (c == 834) = false := by simpa using hc
          have hb2 : ((834 : Int) == c) = false := by rw [beq_eq_false_iff_ne]; omega
          have HN := Lib.hid hn
          have HC := Lib.hid hc
          clear hn hc
          go_wp2_with fail
          go_round
          case rel => exact ⟨4, by omega, by have h1 := HN.out; have h2 := HC.out; omega, rfl⟩
          case measure => simp [intOf]
      · by_cases hc : c = 835
        · subst hc
          go_wp2_with fail
          go_ret
          exact ⟨rfl, rfl⟩
        · have hb : (c == 835) = false := by simpa using hc
          have hb2 : ((835 : Int) == c) = false := by rw [beq_eq_false_iff_ne]; omega
          have HN := Lib.hid hn
          have HC := Lib.hid hc
          clear hn hc
          go_wp2_with fail
          go_round
          case rel => exact ⟨5, by omega, by have h1 := HN.out; have h2 := HC.out; omega, rfl⟩
          case measure => simp [intOf]
    · obtain rfl : j = 5 := by omega
      have HN := Lib.hid hn
      clear hn
      go_wp2_with fail
      go_ret
      exact ⟨ret_eq (by have h := HN.out; rw [index_none c (by omega)]), rfl⟩
set_option maxHeartbeats 1000000 in
theorem cIndex (c : Int) (w : World) : Calls Try.prog 7 #[.int .i64 c] w fun e w' => e = .returned (.int .i64 (indexV c)) ∧ Below w.heap.size w w' := by
  go_enter Try.func7, Try.ntmps7
  go_wp2_with fail
  refine (cIdx c _ _ (by simp) (by simp) (by simp) (by simp) (by simp)).mono ?_
  rintro e w' ⟨rfl, rfl⟩
  go_wp2_with fail
  go_ret
  exact ⟨rfl, (Below.refl _ _).alloc (Nat.le_refl _) _⟩
set_option maxHeartbeats 1000000 in
theorem cIndexR (c : Int) (w : World) : Calls Try.prog 8 #[.int .i64 c] w fun e w' => e = .returned (.int .i64 (indexV c)) ∧ Below w.heap.size w w' := by
  go_enter Try.func8, Try.ntmps8
  go_wp2_with fail
  go_loop [7] (fun v => ∃ j : Nat, j ≤ 5 ∧ ((0 < j → ¬ c = 773) ∧ (1 < j → ¬ c = 832) ∧ (2 < j → ¬ c = 833) ∧ (3 < j → ¬ c = 834) ∧ (4 < j → ¬ c = 835)) ∧ v = .int .i64 j) (fun v => 5 - (intOf v).toNat)
  case atStart => exact ⟨0, by omega, by omega, rfl⟩
  case round =>
    obtain ⟨j, hj, hn, rfl⟩ := hrel
    by_cases hlt : j < 5
    · rcases five hlt with rfl | rfl | rfl | rfl | rfl
      · by_cases hc : c = 773
        · subst hc
          go_wp2_with fail
          go_ret
          exact ⟨rfl, (Below.refl _ _).alloc (Nat.le_refl _) _⟩
        · have hb : (c == 773) = false := by simpa using hc
          have hb2 : ((773 : Int) == c) = false := by rw [beq_eq_false_iff_ne]; omega
          have HN := Lib.hid hn
          have HC := Lib.hid hc
          clear hn hc
          go_wp2_with fail
          go_round
          case rel => exact ⟨1, by omega, by have h1 := HN.out; have h2 := HC.out; omega, rfl⟩
          case measure => simp [intOf]
      · by_cases hc : c = 832
        · subst hc
          go_wp2_with fail
          go_ret
          exact ⟨rfl, (Below.refl _ _).alloc (Nat.le_refl _) _⟩
        · have hb : (c == 832) = false := by simpa using hc
          have hb2 : ((832 : Int) == c) = false := by rw [beq_eq_false_iff_ne]; omega
          have HN := Lib.hid hn
          have HC := Lib.hid hc
          clear hn hc
          go_wp2_with fail
          go_round
          case rel => exact ⟨2, by omega, by have h1 := HN.out; have h2 := HC.out; omega, rfl⟩
          case measure => simp [intOf]
      · by_cases hc : c = 833
        · subst hc
          go_wp2_with fail
          go_ret
          exact ⟨rfl, (Below.refl _ _).alloc (Nat.le_refl _) _⟩
        · have hb : (c == 833) = false := by simpa using hc
          have hb2 : ((833 : Int) == c) = false := by rw [beq_eq_false_iff_ne]; omega
          have HN := Lib.hid hn
          have HC := Lib.hid hc
          clear hn hc
          go_wp2_with fail
          go_round
          case rel => exact ⟨3, by omega, by have h1 := HN.out; have h2 := HC.out; omega, rfl⟩
          case measure => simp [intOf]
      · by_cases hc : c = 834
        · subst hc
          go_wp2_with fail
          go_ret
          exact ⟨rfl, (Below.refl _ _).alloc (Nat.le_refl _) _⟩
        · have hb : (c == 834) = false := by simpa using hc
          have hb2 : ((834 : Int) == c) = false := by rw [beq_eq_false_iff_ne]; omega
          have HN := Lib.hid hn
          have HC := Lib.hid hc
          clear hn hc
          go_wp2_with fail
          go_round
          case rel => exact ⟨4, by omega, by have h1 := HN.out; have h2 := HC.out; omega, rfl⟩
          case measure => simp [intOf]
      · by_cases hc : c = 835
        · subst hc
          go_wp2_with fail
          go_ret
          exact ⟨rfl, (Below.refl _ _).alloc (Nat.le_refl _) _⟩
        · have hb : (c == 835) = false := by simpa using hc
          have hb2 : ((835 : Int) == c) = false := by rw [beq_eq_false_iff_ne]; omega
          have HN := Lib.hid hn
          have HC := Lib.hid hc
          clear hn hc
          go_wp2_with fail
          go_round
          case rel => exact ⟨5, by omega, by have h1 := HN.out; have h2 := HC.out; omega, rfl⟩
          case measure => simp [intOf]
    · obtain rfl : j = 5 := by omega
      have HN := Lib.hid hn
      clear hn
      go_wp2_with fail
      go_ret
      exact ⟨ret_eq (by have h := HN.out; rw [index_none c (by omega)]), (Below.refl _ _).alloc (Nat.le_refl _) _⟩
end Go.Proofs.Ytnecpenihjlpnaa.Al
