/- The contract of package alu's Do, op by op. -/
import Derived.Test.YtmffkkanecpchaaDoA
set_option linter.unusedVariables false
set_option linter.unusedSimpArgs false
namespace Go.Proofs.Ytmffkkanecpchaa.Alu
open Go.RowKit Go.Proofs.Ytmffkkanecpchaa.Bv
set_option maxHeartbeats 1000000 in
theorem do_28 (a b : Nat) (ha : a < 4294967296) (hb : b < 4294967296) (w : World) : Calls Try.prog 10 #[.int .i64 28, .int .u32 a, .int .u32 b] w fun e w' => e = .returned (.int .u32 (doI 28 a b)) ∧ w = w' := by
  rw [doI_28]
  go_enter Try.func10, Try.ntmps10
  go_wp2
  go_ret
  exact ⟨ret_eq (rfl), rfl⟩
set_option maxHeartbeats 1000000 in
theorem do_19 (a b : Nat) (ha : a < 4294967296) (hb : b < 4294967296) (w : World) : Calls Try.prog 10 #[.int .i64 19, .int .u32 a, .int .u32 b] w fun e w' => e = .returned (.int .u32 (doI 19 a b)) ∧ w = w' := by
  rw [doI_19]
  go_enter Try.func10, Try.ntmps10
  go_wp2
  go_ret
  exact ⟨ret_eq (rfl), rfl⟩
set_option maxHeartbeats 1000000 in
theorem do_29 (a b : Nat) (ha : a < 4294967296) (hb : b < 4294967296) (w : World) : Calls Try.prog 10 #[.int .i64 29, .int .u32 a, .int .u32 b] w fun e w' => e = .returned (.int .u32 (doI 29 a b)) ∧ w = w' := by
  rw [doI_29]
  go_enter Try.func10, Try.ntmps10
  go_wp2
  go_ret
  exact ⟨ret_eq (rfl), rfl⟩
set_option maxHeartbeats 1000000 in
theorem do_31 (a b : Nat) (ha : a < 4294967296) (hb : b < 4294967296) (w : World) : Calls Try.prog 10 #[.int .i64 31, .int .u32 a, .int .u32 b] w fun e w' => e = .returned (.int .u32 (doI 31 a b)) ∧ w = w' := by
  rw [doI_31]
  go_enter Try.func10, Try.ntmps10
  go_wp2_with (go_at_call 14; refine (cbit _ _).mono ?_; rintro e w' ⟨rfl, rfl⟩)
  go_ret
  exact ⟨ret_eq (rfl), rfl⟩
set_option maxHeartbeats 1000000 in
theorem do_20 (a b : Nat) (ha : a < 4294967296) (hb : b < 4294967296) (w : World) : Calls Try.prog 10 #[.int .i64 20, .int .u32 a, .int .u32 b] w fun e w' => e = .returned (.int .u32 (doI 20 a b)) ∧ w = w' := by
  rw [doI_20]
  go_enter Try.func10, Try.ntmps10
  go_wp2_with (go_at_call 14; refine (cbit _ _).mono ?_; rintro e w' ⟨rfl, rfl⟩)
  go_ret
  exact ⟨ret_eq (rfl), rfl⟩
set_option maxHeartbeats 1000000 in
theorem do_32 (a b : Nat) (ha : a < 4294967296) (hb : b < 4294967296) (w : World) : Calls Try.prog 10 #[.int .i64 32, .int .u32 a, .int .u32 b] w fun e w' => e = .returned (.int .u32 (doI 32 a b)) ∧ w = w' := by
  rw [doI_32]
  go_enter Try.func10, Try.ntmps10
  go_wp2_with (go_at_call 14; refine (cbit _ _).mono ?_; rintro e w' ⟨rfl, rfl⟩)
  go_ret
  exact ⟨ret_eq (by congr 1; exact decide_eq_decide.2 (by omega)), rfl⟩
set_option maxHeartbeats 1000000 in
theorem do_21 (a b : Nat) (ha : a < 4294967296) (hb : b < 4294967296) (w : World) : Calls Try.prog 10 #[.int .i64 21, .int .u32 a, .int .u32 b] w fun e w' => e = .returned (.int .u32 (doI 21 a b)) ∧ w = w' := by
  rw [doI_21]
  go_enter Try.func10, Try.ntmps10
  go_wp2_with (go_at_call 14; refine (cbit _ _).mono ?_; rintro e w' ⟨rfl, rfl⟩)
  go_ret
  exact ⟨ret_eq (by congr 1; exact decide_eq_decide.2 (by omega)), rfl⟩
set_option maxHeartbeats 1000000 in
theorem do_33 (a b : Nat) (ha : a < 4294967296) (hb : b < 4294967296) (w : World) : Calls Try.prog 10 #[.int .i64 33, .int .u32 a, .int .u32 b] w fun e w' => e = .returned (.int .u32 (doI 33 a b)) ∧ w = w' := by
  rw [doI_33]
  go_enter Try.func10, Try.ntmps10
  go_wp2
  go_ret
  exact ⟨ret_eq (rfl), rfl⟩
set_option maxHeartbeats 1000000 in
theorem do_22 (a b : Nat) (ha : a < 4294967296) (hb : b < 4294967296) (w : World) : Calls Try.prog 10 #[.int .i64 22, .int .u32 a, .int .u32 b] w fun e w' => e = .returned (.int .u32 (doI 22 a b)) ∧ w = w' := by
  rw [doI_22]
  go_enter Try.func10, Try.ntmps10
  go_wp2
  go_ret
  exact ⟨ret_eq (rfl), rfl⟩
set_option maxHeartbeats 1000000 in
theorem do_36 (a b : Nat) (ha : a < 4294967296) (hb : b < 4294967296) (w : World) : Calls Try.prog 10 #[.int .i64 36, .int .u32 a, .int .u32 b] w fun e w' => e = .returned (.int .u32 (doI 36 a b)) ∧ w = w' := by
  rw [doI_36]
  go_enter Try.func10, Try.ntmps10
  go_wp2
  go_ret
  exact ⟨ret_eq (rfl), rfl⟩
set_option maxHeartbeats 1000000 in
theorem do_23 (a b : Nat) (ha : a < 4294967296) (hb : b < 4294967296) (w : World) : Calls Try.prog 10 #[.int .i64 23, .int .u32 a, .int .u32 b] w fun e w' => e = .returned (.int .u32 (doI 23 a b)) ∧ w = w' := by
  rw [doI_23]
  go_enter Try.func10, Try.ntmps10
  go_wp2
  go_ret
  exact ⟨ret_eq (rfl), rfl⟩
set_option maxHeartbeats 1000000 in
theorem do_37 (a b : Nat) (ha : a < 4294967296) (hb : b < 4294967296) (w : World) : Calls Try.prog 10 #[.int .i64 37, .int .u32 a, .int .u32 b] w fun e w' => e = .returned (.int .u32 (doI 37 a b)) ∧ w = w' := by
  rw [doI_37]
  go_enter Try.func10, Try.ntmps10
  go_wp2
  go_ret
  exact ⟨ret_eq (rfl), rfl⟩
set_option maxHeartbeats 1000000 in
theorem do_24 (a b : Nat) (ha : a < 4294967296) (hb : b < 4294967296) (w : World) : Calls Try.prog 10 #[.int .i64 24, .int .u32 a, .int .u32 b] w fun e w' => e = .returned (.int .u32 (doI 24 a b)) ∧ w = w' := by
  rw [doI_24]
  go_enter Try.func10, Try.ntmps10
  go_wp2
  go_ret
  exact ⟨ret_eq (rfl), rfl⟩
set_option maxHeartbeats 1000000 in
theorem do_30 (a b : Nat) (ha : a < 4294967296) (hb : b < 4294967296) (w : World) : Calls Try.prog 10 #[.int .i64 30, .int .u32 a, .int .u32 b] w fun e w' => e = .returned (.int .u32 (doI 30 a b)) ∧ w = w' := by
  rw [doI_30]
  obtain ⟨s, hs, hs32, es⟩ := low5 b hb
  rw [← hs]
  have hsi : (s : Int) ≤ 32 := by omega
  clear hs
  go_enter Try.func10, Try.ntmps10
  go_wp2
  go_ret
  exact ⟨ret_eq (rfl), rfl⟩
set_option maxHeartbeats 1000000 in
theorem do_25 (a b : Nat) (ha : a < 4294967296) (hb : b < 4294967296) (w : World) : Calls Try.prog 10 #[.int .i64 25, .int .u32 a, .int .u32 b] w fun e w' => e = .returned (.int .u32 (doI 25 a b)) ∧ w = w' := by
  rw [doI_25]
  obtain ⟨s, hs, hs32, es⟩ := low5 b hb
  rw [← hs]
  have hsi : (s : Int) ≤ 32 := by omega
  clear hs
  go_enter Try.func10, Try.ntmps10
  go_wp2
  go_ret
  exact ⟨ret_eq (rfl), rfl⟩
set_option maxHeartbeats 1000000 in
theorem do_34 (a b : Nat) (ha : a < 4294967296) (hb : b < 4294967296) (w : World) : Calls Try.prog 10 #[.int .i64 34, .int .u32 a, .int .u32 b] w fun e w' => e = .returned (.int .u32 (doI 34 a b)) ∧ w = w' := by
  rw [doI_34]
  obtain ⟨s, hs, hs32, es⟩ := low5 b hb
  rw [← hs]
  have hsi : (s : Int) ≤ 32 := by omega
  clear hs
  go_enter Try.func10, Try.ntmps10
  go_wp2
  go_ret
  exact ⟨ret_eq (rfl), rfl⟩
set_option maxHeartbeats 1000000 in
theorem do_26 (a b : Nat) (ha : a < 4294967296) (hb : b < 4294967296) (w : World) : Calls Try.prog 10 #[.int .i64 26, .int .u32 a, .int .u32 b] w fun e w' => e = .returned (.int .u32 (doI 26 a b)) ∧ w = w' := by
  rw [doI_26]
  obtain ⟨s, hs, hs32, es⟩ := low5 b hb
  rw [← hs]
  have hsi : (s : Int) ≤ 32 := by omega
  clear hs
  go_enter Try.func10, Try.ntmps10
  go_wp2
  go_ret
  exact ⟨ret_eq (rfl), rfl⟩
set_option maxHeartbeats 1000000 in
theorem do_35 (a b : Nat) (ha : a < 4294967296) (hb : b < 4294967296) (w : World) : Calls Try.prog 10 #[.int .i64 35, .int .u32 a, .int .u32 b] w fun e w' => e = .returned (.int .u32 (doI 35 a b)) ∧ w = w' := by
  rw [doI_35]
  obtain ⟨s, hs, hs32, es⟩ := low5 b hb
  rw [← hs]
  have hsi : (s : Int) ≤ 32 := by omega
  clear hs
  go_enter Try.func10, Try.ntmps10
  go_wp2
  go_ret
  exact ⟨ret_eq (rfl), rfl⟩
set_option maxHeartbeats 1000000 in
theorem do_27 (a b : Nat) (ha : a < 4294967296) (hb : b < 4294967296) (w : World) : Calls Try.prog 10 #[.int .i64 27, .int .u32 a, .int .u32 b] w fun e w' => e = .returned (.int .u32 (doI 27 a b)) ∧ w = w' := by
  rw [doI_27]
  obtain ⟨s, hs, hs32, es⟩ := low5 b hb
  rw [← hs]
  have hsi : (s : Int) ≤ 32 := by omega
  clear hs
  go_enter Try.func10, Try.ntmps10
  go_wp2
  go_ret
  exact ⟨ret_eq (rfl), rfl⟩
set_option maxHeartbeats 1000000 in
theorem do_38 (a b : Nat) (ha : a < 4294967296) (hb : b < 4294967296) (w : World) : Calls Try.prog 10 #[.int .i64 38, .int .u32 a, .int .u32 b] w fun e w' => e = .returned (.int .u32 (doI 38 a b)) ∧ w = w' := by
  rw [doI_38]
  go_enter Try.func10, Try.ntmps10
  go_wp2
  go_ret
  exact ⟨ret_eq (rfl), rfl⟩
set_option maxHeartbeats 1000000 in
theorem do_39 (a b : Nat) (ha : a < 4294967296) (hb : b < 4294967296) (w : World) : Calls Try.prog 10 #[.int .i64 39, .int .u32 a, .int .u32 b] w fun e w' => e = .returned (.int .u32 (doI 39 a b)) ∧ w = w' := by
  rw [doI_39]
  go_enter Try.func10, Try.ntmps10
  go_wp2
  go_ret
  exact ⟨ret_eq (by rw [mulh_w]), rfl⟩
set_option maxHeartbeats 1000000 in
theorem do_40 (a b : Nat) (ha : a < 4294967296) (hb : b < 4294967296) (w : World) : Calls Try.prog 10 #[.int .i64 40, .int .u32 a, .int .u32 b] w fun e w' => e = .returned (.int .u32 (doI 40 a b)) ∧ w = w' := by
  rw [doI_40]
  go_enter Try.func10, Try.ntmps10
  go_wp2
  go_ret
  exact ⟨ret_eq (by rw [mulhsu_w _ b hb]), rfl⟩
set_option maxHeartbeats 1000000 in
theorem do_41 (a b : Nat) (ha : a < 4294967296) (hb : b < 4294967296) (w : World) : Calls Try.prog 10 #[.int .i64 41, .int .u32 a, .int .u32 b] w fun e w' => e = .returned (.int .u32 (doI 41 a b)) ∧ w = w' := by
  rw [doI_41]
  go_enter Try.func10, Try.ntmps10
  go_wp2
  go_ret
  exact ⟨ret_eq (by rw [(mulhu_w a b ha hb).1, (mulhu_w a b ha hb).2]), rfl⟩
end Go.Proofs.Ytmffkkanecpchaa.Alu
