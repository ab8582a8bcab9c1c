/- The laws TrapFits and TrapNumbers, walked. -/
import Derived.Test.YtnecpenihjlpnaaLw
set_option linter.unusedVariables false
set_option linter.unusedSimpArgs false
namespace Go.Proofs.Ytnecpenihjlpnaa.Al
open Go.RowKit Go.Proofs.Ytnecpenihjlpnaa.Bv
theorem op8 (op : Int) : ∃ i : Nat, i < 8 ∧ Go.bits .and .i64 op 7 = (i : Int) := by
  rw [and_mask_i64 3 (by decide) op 7 (by decide)]
  exact ⟨(op % 2 ^ 3).toNat, by omega, by omega⟩
theorem clear3 (a : Nat) (ha : a < 4294967296) : Go.bits .andNot .u32 (a : Int) 3 = ((a - a % 4 : Nat) : Int) := by
  have e := clear32 2 0 (by decide) (a : Int) (by omega) (by omega) 3 (by decide)
  rw [e]; simp only [Int.pow_zero, Int.ediv_one, Int.mul_one]; omega
theorem low12 (a : Nat) (ha : a < 4294967296) : Go.bits .and .u32 (a : Int) 4095 = ((a % 4096 : Nat) : Int) := by
  rw [and_mask32 12 (by decide) (a : Int) (by omega) (by omega) 4095 (by decide)]; omega
theorem bit2 (a : Nat) (ha : a < 4294967296) : ∃ b : Nat, (b = 0 ∨ b = 4) ∧ Go.bits .and .u32 (a : Int) 4 = (b : Int) := by
  have h := nand32 a 4 ha (by decide)
  have e := and_shift_mask a 1 2
  simp only [show (2 ^ 1 - 1) * 2 ^ 2 = 4 from rfl] at e
  refine ⟨a / 4 % 2 * 4, by omega, ?_⟩
  rw [show (4 : Int) = ((4 : Nat) : Int) from rfl, h, e]
theorem fits_al (k : Int) (b : Nat) (hb : b % 4 = 0) (hk : k = 11 ∨ k = 12 ∨ k = 13 ∨ k = 14 ∨ k = 15 ∨ k = 16 ∨ k = 17 ∨ k = 18) : fitsB k b = true := by
  unfold fitsB
  rcases hk with rfl | rfl | rfl | rfl | rfl | rfl | rfl | rfl <;> simp [sizeOf] <;> omega
theorem acc_in (k : Int) (b : Nat) (hb : b % 4 = 0) (hl : b < 4096) (hk : k = 11 ∨ k = 12 ∨ k = 13 ∨ k = 14 ∨ k = 15 ∨ k = 16 ∨ k = 17 ∨ k = 18) : accessV k b = (0, false) := by
  have hf := fits_al k b hb hk
  have hi : insideB b = true := by unfold insideB; simp; omega
  have hz : ¬ sizeOf k = 0 := by rcases hk with rfl | rfl | rfl | rfl | rfl | rfl | rfl | rfl <;> decide
  unfold accessV; rw [if_neg hz, hf, hi]; rfl
theorem fetch_al (b : Nat) (hb : b % 4 = 0) : fetchV b = (if insideB b then (0, false) else (1, true)) := by unfold fetchV; rw [if_pos hb]
theorem cFetchE (A : Int) (a : Nat) (c : Int) (b : Bool) (ea : A = a) (h : fetchV a = (c, b)) (w : World) : Calls Try.prog 11 #[.int .u32 A] w fun e w' => e = .returned (.tuple #[.int .i64 c, .bool b]) ∧ w = w' := by
  subst ea
  have h' := cFetch a w
  rw [h] at h'; exact h'
theorem cAccE (op A : Int) (a : Nat) (c : Int) (b : Bool) (ea : A = a) (ha : a < 4294967296) (h : accessV op a = (c, b)) (w : World) : Calls Try.prog 10 #[.int .i64 op, .int .u32 A] w fun e w' => e = .returned (.tuple #[.int .i64 c, .bool b]) ∧ w = w' := by
  subst ea; exact kAcc op a c b ha h w
theorem cInE (A : Int) (a : Nat) (b : Bool) (ea : A = a) (h : insideB a = b) (w : World) : Calls Try.prog 12 #[.int .u32 A] w fun e w' => e = .returned (.bool b) ∧ w = w' := by subst ea; exact cInsideV a b h w
set_option maxHeartbeats 1000000 in
theorem fits_0 (op : Int) (a : Nat) (ha : a < 4294967296) (ei : Go.bits .and .i64 op 7 = 0) (w : World) : Calls Try.prog 5 #[.int .i64 op, .int .u32 a] w fun e w' => e = .returned (.bool true) ∧ Below w.heap.size w w' := by
  obtain ⟨b, hb, eb⟩ := bit2 a ha
  have hlow : a % 4096 < 4294967296 := by omega
  have e1 := low12 a ha
  have e2 := clear3 (a % 4096) hlow
  rw [← e1] at e2
  have E1 := Lib.hid e1
  have E2 := Lib.hid e2
  have E3 := Lib.hid (clear3 a ha)
  have A1 := Lib.hid (acc_in 11 (a % 4096 - a % 4096 % 4) (by omega) (by omega) (by decide))
  have F1 := Lib.hid (fetch_al (a - a % 4) (by omega))
  have l1 : a % 4096 - a % 4096 % 4 < 4294967296 := by omega
  have L1 := Lib.hid l1
  have l2 : a - a % 4 < 4294967296 := by omega
  have A2 : accessV 18 (268435456 + b) = (0, false) := by rcases hb with rfl | rfl <;> decide
  have HA2 := Lib.hid A2
  have l3 : 268435456 + b < 4294967296 := by omega
  have L3 := Lib.hid l3
  have hb4 : (b : Int) ≤ 4 := by omega
  clear A2 l1 l2 l3 e1 e2 ha hlow hb
  cases hi : insideB (a - a % 4)
  all_goals
    have HI := Lib.hid hi
    clear hi
    go_enter Try.func5, Try.ntmps5
    go_wp2_with fail
    refine (cAccE _ _ (a % 4096 - a % 4096 % 4) 0 false E2.out L1.out A1.out _).mono ?_
    rintro e w' ⟨rfl, rfl⟩
    go_wp2_with fail
    refine (cAccE _ _ 268435456 5 true rfl (by decide) (by decide) _).mono ?_
    rintro e w' ⟨rfl, rfl⟩
    go_wp2_with fail
    refine (cAccE _ _ (268435456 + b) 0 false (by omega) L3.out HA2.out _).mono ?_
    rintro e w' ⟨rfl, rfl⟩
    go_wp2_with fail
    refine (cFetchE _ (a - a % 4) _ _ E3.out (by rw [F1.out, HI.out]) _).mono ?_
    rintro e w' ⟨rfl, rfl⟩
    go_wp2_with fail
    refine (cInE _ (a - a % 4) _ E3.out HI.out _).mono ?_
    rintro e w' ⟨rfl, rfl⟩
    go_wp2_with fail
    refine (cknown _).mono ?_
    rintro e w5 ⟨rfl, b5⟩
    go_wp2_with fail
    go_ret
    exact ⟨rfl, b5⟩
set_option maxHeartbeats 1000000 in
theorem fits_1 (op : Int) (a : Nat) (ha : a < 4294967296) (ei : Go.bits .and .i64 op 7 = 1) (w : World) : Calls Try.prog 5 #[.int .i64 op, .int .u32 a] w fun e w' => e = .returned (.bool true) ∧ Below w.heap.size w w' := by
  obtain ⟨b, hb, eb⟩ := bit2 a ha
  have hlow : a % 4096 < 4294967296 := by omega
  have e1 := low12 a ha
  have e2 := clear3 (a % 4096) hlow
  rw [← e1] at e2
  have E1 := Lib.hid e1
  have E2 := Lib.hid e2
  have E3 := Lib.hid (clear3 a ha)
  have A1 := Lib.hid (acc_in 12 (a % 4096 - a % 4096 % 4) (by omega) (by omega) (by decide))
  have F1 := Lib.hid (fetch_al (a - a % 4) (by omega))
  have l1 : a % 4096 - a % 4096 % 4 < 4294967296 := by omega
  have L1 := Lib.hid l1
  have l2 : a - a % 4 < 4294967296 := by omega
  have A2 : accessV 18 (268435456 + b) = (0, false) := by rcases hb with rfl | rfl <;> decide
  have HA2 := Lib.hid A2
  have l3 : 268435456 + b < 4294967296 := by omega
  have L3 := Lib.hid l3
  have hb4 : (b : Int) ≤ 4 := by omega
  clear A2 l1 l2 l3 e1 e2 ha hlow hb
  cases hi : insideB (a - a % 4)
  all_goals
    have HI := Lib.hid hi
    clear hi
    go_enter Try.func5, Try.ntmps5
    go_wp2_with fail
    refine (cAccE _ _ (a % 4096 - a % 4096 % 4) 0 false E2.out L1.out A1.out _).mono ?_
    rintro e w' ⟨rfl, rfl⟩
    go_wp2_with fail
    refine (cAccE _ _ 268435456 5 true rfl (by decide) (by decide) _).mono ?_
    rintro e w' ⟨rfl, rfl⟩
    go_wp2_with fail
    refine (cAccE _ _ (268435456 + b) 0 false (by omega) L3.out HA2.out _).mono ?_
    rintro e w' ⟨rfl, rfl⟩
    go_wp2_with fail
    refine (cFetchE _ (a - a % 4) _ _ E3.out (by rw [F1.out, HI.out]) _).mono ?_
    rintro e w' ⟨rfl, rfl⟩
    go_wp2_with fail
    refine (cInE _ (a - a % 4) _ E3.out HI.out _).mono ?_
    rintro e w' ⟨rfl, rfl⟩
    go_wp2_with fail
    refine (cknown _).mono ?_
    rintro e w5 ⟨rfl, b5⟩
    go_wp2_with fail
    go_ret
    exact ⟨rfl, b5⟩
set_option maxHeartbeats 1000000 in
theorem fits_2 (op : Int) (a : Nat) (ha : a < 4294967296) (ei : Go.bits .and .i64 op 7 = 2) (w : World) : Calls Try.prog 5 #[.int .i64 op, .int .u32 a] w fun e w' => e = .returned (.bool true) ∧ Below w.heap.size w w' := by
  obtain ⟨b, hb, eb⟩ := bit2 a ha
  have hlow : a % 4096 < 4294967296 := by omega
  have e1 := low12 a ha
  have e2 := clear3 (a % 4096) hlow
  rw [← e1] at e2
  have E1 := Lib.hid e1
  have E2 := Lib.hid e2
  have E3 := Lib.hid (clear3 a ha)
  have A1 := Lib.hid (acc_in 13 (a % 4096 - a % 4096 % 4) (by omega) (by omega) (by decide))
  have F1 := Lib.hid (fetch_al (a - a % 4) (by omega))
  have l1 : a % 4096 - a % 4096 % 4 < 4294967296 := by omega
  have L1 := Lib.hid l1
  have l2 : a - a % 4 < 4294967296 := by omega
  have A2 : accessV 18 (268435456 + b) = (0, false) := by rcases hb with rfl | rfl <;> decide
  have HA2 := Lib.hid A2
  have l3 : 268435456 + b < 4294967296 := by omega
  have L3 := Lib.hid l3
  have hb4 : (b : Int) ≤ 4 := by omega
  clear A2 l1 l2 l3 e1 e2 ha hlow hb
  cases hi : insideB (a - a % 4)
  all_goals
    have HI := Lib.hid hi
    clear hi
    go_enter Try.func5, Try.ntmps5
    go_wp2_with fail
    refine (cAccE _ _ (a % 4096 - a % 4096 % 4) 0 false E2.out L1.out A1.out _).mono ?_
    rintro e w' ⟨rfl, rfl⟩
    go_wp2_with fail
    refine (cAccE _ _ 268435456 5 true rfl (by decide) (by decide) _).mono ?_
    rintro e w' ⟨rfl, rfl⟩
    go_wp2_with fail
    refine (cAccE _ _ (268435456 + b) 0 false (by omega) L3.out HA2.out _).mono ?_
    rintro e w' ⟨rfl, rfl⟩
    go_wp2_with fail
    refine (cFetchE _ (a - a % 4) _ _ E3.out (by rw [F1.out, HI.out]) _).mono ?_
    rintro e w' ⟨rfl, rfl⟩
    go_wp2_with fail
    refine (cInE _ (a - a % 4) _ E3.out HI.out _).mono ?_
    rintro e w' ⟨rfl, rfl⟩
    go_wp2_with fail
    refine (cknown _).mono ?_
    rintro e w5 ⟨rfl, b5⟩
    go_wp2_with fail
    go_ret
    exact ⟨rfl, b5⟩
set_option maxHeartbeats 1000000 in
theorem fits_3 (op : Int) (a : Nat) (ha : a < 4294967296) (ei : Go.bits .and .i64 op 7 = 3) (w : World) : Calls Try.prog 5 #[.int .i64 op, .int .u32 a] w fun e w' => e = .returned (.bool true) ∧ Below w.heap.size w w' := by
  obtain ⟨b, hb, eb⟩ := bit2 a ha
  have hlow : a % 4096 < 4294967296 := by omega
  have e1 := low12 a ha
  have e2 := clear3 (a % 4096) hlow
  rw [← e1] at e2
  have E1 := Lib.hid e1
  have E2 := Lib.hid e2
  have E3 := Lib.hid (clear3 a ha)
  have A1 := Lib.hid (acc_in 14 (a % 4096 - a % 4096 % 4) (by omega) (by omega) (by decide))
  have F1 := Lib.hid (fetch_al (a - a % 4) (by omega))
  have l1 : a % 4096 - a % 4096 % 4 < 4294967296 := by omega
  have L1 := Lib.hid l1
  have l2 : a - a % 4 < 4294967296 := by omega
  have A2 : accessV 18 (268435456 + b) = (0, false) := by rcases hb with rfl | rfl <;> decide
  have HA2 := Lib.hid A2
  have l3 : 268435456 + b < 4294967296 := by omega
  have L3 := Lib.hid l3
  have hb4 : (b : Int) ≤ 4 := by omega
  clear A2 l1 l2 l3 e1 e2 ha hlow hb
  cases hi : insideB (a - a % 4)
  all_goals
    have HI := Lib.hid hi
    clear hi
    go_enter Try.func5, Try.ntmps5
    go_wp2_with fail
    refine (cAccE _ _ (a % 4096 - a % 4096 % 4) 0 false E2.out L1.out A1.out _).mono ?_
    rintro e w' ⟨rfl, rfl⟩
    go_wp2_with fail
    refine (cAccE _ _ 268435456 5 true rfl (by decide) (by decide) _).mono ?_
    rintro e w' ⟨rfl, rfl⟩
    go_wp2_with fail
    refine (cAccE _ _ (268435456 + b) 0 false (by omega) L3.out HA2.out _).mono ?_
    rintro e w' ⟨rfl, rfl⟩
    go_wp2_with fail
    refine (cFetchE _ (a - a % 4) _ _ E3.out (by rw [F1.out, HI.out]) _).mono ?_
    rintro e w' ⟨rfl, rfl⟩
    go_wp2_with fail
    refine (cInE _ (a - a % 4) _ E3.out HI.out _).mono ?_
    rintro e w' ⟨rfl, rfl⟩
    go_wp2_with fail
    refine (cknown _).mono ?_
    rintro e w5 ⟨rfl, b5⟩
    go_wp2_with fail
    go_ret
    exact ⟨rfl, b5⟩
set_option maxHeartbeats 1000000 in
theorem fits_4 (op : Int) (a : Nat) (ha : a < 4294967296) (ei : Go.bits .and .i64 op 7 = 4) (w : World) : Calls Try.prog 5 #[.int .i64 op, .int .u32 a] w fun e w' => e = .returned (.bool true) ∧ Below w.heap.size w w' := by
  obtain ⟨b, hb, eb⟩ := bit2 a ha
  have hlow : a % 4096 < 4294967296 := by omega
  have e1 := low12 a ha
  have e2 := clear3 (a % 4096) hlow
  rw [← e1] at e2
  have E1 := Lib.hid e1
  have E2 := Lib.hid e2
  have E3 := Lib.hid (clear3 a ha)
  have A1 := Lib.hid (acc_in 15 (a % 4096 - a % 4096 % 4) (by omega) (by omega) (by decide))
  have F1 := Lib.hid (fetch_al (a - a % 4) (by omega))
  have l1 : a % 4096 - a % 4096 % 4 < 4294967296 := by omega
  have L1 := Lib.hid l1
  have l2 : a - a % 4 < 4294967296 := by omega
  have A2 : accessV 18 (268435456 + b) = (0, false) := by rcases hb with rfl | rfl <;> decide
  have HA2 := Lib.hid A2
  have l3 : 268435456 + b < 4294967296 := by omega
  have L3 := Lib.hid l3
  have hb4 : (b : Int) ≤ 4 := by omega
  clear A2 l1 l2 l3 e1 e2 ha hlow hb
  cases hi : insideB (a - a % 4)
  all_goals
    have HI := Lib.hid hi
    clear hi
    go_enter Try.func5, Try.ntmps5
    go_wp2_with fail
    refine (cAccE _ _ (a % 4096 - a % 4096 % 4) 0 false E2.out L1.out A1.out _).mono ?_
    rintro e w' ⟨rfl, rfl⟩
    go_wp2_with fail
    refine (cAccE _ _ 268435456 5 true rfl (by decide) (by decide) _).mono ?_
    rintro e w' ⟨rfl, rfl⟩
    go_wp2_with fail
    refine (cAccE _ _ (268435456 + b) 0 false (by omega) L3.out HA2.out _).mono ?_
    rintro e w' ⟨rfl, rfl⟩
    go_wp2_with fail
    refine (cFetchE _ (a - a % 4) _ _ E3.out (by rw [F1.out, HI.out]) _).mono ?_
    rintro e w' ⟨rfl, rfl⟩
    go_wp2_with fail
    refine (cInE _ (a - a % 4) _ E3.out HI.out _).mono ?_
    rintro e w' ⟨rfl, rfl⟩
    go_wp2_with fail
    refine (cknown _).mono ?_
    rintro e w5 ⟨rfl, b5⟩
    go_wp2_with fail
    go_ret
    exact ⟨rfl, b5⟩
set_option maxHeartbeats 1000000 in
theorem fits_5 (op : Int) (a : Nat) (ha : a < 4294967296) (ei : Go.bits .and .i64 op 7 = 5) (w : World) : Calls Try.prog 5 #[.int .i64 op, .int .u32 a] w fun e w' => e = .returned (.bool true) ∧ Below w.heap.size w w' := by
  obtain ⟨b, hb, eb⟩ := bit2 a ha
  have hlow : a % 4096 < 4294967296 := by omega
  have e1 := low12 a ha
  have e2 := clear3 (a % 4096) hlow
  rw [← e1] at e2
  have E1 := Lib.hid e1
  have E2 := Lib.hid e2
  have E3 := Lib.hid (clear3 a ha)
  have A1 := Lib.hid (acc_in 16 (a % 4096 - a % 4096 % 4) (by omega) (by omega) (by decide))
  have F1 := Lib.hid (fetch_al (a - a % 4) (by omega))
  have l1 : a % 4096 - a % 4096 % 4 < 4294967296 := by omega
  have L1 := Lib.hid l1
  have l2 : a - a % 4 < 4294967296 := by omega
  have A2 : accessV 18 (268435456 + b) = (0, false) := by rcases hb with rfl | rfl <;> decide
  have HA2 := Lib.hid A2
  have l3 : 268435456 + b < 4294967296 := by omega
  have L3 := Lib.hid l3
  have hb4 : (b : Int) ≤ 4 := by omega
  clear A2 l1 l2 l3 e1 e2 ha hlow hb
  cases hi : insideB (a - a % 4)
  all_goals
    have HI := Lib.hid hi
    clear hi
    go_enter Try.func5, Try.ntmps5
    go_wp2_with fail
    refine (cAccE _ _ (a % 4096 - a % 4096 % 4) 0 false E2.out L1.out A1.out _).mono ?_
    rintro e w' ⟨rfl, rfl⟩
    go_wp2_with fail
    refine (cAccE _ _ 268435456 7 true rfl (by decide) (by decide) _).mono ?_
    rintro e w' ⟨rfl, rfl⟩
    go_wp2_with fail
    refine (cAccE _ _ (268435456 + b) 0 false (by omega) L3.out HA2.out _).mono ?_
    rintro e w' ⟨rfl, rfl⟩
    go_wp2_with fail
    refine (cFetchE _ (a - a % 4) _ _ E3.out (by rw [F1.out, HI.out]) _).mono ?_
    rintro e w' ⟨rfl, rfl⟩
    go_wp2_with fail
    refine (cInE _ (a - a % 4) _ E3.out HI.out _).mono ?_
    rintro e w' ⟨rfl, rfl⟩
    go_wp2_with fail
    refine (cknown _).mono ?_
    rintro e w5 ⟨rfl, b5⟩
    go_wp2_with fail
    go_ret
    exact ⟨rfl, b5⟩
set_option maxHeartbeats 1000000 in
theorem fits_6 (op : Int) (a : Nat) (ha : a < 4294967296) (ei : Go.bits .and .i64 op 7 = 6) (w : World) : Calls Try.prog 5 #[.int .i64 op, .int .u32 a] w fun e w' => e = .returned (.bool true) ∧ Below w.heap.size w w' := by
  obtain ⟨b, hb, eb⟩ := bit2 a ha
  have hlow : a % 4096 < 4294967296 := by omega
  have e1 := low12 a ha
  have e2 := clear3 (a % 4096) hlow
  rw [← e1] at e2
  have E1 := Lib.hid e1
  have E2 := Lib.hid e2
  have E3 := Lib.hid (clear3 a ha)
  have A1 := Lib.hid (acc_in 17 (a % 4096 - a % 4096 % 4) (by omega) (by omega) (by decide))
  have F1 := Lib.hid (fetch_al (a - a % 4) (by omega))
  have l1 : a % 4096 - a % 4096 % 4 < 4294967296 := by omega
  have L1 := Lib.hid l1
  have l2 : a - a % 4 < 4294967296 := by omega
  have A2 : accessV 18 (268435456 + b) = (0, false) := by rcases hb with rfl | rfl <;> decide
  have HA2 := Lib.hid A2
  have l3 : 268435456 + b < 4294967296 := by omega
  have L3 := Lib.hid l3
  have hb4 : (b : Int) ≤ 4 := by omega
  clear A2 l1 l2 l3 e1 e2 ha hlow hb
  cases hi : insideB (a - a % 4)
  all_goals
    have HI := Lib.hid hi
    clear hi
    go_enter Try.func5, Try.ntmps5
    go_wp2_with fail
    refine (cAccE _ _ (a % 4096 - a % 4096 % 4) 0 false E2.out L1.out A1.out _).mono ?_
    rintro e w' ⟨rfl, rfl⟩
    go_wp2_with fail
    refine (cAccE _ _ 268435456 7 true rfl (by decide) (by decide) _).mono ?_
    rintro e w' ⟨rfl, rfl⟩
    go_wp2_with fail
    refine (cAccE _ _ (268435456 + b) 0 false (by omega) L3.out HA2.out _).mono ?_
    rintro e w' ⟨rfl, rfl⟩
    go_wp2_with fail
    refine (cFetchE _ (a - a % 4) _ _ E3.out (by rw [F1.out, HI.out]) _).mono ?_
    rintro e w' ⟨rfl, rfl⟩
    go_wp2_with fail
    refine (cInE _ (a - a % 4) _ E3.out HI.out _).mono ?_
    rintro e w' ⟨rfl, rfl⟩
    go_wp2_with fail
    refine (cknown _).mono ?_
    rintro e w5 ⟨rfl, b5⟩
    go_wp2_with fail
    go_ret
    exact ⟨rfl, b5⟩
set_option maxHeartbeats 1000000 in
theorem fits_7 (op : Int) (a : Nat) (ha : a < 4294967296) (ei : Go.bits .and .i64 op 7 = 7) (w : World) : Calls Try.prog 5 #[.int .i64 op, .int .u32 a] w fun e w' => e = .returned (.bool true) ∧ Below w.heap.size w w' := by
  obtain ⟨b, hb, eb⟩ := bit2 a ha
  have hlow : a % 4096 < 4294967296 := by omega
  have e1 := low12 a ha
  have e2 := clear3 (a % 4096) hlow
  rw [← e1] at e2
  have E1 := Lib.hid e1
  have E2 := Lib.hid e2
  have E3 := Lib.hid (clear3 a ha)
  have A1 := Lib.hid (acc_in 18 (a % 4096 - a % 4096 % 4) (by omega) (by omega) (by decide))
  have F1 := Lib.hid (fetch_al (a - a % 4) (by omega))
  have l1 : a % 4096 - a % 4096 % 4 < 4294967296 := by omega
  have L1 := Lib.hid l1
  have l2 : a - a % 4 < 4294967296 := by omega
  have A2 : accessV 18 (268435456 + b) = (0, false) := by rcases hb with rfl | rfl <;> decide
  have HA2 := Lib.hid A2
  have l3 : 268435456 + b < 4294967296 := by omega
  have L3 := Lib.hid l3
  have hb4 : (b : Int) ≤ 4 := by omega
  clear A2 l1 l2 l3 e1 e2 ha hlow hb
  cases hi : insideB (a - a % 4)
  all_goals
    have HI := Lib.hid hi
    clear hi
    go_enter Try.func5, Try.ntmps5
    go_wp2_with fail
    refine (cAccE _ _ (a % 4096 - a % 4096 % 4) 0 false E2.out L1.out A1.out _).mono ?_
    rintro e w' ⟨rfl, rfl⟩
    go_wp2_with fail
    refine (cAccE _ _ 268435456 0 false rfl (by decide) (by decide) _).mono ?_
    rintro e w' ⟨rfl, rfl⟩
    go_wp2_with fail
    refine (cAccE _ _ (268435456 + b) 0 false (by omega) L3.out HA2.out _).mono ?_
    rintro e w' ⟨rfl, rfl⟩
    go_wp2_with fail
    refine (cFetchE _ (a - a % 4) _ _ E3.out (by rw [F1.out, HI.out]) _).mono ?_
    rintro e w' ⟨rfl, rfl⟩
    go_wp2_with fail
    refine (cInE _ (a - a % 4) _ E3.out HI.out _).mono ?_
    rintro e w' ⟨rfl, rfl⟩
    go_wp2_with fail
    refine (cknown _).mono ?_
    rintro e w5 ⟨rfl, b5⟩
    go_wp2_with fail
    go_ret
    exact ⟨rfl, b5⟩
theorem fits_walk (a0 a1 : Int) (w : World) (_ : (Lit.int .i64 a0).wf = true) (w1 : (Lit.int .u32 a1).wf = true) : Calls Try.prog 5 #[.int .i64 a0, .int .u32 a1] w fun e w' => e = .returned (.bool true) ∧ Below w.heap.size w w' := by
  obtain ⟨a, rfl, ha⟩ := wf_u32 w1
  obtain ⟨i, hi, ei⟩ := op8 a0
  rcases (show i = 0 ∨ i = 1 ∨ i = 2 ∨ i = 3 ∨ i = 4 ∨ i = 5 ∨ i = 6 ∨ i = 7 by omega) with rfl | rfl | rfl | rfl | rfl | rfl | rfl | rfl
  · exact fits_0 a0 a ha ei w
  · exact fits_1 a0 a ha ei w
  · exact fits_2 a0 a ha ei w
  · exact fits_3 a0 a ha ei w
  · exact fits_4 a0 a ha ei w
  · exact fits_5 a0 a ha ei w
  · exact fits_6 a0 a ha ei w
  · exact fits_7 a0 a ha ei w
theorem tells_walk (a0 a1 a2 : Int) (w : World) (_ : (Lit.int .i64 a0).wf = true) (w1 : (Lit.int .u32 a1).wf = true) (_ : (Lit.int .i64 a2).wf = true) : Calls Try.prog 4 #[.int .i64 a0, .int .u32 a1, .int .i64 a2] w fun e w' => e = .returned (.bool true) ∧ Below w.heap.size w w' := by
  obtain ⟨a, rfl, ha⟩ := wf_u32 w1
  exact tells_calls a0 a a2 ha w
set_option maxHeartbeats 1000000 in
theorem numbers_walk (w : World) : Calls Try.prog 3 #[] w fun e w' => e = .returned (.bool true) ∧ Below w.heap.size w w' := by
  go_enter Try.func3, Try.ntmps3
  go_wp2_with fail
  go_loopw [1] (fun v wr => ∃ op : Int, -1 ≤ op ∧ op ≤ 60 ∧ v = .int .i64 op ∧ Below w.heap.size w wr) (fun v _ => (60 - intOf v).toNat)
  case atStart => exact ⟨-1, by omega, by omega, rfl, Below.refl _ _⟩
  case round =>
    obtain ⟨op, h1, h2, rfl, hb⟩ := hrel
    by_cases hlt : op < 60
    · go_wp2_with fail
      have hc : ∀ j, j < 17 → ∃ x : Nat, x < 4294967296 ∧ (wr.alloc (.cells #[.int .u32 0, .int .u32 1, .int .u32 2, .int .u32 3, .int .u32 4, .int .u32 4092, .int .u32 4095, .int .u32 4096, .int .u32 4098, .int .u32 268435452, .int .u32 268435456, .int .u32 268435457, .int .u32 268435458, .int .u32 268435460, .int .u32 268435464, .int .u32 4294967292, .int .u32 4294967295] 22)).cell? ⟨wr.heap.size, j, none⟩ = some (.int .u32 x) := by
        intro j hj
        rcases (show j = 0 ∨ j = 1 ∨ j = 2 ∨ j = 3 ∨ j = 4 ∨ j = 5 ∨ j = 6 ∨ j = 7 ∨ j = 8 ∨ j = 9 ∨ j = 10 ∨ j = 11 ∨ j = 12 ∨ j = 13 ∨ j = 14 ∨ j = 15 ∨ j = 16 by omega) with rfl | rfl | rfl | rfl | rfl | rfl | rfl | rfl | rfl | rfl | rfl | rfl | rfl | rfl | rfl | rfl | rfl
        · exact ⟨0, by decide, by simp⟩
        · exact ⟨1, by decide, by simp⟩
        · exact ⟨2, by decide, by simp⟩
        · exact ⟨3, by decide, by simp⟩
        · exact ⟨4, by decide, by simp⟩
        · exact ⟨4092, by decide, by simp⟩
        · exact ⟨4095, by decide, by simp⟩
        · exact ⟨4096, by decide, by simp⟩
        · exact ⟨4098, by decide, by simp⟩
        · exact ⟨268435452, by decide, by simp⟩
        · exact ⟨268435456, by decide, by simp⟩
        · exact ⟨268435457, by decide, by simp⟩
        · exact ⟨268435458, by decide, by simp⟩
        · exact ⟨268435460, by decide, by simp⟩
        · exact ⟨268435464, by decide, by simp⟩
        · exact ⟨4294967292, by decide, by simp⟩
        · exact ⟨4294967295, by decide, by simp⟩
      have hb0 : Below w.heap.size w (wr.alloc (.cells #[.int .u32 0, .int .u32 1, .int .u32 2, .int .u32 3, .int .u32 4, .int .u32 4092, .int .u32 4095, .int .u32 4096, .int .u32 4098, .int .u32 268435452, .int .u32 268435456, .int .u32 268435457, .int .u32 268435458, .int .u32 268435460, .int .u32 268435464, .int .u32 4294967292, .int .u32 4294967295] 22)) := hb.alloc hb.size _
      have hsz : wr.heap.size < (wr.alloc (.cells #[.int .u32 0, .int .u32 1, .int .u32 2, .int .u32 3, .int .u32 4, .int .u32 4092, .int .u32 4095, .int .u32 4096, .int .u32 4098, .int .u32 268435452, .int .u32 268435456, .int .u32 268435457, .int .u32 268435458, .int .u32 268435460, .int .u32 268435464, .int .u32 4294967292, .int .u32 4294967295] 22)).heap.size := by simp
      generalize wr.alloc _ = W0 at hc hb0 hsz ⊢
      generalize hB : wr.heap.size = B at hc hsz ⊢
      have HB := Lib.hid hB
      clear hB
      go_loopw [11] (fun v w2 => ∃ j : Nat, j ≤ 17 ∧ v = .int .i64 j ∧ Below W0.heap.size W0 w2) (fun v _ => 17 - (intOf v).toNat)
      case atStart => exact ⟨0, by omega, rfl, Below.refl _ _⟩
      case round =>
        obtain ⟨j, hj, rfl, hb2⟩ := hrel
        by_cases hlj : j < 17
        · obtain ⟨x, hx, hcx0⟩ := hc j hlj
          have hcx : wr.cell? ⟨B, j, none⟩ = some (.int .u32 x) := by
            rw [hb2.cell (p := ⟨B, j, none⟩) hsz]; exact hcx0
          have HC := Lib.hid hc
          have HX := Lib.hid hx
          clear hc hx hcx0
          have hlj' : (j : Int) < 17 := by omega
          go_wp2_with fail
          refine (csameI _ _ _ (in_nat x HX.out) _).mono ?_
          rintro e w1 ⟨rfl, b1⟩
          go_wp2_with fail
          go_roundw
          case rel => exact ⟨j + 1, by omega, by go_num, below_next hb2 b1⟩
          case measure => simp [intOf]; omega
        · go_wp2_with fail
          go_roundw
          case rel => exact ⟨op + 1, by omega, by omega, rfl, below_next hb0 hb2⟩
          case measure => simp [intOf]; omega
    · go_wp2_with fail
      go_loopw [4] (fun v w2 => ∃ c : Int, -1 ≤ c ∧ c ≤ 4100 ∧ v = .int .i64 c ∧ Below w.heap.size w w2) (fun v _ => (4100 - intOf v).toNat)
      case atStart => exact ⟨-1, by omega, by omega, rfl, hb⟩
      case round =>
        clear hb
        obtain ⟨c, hc1, hc2, rfl, hb⟩ := hrel
        by_cases hlc : c < 4100
        · go_wp2_with fail
          refine (cIndex c _).mono ?_
          rintro e w1 ⟨rfl, b1⟩
          go_wp2_with fail
          refine (cIndexR c _).mono ?_
          rintro e w2 ⟨rfl, b2⟩
          go_wp2_with fail
          go_roundw
          case rel => exact ⟨c + 1, by omega, by omega, rfl, below_next (below_next hb b1) b2⟩
          case measure => simp [intOf]; omega
        · go_wp2_with fail
          refine (cknown _).mono ?_
          rintro e w5 ⟨rfl, b5⟩
          go_wp2_with fail
          go_ret
          exact ⟨rfl, below_next hb b5⟩
end Go.Proofs.Ytnecpenihjlpnaa.Al
