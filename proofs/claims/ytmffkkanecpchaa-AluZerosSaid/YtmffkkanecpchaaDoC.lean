/- The contract of package alu's Do for quotients and rests, and for ops that are none. -/
import Derived.Test.YtmffkkanecpchaaDoB
set_option linter.unusedVariables false
set_option linter.unusedSimpArgs false
namespace Go.Proofs.Ytmffkkanecpchaa.Alu
open Go.RowKit Go.Proofs.Ytmffkkanecpchaa.Bv
theorem over_a (a : Nat) (ha : a < 4294967296) (h : (wrap32 (a : Int) == -2147483648) = true) : a = 2147483648 := by
  rw [beq_iff_eq] at h; unfold wrap32 at h; omega
theorem over_b (b : Nat) (hb : b < 4294967296) (h : (wrap32 (b : Int) == -1) = true) : b = 4294967295 := by
  rw [beq_iff_eq] at h; unfold wrap32 at h; omega
theorem div_small (a b : Nat) (ha : a < 4294967296) : (a : Int) / (b : Int) % 4294967296 = (a : Int) / (b : Int) := by
  have h := Nat.div_le_self a b
  have e : (a : Int) / (b : Int) = ((a / b : Nat) : Int) := by simp
  rw [e]; generalize a / b = q at h; omega
theorem div_over (a b : Nat) (ha : a < 4294967296) (hb : b < 4294967296) (h1 : (wrap32 (a : Int) == -2147483648) = true) (h2 : (wrap32 (b : Int) == -1) = true) : (a : Int) = Int.tdiv (wrap32 (a : Int)) (wrap32 (b : Int)) % 4294967296 ∧ (0 : Int) = Int.tmod (wrap32 (a : Int)) (wrap32 (b : Int)) % 4294967296 := by
  have e1 := over_a a ha h1
  have e2 := over_b b hb h2
  subst e1; subst e2; decide +kernel
set_option maxHeartbeats 1000000 in
theorem divide_42 (a b : Nat) (ha : a < 4294967296) (hb : b < 4294967296) (w : World) : Calls Try.prog 15 #[.int .i64 42, .int .u32 a, .int .u32 b] w fun e w' => e = .returned (.int .u32 (doI 42 a b)) ∧ w = w' := by
  rw [doI_42]
  obtain ⟨x, ex⟩ : ∃ x, ∀ c : Int, c = (a : Int) → wrap32 c = x := ⟨wrap32 a, by rintro c rfl; rfl⟩
  obtain ⟨y, ey⟩ : ∃ y, ∀ c : Int, c = (b : Int) → wrap32 c = y := ⟨wrap32 b, by rintro c rfl; rfl⟩
  have HX := Lib.hid (ex _ rfl)
  have HY := Lib.hid (ey _ rfl)
  have hyz := wrap32_zero b hb
  rw [HY.out] at hyz
  rw [HX.out, HY.out]
  by_cases h0 : b = 0
  · have hz0 : ((b : Int) == 0) = true := by simpa using h0
    rw [if_pos (by omega)]
    clear hyz h0
    go_enter Try.func15, Try.ntmps15
    go_wp2
    all_goals (go_ret; exact ⟨ret_eq (by with_reducible rfl), rfl⟩)
  · rw [if_neg (by omega)]
    have hz : ¬ y = 0 := by omega
    have hz1 : ((b : Int) == 0) = false := by simpa using h0
    have hz2 : ¬ (b : Int) = 0 := by omega
    clear hyz h0
    cases h1 : (x == -2147483648) <;> cases h2 : (y == -1)
    all_goals
      go_enter Try.func15, Try.ntmps15
      go_wp2
    all_goals go_ret
    all_goals refine ⟨ret_eq ?_, rfl⟩
    all_goals first
      | with_reducible rfl
      | exact mod_w32 _
      | exact div_small a b ha
      | (rw [← HX.out, ← HY.out]; exact (div_over a b ha hb (by rw [HX.out]; assumption) (by rw [HY.out]; assumption)).1)
      | (rw [← HX.out, ← HY.out]; exact (div_over a b ha hb (by rw [HX.out]; assumption) (by rw [HY.out]; assumption)).2)
      | trace_state
set_option maxHeartbeats 1000000 in
theorem divide_43 (a b : Nat) (ha : a < 4294967296) (hb : b < 4294967296) (w : World) : Calls Try.prog 15 #[.int .i64 43, .int .u32 a, .int .u32 b] w fun e w' => e = .returned (.int .u32 (doI 43 a b)) ∧ w = w' := by
  rw [doI_43]
  obtain ⟨x, ex⟩ : ∃ x, ∀ c : Int, c = (a : Int) → wrap32 c = x := ⟨wrap32 a, by rintro c rfl; rfl⟩
  obtain ⟨y, ey⟩ : ∃ y, ∀ c : Int, c = (b : Int) → wrap32 c = y := ⟨wrap32 b, by rintro c rfl; rfl⟩
  have HX := Lib.hid (ex _ rfl)
  have HY := Lib.hid (ey _ rfl)
  have hyz := wrap32_zero b hb
  rw [HY.out] at hyz
  skip
  by_cases h0 : b = 0
  · have hz0 : ((b : Int) == 0) = true := by simpa using h0
    rw [if_pos (by omega)]
    clear hyz h0
    go_enter Try.func15, Try.ntmps15
    go_wp2
    all_goals (go_ret; exact ⟨ret_eq (by with_reducible rfl), rfl⟩)
  · rw [if_neg (by omega)]
    have hz : ¬ y = 0 := by omega
    have hz1 : ((b : Int) == 0) = false := by simpa using h0
    have hz2 : ¬ (b : Int) = 0 := by omega
    clear hyz h0
    cases h1 : (x == -2147483648) <;> cases h2 : (y == -1)
    all_goals
      go_enter Try.func15, Try.ntmps15
      go_wp2
    all_goals go_ret
    all_goals refine ⟨ret_eq ?_, rfl⟩
    all_goals first
      | with_reducible rfl
      | exact mod_w32 _
      | exact div_small a b ha
      | (rw [← HX.out, ← HY.out]; exact (div_over a b ha hb (by rw [HX.out]; assumption) (by rw [HY.out]; assumption)).1)
      | (rw [← HX.out, ← HY.out]; exact (div_over a b ha hb (by rw [HX.out]; assumption) (by rw [HY.out]; assumption)).2)
      | trace_state
set_option maxHeartbeats 1000000 in
theorem divide_44 (a b : Nat) (ha : a < 4294967296) (hb : b < 4294967296) (w : World) : Calls Try.prog 15 #[.int .i64 44, .int .u32 a, .int .u32 b] w fun e w' => e = .returned (.int .u32 (doI 44 a b)) ∧ w = w' := by
  rw [doI_44]
  obtain ⟨x, ex⟩ : ∃ x, ∀ c : Int, c = (a : Int) → wrap32 c = x := ⟨wrap32 a, by rintro c rfl; rfl⟩
  obtain ⟨y, ey⟩ : ∃ y, ∀ c : Int, c = (b : Int) → wrap32 c = y := ⟨wrap32 b, by rintro c rfl; rfl⟩
  have HX := Lib.hid (ex _ rfl)
  have HY := Lib.hid (ey _ rfl)
  have hyz := wrap32_zero b hb
  rw [HY.out] at hyz
  rw [HX.out, HY.out]
  by_cases h0 : b = 0
  · have hz0 : ((b : Int) == 0) = true := by simpa using h0
    rw [if_pos (by omega)]
    clear hyz h0
    go_enter Try.func15, Try.ntmps15
    go_wp2
    all_goals (go_ret; exact ⟨ret_eq (by with_reducible rfl), rfl⟩)
  · rw [if_neg (by omega)]
    have hz : ¬ y = 0 := by omega
    have hz1 : ((b : Int) == 0) = false := by simpa using h0
    have hz2 : ¬ (b : Int) = 0 := by omega
    clear hyz h0
    cases h1 : (x == -2147483648) <;> cases h2 : (y == -1)
    all_goals
      go_enter Try.func15, Try.ntmps15
      go_wp2
    all_goals go_ret
    all_goals refine ⟨ret_eq ?_, rfl⟩
    all_goals first
      | with_reducible rfl
      | exact mod_w32 _
      | exact div_small a b ha
      | (rw [← HX.out, ← HY.out]; exact (div_over a b ha hb (by rw [HX.out]; assumption) (by rw [HY.out]; assumption)).1)
      | (rw [← HX.out, ← HY.out]; exact (div_over a b ha hb (by rw [HX.out]; assumption) (by rw [HY.out]; assumption)).2)
      | trace_state
set_option maxHeartbeats 1000000 in
theorem divide_45 (a b : Nat) (ha : a < 4294967296) (hb : b < 4294967296) (w : World) : Calls Try.prog 15 #[.int .i64 45, .int .u32 a, .int .u32 b] w fun e w' => e = .returned (.int .u32 (doI 45 a b)) ∧ w = w' := by
  rw [doI_45]
  obtain ⟨x, ex⟩ : ∃ x, ∀ c : Int, c = (a : Int) → wrap32 c = x := ⟨wrap32 a, by rintro c rfl; rfl⟩
  obtain ⟨y, ey⟩ : ∃ y, ∀ c : Int, c = (b : Int) → wrap32 c = y := ⟨wrap32 b, by rintro c rfl; rfl⟩
  have HX := Lib.hid (ex _ rfl)
  have HY := Lib.hid (ey _ rfl)
  have hyz := wrap32_zero b hb
  rw [HY.out] at hyz
  skip
  by_cases h0 : b = 0
  · have hz0 : ((b : Int) == 0) = true := by simpa using h0
    rw [if_pos (by omega)]
    clear hyz h0
    go_enter Try.func15, Try.ntmps15
    go_wp2
    all_goals (go_ret; exact ⟨ret_eq (by with_reducible rfl), rfl⟩)
  · rw [if_neg (by omega)]
    have hz : ¬ y = 0 := by omega
    have hz1 : ((b : Int) == 0) = false := by simpa using h0
    have hz2 : ¬ (b : Int) = 0 := by omega
    clear hyz h0
    cases h1 : (x == -2147483648) <;> cases h2 : (y == -1)
    all_goals
      go_enter Try.func15, Try.ntmps15
      go_wp2
    all_goals go_ret
    all_goals refine ⟨ret_eq ?_, rfl⟩
    all_goals first
      | with_reducible rfl
      | exact mod_w32 _
      | exact div_small a b ha
      | (rw [← HX.out, ← HY.out]; exact (div_over a b ha hb (by rw [HX.out]; assumption) (by rw [HY.out]; assumption)).1)
      | (rw [← HX.out, ← HY.out]; exact (div_over a b ha hb (by rw [HX.out]; assumption) (by rw [HY.out]; assumption)).2)
      | trace_state
set_option maxHeartbeats 1000000 in
theorem do_42 (a b : Nat) (ha : a < 4294967296) (hb : b < 4294967296) (w : World) : Calls Try.prog 10 #[.int .i64 42, .int .u32 a, .int .u32 b] w fun e w' => e = .returned (.int .u32 (doI 42 a b)) ∧ w = w' := by
  have hd := divide_42 a b ha hb
  generalize doI 42 a b = r at hd ⊢
  have HD := Lib.hid hd
  clear hd
  go_enter Try.func10, Try.ntmps10
  go_wp2_with (go_at_call 15; refine (HD.out _).mono ?_; rintro e w' ⟨rfl, rfl⟩)
  go_ret
  exact ⟨rfl, rfl⟩
set_option maxHeartbeats 1000000 in
theorem do_43 (a b : Nat) (ha : a < 4294967296) (hb : b < 4294967296) (w : World) : Calls Try.prog 10 #[.int .i64 43, .int .u32 a, .int .u32 b] w fun e w' => e = .returned (.int .u32 (doI 43 a b)) ∧ w = w' := by
  have hd := divide_43 a b ha hb
  generalize doI 43 a b = r at hd ⊢
  have HD := Lib.hid hd
  clear hd
  go_enter Try.func10, Try.ntmps10
  go_wp2_with (go_at_call 15; refine (HD.out _).mono ?_; rintro e w' ⟨rfl, rfl⟩)
  go_ret
  exact ⟨rfl, rfl⟩
set_option maxHeartbeats 1000000 in
theorem do_44 (a b : Nat) (ha : a < 4294967296) (hb : b < 4294967296) (w : World) : Calls Try.prog 10 #[.int .i64 44, .int .u32 a, .int .u32 b] w fun e w' => e = .returned (.int .u32 (doI 44 a b)) ∧ w = w' := by
  have hd := divide_44 a b ha hb
  generalize doI 44 a b = r at hd ⊢
  have HD := Lib.hid hd
  clear hd
  go_enter Try.func10, Try.ntmps10
  go_wp2_with (go_at_call 15; refine (HD.out _).mono ?_; rintro e w' ⟨rfl, rfl⟩)
  go_ret
  exact ⟨rfl, rfl⟩
set_option maxHeartbeats 1000000 in
theorem do_45 (a b : Nat) (ha : a < 4294967296) (hb : b < 4294967296) (w : World) : Calls Try.prog 10 #[.int .i64 45, .int .u32 a, .int .u32 b] w fun e w' => e = .returned (.int .u32 (doI 45 a b)) ∧ w = w' := by
  have hd := divide_45 a b ha hb
  generalize doI 45 a b = r at hd ⊢
  have HD := Lib.hid hd
  clear hd
  go_enter Try.func10, Try.ntmps10
  go_wp2_with (go_at_call 15; refine (HD.out _).mono ?_; rintro e w' ⟨rfl, rfl⟩)
  go_ret
  exact ⟨rfl, rfl⟩
set_option maxHeartbeats 2000000 in
theorem divide_none (op : Int) (a b : Nat) (ho : op < 19 ∨ 45 < op) (w : World) : Calls Try.prog 15 #[.int .i64 op, .int .u32 a, .int .u32 b] w fun e w' => e = .returned (.int .u32 0) ∧ w = w' := by
  have f19 : (op == 19) = false := by rw [beq_eq_false_iff_ne]; omega
  have f20 : (op == 20) = false := by rw [beq_eq_false_iff_ne]; omega
  have f21 : (op == 21) = false := by rw [beq_eq_false_iff_ne]; omega
  have f22 : (op == 22) = false := by rw [beq_eq_false_iff_ne]; omega
  have f23 : (op == 23) = false := by rw [beq_eq_false_iff_ne]; omega
  have f24 : (op == 24) = false := by rw [beq_eq_false_iff_ne]; omega
  have f25 : (op == 25) = false := by rw [beq_eq_false_iff_ne]; omega
  have f26 : (op == 26) = false := by rw [beq_eq_false_iff_ne]; omega
  have f27 : (op == 27) = false := by rw [beq_eq_false_iff_ne]; omega
  have f28 : (op == 28) = false := by rw [beq_eq_false_iff_ne]; omega
  have f29 : (op == 29) = false := by rw [beq_eq_false_iff_ne]; omega
  have f30 : (op == 30) = false := by rw [beq_eq_false_iff_ne]; omega
  have f31 : (op == 31) = false := by rw [beq_eq_false_iff_ne]; omega
  have f32 : (op == 32) = false := by rw [beq_eq_false_iff_ne]; omega
  have f33 : (op == 33) = false := by rw [beq_eq_false_iff_ne]; omega
  have f34 : (op == 34) = false := by rw [beq_eq_false_iff_ne]; omega
  have f35 : (op == 35) = false := by rw [beq_eq_false_iff_ne]; omega
  have f36 : (op == 36) = false := by rw [beq_eq_false_iff_ne]; omega
  have f37 : (op == 37) = false := by rw [beq_eq_false_iff_ne]; omega
  have f38 : (op == 38) = false := by rw [beq_eq_false_iff_ne]; omega
  have f39 : (op == 39) = false := by rw [beq_eq_false_iff_ne]; omega
  have f40 : (op == 40) = false := by rw [beq_eq_false_iff_ne]; omega
  have f41 : (op == 41) = false := by rw [beq_eq_false_iff_ne]; omega
  have f42 : (op == 42) = false := by rw [beq_eq_false_iff_ne]; omega
  have f43 : (op == 43) = false := by rw [beq_eq_false_iff_ne]; omega
  have f44 : (op == 44) = false := by rw [beq_eq_false_iff_ne]; omega
  have f45 : (op == 45) = false := by rw [beq_eq_false_iff_ne]; omega
  obtain ⟨x, ex⟩ : ∃ x, ∀ c : Int, c = (a : Int) → wrap32 c = x := ⟨wrap32 a, by rintro c rfl; rfl⟩
  obtain ⟨y, ey⟩ : ∃ y, ∀ c : Int, c = (b : Int) → wrap32 c = y := ⟨wrap32 b, by rintro c rfl; rfl⟩
  clear ho
  go_enter Try.func15, Try.ntmps15
  go_wp2
  all_goals (go_ret; exact ⟨rfl, rfl⟩)
set_option maxHeartbeats 2000000 in
set_option maxRecDepth 10000 in
theorem do_none (op : Int) (a b : Nat) (ho : op < 19 ∨ 45 < op) (w : World) : Calls Try.prog 10 #[.int .i64 op, .int .u32 a, .int .u32 b] w fun e w' => e = .returned (.int .u32 (doI op a b)) ∧ w = w' := by
  rw [doI_none op a b ho]
  have f19 : (op == 19) = false := by rw [beq_eq_false_iff_ne]; omega
  have f20 : (op == 20) = false := by rw [beq_eq_false_iff_ne]; omega
  have f21 : (op == 21) = false := by rw [beq_eq_false_iff_ne]; omega
  have f22 : (op == 22) = false := by rw [beq_eq_false_iff_ne]; omega
  have f23 : (op == 23) = false := by rw [beq_eq_false_iff_ne]; omega
  have f24 : (op == 24) = false := by rw [beq_eq_false_iff_ne]; omega
  have f25 : (op == 25) = false := by rw [beq_eq_false_iff_ne]; omega
  have f26 : (op == 26) = false := by rw [beq_eq_false_iff_ne]; omega
  have f27 : (op == 27) = false := by rw [beq_eq_false_iff_ne]; omega
  have f28 : (op == 28) = false := by rw [beq_eq_false_iff_ne]; omega
  have f29 : (op == 29) = false := by rw [beq_eq_false_iff_ne]; omega
  have f30 : (op == 30) = false := by rw [beq_eq_false_iff_ne]; omega
  have f31 : (op == 31) = false := by rw [beq_eq_false_iff_ne]; omega
  have f32 : (op == 32) = false := by rw [beq_eq_false_iff_ne]; omega
  have f33 : (op == 33) = false := by rw [beq_eq_false_iff_ne]; omega
  have f34 : (op == 34) = false := by rw [beq_eq_false_iff_ne]; omega
  have f35 : (op == 35) = false := by rw [beq_eq_false_iff_ne]; omega
  have f36 : (op == 36) = false := by rw [beq_eq_false_iff_ne]; omega
  have f37 : (op == 37) = false := by rw [beq_eq_false_iff_ne]; omega
  have f38 : (op == 38) = false := by rw [beq_eq_false_iff_ne]; omega
  have f39 : (op == 39) = false := by rw [beq_eq_false_iff_ne]; omega
  have f40 : (op == 40) = false := by rw [beq_eq_false_iff_ne]; omega
  have f41 : (op == 41) = false := by rw [beq_eq_false_iff_ne]; omega
  have f42 : (op == 42) = false := by rw [beq_eq_false_iff_ne]; omega
  have f43 : (op == 43) = false := by rw [beq_eq_false_iff_ne]; omega
  have f44 : (op == 44) = false := by rw [beq_eq_false_iff_ne]; omega
  have f45 : (op == 45) = false := by rw [beq_eq_false_iff_ne]; omega
  have HO := Lib.hid ho
  clear ho
  go_enter Try.func10, Try.ntmps10
  go_wp2_with (go_at_call 15; refine (divide_none op a b HO.out _).mono ?_; rintro e w' ⟨rfl, rfl⟩)
  go_ret
  exact ⟨rfl, rfl⟩
theorem cDo (op : Int) (a b : Nat) (ha : a < 4294967296) (hb : b < 4294967296) (w : World) : Calls Try.prog 10 #[.int .i64 op, .int .u32 a, .int .u32 b] w fun e w' => e = .returned (.int .u32 (doI op a b)) ∧ w = w' := by
  by_cases ho : op < 19 ∨ 45 < op
  · exact do_none op a b ho w
  · rcases (show op = 19 ∨ op = 20 ∨ op = 21 ∨ op = 22 ∨ op = 23 ∨ op = 24 ∨ op = 25 ∨ op = 26 ∨ op = 27 ∨ op = 28 ∨ op = 29 ∨ op = 30 ∨ op = 31 ∨ op = 32 ∨ op = 33 ∨ op = 34 ∨ op = 35 ∨ op = 36 ∨ op = 37 ∨ op = 38 ∨ op = 39 ∨ op = 40 ∨ op = 41 ∨ op = 42 ∨ op = 43 ∨ op = 44 ∨ op = 45 by omega) with rfl | rfl | rfl | rfl | rfl | rfl | rfl | rfl | rfl | rfl | rfl | rfl | rfl | rfl | rfl | rfl | rfl | rfl | rfl | rfl | rfl | rfl | rfl | rfl | rfl | rfl | rfl
    · exact do_19 a b ha hb w
    · exact do_20 a b ha hb w
    · exact do_21 a b ha hb w
    · exact do_22 a b ha hb w
    · exact do_23 a b ha hb w
    · exact do_24 a b ha hb w
    · exact do_25 a b ha hb w
    · exact do_26 a b ha hb w
    · exact do_27 a b ha hb w
    · exact do_28 a b ha hb w
    · exact do_29 a b ha hb w
    · exact do_30 a b ha hb w
    · exact do_31 a b ha hb w
    · exact do_32 a b ha hb w
    · exact do_33 a b ha hb w
    · exact do_34 a b ha hb w
    · exact do_35 a b ha hb w
    · exact do_36 a b ha hb w
    · exact do_37 a b ha hb w
    · exact do_38 a b ha hb w
    · exact do_39 a b ha hb w
    · exact do_40 a b ha hb w
    · exact do_41 a b ha hb w
    · exact do_42 a b ha hb w
    · exact do_43 a b ha hb w
    · exact do_44 a b ha hb w
    · exact do_45 a b ha hb w
end Go.Proofs.Ytmffkkanecpchaa.Alu
