/- The contract of the reference's Do. -/
import Derived.Test.YtfgemmiahgmmbaaPortA
set_option linter.unusedVariables false
set_option linter.unusedSimpArgs false
namespace Go.Proofs.Ytfgemmiahgmmbaa.Alu
open Go.RowKit Go.Proofs.Ytfgemmiahgmmbaa.Bv
theorem mulxy (x y : Int) (h1 : -2147483648 ≤ x) (h2 : x ≤ 2147483647) (h3 : -2147483648 ≤ y) (h4 : y ≤ 2147483647) : wrap64 (x * y) = x * y := by
  obtain ⟨h5, h6⟩ := mulBound x y 2147483648 2147483648 (by omega) (by omega) (by omega) (by omega) (by decide) (by decide)
  generalize x * y = z at *
  exact w64 z (by omega) (by omega)
theorem mulxb (x : Int) (b : Nat) (h1 : -2147483648 ≤ x) (h2 : x ≤ 2147483647) (hb : b < 4294967296) : wrap64 (x * (b : Int)) = x * (b : Int) := by
  obtain ⟨h5, h6⟩ := mulBound x b 2147483648 4294967295 (by omega) (by omega) (by omega) (by omega) (by decide) (by decide)
  generalize x * (b : Int) = z at *
  exact w64 z (by omega) (by omega)
set_option maxHeartbeats 1000000 in
theorem slow_38 (a b : Nat) (ha : a < 4294967296) (hb : b < 4294967296) (w : World) : Calls Try.prog 19 #[.int .i64 38, .int .u32 a, .int .u32 b] w fun e w' => e = .returned (.int .u32 (doI 38 a b)) ∧ w = w' := by
  rw [doI_38]
  obtain ⟨x, ex⟩ : ∃ x, ∀ c : Int, c = (a : Int) → wrap32 c = x := ⟨wrap32 a, by rintro c rfl; rfl⟩
  obtain ⟨y, ey⟩ : ∃ y, ∀ c : Int, c = (b : Int) → wrap32 c = y := ⟨wrap32 b, by rintro c rfl; rfl⟩
  have HX := Lib.hid (ex _ rfl)
  have HY := Lib.hid (ey _ rfl)
  have hyz := wrap32_zero b hb
  have hxr := wrap32_in a
  have hyr := wrap32_in b
  rw [HY.out] at hyz hyr
  rw [HX.out] at hxr
  obtain ⟨x1, x2⟩ := hxr
  obtain ⟨y1, y2⟩ := hyr
  skip
  clear hyz
  go_enter Try.func19, Try.ntmps19
  go_wp2
  go_ret
  refine ⟨ret_eq ?_, rfl⟩
  first
    | with_reducible rfl
    | (rw [mulxy x y x1 x2 y1 y2]; done)
    | (rw [mulxb x b x1 x2 hb]; done)
    | (rw [(mulhu_w a b ha hb).1, (mulhu_w a b ha hb).2]; done)
    | trace_state
set_option maxHeartbeats 1000000 in
theorem slow_39 (a b : Nat) (ha : a < 4294967296) (hb : b < 4294967296) (w : World) : Calls Try.prog 19 #[.int .i64 39, .int .u32 a, .int .u32 b] w fun e w' => e = .returned (.int .u32 (doI 39 a b)) ∧ w = w' := by
  rw [doI_39]
  obtain ⟨x, ex⟩ : ∃ x, ∀ c : Int, c = (a : Int) → wrap32 c = x := ⟨wrap32 a, by rintro c rfl; rfl⟩
  obtain ⟨y, ey⟩ : ∃ y, ∀ c : Int, c = (b : Int) → wrap32 c = y := ⟨wrap32 b, by rintro c rfl; rfl⟩
  have HX := Lib.hid (ex _ rfl)
  have HY := Lib.hid (ey _ rfl)
  have hyz := wrap32_zero b hb
  have hxr := wrap32_in a
  have hyr := wrap32_in b
  rw [HY.out] at hyz hyr
  rw [HX.out] at hxr
  obtain ⟨x1, x2⟩ := hxr
  obtain ⟨y1, y2⟩ := hyr
  rw [HX.out, HY.out]
  clear hyz
  go_enter Try.func19, Try.ntmps19
  go_wp2
  go_ret
  refine ⟨ret_eq ?_, rfl⟩
  first
    | with_reducible rfl
    | (rw [mulxy x y x1 x2 y1 y2]; done)
    | (rw [mulxb x b x1 x2 hb]; done)
    | (rw [(mulhu_w a b ha hb).1, (mulhu_w a b ha hb).2]; done)
    | trace_state
set_option maxHeartbeats 1000000 in
theorem slow_40 (a b : Nat) (ha : a < 4294967296) (hb : b < 4294967296) (w : World) : Calls Try.prog 19 #[.int .i64 40, .int .u32 a, .int .u32 b] w fun e w' => e = .returned (.int .u32 (doI 40 a b)) ∧ w = w' := by
  rw [doI_40]
  obtain ⟨x, ex⟩ : ∃ x, ∀ c : Int, c = (a : Int) → wrap32 c = x := ⟨wrap32 a, by rintro c rfl; rfl⟩
  obtain ⟨y, ey⟩ : ∃ y, ∀ c : Int, c = (b : Int) → wrap32 c = y := ⟨wrap32 b, by rintro c rfl; rfl⟩
  have HX := Lib.hid (ex _ rfl)
  have HY := Lib.hid (ey _ rfl)
  have hyz := wrap32_zero b hb
  have hxr := wrap32_in a
  have hyr := wrap32_in b
  rw [HY.out] at hyz hyr
  rw [HX.out] at hxr
  obtain ⟨x1, x2⟩ := hxr
  obtain ⟨y1, y2⟩ := hyr
  rw [HX.out]
  clear hyz
  go_enter Try.func19, Try.ntmps19
  go_wp2
  go_ret
  refine ⟨ret_eq ?_, rfl⟩
  first
    | with_reducible rfl
    | (rw [mulxy x y x1 x2 y1 y2]; done)
    | (rw [mulxb x b x1 x2 hb]; done)
    | (rw [(mulhu_w a b ha hb).1, (mulhu_w a b ha hb).2]; done)
    | trace_state
set_option maxHeartbeats 1000000 in
theorem slow_41 (a b : Nat) (ha : a < 4294967296) (hb : b < 4294967296) (w : World) : Calls Try.prog 19 #[.int .i64 41, .int .u32 a, .int .u32 b] w fun e w' => e = .returned (.int .u32 (doI 41 a b)) ∧ w = w' := by
  rw [doI_41]
  obtain ⟨x, ex⟩ : ∃ x, ∀ c : Int, c = (a : Int) → wrap32 c = x := ⟨wrap32 a, by rintro c rfl; rfl⟩
  obtain ⟨y, ey⟩ : ∃ y, ∀ c : Int, c = (b : Int) → wrap32 c = y := ⟨wrap32 b, by rintro c rfl; rfl⟩
  have HX := Lib.hid (ex _ rfl)
  have HY := Lib.hid (ey _ rfl)
  have hyz := wrap32_zero b hb
  have hxr := wrap32_in a
  have hyr := wrap32_in b
  rw [HY.out] at hyz hyr
  rw [HX.out] at hxr
  obtain ⟨x1, x2⟩ := hxr
  obtain ⟨y1, y2⟩ := hyr
  skip
  clear hyz
  go_enter Try.func19, Try.ntmps19
  go_wp2
  go_ret
  refine ⟨ret_eq ?_, rfl⟩
  first
    | with_reducible rfl
    | (rw [mulxy x y x1 x2 y1 y2]; done)
    | (rw [mulxb x b x1 x2 hb]; done)
    | (rw [(mulhu_w a b ha hb).1, (mulhu_w a b ha hb).2]; done)
    | trace_state
set_option maxHeartbeats 1000000 in
theorem slow_42 (a b : Nat) (ha : a < 4294967296) (hb : b < 4294967296) (w : World) : Calls Try.prog 19 #[.int .i64 42, .int .u32 a, .int .u32 b] w fun e w' => e = .returned (.int .u32 (doI 42 a b)) ∧ w = w' := by
  rw [doI_42]
  obtain ⟨x, ex⟩ : ∃ x, ∀ c : Int, c = (a : Int) → wrap32 c = x := ⟨wrap32 a, by rintro c rfl; rfl⟩
  obtain ⟨y, ey⟩ : ∃ y, ∀ c : Int, c = (b : Int) → wrap32 c = y := ⟨wrap32 b, by rintro c rfl; rfl⟩
  have HX := Lib.hid (ex _ rfl)
  have HY := Lib.hid (ey _ rfl)
  have hyz := wrap32_zero b hb
  have hxr := wrap32_in a
  have hyr := wrap32_in b
  rw [HY.out] at hyz hyr
  rw [HX.out] at hxr
  obtain ⟨x1, x2⟩ := hxr
  obtain ⟨y1, y2⟩ := hyr
  rw [HX.out, HY.out]
  by_cases h0 : b = 0
  · have hz0 : ((b : Int) == 0) = true := by simpa using h0
    rw [if_pos (by omega)]
    clear hyz h0
    go_enter Try.func19, Try.ntmps19
    go_wp2
    all_goals (go_ret; exact ⟨ret_eq (by with_reducible rfl), rfl⟩)
  · rw [if_neg (by omega)]
    have hz : ¬ y = 0 := by omega
    have hz1 : ((b : Int) == 0) = false := by simpa using h0
    have hz2 : ¬ (b : Int) = 0 := by omega
    clear hyz h0
    go_enter Try.func19, Try.ntmps19
    go_wp2
    all_goals go_ret
    all_goals refine ⟨ret_eq ?_, rfl⟩
    all_goals first
      | with_reducible rfl
      | exact mod_w64 _
      | exact div_small a b ha
      | trace_state
set_option maxHeartbeats 1000000 in
theorem slow_43 (a b : Nat) (ha : a < 4294967296) (hb : b < 4294967296) (w : World) : Calls Try.prog 19 #[.int .i64 43, .int .u32 a, .int .u32 b] w fun e w' => e = .returned (.int .u32 (doI 43 a b)) ∧ w = w' := by
  rw [doI_43]
  obtain ⟨x, ex⟩ : ∃ x, ∀ c : Int, c = (a : Int) → wrap32 c = x := ⟨wrap32 a, by rintro c rfl; rfl⟩
  obtain ⟨y, ey⟩ : ∃ y, ∀ c : Int, c = (b : Int) → wrap32 c = y := ⟨wrap32 b, by rintro c rfl; rfl⟩
  have HX := Lib.hid (ex _ rfl)
  have HY := Lib.hid (ey _ rfl)
  have hyz := wrap32_zero b hb
  have hxr := wrap32_in a
  have hyr := wrap32_in b
  rw [HY.out] at hyz hyr
  rw [HX.out] at hxr
  obtain ⟨x1, x2⟩ := hxr
  obtain ⟨y1, y2⟩ := hyr
  skip
  by_cases h0 : b = 0
  · have hz0 : ((b : Int) == 0) = true := by simpa using h0
    rw [if_pos (by omega)]
    clear hyz h0
    go_enter Try.func19, Try.ntmps19
    go_wp2
    all_goals (go_ret; exact ⟨ret_eq (by with_reducible rfl), rfl⟩)
  · rw [if_neg (by omega)]
    have hz : ¬ y = 0 := by omega
    have hz1 : ((b : Int) == 0) = false := by simpa using h0
    have hz2 : ¬ (b : Int) = 0 := by omega
    clear hyz h0
    go_enter Try.func19, Try.ntmps19
    go_wp2
    all_goals go_ret
    all_goals refine ⟨ret_eq ?_, rfl⟩
    all_goals first
      | with_reducible rfl
      | exact mod_w64 _
      | exact div_small a b ha
      | trace_state
set_option maxHeartbeats 1000000 in
theorem slow_44 (a b : Nat) (ha : a < 4294967296) (hb : b < 4294967296) (w : World) : Calls Try.prog 19 #[.int .i64 44, .int .u32 a, .int .u32 b] w fun e w' => e = .returned (.int .u32 (doI 44 a b)) ∧ w = w' := by
  rw [doI_44]
  obtain ⟨x, ex⟩ : ∃ x, ∀ c : Int, c = (a : Int) → wrap32 c = x := ⟨wrap32 a, by rintro c rfl; rfl⟩
  obtain ⟨y, ey⟩ : ∃ y, ∀ c : Int, c = (b : Int) → wrap32 c = y := ⟨wrap32 b, by rintro c rfl; rfl⟩
  have HX := Lib.hid (ex _ rfl)
  have HY := Lib.hid (ey _ rfl)
  have hyz := wrap32_zero b hb
  have hxr := wrap32_in a
  have hyr := wrap32_in b
  rw [HY.out] at hyz hyr
  rw [HX.out] at hxr
  obtain ⟨x1, x2⟩ := hxr
  obtain ⟨y1, y2⟩ := hyr
  rw [HX.out, HY.out]
  by_cases h0 : b = 0
  · have hz0 : ((b : Int) == 0) = true := by simpa using h0
    rw [if_pos (by omega)]
    clear hyz h0
    go_enter Try.func19, Try.ntmps19
    go_wp2
    all_goals (go_ret; exact ⟨ret_eq (by with_reducible rfl), rfl⟩)
  · rw [if_neg (by omega)]
    have hz : ¬ y = 0 := by omega
    have hz1 : ((b : Int) == 0) = false := by simpa using h0
    have hz2 : ¬ (b : Int) = 0 := by omega
    clear hyz h0
    go_enter Try.func19, Try.ntmps19
    go_wp2
    all_goals go_ret
    all_goals refine ⟨ret_eq ?_, rfl⟩
    all_goals first
      | with_reducible rfl
      | exact mod_w64 _
      | exact div_small a b ha
      | trace_state
set_option maxHeartbeats 1000000 in
theorem slow_45 (a b : Nat) (ha : a < 4294967296) (hb : b < 4294967296) (w : World) : Calls Try.prog 19 #[.int .i64 45, .int .u32 a, .int .u32 b] w fun e w' => e = .returned (.int .u32 (doI 45 a b)) ∧ w = w' := by
  rw [doI_45]
  obtain ⟨x, ex⟩ : ∃ x, ∀ c : Int, c = (a : Int) → wrap32 c = x := ⟨wrap32 a, by rintro c rfl; rfl⟩
  obtain ⟨y, ey⟩ : ∃ y, ∀ c : Int, c = (b : Int) → wrap32 c = y := ⟨wrap32 b, by rintro c rfl; rfl⟩
  have HX := Lib.hid (ex _ rfl)
  have HY := Lib.hid (ey _ rfl)
  have hyz := wrap32_zero b hb
  have hxr := wrap32_in a
  have hyr := wrap32_in b
  rw [HY.out] at hyz hyr
  rw [HX.out] at hxr
  obtain ⟨x1, x2⟩ := hxr
  obtain ⟨y1, y2⟩ := hyr
  skip
  by_cases h0 : b = 0
  · have hz0 : ((b : Int) == 0) = true := by simpa using h0
    rw [if_pos (by omega)]
    clear hyz h0
    go_enter Try.func19, Try.ntmps19
    go_wp2
    all_goals (go_ret; exact ⟨ret_eq (by with_reducible rfl), rfl⟩)
  · rw [if_neg (by omega)]
    have hz : ¬ y = 0 := by omega
    have hz1 : ((b : Int) == 0) = false := by simpa using h0
    have hz2 : ¬ (b : Int) = 0 := by omega
    clear hyz h0
    go_enter Try.func19, Try.ntmps19
    go_wp2
    all_goals go_ret
    all_goals refine ⟨ret_eq ?_, rfl⟩
    all_goals first
      | with_reducible rfl
      | exact mod_w64 _
      | exact div_small a b ha
      | trace_state
set_option maxHeartbeats 1000000 in
theorem dor_28 (a b : Nat) (ha : a < 4294967296) (hb : b < 4294967296) (w : World) : Calls Try.prog 13 #[.int .i64 28, .int .u32 a, .int .u32 b] w fun e w' => e = .returned (.int .u32 (doI 28 a b)) ∧ w = w' := by
  rw [doI_28]
  go_enter Try.func13, Try.ntmps13
  go_wp2
  go_ret
  exact ⟨ret_eq (rfl), rfl⟩
set_option maxHeartbeats 1000000 in
theorem dor_19 (a b : Nat) (ha : a < 4294967296) (hb : b < 4294967296) (w : World) : Calls Try.prog 13 #[.int .i64 19, .int .u32 a, .int .u32 b] w fun e w' => e = .returned (.int .u32 (doI 19 a b)) ∧ w = w' := by
  rw [doI_19]
  go_enter Try.func13, Try.ntmps13
  go_wp2
  go_ret
  exact ⟨ret_eq (rfl), rfl⟩
set_option maxHeartbeats 1000000 in
theorem dor_29 (a b : Nat) (ha : a < 4294967296) (hb : b < 4294967296) (w : World) : Calls Try.prog 13 #[.int .i64 29, .int .u32 a, .int .u32 b] w fun e w' => e = .returned (.int .u32 (doI 29 a b)) ∧ w = w' := by
  rw [doI_29]
  go_enter Try.func13, Try.ntmps13
  go_wp2
  go_ret
  exact ⟨ret_eq (rfl), rfl⟩
set_option maxHeartbeats 1000000 in
theorem dor_31 (a b : Nat) (ha : a < 4294967296) (hb : b < 4294967296) (w : World) : Calls Try.prog 13 #[.int .i64 31, .int .u32 a, .int .u32 b] w fun e w' => e = .returned (.int .u32 (doI 31 a b)) ∧ w = w' := by
  rw [doI_31]
  go_enter Try.func13, Try.ntmps13
  go_wp2_with (go_at_call 18; refine (cbitR _ _).mono ?_; rintro e w' ⟨rfl, rfl⟩)
  go_ret
  exact ⟨ret_eq (rfl), rfl⟩
set_option maxHeartbeats 1000000 in
theorem dor_20 (a b : Nat) (ha : a < 4294967296) (hb : b < 4294967296) (w : World) : Calls Try.prog 13 #[.int .i64 20, .int .u32 a, .int .u32 b] w fun e w' => e = .returned (.int .u32 (doI 20 a b)) ∧ w = w' := by
  rw [doI_20]
  go_enter Try.func13, Try.ntmps13
  go_wp2_with (go_at_call 18; refine (cbitR _ _).mono ?_; rintro e w' ⟨rfl, rfl⟩)
  go_ret
  exact ⟨ret_eq (rfl), rfl⟩
set_option maxHeartbeats 1000000 in
theorem dor_32 (a b : Nat) (ha : a < 4294967296) (hb : b < 4294967296) (w : World) : Calls Try.prog 13 #[.int .i64 32, .int .u32 a, .int .u32 b] w fun e w' => e = .returned (.int .u32 (doI 32 a b)) ∧ w = w' := by
  rw [doI_32]
  go_enter Try.func13, Try.ntmps13
  go_wp2_with (go_at_call 18; refine (cbitR _ _).mono ?_; rintro e w' ⟨rfl, rfl⟩)
  go_ret
  exact ⟨ret_eq (by congr 1; exact decide_eq_decide.2 (by omega)), rfl⟩
set_option maxHeartbeats 1000000 in
theorem dor_21 (a b : Nat) (ha : a < 4294967296) (hb : b < 4294967296) (w : World) : Calls Try.prog 13 #[.int .i64 21, .int .u32 a, .int .u32 b] w fun e w' => e = .returned (.int .u32 (doI 21 a b)) ∧ w = w' := by
  rw [doI_21]
  go_enter Try.func13, Try.ntmps13
  go_wp2_with (go_at_call 18; refine (cbitR _ _).mono ?_; rintro e w' ⟨rfl, rfl⟩)
  go_ret
  exact ⟨ret_eq (by congr 1; exact decide_eq_decide.2 (by omega)), rfl⟩
set_option maxHeartbeats 1000000 in
theorem dor_33 (a b : Nat) (ha : a < 4294967296) (hb : b < 4294967296) (w : World) : Calls Try.prog 13 #[.int .i64 33, .int .u32 a, .int .u32 b] w fun e w' => e = .returned (.int .u32 (doI 33 a b)) ∧ w = w' := by
  rw [doI_33]
  go_enter Try.func13, Try.ntmps13
  go_wp2
  go_ret
  exact ⟨ret_eq (rfl), rfl⟩
set_option maxHeartbeats 1000000 in
theorem dor_22 (a b : Nat) (ha : a < 4294967296) (hb : b < 4294967296) (w : World) : Calls Try.prog 13 #[.int .i64 22, .int .u32 a, .int .u32 b] w fun e w' => e = .returned (.int .u32 (doI 22 a b)) ∧ w = w' := by
  rw [doI_22]
  go_enter Try.func13, Try.ntmps13
  go_wp2
  go_ret
  exact ⟨ret_eq (rfl), rfl⟩
set_option maxHeartbeats 1000000 in
theorem dor_36 (a b : Nat) (ha : a < 4294967296) (hb : b < 4294967296) (w : World) : Calls Try.prog 13 #[.int .i64 36, .int .u32 a, .int .u32 b] w fun e w' => e = .returned (.int .u32 (doI 36 a b)) ∧ w = w' := by
  rw [doI_36]
  go_enter Try.func13, Try.ntmps13
  go_wp2
  go_ret
  exact ⟨ret_eq (rfl), rfl⟩
set_option maxHeartbeats 1000000 in
theorem dor_23 (a b : Nat) (ha : a < 4294967296) (hb : b < 4294967296) (w : World) : Calls Try.prog 13 #[.int .i64 23, .int .u32 a, .int .u32 b] w fun e w' => e = .returned (.int .u32 (doI 23 a b)) ∧ w = w' := by
  rw [doI_23]
  go_enter Try.func13, Try.ntmps13
  go_wp2
  go_ret
  exact ⟨ret_eq (rfl), rfl⟩
set_option maxHeartbeats 1000000 in
theorem dor_37 (a b : Nat) (ha : a < 4294967296) (hb : b < 4294967296) (w : World) : Calls Try.prog 13 #[.int .i64 37, .int .u32 a, .int .u32 b] w fun e w' => e = .returned (.int .u32 (doI 37 a b)) ∧ w = w' := by
  rw [doI_37]
  go_enter Try.func13, Try.ntmps13
  go_wp2
  go_ret
  exact ⟨ret_eq (rfl), rfl⟩
set_option maxHeartbeats 1000000 in
theorem dor_24 (a b : Nat) (ha : a < 4294967296) (hb : b < 4294967296) (w : World) : Calls Try.prog 13 #[.int .i64 24, .int .u32 a, .int .u32 b] w fun e w' => e = .returned (.int .u32 (doI 24 a b)) ∧ w = w' := by
  rw [doI_24]
  go_enter Try.func13, Try.ntmps13
  go_wp2
  go_ret
  exact ⟨ret_eq (rfl), rfl⟩
set_option maxHeartbeats 1000000 in
theorem dor_30 (a b : Nat) (ha : a < 4294967296) (hb : b < 4294967296) (w : World) : Calls Try.prog 13 #[.int .i64 30, .int .u32 a, .int .u32 b] w fun e w' => e = .returned (.int .u32 (doI 30 a b)) ∧ w = w' := by
  rw [doI_30]
  obtain ⟨s, hs, hs32, es⟩ := low5 b hb
  rw [← hs]
  have hsi : (s : Int) ≤ 32 := by omega
  clear hs
  go_enter Try.func13, Try.ntmps13
  go_wp2
  go_ret
  exact ⟨ret_eq (rfl), rfl⟩
set_option maxHeartbeats 1000000 in
theorem dor_25 (a b : Nat) (ha : a < 4294967296) (hb : b < 4294967296) (w : World) : Calls Try.prog 13 #[.int .i64 25, .int .u32 a, .int .u32 b] w fun e w' => e = .returned (.int .u32 (doI 25 a b)) ∧ w = w' := by
  rw [doI_25]
  obtain ⟨s, hs, hs32, es⟩ := low5 b hb
  rw [← hs]
  have hsi : (s : Int) ≤ 32 := by omega
  clear hs
  go_enter Try.func13, Try.ntmps13
  go_wp2
  go_ret
  exact ⟨ret_eq (rfl), rfl⟩
set_option maxHeartbeats 1000000 in
theorem dor_34 (a b : Nat) (ha : a < 4294967296) (hb : b < 4294967296) (w : World) : Calls Try.prog 13 #[.int .i64 34, .int .u32 a, .int .u32 b] w fun e w' => e = .returned (.int .u32 (doI 34 a b)) ∧ w = w' := by
  rw [doI_34]
  obtain ⟨s, hs, hs32, es⟩ := low5 b hb
  rw [← hs]
  have hsi : (s : Int) ≤ 32 := by omega
  clear hs
  go_enter Try.func13, Try.ntmps13
  go_wp2
  go_ret
  exact ⟨ret_eq (rfl), rfl⟩
set_option maxHeartbeats 1000000 in
theorem dor_26 (a b : Nat) (ha : a < 4294967296) (hb : b < 4294967296) (w : World) : Calls Try.prog 13 #[.int .i64 26, .int .u32 a, .int .u32 b] w fun e w' => e = .returned (.int .u32 (doI 26 a b)) ∧ w = w' := by
  rw [doI_26]
  obtain ⟨s, hs, hs32, es⟩ := low5 b hb
  rw [← hs]
  have hsi : (s : Int) ≤ 32 := by omega
  clear hs
  go_enter Try.func13, Try.ntmps13
  go_wp2
  go_ret
  exact ⟨ret_eq (rfl), rfl⟩
set_option maxHeartbeats 1000000 in
theorem dor_35 (a b : Nat) (ha : a < 4294967296) (hb : b < 4294967296) (w : World) : Calls Try.prog 13 #[.int .i64 35, .int .u32 a, .int .u32 b] w fun e w' => e = .returned (.int .u32 (doI 35 a b)) ∧ w = w' := by
  rw [doI_35]
  obtain ⟨s, hs, hs32, es⟩ := low5 b hb
  rw [← hs]
  have hsi : (s : Int) ≤ 32 := by omega
  clear hs
  go_enter Try.func13, Try.ntmps13
  go_wp2
  go_ret
  exact ⟨ret_eq (rfl), rfl⟩
set_option maxHeartbeats 1000000 in
theorem dor_27 (a b : Nat) (ha : a < 4294967296) (hb : b < 4294967296) (w : World) : Calls Try.prog 13 #[.int .i64 27, .int .u32 a, .int .u32 b] w fun e w' => e = .returned (.int .u32 (doI 27 a b)) ∧ w = w' := by
  rw [doI_27]
  obtain ⟨s, hs, hs32, es⟩ := low5 b hb
  rw [← hs]
  have hsi : (s : Int) ≤ 32 := by omega
  clear hs
  go_enter Try.func13, Try.ntmps13
  go_wp2
  go_ret
  exact ⟨ret_eq (rfl), rfl⟩
set_option maxHeartbeats 1000000 in
theorem dor_38 (a b : Nat) (ha : a < 4294967296) (hb : b < 4294967296) (w : World) : Calls Try.prog 13 #[.int .i64 38, .int .u32 a, .int .u32 b] w fun e w' => e = .returned (.int .u32 (doI 38 a b)) ∧ w = w' := by
  have hd := slow_38 a b ha hb
  generalize doI 38 a b = r at hd ⊢
  have HD := Lib.hid hd
  clear hd
  go_enter Try.func13, Try.ntmps13
  go_wp2_with (go_at_call 19; refine (HD.out _).mono ?_; rintro e w' ⟨rfl, rfl⟩)
  go_ret
  exact ⟨rfl, rfl⟩
set_option maxHeartbeats 1000000 in
theorem dor_39 (a b : Nat) (ha : a < 4294967296) (hb : b < 4294967296) (w : World) : Calls Try.prog 13 #[.int .i64 39, .int .u32 a, .int .u32 b] w fun e w' => e = .returned (.int .u32 (doI 39 a b)) ∧ w = w' := by
  have hd := slow_39 a b ha hb
  generalize doI 39 a b = r at hd ⊢
  have HD := Lib.hid hd
  clear hd
  go_enter Try.func13, Try.ntmps13
  go_wp2_with (go_at_call 19; refine (HD.out _).mono ?_; rintro e w' ⟨rfl, rfl⟩)
  go_ret
  exact ⟨rfl, rfl⟩
set_option maxHeartbeats 1000000 in
theorem dor_40 (a b : Nat) (ha : a < 4294967296) (hb : b < 4294967296) (w : World) : Calls Try.prog 13 #[.int .i64 40, .int .u32 a, .int .u32 b] w fun e w' => e = .returned (.int .u32 (doI 40 a b)) ∧ w = w' := by
  have hd := slow_40 a b ha hb
  generalize doI 40 a b = r at hd ⊢
  have HD := Lib.hid hd
  clear hd
  go_enter Try.func13, Try.ntmps13
  go_wp2_with (go_at_call 19; refine (HD.out _).mono ?_; rintro e w' ⟨rfl, rfl⟩)
  go_ret
  exact ⟨rfl, rfl⟩
set_option maxHeartbeats 1000000 in
theorem dor_41 (a b : Nat) (ha : a < 4294967296) (hb : b < 4294967296) (w : World) : Calls Try.prog 13 #[.int .i64 41, .int .u32 a, .int .u32 b] w fun e w' => e = .returned (.int .u32 (doI 41 a b)) ∧ w = w' := by
  have hd := slow_41 a b ha hb
  generalize doI 41 a b = r at hd ⊢
  have HD := Lib.hid hd
  clear hd
  go_enter Try.func13, Try.ntmps13
  go_wp2_with (go_at_call 19; refine (HD.out _).mono ?_; rintro e w' ⟨rfl, rfl⟩)
  go_ret
  exact ⟨rfl, rfl⟩
set_option maxHeartbeats 1000000 in
theorem dor_42 (a b : Nat) (ha : a < 4294967296) (hb : b < 4294967296) (w : World) : Calls Try.prog 13 #[.int .i64 42, .int .u32 a, .int .u32 b] w fun e w' => e = .returned (.int .u32 (doI 42 a b)) ∧ w = w' := by
  have hd := slow_42 a b ha hb
  generalize doI 42 a b = r at hd ⊢
  have HD := Lib.hid hd
  clear hd
  go_enter Try.func13, Try.ntmps13
  go_wp2_with (go_at_call 19; refine (HD.out _).mono ?_; rintro e w' ⟨rfl, rfl⟩)
  go_ret
  exact ⟨rfl, rfl⟩
set_option maxHeartbeats 1000000 in
theorem dor_43 (a b : Nat) (ha : a < 4294967296) (hb : b < 4294967296) (w : World) : Calls Try.prog 13 #[.int .i64 43, .int .u32 a, .int .u32 b] w fun e w' => e = .returned (.int .u32 (doI 43 a b)) ∧ w = w' := by
  have hd := slow_43 a b ha hb
  generalize doI 43 a b = r at hd ⊢
  have HD := Lib.hid hd
  clear hd
  go_enter Try.func13, Try.ntmps13
  go_wp2_with (go_at_call 19; refine (HD.out _).mono ?_; rintro e w' ⟨rfl, rfl⟩)
  go_ret
  exact ⟨rfl, rfl⟩
set_option maxHeartbeats 1000000 in
theorem dor_44 (a b : Nat) (ha : a < 4294967296) (hb : b < 4294967296) (w : World) : Calls Try.prog 13 #[.int .i64 44, .int .u32 a, .int .u32 b] w fun e w' => e = .returned (.int .u32 (doI 44 a b)) ∧ w = w' := by
  have hd := slow_44 a b ha hb
  generalize doI 44 a b = r at hd ⊢
  have HD := Lib.hid hd
  clear hd
  go_enter Try.func13, Try.ntmps13
  go_wp2_with (go_at_call 19; refine (HD.out _).mono ?_; rintro e w' ⟨rfl, rfl⟩)
  go_ret
  exact ⟨rfl, rfl⟩
set_option maxHeartbeats 1000000 in
theorem dor_45 (a b : Nat) (ha : a < 4294967296) (hb : b < 4294967296) (w : World) : Calls Try.prog 13 #[.int .i64 45, .int .u32 a, .int .u32 b] w fun e w' => e = .returned (.int .u32 (doI 45 a b)) ∧ w = w' := by
  have hd := slow_45 a b ha hb
  generalize doI 45 a b = r at hd ⊢
  have HD := Lib.hid hd
  clear hd
  go_enter Try.func13, Try.ntmps13
  go_wp2_with (go_at_call 19; refine (HD.out _).mono ?_; rintro e w' ⟨rfl, rfl⟩)
  go_ret
  exact ⟨rfl, rfl⟩
set_option maxHeartbeats 2000000 in
theorem slow_none (op : Int) (a b : Nat) (ho : op < 19 ∨ 45 < op) (w : World) : Calls Try.prog 19 #[.int .i64 op, .int .u32 a, .int .u32 b] w fun e w' => e = .returned (.int .u32 0) ∧ w = w' := by
  have f19 : (op == 19) = false := by rw [beq_eq_false_iff_ne]; omega
  have f20 : (op == 20) = false := by rw [beq_eq_false_iff_ne]; omega
  have f21 : (op == 21) = false := by rw [beq_eq_false_iff_ne]; omega
  have f22 : (op == 22) = false := by rw [beq_eq_false_iff_ne]; omega
  have f23 : (op == 23) = false := by rw [beq_eq_false_iff_ne]; omega
  have f24 : (op == 24) = false := by rw [beq_eq_false_iff_ne]; omega
  have f25 : (op == 25) = false := by rw [beq_eq_false_iff_ne]; omega
  have f26 : (op == 26) = false := by rw [beq_eq_false_iff_ne]; omega
  have f27 : (op == 27) = false := by rw [beq_eq_false_iff_ne]; omega
  have f28 : (op == 28) = false := by rw [beq_eq_false_iff_ne]; omega
  have f29 : (op == 29) = false := by rw [beq_eq_false_iff_ne]; omega
  have f30 : (op == 30) = false := by rw [beq_eq_false_iff_ne]; omega
  have f31 : (op == 31) = false := by rw [beq_eq_false_iff_ne]; omega
  have f32 : (op == 32) = false := by rw [beq_eq_false_iff_ne]; omega
  have f33 : (op == 33) = false := by rw [beq_eq_false_iff_ne]; omega
  have f34 : (op == 34) = false := by rw [beq_eq_false_iff_ne]; omega
  have f35 : (op == 35) = false := by rw [beq_eq_false_iff_ne]; omega
  have f36 : (op == 36) = false := by rw [beq_eq_false_iff_ne]; omega
  have f37 : (op == 37) = false := by rw [beq_eq_false_iff_ne]; omega
  have f38 : (op == 38) = false := by rw [beq_eq_false_iff_ne]; omega
  have f39 : (op == 39) = false := by rw [beq_eq_false_iff_ne]; omega
  have f40 : (op == 40) = false := by rw [beq_eq_false_iff_ne]; omega
  have f41 : (op == 41) = false := by rw [beq_eq_false_iff_ne]; omega
  have f42 : (op == 42) = false := by rw [beq_eq_false_iff_ne]; omega
  have f43 : (op == 43) = false := by rw [beq_eq_false_iff_ne]; omega
  have f44 : (op == 44) = false := by rw [beq_eq_false_iff_ne]; omega
  have f45 : (op == 45) = false := by rw [beq_eq_false_iff_ne]; omega
  obtain ⟨x, ex⟩ : ∃ x, ∀ c : Int, c = (a : Int) → wrap32 c = x := ⟨wrap32 a, by rintro c rfl; rfl⟩
  obtain ⟨y, ey⟩ : ∃ y, ∀ c : Int, c = (b : Int) → wrap32 c = y := ⟨wrap32 b, by rintro c rfl; rfl⟩
  clear ho
  go_enter Try.func19, Try.ntmps19
  go_wp2
  all_goals (go_ret; exact ⟨rfl, rfl⟩)
set_option maxHeartbeats 2000000 in
set_option maxRecDepth 10000 in
theorem dor_none (op : Int) (a b : Nat) (ho : op < 19 ∨ 45 < op) (w : World) : Calls Try.prog 13 #[.int .i64 op, .int .u32 a, .int .u32 b] w fun e w' => e = .returned (.int .u32 (doI op a b)) ∧ w = w' := by
  rw [doI_none op a b ho]
  have f19 : (op == 19) = false := by rw [beq_eq_false_iff_ne]; omega
  have f20 : (op == 20) = false := by rw [beq_eq_false_iff_ne]; omega
  have f21 : (op == 21) = false := by rw [beq_eq_false_iff_ne]; omega
  have f22 : (op == 22) = false := by rw [beq_eq_false_iff_ne]; omega
  have f23 : (op == 23) = false := by rw [beq_eq_false_iff_ne]; omega
  have f24 : (op == 24) = false := by rw [beq_eq_false_iff_ne]; omega
  have f25 : (op == 25) = false := by rw [beq_eq_false_iff_ne]; omega
  have f26 : (op == 26) = false := by rw [beq_eq_false_iff_ne]; omega
  have f27 : (op == 27) = false := by rw [beq_eq_false_iff_ne]; omega
  have f28 : (op == 28) = false := by rw [beq_eq_false_iff_ne]; omega
  have f29 : (op == 29) = false := by rw [beq_eq_false_iff_ne]; omega
  have f30 : (op == 30) = false := by rw [beq_eq_false_iff_ne]; omega
  have f31 : (op == 31) = false := by rw [beq_eq_false_iff_ne]; omega
  have f32 : (op == 32) = false := by rw [beq_eq_false_iff_ne]; omega
  have f33 : (op == 33) = false := by rw [beq_eq_false_iff_ne]; omega
  have f34 : (op == 34) = false := by rw [beq_eq_false_iff_ne]; omega
  have f35 : (op == 35) = false := by rw [beq_eq_false_iff_ne]; omega
  have f36 : (op == 36) = false := by rw [beq_eq_false_iff_ne]; omega
  have f37 : (op == 37) = false := by rw [beq_eq_false_iff_ne]; omega
  have f38 : (op == 38) = false := by rw [beq_eq_false_iff_ne]; omega
  have f39 : (op == 39) = false := by rw [beq_eq_false_iff_ne]; omega
  have f40 : (op == 40) = false := by rw [beq_eq_false_iff_ne]; omega
  have f41 : (op == 41) = false := by rw [beq_eq_false_iff_ne]; omega
  have f42 : (op == 42) = false := by rw [beq_eq_false_iff_ne]; omega
  have f43 : (op == 43) = false := by rw [beq_eq_false_iff_ne]; omega
  have f44 : (op == 44) = false := by rw [beq_eq_false_iff_ne]; omega
  have f45 : (op == 45) = false := by rw [beq_eq_false_iff_ne]; omega
  have HO := Lib.hid ho
  clear ho
  go_enter Try.func13, Try.ntmps13
  go_wp2_with (go_at_call 19; refine (slow_none op a b HO.out _).mono ?_; rintro e w' ⟨rfl, rfl⟩)
  go_ret
  exact ⟨rfl, rfl⟩
theorem cDoR (op : Int) (a b : Nat) (ha : a < 4294967296) (hb : b < 4294967296) (w : World) : Calls Try.prog 13 #[.int .i64 op, .int .u32 a, .int .u32 b] w fun e w' => e = .returned (.int .u32 (doI op a b)) ∧ w = w' := by
  by_cases ho : op < 19 ∨ 45 < op
  · exact dor_none op a b ho w
  · rcases (show op = 19 ∨ op = 20 ∨ op = 21 ∨ op = 22 ∨ op = 23 ∨ op = 24 ∨ op = 25 ∨ op = 26 ∨ op = 27 ∨ op = 28 ∨ op = 29 ∨ op = 30 ∨ op = 31 ∨ op = 32 ∨ op = 33 ∨ op = 34 ∨ op = 35 ∨ op = 36 ∨ op = 37 ∨ op = 38 ∨ op = 39 ∨ op = 40 ∨ op = 41 ∨ op = 42 ∨ op = 43 ∨ op = 44 ∨ op = 45 by omega) with rfl | rfl | rfl | rfl | rfl | rfl | rfl | rfl | rfl | rfl | rfl | rfl | rfl | rfl | rfl | rfl | rfl | rfl | rfl | rfl | rfl | rfl | rfl | rfl | rfl | rfl | rfl
    · exact dor_19 a b ha hb w
    · exact dor_20 a b ha hb w
    · exact dor_21 a b ha hb w
    · exact dor_22 a b ha hb w
    · exact dor_23 a b ha hb w
    · exact dor_24 a b ha hb w
    · exact dor_25 a b ha hb w
    · exact dor_26 a b ha hb w
    · exact dor_27 a b ha hb w
    · exact dor_28 a b ha hb w
    · exact dor_29 a b ha hb w
    · exact dor_30 a b ha hb w
    · exact dor_31 a b ha hb w
    · exact dor_32 a b ha hb w
    · exact dor_33 a b ha hb w
    · exact dor_34 a b ha hb w
    · exact dor_35 a b ha hb w
    · exact dor_36 a b ha hb w
    · exact dor_37 a b ha hb w
    · exact dor_38 a b ha hb w
    · exact dor_39 a b ha hb w
    · exact dor_40 a b ha hb w
    · exact dor_41 a b ha hb w
    · exact dor_42 a b ha hb w
    · exact dor_43 a b ha hb w
    · exact dor_44 a b ha hb w
    · exact dor_45 a b ha hb w
end Go.Proofs.Ytfgemmiahgmmbaa.Alu
