/- The laws AlignBack and AlignParts, walked by the contracts of package align's functions. -/
import Derived.Test.YteabaipppalpjaaTells
import Derived.Test.YteabaipppalpjaaByt
set_option linter.unusedVariables false
set_option linter.unusedSimpArgs false
namespace Go.Proofs.Yteabaipppalpjaa.Al
open Go.RowKit Go.Proofs.Yteabaipppalpjaa.Bv
theorem base_of (a : Nat) (ha : a < 4294967296) : ∃ b : Nat, Go.bits .andNot .u32 (a : Int) 3 = (b : Int) ∧ b % 4 = 0 ∧ b ≤ 4294967292 := by
  have e := clear32 2 0 (by decide) (a : Int) (by omega) (by omega) 3 (by decide)
  refine ⟨a - a % 4, ?_, by omega, by omega⟩
  rw [e]; simp only [Int.pow_zero, Int.ediv_one, Int.mul_one]; omega
theorem st_val (op : Int) (a n z r : Nat) (ha : a < 4294967296) (hn : n < 4294967296) (hf : fitsB op a = true) (hs : storeB op = true) (hz : sizeOf op = z) (hr : a % 4 = r) (D : Nat) (M : Int) (hD : D = n % 256 ^ z * 256 ^ r) (hM : M = (2 ^ z - 1) * 2 ^ r) (A X : Int) (ea : A = a) (ex : X = n) (w : World) :
    Calls Try.prog 9 #[.int .i64 op, .int .u32 A, .int .u32 X] w fun e w' => e = .returned (.tuple #[.int .u32 D, .int .i64 M]) ∧ w = w' := by
  subst ea; subst ex
  have h := cStore op a n ha hn w
  obtain ⟨y1, y2⟩ := st_yes op a n z r hf hs hz hr
  rw [y1, y2] at h
  rw [hD, hM]; exact h
theorem fits16 (a : Nat) : fitsB 16 a = true := by unfold fitsB; simp [show sizeOf 16 = 1 from rfl]
theorem fits17 (a : Nat) (h : a % 2 = 0) : fitsB 17 a = true := by unfold fitsB; simp [show sizeOf 17 = 2 from rfl]; omega
theorem fits18 (a : Nat) (h : a % 4 = 0) : fitsB 18 a = true := by unfold fitsB; simp [show sizeOf 18 = 4 from rfl]; omega
theorem fourk {k : Nat} (h : k < 4) : k = 0 ∨ k = 1 ∨ k = 2 ∨ k = 3 := by omega
theorem bs_0 (o n : Nat) (ho : o < 4294967296) : merge (mid o n 15 0) (n % 256) 1 = mid o n 15 1 := by
  have h := byte_step o n 0 ho (by decide)
  simpa using h
theorem bs_1 (o n : Nat) (ho : o < 4294967296) : merge (mid o n 15 1) (n / 256 % 256 * 256) 2 = mid o n 15 2 := by
  have h := byte_step o n 1 ho (by decide)
  simpa using h
theorem bs_2 (o n : Nat) (ho : o < 4294967296) : merge (mid o n 15 2) (n / 65536 % 256 * 65536) 4 = mid o n 15 3 := by
  have h := byte_step o n 2 ho (by decide)
  simpa using h
theorem bs_3 (o n : Nat) (ho : o < 4294967296) : merge (mid o n 15 3) (n / 16777216 % 256 * 16777216) 8 = mid o n 15 4 := by
  have h := byte_step o n 3 ho (by decide)
  simpa using h
set_option maxHeartbeats 2000000 in
theorem parts_calls (n o a : Nat) (hn : n < 4294967296) (ho : o < 4294967296) (ha : a < 4294967296) (w : World) : Calls Try.prog 6 #[.int .u32 n, .int .u32 o, .int .u32 a] w fun e w' => e = .returned (.bool true) ∧ w = w' := by
  obtain ⟨b, hb, hb4, hbm⟩ := base_of a ha
  have HO := Lib.hid ho
  have HN := Lib.hid hn
  have HB := Lib.hid hb4
  have hd1 : n / 256 < 4294967296 := div_lt n 256 hn
  have hd2 : n / 65536 < 4294967296 := div_lt n 65536 hn
  have hd3 : n / 16777216 < 4294967296 := div_lt n 16777216 hn
  have HD1 := Lib.hid hd1
  have HD2 := Lib.hid hd2
  have HD3 := Lib.hid hd3
  clear ho hb4 hd1 hd2 hd3
  go_enter Try.func6, Try.ntmps6
  go_wp2_with fail
  go_loop [8, 10] (fun v c => ∃ k : Nat, k ≤ 4 ∧ v = .int .u32 (mid o n 15 k) ∧ c = .int .u32 k) (fun _ c => 4 - (intOf c).toNat)
  case atStart => exact ⟨0, by omega, by rw [mid_0], rfl⟩
  case round =>
    obtain ⟨k, hk, rfl, rfl⟩ := hrel
    by_cases hlt : k < 4
    · rcases fourk hlt with rfl | rfl | rfl | rfl
      · go_wp2_with fail
        refine (st_val 16 (b + 0) n 1 0 (by omega) HN.out (fits16 _) rfl rfl (by have := HB.out; omega) (n % 256) 1 (by simp) (by decide) _ _ (by omega) (by first | rfl | omega) _).mono ?_
        rintro e w' ⟨rfl, rfl⟩
        go_wp2_with fail
        refine (cMergeV _ _ (mid o n 15 0) (n % 256) 1 rfl (by first | rfl | omega) (mid_lt o n 15 HO.out 0 (by decide)) (by omega) _).mono ?_
        rintro e w' ⟨rfl, rfl⟩
        go_wp2_with fail
        go_round
        case rel => exact ⟨1, by omega, by rw [bs_0 o n HO.out], rfl⟩
        case measure => simp [intOf]
      · go_wp2_with fail
        refine (st_val 16 (b + 1) (n / 256) 1 1 (by omega) HD1.out (fits16 _) rfl rfl (by have := HB.out; omega) (n / 256 % 256 * 256) 2 (by simp) (by decide) _ _ (by omega) (by first | rfl | omega) _).mono ?_
        rintro e w' ⟨rfl, rfl⟩
        go_wp2_with fail
        refine (cMergeV _ _ (mid o n 15 1) (n / 256 % 256 * 256) 2 rfl (by first | rfl | omega) (mid_lt o n 15 HO.out 1 (by decide)) (by omega) _).mono ?_
        rintro e w' ⟨rfl, rfl⟩
        go_wp2_with fail
        go_round
        case rel => exact ⟨2, by omega, by rw [bs_1 o n HO.out], rfl⟩
        case measure => simp [intOf]
      · go_wp2_with fail
        refine (st_val 16 (b + 2) (n / 65536) 1 2 (by omega) HD2.out (fits16 _) rfl rfl (by have := HB.out; omega) (n / 65536 % 256 * 65536) 4 (by simp) (by decide) _ _ (by omega) (by first | rfl | omega) _).mono ?_
        rintro e w' ⟨rfl, rfl⟩
        go_wp2_with fail
        refine (cMergeV _ _ (mid o n 15 2) (n / 65536 % 256 * 65536) 4 rfl (by first | rfl | omega) (mid_lt o n 15 HO.out 2 (by decide)) (by omega) _).mono ?_
        rintro e w' ⟨rfl, rfl⟩
        go_wp2_with fail
        go_round
        case rel => exact ⟨3, by omega, by rw [bs_2 o n HO.out], rfl⟩
        case measure => simp [intOf]
      · go_wp2_with fail
        refine (st_val 16 (b + 3) (n / 16777216) 1 3 (by omega) HD3.out (fits16 _) rfl rfl (by have := HB.out; omega) (n / 16777216 % 256 * 16777216) 8 (by simp) (by decide) _ _ (by omega) (by first | rfl | omega) _).mono ?_
        rintro e w' ⟨rfl, rfl⟩
        go_wp2_with fail
        refine (cMergeV _ _ (mid o n 15 3) (n / 16777216 % 256 * 16777216) 8 rfl (by first | rfl | omega) (mid_lt o n 15 HO.out 3 (by decide)) (by omega) _).mono ?_
        rintro e w' ⟨rfl, rfl⟩
        go_wp2_with fail
        go_round
        case rel => exact ⟨4, by omega, by rw [bs_3 o n HO.out], rfl⟩
        case measure => simp [intOf]
    · obtain rfl : k = 4 := by omega
      have e4 := mid15_4 o n HO.out hn
      rw [e4]
      clear e4
      go_wp2_with fail
      go_loop [9, 13] (fun v c => ∃ k : Nat, (k = 0 ∨ k = 2 ∨ k = 4) ∧ v = .int .u32 (mid o n 15 k) ∧ c = .int .u32 k) (fun _ c => 4 - (intOf c).toNat)
      case atStart => exact ⟨0, by omega, by rw [mid_0], rfl⟩
      case round =>
        obtain ⟨k, hk, rfl, rfl⟩ := hrel
        rcases hk with rfl | rfl | rfl
        · go_wp2_with fail
          refine (st_val 17 (b + 0) n 2 0 (by omega) HN.out (fits17 _ (by have := HB.out; omega)) rfl rfl (by have := HB.out; omega) (n % 65536) 3 (by simp) (by decide) _ _ (by omega) (by first | rfl | omega) _).mono ?_
          rintro e w' ⟨rfl, rfl⟩
          go_wp2_with fail
          refine (cMergeV _ _ (mid o n 15 0) (n % 65536) 3 rfl (by first | rfl | omega) (mid_lt o n 15 HO.out 0 (by decide)) (by omega) _).mono ?_
          rintro e w' ⟨rfl, rfl⟩
          go_wp2_with fail
          go_round
          case rel => exact ⟨2, by omega, by rw [mid_0, half_0 o n HO.out], rfl⟩
          case measure => simp [intOf]
        · go_wp2_with fail
          refine (st_val 17 (b + 2) (n / 65536) 2 2 (by omega) HD2.out (fits17 _ (by have := HB.out; omega)) rfl rfl (by have := HB.out; omega) (n / 65536 % 65536 * 65536) 12 (by simp) (by decide) _ _ (by omega) (by first | rfl | omega) _).mono ?_
          rintro e w' ⟨rfl, rfl⟩
          go_wp2_with fail
          refine (cMergeV _ _ (mid o n 15 2) (n / 65536 % 65536 * 65536) 12 rfl (by first | rfl | omega) (mid_lt o n 15 HO.out 2 (by decide)) (by omega) _).mono ?_
          rintro e w' ⟨rfl, rfl⟩
          go_wp2_with fail
          go_round
          case rel => exact ⟨4, by omega, by rw [half_2 o n HO.out HN.out, mid15_4 o n HO.out HN.out], rfl⟩
          case measure => simp [intOf]
        · have e4 := mid15_4 o n HO.out hn
          rw [e4]
          clear e4
          go_wp2_with fail
          refine (st_val 18 b n 4 0 (by omega) HN.out (fits18 _ HB.out) rfl rfl HB.out n 15 (by simp; omega) (by decide) _ _ rfl rfl _).mono ?_
          rintro e w' ⟨rfl, rfl⟩
          go_wp2_with fail
          refine (cknown _).mono ?_
          rintro e w' ⟨rfl, rfl⟩
          go_wp2_with fail
          go_ret
          exact ⟨rfl, rfl⟩
end Go.Proofs.Yteabaipppalpjaa.Al
