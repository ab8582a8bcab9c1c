/- The contracts of Merge and of its reference's. -/
import Derived.Test.YteabaipppalpjaaAl
set_option linter.unusedVariables false
set_option linter.unusedSimpArgs false
namespace Go.Proofs.Yteabaipppalpjaa.Al
open Go.RowKit Go.Proofs.Yteabaipppalpjaa.Bv
theorem four {k : Nat} (h : k < 4) : k = 0 ∨ k = 1 ∨ k = 2 ∨ k = 3 := by omega
set_option maxHeartbeats 1000000 in
theorem cMerge (o d : Nat) (m : Int) (ho : o < 4294967296) (hd : d < 4294967296) (w : World) : Calls Try.prog 11 #[.int .u32 o, .int .u32 d, .int .i64 m] w fun e w' => e = .returned (.int .u32 (merge o d m)) ∧ w = w' := by
  have HO := Lib.hid ho
  have HD := Lib.hid hd
  clear ho hd
  go_enter Try.func11, Try.ntmps11
  go_wp2_with fail
  go_loop [0, 9] (fun v c => ∃ k : Nat, k ≤ 4 ∧ v = .int .u32 (mid o d m k) ∧ c = .int .i64 k) (fun _ c => 4 - (intOf c).toNat)
  case atStart => exact ⟨0, by omega, by rw [mid_0], rfl⟩
  case round =>
    obtain ⟨k, hk, rfl, rfl⟩ := hrel
    by_cases hlt : k < 4
    · rcases four hlt with rfl | rfl | rfl | rfl
      · have hb : (Go.bits .and .i64 m 1 == 1) = mbit m 0 := by have := bit_is m 0; simpa using this
        cases hm : mbit m 0
        · have R := Lib.hid (round_keep o d m 0 hm)
          rw [hm] at hb
          clear hm hlt hk
          go_wp2_with fail
          go_round
          case rel => exact ⟨1, by omega, by rw [R.out], rfl⟩
          case measure => simp [intOf]
        · have R := Lib.hid (round_take o d m 0 HO.out HD.out (by decide) hm 255 (by decide))
          rw [hm] at hb
          clear hm hlt hk
          go_wp2_with fail
          go_round
          case rel => exact ⟨1, by omega, by rw [R.out], rfl⟩
          case measure => simp [intOf]
      · have hb : (Go.bits .and .i64 (m / 2) 1 == 1) = mbit m 1 := by have := bit_is m 1; simpa using this
        cases hm : mbit m 1
        · have R := Lib.hid (round_keep o d m 1 hm)
          rw [hm] at hb
          clear hm hlt hk
          go_wp2_with fail
          go_round
          case rel => exact ⟨2, by omega, by rw [R.out], rfl⟩
          case measure => simp [intOf]
        · have R := Lib.hid (round_take o d m 1 HO.out HD.out (by decide) hm 65280 (by decide))
          rw [hm] at hb
          clear hm hlt hk
          go_wp2_with fail
          go_round
          case rel => exact ⟨2, by omega, by rw [R.out], rfl⟩
          case measure => simp [intOf]
      · have hb : (Go.bits .and .i64 (m / 4) 1 == 1) = mbit m 2 := by have := bit_is m 2; simpa using this
        cases hm : mbit m 2
        · have R := Lib.hid (round_keep o d m 2 hm)
          rw [hm] at hb
          clear hm hlt hk
          go_wp2_with fail
          go_round
          case rel => exact ⟨3, by omega, by rw [R.out], rfl⟩
          case measure => simp [intOf]
        · have R := Lib.hid (round_take o d m 2 HO.out HD.out (by decide) hm 16711680 (by decide))
          rw [hm] at hb
          clear hm hlt hk
          go_wp2_with fail
          go_round
          case rel => exact ⟨3, by omega, by rw [R.out], rfl⟩
          case measure => simp [intOf]
      · have hb : (Go.bits .and .i64 (m / 8) 1 == 1) = mbit m 3 := by have := bit_is m 3; simpa using this
        cases hm : mbit m 3
        · have R := Lib.hid (round_keep o d m 3 hm)
          rw [hm] at hb
          clear hm hlt hk
          go_wp2_with fail
          go_round
          case rel => exact ⟨4, by omega, by rw [R.out], rfl⟩
          case measure => simp [intOf]
        · have R := Lib.hid (round_take o d m 3 HO.out HD.out (by decide) hm 4278190080 (by decide))
          rw [hm] at hb
          clear hm hlt hk
          go_wp2_with fail
          go_round
          case rel => exact ⟨4, by omega, by rw [R.out], rfl⟩
          case measure => simp [intOf]
    · obtain rfl : k = 4 := by omega
      go_wp2_with fail
      go_ret
      exact ⟨ret_eq (by rw [mid_4 o d m HO.out]), rfl⟩
set_option maxHeartbeats 1000000 in
theorem cMergeR (o d : Nat) (m : Int) (ho : o < 4294967296) (hd : d < 4294967296) (w : World) : Calls Try.prog 16 #[.int .u32 o, .int .u32 d, .int .i64 m] w fun e w' => e = .returned (.int .u32 (merge o d m)) ∧ w = w' := by
  have HO := Lib.hid ho
  have HD := Lib.hid hd
  clear ho hd
  go_enter Try.func16, Try.ntmps16
  go_wp2_with fail
  go_loop [7, 8] (fun v c => ∃ k : Nat, k ≤ 4 ∧ v = .int .u32 (low o d m k) ∧ c = .int .u64 k) (fun _ c => 4 - (intOf c).toNat)
  case atStart => exact ⟨0, by omega, rfl, rfl⟩
  case round =>
    obtain ⟨k, hk, rfl, rfl⟩ := hrel
    by_cases hlt : k < 4
    · rcases four hlt with rfl | rfl | rfl | rfl
      · have hb : (Go.bits .and .i64 m 1 == 1) = mbit m 0 := by have := bit_is m 0; simpa using this
        cases hm : mbit m 0
        · have R := Lib.hid (round_ref o d m 0 o HO.out (by decide) 255 (by decide) (by unfold selb; rw [hm]; rfl))
          rw [hm] at hb
          clear hm hlt hk
          go_wp2_with fail
          go_round
          case rel => exact ⟨1, by omega, by rw [R.out], rfl⟩
          case measure => simp [intOf]
        · have R := Lib.hid (round_ref o d m 0 d HD.out (by decide) 255 (by decide) (by unfold selb; rw [hm]; rfl))
          rw [hm] at hb
          clear hm hlt hk
          go_wp2_with fail
          go_round
          case rel => exact ⟨1, by omega, by rw [R.out], rfl⟩
          case measure => simp [intOf]
      · have hb : (Go.bits .and .i64 (m / 2) 1 == 1) = mbit m 1 := by have := bit_is m 1; simpa using this
        cases hm : mbit m 1
        · have R := Lib.hid (round_ref o d m 1 o HO.out (by decide) 65280 (by decide) (by unfold selb; rw [hm]; rfl))
          rw [hm] at hb
          clear hm hlt hk
          go_wp2_with fail
          go_round
          case rel => exact ⟨2, by omega, by rw [R.out], rfl⟩
          case measure => simp [intOf]
        · have R := Lib.hid (round_ref o d m 1 d HD.out (by decide) 65280 (by decide) (by unfold selb; rw [hm]; rfl))
          rw [hm] at hb
          clear hm hlt hk
          go_wp2_with fail
          go_round
          case rel => exact ⟨2, by omega, by rw [R.out], rfl⟩
          case measure => simp [intOf]
      · have hb : (Go.bits .and .i64 (m / 4) 1 == 1) = mbit m 2 := by have := bit_is m 2; simpa using this
        cases hm : mbit m 2
        · have R := Lib.hid (round_ref o d m 2 o HO.out (by decide) 16711680 (by decide) (by unfold selb; rw [hm]; rfl))
          rw [hm] at hb
          clear hm hlt hk
          go_wp2_with fail
          go_round
          case rel => exact ⟨3, by omega, by rw [R.out], rfl⟩
          case measure => simp [intOf]
        · have R := Lib.hid (round_ref o d m 2 d HD.out (by decide) 16711680 (by decide) (by unfold selb; rw [hm]; rfl))
          rw [hm] at hb
          clear hm hlt hk
          go_wp2_with fail
          go_round
          case rel => exact ⟨3, by omega, by rw [R.out], rfl⟩
          case measure => simp [intOf]
      · have hb : (Go.bits .and .i64 (m / 8) 1 == 1) = mbit m 3 := by have := bit_is m 3; simpa using this
        cases hm : mbit m 3
        · have R := Lib.hid (round_ref o d m 3 o HO.out (by decide) 4278190080 (by decide) (by unfold selb; rw [hm]; rfl))
          rw [hm] at hb
          clear hm hlt hk
          go_wp2_with fail
          go_round
          case rel => exact ⟨4, by omega, by rw [R.out], rfl⟩
          case measure => simp [intOf]
        · have R := Lib.hid (round_ref o d m 3 d HD.out (by decide) 4278190080 (by decide) (by unfold selb; rw [hm]; rfl))
          rw [hm] at hb
          clear hm hlt hk
          go_wp2_with fail
          go_round
          case rel => exact ⟨4, by omega, by rw [R.out], rfl⟩
          case measure => simp [intOf]
    · obtain rfl : k = 4 := by omega
      go_wp2_with fail
      go_ret
      exact ⟨ret_eq (by rw [low4]), rfl⟩
end Go.Proofs.Yteabaipppalpjaa.Al
