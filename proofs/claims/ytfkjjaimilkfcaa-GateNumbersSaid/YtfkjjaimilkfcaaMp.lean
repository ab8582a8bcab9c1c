/- The contracts of Merge and of its reference's. -/
import Derived.Test.YtfkjjaimilkfcaaProg
import Derived.Test.YtfkjjaimilkfcaaBv
import Derived.WalkKit
import Derived.BigQuiet
import Derived.Deep.QuietTactic
import Derived.Outline
import Derived.Lib.Hide
set_option linter.unusedVariables false
set_option linter.unusedSimpArgs false
namespace Go.Proofs.Ytfkjjaimilkfcaa.Al
open Go.RowKit Go.Proofs.Ytfkjjaimilkfcaa.Bv

theorem ret_eq {k : IntKind} {a b : Int} (h : a = b) : Ending.returned (.int k a) = .returned (.int k b) := by rw [h]
theorem ret_beq {a b : Bool} (h : a = b) : Ending.returned (.bool a) = .returned (.bool b) := by rw [h]
/-! Bytes of a word. -/
def mbit (m : Int) (k : Nat) : Bool := m / 2 ^ k % 2 == 1
def byte (x k : Nat) : Nat := x / 256 ^ k % 256
def selb (o d : Nat) (m : Int) (k : Nat) : Nat := if mbit m k then byte d k else byte o k
theorem byte_lt (x k : Nat) : byte x k < 256 := Nat.mod_lt _ (by decide)
theorem selb_lt (o d : Nat) (m : Int) (k : Nat) : selb o d m k < 256 := by unfold selb; split <;> exact byte_lt _ _
/-- A word with some bytes of another one. -/
def merge (o d : Nat) (m : Int) : Nat := selb o d m 0 + selb o d m 1 * 256 + selb o d m 2 * 65536 + selb o d m 3 * 16777216
theorem merge_lt (o d : Nat) (m : Int) : merge o d m < 4294967296 := by
  have := selb_lt o d m 0; have := selb_lt o d m 1; have := selb_lt o d m 2; have := selb_lt o d m 3
  unfold merge; omega
/-- Behind so many rounds. -/
def low (o d : Nat) (m : Int) : Nat → Nat
  | 0 => 0
  | k + 1 => low o d m k + selb o d m k * 256 ^ k
theorem low_lt (o d : Nat) (m : Int) (k : Nat) : low o d m k < 256 ^ k := by
  induction k with
  | zero => simp [low]
  | succ k ih =>
    have h := selb_lt o d m k
    have h2 : selb o d m k * 256 ^ k ≤ 255 * 256 ^ k := Nat.mul_le_mul_right _ (by omega)
    rw [low, Nat.pow_succ]; omega
theorem low4 (o d : Nat) (m : Int) : low o d m 4 = merge o d m := by simp [low, merge]
def mid (o d : Nat) (m : Int) (k : Nat) : Nat := low o d m k + o / 256 ^ k * 256 ^ k
theorem pow256 (k : Nat) (hk : k ≤ 4) : 256 ^ k ≤ 4294967296 := Nat.pow_le_pow_right (n := 256) (by decide) hk
theorem mid_0 (o d : Nat) (m : Int) : mid o d m 0 = o := by simp [mid, low]
theorem mid_4 (o d : Nat) (m : Int) (ho : o < 4294967296) : mid o d m 4 = merge o d m := by
  unfold mid; rw [low4, Nat.div_eq_of_lt (by simpa using ho)]; omega
theorem mid_step (o d : Nat) (m : Int) (k : Nat) : mid o d m (k + 1) + byte o k * 256 ^ k = mid o d m k + selb o d m k * 256 ^ k := by
  unfold mid
  rw [low]
  have h1 : o / 256 ^ k * 256 ^ k = o / 256 ^ (k + 1) * 256 ^ (k + 1) + byte o k * 256 ^ k := by
    unfold byte
    rw [Nat.pow_succ, ← Nat.div_div_eq_div_mul, Nat.mul_comm (256 ^ k) 256, ← Nat.mul_assoc, ← Nat.add_mul]
    congr 1; omega
  omega
theorem mid_byte (o d : Nat) (m : Int) (k : Nat) : mid o d m k / 256 ^ k % 256 = byte o k := by
  unfold mid byte
  have hpos : 0 < 256 ^ k := Nat.pow_pos (by decide)
  rw [Nat.add_mul_div_right _ _ hpos, Nat.div_eq_of_lt (low_lt o d m k), Nat.zero_add]
theorem mid_lt (o d : Nat) (m : Int) (ho : o < 4294967296) (k : Nat) (hk : k ≤ 4) : mid o d m k < 4294967296 := by
  have h1 := low_lt o d m k
  have hpos : 0 < 256 ^ k := Nat.pow_pos (by decide)
  have h2 : o / 256 ^ k < 256 ^ (4 - k) := by
    rw [Nat.div_lt_iff_lt_mul hpos, ← Nat.pow_add, show 4 - k + k = 4 from by omega]; exact ho
  have h3 : (o / 256 ^ k + 1) * 256 ^ k ≤ 256 ^ (4 - k) * 256 ^ k := Nat.mul_le_mul_right _ h2
  rw [← Nat.pow_add, show 4 - k + k = 4 from by omega, Nat.add_mul, Nat.one_mul] at h3
  have h4 : 256 ^ 4 = 4294967296 := by decide
  unfold mid; omega
theorem p256 (k : Nat) : 256 ^ k = 2 ^ (8 * k) := by rw [Nat.pow_mul]
theorem and_part (d k : Nat) (hd : d < 4294967296) (hk : k < 4) (P : Int) (hP : P = 255 * 256 ^ k) : Go.bits .and .u32 (d : Int) P = ((byte d k * 256 ^ k : Nat) : Int) := by
  have e : P = ((255 * 256 ^ k : Nat) : Int) := by rw [hP]; simp
  have hle := pow256 (k + 1) (by omega)
  rw [Nat.pow_succ] at hle
  rw [e, nand32 d _ hd (by omega)]
  have := and_shift_mask d 8 (8 * k)
  rw [← p256] at this
  rw [show 255 = 2 ^ 8 - 1 from rfl, this]; rfl
theorem not_part (x k : Nat) (hx : x < 4294967296) (hk : k < 4) (P : Int) (hP : P = 255 * 256 ^ k) : Go.bits .andNot .u32 (x : Int) P = ((x - byte x k * 256 ^ k : Nat) : Int) := by
  have e : P = ((255 * 256 ^ k : Nat) : Int) := by rw [hP]; simp
  have hle := pow256 (k + 1) (by omega)
  rw [Nat.pow_succ] at hle
  rw [e, nandNot32 x _ hx (by omega)]
  have := and_shift_mask x 8 (8 * k)
  rw [← p256] at this
  rw [show 255 = 2 ^ 8 - 1 from rfl, this]; rfl
theorem part_le (x k : Nat) : byte x k * 256 ^ k ≤ x := Nat.le_trans (Nat.mul_le_mul_right _ (Nat.mod_le _ _)) (Nat.div_mul_le_self x (256 ^ k))
theorem or_part (x b k : Nat) (hx : x < 4294967296) (hk : k < 4) (hb : b < 256) (h0 : x / 256 ^ k % 256 = 0) : Go.bits .or .u32 (x : Int) ((b * 256 ^ k : Nat) : Int) = ((x + b * 256 ^ k : Nat) : Int) := by
  have hle := pow256 (k + 1) (by omega)
  rw [Nat.pow_succ] at hle
  have hpos : 0 < 256 ^ k := Nat.pow_pos (by decide)
  have h2 : b * 256 ^ k < 256 * 256 ^ k := Nat.mul_lt_mul_of_pos_right hb hpos
  rw [nor32 x _ hx (by omega), p256 k, or_field x b 8 (8 * k) (by rw [← p256]; exact h0) hb]
theorem sub_byte (x k : Nat) : (x - byte x k * 256 ^ k) / 256 ^ k % 256 = 0 := by
  have hpos : 0 < 256 ^ k := Nat.pow_pos (by decide)
  have hd : x = (x / 256 ^ k) * 256 ^ k + x % 256 ^ k := by rw [Nat.mul_comm]; exact (Nat.div_add_mod x (256 ^ k)).symm
  have hq : x - byte x k * 256 ^ k = (x / 256 ^ k - byte x k) * 256 ^ k + x % 256 ^ k := by
    rw [Nat.sub_mul]
    have : byte x k * 256 ^ k ≤ x / 256 ^ k * 256 ^ k := Nat.mul_le_mul_right _ (Nat.mod_le _ _)
    omega
  rw [hq, Nat.add_comm, Nat.add_mul_div_right _ _ hpos, Nat.div_eq_of_lt (Nat.mod_lt _ hpos)]
  unfold byte; omega
/-- One round of Merge that takes a byte. -/
theorem round_take (o d : Nat) (m : Int) (k : Nat) (ho : o < 4294967296) (hd : d < 4294967296) (hk : k < 4) (hm : mbit m k = true) (P : Int) (hP : P = 255 * 256 ^ k) :
    Go.bits .or .u32 (Go.bits .andNot .u32 (mid o d m k : Int) P) (Go.bits .and .u32 (d : Int) P) = (mid o d m (k + 1) : Int) := by
  have hx := mid_lt o d m ho k (by omega)
  have hb : byte (mid o d m k) k = byte o k := mid_byte o d m k
  have hs := mid_step o d m k
  have hle := part_le (mid o d m k) k
  have h0 := sub_byte (mid o d m k) k
  rw [not_part _ k hx hk P hP, and_part d k hd hk P hP, or_part _ _ k (Nat.lt_of_le_of_lt (Nat.sub_le _ _) hx) hk (byte_lt _ _) h0]
  have e : selb o d m k = byte d k := by unfold selb; rw [hm]; rfl
  rw [e] at hs
  rw [hb] at hle ⊢
  congr 1; omega
theorem round_keep (o d : Nat) (m : Int) (k : Nat) (hm : mbit m k = false) : mid o d m (k + 1) = mid o d m k := by
  have hs := mid_step o d m k
  have e : selb o d m k = byte o k := by unfold selb; rw [hm]; rfl
  rw [e] at hs; omega
/-- One round of the reference's. -/
theorem round_ref (o d : Nat) (m : Int) (k x : Nat) (hx : x < 4294967296) (hk : k < 4) (P : Int) (hP : P = 255 * 256 ^ k) (hb : byte x k = selb o d m k) :
    Go.bits .or .u32 (low o d m k : Int) (Go.bits .and .u32 (x : Int) P) = (low o d m (k + 1) : Int) := by
  have hl := low_lt o d m k
  have hp := pow256 k (by omega)
  rw [and_part x k hx hk P hP, or_part _ _ k (Nat.lt_of_lt_of_le hl hp) hk (byte_lt _ _) (by rw [Nat.div_eq_of_lt hl]), hb]; rfl
theorem bit_is (m : Int) (k : Nat) : (Go.bits .and .i64 (m / 2 ^ k) 1 == 1) = mbit m k := by
  rw [and_mask_i64 1 (by decide) _ 1 (by decide)]; rfl
theorem four {k : Nat} (h : k < 4) : k = 0 ∨ k = 1 ∨ k = 2 ∨ k = 3 := by omega
set_option maxHeartbeats 1000000 in
theorem cMerge (o d : Nat) (m : Int) (ho : o < 4294967296) (hd : d < 4294967296) (w : World) : Calls Try.prog 17 #[.int .u32 o, .int .u32 d, .int .i64 m] w fun e w' => e = .returned (.int .u32 (merge o d m)) ∧ w = w' := by
  have HO := Lib.hid ho
  have HD := Lib.hid hd
  clear ho hd
  go_enter Try.func17, Try.ntmps17
  go_wp2_with fail
  go_loop [0, 9] (fun v c => ∃ k : Nat, k ≤ 4 ∧ v = .int .u32 (mid o d m k) ∧ c = .int .i64 k) (fun _ c => 4 - (intOf c).toNat)
  case atStart => exact ⟨0, by omega, by rw [mid_0], rfl⟩
  case round =>
    obtain ⟨k, hk, rfl, rfl⟩ := hrel
    by_cases hlt : k < 4
    · rcases four hlt with rfl | rfl | rfl | rfl
      · have hb : (Go.bits .and .i64 m 1 == 1) = mbit m 0 := by have := bit_is m 0; simpa using this
        cases hm : mbit m 0
        · have R := Lib.hid (round_keep o d m 0 hm)
          rw [hm] at hb
          clear hm hlt hk
          go_wp2_with fail
          go_round
          case rel => exact ⟨1, by omega, by rw [R.out], rfl⟩
          case measure => simp [intOf]
        · have R := Lib.hid (round_take o d m 0 HO.out HD.out (by decide) hm 255 (by decide))
          rw [hm] at hb
          clear hm hlt hk
          go_wp2_with fail
          go_round
          case rel => exact ⟨1, by omega, by rw [R.out], rfl⟩
          case measure => simp [intOf]
      · have hb : (Go.bits .and .i64 (m / 2) 1 == 1) = mbit m 1 := by have := bit_is m 1; simpa using this
        cases hm : mbit m 1
        · have R := Lib.hid (round_keep o d m 1 hm)
          rw [hm] at hb
          clear hm hlt hk
          go_wp2_with fail
          go_round
          case rel => exact ⟨2, by omega, by rw [R.out], rfl⟩
          case measure => simp [intOf]
        · have R := Lib.hid (round_take o d m 1 HO.out HD.out (by decide) hm 65280 (by decide))
          rw [hm] at hb
          clear hm hlt hk
          go_wp2_with fail
          go_round
          case rel => exact ⟨2, by omega, by rw [R.out], rfl⟩
          case measure => simp [intOf]
      · have hb : (Go.bits .and .i64 (m / 4) 1 == 1) = mbit m 2 := by have := bit_is m 2; simpa using this
        cases hm : mbit m 2
        · have R := Lib.hid (round_keep o d m 2 hm)
          rw [hm] at hb
          clear hm hlt hk
          go_wp2_with fail
          go_round
          case rel => exact ⟨3, by omega, by rw [R.out], rfl⟩
          case measure => simp [intOf]
        · have R := Lib.hid (round_take o d m 2 HO.out HD.out (by decide) hm 16711680 (by decide))
          rw [hm] at hb
          clear hm hlt hk
          go_wp2_with fail
          go_round
          case rel => exact ⟨3, by omega, by rw [R.out], rfl⟩
          case measure => simp [intOf]
      · have hb : (Go.bits .and .i64 (m / 8) 1 == 1) = mbit m 3 := by have := bit_is m 3; simpa using this
        cases hm : mbit m 3
        · have R := Lib.hid (round_keep o d m 3 hm)
          rw [hm] at hb
          clear hm hlt hk
          go_wp2_with fail
          go_round
          case rel => exact ⟨4, by omega, by rw [R.out], rfl⟩
          case measure => simp [intOf]
        · have R := Lib.hid (round_take o d m 3 HO.out HD.out (by decide) hm 4278190080 (by decide))
          rw [hm] at hb
          clear hm hlt hk
          go_wp2_with fail
          go_round
          case rel => exact ⟨4, by omega, by rw [R.out], rfl⟩
          case measure => simp [intOf]
    · obtain rfl : k = 4 := by omega
      go_wp2_with fail
      go_ret
      exact ⟨ret_eq (by rw [mid_4 o d m HO.out]), rfl⟩
set_option maxHeartbeats 1000000 in
theorem cMergeR (o d : Nat) (m : Int) (ho : o < 4294967296) (hd : d < 4294967296) (w : World) : Calls Try.prog 22 #[.int .u32 o, .int .u32 d, .int .i64 m] w fun e w' => e = .returned (.int .u32 (merge o d m)) ∧ w = w' := by
  have HO := Lib.hid ho
  have HD := Lib.hid hd
  clear ho hd
  go_enter Try.func22, Try.ntmps22
  go_wp2_with fail
  go_loop [7, 8] (fun v c => ∃ k : Nat, k ≤ 4 ∧ v = .int .u32 (low o d m k) ∧ c = .int .u64 k) (fun _ c => 4 - (intOf c).toNat)
  case atStart => exact ⟨0, by omega, rfl, rfl⟩
  case round =>
    obtain ⟨k, hk, rfl, rfl⟩ := hrel
    by_cases hlt : k < 4
    · rcases four hlt with rfl | rfl | rfl | rfl
      · have hb : (Go.bits .and .i64 m 1 == 1) = mbit m 0 := by have := bit_is m 0; simpa using this
        cases hm : mbit m 0
        · have R := Lib.hid (round_ref o d m 0 o HO.out (by decide) 255 (by decide) (by unfold selb; rw [hm]; rfl))
          rw [hm] at hb
          clear hm hlt hk
          go_wp2_with fail
          go_round
          case rel => exact ⟨1, by omega, by rw [R.out], rfl⟩
          case measure => simp [intOf]
        · have R := Lib.hid (round_ref o d m 0 d HD.out (by decide) 255 (by decide) (by unfold selb; rw [hm]; rfl))
          rw [hm] at hb
          clear hm hlt hk
          go_wp2_with fail
          go_round
          case rel => exact ⟨1, by omega, by rw [R.out], rfl⟩
          case measure => simp [intOf]
      · have hb : (Go.bits .and .i64 (m / 2) 1 == 1) = mbit m 1 := by have := bit_is m 1; simpa using this
        cases hm : mbit m 1
        · have R := Lib.hid (round_ref o d m 1 o HO.out (by decide) 65280 (by decide) (by unfold selb; rw [hm]; rfl))
          rw [hm] at hb
          clear hm hlt hk
          go_wp2_with fail
          go_round
          case rel => exact ⟨2, by omega, by rw [R.out], rfl⟩
          case measure => simp [intOf]
        · have R := Lib.hid (round_ref o d m 1 d HD.out (by decide) 65280 (by decide) (by unfold selb; rw [hm]; rfl))
          rw [hm] at hb
          clear hm hlt hk
          go_wp2_with fail
          go_round
          case rel => exact ⟨2, by omega, by rw [R.out], rfl⟩
          case measure => simp [intOf]
      · have hb : (Go.bits .and .i64 (m / 4) 1 == 1) = mbit m 2 := by have := bit_is m 2; simpa using this
        cases hm : mbit m 2
        · have R := Lib.hid (round_ref o d m 2 o HO.out (by decide) 16711680 (by decide) (by unfold selb; rw [hm]; rfl))
          rw [hm] at hb
          clear hm hlt hk
          go_wp2_with fail
          go_round
          case rel => exact ⟨3, by omega, by rw [R.out], rfl⟩
          case measure => simp [intOf]
        · have R := Lib.hid (round_ref o d m 2 d HD.out (by decide) 16711680 (by decide) (by unfold selb; rw [hm]; rfl))
          rw [hm] at hb
          clear hm hlt hk
          go_wp2_with fail
          go_round
          case rel => exact ⟨3, by omega, by rw [R.out], rfl⟩
          case measure => simp [intOf]
      · have hb : (Go.bits .and .i64 (m / 8) 1 == 1) = mbit m 3 := by have := bit_is m 3; simpa using this
        cases hm : mbit m 3
        · have R := Lib.hid (round_ref o d m 3 o HO.out (by decide) 4278190080 (by decide) (by unfold selb; rw [hm]; rfl))
          rw [hm] at hb
          clear hm hlt hk
          go_wp2_with fail
          go_round
          case rel => exact ⟨4, by omega, by rw [R.out], rfl⟩
          case measure => simp [intOf]
        · have R := Lib.hid (round_ref o d m 3 d HD.out (by decide) 4278190080 (by decide) (by unfold selb; rw [hm]; rfl))
          rw [hm] at hb
          clear hm hlt hk
          go_wp2_with fail
          go_round
          case rel => exact ⟨4, by omega, by rw [R.out], rfl⟩
          case measure => simp [intOf]
    · obtain rfl : k = 4 := by omega
      go_wp2_with fail
      go_ret
      exact ⟨ret_eq (by rw [low4]), rfl⟩
end Go.Proofs.Ytfkjjaimilkfcaa.Al
