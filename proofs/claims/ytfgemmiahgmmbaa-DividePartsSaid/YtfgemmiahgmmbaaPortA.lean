/- The contracts of package alu's Do and of its reference's, each with the value that it returns. -/
import Derived.Test.YtfgemmiahgmmbaaProg
import Derived.Test.YtfgemmiahgmmbaaBv
import Derived.WalkKit
import Derived.BigQuiet
import Derived.Deep.QuietTactic
import Derived.Outline
import Derived.Lib.Hide
set_option linter.unusedVariables false
set_option linter.unusedSimpArgs false
namespace Go.Proofs.Ytfgemmiahgmmbaa.Alu
open Go.RowKit Go.Proofs.Ytfgemmiahgmmbaa.Bv
theorem ret_eq {k : IntKind} {a b : Int} (h : a = b) : Ending.returned (.int k a) = .returned (.int k b) := by rw [h]
theorem ret_beq {a b : Bool} (h : a = b) : Ending.returned (.bool a) = .returned (.bool b) := by rw [h]
def bitI (b : Bool) : Int := if b then 1 else 0
theorem cbitR (b : Bool) (w : World) : Calls Try.prog 18 #[.bool b] w fun e w' => e = .returned (.int .u32 (bitI b)) ∧ w = w' := by
  cases b
  all_goals
    go_enter Try.func18, Try.ntmps18
    go_wp2
    go_ret
    exact ⟨rfl, rfl⟩
/-- What an op comes to. -/
def doI (op a b : Int) : Int :=
  if op = 28 ∨ op = 19 then (a + b) % 4294967296
  else if op = 29 then (a - b) % 4294967296
  else if op = 31 ∨ op = 20 then bitI (decide (wrap32 a < wrap32 b))
  else if op = 32 ∨ op = 21 then bitI (decide (a < b))
  else if op = 33 ∨ op = 22 then Go.bits .xor .u32 a b
  else if op = 36 ∨ op = 23 then Go.bits .or .u32 a b
  else if op = 37 ∨ op = 24 then Go.bits .and .u32 a b
  else if op = 30 ∨ op = 25 then a * 2 ^ (b % 32).toNat % 4294967296
  else if op = 34 ∨ op = 26 then a / 2 ^ (b % 32).toNat
  else if op = 35 ∨ op = 27 then wrap32 a / 2 ^ (b % 32).toNat % 4294967296
  else if op = 38 then a * b % 4294967296
  else if op = 39 then wrap32 a * wrap32 b / 4294967296 % 4294967296
  else if op = 40 then wrap32 a * b / 4294967296 % 4294967296
  else if op = 41 then a * b / 4294967296
  else if op = 42 then (if b = 0 then 4294967295 else Int.tdiv (wrap32 a) (wrap32 b) % 4294967296)
  else if op = 43 then (if b = 0 then 4294967295 else a / b)
  else if op = 44 then (if b = 0 then a else Int.tmod (wrap32 a) (wrap32 b) % 4294967296)
  else if op = 45 then (if b = 0 then a else a % b)
  else 0
theorem doI_28 (a b : Int) : doI 28 a b = (a + b) % 4294967296 := by
  unfold doI; rw [if_pos (by decide)]
theorem doI_19 (a b : Int) : doI 19 a b = (a + b) % 4294967296 := by
  unfold doI; rw [if_pos (by decide)]
theorem doI_29 (a b : Int) : doI 29 a b = (a - b) % 4294967296 := by
  unfold doI; rw [if_neg (by decide), if_pos (by decide)]
theorem doI_31 (a b : Int) : doI 31 a b = bitI (decide (wrap32 a < wrap32 b)) := by
  unfold doI; rw [if_neg (by decide), if_neg (by decide), if_pos (by decide)]
theorem doI_20 (a b : Int) : doI 20 a b = bitI (decide (wrap32 a < wrap32 b)) := by
  unfold doI; rw [if_neg (by decide), if_neg (by decide), if_pos (by decide)]
theorem doI_32 (a b : Int) : doI 32 a b = bitI (decide (a < b)) := by
  unfold doI; rw [if_neg (by decide), if_neg (by decide), if_neg (by decide), if_pos (by decide)]
theorem doI_21 (a b : Int) : doI 21 a b = bitI (decide (a < b)) := by
  unfold doI; rw [if_neg (by decide), if_neg (by decide), if_neg (by decide), if_pos (by decide)]
theorem doI_33 (a b : Int) : doI 33 a b = Go.bits .xor .u32 a b := by
  unfold doI; rw [if_neg (by decide), if_neg (by decide), if_neg (by decide), if_neg (by decide), if_pos (by decide)]
theorem doI_22 (a b : Int) : doI 22 a b = Go.bits .xor .u32 a b := by
  unfold doI; rw [if_neg (by decide), if_neg (by decide), if_neg (by decide), if_neg (by decide), if_pos (by decide)]
theorem doI_36 (a b : Int) : doI 36 a b = Go.bits .or .u32 a b := by
  unfold doI; rw [if_neg (by decide), if_neg (by decide), if_neg (by decide), if_neg (by decide), if_neg (by decide), if_pos (by decide)]
theorem doI_23 (a b : Int) : doI 23 a b = Go.bits .or .u32 a b := by
  unfold doI; rw [if_neg (by decide), if_neg (by decide), if_neg (by decide), if_neg (by decide), if_neg (by decide), if_pos (by decide)]
theorem doI_37 (a b : Int) : doI 37 a b = Go.bits .and .u32 a b := by
  unfold doI; rw [if_neg (by decide), if_neg (by decide), if_neg (by decide), if_neg (by decide), if_neg (by decide), if_neg (by decide), if_pos (by decide)]
theorem doI_24 (a b : Int) : doI 24 a b = Go.bits .and .u32 a b := by
  unfold doI; rw [if_neg (by decide), if_neg (by decide), if_neg (by decide), if_neg (by decide), if_neg (by decide), if_neg (by decide), if_pos (by decide)]
theorem doI_30 (a b : Int) : doI 30 a b = a * 2 ^ (b % 32).toNat % 4294967296 := by
  unfold doI; rw [if_neg (by decide), if_neg (by decide), if_neg (by decide), if_neg (by decide), if_neg (by decide), if_neg (by decide), if_neg (by decide), if_pos (by decide)]
theorem doI_25 (a b : Int) : doI 25 a b = a * 2 ^ (b % 32).toNat % 4294967296 := by
  unfold doI; rw [if_neg (by decide), if_neg (by decide), if_neg (by decide), if_neg (by decide), if_neg (by decide), if_neg (by decide), if_neg (by decide), if_pos (by decide)]
theorem doI_34 (a b : Int) : doI 34 a b = a / 2 ^ (b % 32).toNat := by
  unfold doI; rw [if_neg (by decide), if_neg (by decide), if_neg (by decide), if_neg (by decide), if_neg (by decide), if_neg (by decide), if_neg (by decide), if_neg (by decide), if_pos (by decide)]
theorem doI_26 (a b : Int) : doI 26 a b = a / 2 ^ (b % 32).toNat := by
  unfold doI; rw [if_neg (by decide), if_neg (by decide), if_neg (by decide), if_neg (by decide), if_neg (by decide), if_neg (by decide), if_neg (by decide), if_neg (by decide), if_pos (by decide)]
theorem doI_35 (a b : Int) : doI 35 a b = wrap32 a / 2 ^ (b % 32).toNat % 4294967296 := by
  unfold doI; rw [if_neg (by decide), if_neg (by decide), if_neg (by decide), if_neg (by decide), if_neg (by decide), if_neg (by decide), if_neg (by decide), if_neg (by decide), if_neg (by decide), if_pos (by decide)]
theorem doI_27 (a b : Int) : doI 27 a b = wrap32 a / 2 ^ (b % 32).toNat % 4294967296 := by
  unfold doI; rw [if_neg (by decide), if_neg (by decide), if_neg (by decide), if_neg (by decide), if_neg (by decide), if_neg (by decide), if_neg (by decide), if_neg (by decide), if_neg (by decide), if_pos (by decide)]
theorem doI_38 (a b : Int) : doI 38 a b = a * b % 4294967296 := by
  unfold doI; rw [if_neg (by decide), if_neg (by decide), if_neg (by decide), if_neg (by decide), if_neg (by decide), if_neg (by decide), if_neg (by decide), if_neg (by decide), if_neg (by decide), if_neg (by decide), if_pos (by decide)]
theorem doI_39 (a b : Int) : doI 39 a b = wrap32 a * wrap32 b / 4294967296 % 4294967296 := by
  unfold doI; rw [if_neg (by decide), if_neg (by decide), if_neg (by decide), if_neg (by decide), if_neg (by decide), if_neg (by decide), if_neg (by decide), if_neg (by decide), if_neg (by decide), if_neg (by decide), if_neg (by decide), if_pos (by decide)]
theorem doI_40 (a b : Int) : doI 40 a b = wrap32 a * b / 4294967296 % 4294967296 := by
  unfold doI; rw [if_neg (by decide), if_neg (by decide), if_neg (by decide), if_neg (by decide), if_neg (by decide), if_neg (by decide), if_neg (by decide), if_neg (by decide), if_neg (by decide), if_neg (by decide), if_neg (by decide), if_neg (by decide), if_pos (by decide)]
theorem doI_41 (a b : Int) : doI 41 a b = a * b / 4294967296 := by
  unfold doI; rw [if_neg (by decide), if_neg (by decide), if_neg (by decide), if_neg (by decide), if_neg (by decide), if_neg (by decide), if_neg (by decide), if_neg (by decide), if_neg (by decide), if_neg (by decide), if_neg (by decide), if_neg (by decide), if_neg (by decide), if_pos (by decide)]
theorem doI_42 (a b : Int) : doI 42 a b = (if b = 0 then 4294967295 else Int.tdiv (wrap32 a) (wrap32 b) % 4294967296) := by
  unfold doI; rw [if_neg (by decide), if_neg (by decide), if_neg (by decide), if_neg (by decide), if_neg (by decide), if_neg (by decide), if_neg (by decide), if_neg (by decide), if_neg (by decide), if_neg (by decide), if_neg (by decide), if_neg (by decide), if_neg (by decide), if_neg (by decide), if_pos (by decide)]
theorem doI_43 (a b : Int) : doI 43 a b = (if b = 0 then 4294967295 else a / b) := by
  unfold doI; rw [if_neg (by decide), if_neg (by decide), if_neg (by decide), if_neg (by decide), if_neg (by decide), if_neg (by decide), if_neg (by decide), if_neg (by decide), if_neg (by decide), if_neg (by decide), if_neg (by decide), if_neg (by decide), if_neg (by decide), if_neg (by decide), if_neg (by decide), if_pos (by decide)]
theorem doI_44 (a b : Int) : doI 44 a b = (if b = 0 then a else Int.tmod (wrap32 a) (wrap32 b) % 4294967296) := by
  unfold doI; rw [if_neg (by decide), if_neg (by decide), if_neg (by decide), if_neg (by decide), if_neg (by decide), if_neg (by decide), if_neg (by decide), if_neg (by decide), if_neg (by decide), if_neg (by decide), if_neg (by decide), if_neg (by decide), if_neg (by decide), if_neg (by decide), if_neg (by decide), if_neg (by decide), if_pos (by decide)]
theorem doI_45 (a b : Int) : doI 45 a b = (if b = 0 then a else a % b) := by
  unfold doI; rw [if_neg (by decide), if_neg (by decide), if_neg (by decide), if_neg (by decide), if_neg (by decide), if_neg (by decide), if_neg (by decide), if_neg (by decide), if_neg (by decide), if_neg (by decide), if_neg (by decide), if_neg (by decide), if_neg (by decide), if_neg (by decide), if_neg (by decide), if_neg (by decide), if_neg (by decide), if_pos (by decide)]
theorem doI_none (op a b : Int) (h : op < 19 ∨ 45 < op) : doI op a b = 0 := by
  unfold doI; rw [if_neg (by omega), if_neg (by omega), if_neg (by omega), if_neg (by omega), if_neg (by omega), if_neg (by omega), if_neg (by omega), if_neg (by omega), if_neg (by omega), if_neg (by omega), if_neg (by omega), if_neg (by omega), if_neg (by omega), if_neg (by omega), if_neg (by omega), if_neg (by omega), if_neg (by omega), if_neg (by omega)]
theorem low5 (b : Nat) (hb : b < 4294967296) : ∃ s : Nat, s = ((b : Int) % 32).toNat ∧ s < 32 ∧ Go.bits .and .u32 (b : Int) 31 = (s : Int) := by
  rw [and_mask32 5 (by decide) (b : Int) (by omega) (by omega) 31 (by decide)]
  exact ⟨((b : Int) % 32).toNat, rfl, by omega, by omega⟩
theorem wrap32_in (a : Int) : -2147483648 ≤ wrap32 a ∧ wrap32 a ≤ 2147483647 := by unfold wrap32; omega
theorem wrap32_zero (b : Nat) (hb : b < 4294967296) : wrap32 (b : Int) = 0 ↔ b = 0 := by unfold wrap32; omega
theorem mod_w32 (z : Int) : wrap32 z % 4294967296 = z % 4294967296 := by unfold wrap32; omega
theorem mod_w64 (z : Int) : wrap64 z % 4294967296 = z % 4294967296 := by unfold wrap64; omega
theorem mulBound (x y p q : Int) (h1 : -p ≤ x) (h2 : x ≤ p) (h3 : -q ≤ y) (h4 : y ≤ q) (hp : 0 ≤ p) (hq : 0 ≤ q) : -(p * q) ≤ x * y ∧ x * y ≤ p * q := by
  have a1 : x * y ≤ p * q := by
    have := Int.mul_nonneg (show 0 ≤ p - x by omega) (show 0 ≤ q + y by omega)
    have := Int.mul_nonneg (show 0 ≤ p + x by omega) (show 0 ≤ q - y by omega)
    have e1 : (p - x) * (q + y) = p * q + p * y - x * q - x * y := by rw [Int.sub_mul, Int.mul_add, Int.mul_add]; omega
    have e2 : (p + x) * (q - y) = p * q - p * y + x * q - x * y := by rw [Int.add_mul, Int.mul_sub, Int.mul_sub]; omega
    omega
  have a2 : -(p * q) ≤ x * y := by
    have := Int.mul_nonneg (show 0 ≤ p - x by omega) (show 0 ≤ q - y by omega)
    have := Int.mul_nonneg (show 0 ≤ p + x by omega) (show 0 ≤ q + y by omega)
    have e1 : (p - x) * (q - y) = p * q - p * y - x * q + x * y := by rw [Int.sub_mul, Int.mul_sub, Int.mul_sub]; omega
    have e2 : (p + x) * (q + y) = p * q + p * y + x * q + x * y := by rw [Int.add_mul, Int.mul_add, Int.mul_add]; omega
    omega
  exact ⟨a2, a1⟩
theorem mulh_w (a b : Int) : wrap64 (wrap64 (wrap32 a) * wrap64 (wrap32 b)) = wrap32 a * wrap32 b := by
  obtain ⟨h1, h2⟩ := wrap32_in a
  obtain ⟨h3, h4⟩ := wrap32_in b
  generalize wrap32 a = x at *
  generalize wrap32 b = y at *
  rw [w64 x (by omega) (by omega), w64 y (by omega) (by omega)]
  obtain ⟨h5, h6⟩ := mulBound x y 2147483648 2147483648 (by omega) (by omega) (by omega) (by omega) (by decide) (by decide)
  generalize x * y = z at *
  exact w64 z (by omega) (by omega)
theorem mulhsu_w (a : Int) (b : Nat) (hb : b < 4294967296) : wrap64 (wrap64 (wrap32 a) * (b : Int)) = wrap32 a * (b : Int) := by
  obtain ⟨h1, h2⟩ := wrap32_in a
  generalize wrap32 a = x at *
  rw [w64 x (by omega) (by omega)]
  obtain ⟨h5, h6⟩ := mulBound x b 2147483648 4294967295 (by omega) (by omega) (by omega) (by omega) (by decide) (by decide)
  generalize x * (b : Int) = z at *
  exact w64 z (by omega) (by omega)
theorem mulhu_w (a b : Nat) (ha : a < 4294967296) (hb : b < 4294967296) : IntKind.u64.wrap ((a : Int) * (b : Int)) = (a : Int) * (b : Int) ∧ (a : Int) * (b : Int) / 4294967296 % 4294967296 = (a : Int) * (b : Int) / 4294967296 := by
  obtain ⟨h5, h6⟩ := mulBound a b 4294967295 4294967295 (by omega) (by omega) (by omega) (by omega) (by decide) (by decide)
  have h7 : 0 ≤ (a : Int) * (b : Int) := Int.mul_nonneg (by omega) (by omega)
  generalize (a : Int) * (b : Int) = z at *
  exact ⟨u64_id z (by omega) (by omega), by omega⟩
theorem div_small (a b : Nat) (ha : a < 4294967296) : (a : Int) / (b : Int) % 4294967296 = (a : Int) / (b : Int) := by
  have h := Nat.div_le_self a b
  have e : (a : Int) / (b : Int) = ((a / b : Nat) : Int) := by simp
  rw [e]; generalize a / b = q at h; omega
end Go.Proofs.Ytfgemmiahgmmbaa.Alu
