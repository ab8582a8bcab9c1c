/- Words by their bytes: what merge gives, byte by byte. -/
import Derived.Test.YteabaipppalpjaaLw
set_option linter.unusedVariables false
set_option linter.unusedSimpArgs false
namespace Go.Proofs.Yteabaipppalpjaa.Al
open Go.RowKit Go.Proofs.Yteabaipppalpjaa.Bv
theorem word_of (x : Nat) (h : x < 4294967296) : x = byte x 0 + byte x 1 * 256 + byte x 2 * 65536 + byte x 3 * 16777216 := by
  simp only [byte, Nat.pow_zero, Nat.div_one, Nat.pow_one, Nat.reducePow]; omega
theorem bytes_of (a b c d : Nat) (ha : a < 256) (hb : b < 256) (hc : c < 256) (hd : d < 256) :
    byte (a + b * 256 + c * 65536 + d * 16777216) 0 = a ∧ byte (a + b * 256 + c * 65536 + d * 16777216) 1 = b ∧ byte (a + b * 256 + c * 65536 + d * 16777216) 2 = c ∧ byte (a + b * 256 + c * 65536 + d * 16777216) 3 = d := by
  simp only [byte, Nat.pow_zero, Nat.div_one, Nat.pow_one, Nat.reducePow]; omega
theorem byte_merge (o d : Nat) (m : Int) (k : Nat) (hk : k < 4) : byte (merge o d m) k = selb o d m k := by
  obtain ⟨h0, h1, h2, h3⟩ := bytes_of _ _ _ _ (selb_lt o d m 0) (selb_lt o d m 1) (selb_lt o d m 2) (selb_lt o d m 3)
  unfold merge
  match k, hk with
  | 0, _ => exact h0
  | 1, _ => exact h1
  | 2, _ => exact h2
  | 3, _ => exact h3
theorem ext4 (x y : Nat) (hx : x < 4294967296) (hy : y < 4294967296) (h : ∀ k, k < 4 → byte x k = byte y k) : x = y := by
  rw [word_of x hx, word_of y hy, h 0 (by decide), h 1 (by decide), h 2 (by decide), h 3 (by decide)]
theorem rest_old (o d : Nat) (m : Int) (ho : o < 4294967296) : merge (merge o d m) o m = o := by
  refine ext4 _ _ (merge_lt _ _ _) ho fun k hk => ?_
  rw [byte_merge _ _ _ _ hk]; unfold selb
  split
  · rfl
  · rename_i h; rw [byte_merge _ _ _ _ hk]; unfold selb; rw [if_neg h]
theorem old_same (o d : Nat) (m : Int) : merge o (merge o d m) m = merge o d m := by
  refine ext4 _ _ (merge_lt _ _ _) (merge_lt _ _ _) fun k hk => ?_
  rw [byte_merge _ _ _ _ hk]
  show (if mbit m k = true then byte (merge o d m) k else byte o k) = byte (merge o d m) k
  rw [byte_merge _ _ _ _ hk]; unfold selb
  split <;> rfl
theorem mbit15 (k : Nat) (hk : k < 4) : mbit 15 k = true := by
  match k, hk with
  | 0, _ => rfl
  | 1, _ => rfl
  | 2, _ => rfl
  | 3, _ => rfl
theorem mbit0 (k : Nat) : mbit 0 k = false := by unfold mbit; simp
theorem merge15 (o x : Nat) (hx : x < 4294967296) : merge o x 15 = x := by
  refine ext4 _ _ (merge_lt _ _ _) hx fun k hk => ?_
  rw [byte_merge _ _ _ _ hk]; unfold selb; rw [mbit15 k hk]; rfl
theorem merge_0 (o x : Nat) (ho : o < 4294967296) : merge o x 0 = o := by
  refine ext4 _ _ (merge_lt _ _ _) ho fun k hk => ?_
  rw [byte_merge _ _ _ _ hk]; unfold selb; rw [mbit0 k]; rfl
/-- The bytes that are stored and loaded again. -/
theorem back_8 (o n : Nat) (r : Nat) (hr : r < 4) : merge o (n % 256 * 256 ^ r) (2 ^ r) / 256 ^ r % 256 = n % 256 := by
  have h := byte_merge o (n % 256 * 256 ^ r) (2 ^ r) r hr
  have hm : mbit (2 ^ r) r = true := by
    match r, hr with
    | 0, _ => rfl
    | 1, _ => rfl
    | 2, _ => rfl
    | 3, _ => rfl
  have e : byte (n % 256 * 256 ^ r) r = n % 256 := by
    unfold byte; rw [Nat.mul_div_cancel _ (Nat.pow_pos (by decide))]; omega
  rw [show merge o (n % 256 * 256 ^ r) (2 ^ r) / 256 ^ r % 256 = byte (merge o (n % 256 * 256 ^ r) (2 ^ r)) r from rfl, h]
  unfold selb; rw [hm, if_pos rfl, e]
theorem back_16_0 (o n : Nat) : merge o (n % 65536) 3 % 65536 = n % 65536 := by
  have h0 := selb_lt o (n % 65536) 3 2; have h1 := selb_lt o (n % 65536) 3 3
  unfold merge
  rw [show selb o (n % 65536) 3 0 = byte (n % 65536) 0 from by unfold selb; rfl, show selb o (n % 65536) 3 1 = byte (n % 65536) 1 from by unfold selb; rfl]
  simp only [byte, Nat.pow_zero, Nat.div_one, Nat.pow_one]; omega
theorem back_16_2 (o n : Nat) : merge o (n % 65536 * 65536) 12 / 65536 % 65536 = n % 65536 := by
  have h0 := selb_lt o (n % 65536 * 65536) 12 0; have h1 := selb_lt o (n % 65536 * 65536) 12 1
  unfold merge
  rw [show selb o (n % 65536 * 65536) 12 2 = byte (n % 65536 * 65536) 2 from by unfold selb; rfl, show selb o (n % 65536 * 65536) 12 3 = byte (n % 65536 * 65536) 3 from by unfold selb; rfl]
  simp only [byte, Nat.reducePow]; omega
/-! Bytes stored one by one. -/
theorem mid15_step (o n k : Nat) (hk : k < 4) : mid o n 15 (k + 1) + byte o k * 256 ^ k = mid o n 15 k + byte n k * 256 ^ k := by
  have h := mid_step o n 15 k
  have e : selb o n 15 k = byte n k := by unfold selb; rw [mbit15 k hk]; rfl
  rw [e] at h; exact h
theorem put_8 (x d k : Nat) (hk : k < 4) (hx : x < 4294967296) : merge x d (2 ^ k) + byte x k * 256 ^ k = x + byte d k * 256 ^ k := by
  have hw := word_of x hx
  match k, hk with
  | 0, _ => 
    have e : merge x d (2 ^ 0) = byte d 0 + byte x 1 * 256 + byte x 2 * 65536 + byte x 3 * 16777216 := rfl
    rw [e]; simp only [Nat.pow_zero]; omega
  | 1, _ =>
    have e : merge x d (2 ^ 1) = byte x 0 + byte d 1 * 256 + byte x 2 * 65536 + byte x 3 * 16777216 := rfl
    rw [e]; simp only [Nat.pow_one]; omega
  | 2, _ =>
    have e : merge x d (2 ^ 2) = byte x 0 + byte x 1 * 256 + byte d 2 * 65536 + byte x 3 * 16777216 := rfl
    rw [e]; simp only [Nat.reducePow]; omega
  | 3, _ =>
    have e : merge x d (2 ^ 3) = byte x 0 + byte x 1 * 256 + byte x 2 * 65536 + byte d 3 * 16777216 := rfl
    rw [e]; simp only [Nat.reducePow]; omega
theorem byte_step (o n k : Nat) (ho : o < 4294967296) (hk : k < 4) : merge (mid o n 15 k) (n / 256 ^ k % 256 * 256 ^ k) (2 ^ k) = mid o n 15 (k + 1) := by
  have h1 := put_8 (mid o n 15 k) (n / 256 ^ k % 256 * 256 ^ k) k hk (mid_lt o n 15 ho k (by omega))
  have h2 := mid15_step o n k hk
  have h3 : byte (mid o n 15 k) k = byte o k := mid_byte o n 15 k
  have h4 : byte (n / 256 ^ k % 256 * 256 ^ k) k = byte n k := by
    unfold byte; rw [Nat.mul_div_cancel _ (Nat.pow_pos (by decide))]; exact Nat.mod_mod _ _
  rw [h3, h4] at h1
  omega
theorem half_0 (o n : Nat) (ho : o < 4294967296) : merge o (n % 65536) 3 = mid o n 15 2 := by
  have e : merge o (n % 65536) 3 = byte (n % 65536) 0 + byte (n % 65536) 1 * 256 + byte o 2 * 65536 + byte o 3 * 16777216 := rfl
  have e2 : mid o n 15 2 = (0 + byte n 0 * 256 ^ 0 + byte n 1 * 256 ^ 1) + o / 256 ^ 2 * 256 ^ 2 := rfl
  rw [e, e2]
  simp only [byte, Nat.pow_zero, Nat.div_one, Nat.pow_one, Nat.reducePow]; omega
theorem half_2 (o n : Nat) (ho : o < 4294967296) (hn : n < 4294967296) : merge (mid o n 15 2) (n / 65536 % 65536 * 65536) 12 = n := by
  have e2 : mid o n 15 2 = (0 + byte n 0 * 256 ^ 0 + byte n 1 * 256 ^ 1) + o / 256 ^ 2 * 256 ^ 2 := rfl
  generalize mid o n 15 2 = x at e2 ⊢
  have e : merge x (n / 65536 % 65536 * 65536) 12 = byte x 0 + byte x 1 * 256 + byte (n / 65536 % 65536 * 65536) 2 * 65536 + byte (n / 65536 % 65536 * 65536) 3 * 16777216 := rfl
  rw [e]
  simp only [byte, Nat.pow_zero, Nat.div_one, Nat.pow_one, Nat.reducePow] at *; omega
theorem mid15_4 (o n : Nat) (ho : o < 4294967296) (hn : n < 4294967296) : mid o n 15 4 = n := by
  rw [mid_4 o n 15 ho, merge15 o n hn]
end Go.Proofs.Yteabaipppalpjaa.Al
