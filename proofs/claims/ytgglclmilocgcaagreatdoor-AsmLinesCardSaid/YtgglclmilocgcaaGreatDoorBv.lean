/- The model's operations on bits of 32 and 64 bit numbers, as those on BitVec, on natural numbers, and as arithmetic. -/
import Derived.Laws.Entries
import Derived.Laws.BitsLemmas
import Derived.RowKit
import GoSem.Claim
namespace Go.Proofs.YtgglclmilocgcaaGreatDoor.Bv
open Go

theorem and_div2 (a b : Nat) : (a &&& b) / 2 = a / 2 &&& b / 2 := by
  have := Nat.shiftRight_and_distrib (a := a) (b := b) (i := 1)
  simpa only [Nat.shiftRight_eq_div_pow, Nat.pow_one] using this
theorem or_div2 (a b : Nat) : (a ||| b) / 2 = a / 2 ||| b / 2 := by
  have := Nat.shiftRight_or_distrib (a := a) (b := b) (i := 1)
  simpa only [Nat.shiftRight_eq_div_pow, Nat.pow_one] using this
theorem or_and_mod (a b : Nat) : (a ||| b) % 2 + (a &&& b) % 2 = a % 2 + b % 2 := by
  have h1 := Nat.and_mod_two_pow (a := a) (b := b) (n := 1)
  have h2 := Nat.or_mod_two_pow (a := a) (b := b) (n := 1)
  simp only [Nat.pow_one] at h1 h2; rw [h1, h2]
  rcases Nat.mod_two_eq_zero_or_one a with h | h <;> rcases Nat.mod_two_eq_zero_or_one b with k | k <;> rw [h, k] <;> rfl
/-- What two numbers have in common, and what they have together. -/
theorem or_add_and (a : Nat) : ∀ b, (a ||| b) + (a &&& b) = a + b := by
  induction a using Nat.strongRecOn with
  | ind a ih =>
    intro b
    by_cases h : a = 0
    · subst h; simp
    · have := ih (a / 2) (by omega) (b / 2)
      have h1 := and_div2 a b
      have h2 := or_div2 a b
      have h3 := or_and_mod a b
      omega
theorem or_eq_add {a b : Nat} (h : a &&& b = 0) : a ||| b = a + b := by have := or_add_and a b; omega
theorem mul_and (x k s : Nat) : x &&& k * 2 ^ s = ((x / 2 ^ s) &&& k) * 2 ^ s := by
  apply Nat.eq_of_testBit_eq
  intro i
  simp only [Nat.testBit_and, Nat.testBit_mul_two_pow, Nat.testBit_div_two_pow]
  by_cases h : s ≤ i
  · simp only [h, decide_true, Bool.true_and]; rw [show i - s + s = i from by omega]
  · simp [h]
theorem and_shift_mask (x n s : Nat) : x &&& (2 ^ n - 1) * 2 ^ s = x / 2 ^ s % 2 ^ n * 2 ^ s := by
  rw [mul_and, Nat.and_two_pow_sub_one_eq_mod]
theorem and_small (x k n : Nat) (hk : k < 2 ^ n) : x &&& k = (x % 2 ^ n) &&& k := by
  have h := Nat.and_mod_two_pow (a := x) (b := k) (n := n)
  have h1 : (x &&& k) % 2 ^ n = x &&& k := Nat.mod_eq_of_lt (Nat.and_lt_two_pow _ hk)
  rw [h1, Nat.mod_eq_of_lt hk] at h
  exact h
/-- A field that is empty takes a number. -/
theorem or_field (x k n s : Nat) (hx : x / 2 ^ s % 2 ^ n = 0) (hk : k < 2 ^ n) : x ||| k * 2 ^ s = x + k * 2 ^ s := by
  apply or_eq_add
  rw [mul_and, and_small _ k n hk, hx]; simp

theorem u32_nat (n : Nat) (h : n < 4294967296) : IntKind.u32.wrap (n : Int) = n := by rw [IntKind.wrap_u32]; omega
theorem u32_id (n : Int) (h0 : 0 ≤ n) (h : n < 4294967296) : IntKind.u32.wrap n = n := by rw [IntKind.wrap_u32]; omega
theorem wrap_u64 (n : Int) : IntKind.u64.wrap n = n % 18446744073709551616 := by simp [IntKind.wrap, IntKind.bits, IntKind.signed]
theorem u64_nat (n : Nat) (h : n < 18446744073709551616) : IntKind.u64.wrap (n : Int) = n := by rw [wrap_u64]; omega
theorem u64_id (n : Int) (h0 : 0 ≤ n) (h : n < 18446744073709551616) : IntKind.u64.wrap n = n := by rw [wrap_u64]; omega
theorem and32 (x y : Int) : bits .and .u32 x y = ((BitVec.ofInt 32 x &&& BitVec.ofInt 32 y).toNat : Int) := u32_nat _ (BitVec.isLt _)
theorem or32 (x y : Int) : bits .or .u32 x y = ((BitVec.ofInt 32 x ||| BitVec.ofInt 32 y).toNat : Int) := u32_nat _ (BitVec.isLt _)
theorem xor32 (x y : Int) : bits .xor .u32 x y = ((BitVec.ofInt 32 x ^^^ BitVec.ofInt 32 y).toNat : Int) := u32_nat _ (BitVec.isLt _)
theorem andNot32 (x y : Int) : bits .andNot .u32 x y = ((BitVec.ofInt 32 x &&& ~~~BitVec.ofInt 32 y).toNat : Int) := u32_nat _ (BitVec.isLt _)
theorem and64 (x y : Int) : bits .and .u64 x y = ((BitVec.ofInt 64 x &&& BitVec.ofInt 64 y).toNat : Int) := u64_nat _ (BitVec.isLt _)
theorem or64 (x y : Int) : bits .or .u64 x y = ((BitVec.ofInt 64 x ||| BitVec.ofInt 64 y).toNat : Int) := u64_nat _ (BitVec.isLt _)
theorem xor64 (x y : Int) : bits .xor .u64 x y = ((BitVec.ofInt 64 x ^^^ BitVec.ofInt 64 y).toNat : Int) := u64_nat _ (BitVec.isLt _)
theorem andNot64 (x y : Int) : bits .andNot .u64 x y = ((BitVec.ofInt 64 x &&& ~~~BitVec.ofInt 64 y).toNat : Int) := u64_nat _ (BitVec.isLt _)

/-! Over natural numbers. -/
theorem nand64 (a b : Nat) (ha : a < 18446744073709551616) (hb : b < 18446744073709551616) : bits .and .u64 (a : Int) (b : Int) = ((a &&& b : Nat) : Int) := by
  rw [and64]; simp only [BitVec.ofInt_natCast, BitVec.toNat_and, BitVec.toNat_ofNat, Nat.mod_eq_of_lt (show a < 2 ^ 64 from ha), Nat.mod_eq_of_lt (show b < 2 ^ 64 from hb)]
theorem nor64 (a b : Nat) (ha : a < 18446744073709551616) (hb : b < 18446744073709551616) : bits .or .u64 (a : Int) (b : Int) = ((a ||| b : Nat) : Int) := by
  rw [or64]; simp only [BitVec.ofInt_natCast, BitVec.toNat_or, BitVec.toNat_ofNat, Nat.mod_eq_of_lt (show a < 2 ^ 64 from ha), Nat.mod_eq_of_lt (show b < 2 ^ 64 from hb)]
theorem nxor64 (a b : Nat) (ha : a < 18446744073709551616) (hb : b < 18446744073709551616) : bits .xor .u64 (a : Int) (b : Int) = ((a ^^^ b : Nat) : Int) := by
  rw [xor64]; simp only [BitVec.ofInt_natCast, BitVec.toNat_xor, BitVec.toNat_ofNat, Nat.mod_eq_of_lt (show a < 2 ^ 64 from ha), Nat.mod_eq_of_lt (show b < 2 ^ 64 from hb)]
theorem nand32 (a b : Nat) (ha : a < 4294967296) (hb : b < 4294967296) : bits .and .u32 (a : Int) (b : Int) = ((a &&& b : Nat) : Int) := by
  rw [and32]; simp only [BitVec.ofInt_natCast, BitVec.toNat_and, BitVec.toNat_ofNat, Nat.mod_eq_of_lt (show a < 2 ^ 32 from ha), Nat.mod_eq_of_lt (show b < 2 ^ 32 from hb)]
theorem nor32 (a b : Nat) (ha : a < 4294967296) (hb : b < 4294967296) : bits .or .u32 (a : Int) (b : Int) = ((a ||| b : Nat) : Int) := by
  rw [or32]; simp only [BitVec.ofInt_natCast, BitVec.toNat_or, BitVec.toNat_ofNat, Nat.mod_eq_of_lt (show a < 2 ^ 32 from ha), Nat.mod_eq_of_lt (show b < 2 ^ 32 from hb)]
theorem nxor32 (a b : Nat) (ha : a < 4294967296) (hb : b < 4294967296) : bits .xor .u32 (a : Int) (b : Int) = ((a ^^^ b : Nat) : Int) := by
  rw [xor32]; simp only [BitVec.ofInt_natCast, BitVec.toNat_xor, BitVec.toNat_ofNat, Nat.mod_eq_of_lt (show a < 2 ^ 32 from ha), Nat.mod_eq_of_lt (show b < 2 ^ 32 from hb)]
theorem not_parts (x y : BitVec 32) : (x &&& ~~~y).toNat = x.toNat - (x &&& y).toNat := by
  have h1 : (x &&& ~~~y) &&& (x &&& y) = 0#32 := by
    apply BitVec.eq_of_getLsbD_eq; intro i hi; simp only [BitVec.getLsbD_and, BitVec.getLsbD_not, BitVec.getLsbD_zero, hi, decide_true, Bool.true_and]; cases x.getLsbD i <;> cases y.getLsbD i <;> rfl
  have h2 : (x &&& ~~~y) ||| (x &&& y) = x := by
    apply BitVec.eq_of_getLsbD_eq; intro i hi; simp only [BitVec.getLsbD_and, BitVec.getLsbD_or, BitVec.getLsbD_not, hi, decide_true, Bool.true_and]; cases x.getLsbD i <;> cases y.getLsbD i <;> rfl
  have h3 : (x &&& ~~~y).toNat &&& (x &&& y).toNat = 0 := by
    rw [← BitVec.toNat_and, h1]; rfl
  have h4 := or_add_and (x &&& ~~~y).toNat (x &&& y).toNat
  rw [h3, ← BitVec.toNat_or, h2] at h4
  omega
theorem nandNot32 (a b : Nat) (ha : a < 4294967296) (hb : b < 4294967296) : bits .andNot .u32 (a : Int) (b : Int) = ((a - (a &&& b) : Nat) : Int) := by
  rw [andNot32, not_parts]; simp only [BitVec.ofInt_natCast, BitVec.toNat_and, BitVec.toNat_ofNat, Nat.mod_eq_of_lt (show a < 2 ^ 32 from ha), Nat.mod_eq_of_lt (show b < 2 ^ 32 from hb)]

/-! As arithmetic. -/
theorem and_mask32 (n : Nat) (hn : n ≤ 32) (x : Int) (h0 : 0 ≤ x) (h1 : x < 4294967296) (m : Int) (hm : m = 2 ^ n - 1) : bits .and .u32 x m = x % 2 ^ n := by
  subst hm
  obtain ⟨a, rfl⟩ := Int.eq_ofNat_of_zero_le h0
  have hp : 2 ^ n ≤ 2 ^ 32 := Nat.pow_le_pow_right (by decide) hn
  have hpos : 0 < 2 ^ n := Nat.two_pow_pos n
  have hc : ((2 : Int) ^ n - 1) = ((2 ^ n - 1 : Nat) : Int) := by rw [Int.natCast_sub hpos]; simp
  rw [hc, nand32 a _ (by omega) (by omega), Nat.and_two_pow_sub_one_eq_mod]; simp
theorem and_mask64 (n : Nat) (hn : n ≤ 64) (x : Int) (h0 : 0 ≤ x) (h1 : x < 18446744073709551616) (m : Int) (hm : m = 2 ^ n - 1) : bits .and .u64 x m = x % 2 ^ n := by
  subst hm
  obtain ⟨a, rfl⟩ := Int.eq_ofNat_of_zero_le h0
  have hp : 2 ^ n ≤ 2 ^ 64 := Nat.pow_le_pow_right (by decide) hn
  have hpos : 0 < 2 ^ n := Nat.two_pow_pos n
  have hc : ((2 : Int) ^ n - 1) = ((2 ^ n - 1 : Nat) : Int) := by rw [Int.natCast_sub hpos]; simp
  rw [hc, nand64 a _ (by omega) (by omega), Nat.and_two_pow_sub_one_eq_mod]; simp
/-- Of a number with a sign, too. -/
theorem and_mask_i64 (n : Nat) (hn : n ≤ 62) (x : Int) (m : Int) (hm : m = 2 ^ n - 1) : bits .and .i64 x m = x % 2 ^ n := by
  subst hm
  have hp : 2 ^ n ≤ 2 ^ 62 := Nat.pow_le_pow_right (by decide) hn
  have hpos : 0 < 2 ^ n := Nat.two_pow_pos n
  have hc : ((2 : Int) ^ n - 1) = ((2 ^ n - 1 : Nat) : Int) := by rw [Int.natCast_sub hpos]; simp
  have hx : (BitVec.ofInt 64 x).toNat = (x % 2 ^ 64).toNat := by rw [BitVec.toNat_ofInt]; rfl
  have hd : x % 2 ^ 64 % 2 ^ n = x % 2 ^ n := Int.emod_emod_of_dvd x (by exact ⟨2 ^ (64 - n), by rw [← Int.pow_add]; congr 1; omega⟩)
  have h0 : 0 ≤ x % 2 ^ 64 := Int.emod_nonneg _ (by decide)
  obtain ⟨a, ha⟩ := Int.eq_ofNat_of_zero_le h0
  have hr : (BitVec.ofInt 64 x &&& BitVec.ofInt 64 ((2 ^ n - 1 : Nat) : Int)).toNat = a % 2 ^ n := by
    simp only [BitVec.ofInt_natCast, BitVec.toNat_and, BitVec.toNat_ofNat, hx, ha, Int.toNat_natCast]
    rw [Nat.mod_eq_of_lt (show 2 ^ n - 1 < 2 ^ 64 by omega), Nat.and_two_pow_sub_one_eq_mod]
  have hlt : a % 2 ^ n < 2 ^ n := Nat.mod_lt _ hpos
  rw [hc]
  show IntKind.i64.wrap ((BitVec.ofInt 64 x &&& BitVec.ofInt 64 ((2 ^ n - 1 : Nat) : Int)).toNat : Int) = _
  rw [hr, IntKind.wrap_i64, ← hd, ha]
  have e : ((a : Int) % 2 ^ n) = ((a % 2 ^ n : Nat) : Int) := by simp
  rw [e]; omega
theorem and_mask_i32 (n : Nat) (hn : n ≤ 30) (x : Int) (m : Int) (hm : m = 2 ^ n - 1) : bits .and .i32 x m = x % 2 ^ n := by
  subst hm
  have hp : 2 ^ n ≤ 2 ^ 30 := Nat.pow_le_pow_right (by decide) hn
  have hpos : 0 < 2 ^ n := Nat.two_pow_pos n
  have hc : ((2 : Int) ^ n - 1) = ((2 ^ n - 1 : Nat) : Int) := by rw [Int.natCast_sub hpos]; simp
  have hx : (BitVec.ofInt 32 x).toNat = (x % 2 ^ 32).toNat := by rw [BitVec.toNat_ofInt]; rfl
  have hd : x % 2 ^ 32 % 2 ^ n = x % 2 ^ n := Int.emod_emod_of_dvd x (by exact ⟨2 ^ (32 - n), by rw [← Int.pow_add]; congr 1; omega⟩)
  have h0 : 0 ≤ x % 2 ^ 32 := Int.emod_nonneg _ (by decide)
  obtain ⟨a, ha⟩ := Int.eq_ofNat_of_zero_le h0
  have hr : (BitVec.ofInt 32 x &&& BitVec.ofInt 32 ((2 ^ n - 1 : Nat) : Int)).toNat = a % 2 ^ n := by
    simp only [BitVec.ofInt_natCast, BitVec.toNat_and, BitVec.toNat_ofNat, hx, ha, Int.toNat_natCast]
    rw [Nat.mod_eq_of_lt (show 2 ^ n - 1 < 2 ^ 32 by omega), Nat.and_two_pow_sub_one_eq_mod]
  have hlt : a % 2 ^ n < 2 ^ n := Nat.mod_lt _ hpos
  rw [hc]
  show IntKind.i32.wrap ((BitVec.ofInt 32 x &&& BitVec.ofInt 32 ((2 ^ n - 1 : Nat) : Int)).toNat : Int) = _
  rw [hr, IntKind.wrap_i32, ← hd, ha]
  have e : ((a : Int) % 2 ^ n) = ((a % 2 ^ n : Nat) : Int) := by simp
  rw [e]; omega
/-- A field of a number, cleared. -/
theorem clear32 (n s : Nat) (hs : n + s ≤ 32) (x : Int) (h0 : 0 ≤ x) (h1 : x < 4294967296) (m : Int) (hm : m = (2 ^ n - 1) * 2 ^ s) : bits .andNot .u32 x m = x - x / 2 ^ s % 2 ^ n * 2 ^ s := by
  subst hm
  obtain ⟨a, rfl⟩ := Int.eq_ofNat_of_zero_le h0
  have hpos : 0 < 2 ^ n := Nat.two_pow_pos n
  have hc : (((2 : Int) ^ n - 1) * 2 ^ s) = (((2 ^ n - 1) * 2 ^ s : Nat) : Int) := by rw [Int.natCast_mul, Int.natCast_sub hpos]; simp
  have hb : (2 ^ n - 1) * 2 ^ s < 2 ^ 32 := by
    have h2 : 2 ^ n * 2 ^ s ≤ 2 ^ 32 := by rw [← Nat.pow_add]; exact Nat.pow_le_pow_right (by decide) hs
    have h3 := Nat.two_pow_pos s
    have : (2 ^ n - 1) * 2 ^ s < 2 ^ n * 2 ^ s := Nat.mul_lt_mul_of_pos_right (by omega) h3
    omega
  rw [hc, nandNot32 a _ (by omega) (by omega), and_shift_mask]
  have hle : a / 2 ^ s % 2 ^ n * 2 ^ s ≤ a := Nat.le_trans (Nat.mul_le_mul_right _ (Nat.mod_le _ _)) (Nat.div_mul_le_self a (2 ^ s))
  rw [Int.natCast_sub hle]; simp
/-- A field that is empty takes a number. -/
theorem put32 (n s : Nat) (hs : n + s ≤ 32) (x k : Int) (h0 : 0 ≤ x) (h1 : x < 4294967296) (hx : x / 2 ^ s % 2 ^ n = 0) (k0 : 0 ≤ k) (k1 : k < 2 ^ n) (y : Int) (hy : y = k * 2 ^ s) : bits .or .u32 x y = x + y := by
  subst hy
  obtain ⟨a, rfl⟩ := Int.eq_ofNat_of_zero_le h0
  obtain ⟨b, rfl⟩ := Int.eq_ofNat_of_zero_le k0
  have hb : b < 2 ^ n := by exact_mod_cast k1
  have h2 : 2 ^ n * 2 ^ s ≤ 2 ^ 32 := by rw [← Nat.pow_add]; exact Nat.pow_le_pow_right (by decide) hs
  have h3 : b * 2 ^ s < 2 ^ n * 2 ^ s := Nat.mul_lt_mul_of_pos_right hb (Nat.two_pow_pos s)
  have hf : a / 2 ^ s % 2 ^ n = 0 := by exact_mod_cast hx
  have e : ((b : Int) * 2 ^ s) = ((b * 2 ^ s : Nat) : Int) := by simp
  rw [e, nor32 a _ (by omega) (by omega), or_field a b n s hf hb]; simp
theorem or_comm32 (x y : Int) : bits .or .u32 x y = bits .or .u32 y x := by rw [or32, or32, BitVec.or_comm]
theorem range32 (o : BinOp) (x y : Int) : 0 ≤ bits o .u32 x y ∧ bits o .u32 x y < 4294967296 := by
  unfold bits
  rw [IntKind.wrap_u32]; omega
theorem range64 (o : BinOp) (x y : Int) : 0 ≤ bits o .u64 x y ∧ bits o .u64 x y < 18446744073709551616 := by
  unfold bits
  rw [wrap_u64]; omega
theorem w64 (x : Int) (h0 : -9223372036854775808 ≤ x) (h1 : x ≤ 9223372036854775807) : Go.RowKit.wrap64 x = x := by unfold Go.RowKit.wrap64; omega
theorem w32 (x : Int) (h0 : -2147483648 ≤ x) (h1 : x ≤ 2147483647) : Go.RowKit.wrap32 x = x := by unfold Go.RowKit.wrap32; omega
theorem wf_u32 {x : Int} (h : (Lit.int .u32 x).wf = true) : ∃ n : Nat, x = n ∧ n < 4294967296 := by
  simp [Lit.wf, IntKind.min, IntKind.max, IntKind.bits, IntKind.signed] at h
  exact ⟨x.toNat, by omega, by omega⟩
theorem wf_u64 {x : Int} (h : (Lit.int .u64 x).wf = true) : ∃ n : Nat, x = n ∧ n < 18446744073709551616 := by
  simp [Lit.wf, IntKind.min, IntKind.max, IntKind.bits, IntKind.signed] at h
  exact ⟨x.toNat, by omega, by omega⟩
theorem wf_i64 {x : Int} (h : (Lit.int .i64 x).wf = true) : -9223372036854775808 ≤ x ∧ x ≤ 9223372036854775807 := by
  simp [Lit.wf, IntKind.min, IntKind.max, IntKind.bits, IntKind.signed] at h
  omega
theorem wf_i32 {x : Int} (h : (Lit.int .i32 x).wf = true) : -2147483648 ≤ x ∧ x ≤ 2147483647 := by
  simp [Lit.wf, IntKind.min, IntKind.max, IntKind.bits, IntKind.signed] at h
  omega
end Go.Proofs.YtgglclmilocgcaaGreatDoor.Bv
