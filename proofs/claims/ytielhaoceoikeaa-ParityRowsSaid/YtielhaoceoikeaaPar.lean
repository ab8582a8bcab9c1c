/- The printed functions of package parity, as functions of natural numbers: the count is that of the bits that are 1; what Put and Get answer; that the known runs are so. -/
import Derived.Test.YtielhaoceoikeaaPknownx1
import Derived.Test.YtielhaoceoikeaaPop
import Derived.Test.YtielhaoceoikeaaBv
set_option linter.unusedVariables false
set_option linter.unusedSimpArgs false
namespace Go.Proofs.Ytielhaoceoikeaa.Par
open Go.RowKit Go.Proofs.Ytielhaoceoikeaa.Pknown Go.Proofs.YtielhaoceoikeaaW.PrintWords Go.Proofs.Ytielhaoceoikeaa.Pop Go.Proofs.Ytielhaoceoikeaa.Bv

theorem pred64 (n : Nat) (h0 : 0 < n) (h : n < 18446744073709551616) : IntKind.u64.wrap ((n : Int) - 1) = ((n - 1 : Nat) : Int) := by
  have e : ((n : Int) - 1) = ((n - 1 : Nat) : Int) := by omega
  rw [e]; exact u64_nat _ (by omega)
theorem count_l0 : ∀ (k n : Nat) (c : Int), n < 18446744073709551616 → 0 ≤ c → c + pc n ≤ 1000000 → pc n < k → parity_Count.l0 k n c = some (c + pc n) := by
  intro k
  induction k with
  | zero => intro n c _ _ _ h; omega
  | succ k ih =>
    intro n c hn hc0 hc hk
    simp only [parity_Count.l0]
    by_cases h : n = 0
    · subst h; rw [if_pos (by simp), pc_zero]; simp
    · have h0 : 0 < n := by omega
      have hp := pc_and_pred n h0
      have hlt := and_pred_lt n h0
      have hb : Go.bits .and .u64 (n : Int) (IntKind.u64.wrap ((n : Int) - 1)) = ((n &&& (n - 1) : Nat) : Int) := by
        rw [pred64 n h0 hn]; exact nand64 n (n - 1) hn (by omega)
      have hw : wrap64 (c + 1) = c + 1 := by unfold wrap64; omega
      rw [if_neg (by omega), hb, hw, ih (n &&& (n - 1)) (c + 1) (by omega) (by omega) (by omega) (by omega)]
      congr 1; omega
theorem count (k n : Nat) (hn : n < 18446744073709551616) (hk : 64 < k) : parity_Count.f k n = some (pc n : Int) := by
  have hp := pc_le 64 n hn
  unfold parity_Count.f
  rw [count_l0 k n 0 hn (by omega) (by omega) (by omega)]; simp
theorem low_bit (n : Nat) (h : n < 18446744073709551616) : Go.bits .and .u64 (IntKind.u64.wrap (n : Int)) 1 = ((n % 2 : Nat) : Int) := by
  rw [u64_nat n h]
  have := nand64 n 1 h (by decide)
  rw [show ((1 : Int)) = ((1 : Nat) : Int) from rfl, this, Nat.and_one_is_mod]
theorem of (k n : Nat) (hn : n < 18446744073709551616) (hk : 64 < k) : parity_Of.f k n = some ((pc n % 2 : Nat) : Int) := by
  have hp := pc_le 64 n hn
  unfold parity_Of.f
  rw [count k n hn hk]; simp only [Option.bind_some]
  rw [low_bit _ (by omega)]
/-- What Put answers. -/
def putv (v : Nat) : Nat := v + 4294967296 * (pc v % 2)
theorem putv_lt (v : Nat) (h : v < 4294967296) : putv v < 8589934592 := by unfold putv; omega
theorem or_high (v b : Nat) (h : v < 4294967296) : v ||| b * 4294967296 = v + 4294967296 * b := by
  have := Nat.two_pow_add_eq_or_of_lt (i := 32) (b := v) (by simpa using h) b
  rw [Nat.or_comm, Nat.mul_comm b]
  simp only [show (2 : Nat) ^ 32 = 4294967296 from rfl] at this
  omega
theorem put (k v : Nat) (hv : v < 4294967296) (hk : 64 < k) : parity_Put.f k v = some (putv v : Int) := by
  unfold parity_Put.f
  rw [u64_nat v (by omega), of k v (by omega) hk]; simp only [Option.bind_some]
  have e : (((pc v % 2 : Nat) : Int) * 4294967296) = ((pc v % 2 * 4294967296 : Nat) : Int) := by omega
  rw [e, u64_nat _ (by omega), nor64 _ _ (by omega) (by omega), or_high v _ hv]
  rfl
/-- Is a word right? -/
def okv (w : Nat) : Bool := pc w % 2 == 0 && w / 8589934592 == 0
theorem get (k w : Nat) (hw : w < 18446744073709551616) (hk : 64 < k) : parity_Get.f k w = some (((w % 4294967296 : Nat) : Int), okv w) := by
  unfold parity_Get.f
  rw [of k w hw hk]; simp only [Option.bind_some]
  have e : Go.bits .and .u64 (w : Int) 4294967295 % 4294967296 = ((w % 4294967296 : Nat) : Int) := by
    have := nand64 w 4294967295 hw (by decide)
    rw [show ((4294967295 : Int)) = ((4294967295 : Nat) : Int) from rfl, this]
    have h2 : w &&& 4294967295 = w % 4294967296 := Nat.and_two_pow_sub_one_eq_mod w 32
    rw [h2]; omega
  rw [e]
  unfold okv
  by_cases h : pc w % 2 = 0
  · rw [if_pos (by omega), h]
    congr 2
    simp only [beq_self_eq_true, Bool.true_and]
    rw [Bool.eq_iff_iff, beq_iff_eq, beq_iff_eq]; omega
  · rw [if_neg (by omega)]
    have h1 : (pc w % 2 == 0) = false := by rw [beq_eq_false_iff_ne]; exact h
    rw [h1]; rfl
theorem pc_1 : pc 1 = 1 := pc_two_pow 0
theorem pc_3 : pc 3 = 2 := by rw [pc_odd 1, pc_1]
theorem pc_7 : pc 7 = 3 := by rw [pc_odd 3, pc_3]
theorem pc_one32 : pc 4294967297 = 2 := by rw [pc_odd 2147483648]; rw [show 2147483648 = 2 ^ 31 from by decide, pc_two_pow]
theorem pc_all : pc 18446744073709551615 = 64 := by
  have h := pc_not 64 0 (by decide)
  rw [show 2 ^ 64 - 1 - 0 = 18446744073709551615 from by decide, pc_zero] at h
  omega
theorem known : dioscurilaw1_known.f 65 = some true := by
  have g1 := get 65 4294967297 (by decide) (by decide)
  have g2 := get 65 1 (by decide) (by decide)
  have g3 := put 65 1 (by decide) (by decide)
  have g4 := of 65 3 (by decide) (by decide)
  have g5 := of 65 7 (by decide) (by decide)
  have g6 := count 65 18446744073709551615 (by decide) (by decide)
  have e1 : okv 4294967297 = true := by unfold okv; rw [pc_one32]; decide
  have e2 : okv 1 = false := by unfold okv; rw [pc_1]; rfl
  have e3 : putv 1 = 4294967297 := by unfold putv; rw [pc_1]
  rw [e1] at g1; rw [e2] at g2; rw [e3] at g3; rw [pc_3] at g4; rw [pc_7] at g5; rw [pc_all] at g6
  unfold dioscurilaw1_known.f
  simp only [Nat.reduceMod, Int.cast_ofNat_Int] at g1 g2 g3 g4 g5 g6
  rw [g1, g2, g3, g4, g5, g6]
  decide

/-! A bit is turned. -/
theorem pc_putv (v : Nat) (h : v < 4294967296) : pc (putv v) % 2 = 0 := by
  have := pc_parts 32 (putv v)
  have e1 : putv v / 2 ^ 32 = pc v % 2 := by unfold putv; omega
  have e2 : putv v % 2 ^ 32 = v := by unfold putv; omega
  rw [e1, e2] at this
  have h3 : pc (pc v % 2) = pc v % 2 := by
    rcases Nat.mod_two_eq_zero_or_one (pc v) with h | h <;> rw [h]
    · exact pc_zero
    · exact pc_1
  omega
theorem okv_putv (v : Nat) (h : v < 4294967296) : okv (putv v) = true := by
  have h1 := pc_putv v h
  have h2 := putv_lt v h
  have h3 : putv v / 8589934592 = 0 := by omega
  unfold okv; rw [h1, h3]; rfl
theorem putv_low (v : Nat) (h : v < 4294967296) : putv v % 4294967296 = v := by unfold putv; omega
theorem xor_lt33 (a i : Nat) (ha : a < 8589934592) (hi : i < 33) : a ^^^ 2 ^ i < 8589934592 :=
  Nat.xor_lt_two_pow (n := 33) ha (Nat.pow_lt_pow_right (by decide) hi)
theorem okv_odd (a : Nat) (h : pc a % 2 = 1) : okv a = false := by unfold okv; rw [h]; rfl
theorem okv_even (a : Nat) (h : pc a % 2 = 0) (hl : a < 8589934592) : okv a = true := by
  have h3 : a / 8589934592 = 0 := by omega
  unfold okv; rw [h, h3]; rfl
theorem okv_one (v i : Nat) (h : v < 4294967296) : okv (putv v ^^^ 2 ^ i) = false := by
  have h1 := pc_putv v h
  have h2 := pc_xor (putv v) (2 ^ i)
  rw [pc_two_pow] at h2
  exact okv_odd _ (by omega)
theorem okv_two (v i k : Nat) (h : v < 4294967296) (hi : i < 33) (hk : k < 33) : okv (putv v ^^^ 2 ^ i ^^^ 2 ^ k) = true := by
  have h1 := pc_putv v h
  have h2 := pc_xor (putv v) (2 ^ i)
  have h3 := pc_xor (putv v ^^^ 2 ^ i) (2 ^ k)
  rw [pc_two_pow] at h2 h3
  exact okv_even _ (by omega) (xor_lt33 _ k (xor_lt33 _ i (putv_lt v h) hi) hk)
theorem two_low (v i k : Nat) (h : v < 4294967296) (hi : i < 33) (hk : k < 33) : (putv v ^^^ 2 ^ i ^^^ 2 ^ k) % 4294967296 = v ↔ i = k := by
  constructor
  · intro e
    refine Decidable.byContradiction fun hne => ?_
    have hb : ∀ j, j < 32 → (putv v ^^^ 2 ^ i ^^^ 2 ^ k).testBit j = (putv v).testBit j := by
      intro j hj
      have e1 : ((putv v ^^^ 2 ^ i ^^^ 2 ^ k) % 2 ^ 32).testBit j = (putv v % 2 ^ 32).testBit j := by
        rw [show (2 : Nat) ^ 32 = 4294967296 from rfl, e, putv_low v h]
      rw [Nat.testBit_mod_two_pow, Nat.testBit_mod_two_pow] at e1
      simpa [hj] using e1
    by_cases h32 : i < 32
    · have := hb i h32
      rw [Nat.testBit_xor, Nat.testBit_xor, Nat.testBit_two_pow, Nat.testBit_two_pow, decide_eq_true (rfl : i = i), decide_eq_false (fun h => hne h.symm : ¬ k = i)] at this
      cases hx : (putv v).testBit i <;> rw [hx] at this <;> simp at this
    · have := hb k (by omega)
      rw [Nat.testBit_xor, Nat.testBit_xor, Nat.testBit_two_pow, Nat.testBit_two_pow, decide_eq_true (rfl : k = k), decide_eq_false (hne : ¬ i = k)] at this
      cases hx : (putv v).testBit k <;> rw [hx] at this <;> simp at this
  · rintro rfl
    rw [Nat.xor_assoc, Nat.xor_self, Nat.xor_zero, putv_low v h]
theorem xor_bit (a i : Nat) (ha : a < 8589934592) (hi : i < 33) : Go.bits .xor .u64 (a : Int) (IntKind.u64.wrap (2 ^ i)) = ((a ^^^ 2 ^ i : Nat) : Int) := by
  have hp : 2 ^ i < 2 ^ 33 := Nat.pow_lt_pow_right (by decide) hi
  have e : ((2 : Int) ^ i) = ((2 ^ i : Nat) : Int) := by simp
  rw [e, u64_nat _ (by omega), nxor64 _ _ (by omega) (by omega)]
/-- The place of a bit, as the law makes it of any number. -/
theorem place (a : Int) : ∃ i : Nat, i < 33 ∧ Int.tmod (IntKind.u64.wrap (Go.bits .and .i64 a 63)) 33 = (i : Int) := by
  rw [and_mask_i64 6 (by decide) a 63 (by decide)]
  have h0 : 0 ≤ a % 2 ^ 6 ∧ a % 2 ^ 6 < 64 := by omega
  generalize a % 2 ^ 6 = m at h0
  rw [u64_id m (by omega) (by omega)]
  refine ⟨(m % 33).toNat, by omega, ?_⟩
  rw [Int.tmod_eq_emod_of_nonneg h0.1]; omega
theorem max64 : IntKind.u64.max = ((18446744073709551615 : Nat) : Int) := by decide
theorem xor_all (n : Nat) (h : n < 18446744073709551616) : (18446744073709551615 : Nat) ^^^ n = 18446744073709551615 - n := by
  have h1 : (BitVec.allOnes 64 ^^^ BitVec.ofNat 64 n) = ~~~BitVec.ofNat 64 n := by rw [BitVec.allOnes_xor]
  have h2 := congrArg BitVec.toNat h1
  rw [BitVec.toNat_xor, BitVec.toNat_not, BitVec.toNat_allOnes, BitVec.toNat_ofNat, Nat.mod_eq_of_lt (show n < 2 ^ 64 from h)] at h2
  exact h2
theorem nhalf (n : Nat) : (n : Int) / 4294967296 = ((n / 4294967296 : Nat) : Int) := by omega
theorem nlow (n : Nat) (h : n < 18446744073709551616) : Go.bits .and .u64 (n : Int) 4294967295 = ((n % 4294967296 : Nat) : Int) := by
  have := nand64 n 4294967295 h (by decide)
  rw [show ((4294967295 : Int)) = ((4294967295 : Nat) : Int) from rfl, this]
  have h2 : n &&& 4294967295 = n % 4294967296 := Nat.and_two_pow_sub_one_eq_mod n 32
  rw [h2]
theorem nall (n : Nat) (h : n < 18446744073709551616) : Go.bits .xor .u64 IntKind.u64.max (n : Int) = ((18446744073709551615 - n : Nat) : Int) := by
  rw [max64, nxor64 _ n (by decide) h, xor_all n h]
theorem add_small (a b c : Nat) (h : c = a + b) (hc : c ≤ 64) : (c : Int) = wrap64 ((a : Int) + (b : Int)) := by
  rw [w64 _ (by omega) (by omega)]; omega
theorem count_parts (n : Nat) (h : n < 18446744073709551616) : (pc n : Int) = wrap64 ((pc (n / 4294967296) : Int) + (pc (n % 4294967296) : Int)) :=
  add_small _ _ _ (pc_parts 32 n) (pc_le 64 n h)
theorem sub_small (a b : Nat) (h : a + b = 64) : (a : Int) = wrap64 (64 - (b : Int)) := by
  rw [w64 _ (by omega) (by omega)]; omega
theorem count_not (n : Nat) (h : n < 18446744073709551616) : (pc (18446744073709551615 - n) : Int) = wrap64 (64 - (pc n : Int)) :=
  sub_small _ _ (pc_not 64 n h)
theorem of_halves (n : Nat) : pc (n / 4294967296 ^^^ n % 4294967296) % 2 = pc n % 2 := by
  have h1 := pc_xor (n / 4294967296) (n % 4294967296)
  have h2 := pc_parts 32 n
  simp only [show (2 : Nat) ^ 32 = 4294967296 from rfl] at h2
  rw [h1, h2]
theorem halves_lt (n : Nat) (h : n < 18446744073709551616) : n / 4294967296 ^^^ n % 4294967296 < 18446744073709551616 :=
  Nat.xor_lt_two_pow (n := 64) (Nat.lt_of_le_of_lt (Nat.div_le_self _ _) h) (Nat.lt_of_le_of_lt (Nat.mod_le _ _) h)
theorem halves (n : Nat) (h : n < 18446744073709551616) : Go.bits .xor .u64 ((n : Int) / 4294967296) (Go.bits .and .u64 (n : Int) 4294967295) = ((n / 4294967296 ^^^ n % 4294967296 : Nat) : Int) := by
  rw [nlow n h, nhalf, nxor64 _ _ (Nat.lt_of_le_of_lt (Nat.div_le_self _ _) h) (Nat.lt_of_le_of_lt (Nat.mod_le _ _) h)]
theorem xor_lt64 (a b : Nat) (ha : a < 18446744073709551616) (hb : b < 18446744073709551616) : a ^^^ b < 18446744073709551616 := Nat.xor_lt_two_pow (n := 64) ha hb
theorem or_lt64 (a b : Nat) (ha : a < 18446744073709551616) (hb : b < 18446744073709551616) : a ||| b < 18446744073709551616 := Nat.or_lt_two_pow (n := 64) ha hb
theorem and_lt64 (a b : Nat) (ha : a < 18446744073709551616) : a &&& b < 18446744073709551616 := Nat.lt_of_le_of_lt Nat.and_le_left ha
theorem bit_xor (x y : Nat) : (x % 2) ^^^ (y % 2) = (x + y) % 2 := by
  have h1 : (x + y) % 2 = (x % 2 + y % 2) % 2 := by omega
  rw [h1]
  rcases Nat.mod_two_eq_zero_or_one x with h | h <;> rcases Nat.mod_two_eq_zero_or_one y with k | k <;> rw [h, k] <;> rfl
theorem bit_lt (x : Nat) : x % 2 < 18446744073709551616 := Nat.lt_trans (Nat.mod_lt x (by decide)) (by decide)
theorem of_xor (a b : Nat) : ((pc (a ^^^ b) % 2 : Nat) : Int) = Go.bits .xor .u64 ((pc a % 2 : Nat) : Int) ((pc b % 2 : Nat) : Int) := by
  rw [nxor64 _ _ (bit_lt _) (bit_lt _), bit_xor, pc_xor]
theorem both_small (a b c d : Nat) (h : a + b = c + d) (hc : c ≤ 64) (hd : d ≤ 64) : wrap64 ((a : Int) + (b : Int)) = wrap64 ((c : Int) + (d : Int)) := by
  rw [show ((a : Int) + (b : Int)) = (c : Int) + (d : Int) from by omega]
theorem or_and (a b : Nat) (ha : a < 18446744073709551616) (hb : b < 18446744073709551616) : wrap64 ((pc (a ||| b) : Int) + (pc (a &&& b) : Int)) = wrap64 ((pc a : Int) + (pc b : Int)) :=
  both_small _ _ _ _ (pc_or_and a b) (pc_le 64 a ha) (pc_le 64 b hb)
theorem put_high (n : Nat) (h : n < 4294967296) : ((putv n : Nat) : Int) / 4294967296 = (pc n : Int) % 2 := by unfold putv; omega
theorem u64_u32 (n : Nat) (h : n < 4294967296) : IntKind.u64.wrap (n : Int) = (n : Int) := u64_nat n (Nat.lt_trans h (by decide))
end Go.Proofs.Ytielhaoceoikeaa.Par
