/- The printed functions of package field and of its reference, as arithmetic on natural numbers: both take the same parts of a word. -/
import Derived.Test.YtgkaidjikakpkaaPFieldTellsx2
import Derived.Test.YtgkaidjikakpkaaBv
set_option linter.unusedVariables false
set_option linter.unusedSimpArgs false
namespace Go.Proofs.Ytgkaidjikakpkaa.Fld
open Go.RowKit Go.Proofs.Ytgkaidjikakpkaa.PFieldTells Go.Proofs.YtgkaidjikakpkaaW.PrintWords Go.Proofs.Ytgkaidjikakpkaa.Bv

theorem pow_u64 (n : Nat) (h : n ≤ 32) : (2 : Nat) ^ n ≤ 4294967296 := Nat.pow_le_pow_right (n := 2) (by decide) h
theorem bits_in (w s n : Nat) (hw : w < 4294967296) (hs : s < 32) (h1 : 1 ≤ n) (hn : n ≤ 32) :
    field_Bits.f w s n = some ((w / 2 ^ s % 2 ^ n : Nat) : Int) := by
  have hp := pow_u64 n hn
  have hpos : 0 < 2 ^ n := Nat.two_pow_pos n
  unfold field_Bits.f
  rw [if_neg (by omega), if_neg (by omega), if_neg (by omega), if_neg (by omega), if_pos (by omega), if_pos (by omega)]
  have e1 : shr .u64 (IntKind.u64.wrap (w : Int)) (s : Int) = ((w / 2 ^ s : Nat) : Int) := by
    unfold shr
    rw [u64_nat w (by omega)]
    have : min (s : Int).toNat IntKind.u64.bits = s := by rw [Int.toNat_natCast]; exact Nat.min_eq_left (by simp [IntKind.bits]; omega)
    rw [this]; simp
  have e2 : IntKind.u64.wrap (shl .u64 1 (n : Int) - 1) = ((2 ^ n - 1 : Nat) : Int) := by
    unfold shl
    have : min (n : Int).toNat IntKind.u64.bits = n := by rw [Int.toNat_natCast]; exact Nat.min_eq_left (by simp [IntKind.bits]; omega)
    rw [this, Int.one_mul]
    have e : (2 : Int) ^ n = ((2 ^ n : Nat) : Int) := by simp
    rw [e, u64_nat _ (by omega)]
    have e' : ((2 ^ n : Nat) : Int) - 1 = ((2 ^ n - 1 : Nat) : Int) := by omega
    rw [e', u64_nat _ (by omega)]
  have hle : w / 2 ^ s ≤ w := Nat.div_le_self _ _
  rw [e1, e2, nand64 _ _ (by omega) (by omega), Nat.and_two_pow_sub_one_eq_mod]
  have hlt : w / 2 ^ s % 2 ^ n ≤ w / 2 ^ s := Nat.mod_le _ _
  congr 1; omega
theorem bits_out (w s n : Int) (h : s < 0 ∨ s ≥ 32 ∨ n < 1 ∨ n > 32) : field_Bits.f w s n = some 0 := by
  unfold field_Bits.f
  by_cases h1 : s < 0
  · rw [if_pos h1]
  · by_cases h2 : s ≥ 32
    · rw [if_neg h1, if_pos h2]
    · by_cases h3 : n < 1
      · rw [if_neg h1, if_neg h2, if_pos h3]
      · rw [if_neg h1, if_neg h2, if_neg h3, if_pos (by omega)]

/-! The reference's loop. -/
theorem step_bits (x i : Nat) (hi : i < 32) (hx : x < 4294967296) :
    Go.bits .or .u32 ((x % 2 ^ i : Nat) : Int) (shl .u32 ((x / 2 ^ i % 2 : Nat) : Int) (i : Int)) = ((x % 2 ^ (i + 1) : Nat) : Int) := by
  have hp := pow_u64 i (by omega)
  have hp1 := pow_u64 (i + 1) (by omega)
  have hpos : 0 < 2 ^ i := Nat.two_pow_pos i
  have hb : x / 2 ^ i % 2 < 2 := Nat.mod_lt _ (by decide)
  have e1 : shl .u32 ((x / 2 ^ i % 2 : Nat) : Int) (i : Int) = ((x / 2 ^ i % 2 * 2 ^ i : Nat) : Int) := by
    unfold shl
    have : min (i : Int).toNat IntKind.u32.bits = i := by rw [Int.toNat_natCast]; exact Nat.min_eq_left (by simp [IntKind.bits]; omega)
    rw [this]
    have e : ((x / 2 ^ i % 2 : Nat) : Int) * 2 ^ i = ((x / 2 ^ i % 2 * 2 ^ i : Nat) : Int) := by simp
    rw [e]
    refine u32_nat _ ?_
    have : 2 ^ (i + 1) = 2 ^ i * 2 := Nat.pow_succ _ _
    have : x / 2 ^ i % 2 * 2 ^ i ≤ 1 * 2 ^ i := Nat.mul_le_mul_right _ (by omega)
    omega
  have hm : x % 2 ^ i < 2 ^ i := Nat.mod_lt _ hpos
  have h2 : x / 2 ^ i % 2 * 2 ^ i < 4294967296 := by
    have : 2 ^ (i + 1) = 2 ^ i * 2 := Nat.pow_succ _ _
    have : x / 2 ^ i % 2 * 2 ^ i ≤ 1 * 2 ^ i := Nat.mul_le_mul_right _ (by omega)
    omega
  have h3 : x % 2 ^ i < 4294967296 := Nat.lt_of_lt_of_le hm hp
  rw [e1, nor32 _ _ h3 h2, or_field _ _ 1 i (by rw [Nat.div_eq_of_lt hm]) (by simpa using hb)]
  rw [Nat.mod_pow_succ, Nat.mul_comm (2 ^ i)]
theorem get_bit (w s i : Nat) (h : s + i < 32) (hw : w < 4294967296) :
    Go.bits .and .u32 (shr .u32 (w : Int) ((s : Int) + (i : Int))) 1 = ((w / 2 ^ s / 2 ^ i % 2 : Nat) : Int) := by
  have e1 : shr .u32 (w : Int) ((s : Int) + (i : Int)) = ((w / 2 ^ (s + i) : Nat) : Int) := by
    unfold shr
    have : min (((s : Int) + (i : Int))).toNat IntKind.u32.bits = s + i := by
      rw [show ((s : Int) + (i : Int)).toNat = s + i from by omega]; exact Nat.min_eq_left (by simp [IntKind.bits]; omega)
    rw [this]; simp
  have hle : w / 2 ^ (s + i) ≤ w := Nat.div_le_self _ _
  rw [e1, show (1 : Int) = ((1 : Nat) : Int) from rfl, nand32 _ _ (by omega) (by decide), Nat.and_one_is_mod, Nat.pow_add, Nat.div_div_eq_div_mul]
theorem ref_round (k w s n i : Nat) (hw : w < 4294967296) (h : s + i < 32) (hi : i < n) :
    dioscuriref5_Bits.l0 (k + 1) w s n ((w / 2 ^ s % 2 ^ i : Nat) : Int) i = dioscuriref5_Bits.l0 k w s n ((w / 2 ^ s % 2 ^ (i + 1) : Nat) : Int) ((i + 1 : Nat) : Int) := by
  have hx : w / 2 ^ s < 4294967296 := Nat.lt_of_le_of_lt (Nat.div_le_self _ _) hw
  simp only [dioscuriref5_Bits.l0]
  rw [w64 ((s : Int) + (i : Int)) (by omega) (by omega), u64_id ((s : Int) + (i : Int)) (by omega) (by omega), u64_id (i : Int) (by omega) (by omega),
    w64 ((i : Int) + 1) (by omega) (by omega), if_pos (by omega), if_pos (by omega), if_pos (by omega), if_pos (by omega), get_bit w s i h hw, step_bits _ i (by omega) hx]
  rfl
theorem ref_l0 (w s n : Nat) (hw : w < 4294967296) (hs : s < 32) (hn : n ≤ 32) : ∀ (d k i : Nat), n - i = d → i ≤ n → s + i ≤ 32 → d < k →
    dioscuriref5_Bits.l0 k w s n ((w / 2 ^ s % 2 ^ i : Nat) : Int) i = some ((w / 2 ^ s % 2 ^ n : Nat) : Int) := by
  intro d
  induction d with
  | zero =>
    intro k i hd hi his hk
    obtain ⟨k, rfl⟩ : ∃ m, k = m + 1 := ⟨k - 1, by omega⟩
    have : i = n := by omega
    subst this
    simp only [dioscuriref5_Bits.l0]; rw [if_neg (by omega)]
  | succ d ih =>
    intro k i hd hi his hk
    obtain ⟨k, rfl⟩ : ∃ m, k = m + 1 := ⟨k - 1, by omega⟩
    by_cases h32 : s + i < 32
    · rw [ref_round k w s n i hw h32 (by omega)]
      exact ih k (i + 1) (by omega) (by omega) (by omega) (by omega)
    · have h3 : s + i = 32 := by omega
      simp only [dioscuriref5_Bits.l0]
      rw [if_pos (by omega), w64 ((s : Int) + (i : Int)) (by omega) (by omega), if_neg (by omega)]
      have hq : w / 2 ^ s < 2 ^ i := by
        rw [Nat.div_lt_iff_lt_mul (Nat.two_pow_pos s), ← Nat.pow_add, show i + s = 32 from by omega]; exact hw
      have hq2 : w / 2 ^ s < 2 ^ n := Nat.lt_of_lt_of_le hq (Nat.pow_le_pow_right (by decide) hi)
      rw [Nat.mod_eq_of_lt hq, Nat.mod_eq_of_lt hq2]
theorem ref_bits (k w s n : Nat) (hw : w < 4294967296) (hs : s < 32) (h1 : 1 ≤ n) (hn : n ≤ 32) (hk : 33 < k) :
    dioscuriref5_Bits.f k w s n = some ((w / 2 ^ s % 2 ^ n : Nat) : Int) := by
  unfold dioscuriref5_Bits.f
  rw [if_neg (by omega), if_neg (by omega), if_neg (by omega)]
  have e : decide ((n : Int) > 32) = false := by simp; omega
  rw [e]
  obtain ⟨k, rfl⟩ : ∃ m, k = m + 1 := ⟨k - 1, by omega⟩
  simp only [dioscuriref5_Bits.j0]
  rw [if_neg (by simp)]
  have := ref_l0 w s n hw hs hn n k 0 (by omega) (by omega) (by omega) (by omega)
  simpa [Nat.mod_one] using this
theorem ref_out (k : Nat) (w s n : Int) (h : s < 0 ∨ s ≥ 32 ∨ n < 1 ∨ n > 32) (hk : 1 < k) : dioscuriref5_Bits.f k w s n = some 0 := by
  obtain ⟨k, rfl⟩ : ∃ m, k = m + 1 := ⟨k - 1, by omega⟩
  unfold dioscuriref5_Bits.f
  by_cases h1 : s < 0
  · rw [if_pos h1]; simp only [dioscuriref5_Bits.j0, if_true]
  · by_cases h2 : s > 31
    · rw [if_neg h1, if_pos h2]; simp only [dioscuriref5_Bits.j0, if_true]
    · by_cases h3 : n < 1
      · rw [if_neg h1, if_neg h2, if_pos h3]; simp only [dioscuriref5_Bits.j0, if_true]
      · have e : decide (n > 32) = true := by simp; omega
        rw [if_neg h1, if_neg h2, if_neg h3, e]; simp only [dioscuriref5_Bits.j0, if_true]
/-- The two take the same bits. -/
theorem bits_same (k : Nat) (hk : 33 < k) (w : Nat) (hw : w < 4294967296) (s n : Int) : ∃ r, field_Bits.f w s n = some r ∧ dioscuriref5_Bits.f k w s n = some r ∧ 0 ≤ r ∧ r < 4294967296 := by
  by_cases h : s < 0 ∨ s ≥ 32 ∨ n < 1 ∨ n > 32
  · exact ⟨0, bits_out w s n h, ref_out k w s n h (by omega), by decide, by decide⟩
  · obtain ⟨a, rfl⟩ := Int.eq_ofNat_of_zero_le (show 0 ≤ s by omega)
    obtain ⟨b, rfl⟩ := Int.eq_ofNat_of_zero_le (show 0 ≤ n by omega)
    refine ⟨_, bits_in w a b hw (by omega) (by omega) (by omega), ref_bits k w a b hw (by omega) (by omega) (by omega) hk, by omega, ?_⟩
    have := Nat.mod_le (w / 2 ^ a) (2 ^ b)
    have := Nat.div_le_self w (2 ^ a)
    omega
theorem sign_same (v n : Int) : ∃ r, field_Sign.f v n = some r ∧ dioscuriref5_Sign.f v n = some r := by
  unfold field_Sign.f dioscuriref5_Sign.f
  by_cases h1 : n < 1
  · rw [if_pos h1, if_pos h1]; exact ⟨_, rfl, rfl⟩
  · by_cases h2 : n > 32
    · rw [if_neg h1, if_neg h1, if_pos h2, if_pos h2]; exact ⟨_, rfl, rfl⟩
    · rw [if_neg h1, if_neg h1, if_neg h2, if_neg h2, w64 (32 - n) (by omega) (by omega), u64_id (32 - n) (by omega) (by omega), if_pos (by omega)]; exact ⟨_, rfl, rfl⟩
theorem immU_same (w : Nat) (hw : w < 4294967296) : ∃ r, field_ImmU.f w = some r ∧ dioscuriref5_ImmU.f w = some r := by
  have hb := bits_in w 12 20 hw (by decide) (by decide) (by decide)
  simp only [show (2 : Nat) ^ 12 = 4096 from rfl, show (2 : Nat) ^ 20 = 1048576 from rfl, Int.cast_ofNat_Int] at hb
  unfold field_ImmU.f dioscuriref5_ImmU.f
  rw [hb]; simp only [Option.bind_some]
  refine ⟨_, rfl, ?_⟩
  rw [clear32 12 0 (by decide) (w : Int) (by omega) (by omega) 4095 (by decide)]
  congr 2
  simp only [Int.pow_zero, Int.ediv_one, Int.mul_one, show (2 : Int) ^ 12 = 4096 from rfl]
  omega
theorem immI_same (k : Nat) (hk : 33 < k) (w : Nat) (hw : w < 4294967296) : ∃ r, field_ImmI.f w = some r ∧ dioscuriref5_ImmI.f k w = some r := by
  obtain ⟨a, p, q, _⟩ := bits_same k hk w hw 20 12
  obtain ⟨r, f, g⟩ := sign_same a 12
  unfold field_ImmI.f dioscuriref5_ImmI.f
  rw [p, q, Option.bind_some, Option.bind_some, f, g]; exact ⟨_, rfl, rfl⟩
theorem immS_same (k : Nat) (hk : 33 < k) (w : Nat) (hw : w < 4294967296) : ∃ r, field_ImmS.f w = some r ∧ dioscuriref5_ImmS.f k w = some r := by
  obtain ⟨a, p, q, _⟩ := bits_same k hk w hw 25 7
  obtain ⟨b, p1, q1, _⟩ := bits_same k hk w hw 7 5
  unfold field_ImmS.f dioscuriref5_ImmS.f
  rw [p, q, Option.bind_some, Option.bind_some, p1, q1, Option.bind_some, Option.bind_some]
  generalize Go.bits .or .u32 (a * 32 % 4294967296) b = v
  obtain ⟨r, f, g⟩ := sign_same v 12
  rw [f, g]; exact ⟨_, rfl, rfl⟩
theorem immB_same (k : Nat) (hk : 33 < k) (w : Nat) (hw : w < 4294967296) : ∃ r, field_ImmB.f w = some r ∧ dioscuriref5_ImmB.f k w = some r := by
  obtain ⟨a, p, q, _⟩ := bits_same k hk w hw 31 1
  obtain ⟨b, p1, q1, _⟩ := bits_same k hk w hw 7 1
  obtain ⟨c, p2, q2, _⟩ := bits_same k hk w hw 25 6
  obtain ⟨d, p3, q3, _⟩ := bits_same k hk w hw 8 4
  unfold field_ImmB.f dioscuriref5_ImmB.f
  rw [p, q, Option.bind_some, Option.bind_some, p1, q1, Option.bind_some, Option.bind_some, p2, q2, Option.bind_some, Option.bind_some, p3, q3, Option.bind_some, Option.bind_some]
  generalize Go.bits .or .u32 (Go.bits .or .u32 (Go.bits .or .u32 (a * 4096 % 4294967296) (b * 2048 % 4294967296)) (c * 32 % 4294967296)) (d * 2 % 4294967296) = v
  obtain ⟨r, f, g⟩ := sign_same v 13
  rw [f, g]; exact ⟨_, rfl, rfl⟩
theorem immJ_same (k : Nat) (hk : 33 < k) (w : Nat) (hw : w < 4294967296) : ∃ r, field_ImmJ.f w = some r ∧ dioscuriref5_ImmJ.f k w = some r := by
  obtain ⟨a, p, q, _⟩ := bits_same k hk w hw 31 1
  obtain ⟨b, p1, q1, _⟩ := bits_same k hk w hw 12 8
  obtain ⟨c, p2, q2, _⟩ := bits_same k hk w hw 20 1
  obtain ⟨d, p3, q3, _⟩ := bits_same k hk w hw 21 10
  unfold field_ImmJ.f dioscuriref5_ImmJ.f
  rw [p, q, Option.bind_some, Option.bind_some, p1, q1, Option.bind_some, Option.bind_some, p2, q2, Option.bind_some, Option.bind_some, p3, q3, Option.bind_some, Option.bind_some]
  generalize Go.bits .or .u32 (Go.bits .or .u32 (Go.bits .or .u32 (a * 1048576 % 4294967296) (b * 4096 % 4294967296)) (c * 2048 % 4294967296)) (d * 2 % 4294967296) = v
  obtain ⟨r, f, g⟩ := sign_same v 21
  rw [f, g]; exact ⟨_, rfl, rfl⟩
theorem known : dioscurilaw4_known.f = some true := by decide +kernel
/-- What the law asks of a word and two numbers. -/
theorem same (k : Nat) (hk : 33 < k) (w : Nat) (hw : w < 4294967296) (a n : Int) : dioscurilaw4_same.f k w a n = some true := by
  obtain ⟨r0, p0, q0, _⟩ := bits_same k hk w hw a n
  obtain ⟨r1, p1, q1⟩ := sign_same w n
  obtain ⟨r2, p2, q2⟩ := immI_same k hk w hw
  obtain ⟨r3, p3, q3⟩ := immS_same k hk w hw
  obtain ⟨r4, p4, q4⟩ := immB_same k hk w hw
  obtain ⟨r5, p5, q5⟩ := immU_same w hw
  obtain ⟨r6, p6, q6⟩ := immJ_same k hk w hw
  unfold dioscurilaw4_same.f
  rw [p0, q0, Option.bind_some, Option.bind_some, if_pos rfl, p1, q1, Option.bind_some, Option.bind_some, if_pos rfl, p2, q2, Option.bind_some, Option.bind_some, if_pos rfl, p3, q3, Option.bind_some, Option.bind_some, if_pos rfl,
    p4, q4, Option.bind_some, Option.bind_some, if_pos rfl, p5, q5, Option.bind_some, Option.bind_some, if_pos rfl, p6, q6, Option.bind_some, Option.bind_some, beq_self_eq_true]
end Go.Proofs.Ytgkaidjikakpkaa.Fld
