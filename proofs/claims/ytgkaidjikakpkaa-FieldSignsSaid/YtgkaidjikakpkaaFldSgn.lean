/- The numbers with a sign that package field makes, as arithmetic: the five immediates' bounds and lowest bits; a number with a sign is itself again. -/
import Derived.Test.YtgkaidjikakpkaaFld
set_option linter.unusedVariables false
set_option linter.unusedSimpArgs false
namespace Go.Proofs.Ytgkaidjikakpkaa.FldSgn
open Go.RowKit Go.Proofs.Ytgkaidjikakpkaa.PFieldTells Go.Proofs.YtgkaidjikakpkaaW.PrintWords Go.Proofs.Ytgkaidjikakpkaa.Bv Go.Proofs.Ytgkaidjikakpkaa.Fld

theorem shl_u32 (v d : Nat) (hd : d ≤ 32) : shl .u32 (v : Int) (d : Int) = ((v * 2 ^ d % 4294967296 : Nat) : Int) := by
  unfold shl
  have : min (d : Int).toNat IntKind.u32.bits = d := by rw [Int.toNat_natCast]; exact Nat.min_eq_left (by simp [IntKind.bits]; omega)
  rw [this, IntKind.wrap_u32]
  have e : (v : Int) * 2 ^ d = ((v * 2 ^ d : Nat) : Int) := by simp
  rw [e]; omega
theorem shr_i32 (x : Int) (d : Nat) (hd : d ≤ 32) : shr .i32 x (d : Int) = x / 2 ^ d := by
  unfold shr
  have : min (d : Int).toNat IntKind.i32.bits = d := by rw [Int.toNat_natCast]; exact Nat.min_eq_left (by simp [IntKind.bits]; omega)
  rw [this]
/-- The number of so many low bits of it, with a sign. -/
def sgn (v k : Nat) : Int := wrap32 ((v * 2 ^ (32 - k) % 4294967296 : Nat) : Int) / 2 ^ (32 - k)
theorem sign_val (v k : Nat) (h1 : 1 ≤ k) (hk : k ≤ 32) : field_Sign.f v k = some (sgn v k) := by
  unfold field_Sign.f sgn
  rw [if_neg (by omega), if_neg (by omega), w64 (32 - (k : Int)) (by omega) (by omega), if_pos (by omega), show (32 - (k : Int)) = ((32 - k : Nat) : Int) from by omega,
    shl_u32 v (32 - k) (by omega), shr_i32 _ (32 - k) (by omega)]
theorem wrap32_of (x : Nat) (h : x < 4294967296) : wrap32 (x : Int) = if x < 2147483648 then (x : Int) else (x : Int) - 4294967296 := by
  unfold wrap32; split <;> omega
theorem pow_split (k : Nat) (h1 : 1 ≤ k) (hk : k ≤ 32) : 2 ^ (k - 1) * 2 ^ (32 - k) = 2147483648 ∧ 2 ^ k * 2 ^ (32 - k) = 4294967296 := by
  constructor
  · rw [← Nat.pow_add, show k - 1 + (32 - k) = 31 from by omega]
  · rw [← Nat.pow_add, show k + (32 - k) = 32 from by omega]
theorem sgn_small (v k : Nat) (h1 : 1 ≤ k) (hk : k ≤ 32) (hv : v < 2 ^ k) : sgn v k = if v < 2 ^ (k - 1) then (v : Int) else (v : Int) - 2 ^ k := by
  obtain ⟨p1, p2⟩ := pow_split k h1 hk
  have hpos : 0 < 2 ^ (32 - k) := Nat.two_pow_pos _
  have hlt : v * 2 ^ (32 - k) < 4294967296 := by rw [← p2]; exact Nat.mul_lt_mul_of_pos_right hv hpos
  unfold sgn
  rw [Nat.mod_eq_of_lt hlt, wrap32_of _ hlt]
  have hd : ((2 : Int) ^ (32 - k)) = ((2 ^ (32 - k) : Nat) : Int) := by simp
  by_cases h : v < 2 ^ (k - 1)
  · have : v * 2 ^ (32 - k) < 2147483648 := by rw [← p1]; exact Nat.mul_lt_mul_of_pos_right h hpos
    rw [if_pos this, if_pos h, hd, Int.natCast_mul]
    exact Int.mul_ediv_cancel _ (by omega)
  · have : ¬ v * 2 ^ (32 - k) < 2147483648 := by rw [← p1]; exact Nat.not_lt.2 (Nat.mul_le_mul_right _ (by omega))
    rw [if_neg this, if_neg h, hd]
    have e : (((v * 2 ^ (32 - k) : Nat) : Int) - 4294967296) = ((v : Int) - 2 ^ k) * ((2 ^ (32 - k) : Nat) : Int) := by
      rw [Int.sub_mul, Int.natCast_mul]
      have : ((2 : Int) ^ k) * ((2 ^ (32 - k) : Nat) : Int) = 4294967296 := by
        have e2 : ((2 : Int) ^ k) = ((2 ^ k : Nat) : Int) := by simp
        rw [e2, ← Int.natCast_mul, p2]; rfl
      rw [this]
    rw [e]; exact Int.mul_ediv_cancel _ (by omega)
theorem sgn12 (v : Nat) (h : v < 4096) : field_Sign.f v 12 = some (if v < 2048 then (v : Int) else (v : Int) - 4096) := by
  have := sign_val v 12 (by decide) (by decide)
  rw [sgn_small v 12 (by decide) (by decide) h] at this
  exact this
theorem sgn13 (v : Nat) (h : v < 8192) : field_Sign.f v 13 = some (if v < 4096 then (v : Int) else (v : Int) - 8192) := by
  have := sign_val v 13 (by decide) (by decide)
  rw [sgn_small v 13 (by decide) (by decide) h] at this
  exact this
theorem sgn21 (v : Nat) (h : v < 2097152) : field_Sign.f v 21 = some (if v < 1048576 then (v : Int) else (v : Int) - 2097152) := by
  have := sign_val v 21 (by decide) (by decide)
  rw [sgn_small v 21 (by decide) (by decide) h] at this
  exact this
/-- The low bits are those of the word. -/
theorem sgn_low (w k : Nat) (h1 : 1 ≤ k) (hk : k ≤ 32) : ∃ r : Int, field_Sign.f w k = some r ∧ field_Sign.f (r % 4294967296) k = some r ∧
    shl .u32 (r % 4294967296) ((32 - k : Nat) : Int) = shl .u32 (w : Int) ((32 - k : Nat) : Int) := by
  have hlt : w % 2 ^ k < 2 ^ k := Nat.mod_lt _ (Nat.two_pow_pos k)
  obtain ⟨p1, p2⟩ := pow_split k h1 hk
  have hpk : 2 ^ k ≤ 4294967296 := by have := Nat.pow_le_pow_right (n := 2) (by decide) hk; exact this
  have hp1 : 2 ^ (k - 1) * 2 = 2 ^ k := by rw [← Nat.pow_succ]; congr 1; omega
  have em : ∀ v : Nat, v * 2 ^ (32 - k) % 4294967296 = (v % 2 ^ k) * 2 ^ (32 - k) := by
    intro v
    rw [← p2, Nat.mul_mod_mul_right]
  have es : ∀ v : Nat, sgn v k = sgn (v % 2 ^ k) k := by
    intro v; unfold sgn; rw [em v, em (v % 2 ^ k), Nat.mod_mod]
  refine ⟨sgn w k, sign_val w k h1 hk, ?_⟩
  -- the number as a word
  obtain ⟨q, hq, hq2⟩ : ∃ q : Nat, sgn w k % 4294967296 = (q : Int) ∧ q % 2 ^ k = w % 2 ^ k := by
    rw [es w, sgn_small _ k h1 hk hlt]
    generalize hm : w % 2 ^ k = m at hlt
    split
    · exact ⟨m, by omega, Nat.mod_eq_of_lt hlt⟩
    · rename_i hge
      refine ⟨4294967296 - 2 ^ k + m, ?_, ?_⟩
      · have e2 : ((2 : Int) ^ k) = ((2 ^ k : Nat) : Int) := by simp
        rw [e2]; generalize 2 ^ k = p at *; omega
      · have hdvd : 4294967296 - 2 ^ k = (2 ^ (32 - k) - 1) * 2 ^ k := by
          rw [Nat.sub_mul, Nat.mul_comm (2 ^ (32 - k)), p2, Nat.one_mul]
        rw [hdvd, Nat.add_comm, Nat.add_mul_mod_self_right]; exact Nat.mod_eq_of_lt hlt
  rw [hq]
  constructor
  · rw [sign_val q k h1 hk, es q, hq2, ← es w]
  · rw [shl_u32 q _ (by omega), shl_u32 w _ (by omega), em q, em w, hq2]
/-! The immediates. -/
theorem or32_2 (x y : Int) (n s : Nat) (hs : n + s ≤ 32) (k : Int) (h0 : 0 ≤ x) (h1 : x < 4294967296) (hx : x / 2 ^ s % 2 ^ n = 0) (k0 : 0 ≤ k) (k1 : k < 2 ^ n) (hy : y = k * 2 ^ s) : Go.bits .or .u32 x y = x + y := put32 n s hs x k h0 h1 hx k0 k1 y hy
theorem immI_val (w : Nat) (hw : w < 4294967296) : ∃ r, field_ImmI.f w = some r ∧ -2048 ≤ r ∧ r < 2048 ∧ (r < 0 ↔ w / 2147483648 = 1) := by
  have b := bits_in w 20 12 hw (by decide) (by decide) (by decide)
  simp only [Int.cast_ofNat_Int, show (2 : Nat) ^ 20 = 1048576 from rfl, show (2 : Nat) ^ 12 = 4096 from rfl] at b
  have h : w / 1048576 % 4096 < 4096 := Nat.mod_lt _ (by decide)
  refine ⟨_, by unfold field_ImmI.f; rw [b, Option.bind_some, sgn12 _ h]; rfl, ?_⟩
  clear b
  split <;> omega
theorem immS_val (w : Nat) (hw : w < 4294967296) : ∃ r, field_ImmS.f w = some r ∧ -2048 ≤ r ∧ r < 2048 := by
  have b := bits_in w 25 7 hw (by decide) (by decide) (by decide)
  have c := bits_in w 7 5 hw (by decide) (by decide) (by decide)
  simp only [Int.cast_ofNat_Int] at b c
  have hx : w / 2 ^ 25 % 2 ^ 7 < 128 := Nat.mod_lt _ (by decide)
  have hy : w / 2 ^ 7 % 2 ^ 5 < 32 := Nat.mod_lt _ (by decide)
  generalize w / 2 ^ 25 % 2 ^ 7 = x at *
  generalize w / 2 ^ 7 % 2 ^ 5 = y at *
  have e : Go.bits .or .u32 ((x : Int) * 32 % 4294967296) (y : Int) = ((x * 32 + y : Nat) : Int) := by
    rw [or32_2 _ _ 5 0 (by decide) (y : Int) (by omega) (by omega) (by omega) (by omega) (by omega) (by omega)]; omega
  have h : x * 32 + y < 4096 := by omega
  refine ⟨_, by unfold field_ImmS.f; rw [b, Option.bind_some, c, Option.bind_some, e, sgn12 _ h]; rfl, ?_⟩
  clear b c e
  split <;> omega
theorem immB_val (w : Nat) (hw : w < 4294967296) : ∃ r, field_ImmB.f w = some r ∧ -4096 ≤ r ∧ r < 4096 ∧ r % 2 = 0 ∧ (r < 0 ↔ w / 2147483648 = 1) := by
  have b := bits_in w 31 1 hw (by decide) (by decide) (by decide)
  have c := bits_in w 7 1 hw (by decide) (by decide) (by decide)
  have d := bits_in w 25 6 hw (by decide) (by decide) (by decide)
  have f := bits_in w 8 4 hw (by decide) (by decide) (by decide)
  simp only [Int.cast_ofNat_Int] at b c d f
  have hx : w / 2 ^ 31 % 2 ^ 1 < 2 := Nat.mod_lt _ (by decide)
  have hxx : w / 2 ^ 31 % 2 ^ 1 = w / 2147483648 := by omega
  have hy : w / 2 ^ 7 % 2 ^ 1 < 2 := Nat.mod_lt _ (by decide)
  have hz : w / 2 ^ 25 % 2 ^ 6 < 64 := Nat.mod_lt _ (by decide)
  have hu : w / 2 ^ 8 % 2 ^ 4 < 16 := Nat.mod_lt _ (by decide)
  rw [← hxx]
  generalize w / 2 ^ 31 % 2 ^ 1 = x at *
  generalize w / 2 ^ 7 % 2 ^ 1 = y at *
  generalize w / 2 ^ 25 % 2 ^ 6 = z at *
  generalize w / 2 ^ 8 % 2 ^ 4 = u at *
  have e1 : Go.bits .or .u32 ((x : Int) * 4096 % 4294967296) ((y : Int) * 2048 % 4294967296) = (x : Int) * 4096 + y * 2048 := by
    rw [or32_2 _ _ 1 11 (by decide) (y : Int) (by omega) (by omega) (by omega) (by omega) (by omega) (by omega)]; omega
  have e2 : Go.bits .or .u32 ((x : Int) * 4096 + y * 2048) ((z : Int) * 32 % 4294967296) = (x : Int) * 4096 + y * 2048 + z * 32 := by
    rw [or32_2 _ _ 6 5 (by decide) (z : Int) (by omega) (by omega) (by omega) (by omega) (by omega) (by omega)]; omega
  have e3 : Go.bits .or .u32 ((x : Int) * 4096 + y * 2048 + z * 32) ((u : Int) * 2 % 4294967296) = ((x * 4096 + y * 2048 + z * 32 + u * 2 : Nat) : Int) := by
    rw [or32_2 _ _ 4 1 (by decide) (u : Int) (by omega) (by omega) (by omega) (by omega) (by omega) (by omega)]; omega
  have h : x * 4096 + y * 2048 + z * 32 + u * 2 < 8192 := by omega
  refine ⟨_, by unfold field_ImmB.f; rw [b, Option.bind_some, c, Option.bind_some, d, Option.bind_some, f, Option.bind_some, e1, e2, e3, sgn13 _ h]; rfl, ?_⟩
  clear b c d f e1 e2 e3
  split <;> omega
theorem immU_val (w : Nat) (hw : w < 4294967296) : ∃ r, field_ImmU.f w = some r ∧ r % 4096 = 0 := by
  have b := bits_in w 12 20 hw (by decide) (by decide) (by decide)
  simp only [Int.cast_ofNat_Int, show (2 : Nat) ^ 20 = 1048576 from rfl, show (2 : Nat) ^ 12 = 4096 from rfl] at b
  refine ⟨_, by unfold field_ImmU.f; rw [b, Option.bind_some], ?_⟩
  unfold wrap32; omega
theorem immJ_val (w : Nat) (hw : w < 4294967296) : ∃ r, field_ImmJ.f w = some r ∧ -1048576 ≤ r ∧ r < 1048576 ∧ r % 2 = 0 ∧ (r < 0 ↔ w / 2147483648 = 1) := by
  have b := bits_in w 31 1 hw (by decide) (by decide) (by decide)
  have c := bits_in w 12 8 hw (by decide) (by decide) (by decide)
  have d := bits_in w 20 1 hw (by decide) (by decide) (by decide)
  have f := bits_in w 21 10 hw (by decide) (by decide) (by decide)
  simp only [Int.cast_ofNat_Int] at b c d f
  have hx : w / 2 ^ 31 % 2 ^ 1 < 2 := Nat.mod_lt _ (by decide)
  have hxx : w / 2 ^ 31 % 2 ^ 1 = w / 2147483648 := by omega
  have hy : w / 2 ^ 12 % 2 ^ 8 < 256 := Nat.mod_lt _ (by decide)
  have hz : w / 2 ^ 20 % 2 ^ 1 < 2 := Nat.mod_lt _ (by decide)
  have hu : w / 2 ^ 21 % 2 ^ 10 < 1024 := Nat.mod_lt _ (by decide)
  rw [← hxx]
  generalize w / 2 ^ 31 % 2 ^ 1 = x at *
  generalize w / 2 ^ 12 % 2 ^ 8 = y at *
  generalize w / 2 ^ 20 % 2 ^ 1 = z at *
  generalize w / 2 ^ 21 % 2 ^ 10 = u at *
  have e1 : Go.bits .or .u32 ((x : Int) * 1048576 % 4294967296) ((y : Int) * 4096 % 4294967296) = (x : Int) * 1048576 + y * 4096 := by
    rw [or32_2 _ _ 8 12 (by decide) (y : Int) (by omega) (by omega) (by omega) (by omega) (by omega) (by omega)]; omega
  have e2 : Go.bits .or .u32 ((x : Int) * 1048576 + y * 4096) ((z : Int) * 2048 % 4294967296) = (x : Int) * 1048576 + y * 4096 + z * 2048 := by
    rw [or32_2 _ _ 1 11 (by decide) (z : Int) (by omega) (by omega) (by omega) (by omega) (by omega) (by omega)]; omega
  have e3 : Go.bits .or .u32 ((x : Int) * 1048576 + y * 4096 + z * 2048) ((u : Int) * 2 % 4294967296) = ((x * 1048576 + y * 4096 + z * 2048 + u * 2 : Nat) : Int) := by
    rw [or32_2 _ _ 10 1 (by decide) (u : Int) (by omega) (by omega) (by omega) (by omega) (by omega) (by omega)]; omega
  have h : x * 1048576 + y * 4096 + z * 2048 + u * 2 < 2097152 := by omega
  refine ⟨_, by unfold field_ImmJ.f; rw [b, Option.bind_some, c, Option.bind_some, d, Option.bind_some, f, Option.bind_some, e1, e2, e3, sgn21 _ h]; rfl, ?_⟩
  clear b c d f e1 e2 e3
  split <;> omega
end Go.Proofs.Ytgkaidjikakpkaa.FldSgn
