/- For any word and any number a word is put together of its parts: the pure statement of FieldParts. -/
import Derived.Test.YtgkaidjikakpkaaPFieldPartsx1
import Derived.Test.YtgkaidjikakpkaaFld
set_option linter.unusedVariables false
set_option linter.unusedSimpArgs false
namespace Go.Proofs.Ytgkaidjikakpkaa.Pure
open Go.RowKit Go.Proofs.Ytgkaidjikakpkaa.PFieldParts Go.Proofs.YtgkaidjikakpkaaW.PrintWords Go.Proofs.YtgkaidjikakpkaaW.PrintLast
theorem parts_bits_eq : PFieldParts.field_Bits.f = PFieldTells.field_Bits.f := rfl
theorem parts_known_eq : PFieldParts.dioscurilaw4_known.f = some true := by decide +kernel
theorem parts_join (v k : Nat) (hv : v < 4294967296) (h1 : 1 ≤ k) (h2 : k ≤ 16) :
    Go.bits .or .u32 ((v / 2 ^ 0 % 2 ^ k : Nat) : Int) (shl .u32 ((v / 2 ^ k % 2 ^ (32 - k) : Nat) : Int) (k : Int)) = (v : Int) := by
  have hq : v / 2 ^ k < 2 ^ (32 - k) := by
    rw [Nat.div_lt_iff_lt_mul (Nat.two_pow_pos k), ← Nat.pow_add, show 32 - k + k = 32 from by omega]; exact hv
  have hm : v / 2 ^ k * 2 ^ k ≤ v := Nat.div_mul_le_self _ _
  have e : shl .u32 ((v / 2 ^ k % 2 ^ (32 - k) : Nat) : Int) (k : Int) = ((v / 2 ^ k * 2 ^ k : Nat) : Int) := by
    rw [Nat.mod_eq_of_lt hq]
    unfold shl
    have : min (k : Int).toNat IntKind.u32.bits = k := by rw [Int.toNat_natCast]; exact Nat.min_eq_left (by simp [IntKind.bits]; omega)
    rw [this]
    have e1 : ((v / 2 ^ k : Nat) : Int) * 2 ^ k = ((v / 2 ^ k * 2 ^ k : Nat) : Int) := by simp
    rw [e1]; exact Bv.u32_nat _ (by omega)
  have hlt : v % 2 ^ k < 2 ^ k := Nat.mod_lt _ (Nat.two_pow_pos k)
  have hle : v % 2 ^ k ≤ v := Nat.mod_le _ _
  rw [e, Nat.pow_zero, Nat.div_one, Bv.nor32 _ _ (by omega) (by omega), Bv.or_field (v % 2 ^ k) (v / 2 ^ k) (32 - k) k (by rw [Nat.div_eq_of_lt hlt, Nat.zero_mod]) hq]
  have := Nat.mod_add_div v (2 ^ k)
  rw [Nat.mul_comm (v / 2 ^ k), this]
theorem FieldParts : dioscurilaw4_FieldParts.Pure := by
  intro w n hw _
  obtain ⟨v, rfl, hv⟩ := Bv.wf_u32 hw
  unfold dioscurilaw4_FieldParts.f
  rw [parts_bits_eq, parts_known_eq, Bv.and_mask_i64 4 (by decide) n 15 (by decide)]
  have hm : 0 ≤ n % 2 ^ 4 ∧ n % 2 ^ 4 < 16 := by omega
  generalize n % 2 ^ 4 = m at hm
  obtain ⟨k, rfl⟩ := Int.eq_ofNat_of_zero_le hm.1
  rw [Bv.w64 (1 + (k : Int)) (by omega) (by omega), Bv.w64 (32 - (1 + (k : Int))) (by omega) (by omega), Bv.u64_id (1 + (k : Int)) (by omega) (by omega)]
  rw [show (1 + (k : Int)) = ((k + 1 : Nat) : Int) from by omega, show (32 - ((k + 1 : Nat) : Int)) = ((32 - (k + 1) : Nat) : Int) from by omega]
  have b1 := Fld.bits_in v 0 (k + 1) hv (by decide) (by omega) (by omega)
  have b2 := Fld.bits_in v (k + 1) (32 - (k + 1)) hv (by omega) (by omega) (by omega)
  have b3 := Fld.bits_in v 0 32 hv (by decide) (by decide) (by decide)
  have b4 := Fld.bits_in v 31 5 hv (by decide) (by decide) (by decide)
  simp only [Int.cast_ofNat_Int] at b1 b3 b4
  have j := parts_join v (k + 1) hv (by omega) (by omega)
  rw [b1, Option.bind_some, b2, Option.bind_some, if_pos (by omega), if_pos j, b3, Option.bind_some, if_pos (by rw [Nat.pow_zero, Nat.div_one, Nat.mod_eq_of_lt hv]), b4, Option.bind_some, if_pos (by clear j b1 b2 b3 b4; omega)]
  rfl
end Go.Proofs.Ytgkaidjikakpkaa.Pure
