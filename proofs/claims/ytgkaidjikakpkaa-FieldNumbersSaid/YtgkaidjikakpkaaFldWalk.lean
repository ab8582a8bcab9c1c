/- The laws of layer 4 that were not printed, walked: FieldTurns, FieldSigns, FieldNumbers, by the contracts of package field's functions. -/
import Derived.Test.YtgkaidjikakpkaaFld
import Derived.Lib.Hide
set_option linter.unusedVariables false
set_option linter.unusedSimpArgs false
namespace Go.Proofs.Ytgkaidjikakpkaa.FldWalk
open Go.RowKit Go.Proofs.Ytgkaidjikakpkaa.PFieldTells Go.Proofs.YtgkaidjikakpkaaW.PrintWords Go.Proofs.YtgkaidjikakpkaaW.PrintLast Go.Proofs.YtgkaidjikakpkaaW.PrintMore Go.Proofs.Ytgkaidjikakpkaa.Bv Go.Proofs.Ytgkaidjikakpkaa.Fld

theorem cknown (w : World) : Calls Try.prog 9 #[] w fun e w' => e = .returned (.bool true) ∧ Drawn0 w w' := dioscurilaw4_known.calls true w Fld.known

/-! The immediates lie in some bits alone. -/
theorem bits_eq (v w s n : Nat) (hv : v < 4294967296) (hw : w < 4294967296) (hs : s < 32) (h1 : 1 ≤ n) (hn : n ≤ 32) (h : v / 2 ^ s % 2 ^ n = w / 2 ^ s % 2 ^ n) : field_Bits.f v s n = field_Bits.f w s n := by
  rw [bits_in v s n hv hs h1 hn, bits_in w s n hw hs h1 hn, h]
theorem immI_eq (v w : Nat) (hv : v < 4294967296) (hw : w < 4294967296) (h : v / 2 ^ 20 % 2 ^ 12 = w / 2 ^ 20 % 2 ^ 12) : field_ImmI.f v = field_ImmI.f w := by
  have e := bits_eq v w 20 12 hv hw (by decide) (by decide) (by decide) h
  simp only [Int.cast_ofNat_Int] at e
  unfold field_ImmI.f; rw [e]
theorem immU_eq (v w : Nat) (hv : v < 4294967296) (hw : w < 4294967296) (h : v / 2 ^ 12 % 2 ^ 20 = w / 2 ^ 12 % 2 ^ 20) : field_ImmU.f v = field_ImmU.f w := by
  have e := bits_eq v w 12 20 hv hw (by decide) (by decide) (by decide) h
  simp only [Int.cast_ofNat_Int] at e
  unfold field_ImmU.f; rw [e]
theorem immS_eq (v w : Nat) (hv : v < 4294967296) (hw : w < 4294967296) (h : v / 2 ^ 25 % 2 ^ 7 = w / 2 ^ 25 % 2 ^ 7) (h2 : v / 2 ^ 7 % 2 ^ 5 = w / 2 ^ 7 % 2 ^ 5) : field_ImmS.f v = field_ImmS.f w := by
  have e := bits_eq v w 25 7 hv hw (by decide) (by decide) (by decide) h
  have e2 := bits_eq v w 7 5 hv hw (by decide) (by decide) (by decide) h2
  simp only [Int.cast_ofNat_Int] at e e2
  unfold field_ImmS.f; rw [e, e2]
theorem immB_eq (v w : Nat) (hv : v < 4294967296) (hw : w < 4294967296) (h : v / 2 ^ 31 % 2 ^ 1 = w / 2 ^ 31 % 2 ^ 1) (h2 : v / 2 ^ 7 % 2 ^ 1 = w / 2 ^ 7 % 2 ^ 1) (h3 : v / 2 ^ 25 % 2 ^ 6 = w / 2 ^ 25 % 2 ^ 6) (h4 : v / 2 ^ 8 % 2 ^ 4 = w / 2 ^ 8 % 2 ^ 4) : field_ImmB.f v = field_ImmB.f w := by
  have e := bits_eq v w 31 1 hv hw (by decide) (by decide) (by decide) h
  have e2 := bits_eq v w 7 1 hv hw (by decide) (by decide) (by decide) h2
  have e3 := bits_eq v w 25 6 hv hw (by decide) (by decide) (by decide) h3
  have e4 := bits_eq v w 8 4 hv hw (by decide) (by decide) (by decide) h4
  simp only [Int.cast_ofNat_Int] at e e2 e3 e4
  unfold field_ImmB.f; rw [e, e2, e3, e4]
theorem immJ_eq (v w : Nat) (hv : v < 4294967296) (hw : w < 4294967296) (h : v / 2 ^ 31 % 2 ^ 1 = w / 2 ^ 31 % 2 ^ 1) (h2 : v / 2 ^ 12 % 2 ^ 8 = w / 2 ^ 12 % 2 ^ 8) (h3 : v / 2 ^ 20 % 2 ^ 1 = w / 2 ^ 20 % 2 ^ 1) (h4 : v / 2 ^ 21 % 2 ^ 10 = w / 2 ^ 21 % 2 ^ 10) : field_ImmJ.f v = field_ImmJ.f w := by
  have e := bits_eq v w 31 1 hv hw (by decide) (by decide) (by decide) h
  have e2 := bits_eq v w 12 8 hv hw (by decide) (by decide) (by decide) h2
  have e3 := bits_eq v w 20 1 hv hw (by decide) (by decide) (by decide) h3
  have e4 := bits_eq v w 21 10 hv hw (by decide) (by decide) (by decide) h4
  simp only [Int.cast_ofNat_Int] at e e2 e3 e4
  unfold field_ImmJ.f; rw [e, e2, e3, e4]
/-- A field of a word, replaced. -/
def repl (w s k : Nat) : Nat := w - w / 2 ^ s % 32 * 2 ^ s + k * 2 ^ s
theorem repl_is (s : Nat) (hs : s ≤ 27) (w : Nat) (hw : w < 4294967296) (k : Int) (k0 : 0 ≤ k) (k1 : k < 32) (m y : Int) (hm : m = 31 * 2 ^ s) (hy : y = k * 2 ^ s) :
    Go.bits .or .u32 (Go.bits .andNot .u32 (w : Int) m) y = (repl w s k.toNat : Int) := by
  obtain ⟨b, rfl⟩ := Int.eq_ofNat_of_zero_le k0
  have hle : w / 2 ^ s % 32 * 2 ^ s ≤ w := Nat.le_trans (Nat.mul_le_mul_right _ (Nat.mod_le _ _)) (Nat.div_mul_le_self w (2 ^ s))
  have e0 : ((w : Int) / 2 ^ s % 2 ^ 5 * 2 ^ s) = ((w / 2 ^ s % 32 * 2 ^ s : Nat) : Int) := by simp
  have e1 : Go.bits .andNot .u32 (w : Int) m = ((w - w / 2 ^ s % 32 * 2 ^ s : Nat) : Int) := by
    rw [clear32 5 s (by omega) (w : Int) (by omega) (by omega) m (by rw [hm]; rfl), e0, Int.natCast_sub hle]
  have h3 : (w - w / 2 ^ s % 32 * 2 ^ s) / 2 ^ s % 2 ^ 5 = 0 := by
    have hpos : 0 < 2 ^ s := Nat.two_pow_pos s
    have hd : w = (w / 2 ^ s) * 2 ^ s + w % 2 ^ s := by rw [Nat.mul_comm]; exact (Nat.div_add_mod w (2 ^ s)).symm
    have hq : w - w / 2 ^ s % 32 * 2 ^ s = (w / 2 ^ s - w / 2 ^ s % 32) * 2 ^ s + w % 2 ^ s := by
      rw [Nat.sub_mul]
      have : w / 2 ^ s % 32 * 2 ^ s ≤ w / 2 ^ s * 2 ^ s := Nat.mul_le_mul_right _ (Nat.mod_le _ _)
      omega
    rw [hq, Nat.add_comm, Nat.add_mul_div_right _ _ hpos, Nat.div_eq_of_lt (Nat.mod_lt _ hpos)]
    omega
  rw [e1, put32 5 s (by omega) _ (b : Int) (by omega) (by omega) (by exact_mod_cast h3) (by omega) (by exact_mod_cast k1) y hy, hy]
  unfold repl
  rw [Int.toNat_natCast, Int.natCast_add]; simp
theorem repl_lt (s w k : Nat) (hs : s ≤ 27) (hw : w < 4294967296) (hk : k < 32) : repl w s k < 4294967296 := by
  have hpos : 0 < 2 ^ s := Nat.two_pow_pos s
  have hd : w = (w / 2 ^ s) * 2 ^ s + w % 2 ^ s := by rw [Nat.mul_comm]; exact (Nat.div_add_mod w (2 ^ s)).symm
  have hp : 2 ^ s * 2 ^ (32 - s) = 4294967296 := by rw [← Nat.pow_add, show s + (32 - s) = 32 from by omega]
  have h32 : 2 ^ (32 - s) % 32 = 0 := by
    obtain ⟨j, hj⟩ : ∃ j, 32 - s = j + 5 := ⟨27 - s, by omega⟩
    rw [hj, Nat.pow_add]; exact Nat.mul_mod_left _ _
  have hq : w / 2 ^ s < 2 ^ (32 - s) := by
    rw [Nat.div_lt_iff_lt_mul hpos, Nat.mul_comm, hp]; exact hw
  have hm : w % 2 ^ s < 2 ^ s := Nat.mod_lt _ hpos
  have e : repl w s k = (w / 2 ^ s - w / 2 ^ s % 32 + k) * 2 ^ s + w % 2 ^ s := by
    unfold repl
    rw [Nat.add_mul, Nat.sub_mul]
    have : w / 2 ^ s % 32 * 2 ^ s ≤ w / 2 ^ s * 2 ^ s := Nat.mul_le_mul_right _ (Nat.mod_le _ _)
    omega
  have hlt : w / 2 ^ s - w / 2 ^ s % 32 + k + 1 ≤ 2 ^ (32 - s) := by
    generalize w / 2 ^ s = q at hq
    generalize 2 ^ (32 - s) = p at hq h32
    omega
  have := Nat.mul_le_mul_right (2 ^ s) hlt
  rw [Nat.add_mul, Nat.one_mul, Nat.mul_comm (2 ^ (32 - s)), hp] at this
  omega
theorem arg_k (n : Int) : ∃ k : Nat, k < 32 ∧ Go.bits .and .i64 n 31 % 4294967296 = (k : Int) := by
  rw [and_mask_i64 5 (by decide) n 31 (by decide)]
  exact ⟨(n % 2 ^ 5).toNat, by omega, by omega⟩
theorem turns_eqs (w k : Nat) (hw : w < 4294967296) (hk : k < 32) :
    field_ImmI.f (repl w 15 k : Nat) = field_ImmI.f w ∧ field_ImmS.f (repl w 15 k : Nat) = field_ImmS.f w ∧ field_ImmB.f (repl w 15 k : Nat) = field_ImmB.f w ∧
    field_ImmI.f (repl w 7 k : Nat) = field_ImmI.f w ∧ field_ImmU.f (repl w 7 k : Nat) = field_ImmU.f w ∧ field_ImmJ.f (repl w 7 k : Nat) = field_ImmJ.f w ∧
    field_ImmS.f (repl w 20 k : Nat) = field_ImmS.f w ∧ field_ImmB.f (repl w 20 k : Nat) = field_ImmB.f w := by
  have l1 := repl_lt 15 w k (by decide) hw hk
  have l2 := repl_lt 7 w k (by decide) hw hk
  have l3 := repl_lt 20 w k (by decide) hw hk
  unfold repl at *
  refine ⟨immI_eq _ _ l1 hw ?_, immS_eq _ _ l1 hw ?_ ?_, immB_eq _ _ l1 hw ?_ ?_ ?_ ?_, immI_eq _ _ l2 hw ?_, immU_eq _ _ l2 hw ?_, immJ_eq _ _ l2 hw ?_ ?_ ?_ ?_, immS_eq _ _ l3 hw ?_ ?_, immB_eq _ _ l3 hw ?_ ?_ ?_ ?_⟩ <;> clear l1 l2 l3 <;> omega
theorem cI (a r : Int) (v : Int) (h : a = v) (f : field_ImmI.f v = some r) (w : World) : Calls Try.prog 12 #[.int .u32 a] w fun e w' => e = .returned (.int .i32 r) ∧ Drawn0 w w' := by subst h; exact field_ImmI.calls a r w f
theorem cS (a r : Int) (v : Int) (h : a = v) (f : field_ImmS.f v = some r) (w : World) : Calls Try.prog 13 #[.int .u32 a] w fun e w' => e = .returned (.int .i32 r) ∧ Drawn0 w w' := by subst h; exact field_ImmS.calls a r w f
theorem cB (a r : Int) (v : Int) (h : a = v) (f : field_ImmB.f v = some r) (w : World) : Calls Try.prog 14 #[.int .u32 a] w fun e w' => e = .returned (.int .i32 r) ∧ Drawn0 w w' := by subst h; exact field_ImmB.calls a r w f
theorem cU (a r : Int) (v : Int) (h : a = v) (f : field_ImmU.f v = some r) (w : World) : Calls Try.prog 15 #[.int .u32 a] w fun e w' => e = .returned (.int .i32 r) ∧ Drawn0 w w' := by subst h; exact field_ImmU.calls a r w f
theorem cJ (a r : Int) (v : Int) (h : a = v) (f : field_ImmJ.f v = some r) (w : World) : Calls Try.prog 16 #[.int .u32 a] w fun e w' => e = .returned (.int .i32 r) ∧ Drawn0 w w' := by subst h; exact field_ImmJ.calls a r w f
set_option maxHeartbeats 1000000 in
theorem turns_calls (v : Nat) (n : Int) (hv : v < 4294967296) (w : World) :
    Calls Try.prog 7 #[.int .u32 v, .int .i64 n] w fun e w' => e = .returned (.bool true) ∧ Drawn0 w w' := by
  obtain ⟨k, hk, ek⟩ := arg_k n
  obtain ⟨f1, f2, f3, f4, f5, f6, f7, f8⟩ := turns_eqs v k hv hk
  obtain ⟨rI, gI, _⟩ := immI_same 34 (by decide) v hv
  obtain ⟨rS, gS, _⟩ := immS_same 34 (by decide) v hv
  obtain ⟨rB, gB, _⟩ := immB_same 34 (by decide) v hv
  obtain ⟨rU, gU, _⟩ := immU_same v hv
  obtain ⟨rJ, gJ, _⟩ := immJ_same 34 (by decide) v hv
  rw [gI] at f1 f4; rw [gS] at f2 f7; rw [gB] at f3 f8; rw [gU] at f5; rw [gJ] at f6
  have e1 := repl_is 15 (by decide) v hv (k : Int) (by omega) (by omega) 1015808 ((k : Int) * 32768) (by decide) (by omega)
  have e2 := repl_is 7 (by decide) v hv (k : Int) (by omega) (by omega) 3968 ((k : Int) * 128) (by decide) (by omega)
  have e3 := repl_is 20 (by decide) v hv (k : Int) (by omega) (by omega) 32505856 ((k : Int) * 1048576) (by decide) (by omega)
  rw [Int.toNat_natCast] at e1 e2 e3
  have F1 := Lib.hid f1; have F2 := Lib.hid f2; have F3 := Lib.hid f3; have F4 := Lib.hid f4; have F5 := Lib.hid f5; have F6 := Lib.hid f6; have F7 := Lib.hid f7; have F8 := Lib.hid f8
  have GI := Lib.hid gI; have GS := Lib.hid gS; have GB := Lib.hid gB; have GU := Lib.hid gU; have GJ := Lib.hid gJ
  have E1 := Lib.hid e1; have E2 := Lib.hid e2; have E3 := Lib.hid e3
  clear f1 f2 f3 f4 f5 f6 f7 f8 gI gS gB gU gJ e1 e2 e3 hv
  go_enter Try.func7, Try.ntmps7
  go_wp2_with fail
  refine (cI _ rI _ E1.out F1.out _).mono ?_
  rintro e w' ⟨rfl, ⟨nd, rfl⟩⟩
  go_wp2_with fail
  refine (cI _ rI v rfl GI.out _).mono ?_
  rintro e w' ⟨rfl, ⟨nd, rfl⟩⟩
  go_wp2_with fail
  refine (cS _ rS _ E1.out F2.out _).mono ?_
  rintro e w' ⟨rfl, ⟨nd, rfl⟩⟩
  go_wp2_with fail
  refine (cS _ rS v rfl GS.out _).mono ?_
  rintro e w' ⟨rfl, ⟨nd, rfl⟩⟩
  go_wp2_with fail
  refine (cB _ rB _ E1.out F3.out _).mono ?_
  rintro e w' ⟨rfl, ⟨nd, rfl⟩⟩
  go_wp2_with fail
  refine (cB _ rB v rfl GB.out _).mono ?_
  rintro e w' ⟨rfl, ⟨nd, rfl⟩⟩
  go_wp2_with fail
  refine (cI _ rI _ E2.out F4.out _).mono ?_
  rintro e w' ⟨rfl, ⟨nd, rfl⟩⟩
  go_wp2_with fail
  refine (cI _ rI v rfl GI.out _).mono ?_
  rintro e w' ⟨rfl, ⟨nd, rfl⟩⟩
  go_wp2_with fail
  refine (cU _ rU _ E2.out F5.out _).mono ?_
  rintro e w' ⟨rfl, ⟨nd, rfl⟩⟩
  go_wp2_with fail
  refine (cU _ rU v rfl GU.out _).mono ?_
  rintro e w' ⟨rfl, ⟨nd, rfl⟩⟩
  go_wp2_with fail
  refine (cJ _ rJ _ E2.out F6.out _).mono ?_
  rintro e w' ⟨rfl, ⟨nd, rfl⟩⟩
  go_wp2_with fail
  refine (cJ _ rJ v rfl GJ.out _).mono ?_
  rintro e w' ⟨rfl, ⟨nd, rfl⟩⟩
  go_wp2_with fail
  refine (cS _ rS _ E3.out F7.out _).mono ?_
  rintro e w' ⟨rfl, ⟨nd, rfl⟩⟩
  go_wp2_with fail
  refine (cS _ rS v rfl GS.out _).mono ?_
  rintro e w' ⟨rfl, ⟨nd, rfl⟩⟩
  go_wp2_with fail
  refine (cB _ rB _ E3.out F8.out _).mono ?_
  rintro e w' ⟨rfl, ⟨nd, rfl⟩⟩
  go_wp2_with fail
  refine (cB _ rB v rfl GB.out _).mono ?_
  rintro e w' ⟨rfl, ⟨nd, rfl⟩⟩
  go_wp2_with fail
  refine (cknown _).mono ?_
  rintro e w' ⟨rfl, ⟨nd, rfl⟩⟩
  go_wp2_with fail
  go_ret
  exact ⟨rfl, by repeat (first | exact Drawn0.refl _ | apply Drawn0.step)⟩
theorem turns_walk (a0 a1 : Int) (w : World) (w0 : (Lit.int .u32 a0).wf = true) (_ : (Lit.int .i64 a1).wf = true) :
    Calls Try.prog 7 #[.int .u32 a0, .int .i64 a1] w fun e w' => e = .returned (.bool true) ∧ Below w.heap.size w w' := by
  obtain ⟨v, rfl, hv⟩ := wf_u32 w0
  exact (turns_calls v a1 hv w).mono fun e w' ⟨he, hd⟩ => ⟨he, hd.below⟩
end Go.Proofs.Ytgkaidjikakpkaa.FldWalk
