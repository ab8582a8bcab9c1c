/- The law FieldSigns, walked by the contracts of package field's functions. -/
import Derived.Test.YtgkaidjikakpkaaFldWalk
import Derived.Test.YtgkaidjikakpkaaFldSgn
set_option linter.unusedVariables false
set_option linter.unusedSimpArgs false
namespace Go.Proofs.Ytgkaidjikakpkaa.FldWalk2
open Go.RowKit Go.Proofs.Ytgkaidjikakpkaa.PFieldTells Go.Proofs.YtgkaidjikakpkaaW.PrintWords Go.Proofs.YtgkaidjikakpkaaW.PrintLast Go.Proofs.YtgkaidjikakpkaaW.PrintMore Go.Proofs.Ytgkaidjikakpkaa.Bv Go.Proofs.Ytgkaidjikakpkaa.Fld Go.Proofs.Ytgkaidjikakpkaa.FldSgn Go.Proofs.Ytgkaidjikakpkaa.FldWalk
theorem cSg (a b r x y : Int) (h : a = x) (h2 : b = y) (f : field_Sign.f x y = some r) (w : World) : Calls Try.prog 11 #[.int .u32 a, .int .i64 b] w fun e w' => e = .returned (.int .i32 r) ∧ Drawn0 w w' := by subst h; subst h2; exact field_Sign.calls a b r w f
theorem arg_k1 (n : Int) : ∃ k : Nat, k < 32 ∧ Go.bits .and .i64 n 31 = (k : Int) := by
  rw [and_mask_i64 5 (by decide) n 31 (by decide)]
  exact ⟨(n % 2 ^ 5).toNat, by omega, by omega⟩
theorem signs_facts (v : Nat) (rI rB rU rJ : Int) (i3 : rI < 0 ↔ v / 2147483648 = 1) (b3 : rB % 2 = 0) (b4 : rB < 0 ↔ v / 2147483648 = 1) (u1 : rU % 4096 = 0) (j3 : rJ % 2 = 0) (j4 : rJ < 0 ↔ v / 2147483648 = 1) :
    (Go.bits .and .i32 rB 1 == 0) = true ∧ (Go.bits .and .i32 rU 4095 == 0) = true ∧ (Go.bits .and .i32 rJ 1 == 0) = true ∧ (decide (rI < 0)) = ((v : Int) / 2147483648 == 1) ∧ (rJ < 0 ↔ rB < 0) := by
  refine ⟨beq_iff_eq.2 (by rw [and_mask_i32 1 (by decide) rB 1 (by decide)]; omega), beq_iff_eq.2 (by rw [and_mask_i32 12 (by decide) rU 4095 (by decide)]; omega),
    beq_iff_eq.2 (by rw [and_mask_i32 1 (by decide) rJ 1 (by decide)]; omega), by rw [Bool.eq_iff_iff, decide_eq_true_iff, beq_iff_eq]; omega, by omega⟩
set_option maxHeartbeats 1000000 in
theorem signs_calls (v : Nat) (n : Int) (hv : v < 4294967296) (w : World) :
    Calls Try.prog 6 #[.int .u32 v, .int .i64 n] w fun e w' => e = .returned (.bool true) ∧ Drawn0 w w' := by
  obtain ⟨k, hk, ek⟩ := arg_k1 n
  obtain ⟨r, g1, g2, g3⟩ := sgn_low v (k + 1) (by omega) (by omega)
  obtain ⟨rI, gI, i1, i2, i3⟩ := immI_val v hv
  obtain ⟨rS, gS, s1, s2⟩ := immS_val v hv
  obtain ⟨rB, gB, b1, b2, b3, b4⟩ := immB_val v hv
  obtain ⟨rU, gU, u1⟩ := immU_val v hv
  obtain ⟨rJ, gJ, j1, j2, j3, j4⟩ := immJ_val v hv
  obtain ⟨t1, t2, t3, t4, t7⟩ := signs_facts v rI rB rU rJ i3 b3 b4 u1 j3 j4
  have t6 : ((r % 4294967296) * 2 ^ (32 - (1 + k)) % 4294967296 == (v : Int) * 2 ^ (32 - (1 + k)) % 4294967296) = true := by
    rw [Nat.add_comm k 1] at g3
    have hm : min (((32 - (1 + k) : Nat) : Int)).toNat IntKind.u32.bits = 32 - (1 + k) := by rw [Int.toNat_natCast]; exact Nat.min_eq_left (by simp [IntKind.bits])
    unfold shl at g3
    rw [hm, IntKind.wrap_u32, IntKind.wrap_u32] at g3
    exact beq_iff_eq.2 g3
  have T7 := Lib.hid t7
  clear t7
  have T4 := Lib.hid t4
  clear t4
  rw [show ((k + 1 : Nat) : Int) = 1 + (k : Int) from by omega] at g1 g2
  rw [show ((32 - (k + 1) : Nat) : Int) = 32 - (1 + (k : Int)) from by omega] at g3
  have G1 := Lib.hid g1; have G2 := Lib.hid g2; have G3 := Lib.hid g3
  have GI := Lib.hid gI; have GS := Lib.hid gS; have GB := Lib.hid gB; have GU := Lib.hid gU; have GJ := Lib.hid gJ
  have I3 := Lib.hid i3; have B3 := Lib.hid b3; have B4 := Lib.hid b4; have U1 := Lib.hid u1; have J3 := Lib.hid j3; have J4 := Lib.hid j4
  clear g1 g2 g3 gI gS gB gU gJ i3 b3 b4 u1 j3 j4 hv
  go_enter Try.func6, Try.ntmps6
  go_wp2_with fail
  refine (cSg _ _ r v (1 + (k : Int)) rfl rfl G1.out _).mono ?_
  rintro e w' ⟨rfl, ⟨nd, rfl⟩⟩
  go_wp2_with fail
  refine (cI _ rI v rfl GI.out _).mono ?_
  rintro e w' ⟨rfl, ⟨nd, rfl⟩⟩
  go_wp2_with fail
  refine (cS _ rS v rfl GS.out _).mono ?_
  rintro e w' ⟨rfl, ⟨nd, rfl⟩⟩
  go_wp2_with fail
  refine (cB _ rB v rfl GB.out _).mono ?_
  rintro e w' ⟨rfl, ⟨nd, rfl⟩⟩
  go_wp2_with fail
  refine (cU _ rU v rfl GU.out _).mono ?_
  rintro e w' ⟨rfl, ⟨nd, rfl⟩⟩
  go_wp2_with fail
  refine (cJ _ rJ v rfl GJ.out _).mono ?_
  rintro e w' ⟨rfl, ⟨nd, rfl⟩⟩
  go_wp2_with fail
  refine (cSg _ _ r (r % 4294967296) (1 + (k : Int)) rfl rfl G2.out _).mono ?_
  rintro e w' ⟨rfl, ⟨nd, rfl⟩⟩
  go_wp2_with fail
  case isTrue =>
    refine (cknown _).mono ?_
    rintro e w' ⟨rfl, ⟨nd, rfl⟩⟩
    go_wp2_with fail
    go_ret
    exact ⟨rfl, by repeat (first | exact Drawn0.refl _ | apply Drawn0.step)⟩
theorem signs_walk (a0 a1 : Int) (w : World) (w0 : (Lit.int .u32 a0).wf = true) (_ : (Lit.int .i64 a1).wf = true) :
    Calls Try.prog 6 #[.int .u32 a0, .int .i64 a1] w fun e w' => e = .returned (.bool true) ∧ Below w.heap.size w w' := by
  obtain ⟨v, rfl, hv⟩ := wf_u32 w0
  exact (signs_calls v a1 hv w).mono fun e w' ⟨he, hd⟩ => ⟨he, hd.below⟩
end Go.Proofs.Ytgkaidjikakpkaa.FldWalk2
