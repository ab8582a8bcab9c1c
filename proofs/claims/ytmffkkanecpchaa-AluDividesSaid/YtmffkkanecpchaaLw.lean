/- The laws of layer 7, walked: 'same', 'known', AluTells, AluZeros. -/
import Derived.Test.YtmffkkanecpchaaDoR
import Derived.Below
set_option linter.unusedVariables false
set_option linter.unusedSimpArgs false
namespace Go.Proofs.Ytmffkkanecpchaa.Alu
open Go.RowKit Go.Proofs.Ytmffkkanecpchaa.Bv
def In32 (x : Int) : Prop := 0 ≤ x ∧ x < 4294967296
theorem in_mod (x : Int) : In32 (x % 4294967296) := ⟨Int.emod_nonneg _ (by decide), Int.emod_lt_of_pos _ (by decide)⟩
theorem in_bits (o : BinOp) (x y : Int) : In32 (Go.bits o .u32 x y) := range32 o x y
theorem in_nat (x : Nat) (h : x < 4294967296) : In32 (x : Int) := ⟨by omega, by omega⟩
theorem cDoE (op A B : Int) (a b : Nat) (r : Int) (h : doI op a b = r) (ea : A = a) (eb : B = b) (ha : a < 4294967296) (hb : b < 4294967296) (w : World) : Calls Try.prog 10 #[.int .i64 op, .int .u32 A, .int .u32 B] w fun e w' => e = .returned (.int .u32 r) ∧ w = w' := by
  subst h; subst ea; subst eb; exact cDo op a b ha hb w
theorem cTakenE (op A B : Int) (a b : Nat) (r : Bool) (h : takenB op a b = r) (ea : A = a) (eb : B = b) (ha : a < 4294967296) (hb : b < 4294967296) (w : World) : Calls Try.prog 11 #[.int .i64 op, .int .u32 A, .int .u32 B] w fun e w' => e = .returned (.bool r) ∧ w = w' := by
  subst h; subst ea; subst eb; exact cTaken op a b ha hb w
set_option maxHeartbeats 1000000 in
theorem csame (op : Int) (a b : Nat) (ha : a < 4294967296) (hb : b < 4294967296) (w : World) : Calls Try.prog 8 #[.int .i64 op, .int .u32 a, .int .u32 b] w fun e w' => e = .returned (.bool true) ∧ w = w' := by
  generalize hd : doI op a b = d
  generalize ht : takenB op a b = t
  have HD := Lib.hid hd
  have HT := Lib.hid ht
  have h2 := cDoR op a b ha hb
  have h3 := cTakenR op a b ha hb
  rw [hd] at h2
  rw [ht] at h3
  have H2 := Lib.hid h2
  have H3 := Lib.hid h3
  have HA := Lib.hid ha
  have HB := Lib.hid hb
  clear ha hb hd ht h2 h3
  go_enter Try.func8, Try.ntmps8
  go_wp2_with fail
  refine (cDoE _ _ _ a b d HD.out rfl rfl HA.out HB.out _).mono ?_
  rintro e w' ⟨rfl, rfl⟩
  go_wp2_with fail
  refine (H2.out _).mono ?_
  rintro e w' ⟨rfl, rfl⟩
  go_wp2_with fail
  refine (cTakenE _ _ _ a b t HT.out rfl rfl HA.out HB.out _).mono ?_
  rintro e w' ⟨rfl, rfl⟩
  go_wp2_with fail
  refine (H3.out _).mono ?_
  rintro e w' ⟨rfl, rfl⟩
  go_wp2_with fail
  go_ret
  exact ⟨rfl, rfl⟩
theorem csameI (op A B : Int) (ha : In32 A) (hb : In32 B) (w : World) : Calls Try.prog 8 #[.int .i64 op, .int .u32 A, .int .u32 B] w fun e w' => e = .returned (.bool true) ∧ w = w' := by
  obtain ⟨a, rfl⟩ := Int.eq_ofNat_of_zero_le ha.1
  obtain ⟨b, rfl⟩ := Int.eq_ofNat_of_zero_le hb.1
  exact csame op a b (by have := ha.2; omega) (by have := hb.2; omega) w
theorem v1 : doI 42 (7 : Nat) (0 : Nat) = 4294967295 := by rw [doI_42]; rfl
theorem v2 : doI 35 (2147483648 : Nat) (31 : Nat) = 4294967295 := by rw [doI_35]; decide +kernel
theorem v3 : doI 44 (2147483648 : Nat) (4294967295 : Nat) = 0 := by rw [doI_44]; decide +kernel
theorem v4 : doI 42 (2147483648 : Nat) (4294967295 : Nat) = 2147483648 := by rw [doI_42]; decide +kernel
theorem v5 : doI 13 (1 : Nat) (2 : Nat) = 0 := doI_none 13 _ _ (by decide)
set_option maxHeartbeats 1000000 in
theorem cknown (w : World) : Calls Try.prog 9 #[] w fun e w' => e = .returned (.bool true) ∧ w = w' := by
  go_enter Try.func9, Try.ntmps9
  go_wp2_with fail
  refine (cDoE _ _ _ 7 0 _ v1 rfl rfl (by decide) (by decide) _).mono ?_
  rintro e w' ⟨rfl, rfl⟩
  go_wp2_with fail
  refine (cDoE _ _ _ 2147483648 31 _ v2 rfl rfl (by decide) (by decide) _).mono ?_
  rintro e w' ⟨rfl, rfl⟩
  go_wp2_with fail
  refine (cTakenE _ _ _ 1 1 false (by decide) rfl rfl (by decide) (by decide) _).mono ?_
  rintro e w' ⟨rfl, rfl⟩
  go_wp2_with fail
  refine (cTakenE _ _ _ 1 1 true (by decide) rfl rfl (by decide) (by decide) _).mono ?_
  rintro e w' ⟨rfl, rfl⟩
  go_wp2_with fail
  refine (cDoE _ _ _ 2147483648 4294967295 _ v3 rfl rfl (by decide) (by decide) _).mono ?_
  rintro e w' ⟨rfl, rfl⟩
  go_wp2_with fail
  refine (cDoE _ _ _ 2147483648 4294967295 _ v4 rfl rfl (by decide) (by decide) _).mono ?_
  rintro e w' ⟨rfl, rfl⟩
  go_wp2_with fail
  refine (cDoE _ _ _ 1 2 _ v5 rfl rfl (by decide) (by decide) _).mono ?_
  rintro e w' ⟨rfl, rfl⟩
  go_wp2_with fail
  go_ret
  exact ⟨rfl, rfl⟩
set_option maxHeartbeats 1000000 in
theorem tells_calls (op : Int) (a b : Nat) (ha : a < 4294967296) (hb : b < 4294967296) (w : World) : Calls Try.prog 4 #[.int .i64 op, .int .u32 a, .int .u32 b] w fun e w' => e = .returned (.bool true) ∧ w = w' := by
  have HA := Lib.hid ha
  have HB := Lib.hid hb
  clear ha hb
  go_enter Try.func4, Try.ntmps4
  go_wp2_with fail
  refine (csameI _ _ _ (in_nat a HA.out) (in_nat b HB.out) _).mono ?_
  rintro e w' ⟨rfl, rfl⟩
  go_wp2_with fail
  refine (csameI _ _ _ (in_nat a HA.out) (in_bits _ _ _) _).mono ?_
  rintro e w' ⟨rfl, rfl⟩
  go_wp2_with fail
  refine (csameI _ _ _ (in_bits _ _ _) (in_nat b HB.out) _).mono ?_
  rintro e w' ⟨rfl, rfl⟩
  go_wp2_with fail
  refine (csameI _ _ _ (in_nat a HA.out) (in_nat b HB.out) _).mono ?_
  rintro e w' ⟨rfl, rfl⟩
  go_wp2_with fail
  refine (csameI _ _ _ (in_nat a HA.out) (in_nat a HA.out) _).mono ?_
  rintro e w' ⟨rfl, rfl⟩
  go_wp2_with fail
  refine (cknown _).mono ?_
  rintro e w' ⟨rfl, rfl⟩
  go_wp2_with fail
  go_ret
  exact ⟨rfl, rfl⟩
theorem tells_walk (a0 a1 a2 : Int) (w : World) (_ : (Lit.int .i64 a0).wf = true) (w1 : (Lit.int .u32 a1).wf = true) (w2 : (Lit.int .u32 a2).wf = true) : Calls Try.prog 4 #[.int .i64 a0, .int .u32 a1, .int .u32 a2] w fun e w' => e = .returned (.bool true) ∧ Below w.heap.size w w' := by
  obtain ⟨a, rfl, ha⟩ := wf_u32 w1
  obtain ⟨b, rfl, hb⟩ := wf_u32 w2
  refine (tells_calls a0 a b ha hb w).mono ?_
  rintro e w' ⟨he, rfl⟩
  exact ⟨he, Below.refl _ _⟩
theorem z_28 (a : Nat) (ha : a < 4294967296) : doI 28 a (0 : Nat) = (a : Int) := by
  rw [doI_28]; omega
theorem z_29 (a : Nat) (ha : a < 4294967296) : doI 29 a a = 0 := by
  rw [doI_29]; omega
theorem z_33 (a : Nat) (ha : a < 4294967296) : doI 33 a a = 0 := by
  rw [doI_33]; rw [nxor32 a a ha ha, Nat.xor_self]; rfl
theorem z_37 (a : Nat) (ha : a < 4294967296) : doI 37 a a = (a : Int) := by
  rw [doI_37]; rw [nand32 a a ha ha, Nat.and_self]
theorem z_36 (a : Nat) (ha : a < 4294967296) : doI 36 a (0 : Nat) = (a : Int) := by
  rw [doI_36]; have h := nor32 a 0 ha (by decide); rw [h, Nat.or_zero]
theorem z_38 (a : Nat) (ha : a < 4294967296) : doI 38 a (1 : Nat) = (a : Int) := by
  rw [doI_38]; omega
theorem z_41 (a : Nat) (ha : a < 4294967296) : doI 41 a (1 : Nat) = 0 := by
  rw [doI_41]; omega
theorem z_43 (a : Nat) (ha : a < 4294967296) : doI 43 a (1 : Nat) = (a : Int) := by
  rw [doI_43]; rw [if_neg (by decide)]; omega
theorem z_45 (a : Nat) (ha : a < 4294967296) : doI 45 a (1 : Nat) = 0 := by
  rw [doI_45]; rw [if_neg (by decide)]; omega
theorem z_32 (a : Nat) (ha : a < 4294967296) : doI 32 a (0 : Nat) = 0 := by
  rw [doI_32]; rw [decide_eq_false (by omega)]; rfl
theorem z_31 (a : Nat) (ha : a < 4294967296) : doI 31 a a = 0 := by
  rw [doI_31]; rw [decide_eq_false (by omega)]; rfl
theorem zt_5 (a : Nat) : takenB 5 a a = true := by rw [taken_5]; simp
theorem zt_10 (a : Nat) : takenB 10 a 0 = true := by rw [taken_10]; simp
theorem zt_9 (a : Nat) : takenB 9 a a = false := by rw [taken_9]; simp
set_option maxHeartbeats 1000000 in
theorem zeros_calls (a : Nat) (ha : a < 4294967296) (w : World) : Calls Try.prog 7 #[.int .u32 a] w fun e w' => e = .returned (.bool true) ∧ w = w' := by
  have HA := Lib.hid ha
  clear ha
  go_enter Try.func7, Try.ntmps7
  go_wp2_with fail
  refine (cDoE _ _ _ a 0 _ (z_28 a HA.out) rfl rfl HA.out (by decide) _).mono ?_
  rintro e w' ⟨rfl, rfl⟩
  go_wp2_with fail
  refine (cDoE _ _ _ a a _ (z_29 a HA.out) rfl rfl HA.out HA.out _).mono ?_
  rintro e w' ⟨rfl, rfl⟩
  go_wp2_with fail
  refine (cDoE _ _ _ a a _ (z_33 a HA.out) rfl rfl HA.out HA.out _).mono ?_
  rintro e w' ⟨rfl, rfl⟩
  go_wp2_with fail
  refine (cDoE _ _ _ a a _ (z_37 a HA.out) rfl rfl HA.out HA.out _).mono ?_
  rintro e w' ⟨rfl, rfl⟩
  go_wp2_with fail
  refine (cDoE _ _ _ a 0 _ (z_36 a HA.out) rfl rfl HA.out (by decide) _).mono ?_
  rintro e w' ⟨rfl, rfl⟩
  go_wp2_with fail
  refine (cDoE _ _ _ a 1 _ (z_38 a HA.out) rfl rfl HA.out (by decide) _).mono ?_
  rintro e w' ⟨rfl, rfl⟩
  go_wp2_with fail
  refine (cDoE _ _ _ a 1 _ (z_41 a HA.out) rfl rfl HA.out (by decide) _).mono ?_
  rintro e w' ⟨rfl, rfl⟩
  go_wp2_with fail
  refine (cDoE _ _ _ a 1 _ (z_43 a HA.out) rfl rfl HA.out (by decide) _).mono ?_
  rintro e w' ⟨rfl, rfl⟩
  go_wp2_with fail
  refine (cDoE _ _ _ a 1 _ (z_45 a HA.out) rfl rfl HA.out (by decide) _).mono ?_
  rintro e w' ⟨rfl, rfl⟩
  go_wp2_with fail
  refine (cDoE _ _ _ a 0 _ (z_32 a HA.out) rfl rfl HA.out (by decide) _).mono ?_
  rintro e w' ⟨rfl, rfl⟩
  go_wp2_with fail
  refine (cDoE _ _ _ a a _ (z_31 a HA.out) rfl rfl HA.out HA.out _).mono ?_
  rintro e w' ⟨rfl, rfl⟩
  go_wp2_with fail
  refine (cTakenE _ _ _ a a _ (zt_5 a) rfl rfl HA.out HA.out _).mono ?_
  rintro e w' ⟨rfl, rfl⟩
  go_wp2_with fail
  refine (cTakenE _ _ _ a 0 _ (zt_10 a) rfl rfl HA.out (by decide) _).mono ?_
  rintro e w' ⟨rfl, rfl⟩
  go_wp2_with fail
  refine (cTakenE _ _ _ a a _ (zt_9 a) rfl rfl HA.out HA.out _).mono ?_
  rintro e w' ⟨rfl, rfl⟩
  go_wp2_with fail
  refine (cknown _).mono ?_
  rintro e w' ⟨rfl, rfl⟩
  go_wp2_with fail
  go_ret
  exact ⟨rfl, rfl⟩
theorem zeros_walk (a1 : Int) (w : World) (w1 : (Lit.int .u32 a1).wf = true) : Calls Try.prog 7 #[.int .u32 a1] w fun e w' => e = .returned (.bool true) ∧ Below w.heap.size w w' := by
  obtain ⟨a, rfl, ha⟩ := wf_u32 w1
  refine (zeros_calls a ha w).mono ?_
  rintro e w' ⟨he, rfl⟩
  exact ⟨he, Below.refl _ _⟩
end Go.Proofs.Ytmffkkanecpchaa.Alu
