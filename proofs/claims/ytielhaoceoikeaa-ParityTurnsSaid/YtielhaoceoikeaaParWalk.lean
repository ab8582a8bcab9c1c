/- The laws of layer 1, walked: each call of ParityTurns, ParityAdds, ParityRows returns true, by the contracts of package parity's functions. -/
import Derived.Test.YtielhaoceoikeaaPar
import Derived.Lib.Hide
set_option linter.unusedVariables false
set_option linter.unusedSimpArgs false
namespace Go.Proofs.Ytielhaoceoikeaa.ParWalk
open Go.RowKit Go.Proofs.Ytielhaoceoikeaa.Pknown Go.Proofs.YtielhaoceoikeaaW.PrintWords Go.Proofs.YtielhaoceoikeaaW.PrintLast Go.Proofs.YtielhaoceoikeaaW.PrintMore Go.Proofs.Ytielhaoceoikeaa.Pop Go.Proofs.Ytielhaoceoikeaa.Bv Go.Proofs.Ytielhaoceoikeaa.Par
theorem cget (a : Int) (n : Nat) (h : a = n) (hn : n < 18446744073709551616) (w : World) :
    Calls Try.prog 7 #[.int .u64 a] w fun e w' => e = .returned (.tuple #[.int .u32 ((n % 4294967296 : Nat) : Int), .bool (okv n)]) ∧ Drawn0 w w' := by
  subst h
  exact parity_Get.calls 65 n _ _ w (get 65 n hn (by decide))
theorem cput (a : Int) (n : Nat) (h : a = n) (hn : n < 4294967296) (w : World) :
    Calls Try.prog 6 #[.int .u32 a] w fun e w' => e = .returned (.int .u64 (putv n : Int)) ∧ Drawn0 w w' := by
  subst h
  exact parity_Put.calls 65 n _ w (put 65 n hn (by decide))
theorem cknown (w : World) : Calls Try.prog 8 #[] w fun e w' => e = .returned (.bool true) ∧ Drawn0 w w' := dioscurilaw1_known.calls 65 true w known
set_option maxHeartbeats 400000 in
theorem turns_calls (v : Nat) (a b : Int) (hv : v < 4294967296) (i k : Nat) (hi : i < 33) (hk : k < 33) (ea : Int.tmod (IntKind.u64.wrap (Go.bits .and .i64 a 63)) 33 = i) (eb : Int.tmod (IntKind.u64.wrap (Go.bits .and .i64 b 63)) 33 = k) (w : World) :
    Calls Try.prog 3 #[.int .u32 v, .int .i64 a, .int .i64 b] w fun e w' => e = .returned (.bool true) ∧ Drawn0 w w' := by
  have hl := putv_lt v hv
  have hx := xor_lt33 _ i hl hi
  have hy := xor_lt33 _ k hx hk
  have f1 := okv_putv v hv
  have f2 := okv_one v i hv
  have f3 := okv_two v i k hv hi hk
  have e4 : (((putv v ^^^ 2 ^ i ^^^ 2 ^ k : Nat) : Int) % 4294967296 == (v : Int)) = ((i : Int) == (k : Int)) := by
    have := two_low v i k hv hi hk
    rw [Bool.eq_iff_iff, beq_iff_eq, beq_iff_eq]; omega
  have e5 : ((putv v : Nat) : Int) % 4294967296 = (v : Int) := by have := putv_low v hv; omega
  have H6 := Lib.hid (xor_bit (putv v) i hl hi)
  have H7 := Lib.hid (xor_bit (putv v ^^^ 2 ^ i) k hx hk)
  have hV := Lib.hid hv
  clear hv
  have hi64 : (i : Int) ≤ 64 := by omega
  have hk64 : (k : Int) ≤ 64 := by omega
  go_enter Try.func3, Try.ntmps3
  go_wp2_with fail
  refine (cput _ v rfl hV.out _).mono ?_
  rintro e w' ⟨rfl, ⟨nd, rfl⟩⟩
  go_wp2_with fail
  refine (cget _ (putv v) rfl (by omega) _).mono ?_
  rintro e w' ⟨rfl, ⟨nd, rfl⟩⟩
  go_wp2_with fail
  refine (cget _ (putv v ^^^ 2 ^ i) H6.out (by omega) _).mono ?_
  rintro e w' ⟨rfl, ⟨nd, rfl⟩⟩
  go_wp2_with fail
  refine (cget _ (putv v ^^^ 2 ^ i ^^^ 2 ^ k) (by rw [H6.out]; exact H7.out) (by omega) _).mono ?_
  rintro e w' ⟨rfl, ⟨nd, rfl⟩⟩
  go_wp2_with fail
  refine (cknown _).mono ?_
  rintro e w' ⟨rfl, ⟨nd, rfl⟩⟩
  go_wp2_with fail
  go_ret
  exact ⟨rfl, by repeat (first | exact Drawn0.refl _ | apply Drawn0.step)⟩
theorem cnt (a : Int) (n : Nat) (h : a = n) (hn : n < 18446744073709551616) (w : World) :
    Calls Try.prog 9 #[.int .u64 a] w fun e w' => e = .returned (.int .i64 (pc n)) ∧ Drawn0 w w' := by
  subst h
  exact parity_Count.calls 65 n _ w (count 65 n hn (by decide))
theorem cof (a : Int) (n : Nat) (h : a = n) (hn : n < 18446744073709551616) (w : World) :
    Calls Try.prog 10 #[.int .u64 a] w fun e w' => e = .returned (.int .u64 ((pc n % 2 : Nat) : Int)) ∧ Drawn0 w w' := by
  subst h
  exact parity_Of.calls 65 n _ w (of 65 n hn (by decide))
theorem half_lt (n : Nat) (h : n < 18446744073709551616) : n / 4294967296 < 18446744073709551616 := Nat.lt_of_le_of_lt (Nat.div_le_self _ _) h
theorem low_lt (n : Nat) (h : n < 18446744073709551616) : n % 4294967296 < 18446744073709551616 := Nat.lt_of_le_of_lt (Nat.mod_le _ _) h
set_option maxHeartbeats 400000 in
theorem adds_calls (n : Nat) (hn : n < 18446744073709551616) (w : World) :
    Calls Try.prog 4 #[.int .u64 n] w fun e w' => e = .returned (.bool true) ∧ Drawn0 w w' := by
  have b1 : ((pc n : Int) == wrap64 ((pc (n / 4294967296) : Int) + (pc (n % 4294967296) : Int))) = true := beq_iff_eq.2 (count_parts n hn)
  have b2 : ((pc (18446744073709551615 - n) : Int) == wrap64 (64 - (pc n : Int))) = true := beq_iff_eq.2 (count_not n hn)
  have b3 : ((pc n : Int) % 2 == (pc (n / 4294967296 ^^^ n % 4294967296) : Int) % 2) = true := beq_iff_eq.2 (by exact_mod_cast (of_halves n).symm)
  have hN := Lib.hid hn
  clear hn
  go_enter Try.func4, Try.ntmps4
  go_wp2_with fail
  refine (cnt _ n rfl hN.out _).mono ?_
  rintro e w' ⟨rfl, ⟨nd, rfl⟩⟩
  go_wp2_with fail
  refine (cnt _ (n / 4294967296) (nhalf n) (half_lt n hN.out) _).mono ?_
  rintro e w' ⟨rfl, ⟨nd, rfl⟩⟩
  go_wp2_with fail
  refine (cnt _ (n % 4294967296) (nlow n hN.out) (low_lt n hN.out) _).mono ?_
  rintro e w' ⟨rfl, ⟨nd, rfl⟩⟩
  go_wp2_with fail
  refine (cnt _ (18446744073709551615 - n) (nall n hN.out) (Nat.lt_of_le_of_lt (Nat.sub_le _ _) (by decide)) _).mono ?_
  rintro e w' ⟨rfl, ⟨nd, rfl⟩⟩
  go_wp2_with fail
  refine (cnt _ n rfl hN.out _).mono ?_
  rintro e w' ⟨rfl, ⟨nd, rfl⟩⟩
  go_wp2_with fail
  refine (cof _ n rfl hN.out _).mono ?_
  rintro e w' ⟨rfl, ⟨nd, rfl⟩⟩
  go_wp2_with fail
  refine (cof _ (n / 4294967296 ^^^ n % 4294967296) (halves n hN.out) (halves_lt n hN.out) _).mono ?_
  rintro e w' ⟨rfl, ⟨nd, rfl⟩⟩
  go_wp2_with fail
  refine (cknown _).mono ?_
  rintro e w' ⟨rfl, ⟨nd, rfl⟩⟩
  go_wp2_with fail
  go_ret
  exact ⟨rfl, by repeat (first | exact Drawn0.refl _ | apply Drawn0.step)⟩
set_option maxHeartbeats 400000 in
theorem rows_calls (a b n : Nat) (ha : a < 18446744073709551616) (hb : b < 18446744073709551616) (hn : n < 4294967296) (w : World) :
    Calls Try.prog 5 #[.int .u64 a, .int .u64 b, .int .u32 n] w fun e w' => e = .returned (.bool true) ∧ Drawn0 w w' := by
  have b1 : ((pc (a ^^^ b) : Int) % 2 == Go.bits .xor .u64 ((pc a : Int) % 2) ((pc b : Int) % 2)) = true := beq_iff_eq.2 (by exact_mod_cast of_xor a b)
  have b2 : (wrap64 ((pc (a ||| b) : Int) + (pc (a &&& b) : Int)) == wrap64 ((pc a : Int) + (pc b : Int))) = true := beq_iff_eq.2 (or_and a b ha hb)
  have b3 : (((putv n : Nat) : Int) / 4294967296 == (pc n : Int) % 2) = true := beq_iff_eq.2 (put_high n hn)
  have b4 : ((pc (putv n) : Int) % 2 == 0) = true := beq_iff_eq.2 (by exact_mod_cast pc_putv n hn)
  have hA := Lib.hid ha
  have hB := Lib.hid hb
  have hN := Lib.hid hn
  clear ha hb hn
  go_enter Try.func5, Try.ntmps5
  go_wp2_with fail
  refine (cof _ (a ^^^ b) (nxor64 a b hA.out hB.out) (xor_lt64 a b hA.out hB.out) _).mono ?_
  rintro e w' ⟨rfl, ⟨nd, rfl⟩⟩
  go_wp2_with fail
  refine (cof _ a rfl hA.out _).mono ?_
  rintro e w' ⟨rfl, ⟨nd, rfl⟩⟩
  go_wp2_with fail
  refine (cof _ b rfl hB.out _).mono ?_
  rintro e w' ⟨rfl, ⟨nd, rfl⟩⟩
  go_wp2_with fail
  refine (cnt _ (a ||| b) (nor64 a b hA.out hB.out) (or_lt64 a b hA.out hB.out) _).mono ?_
  rintro e w' ⟨rfl, ⟨nd, rfl⟩⟩
  go_wp2_with fail
  refine (cnt _ (a &&& b) (nand64 a b hA.out hB.out) (and_lt64 a b hA.out) _).mono ?_
  rintro e w' ⟨rfl, ⟨nd, rfl⟩⟩
  go_wp2_with fail
  refine (cnt _ a rfl hA.out _).mono ?_
  rintro e w' ⟨rfl, ⟨nd, rfl⟩⟩
  go_wp2_with fail
  refine (cnt _ b rfl hB.out _).mono ?_
  rintro e w' ⟨rfl, ⟨nd, rfl⟩⟩
  go_wp2_with fail
  refine (cput _ n rfl hN.out _).mono ?_
  rintro e w' ⟨rfl, ⟨nd, rfl⟩⟩
  go_wp2_with fail
  refine (cof _ n (u64_u32 n hN.out) (Nat.lt_trans hN.out (by decide)) _).mono ?_
  rintro e w' ⟨rfl, ⟨nd, rfl⟩⟩
  go_wp2_with fail
  refine (cput _ n rfl hN.out _).mono ?_
  rintro e w' ⟨rfl, ⟨nd, rfl⟩⟩
  go_wp2_with fail
  refine (cof _ (putv n) rfl (Nat.lt_trans (putv_lt n hN.out) (by decide)) _).mono ?_
  rintro e w' ⟨rfl, ⟨nd, rfl⟩⟩
  go_wp2_with fail
  refine (cknown _).mono ?_
  rintro e w' ⟨rfl, ⟨nd, rfl⟩⟩
  go_wp2_with fail
  go_ret
  exact ⟨rfl, by repeat (first | exact Drawn0.refl _ | apply Drawn0.step)⟩
theorem turns_walk (a0 a1 a2 : Int) (w : World) (w0 : (Lit.int .u32 a0).wf = true) (_ : (Lit.int .i64 a1).wf = true) (_ : (Lit.int .i64 a2).wf = true) :
    Calls Try.prog 3 #[.int .u32 a0, .int .i64 a1, .int .i64 a2] w fun e w' => e = .returned (.bool true) ∧ Below w.heap.size w w' := by
  obtain ⟨v, rfl, hv⟩ := wf_u32 w0
  obtain ⟨i, hi, ei⟩ := place a1
  obtain ⟨k, hk, ek⟩ := place a2
  exact (turns_calls v a1 a2 hv i k hi hk ei ek w).mono fun e w' ⟨he, hd⟩ => ⟨he, hd.below⟩
theorem adds_walk (a0 : Int) (w : World) (w0 : (Lit.int .u64 a0).wf = true) :
    Calls Try.prog 4 #[.int .u64 a0] w fun e w' => e = .returned (.bool true) ∧ Below w.heap.size w w' := by
  obtain ⟨v, rfl, hv⟩ := wf_u64 w0
  exact (adds_calls v hv w).mono fun e w' ⟨he, hd⟩ => ⟨he, hd.below⟩
theorem rows_walk (a0 a1 a2 : Int) (w : World) (w0 : (Lit.int .u64 a0).wf = true) (w1 : (Lit.int .u64 a1).wf = true) (w2 : (Lit.int .u32 a2).wf = true) :
    Calls Try.prog 5 #[.int .u64 a0, .int .u64 a1, .int .u32 a2] w fun e w' => e = .returned (.bool true) ∧ Below w.heap.size w w' := by
  obtain ⟨a, rfl, ha⟩ := wf_u64 w0
  obtain ⟨b, rfl, hb⟩ := wf_u64 w1
  obtain ⟨n, rfl, hn⟩ := wf_u32 w2
  exact (rows_calls a b n ha hb hn w).mono fun e w' ⟨he, hd⟩ => ⟨he, hd.below⟩
end Go.Proofs.Ytielhaoceoikeaa.ParWalk
