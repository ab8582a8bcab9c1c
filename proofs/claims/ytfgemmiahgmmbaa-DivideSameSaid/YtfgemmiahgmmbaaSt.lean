/- The contract of a unit's Step. -/
import Derived.Test.YtfgemmiahgmmbaaUn
import Derived.Laws.AppendOwn
import Derived.RegionTactic
import Derived.BigRegion
set_option linter.unusedVariables false
set_option linter.unusedSimpArgs false
namespace Go.Proofs.Ytfgemmiahgmmbaa.Un
open Go.RowKit Go.Proofs.Ytfgemmiahgmmbaa.Bv
theorem cwithinV (op f l : Int) (b : Bool) (h : (decide (f ≤ op) && decide (op ≤ l)) = b) (w : World) : Calls Try.prog 14 #[.int .i64 op, .int .i64 f, .int .i64 l] w fun e w' => e = .returned (.bool b) ∧ w = w' := by subst h; exact cwithin op f l w
theorem grown_set (W : World) (p i : Nat) (v : Value) : W.grownBy (W.setCell ⟨p, i, none⟩ v) (some p) :=
  ⟨rfl, rfl, rfl, by simp, fun k _ hk => heap_setCell_other W ⟨p, i, none⟩ k v (fun e => hk (by simp [e]))⟩
theorem grown_drew {W W' : World} {r : Option Nat} (h : W.grownBy W' r) : W.grownBy W'.drew r := ⟨h.os, h.tape, h.output, h.size, h.block⟩
theorem At.drew {W : World} {p : Nat} {u : Un} (h : At W p u) : At W.drew p u := ⟨h.lt, h.c0, h.c1, h.c2, h.c3, h.c4, h.c5, h.c6, h.c7, h.c8, h.f5, h.f6, h.f7⟩
theorem mul_val (acc bt y : Nat) (hb : bt < 2) (h : acc * 2 + y < 18446744073709551616) : IntKind.u64.wrap ((acc : Int) * 2 + IntKind.u64.wrap ((bt : Int) * (y : Int))) = ((acc * 2 + bt * y : Nat) : Int) := by
  have e : ((bt : Int) * (y : Int)) = ((bt * y : Nat) : Int) := by simp
  have hm : bt * y ≤ y := by
    have := Nat.mul_le_mul_right y (show bt ≤ 1 by omega)
    omega
  rw [e]
  generalize bt * y = m at hm
  rw [u64_id (m : Int) (by omega) (by omega), u64_id _ (by omega) (by omega)]; omega
theorem grown_trans {W W1 W2 : World} {r : Option Nat} (h : W.grownBy W1 r) (k : W1.grownBy W2 r) : W.grownBy W2 r :=
  ⟨k.os.trans h.os, k.tape.trans h.tape, k.output.trans h.output, Nat.le_trans h.size k.size, fun i hi hr => (k.block i (Nat.lt_of_lt_of_le hi h.size) hr).trans (h.block i hi hr)⟩
set_option maxHeartbeats 1000000 in
theorem cStep_mul (W : World) (p : Nat) (u : Un) (h : At W p u) (hs : u.steps < 32) (hm : (decide (38 ≤ u.op) && decide (u.op ≤ 41)) = true) (hx : u.x < 18446744073709551616) (hov : u.acc * 2 + u.y < 18446744073709551616) :
    Calls Try.prog 10 #[.pointer (some ⟨p, 0, none⟩)] W fun e w' => e = .returned (.bool (((u.steps + 1 : Nat) : Int) == 32)) ∧ At w' p u.mulStep ∧ W.grownBy w' (some p) := by
  have hd : (((u.steps : Nat) : Int) == 32) = false := by rw [beq_eq_false_iff_ne]; omega
  have eb := bit_is u hx
  have hb1 := u.bit_lt
  generalize hbit : u.bit = bt at eb hb1
  have HBT := Lib.hid hbit
  clear hbit
  have c0 := h.c0; have c3 := h.c3; have c4 := h.c4; have c5 := h.c5; have c6 := h.c6; have c7 := h.c7
  have f5 := h.f5; have f6 := h.f6; have f7 := h.f7
  have H := Lib.hid h
  have H1 := Lib.hid (h.set7 ((u.steps : Int) + 1) (u.steps + 1) (by omega))
  have HM := Lib.hid hm
  have G1 := Lib.hid (grown_set W p 7 (.int .i64 ((u.steps : Int) + 1)))
  clear h hm
  go_enter Try.func10, Try.ntmps10
  go_wp2_with fail
  refine (cdone _ p u H.out).mono ?_
  rintro e w' ⟨rfl, rfl⟩
  go_wp2_with fail
  refine (cwithinV _ _ _ _ HM.out _).mono ?_
  rintro e w' ⟨rfl, rfl⟩
  have d3 := H1.out.c3; have d4 := H1.out.c4; have d5 := H1.out.c5; have d6 := H1.out.c6; have d7 := H1.out.c7
  have g5 := H1.out.f5; have g6 := H1.out.f6; have g7 := H1.out.f7
  generalize W.setCell _ _ = W1 at H1 G1 d3 d4 d5 d6 d7 g5 g6 g7 ⊢
  go_wp2_with fail
  clear c0 c3 c4 c5 c6 c7 f5 f6 f7 d3 d6 d7 g6 g7
  go_region
  go_wp2_with fail
  have H2 := Lib.hid ((H1.out.set5 (IntKind.u64.wrap ((u.acc : Int) * 2 + IntKind.u64.wrap ((bt : Int) * (u.y : Int)))) (u.acc * 2 + bt * u.y) (mul_val u.acc bt u.y hb1 hov)).drew)
  have G2 := Lib.hid (grown_drew (grown_set W1 p 5 (.int .u64 (IntKind.u64.wrap ((u.acc : Int) * 2 + IntKind.u64.wrap ((bt : Int) * (u.y : Int)))))))
  refine (cdone _ p _ H2.out).mono ?_
  rintro e w' ⟨rfl, rfl⟩
  go_wp2_with fail
  go_ret
  exact ⟨rfl, by have h := H2.out; rw [← HBT.out] at h ⊢; exact h, grown_trans G1.out G2.out⟩
end Go.Proofs.Ytfgemmiahgmmbaa.Un
