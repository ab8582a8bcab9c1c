/- The contract of a unit's Step, of quotients. -/
import Derived.Test.YtfgemmiahgmmbaaSt
set_option linter.unusedVariables false
set_option linter.unusedSimpArgs false
namespace Go.Proofs.Ytfgemmiahgmmbaa.Un
open Go.RowKit Go.Proofs.Ytfgemmiahgmmbaa.Bv
def Un.rest (u : Un) : Nat := u.acc * 2 + u.bit
def Un.divStep (u : Un) : Un := if u.y ≤ u.rest then { u with acc := u.rest - u.y, out := u.out + 2 ^ (31 - u.steps), steps := u.steps + 1 } else { u with acc := u.rest, steps := u.steps + 1 }
theorem or_bit (acc bt : Nat) (hb : bt < 2) (h : acc * 2 + 1 < 18446744073709551616) : Go.bits .or .u64 ((acc : Int) * 2) (bt : Int) = ((acc * 2 + bt : Nat) : Int) := by
  have e : ((acc : Int) * 2) = ((acc * 2 : Nat) : Int) := by omega
  have h2 := Nat.two_pow_add_eq_or_of_lt (i := 1) (b := bt) (by simpa using hb) acc
  rw [e, nor64 _ _ (by omega) (by omega), Nat.mul_comm, show 2 * acc = 2 ^ 1 * acc from rfl, ← h2]
theorem or_place (o k : Nat) (hk : k < 32) (h : o / 2 ^ k % 2 = 0) (ho : o < 4294967296) : Go.bits .or .u64 (o : Int) (IntKind.u64.wrap (2 ^ k)) = ((o + 2 ^ k : Nat) : Int) := by
  have hp : 2 ^ k ≤ 2 ^ 31 := Nat.pow_le_pow_right (by decide) (by omega)
  have e : ((2 : Int) ^ k) = ((2 ^ k : Nat) : Int) := by simp
  have h2 := or_field o 1 1 k (by simpa using h) (by decide)
  rw [Nat.one_mul] at h2
  rw [e, u64_nat _ (by omega), nor64 _ _ (by omega) (by omega), h2]
set_option maxHeartbeats 1000000 in
theorem cStep_lt (W : World) (p : Nat) (u : Un) (h : At W p u) (hs : u.steps < 32) (hm : (decide (38 ≤ u.op) && decide (u.op ≤ 41)) = false) (hx : u.x < 18446744073709551616) (hov : u.acc * 2 + 1 < 18446744073709551616) (hlt : u.rest < u.y) :
    Calls Try.prog 10 #[.pointer (some ⟨p, 0, none⟩)] W fun e w' => e = .returned (.bool (((u.steps + 1 : Nat) : Int) == 32)) ∧ At w' p u.divStep ∧ W.grownBy w' (some p) := by
  have hd : (((u.steps : Nat) : Int) == 32) = false := by rw [beq_eq_false_iff_ne]; omega
  have eb := bit_is u hx
  have hb1 := u.bit_lt
  unfold Un.rest at hlt
  generalize hbit : u.bit = bt at eb hb1 hlt
  have HBT := Lib.hid hbit
  clear hbit
  have c0 := h.c0; have c3 := h.c3; have c4 := h.c4; have c5 := h.c5; have c6 := h.c6; have c7 := h.c7
  have f5 := h.f5; have f6 := h.f6; have f7 := h.f7
  have H := Lib.hid h
  have H1 := Lib.hid (h.set7 ((u.steps : Int) + 1) (u.steps + 1) (by omega))
  have HM := Lib.hid hm
  have G1 := Lib.hid (grown_set W p 7 (.int .i64 ((u.steps : Int) + 1)))
  have eo := or_bit u.acc bt hb1 hov
  clear h hm
  go_enter Try.func10, Try.ntmps10
  go_wp2_with fail
  refine (cdone _ p u H.out).mono ?_
  rintro e w' ⟨rfl, rfl⟩
  go_wp2_with fail
  refine (cwithinV _ _ _ _ HM.out _).mono ?_
  rintro e w' ⟨rfl, rfl⟩
  have d3 := H1.out.c3; have d4 := H1.out.c4; have d5 := H1.out.c5; have d6 := H1.out.c6; have d7 := H1.out.c7
  have g5 := H1.out.f5; have g6 := H1.out.f6; have g7 := H1.out.f7
  generalize W.setCell _ _ = W1 at H1 G1 d3 d4 d5 d6 d7 g5 g6 g7 ⊢
  go_wp2_with fail
  clear c0 c3 c4 c5 c6 c7 f5 f6 f7 d3 d7 g7
  have H2 := Lib.hid (H1.out.set5 ((u.acc : Int) * 2 + bt) (u.acc * 2 + bt) (by omega))
  have G2 := Lib.hid (grown_set W1 p 5 (.int .u64 ((u.acc : Int) * 2 + bt)))
  have d4 := H2.out.c4; have d5 := H2.out.c5; have d6 := H2.out.c6
  have g5 := H2.out.f5; have g6 := H2.out.f6
  generalize W1.setCell _ _ = W2 at H2 G2 d4 d5 d6 g5 g6 ⊢
  go_region
  go_wp2_with fail
  refine (cdone _ p _ H2.out.drew).mono ?_
  rintro e w' ⟨rfl, rfl⟩
  go_wp2_with fail
  go_ret
  have HL : ¬ u.y ≤ u.rest := by unfold Un.rest; rw [HBT.out]; omega
  exact ⟨rfl, by unfold Un.divStep; rw [if_neg HL]; unfold Un.rest; rw [HBT.out]; exact H2.out.drew, grown_trans G1.out (grown_drew G2.out)⟩
set_option maxHeartbeats 1000000 in
theorem cStep_ge (W : World) (p : Nat) (u : Un) (h : At W p u) (hs : u.steps < 32) (hm : (decide (38 ≤ u.op) && decide (u.op ≤ 41)) = false) (hx : u.x < 18446744073709551616) (hov : u.acc * 2 + 1 < 18446744073709551616) (hlt : u.y ≤ u.rest) (ho : u.out / 2 ^ (31 - u.steps) % 2 = 0) (ho2 : u.out < 4294967296) :
    Calls Try.prog 10 #[.pointer (some ⟨p, 0, none⟩)] W fun e w' => e = .returned (.bool (((u.steps + 1 : Nat) : Int) == 32)) ∧ At w' p u.divStep ∧ W.grownBy w' (some p) := by
  have hd : (((u.steps : Nat) : Int) == 32) = false := by rw [beq_eq_false_iff_ne]; omega
  have eb := bit_is u hx
  have hb1 := u.bit_lt
  unfold Un.rest at hlt
  generalize hbit : u.bit = bt at eb hb1 hlt
  have HBT := Lib.hid hbit
  clear hbit
  have c0 := h.c0; have c3 := h.c3; have c4 := h.c4; have c5 := h.c5; have c6 := h.c6; have c7 := h.c7
  have f5 := h.f5; have f6 := h.f6; have f7 := h.f7
  have H := Lib.hid h
  have H1 := Lib.hid (h.set7 ((u.steps : Int) + 1) (u.steps + 1) (by omega))
  have HM := Lib.hid hm
  have G1 := Lib.hid (grown_set W p 7 (.int .i64 ((u.steps : Int) + 1)))
  have eo := or_bit u.acc bt hb1 hov
  clear h hm
  go_enter Try.func10, Try.ntmps10
  go_wp2_with fail
  refine (cdone _ p u H.out).mono ?_
  rintro e w' ⟨rfl, rfl⟩
  go_wp2_with fail
  refine (cwithinV _ _ _ _ HM.out _).mono ?_
  rintro e w' ⟨rfl, rfl⟩
  have d3 := H1.out.c3; have d4 := H1.out.c4; have d5 := H1.out.c5; have d6 := H1.out.c6; have d7 := H1.out.c7
  have g5 := H1.out.f5; have g6 := H1.out.f6; have g7 := H1.out.f7
  generalize W.setCell _ _ = W1 at H1 G1 d3 d4 d5 d6 d7 g5 g6 g7 ⊢
  go_wp2_with fail
  clear c0 c3 c4 c5 c6 c7 f5 f6 f7 d3 d7 g7
  have H2 := Lib.hid (H1.out.set5 ((u.acc : Int) * 2 + bt) (u.acc * 2 + bt) (by omega))
  have G2 := Lib.hid (grown_set W1 p 5 (.int .u64 ((u.acc : Int) * 2 + bt)))
  have d4 := H2.out.c4; have d5 := H2.out.c5; have d6 := H2.out.c6
  have g5 := H2.out.f5; have g6 := H2.out.f6
  generalize W1.setCell _ _ = W2 at H2 G2 d4 d5 d6 g5 g6 ⊢
  go_region
  go_wp2_with fail
  have hsub : (0 : Int) ≤ (u.acc : Int) * 2 + bt - u.y := by omega
  have H3 := Lib.hid H2.out.drew
  have G3 := Lib.hid (grown_trans G1.out (grown_drew G2.out))
  clear d4 d5 d6 g5 g6 H1 G1
  have d4 := H3.out.c4; have d5 := H3.out.c5
  have g5 := H3.out.f5
  clear H2 G2
  generalize W2.drew = W3 at H3 G3 d4 d5 g5 ⊢
  go_region
  go_wp2_with fail
  have H4 := Lib.hid ((H3.out.set5 ((u.acc : Int) * 2 + bt - u.y) (u.acc * 2 + bt - u.y) (by omega)).drew)
  have G4 := Lib.hid (grown_trans G3.out (grown_drew (grown_set W3 p 5 (.int .u64 ((u.acc : Int) * 2 + bt - u.y)))))
  clear d4 d5 g5 H3 G3
  have d6 := H4.out.c6
  have g6 := H4.out.f6
  generalize (W3.setCell _ _).drew = W4 at H4 G4 d6 g6 ⊢
  go_region
  go_wp2_with fail
  have H5 := Lib.hid ((H4.out.set6 _ (u.out + 2 ^ (31 - u.steps)) (or_place u.out (31 - u.steps) (by omega) ho ho2)).drew)
  have G5 := Lib.hid (grown_trans G4.out (grown_drew (grown_set W4 p 6 (.int .u64 (Go.bits .or .u64 (u.out : Int) (IntKind.u64.wrap (2 ^ (31 - u.steps))))))))
  refine (cdone _ p _ H5.out).mono ?_
  rintro e w' ⟨rfl, rfl⟩
  go_wp2_with fail
  go_ret
  have HL : u.y ≤ u.rest := by unfold Un.rest; rw [HBT.out]; omega
  exact ⟨rfl, by unfold Un.divStep; rw [if_pos HL]; unfold Un.rest; rw [HBT.out]; exact H5.out, G5.out⟩
end Go.Proofs.Ytfgemmiahgmmbaa.Un
