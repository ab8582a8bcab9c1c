/- The laws of layer 8, walked. -/
import Derived.Test.YtfgemmiahgmmbaaLs
set_option linter.unusedVariables false
set_option linter.unusedSimpArgs false
namespace Go.Proofs.Ytfgemmiahgmmbaa.Un
open Go.RowKit Go.Proofs.Ytfgemmiahgmmbaa.Bv Go.Proofs.Ytfgemmiahgmmbaa.Alu
theorem below_next {B w1 w2 : World} (h : Below B.heap.size B w1) (k : Below w1.heap.size w1 w2) : Below B.heap.size B w2 :=
  h.trans ⟨k.os, k.tape, k.output, k.size, fun i hi => k.block i (Nat.lt_of_lt_of_le hi h.size)⟩
theorem below_step {B : Nat} {w w1 w2 : World} {p : Nat} (h : Below B w w1) (hB : B ≤ p) (hp : p < w1.heap.size) (hs : B ≤ w1.heap.size) (k : w1.grownBy w2 (some p)) : Below B w w2 :=
  h.grown k hs (by intro i hi; injection hi; omega)
set_option maxHeartbeats 1000000 in
theorem csame (op : Int) (a b : Nat) (ha : a < 4294967296) (hb : b < 4294967296) (ho : ¬ (op < 38 ∨ 45 < op)) (w : World) : Calls Try.prog 7 #[.int .i64 op, .int .u32 a, .int .u32 b] w fun e w' => e = .returned (.bool true) ∧ Below w.heap.size w w' := by
  have h1 : ¬ op < 38 := by omega
  have h2 : ¬ 45 < op := by omega
  have HO := Lib.hid ho
  have HA := Lib.hid ha
  have HB := Lib.hid hb
  clear ha hb ho
  go_enter Try.func7, Try.ntmps7
  go_wp2_with fail
  refine (cBegin op a b HO.out HA.out HB.out _).mono ?_
  rintro e w1 ⟨p, rfl, hp, hat, hbel⟩
  go_wp2_with fail
  have hlt := hat.lt
  go_loopw [8] (fun i wr => ∃ k : Nat, k < 32 ∧ i = .int .i64 ((k : Int) + 1) ∧ At wr p (at_ (initU op a b) k) ∧ Below w.heap.size w wr)
    (fun i _ => 40 - (intOf i).toNat)
  case atStart => exact ⟨0, by decide, rfl, hat, hbel⟩
  case round =>
    obtain ⟨k, hk, rfl, hatr, hbr⟩ := hrel
    have hs1 := hatr.lt
    by_cases hl : k = 31
    · subst hl
      go_wp2_with fail
      refine (cRes_no _ p _ 31 (by decide) hatr).mono ?_
      rintro e w2 ⟨rfl, rfl⟩
      go_wp2_with fail
      refine (cSteps_at _ p _ 31 hatr).mono ?_
      rintro e w2 ⟨rfl, rfl⟩
      go_wp2_with fail
      refine (cStep _ p _ 31 (by decide) (init_x op a b HA.out) (init_y op a b HB.out) hatr).mono ?_
      rintro e w2 ⟨rfl, hat2, hg⟩
      have b2 := below_step hbr hp hs1 hbr.size hg
      clear hg hatr hat hbel
      go_wp2_with fail
      refine (cRes_end _ p op a b HO.out HA.out HB.out hat2).mono ?_
      rintro e w3 ⟨rfl, rfl⟩
      go_wp2_with fail
      refine (cSteps_at _ p _ 32 hat2).mono ?_
      rintro e w2 ⟨rfl, rfl⟩
      go_wp2_with fail
      refine (cDoR op a b HA.out HB.out _).mono ?_
      rintro e w3 ⟨rfl, rfl⟩
      go_wp2_with fail
      refine (cStep_end _ p _ hat2).mono ?_
      rintro e w3 ⟨rfl, rfl⟩
      go_wp2_with fail
      refine (cSteps_at _ p _ 32 hat2).mono ?_
      rintro e w3 ⟨rfl, rfl⟩
      go_wp2_with fail
      go_ret
      exact ⟨rfl, b2⟩
    · have hk31 : k < 31 := by omega
      have hne : (((k + 1 : Nat) : Int) == 32) = false := by rw [beq_eq_false_iff_ne]; omega
      go_wp2_with fail
      refine (cRes_no _ p _ k hk hatr).mono ?_
      rintro e w2 ⟨rfl, rfl⟩
      go_wp2_with fail
      refine (cSteps_at _ p _ k hatr).mono ?_
      rintro e w2 ⟨rfl, rfl⟩
      go_wp2_with fail
      refine (cStep _ p _ k hk (init_x op a b HA.out) (init_y op a b HB.out) hatr).mono ?_
      rintro e w2 ⟨rfl, hat2, hg⟩
      have b2 := below_step hbr hp hs1 hbr.size hg
      clear hg hatr hat hbel
      go_wp2_with fail
      go_roundw
      case rel => exact ⟨k + 1, by omega, by go_num, hat2, b2⟩
      case measure => simp [intOf]; omega
theorem csame_no (op : Int) (a b : Nat) (ho : op < 38 ∨ 45 < op) (w : World) : Calls Try.prog 7 #[.int .i64 op, .int .u32 a, .int .u32 b] w fun e w' => e = .returned (.bool true) ∧ w = w' := by
  have HO := Lib.hid ho
  clear ho
  by_cases h1 : op < 38
  · go_enter Try.func7, Try.ntmps7
    go_wp2_with fail
    refine (cNew_no op a b HO.out _).mono ?_
    rintro e w1 ⟨rfl, rfl⟩
    go_wp2_with fail
    go_ret
    exact ⟨rfl, rfl⟩
  · have h2 : 45 < op := by have := HO.out; omega
    go_enter Try.func7, Try.ntmps7
    go_wp2_with fail
    refine (cNew_no op a b HO.out _).mono ?_
    rintro e w1 ⟨rfl, rfl⟩
    go_wp2_with fail
    go_ret
    exact ⟨rfl, rfl⟩
def In32 (x : Int) : Prop := 0 ≤ x ∧ x < 4294967296
theorem in_bits (o : BinOp) (x y : Int) : In32 (Go.bits o .u32 x y) := range32 o x y
theorem in_nat (x : Nat) (h : x < 4294967296) : In32 (x : Int) := ⟨by omega, by omega⟩
theorem csameI (op A B : Int) (ha : In32 A) (hb : In32 B) (w : World) : Calls Try.prog 7 #[.int .i64 op, .int .u32 A, .int .u32 B] w fun e w' => e = .returned (.bool true) ∧ Below w.heap.size w w' := by
  obtain ⟨a, rfl⟩ := Int.eq_ofNat_of_zero_le ha.1
  obtain ⟨b, rfl⟩ := Int.eq_ofNat_of_zero_le hb.1
  by_cases ho : op < 38 ∨ 45 < op
  · exact (csame_no op a b ho w).mono fun e w' ⟨h1, h2⟩ => ⟨h1, h2 ▸ Below.refl _ _⟩
  · exact csame op a b (by have := ha.2; omega) (by have := hb.2; omega) ho w
theorem grown_refl (W : World) (r : Option Nat) : W.grownBy W r := ⟨rfl, rfl, rfl, Nat.le_refl _, fun _ _ _ => rfl⟩
/-- A step, be it done or not. -/
theorem cStepAny (W : World) (p : Nat) (u : Un) (k : Nat) (hx : u.x < 4294967296) (hy : u.y < 4294967296) (h : At W p (at_ u (min k 32))) :
    Calls Try.prog 10 #[.pointer (some ⟨p, 0, none⟩)] W fun e w' => e = .returned (.bool (decide (31 ≤ k))) ∧ At w' p (at_ u (min (k + 1) 32)) ∧ W.grownBy w' (some p) := by
  by_cases hk : k < 32
  · rw [show min k 32 = k from by omega] at h
    rw [show min (k + 1) 32 = k + 1 from by omega]
    refine (cStep W p u k hk hx hy h).mono ?_
    rintro e w' ⟨rfl, h1, h2⟩
    refine ⟨?_, h1, h2⟩
    by_cases h31 : k = 31
    · subst h31; rfl
    · rw [decide_eq_false (by omega)]
      exact ret_beq (by rw [beq_eq_false_iff_ne]; omega)
  · rw [show min k 32 = 32 from by omega] at h
    rw [show min (k + 1) 32 = 32 from by omega, decide_eq_true (by omega : 31 ≤ k)]
    refine (cStep_end W p u h).mono ?_
    rintro e w' ⟨rfl, rfl⟩
    exact ⟨rfl, h, grown_refl _ _⟩
theorem do_7_2 : doI 42 (7 : Nat) (2 : Nat) = 3 := by rw [doI_42]; unfold wrap32; decide
set_option maxHeartbeats 1000000 in
theorem cknown (w : World) : Calls Try.prog 8 #[] w fun e w' => e = .returned (.bool true) ∧ Below w.heap.size w w' := by
  have hU : ∃ u, initU 42 7 2 = u ∧ u.x < 4294967296 ∧ u.y < 4294967296 := ⟨_, rfl, init_x 42 7 2 (by decide), init_y 42 7 2 (by decide)⟩
  obtain ⟨u, hu, hx, hy⟩ := hU
  have hB := cBegin 42 7 2 (by decide) (by decide) (by decide)
  have hE := fun W p (h : At W p (at_ (initU 42 7 2) 32)) => cRes_end W p 42 7 2 (by decide) (by decide) (by decide) h
  rw [hu] at hB hE
  rw [do_7_2] at hE
  have HB := Lib.hid hB
  have HE := Lib.hid hE
  have HX := Lib.hid hx
  have HY := Lib.hid hy
  clear hB hE hu hx hy
  go_enter Try.func8, Try.ntmps8
  go_wp2_with fail
  refine (HB.out _).mono ?_
  rintro e w1 ⟨p, rfl, hp, hat, hbel⟩
  go_wp2_with fail
  refine (cNew_no 28 1 1 (by decide) _).mono ?_
  rintro e w2 ⟨rfl, rfl⟩
  go_wp2_with fail
  refine (cRes_no _ p u 0 (by decide) hat).mono ?_
  rintro e w2 ⟨rfl, rfl⟩
  go_wp2_with fail
  go_loopw [4] (fun i wr => ∃ k : Nat, k ≤ 40 ∧ i = .int .i64 k ∧ At wr p (at_ u (min k 32)) ∧ Below w.heap.size w wr)
    (fun i _ => 40 - (intOf i).toNat)
  case atStart => exact ⟨0, by decide, rfl, hat, hbel⟩
  case round =>
    obtain ⟨k, hk, rfl, hatr, hbr⟩ := hrel
    have hs1 := hatr.lt
    by_cases hl : k < 40
    · go_wp2_with fail
      refine (cStepAny _ p u k HX.out HY.out hatr).mono ?_
      rintro e w2 ⟨rfl, hat2, hg⟩
      have b2 := below_step hbr hp hs1 hbr.size hg
      clear hg hatr hat hbel
      go_wp2_with fail
      go_roundw
      case rel => exact ⟨k + 1, by omega, by go_num, hat2, b2⟩
      case measure => simp [intOf]; omega
    · rw [show min k 32 = 32 from by omega] at hatr
      go_wp2_with fail
      refine (HE.out _ p hatr).mono ?_
      rintro e w2 ⟨rfl, rfl⟩
      go_wp2_with fail
      refine (cSteps_at _ p _ 32 hatr).mono ?_
      rintro e w2 ⟨rfl, rfl⟩
      go_wp2_with fail
      refine (cSteps_at _ p _ 32 hatr).mono ?_
      rintro e w2 ⟨rfl, rfl⟩
      go_wp2_with fail
      go_ret
      exact ⟨rfl, hbr⟩
set_option maxHeartbeats 1000000 in
theorem tells_calls (op : Int) (a b : Nat) (ha : a < 4294967296) (hb : b < 4294967296) (w : World) : Calls Try.prog 4 #[.int .i64 op, .int .u32 a, .int .u32 b] w fun e w' => e = .returned (.bool true) ∧ Below w.heap.size w w' := by
  have HA := Lib.hid ha
  have HB := Lib.hid hb
  clear ha hb
  go_enter Try.func4, Try.ntmps4
  go_wp2_with fail
  refine (csameI _ _ _ (in_nat a HA.out) (in_nat b HB.out) _).mono ?_
  rintro e w1 ⟨rfl, b1⟩
  go_wp2_with fail
  refine (csameI _ _ _ (in_nat a HA.out) (in_bits _ _ _) _).mono ?_
  rintro e w2 ⟨rfl, b2⟩
  go_wp2_with fail
  refine (csameI _ _ _ (in_bits _ _ _) (in_nat b HB.out) _).mono ?_
  rintro e w3 ⟨rfl, b3⟩
  go_wp2_with fail
  refine (csameI _ _ _ (in_nat a HA.out) (in_nat b HB.out) _).mono ?_
  rintro e w4 ⟨rfl, b4⟩
  go_wp2_with fail
  refine (cknown _).mono ?_
  rintro e w5 ⟨rfl, b5⟩
  go_wp2_with fail
  go_ret
  exact ⟨rfl, below_next (below_next (below_next (below_next b1 b2) b3) b4) b5⟩
theorem tells_walk (a0 a1 a2 : Int) (w : World) (w0 : (Lit.int .i64 a0).wf = true) (w1 : (Lit.int .u32 a1).wf = true) (w2 : (Lit.int .u32 a2).wf = true) : Calls Try.prog 4 #[.int .i64 a0, .int .u32 a1, .int .u32 a2] w fun e w' => e = .returned (.bool true) ∧ Below w.heap.size w w' := by
  obtain ⟨a, rfl, ha⟩ := wf_u32 w1
  obtain ⟨b, rfl, hb⟩ := wf_u32 w2
  exact tells_calls a0 a b ha hb w
theorem At.kept {W W' : World} {p : Nat} {u : Un} (h : At W p u) (hs : W.heap.size ≤ W'.heap.size) (hb : W'.heap[p]? = W.heap[p]?) : At W' p u := by
  have hc := fun i => World.cell?_of_block (w := W) (w' := W') (a := ⟨p, i, none⟩) hb
  have hf := fun i => World.frozen?_of_block (w := W) (w' := W') (a := ⟨p, i, none⟩) hb
  exact ⟨Nat.lt_of_lt_of_le h.lt hs, (hc 0).trans h.c0, (hc 1).trans h.c1, (hc 2).trans h.c2, (hc 3).trans h.c3, (hc 4).trans h.c4, (hc 5).trans h.c5, (hc 6).trans h.c6, (hc 7).trans h.c7, (hc 8).trans h.c8, (hf 5).trans h.f5, (hf 6).trans h.f6, (hf 7).trans h.f7⟩
theorem At.grown {W W' : World} {p q : Nat} {u : Un} (h : At W p u) (hg : W.grownBy W' (some q)) (hq : p ≠ q) : At W' p u :=
  h.kept hg.size (hg.block p h.lt (by intro e; injection e with e; exact hq e))
theorem At.below {W W' : World} {p : Nat} {u : Un} (h : At W p u) (hg : Below W.heap.size W W') : At W' p u :=
  h.kept hg.size (hg.block p h.lt)
end Go.Proofs.Ytfgemmiahgmmbaa.Un
