/- The laws DivideSame, DivideParts and DivideNumbers, walked. -/
import Derived.Test.YtfgemmiahgmmbaaLw
set_option linter.unusedVariables false
set_option linter.unusedSimpArgs false
namespace Go.Proofs.Ytfgemmiahgmmbaa.Un
open Go.RowKit Go.Proofs.Ytfgemmiahgmmbaa.Bv Go.Proofs.Ytfgemmiahgmmbaa.Alu
theorem seven (op : Int) : ∃ z : Int, Go.bits .and .i64 op 7 = z ∧ 0 ≤ z ∧ z ≤ 7 := by
  refine ⟨_, and_mask_i64 3 (by decide) op 7 (by decide), ?_, ?_⟩ <;> omega
set_option maxHeartbeats 1000000 in
theorem same_calls (op : Int) (a b : Nat) (ha : a < 4294967296) (hb : b < 4294967296) (w : World) : Calls Try.prog 5 #[.int .i64 op, .int .u32 a, .int .u32 b] w fun e w' => e = .returned (.bool true) ∧ Below w.heap.size w w' := by
  obtain ⟨z, hz, z0, z7⟩ := seven op
  have hU : ∃ u, initU (38 + z) a b = u ∧ u.x < 4294967296 ∧ u.y < 4294967296 := ⟨_, rfl, init_x (38 + z) a b ha, init_y (38 + z) a b hb⟩
  obtain ⟨u, hu, hx, hy⟩ := hU
  have hB := cBegin (38 + z) a b (by omega) ha hb
  have hE := fun W p (h : At W p (at_ (initU (38 + z) a b) 32)) => cRes_end W p (38 + z) a b (by omega) ha hb h
  rw [hu] at hB hE
  have HB := Lib.hid hB
  have HE := Lib.hid hE
  have HX := Lib.hid hx
  have HY := Lib.hid hy
  clear hB hE hu hx hy ha hb
  go_enter Try.func5, Try.ntmps5
  go_wp2_with fail
  refine (HB.out _).mono ?_
  rintro e w1 ⟨p, rfl, hp, hat, hbel⟩
  go_wp2_with fail
  refine (HB.out _).mono ?_
  rintro e w2 ⟨q, rfl, hq, hat2, hbel2⟩
  have hat1 := hat.below hbel2
  have hpq : p < q := by have := hat.lt; omega
  have b2 := below_next hbel hbel2
  have hqB : w.heap.size ≤ q := by omega
  clear hat hbel hbel2 hq
  go_wp2_with fail
  go_loopw [10] (fun i wr => ∃ k : Nat, k ≤ 40 ∧ i = .int .i64 k ∧ At wr p (at_ u (min k 32)) ∧ At wr q (at_ u (min k 32)) ∧ Below w.heap.size w wr)
    (fun i _ => 40 - (intOf i).toNat)
  case atStart => exact ⟨0, by decide, rfl, hat1, hat2, b2⟩
  case round =>
    clear hat1 hat2 b2
    obtain ⟨k, hk, rfl, hp1, hq1, hbr⟩ := hrel
    by_cases hl : k < 40
    · obtain ⟨n, ok, hR⟩ : ∃ (n : Int) (ok : Bool), ∀ W p, At W p (at_ u (min (k + 1) 32)) → Calls Try.prog 12 #[.pointer (some ⟨p, 0, none⟩)] W fun e w' => e = .returned (.tuple #[.int .u32 n, .bool ok]) ∧ W = w' := by
        by_cases hd : k + 1 < 32
        · exact ⟨0, false, fun W p h => cRes_no W p u (k + 1) hd (by rwa [show min (k + 1) 32 = k + 1 from by omega] at h)⟩
        · exact ⟨_, true, fun W p h => HE.out W p (by rwa [show min (k + 1) 32 = 32 from by omega] at h)⟩
      have HR := Lib.hid hR
      clear hR
      have s1 := hp1.lt
      have s2 := hq1.lt
      go_wp2_with fail
      refine (cStepAny _ p u k HX.out HY.out hp1).mono ?_
      rintro e w3 ⟨rfl, hp2, hg⟩
      have b3 := below_step hbr hp s1 hbr.size hg
      have hq2 := hq1.grown hg (by omega)
      clear hg hp1 hq1 hbr s1 s2
      have s2 := hq2.lt
      go_wp2_with fail
      refine (cStepAny _ q u k HX.out HY.out hq2).mono ?_
      rintro e w4 ⟨rfl, hq3, hg⟩
      have b4 := below_step b3 hqB s2 b3.size hg
      have hp3 := hp2.grown hg (by omega)
      clear hg hp2 hq2 b3 s2
      go_wp2_with fail
      refine (cSteps_at _ p _ _ hp3).mono ?_
      rintro e w2 ⟨rfl, rfl⟩
      go_wp2_with fail
      refine (cSteps_at _ q _ _ hq3).mono ?_
      rintro e w2 ⟨rfl, rfl⟩
      go_wp2_with fail
      refine (HR.out _ p hp3).mono ?_
      rintro e w2 ⟨rfl, rfl⟩
      go_wp2_with fail
      refine (HR.out _ q hq3).mono ?_
      rintro e w2 ⟨rfl, rfl⟩
      go_wp2_with fail
      go_roundw
      case rel => exact ⟨k + 1, by omega, by go_num, hp3, hq3, b4⟩
      case measure => simp [intOf]; omega
    · rw [show min k 32 = 32 from by omega] at hp1
      go_wp2_with fail
      refine (HE.out _ p hp1).mono ?_
      rintro e w2 ⟨rfl, rfl⟩
      go_wp2_with fail
      refine (cknown _).mono ?_
      rintro e w5 ⟨rfl, b5⟩
      go_wp2_with fail
      go_ret
      exact ⟨rfl, below_next hbr b5⟩
theorem same_walk (a0 a1 a2 : Int) (w : World) (w0 : (Lit.int .i64 a0).wf = true) (w1 : (Lit.int .u32 a1).wf = true) (w2 : (Lit.int .u32 a2).wf = true) : Calls Try.prog 5 #[.int .i64 a0, .int .u32 a1, .int .u32 a2] w fun e w' => e = .returned (.bool true) ∧ Below w.heap.size w w' := by
  obtain ⟨a, rfl, ha⟩ := wf_u32 w1
  obtain ⟨b, rfl, hb⟩ := wf_u32 w2
  exact same_calls a0 a b ha hb w
theorem below_nextB {B : Nat} {w w1 w2 : World} (h : Below B w w1) (k : Below w1.heap.size w1 w2) (hB : B ≤ w1.heap.size := by omega) : Below B w w2 :=
  h.trans (k.mono hB)
/-- Two numbers in block B, two ops behind it. -/
structure Pt (W : World) (B : Nat) (x y : Int) : Prop where
  lt : B + 1 < W.heap.size
  a0 : W.cell? ⟨B, 0, none⟩ = some (.int .u32 x)
  a1 : W.cell? ⟨B, 1, none⟩ = some (.int .u32 y)
  f0 : W.frozen? ⟨B, 0, none⟩ = false
  f1 : W.frozen? ⟨B, 1, none⟩ = false
  o0 : W.cell? ⟨B + 1, 0, none⟩ = some (.int .i64 43)
  o1 : W.cell? ⟨B + 1, 1, none⟩ = some (.int .i64 45)
theorem Pt.kept {W W' : World} {B : Nat} {x y : Int} (h : Pt W B x y) (hs : W.heap.size ≤ W'.heap.size) (hb : W'.heap[B]? = W.heap[B]?) (hb2 : W'.heap[B + 1]? = W.heap[B + 1]?) : Pt W' B x y := by
  have hc := fun i => World.cell?_of_block (w := W) (w' := W') (a := ⟨B, i, none⟩) hb
  have hf := fun i => World.frozen?_of_block (w := W) (w' := W') (a := ⟨B, i, none⟩) hb
  have hd := fun i => World.cell?_of_block (w := W) (w' := W') (a := ⟨B + 1, i, none⟩) hb2
  exact ⟨Nat.lt_of_lt_of_le h.lt hs, (hc 0).trans h.a0, (hc 1).trans h.a1, (hf 0).trans h.f0, (hf 1).trans h.f1, (hd 0).trans h.o0, (hd 1).trans h.o1⟩
theorem Pt.below {W W' : World} {B : Nat} {x y : Int} (h : Pt W B x y) (hb : Below W.heap.size W W') : Pt W' B x y :=
  h.kept hb.size (hb.block B (by have := h.lt; omega)) (hb.block (B + 1) h.lt)
theorem Pt.grown {W W' : World} {B p : Nat} {x y : Int} (h : Pt W B x y) (hg : W.grownBy W' (some p)) (hp : B + 1 < p) : Pt W' B x y :=
  h.kept hg.size (hg.block B (by have := h.lt; omega) (by intro e; injection e; omega)) (hg.block (B + 1) h.lt (by intro e; injection e; omega))
theorem Pt.set0 {W : World} {B : Nat} {x y : Int} (h : Pt W B x y) (v : Int) : Pt (W.setCell ⟨B, 0, none⟩ (.int .u32 v)) B v y :=
  ⟨by have := h.lt; simpa using this, set_s _ _ _ _ _ h.a0, (set_o _ _ 0 1 _ (by decide)).trans h.a1, set_f _ _ _ _ _ h.f0, set_f _ _ _ _ _ h.f1,
   (World.cell?_setCell_other W _ _ _ (by intro e; injection e with e; omega)).trans h.o0, (World.cell?_setCell_other W _ _ _ (by intro e; injection e with e; omega)).trans h.o1⟩
theorem Pt.set1 {W : World} {B : Nat} {x y : Int} (h : Pt W B x y) (v : Int) : Pt (W.setCell ⟨B, 1, none⟩ (.int .u32 v)) B x v :=
  ⟨by have := h.lt; simpa using this, (set_o _ _ 1 0 _ (by decide)).trans h.a0, set_s _ _ _ _ _ h.a1, set_f _ _ _ _ _ h.f0, set_f _ _ _ _ _ h.f1,
   (World.cell?_setCell_other W _ _ _ (by intro e; injection e with e; omega)).trans h.o0, (World.cell?_setCell_other W _ _ _ (by intro e; injection e with e; omega)).trans h.o1⟩
theorem quo_rem (a b : Nat) (hb : ¬ b = 0) : ∃ q r : Nat, doI 43 a b = (q : Int) ∧ doI 45 a b = (r : Int) ∧ q * b + r = a ∧ r < b := by
  refine ⟨a / b, a % b, ?_, ?_, ?_, Nat.mod_lt _ (by omega)⟩
  · rw [doI_43, if_neg (by omega)]; simp
  · rw [doI_45, if_neg (by omega)]; simp
  · rw [Nat.mul_comm]; exact Nat.div_add_mod a b
set_option maxHeartbeats 1000000 in
theorem parts_calls (a b : Nat) (ha : a < 4294967296) (hb : b < 4294967296) (w : World) : Calls Try.prog 6 #[.int .u32 a, .int .u32 b] w fun e w' => e = .returned (.bool true) ∧ Below w.heap.size w w' := by
  have HA := Lib.hid ha
  have HB := Lib.hid hb
  clear ha hb
  go_enter Try.func6, Try.ntmps6
  go_wp2_with fail
  have hP : Pt ((w.alloc (Obj.cells #[Value.int IntKind.u32 0, Value.int IntKind.u32 0] 31)).alloc (Obj.cells #[Value.int IntKind.i64 43, Value.int IntKind.i64 45] 3)) w.heap.size 0 0 :=
    ⟨by simp, by simp, by simp, by simp, by simp, by simp, by simp⟩
  have hb0 : Below w.heap.size w ((w.alloc (Obj.cells #[Value.int IntKind.u32 0, Value.int IntKind.u32 0] 31)).alloc (Obj.cells #[Value.int IntKind.i64 43, Value.int IntKind.i64 45] 3)) :=
    (((Below.refl _ _).alloc (Nat.le_refl _) _).alloc (by simp) _)
  generalize (w.alloc _).alloc _ = W0 at hP hb0 ⊢
  generalize hB : w.heap.size = B at hP hb0 ⊢
  have HW := Lib.hid hB
  clear hB
  go_loopw [14] (fun i wr => ∃ k : Nat, k ≤ 2 ∧ i = .int .i64 k ∧ Pt wr B (if 0 < k then doI 43 a b else 0) (if 1 < k then doI 45 a b else 0) ∧ Below B w wr)
    (fun i _ => 2 - (intOf i).toNat)
  case atStart => exact ⟨0, by decide, rfl, hP, hb0⟩
  case round =>
    clear hP hb0
    obtain ⟨k, hk, rfl, hP, hbr⟩ := hrel
    rcases (show k = 0 ∨ k = 1 ∨ k = 2 by omega) with rfl | rfl | rfl
    · rw [if_neg (by decide), if_neg (by decide)] at hP
      have c0 := hP.o0; have c1 := hP.o1
      go_wp2_with fail
      refine (cBegin 43 a b (by decide) HA.out HB.out _).mono ?_
      rintro e w1 ⟨p, rfl, hp, hat, hb1⟩
      have hP1 := hP.below hb1
      have b1 := below_nextB hbr hb1 (by have := hP.lt; omega)
      have hpB : B + 1 < p := by have := hP.lt; omega
      obtain ⟨u, hu, hx, hy⟩ : ∃ u, initU 43 a b = u ∧ u.x < 4294967296 ∧ u.y < 4294967296 := ⟨_, rfl, init_x 43 a b HA.out, init_y 43 a b HB.out⟩
      have hE := fun W p (h : At W p (at_ (initU 43 a b) 32)) => cRes_end W p 43 a b (by decide) HA.out HB.out h
      rw [hu] at hat hE
      have HE := Lib.hid hE
      have HX := Lib.hid hx
      have HY := Lib.hid hy
      clear hE hu hx hy hP hbr hb1 hp c0 c1
      go_wp2_with fail
      go_loopw [9] (fun i wr => ∃ k : Nat, k ≤ 34 ∧ i = .int .i64 k ∧ At wr p (at_ u (min k 32)) ∧ Pt wr B 0 0 ∧ Below B w wr)
        (fun i _ => 34 - (intOf i).toNat)
      case atStart => exact ⟨0, by decide, rfl, hat, hP1, b1⟩
      case round =>
        clear hat hP1 b1
        obtain ⟨k, hk, rfl, hat, hP1, b1⟩ := hrel
        have hs1 := hat.lt
        by_cases hl : k < 34
        · go_wp2_with fail
          refine (cStepAny _ p u k HX.out HY.out hat).mono ?_
          rintro e w2 ⟨rfl, hat2, hg⟩
          have b2 := below_step b1 (by omega) hs1 (by omega) hg
          have hP2 := hP1.grown hg hpB
          clear hg hat b1 hP1
          go_wp2_with fail
          go_roundw
          case rel => exact ⟨k + 1, by omega, by go_num, hat2, hP2, b2⟩
          case measure => simp [intOf]; omega
        · rw [show min k 32 = 32 from by omega] at hat
          go_wp2_with fail
          refine (HE.out _ p hat).mono ?_
          rintro e w2 ⟨rfl, rfl⟩
          have c0 := hP1.a0; have c1 := hP1.a1
          have f0 := hP1.f0; have f1 := hP1.f1
          go_wp2_with fail
          go_roundw
          case rel => exact ⟨1, by omega, rfl, by rw [if_pos (by decide), if_neg (by decide)]; exact hP1.set0 _, b1.setCell (Nat.le_refl _) _⟩
          case measure => simp [intOf]
    · rw [if_pos (by decide), if_neg (by decide)] at hP
      have c0 := hP.o0; have c1 := hP.o1
      go_wp2_with fail
      refine (cBegin 45 a b (by decide) HA.out HB.out _).mono ?_
      rintro e w1 ⟨p, rfl, hp, hat, hb1⟩
      have hP1 := hP.below hb1
      have b1 := below_nextB hbr hb1 (by have := hP.lt; omega)
      have hpB : B + 1 < p := by have := hP.lt; omega
      obtain ⟨u, hu, hx, hy⟩ : ∃ u, initU 45 a b = u ∧ u.x < 4294967296 ∧ u.y < 4294967296 := ⟨_, rfl, init_x 45 a b HA.out, init_y 45 a b HB.out⟩
      have hE := fun W p (h : At W p (at_ (initU 45 a b) 32)) => cRes_end W p 45 a b (by decide) HA.out HB.out h
      rw [hu] at hat hE
      have HE := Lib.hid hE
      have HX := Lib.hid hx
      have HY := Lib.hid hy
      clear hE hu hx hy hP hbr hb1 hp c0 c1
      go_wp2_with fail
      go_loopw [9] (fun i wr => ∃ k : Nat, k ≤ 34 ∧ i = .int .i64 k ∧ At wr p (at_ u (min k 32)) ∧ Pt wr B (doI 43 a b) 0 ∧ Below B w wr)
        (fun i _ => 34 - (intOf i).toNat)
      case atStart => exact ⟨0, by decide, rfl, hat, hP1, b1⟩
      case round =>
        clear hat hP1 b1
        obtain ⟨k, hk, rfl, hat, hP1, b1⟩ := hrel
        have hs1 := hat.lt
        by_cases hl : k < 34
        · go_wp2_with fail
          refine (cStepAny _ p u k HX.out HY.out hat).mono ?_
          rintro e w2 ⟨rfl, hat2, hg⟩
          have b2 := below_step b1 (by omega) hs1 (by omega) hg
          have hP2 := hP1.grown hg hpB
          clear hg hat b1 hP1
          go_wp2_with fail
          go_roundw
          case rel => exact ⟨k + 1, by omega, by go_num, hat2, hP2, b2⟩
          case measure => simp [intOf]; omega
        · rw [show min k 32 = 32 from by omega] at hat
          go_wp2_with fail
          refine (HE.out _ p hat).mono ?_
          rintro e w2 ⟨rfl, rfl⟩
          have c0 := hP1.a0; have c1 := hP1.a1
          have f0 := hP1.f0; have f1 := hP1.f1
          go_wp2_with fail
          go_roundw
          case rel => exact ⟨2, by omega, rfl, by rw [if_pos (by decide), if_pos (by decide)]; exact hP1.set1 _, b1.setCell (Nat.le_refl _) _⟩
          case measure => simp [intOf]
    · rw [if_pos (by decide), if_pos (by decide)] at hP
      have hk := cknown
      by_cases hb : b = 0
      · subst hb
        rw [doI_43, if_pos (by decide), doI_45, if_pos (by decide)] at hP
        have c0 := hP.a0; have c1 := hP.a1
        have HK := Lib.hid hk
        clear hk hP
        go_wp2_with fail
        refine (HK.out _).mono ?_
        rintro e w5 ⟨rfl, b5⟩
        go_wp2_with fail
        go_ret
        exact ⟨rfl, by have h := HW.out; subst h; exact below_next hbr b5⟩
      · obtain ⟨q, r, eq, er, hq, hr⟩ := quo_rem a b hb
        rw [eq, er] at hP
        have c0 := hP.a0; have c1 := hP.a1
        have HK := Lib.hid hk
        obtain ⟨m, hm, hma, hm1⟩ : ∃ m : Nat, (q : Int) * (b : Int) = (m : Int) ∧ (m : Int) + (r : Int) = (a : Int) ∧ (m : Int) + (r : Int) < 4294967296 := ⟨q * b, by simp, by omega, by have := HA.out; omega⟩
        have hb' : ((b : Int) == 0) = false := by rw [beq_eq_false_iff_ne]; omega
        clear hk hP hq eq er
        go_wp2_with fail
        refine (HK.out _).mono ?_
        rintro e w5 ⟨rfl, b5⟩
        go_wp2_with fail
        go_ret
        exact ⟨rfl, by have h := HW.out; subst h; exact below_next hbr b5⟩
theorem parts_walk (a1 a2 : Int) (w : World) (w1 : (Lit.int .u32 a1).wf = true) (w2 : (Lit.int .u32 a2).wf = true) : Calls Try.prog 6 #[.int .u32 a1, .int .u32 a2] w fun e w' => e = .returned (.bool true) ∧ Below w.heap.size w w' := by
  obtain ⟨a, rfl, ha⟩ := wf_u32 w1
  obtain ⟨b, rfl, hb⟩ := wf_u32 w2
  exact parts_calls a b ha hb w
/-- The numbers that are tried. -/
def Vals (B : Nat) (W : World) : Prop := B < W.heap.size ∧ ∀ j, j < 11 → ∃ x : Nat, x < 4294967296 ∧ W.cell? ⟨B, j, none⟩ = some (.int .u32 x)
theorem Vals.next {B : Nat} {W W' : World} (h : Vals B W) (hb : Below W.heap.size W W') : Vals B W' :=
  ⟨Nat.lt_of_lt_of_le h.1 hb.size, fun j hj => by
    obtain ⟨x, hx, hc⟩ := h.2 j hj
    exact ⟨x, hx, (hb.cell (p := ⟨B, j, none⟩) h.1).trans hc⟩⟩
set_option maxHeartbeats 1000000 in
theorem numbers_walk (w : World) : Calls Try.prog 3 #[] w fun e w' => e = .returned (.bool true) ∧ Below w.heap.size w w' := by
  go_enter Try.func3, Try.ntmps3
  go_wp2_with fail
  have hc : Vals w.heap.size (w.alloc (.cells #[.int .u32 0, .int .u32 1, .int .u32 2, .int .u32 3, .int .u32 7, .int .u32 2147483647, .int .u32 2147483648, .int .u32 2147483649, .int .u32 4294967294, .int .u32 4294967295, .int .u32 3735928559] 22)) := by
    refine ⟨by simp, ?_⟩
    intro j hj
    rcases (show j = 0 ∨ j = 1 ∨ j = 2 ∨ j = 3 ∨ j = 4 ∨ j = 5 ∨ j = 6 ∨ j = 7 ∨ j = 8 ∨ j = 9 ∨ j = 10 by omega) with rfl | rfl | rfl | rfl | rfl | rfl | rfl | rfl | rfl | rfl | rfl
    · exact ⟨0, by decide, by simp⟩
    · exact ⟨1, by decide, by simp⟩
    · exact ⟨2, by decide, by simp⟩
    · exact ⟨3, by decide, by simp⟩
    · exact ⟨7, by decide, by simp⟩
    · exact ⟨2147483647, by decide, by simp⟩
    · exact ⟨2147483648, by decide, by simp⟩
    · exact ⟨2147483649, by decide, by simp⟩
    · exact ⟨4294967294, by decide, by simp⟩
    · exact ⟨4294967295, by decide, by simp⟩
    · exact ⟨3735928559, by decide, by simp⟩
  have hb0 : Below w.heap.size w (w.alloc (.cells #[.int .u32 0, .int .u32 1, .int .u32 2, .int .u32 3, .int .u32 7, .int .u32 2147483647, .int .u32 2147483648, .int .u32 2147483649, .int .u32 4294967294, .int .u32 4294967295, .int .u32 3735928559] 22)) := (Below.refl _ _).alloc (Nat.le_refl _) _
  generalize w.alloc _ = W0 at hc hb0 ⊢
  generalize hB : w.heap.size = B at hc hb0 ⊢
  have HW := Lib.hid hB
  clear hB
  go_loopw [2] (fun v wr => ∃ op : Int, 36 ≤ op ∧ op ≤ 48 ∧ v = .int .i64 op ∧ Vals B wr ∧ Below B w wr) (fun v _ => (48 - intOf v).toNat)
  case atStart => exact ⟨36, by omega, by omega, rfl, hc, hb0⟩
  case round =>
    clear hc hb0
    obtain ⟨op, h1, h2, rfl, hc, hb0⟩ := hrel
    by_cases hlt : op < 48
    · have HC := Lib.hid hc
      clear hc
      go_wp2_with fail
      go_loopw [14] (fun v wr => ∃ i : Nat, i ≤ 11 ∧ v = .int .i64 i ∧ Vals B wr ∧ Below B w wr) (fun v _ => 11 - (intOf v).toNat)
      case atStart => exact ⟨0, by omega, rfl, HC.out, hb0⟩
      case round =>
        clear HC hb0
        obtain ⟨i, hi, rfl, hc, hb0⟩ := hrel
        have HC := Lib.hid hc
        clear hc
        by_cases hli : i < 11
        · obtain ⟨x, hx, hcx⟩ := HC.out.2 i hli
          have HX := Lib.hid hx
          clear hx
          have hli' : (i : Int) < 11 := by omega
          go_wp2_with fail
          go_loopw [20] (fun v wr => ∃ k : Nat, k ≤ 11 ∧ v = .int .i64 k ∧ Vals B wr ∧ Below B w wr) (fun v _ => 11 - (intOf v).toNat)
          case atStart => exact ⟨0, by omega, rfl, HC.out, hb0⟩
          case round =>
            clear HC hb0 hcx
            obtain ⟨k, hk, rfl, hc, hb0⟩ := hrel
            have HC := Lib.hid hc
            clear hc
            by_cases hlk : k < 11
            · obtain ⟨y, hy, hcy⟩ := HC.out.2 k hlk
              have HY := Lib.hid hy
              clear hy
              have hlk' : (k : Int) < 11 := by omega
              go_wp2_with fail
              refine (csameI _ _ _ (in_nat x HX.out) (in_nat y HY.out) _).mono ?_
              rintro e w2 ⟨rfl, b2⟩
              have hc2 := HC.out.next b2
              have hb2 := below_nextB hb0 b2 (by have := HC.out.1; omega)
              clear HC hb0 hcy b2
              go_wp2_with fail
              go_roundw
              case rel => exact ⟨k + 1, by omega, by go_num, hc2, hb2⟩
              case measure => simp [intOf]; omega
            · go_wp2_with fail
              go_roundw
              case rel => exact ⟨i + 1, by omega, by go_num, HC.out, hb0⟩
              case measure => simp [intOf]; omega
        · go_wp2_with fail
          go_roundw
          case rel => exact ⟨op + 1, by omega, by omega, rfl, HC.out, hb0⟩
          case measure => simp [intOf]; omega
    · have HC := Lib.hid hc
      clear hc
      go_wp2_with fail
      refine (cknown _).mono ?_
      rintro e w2 ⟨rfl, b2⟩
      go_wp2_with fail
      go_ret
      exact ⟨rfl, by have h := HW.out; subst h; exact below_next hb0 b2⟩
end Go.Proofs.Ytfgemmiahgmmbaa.Un
