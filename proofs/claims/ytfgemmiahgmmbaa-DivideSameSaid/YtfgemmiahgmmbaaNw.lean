/- The contract of New. -/
import Derived.Test.YtfgemmiahgmmbaaRs
set_option linter.unusedVariables false
set_option linter.unusedSimpArgs false
namespace Go.Proofs.Ytfgemmiahgmmbaa.Un
open Go.RowKit Go.Proofs.Ytfgemmiahgmmbaa.Bv
def firstB (op : Int) : Bool := op == 39 || op == 40 || op == 42 || op == 44
/-- A unit that begins. -/
def initU (op : Int) (a b : Nat) : Un :=
  { op := op, a := a, b := b, x := (sizeV a (firstB op)).1, y := (sizeV b (firstB op && op != 40)).1, acc := 0, out := 0, steps := 0,
    minus := if op = 44 then (sizeV a (firstB op)).2 else (sizeV a (firstB op)).2 != (sizeV b (firstB op && op != 40)).2 }
theorem cNew_no (op : Int) (a b : Nat) (h : op < 38 ∨ 45 < op) (w : World) : Calls Try.prog 9 #[.int .i64 op, .int .u32 a, .int .u32 b] w fun e w' => e = .returned (.pointer none) ∧ w = w' := by
  have hd : (decide (38 ≤ op) && decide (op ≤ 45)) = false := by
    rcases h with h | h
    · rw [decide_eq_false (by omega : ¬ 38 ≤ op)]; rfl
    · rw [decide_eq_false (by omega : ¬ op ≤ 45), Bool.and_false]
  have HD := Lib.hid hd
  clear h hd
  go_enter Try.func9, Try.ntmps9
  go_wp2_with (go_at_call 14; refine (cwithinV _ _ _ _ HD.out _).mono ?_; rintro e w' ⟨rfl, rfl⟩)
  go_ret
  exact ⟨rfl, rfl⟩
set_option maxHeartbeats 1000000 in
theorem cNew_38 (a b : Nat) (ha : a < 4294967296) (hb : b < 4294967296) (w : World) : Calls Try.prog 9 #[.int .i64 38, .int .u32 a, .int .u32 b] w fun e w' => ∃ p, e = .returned (.pointer (some ⟨p, 0, none⟩)) ∧ w.heap.size ≤ p ∧ At w' p (initU 38 a b) ∧ Below w.heap.size w w' := by
  obtain ⟨xa, hxa⟩ : ∃ r, sizeV a false = r := ⟨_, rfl⟩
  obtain ⟨xb, hxb⟩ : ∃ r, sizeV b false = r := ⟨_, rfl⟩
  have ca := csize a false ha
  have cb := csize b false hb
  rw [hxa] at ca
  rw [hxb] at cb
  have hU : initU 38 a b = ⟨38, a, b, xa.1, xb.1, 0, 0, 0, !(xa.2 == xb.2)⟩ := by
    unfold initU
    rw [show firstB 38 = false from by decide, show (false && (38 : Int) != 40) = false from by decide, hxa, hxb, if_neg (by decide)]; rfl
  have HU := Lib.hid hU
  have HA := Lib.hid ca
  have HB := Lib.hid cb
  clear ca cb hxa hxb hU
  go_enter Try.func9, Try.ntmps9
  go_wp2_with fail
  refine (cwithinV _ _ _ true (by decide) _).mono ?_
  rintro e w' ⟨rfl, rfl⟩
  go_wp2_with fail
  refine (HA.out _).mono ?_
  rintro e w' ⟨rfl, rfl⟩
  go_wp2_with fail
  refine (HB.out _).mono ?_
  rintro e w' ⟨rfl, rfl⟩
  go_wp2_with fail
  go_ret
  refine ⟨_, rfl, Nat.le_refl _, ?_, (Below.refl _ _).alloc (Nat.le_refl _) _⟩
  rw [HU.out]
  exact ⟨by simp, by simp, by simp, by simp, by simp, by simp, by simp, by simp, by simp, by simp, by simp, by simp, by simp⟩
set_option maxHeartbeats 1000000 in
theorem cNew_39 (a b : Nat) (ha : a < 4294967296) (hb : b < 4294967296) (w : World) : Calls Try.prog 9 #[.int .i64 39, .int .u32 a, .int .u32 b] w fun e w' => ∃ p, e = .returned (.pointer (some ⟨p, 0, none⟩)) ∧ w.heap.size ≤ p ∧ At w' p (initU 39 a b) ∧ Below w.heap.size w w' := by
  obtain ⟨xa, hxa⟩ : ∃ r, sizeV a true = r := ⟨_, rfl⟩
  obtain ⟨xb, hxb⟩ : ∃ r, sizeV b true = r := ⟨_, rfl⟩
  have ca := csize a true ha
  have cb := csize b true hb
  rw [hxa] at ca
  rw [hxb] at cb
  have hU : initU 39 a b = ⟨39, a, b, xa.1, xb.1, 0, 0, 0, !(xa.2 == xb.2)⟩ := by
    unfold initU
    rw [show firstB 39 = true from by decide, show (true && (39 : Int) != 40) = true from by decide, hxa, hxb, if_neg (by decide)]; rfl
  have HU := Lib.hid hU
  have HA := Lib.hid ca
  have HB := Lib.hid cb
  clear ca cb hxa hxb hU
  go_enter Try.func9, Try.ntmps9
  go_wp2_with fail
  refine (cwithinV _ _ _ true (by decide) _).mono ?_
  rintro e w' ⟨rfl, rfl⟩
  go_wp2_with fail
  refine (HA.out _).mono ?_
  rintro e w' ⟨rfl, rfl⟩
  go_wp2_with fail
  refine (HB.out _).mono ?_
  rintro e w' ⟨rfl, rfl⟩
  go_wp2_with fail
  go_ret
  refine ⟨_, rfl, Nat.le_refl _, ?_, (Below.refl _ _).alloc (Nat.le_refl _) _⟩
  rw [HU.out]
  exact ⟨by simp, by simp, by simp, by simp, by simp, by simp, by simp, by simp, by simp, by simp, by simp, by simp, by simp⟩
set_option maxHeartbeats 1000000 in
theorem cNew_40 (a b : Nat) (ha : a < 4294967296) (hb : b < 4294967296) (w : World) : Calls Try.prog 9 #[.int .i64 40, .int .u32 a, .int .u32 b] w fun e w' => ∃ p, e = .returned (.pointer (some ⟨p, 0, none⟩)) ∧ w.heap.size ≤ p ∧ At w' p (initU 40 a b) ∧ Below w.heap.size w w' := by
  obtain ⟨xa, hxa⟩ : ∃ r, sizeV a true = r := ⟨_, rfl⟩
  obtain ⟨xb, hxb⟩ : ∃ r, sizeV b false = r := ⟨_, rfl⟩
  have ca := csize a true ha
  have cb := csize b false hb
  rw [hxa] at ca
  rw [hxb] at cb
  have hU : initU 40 a b = ⟨40, a, b, xa.1, xb.1, 0, 0, 0, !(xa.2 == xb.2)⟩ := by
    unfold initU
    rw [show firstB 40 = true from by decide, show (true && (40 : Int) != 40) = false from by decide, hxa, hxb, if_neg (by decide)]; rfl
  have HU := Lib.hid hU
  have HA := Lib.hid ca
  have HB := Lib.hid cb
  clear ca cb hxa hxb hU
  go_enter Try.func9, Try.ntmps9
  go_wp2_with fail
  refine (cwithinV _ _ _ true (by decide) _).mono ?_
  rintro e w' ⟨rfl, rfl⟩
  go_wp2_with fail
  refine (HA.out _).mono ?_
  rintro e w' ⟨rfl, rfl⟩
  go_wp2_with fail
  refine (HB.out _).mono ?_
  rintro e w' ⟨rfl, rfl⟩
  go_wp2_with fail
  go_ret
  refine ⟨_, rfl, Nat.le_refl _, ?_, (Below.refl _ _).alloc (Nat.le_refl _) _⟩
  rw [HU.out]
  exact ⟨by simp, by simp, by simp, by simp, by simp, by simp, by simp, by simp, by simp, by simp, by simp, by simp, by simp⟩
set_option maxHeartbeats 1000000 in
theorem cNew_41 (a b : Nat) (ha : a < 4294967296) (hb : b < 4294967296) (w : World) : Calls Try.prog 9 #[.int .i64 41, .int .u32 a, .int .u32 b] w fun e w' => ∃ p, e = .returned (.pointer (some ⟨p, 0, none⟩)) ∧ w.heap.size ≤ p ∧ At w' p (initU 41 a b) ∧ Below w.heap.size w w' := by
  obtain ⟨xa, hxa⟩ : ∃ r, sizeV a false = r := ⟨_, rfl⟩
  obtain ⟨xb, hxb⟩ : ∃ r, sizeV b false = r := ⟨_, rfl⟩
  have ca := csize a false ha
  have cb := csize b false hb
  rw [hxa] at ca
  rw [hxb] at cb
  have hU : initU 41 a b = ⟨41, a, b, xa.1, xb.1, 0, 0, 0, !(xa.2 == xb.2)⟩ := by
    unfold initU
    rw [show firstB 41 = false from by decide, show (false && (41 : Int) != 40) = false from by decide, hxa, hxb, if_neg (by decide)]; rfl
  have HU := Lib.hid hU
  have HA := Lib.hid ca
  have HB := Lib.hid cb
  clear ca cb hxa hxb hU
  go_enter Try.func9, Try.ntmps9
  go_wp2_with fail
  refine (cwithinV _ _ _ true (by decide) _).mono ?_
  rintro e w' ⟨rfl, rfl⟩
  go_wp2_with fail
  refine (HA.out _).mono ?_
  rintro e w' ⟨rfl, rfl⟩
  go_wp2_with fail
  refine (HB.out _).mono ?_
  rintro e w' ⟨rfl, rfl⟩
  go_wp2_with fail
  go_ret
  refine ⟨_, rfl, Nat.le_refl _, ?_, (Below.refl _ _).alloc (Nat.le_refl _) _⟩
  rw [HU.out]
  exact ⟨by simp, by simp, by simp, by simp, by simp, by simp, by simp, by simp, by simp, by simp, by simp, by simp, by simp⟩
set_option maxHeartbeats 1000000 in
theorem cNew_42 (a b : Nat) (ha : a < 4294967296) (hb : b < 4294967296) (w : World) : Calls Try.prog 9 #[.int .i64 42, .int .u32 a, .int .u32 b] w fun e w' => ∃ p, e = .returned (.pointer (some ⟨p, 0, none⟩)) ∧ w.heap.size ≤ p ∧ At w' p (initU 42 a b) ∧ Below w.heap.size w w' := by
  obtain ⟨xa, hxa⟩ : ∃ r, sizeV a true = r := ⟨_, rfl⟩
  obtain ⟨xb, hxb⟩ : ∃ r, sizeV b true = r := ⟨_, rfl⟩
  have ca := csize a true ha
  have cb := csize b true hb
  rw [hxa] at ca
  rw [hxb] at cb
  have hU : initU 42 a b = ⟨42, a, b, xa.1, xb.1, 0, 0, 0, !(xa.2 == xb.2)⟩ := by
    unfold initU
    rw [show firstB 42 = true from by decide, show (true && (42 : Int) != 40) = true from by decide, hxa, hxb, if_neg (by decide)]; rfl
  have HU := Lib.hid hU
  have HA := Lib.hid ca
  have HB := Lib.hid cb
  clear ca cb hxa hxb hU
  go_enter Try.func9, Try.ntmps9
  go_wp2_with fail
  refine (cwithinV _ _ _ true (by decide) _).mono ?_
  rintro e w' ⟨rfl, rfl⟩
  go_wp2_with fail
  refine (HA.out _).mono ?_
  rintro e w' ⟨rfl, rfl⟩
  go_wp2_with fail
  refine (HB.out _).mono ?_
  rintro e w' ⟨rfl, rfl⟩
  go_wp2_with fail
  go_ret
  refine ⟨_, rfl, Nat.le_refl _, ?_, (Below.refl _ _).alloc (Nat.le_refl _) _⟩
  rw [HU.out]
  exact ⟨by simp, by simp, by simp, by simp, by simp, by simp, by simp, by simp, by simp, by simp, by simp, by simp, by simp⟩
set_option maxHeartbeats 1000000 in
theorem cNew_43 (a b : Nat) (ha : a < 4294967296) (hb : b < 4294967296) (w : World) : Calls Try.prog 9 #[.int .i64 43, .int .u32 a, .int .u32 b] w fun e w' => ∃ p, e = .returned (.pointer (some ⟨p, 0, none⟩)) ∧ w.heap.size ≤ p ∧ At w' p (initU 43 a b) ∧ Below w.heap.size w w' := by
  obtain ⟨xa, hxa⟩ : ∃ r, sizeV a false = r := ⟨_, rfl⟩
  obtain ⟨xb, hxb⟩ : ∃ r, sizeV b false = r := ⟨_, rfl⟩
  have ca := csize a false ha
  have cb := csize b false hb
  rw [hxa] at ca
  rw [hxb] at cb
  have hU : initU 43 a b = ⟨43, a, b, xa.1, xb.1, 0, 0, 0, !(xa.2 == xb.2)⟩ := by
    unfold initU
    rw [show firstB 43 = false from by decide, show (false && (43 : Int) != 40) = false from by decide, hxa, hxb, if_neg (by decide)]; rfl
  have HU := Lib.hid hU
  have HA := Lib.hid ca
  have HB := Lib.hid cb
  clear ca cb hxa hxb hU
  go_enter Try.func9, Try.ntmps9
  go_wp2_with fail
  refine (cwithinV _ _ _ true (by decide) _).mono ?_
  rintro e w' ⟨rfl, rfl⟩
  go_wp2_with fail
  refine (HA.out _).mono ?_
  rintro e w' ⟨rfl, rfl⟩
  go_wp2_with fail
  refine (HB.out _).mono ?_
  rintro e w' ⟨rfl, rfl⟩
  go_wp2_with fail
  go_ret
  refine ⟨_, rfl, Nat.le_refl _, ?_, (Below.refl _ _).alloc (Nat.le_refl _) _⟩
  rw [HU.out]
  exact ⟨by simp, by simp, by simp, by simp, by simp, by simp, by simp, by simp, by simp, by simp, by simp, by simp, by simp⟩
set_option maxHeartbeats 1000000 in
theorem cNew_44 (a b : Nat) (ha : a < 4294967296) (hb : b < 4294967296) (w : World) : Calls Try.prog 9 #[.int .i64 44, .int .u32 a, .int .u32 b] w fun e w' => ∃ p, e = .returned (.pointer (some ⟨p, 0, none⟩)) ∧ w.heap.size ≤ p ∧ At w' p (initU 44 a b) ∧ Below w.heap.size w w' := by
  obtain ⟨xa, hxa⟩ : ∃ r, sizeV a true = r := ⟨_, rfl⟩
  obtain ⟨xb, hxb⟩ : ∃ r, sizeV b true = r := ⟨_, rfl⟩
  have ca := csize a true ha
  have cb := csize b true hb
  rw [hxa] at ca
  rw [hxb] at cb
  have hU : initU 44 a b = ⟨44, a, b, xa.1, xb.1, 0, 0, 0, xa.2⟩ := by
    unfold initU
    rw [show firstB 44 = true from by decide, show (true && (44 : Int) != 40) = true from by decide, hxa, hxb, if_pos (by decide)]
  have HU := Lib.hid hU
  have HA := Lib.hid ca
  have HB := Lib.hid cb
  clear ca cb hxa hxb hU
  go_enter Try.func9, Try.ntmps9
  go_wp2_with fail
  refine (cwithinV _ _ _ true (by decide) _).mono ?_
  rintro e w' ⟨rfl, rfl⟩
  go_wp2_with fail
  refine (HA.out _).mono ?_
  rintro e w' ⟨rfl, rfl⟩
  go_wp2_with fail
  refine (HB.out _).mono ?_
  rintro e w' ⟨rfl, rfl⟩
  go_wp2_with fail
  go_ret
  refine ⟨_, rfl, Nat.le_refl _, ?_, (Below.refl _ _).alloc (Nat.le_refl _) _⟩
  rw [HU.out]
  exact ⟨by simp, by simp, by simp, by simp, by simp, by simp, by simp, by simp, by simp, by simp, by simp, by simp, by simp⟩
set_option maxHeartbeats 1000000 in
theorem cNew_45 (a b : Nat) (ha : a < 4294967296) (hb : b < 4294967296) (w : World) : Calls Try.prog 9 #[.int .i64 45, .int .u32 a, .int .u32 b] w fun e w' => ∃ p, e = .returned (.pointer (some ⟨p, 0, none⟩)) ∧ w.heap.size ≤ p ∧ At w' p (initU 45 a b) ∧ Below w.heap.size w w' := by
  obtain ⟨xa, hxa⟩ : ∃ r, sizeV a false = r := ⟨_, rfl⟩
  obtain ⟨xb, hxb⟩ : ∃ r, sizeV b false = r := ⟨_, rfl⟩
  have ca := csize a false ha
  have cb := csize b false hb
  rw [hxa] at ca
  rw [hxb] at cb
  have hU : initU 45 a b = ⟨45, a, b, xa.1, xb.1, 0, 0, 0, !(xa.2 == xb.2)⟩ := by
    unfold initU
    rw [show firstB 45 = false from by decide, show (false && (45 : Int) != 40) = false from by decide, hxa, hxb, if_neg (by decide)]; rfl
  have HU := Lib.hid hU
  have HA := Lib.hid ca
  have HB := Lib.hid cb
  clear ca cb hxa hxb hU
  go_enter Try.func9, Try.ntmps9
  go_wp2_with fail
  refine (cwithinV _ _ _ true (by decide) _).mono ?_
  rintro e w' ⟨rfl, rfl⟩
  go_wp2_with fail
  refine (HA.out _).mono ?_
  rintro e w' ⟨rfl, rfl⟩
  go_wp2_with fail
  refine (HB.out _).mono ?_
  rintro e w' ⟨rfl, rfl⟩
  go_wp2_with fail
  go_ret
  refine ⟨_, rfl, Nat.le_refl _, ?_, (Below.refl _ _).alloc (Nat.le_refl _) _⟩
  rw [HU.out]
  exact ⟨by simp, by simp, by simp, by simp, by simp, by simp, by simp, by simp, by simp, by simp, by simp, by simp, by simp⟩
theorem cNew (op : Int) (a b : Nat) (ho : ¬ (op < 38 ∨ 45 < op)) (ha : a < 4294967296) (hb : b < 4294967296) (w : World) : Calls Try.prog 9 #[.int .i64 op, .int .u32 a, .int .u32 b] w fun e w' => ∃ p, e = .returned (.pointer (some ⟨p, 0, none⟩)) ∧ w.heap.size ≤ p ∧ At w' p (initU op a b) ∧ Below w.heap.size w w' := by
  rcases (show op = 38 ∨ op = 39 ∨ op = 40 ∨ op = 41 ∨ op = 42 ∨ op = 43 ∨ op = 44 ∨ op = 45 by omega) with rfl | rfl | rfl | rfl | rfl | rfl | rfl | rfl
  · exact cNew_38 a b ha hb w
  · exact cNew_39 a b ha hb w
  · exact cNew_40 a b ha hb w
  · exact cNew_41 a b ha hb w
  · exact cNew_42 a b ha hb w
  · exact cNew_43 a b ha hb w
  · exact cNew_44 a b ha hb w
  · exact cNew_45 a b ha hb w
end Go.Proofs.Ytfgemmiahgmmbaa.Un
