/- The laws of layer 10, walked: 'same', 'known', TrapTells, TrapFits, TrapNumbers. -/
import Derived.Test.YtnecpenihjlpnaaIx
set_option linter.unusedVariables false
set_option linter.unusedSimpArgs false
namespace Go.Proofs.Ytnecpenihjlpnaa.Al
open Go.RowKit Go.Proofs.Ytnecpenihjlpnaa.Bv
theorem below_next {B w1 w2 : World} (h : Below B.heap.size B w1) (k : Below w1.heap.size w1 w2) : Below B.heap.size B w2 :=
  h.trans ⟨k.os, k.tape, k.output, k.size, fun i hi => k.block i (Nat.lt_of_lt_of_le hi h.size)⟩
def In32 (x : Int) : Prop := 0 ≤ x ∧ x < 4294967296
theorem in_mod (x : Int) : In32 (x % 4294967296) := ⟨Int.emod_nonneg _ (by decide), Int.emod_lt_of_pos _ (by decide)⟩
theorem in_bits (o : BinOp) (x y : Int) : In32 (Go.bits o .u32 x y) := range32 o x y
theorem in_nat (x : Nat) (h : x < 4294967296) : In32 (x : Int) := ⟨by omega, by omega⟩
set_option maxHeartbeats 1000000 in
theorem csame (op : Int) (a : Nat) (c : Int) (ha : a < 4294967296) (w : World) : Calls Try.prog 6 #[.int .i64 op, .int .u32 a, .int .i64 c] w fun e w' => e = .returned (.bool true) ∧ Below w.heap.size w w' := by
  have HA := Lib.hid ha
  clear ha
  go_enter Try.func6, Try.ntmps6
  go_wp2_with (first
    | (go_at_call 11; refine (cFetch a _).mono ?_; rintro e w' ⟨rfl, rfl⟩)
    | (go_at_call 13; refine (cFetchR a _).mono ?_; rintro e w' ⟨rfl, rfl⟩)
    | (go_at_call 10; refine (cAccess op a HA.out _).mono ?_; rintro e w' ⟨rfl, rfl⟩)
    | (go_at_call 14; refine (cAccessR op a HA.out _).mono ?_; rintro e w' ⟨rfl, rfl⟩)
    | (go_at_call 12; refine (cInside a _).mono ?_; rintro e w' ⟨rfl, rfl⟩)
    | (go_at_call 15; refine (cInsideR a _).mono ?_; rintro e w' ⟨rfl, rfl⟩)
    | (go_at_call 16; refine (cDevice a _).mono ?_; rintro e w' ⟨rfl, rfl⟩)
    | (go_at_call 17; refine (cDeviceR a _).mono ?_; rintro e w' ⟨rfl, rfl⟩))
  refine (cIndex c _).mono ?_
  rintro e w' ⟨rfl, b1⟩
  go_wp2_with fail
  refine (cIndexR c _).mono ?_
  rintro e w' ⟨rfl, b2⟩
  go_wp2_with fail
  go_ret
  exact ⟨rfl, below_next b1 b2⟩
theorem csameI (op A c : Int) (ha : In32 A) (w : World) : Calls Try.prog 6 #[.int .i64 op, .int .u32 A, .int .i64 c] w fun e w' => e = .returned (.bool true) ∧ Below w.heap.size w w' := by
  obtain ⟨a, rfl⟩ := Int.eq_ofNat_of_zero_le ha.1
  exact csame op a c (by have := ha.2; omega) w
theorem k1 (w : World) : Calls Try.prog 11 #[.int .u32 2] w fun e w' => e = .returned (.tuple #[.int .i64 0, .bool true]) ∧ w = w' := by
  have h := cFetch 2 w
  rw [show fetchV 2 = (0, true) from by decide] at h; exact h
theorem kAcc (op : Int) (a : Nat) (c : Int) (b : Bool) (ha : a < 4294967296) (h : accessV op a = (c, b)) (w : World) : Calls Try.prog 10 #[.int .i64 op, .int .u32 a] w fun e w' => e = .returned (.tuple #[.int .i64 c, .bool b]) ∧ w = w' := by
  have h' := cAccess op a ha w
  rw [h] at h'; exact h'
theorem k2 (w : World) : Calls Try.prog 10 #[.int .i64 13, .int .u32 268435456] w fun e w' => e = .returned (.tuple #[.int .i64 5, .bool true]) ∧ w = w' := kAcc 13 268435456 5 true (by decide) (by decide) w
theorem k3 (w : World) : Calls Try.prog 10 #[.int .i64 16, .int .u32 268435456] w fun e w' => e = .returned (.tuple #[.int .i64 7, .bool true]) ∧ w = w' := kAcc 16 268435456 7 true (by decide) (by decide) w
theorem k4 (w : World) : Calls Try.prog 10 #[.int .i64 18, .int .u32 268435460] w fun e w' => e = .returned (.tuple #[.int .i64 0, .bool false]) ∧ w = w' := kAcc 18 268435460 0 false (by decide) (by decide) w
theorem k5 (w : World) : Calls Try.prog 12 #[.int .u32 0] w fun e w' => e = .returned (.bool true) ∧ w = w' := cInsideV 0 true (by decide) w
theorem k6 (w : World) : Calls Try.prog 12 #[.int .u32 4096] w fun e w' => e = .returned (.bool false) ∧ w = w' := cInsideV 4096 false (by decide) w
set_option maxHeartbeats 1000000 in
theorem cknown (w : World) : Calls Try.prog 9 #[] w fun e w' => e = .returned (.bool true) ∧ Below w.heap.size w w' := by
  go_enter Try.func9, Try.ntmps9
  go_wp2_with fail
  refine (k1 _).mono ?_
  rintro e w' ⟨rfl, rfl⟩
  go_wp2_with fail
  refine (k2 _).mono ?_
  rintro e w' ⟨rfl, rfl⟩
  go_wp2_with fail
  refine (k3 _).mono ?_
  rintro e w' ⟨rfl, rfl⟩
  go_wp2_with fail
  refine (k4 _).mono ?_
  rintro e w' ⟨rfl, rfl⟩
  go_wp2_with fail
  refine (k5 _).mono ?_
  rintro e w' ⟨rfl, rfl⟩
  go_wp2_with fail
  refine (k6 _).mono ?_
  rintro e w' ⟨rfl, rfl⟩
  go_wp2_with fail
  refine (cIndex 833 _).mono ?_
  rintro e w' ⟨rfl, b1⟩
  rw [show indexV 833 = 2 from by decide]
  go_wp2_with fail
  refine (cIndex 0 _).mono ?_
  rintro e w' ⟨rfl, b2⟩
  rw [show indexV 0 = -1 from by decide]
  go_wp2_with fail
  go_ret
  exact ⟨rfl, below_next b1 b2⟩
set_option maxHeartbeats 1000000 in
theorem tells_calls (op : Int) (a : Nat) (c : Int) (ha : a < 4294967296) (w : World) : Calls Try.prog 4 #[.int .i64 op, .int .u32 a, .int .i64 c] w fun e w' => e = .returned (.bool true) ∧ Below w.heap.size w w' := by
  have HA := Lib.hid ha
  clear ha
  go_enter Try.func4, Try.ntmps4
  go_wp2_with fail
  refine (csameI _ _ _ (in_nat a HA.out) _).mono ?_
  rintro e w1 ⟨rfl, b1⟩
  go_wp2_with fail
  refine (csameI _ _ _ (in_bits _ _ _) _).mono ?_
  rintro e w2 ⟨rfl, b2⟩
  go_wp2_with fail
  refine (csameI _ _ _ (in_bits _ _ _) _).mono ?_
  rintro e w3 ⟨rfl, b3⟩
  go_wp2_with fail
  refine (csameI _ _ _ (by first | exact in_mod _ | exact in_bits _ _ _) _).mono ?_
  rintro e w4 ⟨rfl, b4⟩
  go_wp2_with fail
  refine (cknown _).mono ?_
  rintro e w5 ⟨rfl, b5⟩
  go_wp2_with fail
  go_ret
  exact ⟨rfl, below_next (below_next (below_next (below_next b1 b2) b3) b4) b5⟩
end Go.Proofs.Ytnecpenihjlpnaa.Al
