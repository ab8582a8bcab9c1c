/- The laws AluNumbers, AluDivides and AluPairs, walked. -/
import Derived.Test.YtmffkkanecpchaaLw
set_option linter.unusedVariables false
set_option linter.unusedSimpArgs false
namespace Go.Proofs.Ytmffkkanecpchaa.Alu
open Go.RowKit Go.Proofs.Ytmffkkanecpchaa.Bv
theorem cTq (op : Int) (a b : Nat) (ha : a < 4294967296) (hb : b < 4294967296) (w : World) : Calls Try.prog 11 #[.int .i64 op, .int .u32 a, .int .u32 b] w fun e w' => e = .returned (.bool (takenB op a b)) ∧ w' = w :=
  (cTaken op a b ha hb w).mono fun _ _ ⟨h1, h2⟩ => ⟨h1, h2.symm⟩
theorem opp_5 (a b : Nat) : (takenB 5 a b == takenB 6 a b) = false := by rw [taken_5, taken_6]; cases h : ((a : Int) == b) <;> simp_all
theorem opp_7 (a b : Nat) : (takenB 7 a b == takenB 8 a b) = false := by
  rw [taken_7, taken_8]
  generalize wrap32 (a : Int) = x
  generalize wrap32 (b : Int) = y
  by_cases h : x < y
  · rw [decide_eq_true h, decide_eq_false (by omega)]; rfl
  · rw [decide_eq_false h, decide_eq_true (by omega)]; rfl
theorem opp_9 (a b : Nat) : (takenB 9 a b == takenB 10 a b) = false := by
  rw [taken_9, taken_10]
  by_cases h : (a : Int) < b
  · rw [decide_eq_true h, decide_eq_false (by omega)]; rfl
  · rw [decide_eq_false h, decide_eq_true (by omega)]; rfl
structure Tab (b : Nat) (W : World) : Prop where
  lt : b < W.heap.size
  c0 : W.cell? ⟨b, 0, none⟩ = some (.int .i64 5)
  c1 : W.cell? ⟨b, 1, none⟩ = some (.int .i64 6)
  c2 : W.cell? ⟨b, 2, none⟩ = some (.int .i64 7)
  c3 : W.cell? ⟨b, 3, none⟩ = some (.int .i64 8)
  c4 : W.cell? ⟨b, 4, none⟩ = some (.int .i64 9)
  c5 : W.cell? ⟨b, 5, none⟩ = some (.int .i64 10)
theorem Tab.next {b : Nat} {W W' : World} (h : Tab b W) (k : Below W.heap.size W W') : Tab b W' :=
  ⟨Nat.lt_of_lt_of_le h.lt k.size, (k.cell (p := ⟨b, 0, none⟩) h.lt).trans h.c0, (k.cell (p := ⟨b, 1, none⟩) h.lt).trans h.c1, (k.cell (p := ⟨b, 2, none⟩) h.lt).trans h.c2, (k.cell (p := ⟨b, 3, none⟩) h.lt).trans h.c3, (k.cell (p := ⟨b, 4, none⟩) h.lt).trans h.c4, (k.cell (p := ⟨b, 5, none⟩) h.lt).trans h.c5⟩
theorem below_next {B w1 w2 : World} (h : Below B.heap.size B w1) (k : Below w1.heap.size w1 w2) : Below B.heap.size B w2 :=
  h.trans ⟨k.os, k.tape, k.output, k.size, fun i hi => k.block i (Nat.lt_of_lt_of_le hi h.size)⟩
theorem drewN_below {B : Nat} {w W : World} (h : Below B w W) (n : Nat) : Below B w (W.drewN n) := ⟨h.os, h.tape, h.output, h.size, h.block⟩
theorem modlt (n : Nat) : n % 4294967296 < 4294967296 := Nat.mod_lt _ (by decide)
theorem xor_lt (a b : Nat) (ha : a < 4294967296) (hb : b < 4294967296) : a ^^^ b < 4294967296 := Nat.xor_lt_two_pow (n := 32) ha hb
theorem sm (s : Nat) (h : s < 32) : (((s : Nat) : Int) % 32).toNat = s := by omega
theorem p_30 (a s : Nat) (h : s < 32) : doI 30 a s = (a : Int) * 2 ^ s % 4294967296 := by rw [doI_30, sm s h]
theorem p_28 (a b : Nat) : doI 28 a b = ((a : Int) + b) % 4294967296 := doI_28 a b
theorem p_29 (a b : Nat) (ha : a < 4294967296) (hb : b < 4294967296) : doI 29 ((a + b) % 4294967296 : Nat) b = (a : Int) := by rw [doI_29]; omega
theorem p_34 (a s : Nat) (h : s < 32) : doI 34 (a * 2 ^ s % 4294967296 : Nat) s = (a : Int) * 2 ^ s % 4294967296 / 2 ^ s := by rw [doI_34, sm s h]; simp
theorem p_33 (a b : Nat) (ha : a < 4294967296) (hb : b < 4294967296) : doI 33 a b = ((a ^^^ b : Nat) : Int) := by rw [doI_33, nxor32 a b ha hb]
theorem p_33b (a b : Nat) (ha : a < 4294967296) (hb : b < 4294967296) : doI 33 (a ^^^ b : Nat) b = (a : Int) := by rw [doI_33, nxor32 _ b (xor_lt a b ha hb) hb, Nat.xor_assoc, Nat.xor_self, Nat.xor_zero]
theorem p_31 (a b : Nat) : doI 31 a b = bitI (takenB 7 a b) := by rw [doI_31, taken_7]
theorem p_32 (a b : Nat) : doI 32 a b = bitI (takenB 9 a b) := by rw [doI_32, taken_9]
theorem three {j : Nat} (h : j < 3) : j = 0 ∨ j = 1 ∨ j = 2 := by omega
set_option maxHeartbeats 1000000 in
theorem pairs_calls (a b : Nat) (ha : a < 4294967296) (hb : b < 4294967296) (w : World) : Calls Try.prog 6 #[.int .u32 a, .int .u32 b] w fun e w' => e = .returned (.bool true) ∧ Below w.heap.size w w' := by
  have o5 := opp_5 a b
  have o7 := opp_7 a b
  have o9 := opp_9 a b
  have HA := Lib.hid ha
  have HB := Lib.hid hb
  clear ha hb
  go_enter Try.func6, Try.ntmps6
  go_wp2_with fail
  have hT : Tab w.heap.size (w.alloc (.cells #[.int .i64 5, .int .i64 6, .int .i64 7, .int .i64 8, .int .i64 9, .int .i64 10] 30)) := ⟨by simp, by simp, by simp, by simp, by simp, by simp, by simp⟩
  have hb0 : Below w.heap.size w (w.alloc (.cells #[.int .i64 5, .int .i64 6, .int .i64 7, .int .i64 8, .int .i64 9, .int .i64 10] 30)) := (Below.refl _ _).alloc (Nat.le_refl _) _
  generalize w.alloc _ = W0 at hT hb0 ⊢
  generalize hB : w.heap.size = B at hT ⊢
  have HW := Lib.hid hB
  clear hB
  go_loopw [14] (fun v wr => ∃ j : Nat, j ≤ 3 ∧ v = .int .i64 j ∧ Tab B wr ∧ Below w.heap.size w wr) (fun v _ => 3 - (intOf v).toNat)
  case atStart => exact ⟨0, by omega, rfl, hT, hb0⟩
  case round =>
    clear hT hb0
    obtain ⟨j, hj, rfl, hT, hb0⟩ := hrel
    by_cases hlt : j < 3
    · have c0 := hT.c0; have c1 := hT.c1; have c2 := hT.c2; have c3 := hT.c3; have c4 := hT.c4; have c5 := hT.c5
      have HT := Lib.hid hT
      have HB0 := Lib.hid hb0
      clear hT hb0
      rcases three hlt with rfl | rfl | rfl
      · go_wp2_with fail
        go_quiet ((go_at_call 11; exact Calls.quiet_of_same (cTq _ _ _ HA.out HB.out _)))
        go_wp2_with fail
        go_roundw
        case rel => exact ⟨1, by omega, rfl, HT.out.next (drewN_below ((Below.refl _ _).alloc (Nat.le_refl _) _) _), below_next HB0.out (drewN_below ((Below.refl _ _).alloc (Nat.le_refl _) _) _)⟩
        case measure => simp [intOf]
      · go_wp2_with fail
        go_quiet ((go_at_call 11; exact Calls.quiet_of_same (cTq _ _ _ HA.out HB.out _)))
        go_wp2_with fail
        go_roundw
        case rel => exact ⟨2, by omega, rfl, HT.out.next (drewN_below ((Below.refl _ _).alloc (Nat.le_refl _) _) _), below_next HB0.out (drewN_below ((Below.refl _ _).alloc (Nat.le_refl _) _) _)⟩
        case measure => simp [intOf]
      · go_wp2_with fail
        go_quiet ((go_at_call 11; exact Calls.quiet_of_same (cTq _ _ _ HA.out HB.out _)))
        go_wp2_with fail
        go_roundw
        case rel => exact ⟨3, by omega, rfl, HT.out.next (drewN_below ((Below.refl _ _).alloc (Nat.le_refl _) _) _), below_next HB0.out (drewN_below ((Below.refl _ _).alloc (Nat.le_refl _) _) _)⟩
        case measure => simp [intOf]
    · have HT := Lib.hid hT
      have HB0 := Lib.hid hb0
      clear hT hb0
      obtain ⟨s, hs, hs32, es⟩ := low5 b HB.out
      have HS := Lib.hid hs
      clear hs
      have hsi : (s : Int) ≤ 32 := by omega
      have g7 : (bitI (takenB 7 a b) == 1) = takenB 7 a b := by cases takenB 7 a b <;> rfl
      have g9 : (bitI (takenB 9 a b) == 1) = takenB 9 a b := by cases takenB 9 a b <;> rfl
      go_wp2_with fail
      refine (cDoE _ _ _ a s _ (p_30 a s hs32) rfl rfl HA.out (by omega) _).mono ?_
      rintro e w' ⟨rfl, rfl⟩
      go_wp2_with fail
      refine (cDoE _ _ _ a b _ (p_28 a b) rfl rfl HA.out HB.out _).mono ?_
      rintro e w' ⟨rfl, rfl⟩
      go_wp2_with fail
      refine (cDoE _ _ _ ((a + b) % 4294967296) b _ (p_29 a b HA.out HB.out) (by first | rfl | omega) rfl (modlt _) HB.out _).mono ?_
      rintro e w' ⟨rfl, rfl⟩
      go_wp2_with fail
      refine (cDoE _ _ _ (a * 2 ^ s % 4294967296) s _ (p_34 a s hs32) (by first | rfl | simp) rfl (modlt _) (by omega) _).mono ?_
      rintro e w' ⟨rfl, rfl⟩
      go_wp2_with fail
      refine (cDoE _ _ _ a b _ (p_33 a b HA.out HB.out) rfl rfl HA.out HB.out _).mono ?_
      rintro e w' ⟨rfl, rfl⟩
      go_wp2_with fail
      refine (cDoE _ _ _ (a ^^^ b) b _ (p_33b a b HA.out HB.out) rfl rfl (xor_lt a b HA.out HB.out) HB.out _).mono ?_
      rintro e w' ⟨rfl, rfl⟩
      go_wp2_with fail
      refine (cDoE _ _ _ a b _ (p_31 a b) rfl rfl HA.out HB.out _).mono ?_
      rintro e w' ⟨rfl, rfl⟩
      go_wp2_with fail
      refine (cTakenE _ _ _ a b _ rfl rfl rfl HA.out HB.out _).mono ?_
      rintro e w' ⟨rfl, rfl⟩
      go_wp2_with fail
      refine (cDoE _ _ _ a b _ (p_32 a b) rfl rfl HA.out HB.out _).mono ?_
      rintro e w' ⟨rfl, rfl⟩
      go_wp2_with fail
      refine (cTakenE _ _ _ a b _ rfl rfl rfl HA.out HB.out _).mono ?_
      rintro e w' ⟨rfl, rfl⟩
      go_wp2_with fail
      refine (cknown _).mono ?_
      rintro e w' ⟨rfl, rfl⟩
      go_wp2_with fail
      go_ret
      exact ⟨rfl, HB0.out⟩
set_option maxHeartbeats 1000000 in
theorem numbers_walk (w : World) : Calls Try.prog 3 #[] w fun e w' => e = .returned (.bool true) ∧ Below w.heap.size w w' := by
  go_enter Try.func3, Try.ntmps3
  go_wp2_with fail
  have hc : ∀ j, j < 15 → ∃ x : Nat, x < 4294967296 ∧ (w.alloc (.cells #[.int .u32 0, .int .u32 1, .int .u32 2, .int .u32 3, .int .u32 31, .int .u32 32, .int .u32 33, .int .u32 2147483647, .int .u32 2147483648, .int .u32 2147483649, .int .u32 4294967294, .int .u32 4294967295, .int .u32 65536, .int .u32 65535, .int .u32 3735928559] 22)).cell? ⟨w.heap.size, j, none⟩ = some (.int .u32 x) := by
    intro j hj
    rcases (show j = 0 ∨ j = 1 ∨ j = 2 ∨ j = 3 ∨ j = 4 ∨ j = 5 ∨ j = 6 ∨ j = 7 ∨ j = 8 ∨ j = 9 ∨ j = 10 ∨ j = 11 ∨ j = 12 ∨ j = 13 ∨ j = 14 by omega) with rfl | rfl | rfl | rfl | rfl | rfl | rfl | rfl | rfl | rfl | rfl | rfl | rfl | rfl | rfl
    · exact ⟨0, by decide, by simp⟩
    · exact ⟨1, by decide, by simp⟩
    · exact ⟨2, by decide, by simp⟩
    · exact ⟨3, by decide, by simp⟩
    · exact ⟨31, by decide, by simp⟩
    · exact ⟨32, by decide, by simp⟩
    · exact ⟨33, by decide, by simp⟩
    · exact ⟨2147483647, by decide, by simp⟩
    · exact ⟨2147483648, by decide, by simp⟩
    · exact ⟨2147483649, by decide, by simp⟩
    · exact ⟨4294967294, by decide, by simp⟩
    · exact ⟨4294967295, by decide, by simp⟩
    · exact ⟨65536, by decide, by simp⟩
    · exact ⟨65535, by decide, by simp⟩
    · exact ⟨3735928559, by decide, by simp⟩
  have hb0 : Below w.heap.size w (w.alloc (.cells #[.int .u32 0, .int .u32 1, .int .u32 2, .int .u32 3, .int .u32 31, .int .u32 32, .int .u32 33, .int .u32 2147483647, .int .u32 2147483648, .int .u32 2147483649, .int .u32 4294967294, .int .u32 4294967295, .int .u32 65536, .int .u32 65535, .int .u32 3735928559] 22)) := (Below.refl _ _).alloc (Nat.le_refl _) _
  generalize w.alloc _ = W0 at hc hb0 ⊢
  generalize hB : w.heap.size = B at hc ⊢
  have HW := Lib.hid hB
  clear hB
  have HC := Lib.hid hc
  clear hc
  go_loopw [2] (fun v wr => ∃ op : Int, -1 ≤ op ∧ op ≤ 60 ∧ v = .int .i64 op ∧ W0 = wr) (fun v _ => (60 - intOf v).toNat)
  case atStart => exact ⟨-1, by omega, by omega, rfl, rfl⟩
  case round =>
    obtain ⟨op, h1, h2, rfl, rfl⟩ := hrel
    by_cases hlt : op < 60
    · go_wp2_with fail
      go_loopw [14] (fun v w2 => ∃ i : Nat, i ≤ 15 ∧ v = .int .i64 i ∧ W0 = w2) (fun v _ => 15 - (intOf v).toNat)
      case atStart => exact ⟨0, by omega, rfl, rfl⟩
      case round =>
        obtain ⟨i, hi, rfl, rfl⟩ := hrel
        by_cases hli : i < 15
        · obtain ⟨x, hx, hcx⟩ := HC.out i hli
          have HX := Lib.hid hx
          clear hx
          have hli' : (i : Int) < 15 := by omega
          go_wp2_with fail
          go_loopw [20] (fun v w2 => ∃ k : Nat, k ≤ 15 ∧ v = .int .i64 k ∧ W0 = w2) (fun v _ => 15 - (intOf v).toNat)
          case atStart => exact ⟨0, by omega, rfl, rfl⟩
          case round =>
            obtain ⟨k, hk, rfl, rfl⟩ := hrel
            by_cases hlk : k < 15
            · obtain ⟨y, hy, hcy⟩ := HC.out k hlk
              have HY := Lib.hid hy
              clear hy
              have hlk' : (k : Int) < 15 := by omega
              go_wp2_with fail
              refine (csameI _ _ _ (in_nat x HX.out) (in_nat y HY.out) _).mono ?_
              rintro e w' ⟨rfl, rfl⟩
              go_wp2_with fail
              go_roundw
              case rel => exact ⟨k + 1, by omega, by go_num, trivial⟩
              case measure => simp [intOf]; omega
            · go_wp2_with fail
              go_roundw
              case rel => exact ⟨i + 1, by omega, by go_num, trivial⟩
              case measure => simp [intOf]; omega
        · go_wp2_with fail
          go_roundw
          case rel => exact ⟨op + 1, by omega, by omega, rfl, trivial⟩
          case measure => simp [intOf]; omega
    · go_wp2_with fail
      refine (cknown _).mono ?_
      rintro e w' ⟨rfl, rfl⟩
      go_wp2_with fail
      go_ret
      exact ⟨rfl, by rw [← HW.out] at *; exact hb0⟩
theorem pairs_walk (a1 a2 : Int) (w : World) (w1 : (Lit.int .u32 a1).wf = true) (w2 : (Lit.int .u32 a2).wf = true) : Calls Try.prog 6 #[.int .u32 a1, .int .u32 a2] w fun e w' => e = .returned (.bool true) ∧ Below w.heap.size w w' := by
  obtain ⟨a, rfl, ha⟩ := wf_u32 w1
  obtain ⟨b, rfl, hb⟩ := wf_u32 w2
  exact pairs_calls a b ha hb w
end Go.Proofs.Ytmffkkanecpchaa.Alu
