/- The laws AlignTells and AlignNumbers, walked by the contract of 'same'. -/
import Derived.Test.YteabaipppalpjaaLw
import Derived.Below
set_option linter.unusedVariables false
set_option linter.unusedSimpArgs false
namespace Go.Proofs.Yteabaipppalpjaa.Al
open Go.RowKit Go.Proofs.Yteabaipppalpjaa.Bv
theorem csameV (op A X Y m : Int) (a x y : Nat) (ea : A = a) (ex : X = x) (ey : Y = y) (ha : a < 4294967296) (hx : x < 4294967296) (hy : y < 4294967296) (w : World) : Calls Try.prog 7 #[.int .i64 op, .int .u32 A, .int .u32 X, .int .u32 Y, .int .i64 m] w fun e w' => e = .returned (.bool true) ∧ w = w' := by
  subst ea; subst ex; subst ey; exact csame op a x y m ha hx hy w
def In32 (x : Int) : Prop := 0 ≤ x ∧ x < 4294967296
theorem csameI (op A X Y m : Int) (ha : In32 A) (hx : In32 X) (hy : In32 Y) (w : World) : Calls Try.prog 7 #[.int .i64 op, .int .u32 A, .int .u32 X, .int .u32 Y, .int .i64 m] w fun e w' => e = .returned (.bool true) ∧ w = w' := by
  obtain ⟨a, rfl⟩ := Int.eq_ofNat_of_zero_le ha.1
  obtain ⟨x, rfl⟩ := Int.eq_ofNat_of_zero_le hx.1
  obtain ⟨y, rfl⟩ := Int.eq_ofNat_of_zero_le hy.1
  exact csame op a x y m (by have := ha.2; omega) (by have := hx.2; omega) (by have := hy.2; omega) w
theorem in_mod (x : Int) : In32 (x % 4294967296) := ⟨Int.emod_nonneg _ (by decide), Int.emod_lt_of_pos _ (by decide)⟩
theorem in_bits (o : BinOp) (x y : Int) : In32 (Go.bits o .u32 x y) := range32 o x y
theorem in_nat (x : Nat) (h : x < 4294967296) : In32 (x : Int) := ⟨by omega, by omega⟩
theorem in_div (x : Nat) (h : x < 4294967296) : In32 ((x : Int) / 32) := ⟨by omega, by omega⟩
set_option maxHeartbeats 1000000 in
theorem tells_calls (op : Int) (a x y : Nat) (m : Int) (ha : a < 4294967296) (hx : x < 4294967296) (hy : y < 4294967296) (w : World) : Calls Try.prog 4 #[.int .i64 op, .int .u32 a, .int .u32 x, .int .u32 y, .int .i64 m] w fun e w' => e = .returned (.bool true) ∧ w = w' := by
  have HA := Lib.hid ha
  have HX := Lib.hid hx
  have HY := Lib.hid hy
  have HL := Lib.hid (addr_low a ha)
  clear ha hx hy
  go_enter Try.func4, Try.ntmps4
  go_wp2_with fail
  refine (csameV _ _ _ _ _ a x y rfl rfl rfl HA.out HX.out HY.out _).mono ?_
  rintro e w' ⟨rfl, rfl⟩
  go_wp2_with fail
  refine (csameV _ _ _ _ _ a x y rfl rfl rfl HA.out HX.out HY.out _).mono ?_
  rintro e w' ⟨rfl, rfl⟩
  go_wp2_with fail
  refine (csameV _ _ _ _ _ (a % 4) x y HL.out rfl rfl (Nat.lt_of_le_of_lt (Nat.mod_le _ _) HA.out) HX.out HY.out _).mono ?_
  rintro e w' ⟨rfl, rfl⟩
  go_wp2_with fail
  refine (cknown _).mono ?_
  rintro e w' ⟨rfl, rfl⟩
  go_wp2_with fail
  go_ret
  exact ⟨rfl, rfl⟩
theorem tells_walk (a0 a1 a2 a3 a4 : Int) (w : World) (_ : (Lit.int .i64 a0).wf = true) (w1 : (Lit.int .u32 a1).wf = true) (w2 : (Lit.int .u32 a2).wf = true) (w3 : (Lit.int .u32 a3).wf = true) (_ : (Lit.int .i64 a4).wf = true) :
    Calls Try.prog 4 #[.int .i64 a0, .int .u32 a1, .int .u32 a2, .int .u32 a3, .int .i64 a4] w fun e w' => e = .returned (.bool true) ∧ Below w.heap.size w w' := by
  obtain ⟨a, rfl, ha⟩ := wf_u32 w1
  obtain ⟨x, rfl, hx⟩ := wf_u32 w2
  obtain ⟨y, rfl, hy⟩ := wf_u32 w3
  refine (tells_calls a0 a x y a4 ha hx hy w).mono ?_
  rintro e w' ⟨he, rfl⟩
  exact ⟨he, Below.refl _ _⟩
set_option maxHeartbeats 1000000 in
theorem numbers_walk (w : World) : Calls Try.prog 3 #[] w fun e w' => e = .returned (.bool true) ∧ Below w.heap.size w w' := by
  go_enter Try.func3, Try.ntmps3
  go_wp2_with fail
  go_loopw [1] (fun v wr => ∃ op : Int, -1 ≤ op ∧ op ≤ 60 ∧ v = .int .i64 op ∧ Below w.heap.size w wr) (fun v _ => (60 - intOf v).toNat)
  case atStart => exact ⟨-1, by omega, by omega, rfl, Below.refl _ _⟩
  case round =>
    obtain ⟨op, h1, h2, rfl, hb⟩ := hrel
    by_cases hlt : op < 60
    · go_wp2_with fail
      go_loopw [2] (fun v wr => ∃ a : Nat, a ≤ 9 ∧ v = .int .u32 a ∧ Below w.heap.size w wr) (fun v _ => 9 - (intOf v).toNat)
      case atStart => exact ⟨0, by omega, rfl, hb⟩
      case round =>
        clear hb
        obtain ⟨a, ha, rfl, hb⟩ := hrel
        by_cases hla : a < 9
        · have hla' : (a : Int) < 9 := by omega
          go_wp2_with fail
          have hc : ∀ j, j < 6 → ∃ x : Nat, x < 4294967296 ∧ (wr.alloc (.cells #[.int .u32 0, .int .u32 4294967295, .int .u32 128, .int .u32 32768, .int .u32 305419896, .int .u32 2309737967] 22)).cell? ⟨wr.heap.size, j, none⟩ = some (.int .u32 x) := by
            intro j hj
            match j, hj with
            | 0, _ => exact ⟨0, by decide, by simp⟩
            | 1, _ => exact ⟨4294967295, by decide, by simp⟩
            | 2, _ => exact ⟨128, by decide, by simp⟩
            | 3, _ => exact ⟨32768, by decide, by simp⟩
            | 4, _ => exact ⟨305419896, by decide, by simp⟩
            | 5, _ => exact ⟨2309737967, by decide, by simp⟩
          have hb0 : Below w.heap.size w (wr.alloc (.cells #[.int .u32 0, .int .u32 4294967295, .int .u32 128, .int .u32 32768, .int .u32 305419896, .int .u32 2309737967] 22)) := hb.alloc hb.size _
          generalize wr.alloc _ = W0 at hc hb0 ⊢
          go_loopw [15] (fun v w2 => ∃ j : Nat, j ≤ 6 ∧ v = .int .i64 j ∧ W0 = w2) (fun v _ => 6 - (intOf v).toNat)
          case atStart => exact ⟨0, by omega, rfl, rfl⟩
          case round =>
            obtain ⟨j, hj, rfl, rfl⟩ := hrel
            by_cases hlj : j < 6
            · obtain ⟨x, hx, hcx⟩ := hc j hlj
              have HC := Lib.hid hc
              have HX := Lib.hid hx
              clear hc hx
              have hlj' : (j : Int) < 6 := by omega
              go_wp2_with fail
              refine (csameI _ _ _ _ _ ?c1 ?c2 ?c3 _).mono ?_
              case c1 => exact in_nat a (by omega)
              case c2 => exact in_nat x HX.out
              case c3 => first | exact in_mod _ | exact in_bits _ _ _
              rintro e w' ⟨rfl, rfl⟩
              go_wp2_with fail
              refine (csameI _ _ _ _ _ ?d1 ?d2 ?d3 _).mono ?_
              case d1 => first | exact in_mod _ | exact in_bits _ _ _
              case d2 => exact in_nat x HX.out
              case d3 => exact in_div x HX.out
              rintro e w' ⟨rfl, rfl⟩
              go_wp2_with fail
              go_roundw
              case rel => exact ⟨j + 1, by omega, by go_num, trivial⟩
              case measure => simp [intOf]; omega
            · go_wp2_with fail
              go_roundw
              case rel => exact ⟨a + 1, by omega, by go_num, hb0⟩
              case measure => simp [intOf]; omega
        · go_wp2_with fail
          go_roundw
          case rel => exact ⟨op + 1, by omega, by omega, rfl, hb⟩
          case measure => simp [intOf]; omega
    · go_wp2_with fail
      refine (csameI _ _ _ _ _ ⟨by decide, by decide⟩ ⟨by decide, by decide⟩ ⟨by decide, by decide⟩ _).mono ?_
      rintro e w' ⟨rfl, rfl⟩
      go_wp2_with fail
      refine (cknown _).mono ?_
      rintro e w' ⟨rfl, rfl⟩
      go_wp2_with fail
      go_ret
      exact ⟨rfl, hb⟩
end Go.Proofs.Yteabaipppalpjaa.Al
