/- The law FieldNumbers, walked: three loops, each round by the contract of 'same'. -/
import Derived.Test.YtgkaidjikakpkaaFldWalk

set_option linter.unusedVariables false
set_option linter.unusedSimpArgs false
namespace Go.Proofs.Ytgkaidjikakpkaa.FldNum
open Go.RowKit Go.Proofs.Ytgkaidjikakpkaa.PFieldTells Go.Proofs.YtgkaidjikakpkaaW.PrintWords Go.Proofs.YtgkaidjikakpkaaW.PrintLast Go.Proofs.YtgkaidjikakpkaaW.PrintMore Go.Proofs.Ytgkaidjikakpkaa.Bv Go.Proofs.Ytgkaidjikakpkaa.Fld Go.Proofs.Ytgkaidjikakpkaa.FldWalk
theorem csame (a b c : Int) (v : Nat) (h : a = v) (hv : v < 4294967296) (w : World) : Calls Try.prog 10 #[.int .u32 a, .int .i64 b, .int .i64 c] w fun e w' => e = .returned (.bool true) ∧ Drawn0 w w' := by subst h; exact dioscurilaw4_same.calls 34 v b c true w (Fld.same 34 (by decide) v hv b c)
set_option maxHeartbeats 1000000 in
theorem numbers_walk (w : World) :
    Calls Try.prog 4 #[] w fun e w' => e = .returned (.bool true) ∧ Below w.heap.size w w' := by
  go_enter Try.func4, Try.ntmps4
  go_wp2_with fail
  go_loopw [1] (fun v wr => ∃ k : Nat, k ≤ 32 ∧ v = .int .u64 k ∧ Below w.heap.size w wr) (fun v _ => 32 - (intOf v).toNat)
  case atStart => exact ⟨0, by omega, rfl, Below.refl _ _⟩
  case round =>
    obtain ⟨k, hk, rfl, hb⟩ := hrel
    by_cases hlt : k < 32
    · have hk64 : (k : Int) ≤ 64 := by omega
      go_wp2_with fail
      have hc : ∀ j, j < 4 → ∃ x : Nat, x < 4294967296 ∧ (wr.alloc (.cells #[.int .u32 (2 ^ k % 4294967296), .int .u32 (Go.bits .xor .u32 IntKind.u32.max (2 ^ k % 4294967296)), .int .u32 (3735928559 * 2 ^ k % 4294967296), .int .u32 ((2 ^ k - 1) % 4294967296)] 22)).cell? ⟨wr.heap.size, j, none⟩ = some (.int .u32 x) := by
        have hx : ∀ y : Int, 0 ≤ y → y < 4294967296 → ∃ x : Nat, x < 4294967296 ∧ y = x := fun y h0 h1 => ⟨y.toNat, by omega, by omega⟩
        obtain ⟨x0, l0, e0⟩ := hx (2 ^ k % 4294967296) (Int.emod_nonneg _ (by decide)) (Int.emod_lt_of_pos _ (by decide))
        obtain ⟨x1, l1, e1⟩ := hx (Go.bits .xor .u32 IntKind.u32.max (2 ^ k % 4294967296)) (range32 _ _ _).1 (range32 _ _ _).2
        obtain ⟨x2, l2, e2⟩ := hx (3735928559 * 2 ^ k % 4294967296) (Int.emod_nonneg _ (by decide)) (Int.emod_lt_of_pos _ (by decide))
        obtain ⟨x3, l3, e3⟩ := hx ((2 ^ k - 1) % 4294967296) (Int.emod_nonneg _ (by decide)) (Int.emod_lt_of_pos _ (by decide))
        rw [e1, e0, e2, e3]
        intro j hj
        match j, hj with
        | 0, _ => exact ⟨x0, l0, by simp⟩
        | 1, _ => exact ⟨x1, l1, by simp⟩
        | 2, _ => exact ⟨x2, l2, by simp⟩
        | 3, _ => exact ⟨x3, l3, by simp⟩
      have hb0 : Below w.heap.size w (wr.alloc (.cells #[.int .u32 (2 ^ k % 4294967296), .int .u32 (Go.bits .xor .u32 IntKind.u32.max (2 ^ k % 4294967296)), .int .u32 (3735928559 * 2 ^ k % 4294967296), .int .u32 ((2 ^ k - 1) % 4294967296)] 22)) := hb.alloc hb.size _
      generalize wr.alloc _ = W0 at hc hb0 ⊢
      go_loopw [21] (fun v w2 => ∃ j : Nat, j ≤ 4 ∧ v = .int .i64 j ∧ Drawn0 W0 w2) (fun v _ => 4 - (intOf v).toNat)
      case atStart => exact ⟨0, by omega, rfl, Drawn0.refl _⟩
      case round =>
        obtain ⟨j, hj, rfl, ⟨m, rfl⟩⟩ := hrel
        by_cases hlt : j < 4
        · obtain ⟨x, hx, hcx⟩ := hc j hlt
          have HC := Lib.hid hc
          have HX := Lib.hid hx
          clear hc hx
          have hlt' : (j : Int) < 4 := by omega
          go_wp2_with fail
          go_loopw [4] (fun v w2 => ∃ n : Int, -1 ≤ n ∧ n ≤ 35 ∧ v = .int .i64 n ∧ Drawn0 W0 w2) (fun v _ => (35 - intOf v).toNat)
          case atStart => exact ⟨-1, by omega, by omega, rfl, ⟨⟨_, rfl⟩⟩⟩
          case round =>
            obtain ⟨n, hn1, hn2, rfl, ⟨m2, rfl⟩⟩ := hrel
            by_cases hlt : n < 35
            · go_wp2_with fail
              refine (csame _ _ _ x rfl HX.out _).mono ?_
              rintro e w' ⟨rfl, ⟨nd, rfl⟩⟩
              go_wp2_with fail
              refine (csame _ _ _ x rfl HX.out _).mono ?_
              rintro e w' ⟨rfl, ⟨nd, rfl⟩⟩
              go_wp2_with fail
              go_roundw
              case rel => exact ⟨n + 1, by omega, by omega, rfl, ⟨⟨_, rfl⟩⟩⟩
              case measure => simp [intOf]; omega
            · go_wp2_with fail
              go_roundw
              case rel => exact ⟨j + 1, by omega, by go_num, ⟨⟨_, rfl⟩⟩⟩
              case measure => simp [intOf]; omega
        · go_wp2_with fail
          go_roundw
          case rel => exact ⟨k + 1, by omega, by go_num, pw_below_drewN hb0 _⟩
          case measure => simp [intOf]; omega
    · go_wp2_with fail
      refine (csame _ _ _ 7 rfl (by decide) _).mono ?_
      rintro e w' ⟨rfl, ⟨nd, rfl⟩⟩
      go_wp2_with fail
      refine (csame _ _ _ 7 rfl (by decide) _).mono ?_
      rintro e w' ⟨rfl, ⟨nd, rfl⟩⟩
      go_wp2_with fail
      refine (cknown _).mono ?_
      rintro e w' ⟨rfl, ⟨nd, rfl⟩⟩
      go_wp2_with fail
      go_ret
      exact ⟨rfl, pw_below_drewN hb _⟩

end Go.Proofs.Ytgkaidjikakpkaa.FldNum
