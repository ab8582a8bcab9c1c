/- The laws of layer 9, walked: 'same' and 'known' return true; AlignTells. -/
import Derived.Test.YteabaipppalpjaaSr
set_option linter.unusedVariables false
set_option linter.unusedSimpArgs false
namespace Go.Proofs.Yteabaipppalpjaa.Al
open Go.RowKit Go.Proofs.Yteabaipppalpjaa.Bv
theorem cMergeRV (a b : Int) (o d : Nat) (m : Int) (ea : a = o) (eb : b = d) (ho : o < 4294967296) (hd : d < 4294967296) (w : World) : Calls Try.prog 16 #[.int .u32 a, .int .u32 b, .int .i64 m] w fun e w' => e = .returned (.int .u32 (merge o d m)) ∧ w = w' := by subst ea; subst eb; exact cMergeR o d m ho hd w
set_option maxHeartbeats 1000000 in
theorem csame (op : Int) (a x y : Nat) (m : Int) (ha : a < 4294967296) (hx : x < 4294967296) (hy : y < 4294967296) (w : World) : Calls Try.prog 7 #[.int .i64 op, .int .u32 a, .int .u32 x, .int .u32 y, .int .i64 m] w fun e w' => e = .returned (.bool true) ∧ w = w' := by
  have HA := Lib.hid ha
  have HX := Lib.hid hx
  have HY := Lib.hid hy
  clear ha hx hy
  go_enter Try.func7, Try.ntmps7
  go_wp2_with (first
    | (go_at_call 9; refine (cStore op a x HA.out HX.out _).mono ?_; rintro e w' ⟨rfl, rfl⟩)
    | (go_at_call 14; refine (cStoreR op a x HA.out HX.out _).mono ?_; rintro e w' ⟨rfl, rfl⟩)
    | (go_at_call 13; refine (cLoad op a x HA.out HX.out _).mono ?_; rintro e w' ⟨rfl, rfl⟩)
    | (go_at_call 15; refine (cLoadR op a x HA.out HX.out _).mono ?_; rintro e w' ⟨rfl, rfl⟩)
    | (go_at_call 11; refine (cMerge x y m HX.out HY.out _).mono ?_; rintro e w' ⟨rfl, rfl⟩)
    | (go_at_call 16; refine (cMergeR x y m HX.out HY.out _).mono ?_; rintro e w' ⟨rfl, rfl⟩)
    | (go_at_call 10; refine (cFits op a HA.out _).mono ?_; rintro e w' ⟨rfl, rfl⟩)
    | (go_at_call 17; refine (cFitsR op a HA.out _).mono ?_; rintro e w' ⟨rfl, rfl⟩)
    | (go_at_call 12; refine (cSize op _).mono ?_; rintro e w' ⟨rfl, rfl⟩)
    | (go_at_call 18; refine (cSizeR op _).mono ?_; rintro e w' ⟨rfl, rfl⟩))
  go_ret
  exact ⟨rfl, rfl⟩
theorem k1 (w : World) : Calls Try.prog 9 #[.int .i64 16, .int .u32 3, .int .u32 511] w fun e w' => e = .returned (.tuple #[.int .u32 4278190080, .int .i64 8]) ∧ w = w' := by
  have h := cStore 16 3 511 (by decide) (by decide) w
  rw [show stD 16 3 511 = 4278190080 from by decide, show stM 16 3 = 8 from by decide] at h
  exact h
theorem k2 (w : World) : Calls Try.prog 13 #[.int .i64 11, .int .u32 0, .int .u32 128] w fun e w' => e = .returned (.int .u32 4294967168) ∧ w = w' := by
  have h := cLoad 11 0 128 (by decide) (by decide) w
  rw [show loadV 11 0 128 = 4294967168 from by decide] at h
  exact h
theorem k3 (w : World) : Calls Try.prog 10 #[.int .i64 12, .int .u32 1] w fun e w' => e = .returned (.bool false) ∧ w = w' := by
  have h := cFits 12 1 (by decide) w
  rw [show fitsB 12 1 = false from by decide] at h
  exact h
theorem k4 (w : World) : Calls Try.prog 11 #[.int .u32 287454020, .int .u32 2864434397, .int .i64 5] w fun e w' => e = .returned (.int .u32 297481181) ∧ w = w' := by
  have h := cMerge 287454020 2864434397 5 (by decide) (by decide) w
  rw [show merge 287454020 2864434397 5 = 297481181 from by decide] at h
  exact h
theorem k5 (w : World) : Calls Try.prog 12 #[.int .i64 28] w fun e w' => e = .returned (.int .i64 0) ∧ w = w' := cSize 28 w
set_option maxHeartbeats 1000000 in
theorem cknown (w : World) : Calls Try.prog 8 #[] w fun e w' => e = .returned (.bool true) ∧ w = w' := by
  go_enter Try.func8, Try.ntmps8
  go_wp2_with (first
    | (go_at_call 9; refine (k1 _).mono ?_; rintro e w' ⟨rfl, rfl⟩)
    | (go_at_call 13; refine (k2 _).mono ?_; rintro e w' ⟨rfl, rfl⟩)
    | (go_at_call 10; refine (k3 _).mono ?_; rintro e w' ⟨rfl, rfl⟩)
    | (go_at_call 11; refine (k4 _).mono ?_; rintro e w' ⟨rfl, rfl⟩)
    | (go_at_call 12; refine (k5 _).mono ?_; rintro e w' ⟨rfl, rfl⟩))
  go_ret
  exact ⟨rfl, rfl⟩
end Go.Proofs.Yteabaipppalpjaa.Al
