/- The contracts of the reference's Store, of 'same' and of 'known'. -/
import Derived.Test.YteabaipppalpjaaLs
set_option linter.unusedVariables false
set_option linter.unusedSimpArgs false
namespace Go.Proofs.Yteabaipppalpjaa.Al
open Go.RowKit Go.Proofs.Yteabaipppalpjaa.Bv
theorem lt_store (op : Int) (a : Nat) (hf : fitsB op a = true) : decide (op < 16) = !storeB op := by
  rw [← ge_store op a hf]
  by_cases h : op < 16
  · rw [decide_eq_true h, decide_eq_false (by omega)]; rfl
  · rw [decide_eq_false h, decide_eq_true (by omega)]; rfl
theorem and255 (n : Nat) (hn : n < 4294967296) : Go.bits .and .u32 (n : Int) 255 = ((n % 256 : Nat) : Int) := by
  rw [and_mask32 8 (by decide) (n : Int) (by omega) (by omega) 255 (by decide)]; omega
theorem and65535 (n : Nat) (hn : n < 4294967296) : Go.bits .and .u32 (n : Int) 65535 = ((n % 65536 : Nat) : Int) := by
  rw [and_mask32 16 (by decide) (n : Int) (by omega) (by omega) 65535 (by decide)]; omega
set_option maxHeartbeats 1000000 in
theorem cStoreR (op : Int) (a n : Nat) (ha : a < 4294967296) (hn : n < 4294967296) (w : World) : Calls Try.prog 14 #[.int .i64 op, .int .u32 a, .int .u32 n] w fun e w' => e = .returned (.tuple #[.int .u32 (stD op a n), .int .i64 (stM op a)]) ∧ w = w' := by
  cases hf : fitsB op a
  · have HA := Lib.hid ha
    have HF := Lib.hid hf
    clear ha hf
    go_enter Try.func14, Try.ntmps14
    go_wp2_with (go_at_call 17; refine (cFitsRV op a _ HA.out HF.out _).mono ?_; rintro e w' ⟨rfl, rfl⟩)
    go_ret2
    exact ⟨ret2 (by rw [(st_no op a n (Or.inl HF.out)).2]; rfl) (by rw [(st_no op a n (Or.inl HF.out)).1]), rfl⟩
  · cases hs : storeB op
    · have hlt : op < 16 := by have := lt_store op a hf; rw [hs] at this; simpa using this
      have HA := Lib.hid ha
      have HF := Lib.hid hf
      have HS := Lib.hid hs
      clear ha hf hs
      go_enter Try.func14, Try.ntmps14
      go_wp2_with (go_at_call 17; refine (cFitsRV op a _ HA.out HF.out _).mono ?_; rintro e w' ⟨rfl, rfl⟩)
      go_ret2
      exact ⟨ret2 (by rw [(st_no op a n (Or.inr HS.out)).2]; rfl) (by rw [(st_no op a n (Or.inr HS.out)).1]), rfl⟩
    · have hl := addr_low a ha
      have hc := store_cases op a hf hs
      have hcases : ∃ z r : Nat, sizeOf op = z ∧ a % 4 = r ∧ ((z = 1 ∧ r = 0) ∨ (z = 1 ∧ r = 1) ∨ (z = 1 ∧ r = 2) ∨ (z = 1 ∧ r = 3) ∨ (z = 2 ∧ r = 0) ∨ (z = 2 ∧ r = 2) ∨ (z = 4 ∧ r = 0)) := by
        rcases hc with ⟨_, h⟩ | ⟨_, h, h2⟩ | ⟨_, h, h2⟩
        · exact ⟨1, a % 4, h, rfl, by omega⟩
        · exact ⟨2, a % 4, h, rfl, by omega⟩
        · exact ⟨4, a % 4, h, rfl, by omega⟩
      have hge : ¬ op < 16 := by have := lt_store op a hf; rw [hs] at this; simpa using this
      have e1 := and255 n hn
      have e2 := and65535 n hn
      obtain ⟨z, r, hz, hr, hzr⟩ := hcases
      rw [hr] at hl
      rcases hzr with ⟨rfl, rfl⟩ | ⟨rfl, rfl⟩ | ⟨rfl, rfl⟩ | ⟨rfl, rfl⟩ | ⟨rfl, rfl⟩ | ⟨rfl, rfl⟩ | ⟨rfl, rfl⟩
      all_goals
        obtain ⟨y1, y2⟩ := st_yes op a n _ _ hf hs hz hr
        have Y1 := Lib.hid y1
        have Y2 := Lib.hid y2
        have HA := Lib.hid ha
        have HF := Lib.hid hf
        have HS := Lib.hid hs
        have HZ := Lib.hid hz
        clear ha hf hs y1 y2 hc hz hr
        simp only [Int.cast_ofNat_Int] at hl
        go_enter Try.func14, Try.ntmps14
        go_wp2_with (first | (go_at_call 17; refine (cFitsRV op a _ HA.out HF.out _).mono ?_; rintro e w' ⟨rfl, rfl⟩) | (go_at_call 18; refine (cSizeRV op _ HZ.out _).mono ?_; rintro e w' ⟨rfl, rfl⟩))
        go_ret2
        refine ⟨ret2 ?_ (by rw [Y1.out]; rfl), rfl⟩
        rw [Y2.out]
        simp only [Nat.pow_zero, Nat.mul_one, Nat.pow_one, Nat.reducePow]
        omega
end Go.Proofs.Yteabaipppalpjaa.Al
