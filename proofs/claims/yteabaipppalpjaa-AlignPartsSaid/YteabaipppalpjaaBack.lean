/- The law AlignBack, walked by the contracts of package align's functions. -/
import Derived.Test.YteabaipppalpjaaParts
set_option linter.unusedVariables false
set_option linter.unusedSimpArgs false
namespace Go.Proofs.Yteabaipppalpjaa.Al
open Go.RowKit Go.Proofs.Yteabaipppalpjaa.Bv
theorem third (op : Int) : ∃ i : Nat, i < 3 ∧ Int.tmod (Int.tmod op 3 + 3) 3 = (i : Int) := by
  have h := Int.tmod_lt_of_pos op (show (0 : Int) < 3 by decide)
  have h2 : -3 < Int.tmod op 3 := by
    have := Int.lt_tmod_of_pos op (show (0 : Int) < 3 by decide); omega
  generalize Int.tmod op 3 = m at *
  rw [Int.tmod_eq_emod_of_nonneg (by omega)]
  exact ⟨((m + 3) % 3).toNat, by omega, by omega⟩
theorem cMergeE (a b : Int) (o d : Nat) (m : Int) (res : Nat) (h : merge o d m = res) (ea : a = o) (eb : b = d) (ho : o < 4294967296) (hd : d < 4294967296) (w : World) : Calls Try.prog 11 #[.int .u32 a, .int .u32 b, .int .i64 m] w fun e w' => e = .returned (.int .u32 res) ∧ w = w' := by subst h; exact cMergeV a b o d m ea eb ho hd w
theorem cLoadE (op : Int) (a x res : Nat) (h : loadV op a x = res) (ha : a < 4294967296) (hx : x < 4294967296) (w : World) : Calls Try.prog 13 #[.int .i64 op, .int .u32 a, .int .u32 x] w fun e w' => e = .returned (.int .u32 res) ∧ w = w' := by subst h; exact cLoad op a x ha hx w
theorem notfit17 (a : Nat) (h : ¬ a % 2 = 0) : fitsB 17 a = false := by unfold fitsB; simp [show sizeOf 17 = 2 from rfl]; omega
theorem notfit18 (a : Nat) (h : ¬ a % 4 = 0) : fitsB 18 a = false := by unfold fitsB; simp [show sizeOf 18 = 4 from rfl]; omega
theorem st_zero (op : Int) (a n : Nat) (ha : a < 4294967296) (hn : n < 4294967296) (hf : fitsB op a = false) (w : World) :
    Calls Try.prog 9 #[.int .i64 op, .int .u32 a, .int .u32 n] w fun e w' => e = .returned (.tuple #[.int .u32 0, .int .i64 0]) ∧ w = w' := by
  have h := cStore op a n ha hn w
  obtain ⟨y1, y2⟩ := st_no op a n (Or.inl hf)
  rw [y1, y2] at h; exact h
theorem fits14 (a : Nat) : fitsB 14 a = true := by unfold fitsB; simp [show sizeOf 14 = 1 from rfl]
theorem fits15 (a : Nat) (h : a % 2 = 0) : fitsB 15 a = true := by unfold fitsB; simp [show sizeOf 15 = 2 from rfl]; omega
theorem fits13 (a : Nat) (h : a % 4 = 0) : fitsB 13 a = true := by unfold fitsB; simp [show sizeOf 13 = 4 from rfl]; omega
theorem low8 (n : Nat) (hn : n < 4294967296) : ((n : Int) % 256 == Go.bits .and .u32 (n : Int) 255) = true := beq_iff_eq.2 (by rw [and255 n hn]; omega)
theorem low16 (n : Nat) (hn : n < 4294967296) : ((n : Int) % 65536 == Go.bits .and .u32 (n : Int) 65535) = true := beq_iff_eq.2 (by rw [and65535 n hn]; omega)
theorem low32 (n : Nat) (hn : n < 4294967296) : ((n : Int) == Go.bits .and .u32 (n : Int) 4294967295) = true := beq_iff_eq.2 (by rw [and_mask32 32 (by decide) (n : Int) (by omega) (by omega) 4294967295 (by decide)]; omega)
theorem idx (op : Int) (i : Nat) (h : Int.tmod (Int.tmod op 3 + 3) 3 = (i : Int)) : Int.tmod op 3 ≤ 2 ∧ -3 ≤ Int.tmod op 3 := by
  have h := Int.tmod_lt_of_pos op (show (0 : Int) < 3 by decide)
  have := Int.lt_tmod_of_pos op (show (0 : Int) < 3 by decide)
  omega
theorem ld_1_0 (a o n : Nat) (hn : n < 4294967296) (hr : a % 4 = 0) : loadV 14 a (merge o (n % 256) 1) = n % 256 := by
  rw [load_yes 14 a _ 0 (fits14 a) rfl hr]
  have h : merge o (n % 256) 1 % 256 = n % 256 := by have := back_8 o n 0 (by decide); simpa using this
  show ldop 14 _ = _
  rw [show ∀ x, ldop 14 x = x % 256 from fun x => rfl]
  simpa using h
set_option maxHeartbeats 2000000 in
theorem back_1_0 (op : Int) (a n o : Nat) (hn : n < 4294967296) (ho : o < 4294967296) (ha : a < 4294967296) (hr : a % 4 = 0) (ei : Int.tmod (Int.tmod op 3 + 3) 3 = 0) (h1 : Int.tmod op 3 ≤ 2) (h2 : -3 ≤ Int.tmod op 3) (w : World) : Calls Try.prog 5 #[.int .i64 op, .int .u32 a, .int .u32 n, .int .u32 o] w fun e w' => e = .returned (.bool true) ∧ Below w.heap.size w w' := by
  have hfit := fits16 a
  have b1 := low8 n hn
  have R1 := Lib.hid (rest_old o (n % 256) 1 ho)
  have R2 := Lib.hid (old_same o (n % 256) 1)
  have HL := Lib.hid (ld_1_0 a o n hn hr)
  have hW := merge_lt o (n % 256) 1
  have hD : n % 256 < 4294967296 := by omega
  have HR := Lib.hid hr
  have HF := Lib.hid hfit
  have HA := Lib.hid ha
  have HN := Lib.hid hn
  have HO := Lib.hid ho
  clear hr hfit ha hn ho
  go_enter Try.func5, Try.ntmps5
  go_wp2_with fail
  refine (st_val 16 a n 1 0 HA.out HN.out HF.out rfl rfl HR.out (n % 256) 1 (by simp) (by decide) _ _ rfl rfl _).mono ?_
  rintro e w' ⟨rfl, rfl⟩
  go_wp2_with fail
  refine (cFitsV 16 a _ HA.out HF.out _).mono ?_
  rintro e w' ⟨rfl, rfl⟩
  generalize hWe : merge o (n % 256) 1 = W at R1 R2 HL hW
  have HW := Lib.hid hWe
  clear hWe
  go_wp2_with fail
  refine (cMergeE _ _ o (n % 256) 1 W HW.out rfl (by first | rfl | omega) HO.out hD _).mono ?_
  rintro e w' ⟨rfl, rfl⟩
  go_wp2_with fail
  refine (cSizeV 16 1 rfl _).mono ?_
  rintro e w' ⟨rfl, rfl⟩
  go_wp2_with fail
  refine (cMergeE _ _ W o 1 o R1.out rfl rfl hW HO.out _).mono ?_
  rintro e w' ⟨rfl, rfl⟩
  go_wp2_with fail
  refine (cLoadE 14 a W (n % 256) HL.out HA.out hW _).mono ?_
  rintro e w' ⟨rfl, rfl⟩
  go_wp2_with fail
  refine (cMergeE _ _ o W 1 W R2.out rfl rfl HO.out hW _).mono ?_
  rintro e w' ⟨rfl, rfl⟩
  go_wp2_with fail
  refine (cMergeE _ _ o W 15 W (merge15 o W hW) rfl rfl HO.out hW _).mono ?_
  rintro e w' ⟨rfl, rfl⟩
  go_wp2_with fail
  refine (cMergeE _ _ o W 0 o (merge_0 o W HO.out) rfl rfl HO.out hW _).mono ?_
  rintro e w' ⟨rfl, rfl⟩
  go_wp2_with fail
  refine (cknown _).mono ?_
  rintro e w' ⟨rfl, rfl⟩
  go_wp2_with fail
  go_ret
  exact ⟨rfl, ((Below.refl _ _).alloc (Nat.le_refl _) _).alloc (by simp) _⟩
theorem ld_1_1 (a o n : Nat) (hn : n < 4294967296) (hr : a % 4 = 1) : loadV 14 a (merge o (n % 256 * 256) 2) = n % 256 := by
  rw [load_yes 14 a _ 1 (fits14 a) rfl hr]
  have h : merge o (n % 256 * 256) 2 / 256 % 256 = n % 256 := by have := back_8 o n 1 (by decide); simpa using this
  show ldop 14 _ = _
  rw [show ∀ x, ldop 14 x = x % 256 from fun x => rfl]
  simpa using h
set_option maxHeartbeats 2000000 in
theorem back_1_1 (op : Int) (a n o : Nat) (hn : n < 4294967296) (ho : o < 4294967296) (ha : a < 4294967296) (hr : a % 4 = 1) (ei : Int.tmod (Int.tmod op 3 + 3) 3 = 0) (h1 : Int.tmod op 3 ≤ 2) (h2 : -3 ≤ Int.tmod op 3) (w : World) : Calls Try.prog 5 #[.int .i64 op, .int .u32 a, .int .u32 n, .int .u32 o] w fun e w' => e = .returned (.bool true) ∧ Below w.heap.size w w' := by
  have hfit := fits16 a
  have b1 := low8 n hn
  have R1 := Lib.hid (rest_old o (n % 256 * 256) 2 ho)
  have R2 := Lib.hid (old_same o (n % 256 * 256) 2)
  have HL := Lib.hid (ld_1_1 a o n hn hr)
  have hW := merge_lt o (n % 256 * 256) 2
  have hD : n % 256 * 256 < 4294967296 := by omega
  have HR := Lib.hid hr
  have HF := Lib.hid hfit
  have HA := Lib.hid ha
  have HN := Lib.hid hn
  have HO := Lib.hid ho
  clear hr hfit ha hn ho
  go_enter Try.func5, Try.ntmps5
  go_wp2_with fail
  refine (st_val 16 a n 1 1 HA.out HN.out HF.out rfl rfl HR.out (n % 256 * 256) 2 (by simp) (by decide) _ _ rfl rfl _).mono ?_
  rintro e w' ⟨rfl, rfl⟩
  go_wp2_with fail
  refine (cFitsV 16 a _ HA.out HF.out _).mono ?_
  rintro e w' ⟨rfl, rfl⟩
  generalize hWe : merge o (n % 256 * 256) 2 = W at R1 R2 HL hW
  have HW := Lib.hid hWe
  clear hWe
  go_wp2_with fail
  refine (cMergeE _ _ o (n % 256 * 256) 2 W HW.out rfl (by first | rfl | omega) HO.out hD _).mono ?_
  rintro e w' ⟨rfl, rfl⟩
  go_wp2_with fail
  refine (cSizeV 16 1 rfl _).mono ?_
  rintro e w' ⟨rfl, rfl⟩
  go_wp2_with fail
  refine (cMergeE _ _ W o 2 o R1.out rfl rfl hW HO.out _).mono ?_
  rintro e w' ⟨rfl, rfl⟩
  go_wp2_with fail
  refine (cLoadE 14 a W (n % 256) HL.out HA.out hW _).mono ?_
  rintro e w' ⟨rfl, rfl⟩
  go_wp2_with fail
  refine (cMergeE _ _ o W 2 W R2.out rfl rfl HO.out hW _).mono ?_
  rintro e w' ⟨rfl, rfl⟩
  go_wp2_with fail
  refine (cMergeE _ _ o W 15 W (merge15 o W hW) rfl rfl HO.out hW _).mono ?_
  rintro e w' ⟨rfl, rfl⟩
  go_wp2_with fail
  refine (cMergeE _ _ o W 0 o (merge_0 o W HO.out) rfl rfl HO.out hW _).mono ?_
  rintro e w' ⟨rfl, rfl⟩
  go_wp2_with fail
  refine (cknown _).mono ?_
  rintro e w' ⟨rfl, rfl⟩
  go_wp2_with fail
  go_ret
  exact ⟨rfl, ((Below.refl _ _).alloc (Nat.le_refl _) _).alloc (by simp) _⟩
theorem ld_1_2 (a o n : Nat) (hn : n < 4294967296) (hr : a % 4 = 2) : loadV 14 a (merge o (n % 256 * 65536) 4) = n % 256 := by
  rw [load_yes 14 a _ 2 (fits14 a) rfl hr]
  have h : merge o (n % 256 * 65536) 4 / 65536 % 256 = n % 256 := by have := back_8 o n 2 (by decide); simpa using this
  show ldop 14 _ = _
  rw [show ∀ x, ldop 14 x = x % 256 from fun x => rfl]
  simpa using h
set_option maxHeartbeats 2000000 in
theorem back_1_2 (op : Int) (a n o : Nat) (hn : n < 4294967296) (ho : o < 4294967296) (ha : a < 4294967296) (hr : a % 4 = 2) (ei : Int.tmod (Int.tmod op 3 + 3) 3 = 0) (h1 : Int.tmod op 3 ≤ 2) (h2 : -3 ≤ Int.tmod op 3) (w : World) : Calls Try.prog 5 #[.int .i64 op, .int .u32 a, .int .u32 n, .int .u32 o] w fun e w' => e = .returned (.bool true) ∧ Below w.heap.size w w' := by
  have hfit := fits16 a
  have b1 := low8 n hn
  have R1 := Lib.hid (rest_old o (n % 256 * 65536) 4 ho)
  have R2 := Lib.hid (old_same o (n % 256 * 65536) 4)
  have HL := Lib.hid (ld_1_2 a o n hn hr)
  have hW := merge_lt o (n % 256 * 65536) 4
  have hD : n % 256 * 65536 < 4294967296 := by omega
  have HR := Lib.hid hr
  have HF := Lib.hid hfit
  have HA := Lib.hid ha
  have HN := Lib.hid hn
  have HO := Lib.hid ho
  clear hr hfit ha hn ho
  go_enter Try.func5, Try.ntmps5
  go_wp2_with fail
  refine (st_val 16 a n 1 2 HA.out HN.out HF.out rfl rfl HR.out (n % 256 * 65536) 4 (by simp) (by decide) _ _ rfl rfl _).mono ?_
  rintro e w' ⟨rfl, rfl⟩
  go_wp2_with fail
  refine (cFitsV 16 a _ HA.out HF.out _).mono ?_
  rintro e w' ⟨rfl, rfl⟩
  generalize hWe : merge o (n % 256 * 65536) 4 = W at R1 R2 HL hW
  have HW := Lib.hid hWe
  clear hWe
  go_wp2_with fail
  refine (cMergeE _ _ o (n % 256 * 65536) 4 W HW.out rfl (by first | rfl | omega) HO.out hD _).mono ?_
  rintro e w' ⟨rfl, rfl⟩
  go_wp2_with fail
  refine (cSizeV 16 1 rfl _).mono ?_
  rintro e w' ⟨rfl, rfl⟩
  go_wp2_with fail
  refine (cMergeE _ _ W o 4 o R1.out rfl rfl hW HO.out _).mono ?_
  rintro e w' ⟨rfl, rfl⟩
  go_wp2_with fail
  refine (cLoadE 14 a W (n % 256) HL.out HA.out hW _).mono ?_
  rintro e w' ⟨rfl, rfl⟩
  go_wp2_with fail
  refine (cMergeE _ _ o W 4 W R2.out rfl rfl HO.out hW _).mono ?_
  rintro e w' ⟨rfl, rfl⟩
  go_wp2_with fail
  refine (cMergeE _ _ o W 15 W (merge15 o W hW) rfl rfl HO.out hW _).mono ?_
  rintro e w' ⟨rfl, rfl⟩
  go_wp2_with fail
  refine (cMergeE _ _ o W 0 o (merge_0 o W HO.out) rfl rfl HO.out hW _).mono ?_
  rintro e w' ⟨rfl, rfl⟩
  go_wp2_with fail
  refine (cknown _).mono ?_
  rintro e w' ⟨rfl, rfl⟩
  go_wp2_with fail
  go_ret
  exact ⟨rfl, ((Below.refl _ _).alloc (Nat.le_refl _) _).alloc (by simp) _⟩
theorem ld_1_3 (a o n : Nat) (hn : n < 4294967296) (hr : a % 4 = 3) : loadV 14 a (merge o (n % 256 * 16777216) 8) = n % 256 := by
  rw [load_yes 14 a _ 3 (fits14 a) rfl hr]
  have h : merge o (n % 256 * 16777216) 8 / 16777216 % 256 = n % 256 := by have := back_8 o n 3 (by decide); simpa using this
  show ldop 14 _ = _
  rw [show ∀ x, ldop 14 x = x % 256 from fun x => rfl]
  simpa using h
set_option maxHeartbeats 2000000 in
theorem back_1_3 (op : Int) (a n o : Nat) (hn : n < 4294967296) (ho : o < 4294967296) (ha : a < 4294967296) (hr : a % 4 = 3) (ei : Int.tmod (Int.tmod op 3 + 3) 3 = 0) (h1 : Int.tmod op 3 ≤ 2) (h2 : -3 ≤ Int.tmod op 3) (w : World) : Calls Try.prog 5 #[.int .i64 op, .int .u32 a, .int .u32 n, .int .u32 o] w fun e w' => e = .returned (.bool true) ∧ Below w.heap.size w w' := by
  have hfit := fits16 a
  have b1 := low8 n hn
  have R1 := Lib.hid (rest_old o (n % 256 * 16777216) 8 ho)
  have R2 := Lib.hid (old_same o (n % 256 * 16777216) 8)
  have HL := Lib.hid (ld_1_3 a o n hn hr)
  have hW := merge_lt o (n % 256 * 16777216) 8
  have hD : n % 256 * 16777216 < 4294967296 := by omega
  have HR := Lib.hid hr
  have HF := Lib.hid hfit
  have HA := Lib.hid ha
  have HN := Lib.hid hn
  have HO := Lib.hid ho
  clear hr hfit ha hn ho
  go_enter Try.func5, Try.ntmps5
  go_wp2_with fail
  refine (st_val 16 a n 1 3 HA.out HN.out HF.out rfl rfl HR.out (n % 256 * 16777216) 8 (by simp) (by decide) _ _ rfl rfl _).mono ?_
  rintro e w' ⟨rfl, rfl⟩
  go_wp2_with fail
  refine (cFitsV 16 a _ HA.out HF.out _).mono ?_
  rintro e w' ⟨rfl, rfl⟩
  generalize hWe : merge o (n % 256 * 16777216) 8 = W at R1 R2 HL hW
  have HW := Lib.hid hWe
  clear hWe
  go_wp2_with fail
  refine (cMergeE _ _ o (n % 256 * 16777216) 8 W HW.out rfl (by first | rfl | omega) HO.out hD _).mono ?_
  rintro e w' ⟨rfl, rfl⟩
  go_wp2_with fail
  refine (cSizeV 16 1 rfl _).mono ?_
  rintro e w' ⟨rfl, rfl⟩
  go_wp2_with fail
  refine (cMergeE _ _ W o 8 o R1.out rfl rfl hW HO.out _).mono ?_
  rintro e w' ⟨rfl, rfl⟩
  go_wp2_with fail
  refine (cLoadE 14 a W (n % 256) HL.out HA.out hW _).mono ?_
  rintro e w' ⟨rfl, rfl⟩
  go_wp2_with fail
  refine (cMergeE _ _ o W 8 W R2.out rfl rfl HO.out hW _).mono ?_
  rintro e w' ⟨rfl, rfl⟩
  go_wp2_with fail
  refine (cMergeE _ _ o W 15 W (merge15 o W hW) rfl rfl HO.out hW _).mono ?_
  rintro e w' ⟨rfl, rfl⟩
  go_wp2_with fail
  refine (cMergeE _ _ o W 0 o (merge_0 o W HO.out) rfl rfl HO.out hW _).mono ?_
  rintro e w' ⟨rfl, rfl⟩
  go_wp2_with fail
  refine (cknown _).mono ?_
  rintro e w' ⟨rfl, rfl⟩
  go_wp2_with fail
  go_ret
  exact ⟨rfl, ((Below.refl _ _).alloc (Nat.le_refl _) _).alloc (by simp) _⟩
theorem ld_2_0 (a o n : Nat) (hn : n < 4294967296) (hr : a % 4 = 0) : loadV 15 a (merge o (n % 65536) 3) = n % 65536 := by
  rw [load_yes 15 a _ 0 (fits15 a (by omega)) rfl hr]
  have h : merge o (n % 65536) 3 % 65536 = n % 65536 := by have := back_16_0 o n; simpa using this
  show ldop 15 _ = _
  rw [show ∀ x, ldop 15 x = x % 65536 from fun x => rfl]
  simpa using h
set_option maxHeartbeats 2000000 in
theorem back_2_0 (op : Int) (a n o : Nat) (hn : n < 4294967296) (ho : o < 4294967296) (ha : a < 4294967296) (hr : a % 4 = 0) (ei : Int.tmod (Int.tmod op 3 + 3) 3 = 1) (h1 : Int.tmod op 3 ≤ 2) (h2 : -3 ≤ Int.tmod op 3) (w : World) : Calls Try.prog 5 #[.int .i64 op, .int .u32 a, .int .u32 n, .int .u32 o] w fun e w' => e = .returned (.bool true) ∧ Below w.heap.size w w' := by
  have hfit := fits17 a (by omega)
  have b1 := low16 n hn
  have R1 := Lib.hid (rest_old o (n % 65536) 3 ho)
  have R2 := Lib.hid (old_same o (n % 65536) 3)
  have HL := Lib.hid (ld_2_0 a o n hn hr)
  have hW := merge_lt o (n % 65536) 3
  have hD : n % 65536 < 4294967296 := by omega
  have HR := Lib.hid hr
  have HF := Lib.hid hfit
  have HA := Lib.hid ha
  have HN := Lib.hid hn
  have HO := Lib.hid ho
  clear hr hfit ha hn ho
  go_enter Try.func5, Try.ntmps5
  go_wp2_with fail
  refine (st_val 17 a n 2 0 HA.out HN.out HF.out rfl rfl HR.out (n % 65536) 3 (by simp) (by decide) _ _ rfl rfl _).mono ?_
  rintro e w' ⟨rfl, rfl⟩
  go_wp2_with fail
  refine (cFitsV 17 a _ HA.out HF.out _).mono ?_
  rintro e w' ⟨rfl, rfl⟩
  generalize hWe : merge o (n % 65536) 3 = W at R1 R2 HL hW
  have HW := Lib.hid hWe
  clear hWe
  go_wp2_with fail
  refine (cMergeE _ _ o (n % 65536) 3 W HW.out rfl (by first | rfl | omega) HO.out hD _).mono ?_
  rintro e w' ⟨rfl, rfl⟩
  go_wp2_with fail
  refine (cSizeV 17 2 rfl _).mono ?_
  rintro e w' ⟨rfl, rfl⟩
  go_wp2_with fail
  refine (cMergeE _ _ W o 3 o R1.out rfl rfl hW HO.out _).mono ?_
  rintro e w' ⟨rfl, rfl⟩
  go_wp2_with fail
  refine (cLoadE 15 a W (n % 65536) HL.out HA.out hW _).mono ?_
  rintro e w' ⟨rfl, rfl⟩
  go_wp2_with fail
  refine (cMergeE _ _ o W 3 W R2.out rfl rfl HO.out hW _).mono ?_
  rintro e w' ⟨rfl, rfl⟩
  go_wp2_with fail
  refine (cMergeE _ _ o W 15 W (merge15 o W hW) rfl rfl HO.out hW _).mono ?_
  rintro e w' ⟨rfl, rfl⟩
  go_wp2_with fail
  refine (cMergeE _ _ o W 0 o (merge_0 o W HO.out) rfl rfl HO.out hW _).mono ?_
  rintro e w' ⟨rfl, rfl⟩
  go_wp2_with fail
  refine (cknown _).mono ?_
  rintro e w' ⟨rfl, rfl⟩
  go_wp2_with fail
  go_ret
  exact ⟨rfl, ((Below.refl _ _).alloc (Nat.le_refl _) _).alloc (by simp) _⟩
theorem ld_2_2 (a o n : Nat) (hn : n < 4294967296) (hr : a % 4 = 2) : loadV 15 a (merge o (n % 65536 * 65536) 12) = n % 65536 := by
  rw [load_yes 15 a _ 2 (fits15 a (by omega)) rfl hr]
  have h : merge o (n % 65536 * 65536) 12 / 65536 % 65536 = n % 65536 := by have := back_16_2 o n; simpa using this
  show ldop 15 _ = _
  rw [show ∀ x, ldop 15 x = x % 65536 from fun x => rfl]
  simpa using h
set_option maxHeartbeats 2000000 in
theorem back_2_2 (op : Int) (a n o : Nat) (hn : n < 4294967296) (ho : o < 4294967296) (ha : a < 4294967296) (hr : a % 4 = 2) (ei : Int.tmod (Int.tmod op 3 + 3) 3 = 1) (h1 : Int.tmod op 3 ≤ 2) (h2 : -3 ≤ Int.tmod op 3) (w : World) : Calls Try.prog 5 #[.int .i64 op, .int .u32 a, .int .u32 n, .int .u32 o] w fun e w' => e = .returned (.bool true) ∧ Below w.heap.size w w' := by
  have hfit := fits17 a (by omega)
  have b1 := low16 n hn
  have R1 := Lib.hid (rest_old o (n % 65536 * 65536) 12 ho)
  have R2 := Lib.hid (old_same o (n % 65536 * 65536) 12)
  have HL := Lib.hid (ld_2_2 a o n hn hr)
  have hW := merge_lt o (n % 65536 * 65536) 12
  have hD : n % 65536 * 65536 < 4294967296 := by omega
  have HR := Lib.hid hr
  have HF := Lib.hid hfit
  have HA := Lib.hid ha
  have HN := Lib.hid hn
  have HO := Lib.hid ho
  clear hr hfit ha hn ho
  go_enter Try.func5, Try.ntmps5
  go_wp2_with fail
  refine (st_val 17 a n 2 2 HA.out HN.out HF.out rfl rfl HR.out (n % 65536 * 65536) 12 (by simp) (by decide) _ _ rfl rfl _).mono ?_
  rintro e w' ⟨rfl, rfl⟩
  go_wp2_with fail
  refine (cFitsV 17 a _ HA.out HF.out _).mono ?_
  rintro e w' ⟨rfl, rfl⟩
  generalize hWe : merge o (n % 65536 * 65536) 12 = W at R1 R2 HL hW
  have HW := Lib.hid hWe
  clear hWe
  go_wp2_with fail
  refine (cMergeE _ _ o (n % 65536 * 65536) 12 W HW.out rfl (by first | rfl | omega) HO.out hD _).mono ?_
  rintro e w' ⟨rfl, rfl⟩
  go_wp2_with fail
  refine (cSizeV 17 2 rfl _).mono ?_
  rintro e w' ⟨rfl, rfl⟩
  go_wp2_with fail
  refine (cMergeE _ _ W o 12 o R1.out rfl rfl hW HO.out _).mono ?_
  rintro e w' ⟨rfl, rfl⟩
  go_wp2_with fail
  refine (cLoadE 15 a W (n % 65536) HL.out HA.out hW _).mono ?_
  rintro e w' ⟨rfl, rfl⟩
  go_wp2_with fail
  refine (cMergeE _ _ o W 12 W R2.out rfl rfl HO.out hW _).mono ?_
  rintro e w' ⟨rfl, rfl⟩
  go_wp2_with fail
  refine (cMergeE _ _ o W 15 W (merge15 o W hW) rfl rfl HO.out hW _).mono ?_
  rintro e w' ⟨rfl, rfl⟩
  go_wp2_with fail
  refine (cMergeE _ _ o W 0 o (merge_0 o W HO.out) rfl rfl HO.out hW _).mono ?_
  rintro e w' ⟨rfl, rfl⟩
  go_wp2_with fail
  refine (cknown _).mono ?_
  rintro e w' ⟨rfl, rfl⟩
  go_wp2_with fail
  go_ret
  exact ⟨rfl, ((Below.refl _ _).alloc (Nat.le_refl _) _).alloc (by simp) _⟩
theorem ld_4_0 (a o n : Nat) (hn : n < 4294967296) (hr : a % 4 = 0) : loadV 13 a (merge o (n) 15) = n := by
  rw [load_yes 13 a _ 0 (fits13 a (by omega)) rfl hr]
  have h : merge o (n) 15 = n := by exact merge15 o n hn
  show ldop 13 _ = _
  rw [show ∀ x, ldop 13 x = x from fun x => rfl]
  simpa using h
set_option maxHeartbeats 2000000 in
theorem back_4_0 (op : Int) (a n o : Nat) (hn : n < 4294967296) (ho : o < 4294967296) (ha : a < 4294967296) (hr : a % 4 = 0) (ei : Int.tmod (Int.tmod op 3 + 3) 3 = 2) (h1 : Int.tmod op 3 ≤ 2) (h2 : -3 ≤ Int.tmod op 3) (w : World) : Calls Try.prog 5 #[.int .i64 op, .int .u32 a, .int .u32 n, .int .u32 o] w fun e w' => e = .returned (.bool true) ∧ Below w.heap.size w w' := by
  have hfit := fits18 a (by omega)
  have b1 := low32 n hn
  have R1 := Lib.hid (rest_old o (n) 15 ho)
  have R2 := Lib.hid (old_same o (n) 15)
  have HL := Lib.hid (ld_4_0 a o n hn hr)
  have hW := merge_lt o (n) 15
  have hD : n < 4294967296 := by omega
  have HR := Lib.hid hr
  have HF := Lib.hid hfit
  have HA := Lib.hid ha
  have HN := Lib.hid hn
  have HO := Lib.hid ho
  clear hr hfit ha hn ho
  go_enter Try.func5, Try.ntmps5
  go_wp2_with fail
  refine (st_val 18 a n 4 0 HA.out HN.out HF.out rfl rfl HR.out (n) 15 (by simp; omega) (by decide) _ _ rfl rfl _).mono ?_
  rintro e w' ⟨rfl, rfl⟩
  go_wp2_with fail
  refine (cFitsV 18 a _ HA.out HF.out _).mono ?_
  rintro e w' ⟨rfl, rfl⟩
  generalize hWe : merge o (n) 15 = W at R1 R2 HL hW
  have HW := Lib.hid hWe
  clear hWe
  go_wp2_with fail
  refine (cMergeE _ _ o (n) 15 W HW.out rfl (by first | rfl | omega) HO.out hD _).mono ?_
  rintro e w' ⟨rfl, rfl⟩
  go_wp2_with fail
  refine (cSizeV 18 4 rfl _).mono ?_
  rintro e w' ⟨rfl, rfl⟩
  go_wp2_with fail
  refine (cMergeE _ _ W o 15 o R1.out rfl rfl hW HO.out _).mono ?_
  rintro e w' ⟨rfl, rfl⟩
  go_wp2_with fail
  refine (cLoadE 13 a W (n) HL.out HA.out hW _).mono ?_
  rintro e w' ⟨rfl, rfl⟩
  go_wp2_with fail
  refine (cMergeE _ _ o W 15 W R2.out rfl rfl HO.out hW _).mono ?_
  rintro e w' ⟨rfl, rfl⟩
  go_wp2_with fail
  refine (cMergeE _ _ o W 15 W (merge15 o W hW) rfl rfl HO.out hW _).mono ?_
  rintro e w' ⟨rfl, rfl⟩
  go_wp2_with fail
  refine (cMergeE _ _ o W 0 o (merge_0 o W HO.out) rfl rfl HO.out hW _).mono ?_
  rintro e w' ⟨rfl, rfl⟩
  go_wp2_with fail
  refine (cknown _).mono ?_
  rintro e w' ⟨rfl, rfl⟩
  go_wp2_with fail
  go_ret
  exact ⟨rfl, ((Below.refl _ _).alloc (Nat.le_refl _) _).alloc (by simp) _⟩
set_option maxHeartbeats 2000000 in
theorem back_no_1 (op : Int) (a n o : Nat) (hn : n < 4294967296) (ho : o < 4294967296) (ha : a < 4294967296) (hr : ¬ a % 2 = 0) (ei : Int.tmod (Int.tmod op 3 + 3) 3 = 1) (h1 : Int.tmod op 3 ≤ 2) (h2 : -3 ≤ Int.tmod op 3) (w : World) : Calls Try.prog 5 #[.int .i64 op, .int .u32 a, .int .u32 n, .int .u32 o] w fun e w' => e = .returned (.bool true) ∧ Below w.heap.size w w' := by
  have HF := Lib.hid (notfit17 a hr)
  have HA := Lib.hid ha
  have HN := Lib.hid hn
  clear hr ha hn
  go_enter Try.func5, Try.ntmps5
  go_wp2_with fail
  refine (st_zero 17 a n HA.out HN.out HF.out _).mono ?_
  rintro e w' ⟨rfl, rfl⟩
  go_wp2_with fail
  refine (cFitsV 17 a _ HA.out HF.out _).mono ?_
  rintro e w' ⟨rfl, rfl⟩
  go_wp2_with fail
  refine (cknown _).mono ?_
  rintro e w' ⟨rfl, rfl⟩
  go_wp2_with fail
  go_ret
  exact ⟨rfl, (Below.refl _ _).alloc (Nat.le_refl _) _⟩
set_option maxHeartbeats 2000000 in
theorem back_no_2 (op : Int) (a n o : Nat) (hn : n < 4294967296) (ho : o < 4294967296) (ha : a < 4294967296) (hr : ¬ a % 4 = 0) (ei : Int.tmod (Int.tmod op 3 + 3) 3 = 2) (h1 : Int.tmod op 3 ≤ 2) (h2 : -3 ≤ Int.tmod op 3) (w : World) : Calls Try.prog 5 #[.int .i64 op, .int .u32 a, .int .u32 n, .int .u32 o] w fun e w' => e = .returned (.bool true) ∧ Below w.heap.size w w' := by
  have HF := Lib.hid (notfit18 a hr)
  have HA := Lib.hid ha
  have HN := Lib.hid hn
  clear hr ha hn
  go_enter Try.func5, Try.ntmps5
  go_wp2_with fail
  refine (st_zero 18 a n HA.out HN.out HF.out _).mono ?_
  rintro e w' ⟨rfl, rfl⟩
  go_wp2_with fail
  refine (cFitsV 18 a _ HA.out HF.out _).mono ?_
  rintro e w' ⟨rfl, rfl⟩
  go_wp2_with fail
  refine (cknown _).mono ?_
  rintro e w' ⟨rfl, rfl⟩
  go_wp2_with fail
  go_ret
  exact ⟨rfl, (Below.refl _ _).alloc (Nat.le_refl _) _⟩
theorem back_calls (op : Int) (a n o : Nat) (hn : n < 4294967296) (ho : o < 4294967296) (ha : a < 4294967296) (w : World) : Calls Try.prog 5 #[.int .i64 op, .int .u32 a, .int .u32 n, .int .u32 o] w fun e w' => e = .returned (.bool true) ∧ Below w.heap.size w w' := by
  obtain ⟨i, hi, ei⟩ := third op
  obtain ⟨h1, h2⟩ := idx op i ei
  have h4 : a % 4 = 0 ∨ a % 4 = 1 ∨ a % 4 = 2 ∨ a % 4 = 3 := by omega
  rcases (show i = 0 ∨ i = 1 ∨ i = 2 by omega) with rfl | rfl | rfl
  · rcases h4 with h | h | h | h
    · exact back_1_0 op a n o hn ho ha h ei h1 h2 w
    · exact back_1_1 op a n o hn ho ha h ei h1 h2 w
    · exact back_1_2 op a n o hn ho ha h ei h1 h2 w
    · exact back_1_3 op a n o hn ho ha h ei h1 h2 w
  · rcases h4 with h | h | h | h
    · exact back_2_0 op a n o hn ho ha h ei h1 h2 w
    · exact back_no_1 op a n o hn ho ha (by omega) ei h1 h2 w
    · exact back_2_2 op a n o hn ho ha h ei h1 h2 w
    · exact back_no_1 op a n o hn ho ha (by omega) ei h1 h2 w
  · by_cases h : a % 4 = 0
    · exact back_4_0 op a n o hn ho ha h ei h1 h2 w
    · exact back_no_2 op a n o hn ho ha h ei h1 h2 w
theorem back_walk (a0 a1 a2 a3 : Int) (w : World) (_ : (Lit.int .i64 a0).wf = true) (w1 : (Lit.int .u32 a1).wf = true) (w2 : (Lit.int .u32 a2).wf = true) (w3 : (Lit.int .u32 a3).wf = true) :
    Calls Try.prog 5 #[.int .i64 a0, .int .u32 a1, .int .u32 a2, .int .u32 a3] w fun e w' => e = .returned (.bool true) ∧ Below w.heap.size w w' := by
  obtain ⟨a, rfl, ha⟩ := wf_u32 w1
  obtain ⟨x, rfl, hx⟩ := wf_u32 w2
  obtain ⟨y, rfl, hy⟩ := wf_u32 w3
  exact back_calls a0 a x y hx hy ha w
theorem parts_walk (a1 a2 a3 : Int) (w : World) (w1 : (Lit.int .u32 a1).wf = true) (w2 : (Lit.int .u32 a2).wf = true) (w3 : (Lit.int .u32 a3).wf = true) :
    Calls Try.prog 6 #[.int .u32 a1, .int .u32 a2, .int .u32 a3] w fun e w' => e = .returned (.bool true) ∧ Below w.heap.size w w' := by
  obtain ⟨a, rfl, ha⟩ := wf_u32 w1
  obtain ⟨x, rfl, hx⟩ := wf_u32 w2
  obtain ⟨y, rfl, hy⟩ := wf_u32 w3
  refine (parts_calls a x y ha hx hy w).mono ?_
  rintro e w' ⟨he, rfl⟩
  exact ⟨he, Below.refl _ _⟩
end Go.Proofs.Yteabaipppalpjaa.Al
