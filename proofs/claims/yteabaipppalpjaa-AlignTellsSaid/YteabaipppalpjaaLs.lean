/- The contracts of Load and Store and of their reference's. -/
import Derived.Test.YteabaipppalpjaaMrg
set_option linter.unusedVariables false
set_option linter.unusedSimpArgs false
namespace Go.Proofs.Yteabaipppalpjaa.Al
open Go.RowKit Go.Proofs.Yteabaipppalpjaa.Bv
theorem addr_low (a : Nat) (ha : a < 4294967296) : Go.bits .and .u32 (a : Int) 3 = ((a % 4 : Nat) : Int) := by
  rw [and_mask32 2 (by decide) (a : Int) (by omega) (by omega) 3 (by decide)]; omega
/-- A number of so many low bits with its sign, as a word. -/
def sx (p n : Nat) : Nat := if n % (2 * p) < p then n % (2 * p) else n % (2 * p) + (4294967296 - 2 * p)
def ldop (op : Int) (n : Nat) : Nat := if op = 11 then sx 128 n else if op = 12 then sx 32768 n else if op = 14 then n % 256 else if op = 15 then n % 65536 else n
def loadV (op : Int) (a x : Nat) : Nat := if fitsB op a && !storeB op then ldop op (x / 256 ^ (a % 4)) else 0
theorem wrap_i8 (n : Int) : IntKind.i8.wrap n = (n + 128) % 256 - 128 := by simp [IntKind.wrap, IntKind.bits, IntKind.signed]; split <;> omega
theorem wrap_i16 (n : Int) : IntKind.i16.wrap n = (n + 32768) % 65536 - 32768 := by simp [IntKind.wrap, IntKind.bits, IntKind.signed]; split <;> omega
theorem ld8 (op : Int) (n : Nat) (h : (op == 11) = true) : wrap32 (IntKind.i8.wrap (n : Int)) % 4294967296 = (ldop op n : Int) := by
  have e : op = 11 := by simpa using h
  rw [wrap_i8]; unfold ldop sx wrap32; rw [if_pos e]; split <;> omega
theorem ld16 (op : Int) (n : Nat) (h1 : (op == 11) = false) (h : (op == 12) = true) : wrap32 (IntKind.i16.wrap (n : Int)) % 4294967296 = (ldop op n : Int) := by
  have e : op = 12 := by simpa using h
  have e1 : ¬ op = 11 := by omega
  rw [wrap_i16]; unfold ldop sx wrap32; rw [if_neg e1, if_pos e]; split <;> omega
theorem ld16s (op : Int) (n : Nat) (hn : n < 32768) (h1 : (op == 11) = false) (h : (op == 12) = true) : (n : Int) = (ldop op n : Int) := by
  have e : op = 12 := by simpa using h
  have e1 : ¬ op = 11 := by omega
  unfold ldop sx; rw [if_neg e1, if_pos e]; split <;> omega
theorem ld8u (op : Int) (n : Nat) (hn : n < 4294967296) (h1 : (op == 11) = false) (h2 : (op == 12) = false) (h : (op == 14) = true) : Go.bits .and .u32 (n : Int) 255 = (ldop op n : Int) := by
  have e : op = 14 := by simpa using h
  have e1 : ¬ op = 11 := by omega
  have e2 : ¬ op = 12 := by omega
  rw [and_mask32 8 (by decide) (n : Int) (by omega) (by omega) 255 (by decide)]; unfold ldop; rw [if_neg e1, if_neg e2, if_pos e]; omega
theorem ld16u (op : Int) (n : Nat) (hn : n < 4294967296) (h1 : (op == 11) = false) (h2 : (op == 12) = false) (h3 : (op == 14) = false) (h : (op == 15) = true) : Go.bits .and .u32 (n : Int) 65535 = (ldop op n : Int) := by
  have e : op = 15 := by simpa using h
  have e1 : ¬ op = 11 := by omega
  have e2 : ¬ op = 12 := by omega
  have e3 : ¬ op = 14 := by omega
  rw [and_mask32 16 (by decide) (n : Int) (by omega) (by omega) 65535 (by decide)]; unfold ldop; rw [if_neg e1, if_neg e2, if_neg e3, if_pos e]; omega
theorem ldw (op : Int) (n : Nat) (h1 : (op == 11) = false) (h2 : (op == 12) = false) (h3 : (op == 14) = false) (h : (op == 15) = false) : (n : Int) = (ldop op n : Int) := by
  have e1 : ¬ op = 11 := by simpa using h1
  have e2 : ¬ op = 12 := by simpa using h2
  have e3 : ¬ op = 14 := by simpa using h3
  have e4 : ¬ op = 15 := by simpa using h
  unfold ldop; rw [if_neg e1, if_neg e2, if_neg e3, if_neg e4]
theorem load_yes (op : Int) (a x r : Nat) (hf : fitsB op a = true) (hs : storeB op = false) (h4 : a % 4 = r) : loadV op a x = ldop op (x / 256 ^ r) := by unfold loadV; rw [hf, hs, h4]; rfl
theorem load_no (op : Int) (a x : Nat) (h : fitsB op a = false ∨ storeB op = true) : loadV op a x = 0 := by
  unfold loadV; rcases h with h | h <;> rw [h] <;> simp
theorem div_lt (x k : Nat) (hx : x < 4294967296) : x / k < 4294967296 := Nat.lt_of_le_of_lt (Nat.div_le_self _ _) hx
theorem q1 (x : Nat) : (x : Int) / 256 = ((x / 256 : Nat) : Int) := by omega
theorem q2 (x : Nat) : (x : Int) / 65536 = ((x / 65536 : Nat) : Int) := by omega
theorem q3 (x : Nat) : (x : Int) / 16777216 = ((x / 16777216 : Nat) : Int) := by omega
theorem fourn (a : Nat) : a % 4 = 0 ∨ a % 4 = 1 ∨ a % 4 = 2 ∨ a % 4 = 3 := by omega
theorem cFitsV (op : Int) (a : Nat) (b : Bool) (ha : a < 4294967296) (h : fitsB op a = b) (w : World) : Calls Try.prog 10 #[.int .i64 op, .int .u32 a] w fun e w' => e = .returned (.bool b) ∧ w = w' := by subst h; exact cFits op a ha w
theorem cstoreV (op : Int) (b : Bool) (h : storeB op = b) (w : World) : Calls Try.prog 19 #[.int .i64 op] w fun e w' => e = .returned (.bool b) ∧ w = w' := by subst h; exact cstore op w
set_option maxHeartbeats 1000000 in
theorem cLoad (op : Int) (a x : Nat) (ha : a < 4294967296) (hx : x < 4294967296) (w : World) : Calls Try.prog 13 #[.int .i64 op, .int .u32 a, .int .u32 x] w fun e w' => e = .returned (.int .u32 (loadV op a x)) ∧ w = w' := by
  have hl := addr_low a ha
  rcases fourn a with h4 | h4 | h4 | h4 <;> rw [h4] at hl <;> cases hf : fitsB op a <;> cases hs : storeB op
  all_goals
    have HA := Lib.hid ha
    have HF := Lib.hid hf
    have HS := Lib.hid hs
    have H4 := Lib.hid h4
    clear ha hf hs h4
    simp only [Int.cast_ofNat_Int] at hl
    go_enter Try.func13, Try.ntmps13
    go_wp2_with (first | (go_at_call 10; refine (cFitsV op a _ HA.out HF.out _).mono ?_; rintro e w' ⟨rfl, rfl⟩) | (go_at_call 19; refine (cstoreV op _ HS.out _).mono ?_; rintro e w' ⟨rfl, rfl⟩))
  all_goals go_ret
  all_goals refine ⟨ret_eq ?_, rfl⟩
  all_goals first
    | (rw [load_no op a x (Or.inl HF.out)]; rfl)
    | (rw [load_no op a x (Or.inr HS.out)]; rfl)
    | (rw [load_yes op a x _ HF.out HS.out H4.out]
       simp only [Nat.pow_zero, Nat.div_one, Nat.pow_one, Nat.reducePow]
       try rw [q1 x]
       try rw [q2 x]
       try rw [q3 x]
       first
        | (with_reducible refine ld8 op _ ?_; assumption)
        | (with_reducible refine ld16 op _ ?_ ?_ <;> assumption)
        | (with_reducible refine ld8u op _ (by first | exact hx | exact div_lt _ _ hx) ?_ ?_ ?_ <;> assumption)
        | (with_reducible refine ld16u op _ (by first | exact hx | exact div_lt _ _ hx) ?_ ?_ ?_ ?_ <;> assumption)
        | (with_reducible refine ld16s op _ (by omega) ?_ ?_ <;> assumption)
        | (with_reducible refine ldw op _ ?_ ?_ ?_ ?_ <;> assumption))
theorem cFitsRV (op : Int) (a : Nat) (b : Bool) (ha : a < 4294967296) (h : fitsB op a = b) (w : World) : Calls Try.prog 17 #[.int .i64 op, .int .u32 a] w fun e w' => e = .returned (.bool b) ∧ w = w' := by subst h; exact cFitsR op a ha w
theorem rd8 (op : Int) (n : Nat) (h : (op == 11) = true) : wrap32 ((n : Int) * 16777216 % 4294967296) / 16777216 % 4294967296 = (ldop op n : Int) := by
  have e : op = 11 := by simpa using h
  unfold ldop sx wrap32; rw [if_pos e]; split <;> omega
theorem rd8' (op : Int) (n : Nat) (hn : n < 256) (h : (op == 11) = true) : wrap32 ((n : Int) * 16777216) / 16777216 % 4294967296 = (ldop op n : Int) := by
  have e : op = 11 := by simpa using h
  unfold ldop sx wrap32; rw [if_pos e]; split <;> omega
theorem rd16 (op : Int) (n : Nat) (h1 : (op == 11) = false) (h : (op == 12) = true) : wrap32 ((n : Int) * 65536 % 4294967296) / 65536 % 4294967296 = (ldop op n : Int) := by
  have e : op = 12 := by simpa using h
  have e1 : ¬ op = 11 := by omega
  unfold ldop sx wrap32; rw [if_neg e1, if_pos e]; split <;> omega
theorem rd16' (op : Int) (n : Nat) (hn : n < 65536) (h1 : (op == 11) = false) (h : (op == 12) = true) : wrap32 ((n : Int) * 65536) / 65536 % 4294967296 = (ldop op n : Int) := by
  have e : op = 12 := by simpa using h
  have e1 : ¬ op = 11 := by omega
  unfold ldop sx wrap32; rw [if_neg e1, if_pos e]; split <;> omega
theorem rd16'' (op : Int) (n : Nat) (hn : n < 32768) (h1 : (op == 11) = false) (h : (op == 12) = true) : (n : Int) * 65536 / 65536 = (ldop op n : Int) := by
  have e : op = 12 := by simpa using h
  have e1 : ¬ op = 11 := by omega
  unfold ldop sx; rw [if_neg e1, if_pos e]; split <;> omega
/-- 'op >= Sb' of an op that fits. -/
theorem ge_store (op : Int) (a : Nat) (hf : fitsB op a = true) : decide (op ≥ 16) = storeB op := by
  have hz : 0 < sizeOf op := by unfold fitsB at hf; simp at hf; exact hf.1
  have : op = 11 ∨ op = 12 ∨ op = 13 ∨ op = 14 ∨ op = 15 ∨ op = 16 ∨ op = 17 ∨ op = 18 := by
    unfold sizeOf at hz
    by_cases h1 : op = 11 ∨ op = 14 ∨ op = 16
    · omega
    · rw [if_neg h1] at hz
      by_cases h2 : op = 12 ∨ op = 15 ∨ op = 17
      · omega
      · rw [if_neg h2] at hz
        by_cases h3 : op = 13 ∨ op = 18
        · omega
        · rw [if_neg h3] at hz; omega
  rcases this with rfl | rfl | rfl | rfl | rfl | rfl | rfl | rfl <;> rfl
set_option maxHeartbeats 1000000 in
theorem cLoadR (op : Int) (a x : Nat) (ha : a < 4294967296) (hx : x < 4294967296) (w : World) : Calls Try.prog 15 #[.int .i64 op, .int .u32 a, .int .u32 x] w fun e w' => e = .returned (.int .u32 (loadV op a x)) ∧ w = w' := by
  have hl := addr_low a ha
  rcases fourn a with h4 | h4 | h4 | h4 <;> rw [h4] at hl <;> cases hf : fitsB op a
  all_goals
    have HA := Lib.hid ha
    have HF := Lib.hid hf
    have H4 := Lib.hid h4
    clear ha h4
    simp only [Int.cast_ofNat_Int] at hl
    first
    | (exfalso; cases hf; done)
    | skip
  all_goals
    clear hf
    go_enter Try.func15, Try.ntmps15
    go_wp2_with (go_at_call 17; refine (cFitsRV op a _ HA.out HF.out _).mono ?_; rintro e w' ⟨rfl, rfl⟩)
  all_goals go_ret
  all_goals refine ⟨ret_eq ?_, rfl⟩
  all_goals first
    | (rw [load_no op a x (Or.inl HF.out)]; rfl)
    | (rw [load_no op a x (Or.inr (by rw [← ge_store op a HF.out]; exact decide_eq_true ‹16 ≤ op›))]; done)
    | (rw [load_no op a x (Or.inr (by rw [← ge_store op a HF.out]; exact decide_eq_true ‹16 ≤ op›))]; rfl)
    | (have hs : storeB op = false := by rw [← ge_store op a HF.out]; exact decide_eq_false (by omega)
       rw [load_yes op a x _ HF.out hs H4.out]
       clear hs
       simp only [Nat.pow_zero, Nat.div_one, Nat.pow_one, Nat.reducePow]
       try rw [q1 x]
       try rw [q2 x]
       try rw [q3 x]
       first
        | (with_reducible refine rd8 op _ ?_; assumption)
        | (with_reducible refine rd8' op _ (by omega) ?_; assumption)
        | (with_reducible refine rd16 op _ ?_ ?_ <;> assumption)
        | (with_reducible refine rd16' op _ (by omega) ?_ ?_ <;> assumption)
        | (with_reducible refine rd16'' op _ (by omega) ?_ ?_ <;> assumption)
        | (with_reducible refine ld8u op _ (by first | exact hx | exact div_lt _ _ hx) ?_ ?_ ?_ <;> assumption)
        | (with_reducible refine ld16u op _ (by first | exact hx | exact div_lt _ _ hx) ?_ ?_ ?_ ?_ <;> assumption)
        | (with_reducible refine ldw op _ ?_ ?_ ?_ ?_ <;> assumption)
        | (with_reducible refine ld16s op _ (by omega) ?_ ?_ <;> assumption))
/-! What is stored. -/
def stM (op : Int) (a : Nat) : Int := if fitsB op a && storeB op then (2 ^ (sizeOf op).toNat - 1) * 2 ^ (a % 4) else 0
def stD (op : Int) (a n : Nat) : Nat := if fitsB op a && storeB op then n % 256 ^ (sizeOf op).toNat * 256 ^ (a % 4) else 0
theorem store_cases (op : Int) (a : Nat) (hf : fitsB op a = true) (hs : storeB op = true) :
    (op = 16 ∧ sizeOf op = 1) ∨ (op = 17 ∧ sizeOf op = 2 ∧ (a % 4 = 0 ∨ a % 4 = 2)) ∨ (op = 18 ∧ sizeOf op = 4 ∧ a % 4 = 0) := by
  have h : op = 16 ∨ op = 17 ∨ op = 18 := by
    unfold storeB at hs
    simp at hs; omega
  unfold fitsB at hf
  rcases h with rfl | rfl | rfl
  · exact Or.inl ⟨rfl, rfl⟩
  · have e : sizeOf 17 = 2 := rfl
    rw [e] at hf; simp at hf
    exact Or.inr (Or.inl ⟨rfl, rfl, by omega⟩)
  · have e : sizeOf 18 = 4 := rfl
    rw [e] at hf; simp at hf
    exact Or.inr (Or.inr ⟨rfl, rfl, by omega⟩)
theorem st_no (op : Int) (a n : Nat) (h : fitsB op a = false ∨ storeB op = false) : stM op a = 0 ∧ stD op a n = 0 := by
  unfold stM stD; rcases h with h | h <;> rw [h] <;> simp
theorem st_yes (op : Int) (a n z r : Nat) (hf : fitsB op a = true) (hs : storeB op = true) (hz : sizeOf op = z) (hr : a % 4 = r) : stM op a = (2 ^ z - 1) * 2 ^ r ∧ stD op a n = n % 256 ^ z * 256 ^ r := by
  unfold stM stD; rw [hf, hs, hz, hr]; simp
theorem merge0 (n : Nat) (m : Int) : merge 0 n m = (if mbit m 0 then byte n 0 else 0) + (if mbit m 1 then byte n 1 else 0) * 256 + (if mbit m 2 then byte n 2 else 0) * 65536 + (if mbit m 3 then byte n 3 else 0) * 16777216 := by
  have e : ∀ k, byte 0 k = 0 := fun k => by simp [byte]
  simp [merge, selb, e]
theorem ret2 {k l : IntKind} {a b c d : Int} (h : a = b) (h2 : c = d) : Ending.returned (.tuple #[.int k a, .int l c]) = .returned (.tuple #[.int k b, .int l d]) := by rw [h, h2]
theorem cMergeV (a b : Int) (o d : Nat) (m : Int) (ea : a = o) (eb : b = d) (ho : o < 4294967296) (hd : d < 4294967296) (w : World) : Calls Try.prog 11 #[.int .u32 a, .int .u32 b, .int .i64 m] w fun e w' => e = .returned (.int .u32 (merge o d m)) ∧ w = w' := by subst ea; subst eb; exact cMerge o d m ho hd w
theorem modlt (n : Nat) : n % 4294967296 < 4294967296 := Nat.mod_lt _ (by decide)
theorem mg_1_0 (n : Nat) (hn : n < 4294967296) : merge 0 n 1 = n % 256 ^ 1 * 256 ^ 0 := by
  rw [merge0, show mbit 1 0 = true from rfl, show mbit 1 1 = false from rfl, show mbit 1 2 = false from rfl, show mbit 1 3 = false from rfl]
  simp only [if_true, if_false, Bool.false_eq_true, byte, Nat.pow_zero, Nat.div_one, Nat.pow_one, Nat.reducePow]; omega
theorem mg_1_1 (n : Nat) (hn : n < 4294967296) : merge 0 (n * 256 % 4294967296) 2 = n % 256 ^ 1 * 256 ^ 1 := by
  rw [merge0, show mbit 2 0 = false from rfl, show mbit 2 1 = true from rfl, show mbit 2 2 = false from rfl, show mbit 2 3 = false from rfl]
  simp only [if_true, if_false, Bool.false_eq_true, byte, Nat.pow_zero, Nat.div_one, Nat.pow_one, Nat.reducePow]; omega
theorem mg_1_2 (n : Nat) (hn : n < 4294967296) : merge 0 (n * 65536 % 4294967296) 4 = n % 256 ^ 1 * 256 ^ 2 := by
  rw [merge0, show mbit 4 0 = false from rfl, show mbit 4 1 = false from rfl, show mbit 4 2 = true from rfl, show mbit 4 3 = false from rfl]
  simp only [if_true, if_false, Bool.false_eq_true, byte, Nat.pow_zero, Nat.div_one, Nat.pow_one, Nat.reducePow]; omega
theorem mg_1_3 (n : Nat) (hn : n < 4294967296) : merge 0 (n * 16777216 % 4294967296) 8 = n % 256 ^ 1 * 256 ^ 3 := by
  rw [merge0, show mbit 8 0 = false from rfl, show mbit 8 1 = false from rfl, show mbit 8 2 = false from rfl, show mbit 8 3 = true from rfl]
  simp only [if_true, if_false, Bool.false_eq_true, byte, Nat.pow_zero, Nat.div_one, Nat.pow_one, Nat.reducePow]; omega
theorem mg_2_0 (n : Nat) (hn : n < 4294967296) : merge 0 n 3 = n % 256 ^ 2 * 256 ^ 0 := by
  rw [merge0, show mbit 3 0 = true from rfl, show mbit 3 1 = true from rfl, show mbit 3 2 = false from rfl, show mbit 3 3 = false from rfl]
  simp only [if_true, if_false, Bool.false_eq_true, byte, Nat.pow_zero, Nat.div_one, Nat.pow_one, Nat.reducePow]; omega
theorem mg_2_2 (n : Nat) (hn : n < 4294967296) : merge 0 (n * 65536 % 4294967296) 12 = n % 256 ^ 2 * 256 ^ 2 := by
  rw [merge0, show mbit 12 0 = false from rfl, show mbit 12 1 = false from rfl, show mbit 12 2 = true from rfl, show mbit 12 3 = true from rfl]
  simp only [if_true, if_false, Bool.false_eq_true, byte, Nat.pow_zero, Nat.div_one, Nat.pow_one, Nat.reducePow]; omega
theorem mg_4_0 (n : Nat) (hn : n < 4294967296) : merge 0 n 15 = n % 256 ^ 4 * 256 ^ 0 := by
  rw [merge0, show mbit 15 0 = true from rfl, show mbit 15 1 = true from rfl, show mbit 15 2 = true from rfl, show mbit 15 3 = true from rfl]
  simp only [if_true, if_false, Bool.false_eq_true, byte, Nat.pow_zero, Nat.div_one, Nat.pow_one, Nat.reducePow]; omega
theorem cStore (op : Int) (a n : Nat) (ha : a < 4294967296) (hn : n < 4294967296) (w : World) : Calls Try.prog 9 #[.int .i64 op, .int .u32 a, .int .u32 n] w fun e w' => e = .returned (.tuple #[.int .u32 (stD op a n), .int .i64 (stM op a)]) ∧ w = w' := by
  cases hf : fitsB op a
  · have HA := Lib.hid ha
    have HF := Lib.hid hf
    clear ha hf
    go_enter Try.func9, Try.ntmps9
    go_wp2_with (go_at_call 10; refine (cFitsV op a _ HA.out HF.out _).mono ?_; rintro e w' ⟨rfl, rfl⟩)
    go_ret2
    exact ⟨ret2 (by rw [(st_no op a n (Or.inl HF.out)).2]; rfl) (by rw [(st_no op a n (Or.inl HF.out)).1]), rfl⟩
  · cases hs : storeB op
    · have HA := Lib.hid ha
      have HF := Lib.hid hf
      have HS := Lib.hid hs
      clear ha hf hs
      go_enter Try.func9, Try.ntmps9
      go_wp2_with (first | (go_at_call 10; refine (cFitsV op a _ HA.out HF.out _).mono ?_; rintro e w' ⟨rfl, rfl⟩) | (go_at_call 19; refine (cstoreV op _ HS.out _).mono ?_; rintro e w' ⟨rfl, rfl⟩))
      go_ret2
      exact ⟨ret2 (by rw [(st_no op a n (Or.inr HS.out)).2]; rfl) (by rw [(st_no op a n (Or.inr HS.out)).1]), rfl⟩
    · have hl := addr_low a ha
      have hc := store_cases op a hf hs
      have hcases : ∃ z r : Nat, sizeOf op = z ∧ a % 4 = r ∧ ((z = 1 ∧ r = 0) ∨ (z = 1 ∧ r = 1) ∨ (z = 1 ∧ r = 2) ∨ (z = 1 ∧ r = 3) ∨ (z = 2 ∧ r = 0) ∨ (z = 2 ∧ r = 2) ∨ (z = 4 ∧ r = 0)) := by
        rcases hc with ⟨_, h⟩ | ⟨_, h, h2⟩ | ⟨_, h, h2⟩
        · exact ⟨1, a % 4, h, rfl, by omega⟩
        · exact ⟨2, a % 4, h, rfl, by omega⟩
        · exact ⟨4, a % 4, h, rfl, by omega⟩
      obtain ⟨z, r, hz, hr, hzr⟩ := hcases
      rw [hr] at hl
      rcases hzr with ⟨rfl, rfl⟩ | ⟨rfl, rfl⟩ | ⟨rfl, rfl⟩ | ⟨rfl, rfl⟩ | ⟨rfl, rfl⟩ | ⟨rfl, rfl⟩ | ⟨rfl, rfl⟩
      all_goals
        obtain ⟨y1, y2⟩ := st_yes op a n _ _ hf hs hz hr
        have Y1 := Lib.hid y1
        have Y2 := Lib.hid y2
        have HA := Lib.hid ha
        have HF := Lib.hid hf
        have HS := Lib.hid hs
        have HZ := Lib.hid hz
        clear ha hf hs y1 y2 hc hz hr
        simp only [Int.cast_ofNat_Int] at hl
        go_enter Try.func9, Try.ntmps9
        go_wp2_with (first | (go_at_call 10; refine (cFitsV op a _ HA.out HF.out _).mono ?_; rintro e w' ⟨rfl, rfl⟩) | (go_at_call 19; refine (cstoreV op _ HS.out _).mono ?_; rintro e w' ⟨rfl, rfl⟩) | (go_at_call 12; refine (cSizeV op _ HZ.out _).mono ?_; rintro e w' ⟨rfl, rfl⟩))
      · refine (cMergeV 0 _ 0 n 1 rfl rfl (by decide) hn _).mono ?_
        rintro e w' ⟨rfl, rfl⟩
        go_wp2_with fail
        go_ret2
        exact ⟨ret2 (by rw [Y2.out, mg_1_0 n hn]) (by rw [Y1.out]; rfl), rfl⟩
      · refine (cMergeV 0 _ 0 (n * 256 % 4294967296) 2 rfl (by omega) (by decide) (modlt _) _).mono ?_
        rintro e w' ⟨rfl, rfl⟩
        go_wp2_with fail
        go_ret2
        exact ⟨ret2 (by rw [Y2.out, mg_1_1 n hn]) (by rw [Y1.out]; rfl), rfl⟩
      · refine (cMergeV 0 _ 0 (n * 65536 % 4294967296) 4 rfl (by omega) (by decide) (modlt _) _).mono ?_
        rintro e w' ⟨rfl, rfl⟩
        go_wp2_with fail
        go_ret2
        exact ⟨ret2 (by rw [Y2.out, mg_1_2 n hn]) (by rw [Y1.out]; rfl), rfl⟩
      · refine (cMergeV 0 _ 0 (n * 16777216 % 4294967296) 8 rfl (by omega) (by decide) (modlt _) _).mono ?_
        rintro e w' ⟨rfl, rfl⟩
        go_wp2_with fail
        go_ret2
        exact ⟨ret2 (by rw [Y2.out, mg_1_3 n hn]) (by rw [Y1.out]; rfl), rfl⟩
      · refine (cMergeV 0 _ 0 n 3 rfl rfl (by decide) hn _).mono ?_
        rintro e w' ⟨rfl, rfl⟩
        go_wp2_with fail
        go_ret2
        exact ⟨ret2 (by rw [Y2.out, mg_2_0 n hn]) (by rw [Y1.out]; rfl), rfl⟩
      · refine (cMergeV 0 _ 0 (n * 65536 % 4294967296) 12 rfl (by omega) (by decide) (modlt _) _).mono ?_
        rintro e w' ⟨rfl, rfl⟩
        go_wp2_with fail
        go_ret2
        exact ⟨ret2 (by rw [Y2.out, mg_2_2 n hn]) (by rw [Y1.out]; rfl), rfl⟩
      · refine (cMergeV 0 _ 0 n 15 rfl rfl (by decide) hn _).mono ?_
        rintro e w' ⟨rfl, rfl⟩
        go_wp2_with fail
        go_ret2
        exact ⟨ret2 (by rw [Y2.out, mg_4_0 n hn]) (by rw [Y1.out]; rfl), rfl⟩
end Go.Proofs.Yteabaipppalpjaa.Al
