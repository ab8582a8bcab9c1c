/- The contracts of package trap's functions and of their reference's, each with the value that it returns. -/
import Derived.Test.YtnecpenihjlpnaaSz
import Derived.Below
set_option linter.unusedVariables false
set_option linter.unusedSimpArgs false
namespace Go.Proofs.Ytnecpenihjlpnaa.Al
open Go.RowKit Go.Proofs.Ytnecpenihjlpnaa.Bv
def insideB (a : Nat) : Bool := decide ((a : Int) < 4096)
def deviceB (a : Nat) : Bool := (a : Int) == 268435456 || (a : Int) == 268435460
theorem cInside (a : Nat) (w : World) : Calls Try.prog 12 #[.int .u32 a] w fun e w' => e = .returned (.bool (insideB a)) ∧ w = w' := by
  go_enter Try.func12, Try.ntmps12
  go_wp2
  all_goals (go_ret; exact ⟨rfl, rfl⟩)
theorem cInsideR (a : Nat) (w : World) : Calls Try.prog 15 #[.int .u32 a] w fun e w' => e = .returned (.bool (insideB a)) ∧ w = w' := by
  go_enter Try.func15, Try.ntmps15
  go_wp2
  all_goals (go_ret; exact ⟨rfl, rfl⟩)
theorem cDevice (a : Nat) (w : World) : Calls Try.prog 16 #[.int .u32 a] w fun e w' => e = .returned (.bool (deviceB a)) ∧ w = w' := by
  go_enter Try.func16, Try.ntmps16
  go_wp2
  all_goals (go_ret; exact ⟨ret_beq (by simp_all [deviceB]), rfl⟩)
theorem cDeviceR (a : Nat) (w : World) : Calls Try.prog 17 #[.int .u32 a] w fun e w' => e = .returned (.bool (deviceB a)) ∧ w = w' := by
  go_enter Try.func17, Try.ntmps17
  go_wp2
  all_goals (go_ret; exact ⟨ret_beq (by simp_all [deviceB]), rfl⟩)
/-- Why there is no instruction. -/
def fetchV (a : Nat) : Int × Bool := if a % 4 = 0 then (if insideB a then (0, false) else (1, true)) else (0, true)
theorem ret_ib {k : IntKind} {a b : Int} {c d : Bool} (h : a = b) (h2 : c = d) : Ending.returned (.tuple #[.int k a, .bool c]) = .returned (.tuple #[.int k b, .bool d]) := by rw [h, h2]
theorem cInsideV (a : Nat) (b : Bool) (h : insideB a = b) (w : World) : Calls Try.prog 12 #[.int .u32 a] w fun e w' => e = .returned (.bool b) ∧ w = w' := by subst h; exact cInside a w
theorem cInsideRV (a : Nat) (b : Bool) (h : insideB a = b) (w : World) : Calls Try.prog 15 #[.int .u32 a] w fun e w' => e = .returned (.bool b) ∧ w = w' := by subst h; exact cInsideR a w
theorem mod4 (a : Nat) : (((a : Int) % 4 != 0) = false ∧ a % 4 = 0) ∨ (((a : Int) % 4 != 0) = true ∧ ¬ a % 4 = 0) := by
  by_cases h : a % 4 = 0
  · exact Or.inl ⟨by simp; omega, h⟩
  · exact Or.inr ⟨by simp; omega, h⟩
theorem cFetch (a : Nat) (w : World) : Calls Try.prog 11 #[.int .u32 a] w fun e w' => e = .returned (.tuple #[.int .i64 (fetchV a).1, .bool (fetchV a).2]) ∧ w = w' := by
  rcases mod4 a with ⟨b, h⟩ | ⟨b, h⟩ <;> cases hi : insideB a
  all_goals
    have H := Lib.hid h
    have HI := Lib.hid hi
    clear h hi
    go_enter Try.func11, Try.ntmps11
    go_wp2_with (go_at_call 12; refine (cInsideV a _ HI.out _).mono ?_; rintro e w' ⟨rfl, rfl⟩)
    go_ret2
    exact ⟨ret_ib (by unfold fetchV; have h := H.out; have hi := HI.out; simp [h, hi]) (by unfold fetchV; have h := H.out; have hi := HI.out; simp [h, hi]), rfl⟩
theorem cFetchR (a : Nat) (w : World) : Calls Try.prog 13 #[.int .u32 a] w fun e w' => e = .returned (.tuple #[.int .i64 (fetchV a).1, .bool (fetchV a).2]) ∧ w = w' := by
  rcases mod4 a with ⟨b, h⟩ | ⟨b, h⟩ <;> cases hi : insideB a
  all_goals
    have H := Lib.hid h
    have HI := Lib.hid hi
    clear h hi
    go_enter Try.func13, Try.ntmps13
    go_wp2_with (go_at_call 15; refine (cInsideRV a _ HI.out _).mono ?_; rintro e w' ⟨rfl, rfl⟩)
    go_ret2
    exact ⟨ret_ib (by unfold fetchV; have h := H.out; have hi := HI.out; simp [h, hi]) (by unfold fetchV; have h := H.out; have hi := HI.out; simp [h, hi]), rfl⟩
/-- Why a load, a store may not be. -/
def accessV (op : Int) (a : Nat) : Int × Bool :=
  if sizeOf op = 0 then (0, false)
  else if fitsB op a = false then (if storeB op then 6 else 4, true)
  else if insideB a || op == 18 && deviceB a then (0, false) else (if storeB op then 7 else 5, true)
theorem cDeviceV (a : Nat) (b : Bool) (h : deviceB a = b) (w : World) : Calls Try.prog 16 #[.int .u32 a] w fun e w' => e = .returned (.bool b) ∧ w = w' := by subst h; exact cDevice a w
theorem cDeviceRV (a : Nat) (b : Bool) (h : deviceB a = b) (w : World) : Calls Try.prog 17 #[.int .u32 a] w fun e w' => e = .returned (.bool b) ∧ w = w' := by subst h; exact cDeviceR a w
theorem cFitsV (op : Int) (a : Nat) (b : Bool) (ha : a < 4294967296) (h : fitsB op a = b) (w : World) : Calls Try.prog 20 #[.int .i64 op, .int .u32 a] w fun e w' => e = .returned (.bool b) ∧ w = w' := by subst h; exact cFits op a ha w
theorem cFitsRV (op : Int) (a : Nat) (b : Bool) (ha : a < 4294967296) (h : fitsB op a = b) (w : World) : Calls Try.prog 22 #[.int .i64 op, .int .u32 a] w fun e w' => e = .returned (.bool b) ∧ w = w' := by subst h; exact cFitsR op a ha w
/-- An op that moves nothing, or one of eight. -/
theorem op_cases (op : Int) : sizeOf op = 0 ∨ (op = 11 ∧ sizeOf op = 1) ∨ (op = 12 ∧ sizeOf op = 2) ∨ (op = 13 ∧ sizeOf op = 4) ∨ (op = 14 ∧ sizeOf op = 1) ∨ (op = 15 ∧ sizeOf op = 2) ∨ (op = 16 ∧ sizeOf op = 1) ∨ (op = 17 ∧ sizeOf op = 2) ∨ (op = 18 ∧ sizeOf op = 4) := by
  unfold sizeOf
  by_cases h1 : op = 11 ∨ op = 14 ∨ op = 16
  · rw [if_pos h1]; omega
  · rw [if_neg h1]
    by_cases h2 : op = 12 ∨ op = 15 ∨ op = 17
    · rw [if_pos h2]; omega
    · rw [if_neg h2]
      by_cases h3 : op = 13 ∨ op = 18
      · rw [if_pos h3]; omega
      · rw [if_neg h3]; exact Or.inl rfl
theorem access_none (op : Int) (a : Nat) (h : sizeOf op = 0) : accessV op a = (0, false) := by unfold accessV; rw [if_pos h]
set_option maxHeartbeats 1000000 in
set_option maxRecDepth 10000 in
theorem cAccess (op : Int) (a : Nat) (ha : a < 4294967296) (w : World) : Calls Try.prog 10 #[.int .i64 op, .int .u32 a] w fun e w' => e = .returned (.tuple #[.int .i64 (accessV op a).1, .bool (accessV op a).2]) ∧ w = w' := by
  rcases op_cases op with h | h
  · have H := Lib.hid h
    clear h
    go_enter Try.func10, Try.ntmps10
    go_wp2_with (go_at_call 19; refine (cSizeV op _ H.out _).mono ?_; rintro e w' ⟨rfl, rfl⟩)
    go_ret2
    exact ⟨ret_ib (by rw [access_none op a H.out]) (by rw [access_none op a H.out]), rfl⟩
  · cases hf : fitsB op a <;> cases hi : insideB a <;> cases hd : deviceB a <;> rcases h with ⟨rfl, hz⟩ | ⟨rfl, hz⟩ | ⟨rfl, hz⟩ | ⟨rfl, hz⟩ | ⟨rfl, hz⟩ | ⟨rfl, hz⟩ | ⟨rfl, hz⟩ | ⟨rfl, hz⟩
    all_goals
      have HA := Lib.hid ha
      have HF := Lib.hid hf
      have HI := Lib.hid hi
      have HD := Lib.hid hd
      have HZ := Lib.hid hz
      clear ha hf hi hd hz
      go_enter Try.func10, Try.ntmps10
      go_wp2_with (first
        | (go_at_call 19; refine (cSizeV _ _ HZ.out _).mono ?_; rintro e w' ⟨rfl, rfl⟩)
        | (go_at_call 20; refine (cFitsV _ a _ HA.out HF.out _).mono ?_; rintro e w' ⟨rfl, rfl⟩)
        | (go_at_call 12; refine (cInsideV a _ HI.out _).mono ?_; rintro e w' ⟨rfl, rfl⟩)
        | (go_at_call 16; refine (cDeviceV a _ HD.out _).mono ?_; rintro e w' ⟨rfl, rfl⟩))
      go_ret2
      exact ⟨ret_ib (by unfold accessV; rw [HF.out, HI.out, HD.out]; rfl) (by unfold accessV; rw [HF.out, HI.out, HD.out]; rfl), rfl⟩
set_option maxHeartbeats 1000000 in
set_option maxRecDepth 10000 in
theorem cAccessR (op : Int) (a : Nat) (ha : a < 4294967296) (w : World) : Calls Try.prog 14 #[.int .i64 op, .int .u32 a] w fun e w' => e = .returned (.tuple #[.int .i64 (accessV op a).1, .bool (accessV op a).2]) ∧ w = w' := by
  rcases op_cases op with h | h
  · have H := Lib.hid h
    clear h
    go_enter Try.func14, Try.ntmps14
    go_wp2_with (go_at_call 21; refine (cSizeRV op _ H.out _).mono ?_; rintro e w' ⟨rfl, rfl⟩)
    go_ret2
    exact ⟨ret_ib (by rw [access_none op a H.out]) (by rw [access_none op a H.out]), rfl⟩
  · cases hf : fitsB op a <;> cases hi : insideB a <;> cases hd : deviceB a <;> rcases h with ⟨rfl, hz⟩ | ⟨rfl, hz⟩ | ⟨rfl, hz⟩ | ⟨rfl, hz⟩ | ⟨rfl, hz⟩ | ⟨rfl, hz⟩ | ⟨rfl, hz⟩ | ⟨rfl, hz⟩
    all_goals
      have HA := Lib.hid ha
      have HF := Lib.hid hf
      have HI := Lib.hid hi
      have HD := Lib.hid hd
      have HZ := Lib.hid hz
      clear ha hf hi hd hz
      go_enter Try.func14, Try.ntmps14
      go_wp2_with (first
        | (go_at_call 21; refine (cSizeRV _ _ HZ.out _).mono ?_; rintro e w' ⟨rfl, rfl⟩)
        | (go_at_call 22; refine (cFitsRV _ a _ HA.out HF.out _).mono ?_; rintro e w' ⟨rfl, rfl⟩)
        | (go_at_call 15; refine (cInsideRV a _ HI.out _).mono ?_; rintro e w' ⟨rfl, rfl⟩)
        | (go_at_call 17; refine (cDeviceRV a _ HD.out _).mono ?_; rintro e w' ⟨rfl, rfl⟩))
      go_ret2
      exact ⟨ret_ib (by unfold accessV; rw [HF.out, HI.out, HD.out]; rfl) (by unfold accessV; rw [HF.out, HI.out, HD.out]; rfl), rfl⟩
end Go.Proofs.Ytnecpenihjlpnaa.Al
