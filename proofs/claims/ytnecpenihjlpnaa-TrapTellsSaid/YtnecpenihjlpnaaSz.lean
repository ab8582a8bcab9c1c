/- The contracts of align's Size and Fits and of their reference's, each with the value that it returns. -/
import Derived.Test.YtnecpenihjlpnaaProg
import Derived.Test.YtnecpenihjlpnaaBv
import Derived.WalkKit
import Derived.BigQuiet
import Derived.Deep.QuietTactic
import Derived.Outline
import Derived.Lib.Hide
set_option linter.unusedVariables false
set_option linter.unusedSimpArgs false
namespace Go.Proofs.Ytnecpenihjlpnaa.Al
open Go.RowKit Go.Proofs.Ytnecpenihjlpnaa.Bv

def sizeOf (op : Int) : Int := if op = 11 ∨ op = 14 ∨ op = 16 then 1 else if op = 12 ∨ op = 15 ∨ op = 17 then 2 else if op = 13 ∨ op = 18 then 4 else 0
def storeB (op : Int) : Bool := op == 16 || op == 17 || op == 18
theorem ret_eq {k : IntKind} {a b : Int} (h : a = b) : Ending.returned (.int k a) = .returned (.int k b) := by rw [h]
theorem ret_beq {a b : Bool} (h : a = b) : Ending.returned (.bool a) = .returned (.bool b) := by rw [h]
theorem cSize (op : Int) (w : World) : Calls Try.prog 19 #[.int .i64 op] w fun e w' => e = .returned (.int .i64 (sizeOf op)) ∧ w = w' := by
  go_enter Try.func19, Try.ntmps19
  go_wp2
  all_goals (go_ret; exact ⟨ret_eq (by simp_all [sizeOf]), rfl⟩)
theorem cSizeR (op : Int) (w : World) : Calls Try.prog 21 #[.int .i64 op] w fun e w' => e = .returned (.int .i64 (sizeOf op)) ∧ w = w' := by
  go_enter Try.func21, Try.ntmps21
  go_wp2
  all_goals (go_ret; exact ⟨ret_eq (by simp_all [sizeOf]), rfl⟩)
def fitsB (op : Int) (a : Nat) : Bool := decide (0 < sizeOf op) && ((a : Int) % sizeOf op == 0)
theorem sizeOf_cases (op : Int) : sizeOf op = 0 ∨ sizeOf op = 1 ∨ sizeOf op = 2 ∨ sizeOf op = 4 := by
  unfold sizeOf
  by_cases h1 : op = 11 ∨ op = 14 ∨ op = 16
  · rw [if_pos h1]; omega
  · rw [if_neg h1]
    by_cases h2 : op = 12 ∨ op = 15 ∨ op = 17
    · rw [if_pos h2]; omega
    · rw [if_neg h2]
      by_cases h3 : op = 13 ∨ op = 18
      · rw [if_pos h3]; omega
      · rw [if_neg h3]; omega
theorem cSizeV (op z : Int) (h : sizeOf op = z) (w : World) : Calls Try.prog 19 #[.int .i64 op] w fun e w' => e = .returned (.int .i64 z) ∧ w = w' := by subst h; exact cSize op w
theorem cSizeRV (op z : Int) (h : sizeOf op = z) (w : World) : Calls Try.prog 21 #[.int .i64 op] w fun e w' => e = .returned (.int .i64 z) ∧ w = w' := by subst h; exact cSizeR op w
theorem cFits (op : Int) (a : Nat) (ha : a < 4294967296) (w : World) : Calls Try.prog 20 #[.int .i64 op, .int .u32 a] w fun e w' => e = .returned (.bool (fitsB op a)) ∧ w = w' := by
  rcases sizeOf_cases op with h | h | h | h
  all_goals
    have H := Lib.hid h
    clear h
    go_enter Try.func20, Try.ntmps20
    go_wp2_with (go_at_call 19; refine (cSizeV op _ H.out _).mono ?_; rintro e w' ⟨rfl, rfl⟩)
    all_goals (go_ret; exact ⟨ret_beq (by have h := H.out; simp_all [fitsB]), rfl⟩)
theorem cFitsR (op : Int) (a : Nat) (ha : a < 4294967296) (w : World) : Calls Try.prog 22 #[.int .i64 op, .int .u32 a] w fun e w' => e = .returned (.bool (fitsB op a)) ∧ w = w' := by
  rcases sizeOf_cases op with h | h | h | h
  all_goals
    have H := Lib.hid h
    clear h
    go_enter Try.func22, Try.ntmps22
    go_wp2_with (go_at_call 21; refine (cSizeRV op _ H.out _).mono ?_; rintro e w' ⟨rfl, rfl⟩)
    all_goals (go_ret; exact ⟨ret_beq (by have h := H.out; simp_all [fitsB]), rfl⟩)

end Go.Proofs.Ytnecpenihjlpnaa.Al
