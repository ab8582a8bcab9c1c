/- The contracts of package divide's functions: a unit in memory, and what becomes of it. -/
import Derived.Test.YtfgemmiahgmmbaaProg
import Derived.Test.YtfgemmiahgmmbaaBv
import Derived.WalkKit
import Derived.BigQuiet
import Derived.Below
import Derived.Deep.QuietTactic
import Derived.Outline
import Derived.Lib.Hide
set_option linter.unusedVariables false
set_option linter.unusedSimpArgs false
namespace Go.Proofs.Ytfgemmiahgmmbaa.Un
open Go.RowKit Go.Proofs.Ytfgemmiahgmmbaa.Bv
theorem ret_eq {k : IntKind} {a b : Int} (h : a = b) : Ending.returned (.int k a) = .returned (.int k b) := by rw [h]
theorem ret_beq {a b : Bool} (h : a = b) : Ending.returned (.bool a) = .returned (.bool b) := by rw [h]
theorem ret_ub {k : IntKind} {a b : Int} {c d : Bool} (h : a = b) (h2 : c = d) : Ending.returned (.tuple #[.int k a, .bool c]) = .returned (.tuple #[.int k b, .bool d]) := by rw [h, h2]
theorem cwithin (op f l : Int) (w : World) : Calls Try.prog 14 #[.int .i64 op, .int .i64 f, .int .i64 l] w fun e w' => e = .returned (.bool (decide (f ≤ op) && decide (op ≤ l))) ∧ w = w' := by
  by_cases h : f ≤ op
  all_goals
    go_enter Try.func14, Try.ntmps14
    go_wp2
    go_ret
    exact ⟨ret_beq (by first | rw [decide_eq_true h, Bool.true_and] | rw [decide_eq_false (by omega : ¬ f ≤ op), Bool.false_and]), rfl⟩
/-- A number without its sign, and whether it has one. -/
def sizeV (n : Nat) (s : Bool) : Nat × Bool := if s && decide (wrap32 (n : Int) < 0) then ((-wrap32 (n : Int)).toNat, true) else (n, false)
theorem csize (n : Nat) (s : Bool) (hn : n < 4294967296) (w : World) : Calls Try.prog 15 #[.int .u32 n, .bool s] w fun e w' => e = .returned (.tuple #[.int .u64 ((sizeV n s).1 : Int), .bool (sizeV n s).2]) ∧ w = w' := by
  have hr : -2147483648 ≤ wrap32 (n : Int) ∧ wrap32 (n : Int) ≤ 2147483647 := by unfold wrap32; omega
  obtain ⟨x, ex⟩ : ∃ x, ∀ c : Int, c = (n : Int) → wrap32 c = x := ⟨wrap32 n, by rintro c rfl; rfl⟩
  have HX := Lib.hid (ex _ rfl)
  rw [HX.out] at hr
  obtain ⟨r1, r2⟩ := hr
  cases s
  · go_enter Try.func15, Try.ntmps15
    go_wp2
    go_ret2
    exact ⟨ret_ub (by unfold sizeV; rfl) (by unfold sizeV; rfl), rfl⟩
  · by_cases hx : x < 0
    · go_enter Try.func15, Try.ntmps15
      go_wp2
      go_ret2
      exact ⟨ret_ub (by unfold sizeV; rw [HX.out]; simp [hx]; omega) (by unfold sizeV; rw [HX.out]; simp [hx]), rfl⟩
    · go_enter Try.func15, Try.ntmps15
      go_wp2
      go_ret2
      exact ⟨ret_ub (by unfold sizeV; rw [HX.out, decide_eq_false (by omega : ¬ x < 0)]; rfl) (by unfold sizeV; rw [HX.out, decide_eq_false (by omega : ¬ x < 0)]; rfl), rfl⟩
/-- A unit in memory. -/
structure Un where
  op : Int
  a : Nat
  b : Nat
  x : Nat
  y : Nat
  acc : Nat
  out : Nat
  steps : Nat
  minus : Bool
/-- It lies in a block, which may be written. -/
structure At (W : World) (p : Nat) (u : Un) : Prop where
  lt : p < W.heap.size
  c0 : W.cell? ⟨p, 0, none⟩ = some (.int .i64 u.op)
  c1 : W.cell? ⟨p, 1, none⟩ = some (.int .u32 u.a)
  c2 : W.cell? ⟨p, 2, none⟩ = some (.int .u32 u.b)
  c3 : W.cell? ⟨p, 3, none⟩ = some (.int .u64 u.x)
  c4 : W.cell? ⟨p, 4, none⟩ = some (.int .u64 u.y)
  c5 : W.cell? ⟨p, 5, none⟩ = some (.int .u64 u.acc)
  c6 : W.cell? ⟨p, 6, none⟩ = some (.int .u64 u.out)
  c7 : W.cell? ⟨p, 7, none⟩ = some (.int .i64 u.steps)
  c8 : W.cell? ⟨p, 8, none⟩ = some (.bool u.minus)
  f5 : W.frozen? ⟨p, 5, none⟩ = false
  f6 : W.frozen? ⟨p, 6, none⟩ = false
  f7 : W.frozen? ⟨p, 7, none⟩ = false
theorem cdone (W : World) (p : Nat) (u : Un) (h : At W p u) : Calls Try.prog 16 #[.pointer (some ⟨p, 0, none⟩)] W fun e w' => e = .returned (.bool ((u.steps : Int) == 32)) ∧ W = w' := by
  have c7 := h.c7
  clear h
  go_enter Try.func16, Try.ntmps16
  go_wp2
  go_ret
  exact ⟨rfl, rfl⟩
theorem cSteps (W : World) (p : Nat) (u : Un) (h : At W p u) : Calls Try.prog 11 #[.pointer (some ⟨p, 0, none⟩)] W fun e w' => e = .returned (.int .i64 u.steps) ∧ W = w' := by
  have c7 := h.c7
  clear h
  go_enter Try.func11, Try.ntmps11
  go_wp2
  go_ret
  exact ⟨rfl, rfl⟩
/-- The bit that is next. -/
def Un.bit (u : Un) : Nat := u.x / 2 ^ (31 - u.steps) % 2
theorem Un.bit_lt (u : Un) : u.bit < 2 := Nat.mod_lt _ (by decide)
theorem bit_is (u : Un) (hx : u.x < 18446744073709551616) : Go.bits .and .u64 ((u.x : Int) / 2 ^ (31 - u.steps)) 1 = (u.bit : Int) := by
  have e : ((u.x : Int) / 2 ^ (31 - u.steps)) = ((u.x / 2 ^ (31 - u.steps) : Nat) : Int) := by simp
  have hle : u.x / 2 ^ (31 - u.steps) ≤ u.x := Nat.div_le_self _ _
  rw [e, show (1 : Int) = ((1 : Nat) : Int) from rfl, nand64 _ _ (Nat.lt_of_le_of_lt hle hx) (by decide), Nat.and_one_is_mod]; rfl
def Un.mulStep (u : Un) : Un := { u with acc := u.acc * 2 + u.bit * u.y, steps := u.steps + 1 }
theorem set_o (W : World) (p i j : Nat) (v : Value) (h : i ≠ j) : (W.setCell ⟨p, i, none⟩ v).cell? ⟨p, j, none⟩ = W.cell? ⟨p, j, none⟩ := World.cell?_setCell_other W _ _ v (by intro e; injection e; contradiction)
theorem set_s (W : World) (p i : Nat) (v u : Value) (h : W.cell? ⟨p, i, none⟩ = some u) : (W.setCell ⟨p, i, none⟩ v).cell? ⟨p, i, none⟩ = some v := World.cell?_setCell_same W _ v h
theorem set_f (W : World) (p i j : Nat) (v : Value) (h : W.frozen? ⟨p, j, none⟩ = false) : (W.setCell ⟨p, i, none⟩ v).frozen? ⟨p, j, none⟩ = false := by simp [h]
theorem set_z (W : World) (p i : Nat) (v : Value) (h : p < W.heap.size) : p < (W.setCell ⟨p, i, none⟩ v).heap.size := by simp [h]
theorem At.set7 {W : World} {p : Nat} {u : Un} (h : At W p u) (v : Int) (s : Nat) (hv : v = s) : At (W.setCell ⟨p, 7, none⟩ (.int .i64 v)) p { u with steps := s } := by
  subst hv
  exact ⟨set_z _ _ _ _ h.lt, (set_o _ _ 7 0 _ (by decide)).trans h.c0, (set_o _ _ 7 1 _ (by decide)).trans h.c1, (set_o _ _ 7 2 _ (by decide)).trans h.c2, (set_o _ _ 7 3 _ (by decide)).trans h.c3, (set_o _ _ 7 4 _ (by decide)).trans h.c4, (set_o _ _ 7 5 _ (by decide)).trans h.c5, (set_o _ _ 7 6 _ (by decide)).trans h.c6, set_s _ _ _ _ _ h.c7, (set_o _ _ 7 8 _ (by decide)).trans h.c8, set_f _ _ _ _ _ h.f5, set_f _ _ _ _ _ h.f6, set_f _ _ _ _ _ h.f7⟩
theorem At.set5 {W : World} {p : Nat} {u : Un} (h : At W p u) (v : Int) (s : Nat) (hv : v = s) : At (W.setCell ⟨p, 5, none⟩ (.int .u64 v)) p { u with acc := s } := by
  subst hv
  exact ⟨set_z _ _ _ _ h.lt, (set_o _ _ 5 0 _ (by decide)).trans h.c0, (set_o _ _ 5 1 _ (by decide)).trans h.c1, (set_o _ _ 5 2 _ (by decide)).trans h.c2, (set_o _ _ 5 3 _ (by decide)).trans h.c3, (set_o _ _ 5 4 _ (by decide)).trans h.c4, set_s _ _ _ _ _ h.c5, (set_o _ _ 5 6 _ (by decide)).trans h.c6, (set_o _ _ 5 7 _ (by decide)).trans h.c7, (set_o _ _ 5 8 _ (by decide)).trans h.c8, set_f _ _ _ _ _ h.f5, set_f _ _ _ _ _ h.f6, set_f _ _ _ _ _ h.f7⟩
theorem At.set6 {W : World} {p : Nat} {u : Un} (h : At W p u) (v : Int) (s : Nat) (hv : v = s) : At (W.setCell ⟨p, 6, none⟩ (.int .u64 v)) p { u with out := s } := by
  subst hv
  exact ⟨set_z _ _ _ _ h.lt, (set_o _ _ 6 0 _ (by decide)).trans h.c0, (set_o _ _ 6 1 _ (by decide)).trans h.c1, (set_o _ _ 6 2 _ (by decide)).trans h.c2, (set_o _ _ 6 3 _ (by decide)).trans h.c3, (set_o _ _ 6 4 _ (by decide)).trans h.c4, (set_o _ _ 6 5 _ (by decide)).trans h.c5, set_s _ _ _ _ _ h.c6, (set_o _ _ 6 7 _ (by decide)).trans h.c7, (set_o _ _ 6 8 _ (by decide)).trans h.c8, set_f _ _ _ _ _ h.f5, set_f _ _ _ _ _ h.f6, set_f _ _ _ _ _ h.f7⟩
end Go.Proofs.Ytfgemmiahgmmbaa.Un
