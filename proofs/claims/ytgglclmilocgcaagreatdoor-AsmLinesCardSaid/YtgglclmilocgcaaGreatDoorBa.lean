/- The abstract machine's tables for this program; instructions as values, and whether two are the same. -/
import Derived.Test.YtgglclmilocgcaaGreatDoorTb
import Derived.Laws.StructEq
set_option linter.unusedVariables false
set_option linter.unusedSimpArgs false
namespace Go.Proofs.YtgglclmilocgcaaGreatDoor.Md
open Go.RowKit Go.Proofs.YtgglclmilocgcaaGreatDoor.Ae Go.Proofs.YtgglclmilocgcaaGreatDoor
/-- Two instructions' cells: are they the same? -/
def eqI : List Seg → List Seg → Option Bool
  | [.one (.int .i64 a), .one (.int .i64 b), .one (.int .i64 c), .one (.int .i64 d), .one (.int .i32 e)], [.one (.int .i64 a'), .one (.int .i64 b'), .one (.int .i64 c'), .one (.int .i64 d'), .one (.int .i32 e')] => some (a == a' && (b == b' && (c == c' && (d == d' && e == e'))))
  | _, _ => none
def E : EE := fun t l m => match Nat.beq t 41 with
  | true => eqI l m
  | false => none
def M : MM := fun _ _ => none
def D : Tab := ⟨Tb.T, E, M⟩
theorem rels5 {R : Ren} {a b c d e : V} {cs : List Value} (h : rels R [a, b, c, d, e] cs) : ∃ x0 x1 x2 x3 x4, cs = [x0, x1, x2, x3, x4] ∧ a.rel R x0 ∧ b.rel R x1 ∧ c.rel R x2 ∧ d.rel R x3 ∧ e.rel R x4 := by
  cases h with
  | cons h0 h => cases h with
    | cons h1 h => cases h with
      | cons h2 h => cases h with
        | cons h3 h => cases h with
          | cons h4 h => cases h; exact ⟨_, _, _, _, _, rfl, h0, h1, h2, h3, h4⟩
theorem eqInst (a b c d e a' b' c' d' e' : Int) (w : World) : (Op.equalIn 10000 41 (.agg #[.int .i64 a, .int .i64 b, .int .i64 c, .int .i64 d, .int .i32 e]) (.agg #[.int .i64 a', .int .i64 b', .int .i64 c', .int .i64 d', .int .i32 e'])).run Tryz.prog w = .ok (a == a' && (b == b' && (c == c' && (d == d' && e == e')))) w := by
  have hS : Tryz.prog.underlying 41 = some (.struct (Tryz.prog.fieldsOf 41)) := by kernel_rfl
  have hp : Tryz.prog.stoodInHeld 41 = false := by kernel_rfl
  have u3 := Tryz.underlying3
  have u26 := Tryz.underlying21
  have a3 := Tryz.isAgg3
  have a26 := Tryz.isAgg21
  have z3 := Tryz.sizeOf3
  have z26 := Tryz.sizeOf21
  rw [show (10000 : Nat) = 9999 + 1 from rfl, run_equalIn_agg w 9999 41 _ _ hS hp]
  simp only [Program.fieldsOf, Tryz.underlying41]
  go_simp
  by_cases h1 : a = a'
  · by_cases h2 : b = b'
    · by_cases h3 : c = c'
      · by_cases h4 : d = d'
        · by_cases h5 : e = e'
          · simp [h1, h2, h3, h4, h5]
          · simp [h1, h2, h3, h4, h5]
        · simp [h1, h2, h3, h4]
      · simp [h1, h2, h3]
    · simp [h1, h2]
  · simp [h1]
theorem eok : EOK Tryz.prog E := by
  intro t l m r h R x y w hx hy
  unfold E at h
  split at h
  · rename_i ht
    have ht := Nat.eq_of_beq_eq_true ht
    subst ht
    unfold eqI at h
    split at h
    · injection h with h; subst h
      obtain ⟨_, cx, hx, rfl⟩ := hx
      obtain ⟨_, cy, hy, rfl⟩ := hy
      obtain ⟨x0, x1, x2, x3, x4, rfl, rfl, rfl, rfl, rfl, rfl⟩ := rels5 hx
      obtain ⟨y0, y1, y2, y3, y4, rfl, rfl, rfl, rfl, rfl, rfl⟩ := rels5 hy
      refine ⟨?_, ?_, fun op o1 o2 => run_eqGuard_agg w op _ o1 o2 _ _ (by kernel_rfl)⟩
      · rw [run_eql_struct, eqInst]; rfl
      · rw [run_neq_struct, eqInst]; rfl
    · cases h
  · cases h
theorem mixed : Tryz.prog.follows .mixedOrders = true := by kernel_rfl
theorem dok : D.ok Tryz.prog := ⟨Tb.tok, eok, (fun _ _ _ h => by cases h), Tb.all_ok, mixed⟩
abbrev i64 (n : Int) : AV := .v (.int .i64 n)
abbrev i32 (n : Int) : AV := .v (.int .i32 n)
abbrev u32 (n : Int) : AV := .v (.int .u32 n)
abbrev bo (b : Bool) : AV := .v (.bool b)
/-- An instruction's cells. -/
abbrev inst (a b c d e : Int) : List Seg := [.one (.int .i64 a), .one (.int .i64 b), .one (.int .i64 c), .one (.int .i64 d), .one (.int .i32 e)]
end Go.Proofs.YtgglclmilocgcaaGreatDoor.Md
