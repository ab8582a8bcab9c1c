/- The abstract machine's tables for this program; what was retired, as values. -/
import Derived.Test.YtpoknlbnookhjaaTb
import Derived.WalkKit
import Derived.Lib.Hide
import Derived.Below
import Derived.Laws.StructEq
set_option linter.unusedVariables false
set_option linter.unusedSimpArgs false
namespace Go.Proofs.Ytpoknlbnookhjaa.Md
open Go.RowKit Go.Proofs.Ytpoknlbnookhjaa.Ae Go.Proofs.Ytpoknlbnookhjaa
/-- Two records' cells: are they the same? -/
def eqR : List Seg → List Seg → Option Bool
  | [.one (.int .u32 a), .one (.int .u32 b), .one (.int .i64 c), .one (.bool d), .one (.int .u32 e), .one (.int .u32 f), .one (.int .i64 g)], [.one (.int .u32 a'), .one (.int .u32 b'), .one (.int .i64 c'), .one (.bool d'), .one (.int .u32 e'), .one (.int .u32 f'), .one (.int .i64 g')] => some (a == a' && (b == b' && (c == c' && (d == d' && (e == e' && (f == f' && g == g'))))))
  | _, _ => none
def E : EE := fun t l m => match Nat.beq t 25 with
  | true => eqR l m
  | false => none
def M : MM := fun _ _ => none
def D : Tab := ⟨Tb.T, E, M⟩
theorem rels7 {R : Ren} {a b c d e f g : V} {cs : List Value} (h : rels R [a, b, c, d, e, f, g] cs) : ∃ x0 x1 x2 x3 x4 x5 x6, cs = [x0, x1, x2, x3, x4, x5, x6] ∧ a.rel R x0 ∧ b.rel R x1 ∧ c.rel R x2 ∧ d.rel R x3 ∧ e.rel R x4 ∧ f.rel R x5 ∧ g.rel R x6 := by
  cases h with
  | cons h0 h => cases h with
    | cons h1 h => cases h with
      | cons h2 h => cases h with
        | cons h3 h => cases h with
          | cons h4 h => cases h with
            | cons h5 h => cases h with
              | cons h6 h => cases h; exact ⟨_, _, _, _, _, _, _, rfl, h0, h1, h2, h3, h4, h5, h6⟩
theorem eqRet (a b c : Int) (d : Bool) (e f g a' b' c' : Int) (d' : Bool) (e' f' g' : Int) (w : World) : (Op.equalIn 10000 25 (.agg #[.int .u32 a, .int .u32 b, .int .i64 c, .bool d, .int .u32 e, .int .u32 f, .int .i64 g]) (.agg #[.int .u32 a', .int .u32 b', .int .i64 c', .bool d', .int .u32 e', .int .u32 f', .int .i64 g'])).run Try.prog w = .ok (a == a' && (b == b' && (c == c' && (d == d' && (e == e' && (f == f' && g == g')))))) w := by
  have hS : Try.prog.underlying 25 = some (.struct (Try.prog.fieldsOf 25)) := by kernel_rfl
  have hp : Try.prog.stoodInHeld 25 = false := by kernel_rfl
  have u3 := Try.underlying3
  have u26 := Try.underlying23
  have u4 := Try.underlying4
  have a3 := Try.isAgg3
  have a26 := Try.isAgg23
  have a4 := Try.isAgg4
  have z3 := Try.sizeOf3
  have z26 := Try.sizeOf23
  have z4 := Try.sizeOf4
  rw [show (10000 : Nat) = 9999 + 1 from rfl, run_equalIn_agg w 9999 25 _ _ hS hp]
  simp only [Program.fieldsOf, Try.underlying25]
  go_simp
  by_cases h1 : a = a'
  · by_cases h2 : b = b'
    · by_cases h3 : c = c'
      · by_cases h4 : d = d'
        · by_cases h5 : e = e'
          · by_cases h6 : f = f'
            · by_cases h7 : g = g'
              · simp [h1, h2, h3, h4, h5, h6, h7]
              · simp [h1, h2, h3, h4, h5, h6, h7]
            · simp [h1, h2, h3, h4, h5, h6]
          · simp [h1, h2, h3, h4, h5]
        · simp [h1, h2, h3, h4]
      · simp [h1, h2, h3]
    · simp [h1, h2]
  · simp [h1]
theorem eok : EOK Try.prog E := by
  intro t l m r h R x y w hx hy
  unfold E at h
  split at h
  · rename_i ht
    have ht := Nat.eq_of_beq_eq_true ht
    subst ht
    unfold eqR at h
    split at h
    · injection h with h; subst h
      obtain ⟨_, cx, hx, rfl⟩ := hx
      obtain ⟨_, cy, hy, rfl⟩ := hy
      obtain ⟨x0, x1, x2, x3, x4, x5, x6, rfl, rfl, rfl, rfl, rfl, rfl, rfl, rfl⟩ := rels7 hx
      obtain ⟨y0, y1, y2, y3, y4, y5, y6, rfl, rfl, rfl, rfl, rfl, rfl, rfl, rfl⟩ := rels7 hy
      refine ⟨?_, ?_, fun op o1 o2 => run_eqGuard_agg w op _ o1 o2 _ _ (by kernel_rfl)⟩
      · rw [run_eql_struct, eqRet]; rfl
      · rw [run_neq_struct, eqRet]; rfl
    · cases h
  · cases h
theorem mixed : Try.prog.follows .mixedOrders = true := by kernel_rfl
theorem dok : D.ok Try.prog := ⟨Tb.tok, eok, (fun _ _ _ h => by cases h), Tb.all_ok, mixed⟩
end Go.Proofs.Ytpoknlbnookhjaa.Md
