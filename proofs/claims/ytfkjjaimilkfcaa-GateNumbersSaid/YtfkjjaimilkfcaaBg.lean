/- The abstract machine's tables for this program; what was retired, as values. -/
import Derived.Test.YtfkjjaimilkfcaaDl
import Derived.Test.YtfkjjaimilkfcaaMp
import Derived.Laws.StructEq
set_option linter.unusedVariables false
set_option linter.unusedSimpArgs false
namespace Go.Proofs.Ytfkjjaimilkfcaa.Md
open Go.RowKit Go.Proofs.Ytfkjjaimilkfcaa.Ae Go.Proofs.Ytfkjjaimilkfcaa Go.Proofs.Ytfkjjaimilkfcaa.Al
/-- Two records' cells: are they the same? -/
def eqR : List Seg → List Seg → Option Bool
  | [.one (.int .u32 a), .one (.int .u32 b), .one (.int .i64 c), .one (.bool d), .one (.int .u32 e), .one (.int .u32 f), .one (.int .i64 g)], [.one (.int .u32 a'), .one (.int .u32 b'), .one (.int .i64 c'), .one (.bool d'), .one (.int .u32 e'), .one (.int .u32 f'), .one (.int .i64 g')] => some (a == a' && (b == b' && (c == c' && (d == d' && (e == e' && (f == f' && g == g'))))))
  | _, _ => none
def E : EE := fun t l m => match Nat.beq t 28 with
  | true => eqR l m
  | false => none
def M : MM := fun _ _ => none
def D : Tab := ⟨Tb.T, E, M⟩
theorem rels7 {R : Ren} {a b c d e f g : V} {cs : List Value} (h : rels R [a, b, c, d, e, f, g] cs) : ∃ x0 x1 x2 x3 x4 x5 x6, cs = [x0, x1, x2, x3, x4, x5, x6] ∧ a.rel R x0 ∧ b.rel R x1 ∧ c.rel R x2 ∧ d.rel R x3 ∧ e.rel R x4 ∧ f.rel R x5 ∧ g.rel R x6 := by
  cases h with
  | cons h0 h => cases h with
    | cons h1 h => cases h with
      | cons h2 h => cases h with
        | cons h3 h => cases h with
          | cons h4 h => cases h with
            | cons h5 h => cases h with
              | cons h6 h => cases h; exact ⟨_, _, _, _, _, _, _, rfl, h0, h1, h2, h3, h4, h5, h6⟩
theorem eqRet (a b c : Int) (d : Bool) (e f g a' b' c' : Int) (d' : Bool) (e' f' g' : Int) (w : World) : (Op.equalIn 10000 28 (.agg #[.int .u32 a, .int .u32 b, .int .i64 c, .bool d, .int .u32 e, .int .u32 f, .int .i64 g]) (.agg #[.int .u32 a', .int .u32 b', .int .i64 c', .bool d', .int .u32 e', .int .u32 f', .int .i64 g'])).run Try.prog w = .ok (a == a' && (b == b' && (c == c' && (d == d' && (e == e' && (f == f' && g == g')))))) w := by
  have hS : Try.prog.underlying 28 = some (.struct (Try.prog.fieldsOf 28)) := by kernel_rfl
  have hp : Try.prog.stoodInHeld 28 = false := by kernel_rfl
  have u3 := Try.underlying3
  have u26 := Try.underlying26
  have u4 := Try.underlying4
  have a3 := Try.isAgg3
  have a26 := Try.isAgg26
  have a4 := Try.isAgg4
  have z3 := Try.sizeOf3
  have z26 := Try.sizeOf26
  have z4 := Try.sizeOf4
  rw [show (10000 : Nat) = 9999 + 1 from rfl, run_equalIn_agg w 9999 28 _ _ hS hp]
  simp only [Program.fieldsOf, Try.underlying28]
  go_simp
  by_cases h1 : a = a'
  · by_cases h2 : b = b'
    · by_cases h3 : c = c'
      · by_cases h4 : d = d'
        · by_cases h5 : e = e'
          · by_cases h6 : f = f'
            · by_cases h7 : g = g'
              · simp [h1, h2, h3, h4, h5, h6, h7]
              · simp [h1, h2, h3, h4, h5, h6, h7]
            · simp [h1, h2, h3, h4, h5, h6]
          · simp [h1, h2, h3, h4, h5]
        · simp [h1, h2, h3, h4]
      · simp [h1, h2, h3]
    · simp [h1, h2]
  · simp [h1]
theorem eok : EOK Try.prog E := by
  intro t l m r h R x y w hx hy
  unfold E at h
  split at h
  · rename_i ht
    have ht := Nat.eq_of_beq_eq_true ht
    subst ht
    unfold eqR at h
    split at h
    · injection h with h; subst h
      obtain ⟨_, cx, hx, rfl⟩ := hx
      obtain ⟨_, cy, hy, rfl⟩ := hy
      obtain ⟨x0, x1, x2, x3, x4, x5, x6, rfl, rfl, rfl, rfl, rfl, rfl, rfl, rfl⟩ := rels7 hx
      obtain ⟨y0, y1, y2, y3, y4, y5, y6, rfl, rfl, rfl, rfl, rfl, rfl, rfl, rfl⟩ := rels7 hy
      refine ⟨?_, ?_, fun op o1 o2 => run_eqGuard_agg w op _ o1 o2 _ _ (by kernel_rfl)⟩
      · rw [run_eql_struct, eqRet]; rfl
      · rw [run_neq_struct, eqRet]; rfl
    · cases h
  · cases h
theorem mixed : Try.prog.follows .mixedOrders = true := by kernel_rfl
theorem dok : D.ok Try.prog := ⟨Tb.tok, eok, (fun _ _ _ h => by cases h), Tb.all_ok, mixed⟩
abbrev i64 (n : Int) : AV := .v (.int .i64 n)
abbrev i32 (n : Int) : AV := .v (.int .i32 n)
abbrev u32 (n : Int) : AV := .v (.int .u32 n)
abbrev bo (b : Bool) : AV := .v (.bool b)
/-- What was retired. -/
abbrev R7 := Int × Int × Int × Bool × Int × Nat × Int
abbrev rs (r : R7) : List Seg := [.one (.int .u32 r.1), .one (.int .u32 r.2.1), .one (.int .i64 r.2.2.1), .one (.bool r.2.2.2.1), .one (.int .u32 r.2.2.2.2.1), .one (.int .u32 (r.2.2.2.2.2.1 : Nat)), .one (.int .i64 r.2.2.2.2.2.2)]
abbrev rc (r : R7) : List V := [.int .u32 r.1, .int .u32 r.2.1, .int .i64 r.2.2.1, .bool r.2.2.2.1, .int .u32 r.2.2.2.2.1, .int .u32 (r.2.2.2.2.2.1 : Nat), .int .i64 r.2.2.2.2.2.2]
theorem eq7 (r s : R7) : (r.1 == s.1 && (r.2.1 == s.2.1 && (r.2.2.1 == s.2.2.1 && (r.2.2.2.1 == s.2.2.2.1 && (r.2.2.2.2.1 == s.2.2.2.2.1 && (((r.2.2.2.2.2.1 : Nat) : Int) == ((s.2.2.2.2.2.1 : Nat) : Int) && r.2.2.2.2.2.2 == s.2.2.2.2.2.2)))))) = decide (r = s) := by
  obtain ⟨a, b, c, d, e, f, g⟩ := r
  obtain ⟨a', b', c', d', e', f', g'⟩ := s
  rw [Bool.eq_iff_iff]
  simp only [Bool.and_eq_true, beq_iff_eq, decide_eq_true_eq, Prod.mk.injEq, Int.ofNat_inj]
theorem eqr_rs (r s : R7) : eqR (rs r) (rs s) = some (decide (r = s)) := by rw [← eq7]; rfl
/-- A row of what was retired: a slice's value, and its block. -/
def rowV (nm n : Nat) (v : V) : Prop := (v = .nilS ∧ n = 0) ∨ v = .sl nm 0 0 n 7
theorem mergeA (o d : Nat) (m : Int) (ho : o < 4294967296) (hd : d < 4294967296) (H : Hp) : AC Try.prog 17 [u32 o, u32 d, i64 m] H (fun v H' => v = u32 (merge o d m : Nat) ∧ H' = H) := by
  refine AC.of_grown (r := .int .u32 (merge o d m : Nat)) ⟨_, Try.func17, rfl, rfl⟩ (fun _ => rfl) (fun R H w vs ha hr => ?_) H
  cases ha with
  | cons h0 ha => cases ha with
    | cons h1 ha => cases ha with
      | cons h2 ha =>
        cases ha
        have h0 : _ = Value.int .u32 o := h0
        have h1 : _ = Value.int .u32 d := h1
        have h2 : _ = Value.int .i64 m := h2
        subst h0 h1 h2
        refine (cMerge o d m ho hd w).mono ?_
        rintro e w' ⟨rfl, rfl⟩
        exact ⟨rfl, rfl, rfl, rfl, Nat.le_refl _, fun _ _ => rfl⟩
theorem mergeRA (o d : Nat) (m : Int) (ho : o < 4294967296) (hd : d < 4294967296) (H : Hp) : AC Try.prog 22 [u32 o, u32 d, i64 m] H (fun v H' => v = u32 (merge o d m : Nat) ∧ H' = H) := by
  refine AC.of_grown (r := .int .u32 (merge o d m : Nat)) ⟨_, Try.func22, rfl, rfl⟩ (fun _ => rfl) (fun R H w vs ha hr => ?_) H
  cases ha with
  | cons h0 ha => cases ha with
    | cons h1 ha => cases ha with
      | cons h2 ha =>
        cases ha
        have h0 : _ = Value.int .u32 o := h0
        have h1 : _ = Value.int .u32 d := h1
        have h2 : _ = Value.int .i64 m := h2
        subst h0 h1 h2
        refine (cMergeR o d m ho hd w).mono ?_
        rintro e w' ⟨rfl, rfl⟩
        exact ⟨rfl, rfl, rfl, rfl, Nat.le_refl _, fun _ _ => rfl⟩
theorem in_ag {n : Nat} {l : List Seg} (h : freeS l = true) : (AV.agg l).inR n := in_agg h
theorem same0 (r s : R7) : AC Try.prog 15 [.agg (rs r), .agg (rs s)] [] (fun v H => v = bo (decide (r = s)) ∧ H = []) := by
  refine AC.clean rfl (AC.of_body dok Try.func15 rfl rfl (Nat.le_of_ble_eq_true rfl) ?_)
  conv => whnf
  rw [eq7 r s]
  exact ⟨trivial, trivial, rfl, rfl⟩
theorem same1 (r s : R7) (H : Hp) : AC Try.prog 15 [.agg (rs r), .agg (rs s)] H (fun v H' => v = bo (decide (r = s)) ∧ H' = H) := (same0 r s).anyH rfl rfl H
end Go.Proofs.Ytfkjjaimilkfcaa.Md
