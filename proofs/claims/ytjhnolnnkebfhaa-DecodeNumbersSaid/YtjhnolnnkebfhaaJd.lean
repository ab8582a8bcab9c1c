/- What is asked of instructions: what they write, read, how slow they are; the document's too. -/
import Derived.Test.YtjhnolnnkebfhaaFm
set_option linter.unusedVariables false
set_option linter.unusedSimpArgs false
namespace Go.Proofs.Ytjhnolnnkebfhaa.Md
open Go.RowKit Go.Proofs.Ytjhnolnnkebfhaa.Ae Go.Proofs.Ytjhnolnnkebfhaa.Bv Go.Proofs.Ytjhnolnnkebfhaa
/-- What an instruction writes. -/
def wrB (op rd : Int) : Bool := decide (rd ≠ 0 ∧ ((1 ≤ op ∧ op ≤ 4) ∨ (11 ≤ op ∧ op ≤ 15) ∨ (19 ≤ op ∧ op ≤ 45) ∨ (50 ≤ op ∧ op ≤ 55)))
/-- Whether it reads two registers, one. -/
def rd2 (op : Int) : Bool := decide ((5 ≤ op ∧ op ≤ 10) ∨ (16 ≤ op ∧ op ≤ 18) ∨ (28 ≤ op ∧ op ≤ 45))
def rd1 (op : Int) : Bool := decide ((4 ≤ op ∧ op ≤ 45) ∨ (50 ≤ op ∧ op ≤ 52))
def slowI (op : Int) : Int := if 38 ≤ op ∧ op ≤ 41 then 1 else if 42 ≤ op ∧ op ≤ 45 then 2 else 0
theorem eq_decide {p : Prop} [Decidable p] {b : Bool} (h : (b = true) ↔ p) : b = decide p := by
  cases b with
  | true => exact (decide_eq_true (h.1 rfl)).symm
  | false => exact (decide_eq_false fun hp => by have := h.2 hp; cases this).symm
theorem within0 (op a b c d lo hi : Int) : AC Try.prog 26 [.agg (inst op a b c d), i64 lo, i64 hi] [] (Ret (bo (decide (lo ≤ op ∧ op ≤ hi)))) := by
  refine AC.clean rfl (AC.of_body dok Try.func26 rfl rfl (Nat.le_of_ble_eq_true rfl) ?_)
  conv => whnf
  repeat' (refine cb_intro (fun h => ?_) (fun h => ?_) <;> simp only [beq_iff_eq, beq_eq_false_iff_ne, bne_iff_ne, bne_eq_false_iff_eq, ne_eq, decide_eq_true_eq, decide_eq_false_iff_not] at h <;> first | (exfalso; omega) | conv => whnf)
  · exact ⟨trivial, trivial, by rw [show decide (lo ≤ op ∧ op ≤ hi) = decide (op ≤ hi) from decide_eq_decide.2 (by omega)], rfl⟩
  · exact ⟨trivial, trivial, by rw [decide_eq_false (show ¬ (lo ≤ op ∧ op ≤ hi) by omega)], rfl⟩
theorem within1 (op a b c d lo hi : Int) (H : Hp) : AC Try.prog 26 [.agg (inst op a b c d), i64 lo, i64 hi] H (RetH H (bo (decide (lo ≤ op ∧ op ≤ hi)))) := (within0 op a b c d lo hi).anyH rfl rfl H
theorem wr0 (op a b c d : Int) : AC Try.prog 9 [.agg (inst op a b c d)] [] (Ret (bo (wrB op a))) := by
  refine AC.clean rfl (AC.of_body dok Try.func9 rfl rfl (Nat.le_of_ble_eq_true rfl) ?_)
  conv => whnf
  repeat' (first | (refine cb_intro (fun h => ?_) (fun h => ?_) <;> simp only [beq_iff_eq, beq_eq_false_iff_ne, bne_iff_ne, bne_eq_false_iff_eq, ne_eq, decide_eq_true_eq, decide_eq_false_iff_not] at h <;> first | (exfalso; omega) | conv => whnf) | (refine (within1 _ _ _ _ _ _ _ _).mono ?_; rintro v H' ⟨rfl, rfl⟩; conv => whnf))
  all_goals exact ⟨trivial, trivial, by unfold wrB; first | (rw [decide_eq_true (by omega)]; done) | (rw [decide_eq_false (by omega)]; done) | exact congrArg (fun z => AV.v (V.bool z)) (decide_eq_decide.2 (by omega)), rfl⟩
theorem rwr0 (op a b c d : Int) : AC Try.prog 29 [.agg (inst op a b c d)] [] (Ret (bo (wrB op a))) := by
  refine AC.clean rfl (AC.of_body dok Try.func29 rfl rfl (Nat.le_of_ble_eq_true rfl) ?_)
  conv => whnf
  refine (fmt1 op _).mono ?_
  rintro v H' ⟨rfl, rfl⟩
  conv => whnf
  rcases fmt_cases op with ⟨g, e⟩ | ⟨g, e⟩ | ⟨g, e⟩ | ⟨g, e⟩ | ⟨g, e⟩ | ⟨g, e⟩ | ⟨g, e⟩ | ⟨g, e⟩ | ⟨g, e⟩ | ⟨g, e⟩
  all_goals rw [e]
  all_goals conv => whnf
  all_goals repeat' (refine cb_intro (fun h => ?_) (fun h => ?_) <;> simp only [beq_iff_eq, beq_eq_false_iff_ne, bne_iff_ne, bne_eq_false_iff_eq, ne_eq, decide_eq_true_eq, decide_eq_false_iff_not] at h <;> first | (exfalso; omega) | conv => whnf)
  all_goals exact ⟨trivial, trivial, by unfold wrB; first | (rw [decide_eq_true (by omega)] <;> rfl) | (rw [decide_eq_false (by omega)] <;> rfl), rfl⟩
theorem in_bools2 {n : Nat} {a b : Bool} : (AV.tup [bo a, bo b]).inR n := ⟨trivial, trivial, trivial⟩
theorem tup2 {a b c d : Bool} (h : a = c) (k : b = d) : AV.tup [bo a, bo b] = AV.tup [bo c, bo d] := by rw [h, k]
theorem rds0 (op a b c d : Int) : AC Try.prog 14 [.agg (inst op a b c d)] [] (Ret (.tup [bo (rd1 op), bo (rd2 op)])) := by
  refine AC.clean rfl (AC.of_body dok Try.func14 rfl rfl (Nat.le_of_ble_eq_true rfl) ?_)
  conv => whnf
  repeat' (first | (refine cb_intro (fun h => ?_) (fun h => ?_) <;> simp only [beq_iff_eq, beq_eq_false_iff_ne, bne_iff_ne, bne_eq_false_iff_eq, ne_eq, decide_eq_true_eq, decide_eq_false_iff_not] at h <;> first | (exfalso; omega) | conv => whnf) | (refine (within1 _ _ _ _ _ _ _ _).mono ?_; rintro v H' ⟨rfl, rfl⟩; conv => whnf))
  all_goals exact ⟨in_bools2, trivial, tup2 (by unfold rd1; first | (rw [decide_eq_true (by omega)] <;> rfl) | (rw [decide_eq_false (by omega)] <;> rfl) | exact decide_eq_decide.2 (by omega)) (by unfold rd2; first | (rw [decide_eq_true (by omega)] <;> rfl) | (rw [decide_eq_false (by omega)] <;> rfl) | exact decide_eq_decide.2 (by omega)), rfl⟩
theorem rrds0 (op a b c d : Int) : AC Try.prog 28 [.agg (inst op a b c d)] [] (Ret (.tup [bo (rd1 op), bo (rd2 op)])) := by
  refine AC.clean rfl (AC.of_body dok Try.func28 rfl rfl (Nat.le_of_ble_eq_true rfl) ?_)
  conv => whnf
  refine (fmt1 op _).mono ?_
  rintro v H' ⟨rfl, rfl⟩
  conv => whnf
  rcases fmt_cases op with ⟨g, e⟩ | ⟨g, e⟩ | ⟨g, e⟩ | ⟨g, e⟩ | ⟨g, e⟩ | ⟨g, e⟩ | ⟨g, e⟩ | ⟨g, e⟩ | ⟨g, e⟩ | ⟨g, e⟩
  all_goals rw [e]
  all_goals conv => whnf
  all_goals repeat' (refine cb_intro (fun h => ?_) (fun h => ?_) <;> simp only [beq_iff_eq, beq_eq_false_iff_ne, bne_iff_ne, bne_eq_false_iff_eq, ne_eq, decide_eq_true_eq, decide_eq_false_iff_not] at h <;> first | (exfalso; omega) | conv => whnf)
  all_goals exact ⟨in_bools2, trivial, tup2 (by unfold rd1; first | (rw [decide_eq_true (by omega)] <;> rfl) | (rw [decide_eq_false (by omega)] <;> rfl) | exact decide_eq_decide.2 (by omega)) (by unfold rd2; first | (rw [decide_eq_true (by omega)] <;> rfl) | (rw [decide_eq_false (by omega)] <;> rfl) | exact decide_eq_decide.2 (by omega)), rfl⟩
theorem slow0 (op a b c d : Int) : AC Try.prog 15 [.agg (inst op a b c d)] [] (Ret (i64 (slowI op))) := by
  refine AC.clean rfl (AC.of_body dok Try.func15 rfl rfl (Nat.le_of_ble_eq_true rfl) ?_)
  conv => whnf
  repeat' (first | (refine cb_intro (fun h => ?_) (fun h => ?_) <;> simp only [beq_iff_eq, beq_eq_false_iff_ne, bne_iff_ne, bne_eq_false_iff_eq, ne_eq, decide_eq_true_eq, decide_eq_false_iff_not] at h <;> first | (exfalso; omega) | conv => whnf) | (refine (within1 _ _ _ _ _ _ _ _).mono ?_; rintro v H' ⟨rfl, rfl⟩; conv => whnf))
  all_goals exact ⟨trivial, trivial, by unfold slowI; repeat' (first | rfl | rw [if_pos (by omega)] | rw [if_neg (by omega)]), rfl⟩
theorem rslow0 (op a b c d : Int) : AC Try.prog 30 [.agg (inst op a b c d)] [] (Ret (i64 (slowI op))) := by
  refine AC.clean rfl (AC.of_body dok Try.func30 rfl rfl (Nat.le_of_ble_eq_true rfl) ?_)
  conv => whnf
  repeat' (refine cb_intro (fun h => ?_) (fun h => ?_) <;> simp only [beq_iff_eq, beq_eq_false_iff_ne, bne_iff_ne, bne_eq_false_iff_eq, ne_eq, decide_eq_true_eq, decide_eq_false_iff_not] at h <;> first | (exfalso; omega) | conv => whnf)
  all_goals exact ⟨trivial, trivial, by unfold slowI; repeat' (first | rfl | rw [if_pos (by omega)] | rw [if_neg (by omega)]), rfl⟩
theorem wr1 (op a b c d : Int) (H : Hp) : AC Try.prog 9 [.agg (inst op a b c d)] H (RetH H (bo (wrB op a))) := (wr0 op a b c d).anyH rfl rfl H
theorem rwr1 (op a b c d : Int) (H : Hp) : AC Try.prog 29 [.agg (inst op a b c d)] H (RetH H (bo (wrB op a))) := (rwr0 op a b c d).anyH rfl rfl H
theorem rds1 (op a b c d : Int) (H : Hp) : AC Try.prog 14 [.agg (inst op a b c d)] H (RetH H (.tup [bo (rd1 op), bo (rd2 op)])) := (rds0 op a b c d).anyH rfl rfl H
theorem rrds1 (op a b c d : Int) (H : Hp) : AC Try.prog 28 [.agg (inst op a b c d)] H (RetH H (.tup [bo (rd1 op), bo (rd2 op)])) := (rrds0 op a b c d).anyH rfl rfl H
theorem slow1 (op a b c d : Int) (H : Hp) : AC Try.prog 15 [.agg (inst op a b c d)] H (RetH H (i64 (slowI op))) := (slow0 op a b c d).anyH rfl rfl H
theorem rslow1 (op a b c d : Int) (H : Hp) : AC Try.prog 30 [.agg (inst op a b c d)] H (RetH H (i64 (slowI op))) := (rslow0 op a b c d).anyH rfl rfl H
end Go.Proofs.Ytjhnolnnkebfhaa.Md
