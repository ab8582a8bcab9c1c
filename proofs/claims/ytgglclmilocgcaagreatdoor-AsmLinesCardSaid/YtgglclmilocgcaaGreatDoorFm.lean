/- Formats of ops, as the document names them. -/
import Derived.Test.YtgglclmilocgcaaGreatDoorRd
set_option linter.unusedVariables false
set_option linter.unusedSimpArgs false
namespace Go.Proofs.YtgglclmilocgcaaGreatDoor.Md
open Go.RowKit Go.Proofs.YtgglclmilocgcaaGreatDoor.Ae Go.Proofs.YtgglclmilocgcaaGreatDoor.Bv Go.Proofs.YtgglclmilocgcaaGreatDoor
abbrev u8 (n : Int) : AV := .v (.int .u8 n)
/-- An op's format, as the document names it. -/
def fmt (op : Int) : Int :=
  if op = 1 ∨ op = 2 then 85
  else if op = 3 then 74
  else if op = 4 ∨ (11 ≤ op ∧ op ≤ 15) ∨ (19 ≤ op ∧ op ≤ 24) then 73
  else if 5 ≤ op ∧ op ≤ 10 then 66
  else if 16 ≤ op ∧ op ≤ 18 then 83
  else if 25 ≤ op ∧ op ≤ 27 then 72
  else if 28 ≤ op ∧ op ≤ 45 then 82
  else if 50 ≤ op ∧ op ≤ 55 then 67
  else if 46 ≤ op ∧ op ≤ 49 then 78
  else 0
theorem fmt0 (op : Int) : AC Tryz.prog 21 [i64 op] [] (Ret (u8 (fmt op))) := by
  refine AC.clean rfl (AC.of_body dok Tryz.func21 rfl rfl (Nat.le_of_ble_eq_true rfl) ?_)
  conv => whnf
  repeat' (refine cb_intro (fun h => ?_) (fun h => ?_) <;> simp only [beq_iff_eq, beq_eq_false_iff_ne, ne_eq, decide_eq_true_eq, decide_eq_false_iff_not] at h <;> first | (exfalso; omega) | conv => whnf)
  all_goals exact ⟨trivial, trivial, by unfold fmt; repeat' (first | rfl | rw [if_pos (by omega)] | rw [if_neg (by omega)]), rfl⟩
theorem fmt1 (op : Int) (H : Hp) : AC Tryz.prog 21 [i64 op] H (RetH H (u8 (fmt op))) := (fmt0 op).anyH rfl rfl H
theorem fmt_cases (op : Int) : ((op = 1 ∨ op = 2) ∧ fmt op = 85) ∨ (op = 3 ∧ fmt op = 74) ∨ ((op = 4 ∨ (11 ≤ op ∧ op ≤ 15) ∨ (19 ≤ op ∧ op ≤ 24)) ∧ fmt op = 73) ∨ ((5 ≤ op ∧ op ≤ 10) ∧ fmt op = 66) ∨ ((16 ≤ op ∧ op ≤ 18) ∧ fmt op = 83) ∨ ((25 ≤ op ∧ op ≤ 27) ∧ fmt op = 72) ∨ ((28 ≤ op ∧ op ≤ 45) ∧ fmt op = 82) ∨ ((50 ≤ op ∧ op ≤ 55) ∧ fmt op = 67) ∨ ((46 ≤ op ∧ op ≤ 49) ∧ fmt op = 78) ∨ ((op < 1 ∨ 55 < op) ∧ fmt op = 0) := by
  unfold fmt
  split
  · rename_i h; exact .inl ⟨h, rfl⟩
  split
  · rename_i h; exact .inr (.inl ⟨h, rfl⟩)
  split
  · rename_i h; exact .inr (.inr (.inl ⟨h, rfl⟩))
  split
  · rename_i h; exact .inr (.inr (.inr (.inl ⟨h, rfl⟩)))
  split
  · rename_i h; exact .inr (.inr (.inr (.inr (.inl ⟨h, rfl⟩))))
  split
  · rename_i h; exact .inr (.inr (.inr (.inr (.inr (.inl ⟨h, rfl⟩)))))
  split
  · rename_i h; exact .inr (.inr (.inr (.inr (.inr (.inr (.inl ⟨h, rfl⟩))))))
  split
  · rename_i h; exact .inr (.inr (.inr (.inr (.inr (.inr (.inr (.inl ⟨h, rfl⟩)))))))
  split
  · rename_i h; exact .inr (.inr (.inr (.inr (.inr (.inr (.inr (.inr (.inl ⟨h, rfl⟩))))))))
  · exact .inr (.inr (.inr (.inr (.inr (.inr (.inr (.inr (.inr (⟨by omega, rfl⟩)))))))))
theorem rdec1 (x : Nat) (hx : x < 4294967296) (H : Hp) : AC Tryz.prog 23 [u32 x] H (RetH H (insB (dec x))) := (rdec0 x hx).anyH rfl rfl H
/-- Decode's contracts, part by part. -/
theorem decT {x : Nat} {op rd r1 r2 im : Int} (h : dec x = (op, rd, r1, r2, im)) (hx : x < 4294967296) (H : Hp) : AC Tryz.prog 15 [u32 x] H (RetH H (.tup [.agg (inst op rd r1 r2 im), bo (op != 0)])) := by
  have := dec1 x hx H
  rw [h] at this
  exact this
theorem rdecT {x : Nat} {op rd r1 r2 im : Int} (h : dec x = (op, rd, r1, r2, im)) (hx : x < 4294967296) (H : Hp) : AC Tryz.prog 23 [u32 x] H (RetH H (.tup [.agg (inst op rd r1 r2 im), bo (op != 0)])) := by
  have := rdec1 x hx H
  rw [h] at this
  exact this
end Go.Proofs.YtgglclmilocgcaaGreatDoor.Md
