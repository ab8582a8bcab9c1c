/- The laws' own functions of layer 5: known, judged, same. -/
import Derived.Test.YtjhnolnnkebfhaaJd
set_option linter.unusedVariables false
set_option linter.unusedSimpArgs false
namespace Go.Proofs.Ytjhnolnnkebfhaa.Md
open Go.RowKit Go.Proofs.Ytjhnolnnkebfhaa.Ae Go.Proofs.Ytjhnolnnkebfhaa.Bv Go.Proofs.Ytjhnolnnkebfhaa
theorem known0 : AC Try.prog 8 [] [] (Ret (bo true)) := by
  refine AC.clean rfl (AC.of_body dok Try.func8 rfl rfl (Nat.le_of_ble_eq_true rfl) ?_)
  conv => whnf
  refine (dec1 19 (by decide) _).mono ?_
  rintro v H' ⟨rfl, rfl⟩
  conv => whnf
  refine (dec1 0 (by decide) _).mono ?_
  rintro v H' ⟨rfl, rfl⟩
  conv => whnf
  refine (dec1 1107316755 (by decide) _).mono ?_
  rintro v H' ⟨rfl, rfl⟩
  conv => whnf
  refine (dec1 4293918735 (by decide) _).mono ?_
  rintro v H' ⟨rfl, rfl⟩
  conv => whnf
  refine (wr1 _ _ _ _ _ _).mono ?_
  rintro v H' ⟨rfl, rfl⟩
  conv => whnf
  refine (slow1 _ _ _ _ _ _).mono ?_
  rintro v H' ⟨rfl, rfl⟩
  conv => whnf
  exact ⟨trivial, trivial, rfl, rfl⟩
theorem known1 (H : Hp) : AC Try.prog 8 [] H (RetH H (bo true)) := known0.anyH rfl rfl H
theorem judged0 (op a b c d : Int) : AC Try.prog 11 [.agg (inst op a b c d)] [] (Ret (bo true)) := by
  refine AC.clean rfl (AC.of_body dok Try.func11 rfl rfl (Nat.le_of_ble_eq_true rfl) ?_)
  conv => whnf
  refine (rds1 op a b c d _).mono ?_
  rintro v H' ⟨rfl, rfl⟩
  conv => whnf
  refine (rrds1 op a b c d _).mono ?_
  rintro v H' ⟨rfl, rfl⟩
  conv => whnf
  refine DR.way [0, 1, 2, 3, 4, 5, 6, 7, 8, 9, 11, 10, 12, 13, 14, 15, 16, 18, 17, 19, 20, 21, 22] (by decide +kernel) ⟨[], ?_⟩
  conv => whnf
  rw [beq_self_eq_true]; conv => whnf
  rw [beq_self_eq_true]; conv => whnf
  refine (wr1 op a b c d _).mono ?_
  rintro v H' ⟨rfl, rfl⟩
  conv => whnf
  refine (rwr1 op a b c d _).mono ?_
  rintro v H' ⟨rfl, rfl⟩
  conv => whnf
  rw [beq_self_eq_true]; conv => whnf
  refine (slow1 op a b c d _).mono ?_
  rintro v H' ⟨rfl, rfl⟩
  conv => whnf
  refine (rslow1 op a b c d _).mono ?_
  rintro v H' ⟨rfl, rfl⟩
  conv => whnf
  exact ⟨trivial, trivial, by rw [beq_self_eq_true], rfl⟩
theorem judged1 (op a b c d : Int) (H : Hp) : AC Try.prog 11 [.agg (inst op a b c d)] H (RetH H (bo true)) := (judged0 op a b c d).anyH rfl rfl H
theorem eqI_self (a b c d e : Int) : (a == a && (b == b && (c == c && (d == d && e == e)))) = true := by simp
theorem same0 (x : Nat) (hx : x < 4294967296) : AC Try.prog 10 [u32 x] [] (Ret (bo true)) := by
  refine AC.clean rfl (AC.of_body dok Try.func10 rfl rfl (Nat.le_of_ble_eq_true rfl) ?_)
  conv => whnf
  refine (dec1 x hx _).mono ?_
  rintro v H' ⟨rfl, rfl⟩
  conv => whnf
  refine (rdec1 x hx _).mono ?_
  rintro v H' ⟨rfl, rfl⟩
  conv => whnf
  rw [eqI_self]; conv => whnf
  rw [beq_self_eq_true]; conv => whnf
  refine (judged1 _ _ _ _ _ _).mono ?_
  rintro v H' ⟨rfl, rfl⟩
  conv => whnf
  exact ⟨trivial, trivial, rfl, rfl⟩
theorem same1 (x : Nat) (hx : x < 4294967296) (H : Hp) : AC Try.prog 10 [u32 x] H (RetH H (bo true)) := (same0 x hx).anyH rfl rfl H
end Go.Proofs.Ytjhnolnnkebfhaa.Md
