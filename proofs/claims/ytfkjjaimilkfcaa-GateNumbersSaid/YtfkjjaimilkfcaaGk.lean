/- The gates' functions, ours and the document's. -/
import Derived.Test.YtfkjjaimilkfcaaGp
set_option linter.unusedVariables false
set_option linter.unusedSimpArgs false
namespace Go.Proofs.Ytfkjjaimilkfcaa.Md
open Go.RowKit Go.Proofs.Ytfkjjaimilkfcaa.Ae Go.Proofs.Ytfkjjaimilkfcaa Go.Proofs.Ytfkjjaimilkfcaa.Al
def r0 : R7 := (4, 0, 0, true, 8, 85, 1)
theorem fwd_r0 : fwd (up (fun _ => r0) 0 r0) 8 4369 1 = 4437 := by decide
theorem okF1 : okF 1 (up (fun _ => r0) 0 r0) := by
  intro i hi
  have : i = 0 := by omega
  subst this
  decide
theorem up_r0 : up (fun _ => r0) 0 r0 0 = r0 := rfl
set_option maxRecDepth 100000 in
set_option maxHeartbeats 4000000 in
theorem known0 : AC Try.prog 12 [] [] (fun v H => v = bo true ∧ H = []) := by
  refine AC.clean rfl (AC.of_body dok Try.func12 rfl rfl (Nat.le_of_ble_eq_true rfl) ?_)
  conv => whnf
  refine (newE _).mono ?_
  rintro v H' ⟨rfl, rfl⟩
  conv => whnf
  refine (secondN (p := 0) (q := 1) (Nat.le_of_ble_eq_true rfl) (Nat.le_of_ble_eq_true rfl) (by decide) rfl r0).mono ?_
  rintro v H' ⟨rfl, rfl⟩
  conv => whnf
  refine (firstN (p := 0) (q := 1) (Nat.le_of_ble_eq_true rfl) (Nat.le_of_ble_eq_true rfl) (by decide) rfl r0).mono ?_
  rintro v H' ⟨rfl, rfl⟩
  conv => whnf
  refine (fwdR (p := 0) (q := 3) (n := 1) (F := up (fun _ => r0) 0 r0) (Nat.le_of_ble_eq_true rfl) (Nat.le_of_ble_eq_true rfl) (by decide) rfl rfl okF1 (by decide) 8 4369 (by decide)).mono ?_
  rintro v H' ⟨rfl, rfl⟩
  rw [fwd_r0]
  conv => whnf
  refine (secondR (p := 0) (q := 3) (n := 0) (F := up (fun _ => r0) 0 r0) (Nat.le_of_ble_eq_true rfl) (Nat.le_of_ble_eq_true rfl) (by decide) rfl rfl (by decide) r0).mono ?_
  rintro v H' (⟨c, rfl, rfl⟩ | ⟨c, rfl, rfl⟩)
  case inr => exact absurd up_r0 c
  conv => whnf
  refine (waitsR (p := 0) (q := 3) (n := 0) (F := fun i => up (fun _ => r0) 0 r0 (i + 1)) (Nat.le_of_ble_eq_true rfl) (Nat.le_of_ble_eq_true rfl) (by decide) rfl rfl).mono ?_
  rintro v H' ⟨rfl, rfl⟩
  conv => whnf
  refine (fwdR (p := 0) (q := 3) (n := 0) (F := fun i => up (fun _ => r0) 0 r0 (i + 1)) (Nat.le_of_ble_eq_true rfl) (Nat.le_of_ble_eq_true rfl) (by decide) rfl rfl (fun i hi => absurd hi (Nat.not_lt_zero _)) (by decide) 8 7 (by decide)).mono ?_
  rintro v H' ⟨rfl, rfl⟩
  conv => whnf
  exact ⟨trivial, trivial, rfl, rfl⟩
theorem known1 (H : Hp) : AC Try.prog 12 [] H (fun v H' => v = bo true ∧ H' = H) := known0.anyH rfl rfl H
end Go.Proofs.Ytfkjjaimilkfcaa.Md
