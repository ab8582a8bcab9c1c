/- The law's helper known, beside leavers. -/
import Derived.Test.YtpoknlbnookhjaaGk
set_option linter.unusedVariables false
set_option linter.unusedSimpArgs false
namespace Go.Proofs.Ytpoknlbnookhjaa.Md
open Go.RowKit Go.Proofs.Ytpoknlbnookhjaa.Ae Go.Proofs.Ytpoknlbnookhjaa
open Go.Lone
def r4 : R7 := (4, 0, 0, false, 0, 0, 0)
def r8 : R7 := (8, 0, 0, false, 0, 0, 0)
def kAB : Nat → R7
  | 0 => r4
  | _ + 1 => r8
def kA : Nat → R7 := fun _ => r4
def kB : Nat → R7 := fun _ => r8
theorem rowIn.of {H : Hp} {n : Nat} {A : Nat → R7} (p N : Nat) (h1 : H[p]?.bind (fun b => b.segs?.map flat) = some (flat (seg N A))) (h : n ≤ N) : rowIn H (.sl p 0 0 n 7) n A := by
  obtain ⟨b, hb, h1⟩ := Option.bind_eq_some_iff.1 h1
  obtain ⟨l, hl, h2⟩ := Option.map_eq_some_iff.1 h1
  exact .inr (.inr ⟨p, N, b, l, rfl, hb, hl, h2, h⟩)
set_option maxRecDepth 100000 in
set_option maxHeartbeats 4000000 in
theorem knownK : ACB Try.prog 7 [] [] (fun v _ => plainA v ∧ v = .v (.bool true)) := by
  refine ACB.of_body dok und Try.func7 rfl rfl (Nat.le_of_ble_eq_true rfl) rfl ?_
  conv => whnf
  refine (pairsB (la := 2) (lb := 1) (A := kAB) (B := kB) (rowIn.of 2 2 rfl (by decide)) (rowIn.of 3 1 rfl (by decide)) (by decide) (by decide)).mono ?_
  rintro v H' ⟨u, b, rfl, rfl, o⟩
  obtain ⟨rfl, rfl⟩ : u = .sl 4 0 0 1 14 ∧ b = .rw [.recs 14 1 (rc2 kAB kB)] := by
    rcases o with ⟨_, h, _⟩ | h
    · exact absurd h (by decide)
    · exact h
  conv => whnf
  refine (agreeB (la := 2) (lb := 2) (A := kAB) (B := kAB) (rowIn.of 5 2 rfl (by decide)) (rowIn.of 6 2 rfl (by decide)) (by decide) (by decide)).mono ?_
  rintro v H' ⟨⟨k, ok, rfl, hag⟩, rfl⟩
  obtain ⟨rfl, rfl⟩ : k = 2 ∧ ok = true := by
    have := judged (n := 2) (by decide) hag (Nat.le_refl 2) (fun j hj => by
      rcases j with _ | _ | j
      · rfl
      · rfl
      · omega) (fun h => absurd h (Nat.lt_irrefl _))
    exact this
  conv => whnf
  refine (agreeB (la := 1) (lb := 1) (A := kB) (B := kA) (rowIn.of 7 1 rfl (by decide)) (rowIn.of 8 1 rfl (by decide)) (by decide) (by decide)).mono ?_
  rintro v H' ⟨⟨k, ok, rfl, hag⟩, rfl⟩
  obtain ⟨rfl, rfl⟩ : k = 0 ∧ ok = false := by
    have := judged (n := 1) (by decide) hag (Nat.zero_le 1) (fun j hj => absurd hj (Nat.not_lt_zero _)) (fun _ => rfl)
    exact this
  conv => whnf
  refine DRB.std (by decide +kernel) (by decide +kernel) ⟨[], ?_⟩
  conv => whnf
  exact ⟨trivial, rfl⟩
theorem knownA (H : Hp) : ACB Try.prog 7 [] H (fun v H' => v = .v (.bool true) ∧ H' = H) := ACB.view0 (ns := []) knownK trivial rfl
end Go.Proofs.Ytpoknlbnookhjaa.Md
