/- The gates' functions, ours and the document's. -/
import Derived.Test.YtfkjjaimilkfcaaGk
set_option linter.unusedVariables false
set_option linter.unusedSimpArgs false
namespace Go.Proofs.Ytfkjjaimilkfcaa.Md
open Go.RowKit Go.Proofs.Ytfkjjaimilkfcaa.Ae Go.Proofs.Ytfkjjaimilkfcaa Go.Proofs.Ytfkjjaimilkfcaa.Al
/-- A call of a play. -/
abbrev Ask := Int × R7
abbrev ac (a : Ask) : List V := .int .i64 a.1 :: rc a.2
abbrev arow (N : Nat) (A : Nat → Ask) : List Seg := [.recs 8 N (fun i => ac (A i))]
abbrev St := Option (Nat × (Nat → R7))
def playH (N : Nat) (A : Nat → Ask) : Nat × St → Hp
  | (_, none) => [.ro (arow N A), .rw [.one .nilS], .rw [.one .nilS]]
  | (_, some (m, F)) => [.ro (arow N A), .rw [.one (.sl 3 0 0 m 7)], .rw [.one (.sl 4 0 0 m 7)], row m F, row m F]
def playI (N : Nat) : Nat × St → Prop
  | (i, none) => i ≤ N ∧ i ≤ 100
  | (i, some (m, F)) => i ≤ N ∧ i ≤ 100 ∧ m ≤ 16 ∧ okF m F
theorem kcase (k : Int) : k = 2 ∨ k = 3 ∨ k = 4 ∨ k = 5 ∨ (k ≠ 2 ∧ k ≠ 3 ∧ k ≠ 4 ∧ k ≠ 5) := by omega
theorem neq7 (r : R7) : (!(r.1 == r.1 && (r.2.1 == r.2.1 && (r.2.2.1 == r.2.2.1 && (r.2.2.2.1 == r.2.2.2.1 && (r.2.2.2.2.1 == r.2.2.2.2.1 && (((r.2.2.2.2.2.1 : Nat) : Int) == ((r.2.2.2.2.2.1 : Nat) : Int) && r.2.2.2.2.2.2 == r.2.2.2.2.2.2))))))) = false := by rw [eq7 r r, decide_eq_true rfl]; rfl
theorem ain (N : Nat) (A : Nat → Ask) : hpIn 1 [.ro (arow N A)] := ⟨⟨(fun i hi v hv => by simp at hv; rcases hv with rfl | rfl | rfl | rfl | rfl | rfl | rfl | rfl <;> trivial), trivial⟩, trivial⟩
theorem okF_up {n : Nat} {F : Nat → R7} (h : okF n F) {r : R7} (hr : r.2.2.2.2.2.1 < 4294967296) : okF (n + 1) (up F n r) := by
  intro i hi
  unfold up
  split
  · rename_i c; exact h i c
  · exact hr
theorem okF_tl {n : Nat} {F : Nat → R7} (h : okF (n + 1) F) : okF n (fun i => F (i + 1)) := fun i hi => h (i + 1) (by omega)
theorem okF_z (F : Nat → R7) : okF 0 F := fun i hi => absurd hi (Nat.not_lt_zero _)
set_option maxHeartbeats 40000000 in
set_option maxRecDepth 100000 in
theorem play0 (N : Nat) (A : Nat → Ask) (hA : ∀ i, i < N → (A i).2.2.2.2.2.2.1 < 4294967296) : AC Try.prog 14 [.v (.sl 0 0 0 N 8)] [.ro (arow N A)] (fun v H => v = bo true ∧ H = [.ro (arow N A)]) := by
  refine AC.clean rfl (AC.of_body dok Try.func14 rfl rfl (Nat.le_of_ble_eq_true rfl) ?_)
  conv => whnf
  refine (newE _).mono ?_
  rintro v H' ⟨rfl, rfl⟩
  conv => whnf
  refine aw_loopR dok 3 (fun x : Nat × St => [(0, .v (.sl 0 0 0 N 8)), (3, .v (.ptr 1 0 0 0)), (4, .v (.ptr 2 0 0 0)), (5, i64 x.1)]) (playH N A) (playI N) (fun x => N - x.1) (0, none) ⟨rfl, rfl, rfl, rfl, trivial⟩ rfl ⟨Nat.zero_le _, Nat.zero_le _⟩ rfl ?_
  rintro ⟨i, st⟩ hi
  have hi1 : i ≤ N ∧ i ≤ 100 := by
    rcases st with _ | ⟨m, F⟩
    · exact hi
    · exact ⟨hi.1, hi.2.1⟩
  by_cases c : i < N ∧ i < 100
  case neg =>
    rcases st with _ | ⟨m, F⟩
    all_goals conv => whnf
    all_goals by_cases c0 : i < N
    all_goals first | (rw [decide_eq_true (show (i : Int) < N by omega)]; conv => whnf; rw [decide_eq_false (show ¬ (i : Int) < 100 by omega)]; conv => whnf) | (rw [decide_eq_false (show ¬ (i : Int) < N by omega)]; conv => whnf)
    all_goals exact ⟨trivial, ain N A, rfl, rfl⟩
  have hd := hA i c.1
  rcases st with _ | ⟨m, F⟩
  · conv => whnf
    rw [decide_eq_true (show (i : Int) < N by omega)]; conv => whnf
    rw [decide_eq_true (show (i : Int) < 100 by omega)]; conv => whnf
    rw [blt_of c.1]; conv => whnf
    rw [show (0 + i) = i by omega, blt_of c.1]; conv => whnf
    generalize A i = a at hd
    obtain ⟨k, r⟩ := a
    dsimp only at hd
    rcases kcase k with rfl | rfl | rfl | rfl | ⟨h2, h3, h4, h5⟩
    · conv => whnf
      refine (secondN (p := 1) (q := 0) (Nat.le_of_ble_eq_true rfl) (Nat.le_of_ble_eq_true rfl) (by decide) rfl r).mono ?_
      rintro v H' ⟨rfl, rfl⟩
      conv => whnf
      refine (rsecondN (p := 2) (q := 0) (Nat.le_of_ble_eq_true rfl) (Nat.le_of_ble_eq_true rfl) (by decide) rfl r).mono ?_
      rintro v H' ⟨rfl, rfl⟩
      conv => whnf
      refine DR.mk ⟨.take 0 (.take 2 (.take 3 (.take 4 (.alt 1 (.alt 5 (.alt 6 (.take 7 (.take 8 (.take 9 (.take 11 (.alt 10 (.alt 12 (.take 13 (.take 14 .done)) .nil) .nil))))) .nil) .nil) (.alt 5 (.alt 1 (.alt 6 (.take 7 (.take 8 (.take 9 (.take 11 (.alt 10 (.alt 12 (.take 13 (.take 14 .done)) .nil) .nil))))) .nil) (.alt 6 (.alt 1 (.take 7 (.take 8 (.take 9 (.take 11 (.alt 10 (.alt 12 (.take 13 (.take 14 .done)) .nil) .nil))))) .nil) .nil)) .nil))))), by decide +kernel, [1, 2], ?_⟩
      conv => whnf
      repeat' (first | (refine And.intro ?_ ?_ <;> conv => whnf) | (refine (waitsN (p := 1) (q := 0) (Nat.le_of_ble_eq_true rfl) (Nat.le_of_ble_eq_true rfl) (by decide) rfl).mono ?_; rintro v H' ⟨rfl, rfl⟩; conv => whnf) | (refine (fwdN (p := 1) (q := 0) (Nat.le_of_ble_eq_true rfl) (Nat.le_of_ble_eq_true rfl) (by decide) rfl 8 305419896).mono ?_; rintro v H' ⟨rfl, rfl⟩; conv => whnf) | (refine (rfwdN (p := 2) (q := 0) (Nat.le_of_ble_eq_true rfl) (Nat.le_of_ble_eq_true rfl) (by decide) rfl 8 305419896).mono ?_; rintro v H' ⟨rfl, rfl⟩; conv => whnf) | (rw [bne_self_eq_false]; conv => whnf) | exact ⟨(i + 1, none), [0, 1, 2], ⟨by omega, by omega⟩, by show N - (i + 1) < N - i; omega, okN_of (n0 := 3) (by decide), Nat.le_of_ble_eq_true rfl, ⟨⟨_, rfl, .inl rfl⟩, ⟨_, rfl, .inl rfl⟩, ⟨_, rfl, .inl rfl⟩, trivial⟩, ⟨rfl, rfl, rfl, gI i (by omega), trivial⟩⟩)
    · conv => whnf
      refine (secondN (p := 1) (q := 0) (Nat.le_of_ble_eq_true rfl) (Nat.le_of_ble_eq_true rfl) (by decide) rfl r).mono ?_
      rintro v H' ⟨rfl, rfl⟩
      conv => whnf
      refine (rsecondN (p := 2) (q := 0) (Nat.le_of_ble_eq_true rfl) (Nat.le_of_ble_eq_true rfl) (by decide) rfl r).mono ?_
      rintro v H' ⟨rfl, rfl⟩
      conv => whnf
      refine DR.mk ⟨.take 0 (.take 2 (.take 3 (.take 4 (.alt 1 (.alt 5 (.alt 6 (.take 7 (.take 8 (.take 9 (.take 11 (.alt 10 (.alt 12 (.take 13 (.take 14 .done)) .nil) .nil))))) .nil) .nil) (.alt 5 (.alt 1 (.alt 6 (.take 7 (.take 8 (.take 9 (.take 11 (.alt 10 (.alt 12 (.take 13 (.take 14 .done)) .nil) .nil))))) .nil) (.alt 6 (.alt 1 (.take 7 (.take 8 (.take 9 (.take 11 (.alt 10 (.alt 12 (.take 13 (.take 14 .done)) .nil) .nil))))) .nil) .nil)) .nil))))), by decide +kernel, [1, 2], ?_⟩
      conv => whnf
      repeat' (first | (refine And.intro ?_ ?_ <;> conv => whnf) | (refine (waitsN (p := 1) (q := 0) (Nat.le_of_ble_eq_true rfl) (Nat.le_of_ble_eq_true rfl) (by decide) rfl).mono ?_; rintro v H' ⟨rfl, rfl⟩; conv => whnf) | (refine (fwdN (p := 1) (q := 0) (Nat.le_of_ble_eq_true rfl) (Nat.le_of_ble_eq_true rfl) (by decide) rfl 8 305419896).mono ?_; rintro v H' ⟨rfl, rfl⟩; conv => whnf) | (refine (rfwdN (p := 2) (q := 0) (Nat.le_of_ble_eq_true rfl) (Nat.le_of_ble_eq_true rfl) (by decide) rfl 8 305419896).mono ?_; rintro v H' ⟨rfl, rfl⟩; conv => whnf) | (rw [bne_self_eq_false]; conv => whnf) | exact ⟨(i + 1, none), [0, 1, 2], ⟨by omega, by omega⟩, by show N - (i + 1) < N - i; omega, okN_of (n0 := 3) (by decide), Nat.le_of_ble_eq_true rfl, ⟨⟨_, rfl, .inl rfl⟩, ⟨_, rfl, .inl rfl⟩, ⟨_, rfl, .inl rfl⟩, trivial⟩, ⟨rfl, rfl, rfl, gI i (by omega), trivial⟩⟩)
    · conv => whnf
      refine DR.way [0, 1, 2, 3, 4, 5, 6, 8, 9, 10, 11, 12, 13, 14, 7, 15, 16] (by decide +kernel) ⟨[1, 2], ?_⟩
      conv => whnf
      refine (fwdN (p := 1) (q := 0) (Nat.le_of_ble_eq_true rfl) (Nat.le_of_ble_eq_true rfl) (by decide) rfl r.2.2.2.2.1 r.2.2.2.2.2.1).mono ?_
      rintro v H' ⟨rfl, rfl⟩
      conv => whnf
      refine (rfwdN (p := 2) (q := 0) (Nat.le_of_ble_eq_true rfl) (Nat.le_of_ble_eq_true rfl) (by decide) rfl r.2.2.2.2.1 r.2.2.2.2.2.1).mono ?_
      rintro v H' ⟨rfl, rfl⟩
      conv => whnf
      rw [bne_self_eq_false]; conv => whnf
      refine DR.mk ⟨.take 0 (.take 2 (.take 3 (.take 4 (.alt 1 (.alt 5 (.alt 6 (.take 7 (.take 8 (.take 9 (.take 11 (.alt 10 (.alt 12 (.take 13 (.take 14 .done)) .nil) .nil))))) .nil) .nil) (.alt 5 (.alt 1 (.alt 6 (.take 7 (.take 8 (.take 9 (.take 11 (.alt 10 (.alt 12 (.take 13 (.take 14 .done)) .nil) .nil))))) .nil) (.alt 6 (.alt 1 (.take 7 (.take 8 (.take 9 (.take 11 (.alt 10 (.alt 12 (.take 13 (.take 14 .done)) .nil) .nil))))) .nil) .nil)) .nil))))), by decide +kernel, [1, 2], ?_⟩
      conv => whnf
      repeat' (first | (refine And.intro ?_ ?_ <;> conv => whnf) | (refine (waitsN (p := 1) (q := 0) (Nat.le_of_ble_eq_true rfl) (Nat.le_of_ble_eq_true rfl) (by decide) rfl).mono ?_; rintro v H' ⟨rfl, rfl⟩; conv => whnf) | (refine (fwdN (p := 1) (q := 0) (Nat.le_of_ble_eq_true rfl) (Nat.le_of_ble_eq_true rfl) (by decide) rfl 8 305419896).mono ?_; rintro v H' ⟨rfl, rfl⟩; conv => whnf) | (refine (rfwdN (p := 2) (q := 0) (Nat.le_of_ble_eq_true rfl) (Nat.le_of_ble_eq_true rfl) (by decide) rfl 8 305419896).mono ?_; rintro v H' ⟨rfl, rfl⟩; conv => whnf) | (rw [bne_self_eq_false]; conv => whnf) | exact ⟨(i + 1, none), [0, 1, 2], ⟨by omega, by omega⟩, by show N - (i + 1) < N - i; omega, okN_of (n0 := 3) (by decide), Nat.le_of_ble_eq_true rfl, ⟨⟨_, rfl, .inl rfl⟩, ⟨_, rfl, .inl rfl⟩, ⟨_, rfl, .inl rfl⟩, trivial⟩, ⟨rfl, rfl, rfl, gI i (by omega), trivial⟩⟩)
    · conv => whnf
      generalize (bits BinOp.and IntKind.i64 r.2.2.2.2.2.2 3 == 0) = mb
      cases mb
      · conv => whnf
        refine DR.mk ⟨.take 0 (.take 2 (.take 3 (.take 4 (.alt 1 (.alt 5 (.alt 6 (.take 7 (.take 8 (.take 9 (.take 11 (.alt 10 (.alt 12 (.take 13 (.take 14 .done)) .nil) .nil))))) .nil) .nil) (.alt 5 (.alt 1 (.alt 6 (.take 7 (.take 8 (.take 9 (.take 11 (.alt 10 (.alt 12 (.take 13 (.take 14 .done)) .nil) .nil))))) .nil) (.alt 6 (.alt 1 (.take 7 (.take 8 (.take 9 (.take 11 (.alt 10 (.alt 12 (.take 13 (.take 14 .done)) .nil) .nil))))) .nil) .nil)) .nil))))), by decide +kernel, [1, 2], ?_⟩
        conv => whnf
        repeat' (first | (refine And.intro ?_ ?_ <;> conv => whnf) | (refine (waitsN (p := 1) (q := 0) (Nat.le_of_ble_eq_true rfl) (Nat.le_of_ble_eq_true rfl) (by decide) rfl).mono ?_; rintro v H' ⟨rfl, rfl⟩; conv => whnf) | (refine (fwdN (p := 1) (q := 0) (Nat.le_of_ble_eq_true rfl) (Nat.le_of_ble_eq_true rfl) (by decide) rfl 8 305419896).mono ?_; rintro v H' ⟨rfl, rfl⟩; conv => whnf) | (refine (rfwdN (p := 2) (q := 0) (Nat.le_of_ble_eq_true rfl) (Nat.le_of_ble_eq_true rfl) (by decide) rfl 8 305419896).mono ?_; rintro v H' ⟨rfl, rfl⟩; conv => whnf) | (rw [bne_self_eq_false]; conv => whnf) | exact ⟨(i + 1, none), [0, 1, 2], ⟨by omega, by omega⟩, by show N - (i + 1) < N - i; omega, okN_of (n0 := 3) (by decide), Nat.le_of_ble_eq_true rfl, ⟨⟨_, rfl, .inl rfl⟩, ⟨_, rfl, .inl rfl⟩, ⟨_, rfl, .inl rfl⟩, trivial⟩, ⟨rfl, rfl, rfl, gI i (by omega), trivial⟩⟩)
      · conv => whnf
        refine (clearN (p := 1) (q := 0) (Nat.le_of_ble_eq_true rfl) (Nat.le_of_ble_eq_true rfl) (by decide) rfl).mono ?_
        rintro v H' ⟨rfl, rfl⟩
        conv => whnf
        refine DR.mk ⟨.take 0 (.take 2 (.take 3 (.take 4 (.alt 1 (.alt 5 (.alt 6 (.take 7 (.take 8 (.take 9 (.take 11 (.alt 10 (.alt 12 (.take 13 (.take 14 .done)) .nil) .nil))))) .nil) .nil) (.alt 5 (.alt 1 (.alt 6 (.take 7 (.take 8 (.take 9 (.take 11 (.alt 10 (.alt 12 (.take 13 (.take 14 .done)) .nil) .nil))))) .nil) (.alt 6 (.alt 1 (.take 7 (.take 8 (.take 9 (.take 11 (.alt 10 (.alt 12 (.take 13 (.take 14 .done)) .nil) .nil))))) .nil) .nil)) .nil))))), by decide +kernel, [1, 2], ?_⟩
        conv => whnf
        repeat' (first | (refine And.intro ?_ ?_ <;> conv => whnf) | (refine (waitsN (p := 1) (q := 0) (Nat.le_of_ble_eq_true rfl) (Nat.le_of_ble_eq_true rfl) (by decide) rfl).mono ?_; rintro v H' ⟨rfl, rfl⟩; conv => whnf) | (refine (fwdN (p := 1) (q := 0) (Nat.le_of_ble_eq_true rfl) (Nat.le_of_ble_eq_true rfl) (by decide) rfl 8 305419896).mono ?_; rintro v H' ⟨rfl, rfl⟩; conv => whnf) | (refine (rfwdN (p := 2) (q := 0) (Nat.le_of_ble_eq_true rfl) (Nat.le_of_ble_eq_true rfl) (by decide) rfl 8 305419896).mono ?_; rintro v H' ⟨rfl, rfl⟩; conv => whnf) | (rw [bne_self_eq_false]; conv => whnf) | exact ⟨(i + 1, none), [0, 1, 2], ⟨by omega, by omega⟩, by show N - (i + 1) < N - i; omega, okN_of (n0 := 3) (by decide), Nat.le_of_ble_eq_true rfl, ⟨⟨_, rfl, .inl rfl⟩, ⟨_, rfl, .inl rfl⟩, ⟨_, rfl, .inl rfl⟩, trivial⟩, ⟨rfl, rfl, rfl, gI i (by omega), trivial⟩⟩)
    · conv => whnf
      rw [show (k == 2) = false by simpa using h2]; conv => whnf
      rw [show (k == 3) = false by simpa using h3]; conv => whnf
      rw [show (k == 4) = false by simpa using h4]; conv => whnf
      rw [show (k == 5) = false by simpa using h5]; conv => whnf
      refine DR.way [0, 1, 2, 4, 5, 6, 3, 7, 8] (by decide +kernel) ⟨[1, 2], ?_⟩
      conv => whnf
      refine (firstN (p := 1) (q := 0) (Nat.le_of_ble_eq_true rfl) (Nat.le_of_ble_eq_true rfl) (by decide) rfl r).mono ?_
      rintro v H' ⟨rfl, rfl⟩
      conv => whnf
      refine (rfirstN (p := 2) (q := 0) (Nat.le_of_ble_eq_true rfl) (Nat.le_of_ble_eq_true rfl) (by decide) rfl r).mono ?_
      rintro v H' ⟨rfl, rfl⟩
      conv => whnf
      refine DR.mk ⟨.take 0 (.take 2 (.take 3 (.take 4 (.alt 1 (.alt 5 (.alt 6 (.take 7 (.take 8 (.take 9 (.take 11 (.alt 10 (.alt 12 (.take 13 (.take 14 .done)) .nil) .nil))))) .nil) .nil) (.alt 5 (.alt 1 (.alt 6 (.take 7 (.take 8 (.take 9 (.take 11 (.alt 10 (.alt 12 (.take 13 (.take 14 .done)) .nil) .nil))))) .nil) (.alt 6 (.alt 1 (.take 7 (.take 8 (.take 9 (.take 11 (.alt 10 (.alt 12 (.take 13 (.take 14 .done)) .nil) .nil))))) .nil) .nil)) .nil))))), by decide +kernel, [1, 2, 4, 5], ?_⟩
      conv => whnf
      repeat' (first | (refine And.intro ?_ ?_ <;> conv => whnf) | (refine (waitsR (p := 1) (q := 4) (n := 1) (F := up (fun _ => r) 0 r) (Nat.le_of_ble_eq_true rfl) (Nat.le_of_ble_eq_true rfl) (by decide) rfl rfl).mono ?_; rintro v H' ⟨rfl, rfl⟩; conv => whnf) | (refine (fwdR (p := 1) (q := 4) (n := 1) (F := up (fun _ => r) 0 r) (Nat.le_of_ble_eq_true rfl) (Nat.le_of_ble_eq_true rfl) (by decide) rfl rfl (okF_up (okF_z _) hd) (by omega) 8 305419896 (by decide)).mono ?_; rintro v H' ⟨rfl, rfl⟩; conv => whnf) | (refine (rfwdR (p := 2) (q := 5) (n := 1) (F := up (fun _ => r) 0 r) (Nat.le_of_ble_eq_true rfl) (Nat.le_of_ble_eq_true rfl) (by decide) rfl rfl (okF_up (okF_z _) hd) (by omega) 8 305419896 (by decide)).mono ?_; rintro v H' ⟨rfl, rfl⟩; conv => whnf) | (rw [bne_self_eq_false]; conv => whnf) | exact ⟨(i + 1, some (1, up (fun _ => r) 0 r)), [0, 1, 2, 4, 5], ⟨by omega, by omega, by omega, okF_up (okF_z _) hd⟩, by show N - (i + 1) < N - i; omega, okN_of (n0 := 3) (by decide), Nat.le_of_ble_eq_true rfl, ⟨⟨_, rfl, .inl rfl⟩, ⟨_, rfl, .inl rfl⟩, ⟨_, rfl, .inl rfl⟩, ⟨_, rfl, .inl rfl⟩, ⟨_, rfl, .inl rfl⟩, trivial⟩, ⟨rfl, rfl, rfl, gI i (by omega), trivial⟩⟩)
  · obtain ⟨_, _, hm16, hF⟩ := hi
    rcases m with _ | n
    · conv => whnf
      rw [decide_eq_true (show (i : Int) < N by omega)]; conv => whnf
      rw [decide_eq_true (show (i : Int) < 100 by omega)]; conv => whnf
      rw [blt_of c.1]; conv => whnf
      rw [show (0 + i) = i by omega, blt_of c.1]; conv => whnf
      generalize A i = a at hd
      obtain ⟨k, r⟩ := a
      dsimp only at hd
      rcases kcase k with rfl | rfl | rfl | rfl | ⟨h2, h3, h4, h5⟩
      · conv => whnf
        refine (secondZ (p := 1) (q := 3) (F := F) (Nat.le_of_ble_eq_true rfl) (Nat.le_of_ble_eq_true rfl) (by decide) rfl rfl r).mono ?_
        rintro v H' ⟨rfl, rfl⟩
        conv => whnf
        refine (rsecondZ (p := 2) (q := 4) (F := F) (Nat.le_of_ble_eq_true rfl) (Nat.le_of_ble_eq_true rfl) (by decide) rfl rfl r).mono ?_
        rintro v H' ⟨rfl, rfl⟩
        conv => whnf
        refine DR.mk ⟨.take 0 (.take 2 (.take 3 (.take 4 (.alt 1 (.alt 5 (.alt 6 (.take 7 (.take 8 (.take 9 (.take 11 (.alt 10 (.alt 12 (.take 13 (.take 14 .done)) .nil) .nil))))) .nil) .nil) (.alt 5 (.alt 1 (.alt 6 (.take 7 (.take 8 (.take 9 (.take 11 (.alt 10 (.alt 12 (.take 13 (.take 14 .done)) .nil) .nil))))) .nil) (.alt 6 (.alt 1 (.take 7 (.take 8 (.take 9 (.take 11 (.alt 10 (.alt 12 (.take 13 (.take 14 .done)) .nil) .nil))))) .nil) .nil)) .nil))))), by decide +kernel, [1, 2, 3, 4], ?_⟩
        conv => whnf
        repeat' (first | (refine And.intro ?_ ?_ <;> conv => whnf) | (refine (waitsR (p := 1) (q := 3) (n := 0) (F := F) (Nat.le_of_ble_eq_true rfl) (Nat.le_of_ble_eq_true rfl) (by decide) rfl rfl).mono ?_; rintro v H' ⟨rfl, rfl⟩; conv => whnf) | (refine (fwdR (p := 1) (q := 3) (n := 0) (F := F) (Nat.le_of_ble_eq_true rfl) (Nat.le_of_ble_eq_true rfl) (by decide) rfl rfl hF (by omega) 8 305419896 (by decide)).mono ?_; rintro v H' ⟨rfl, rfl⟩; conv => whnf) | (refine (rfwdR (p := 2) (q := 4) (n := 0) (F := F) (Nat.le_of_ble_eq_true rfl) (Nat.le_of_ble_eq_true rfl) (by decide) rfl rfl hF (by omega) 8 305419896 (by decide)).mono ?_; rintro v H' ⟨rfl, rfl⟩; conv => whnf) | (rw [bne_self_eq_false]; conv => whnf) | exact ⟨(i + 1, some (0, F)), [0, 1, 2, 3, 4], ⟨by omega, by omega, by omega, hF⟩, by show N - (i + 1) < N - i; omega, okN_of (n0 := 3) (by decide), Nat.le_of_ble_eq_true rfl, ⟨⟨_, rfl, .inl rfl⟩, ⟨_, rfl, .inl rfl⟩, ⟨_, rfl, .inl rfl⟩, ⟨_, rfl, .inl rfl⟩, ⟨_, rfl, .inl rfl⟩, trivial⟩, ⟨rfl, rfl, rfl, gI i (by omega), trivial⟩⟩)
      · conv => whnf
        refine (secondZ (p := 1) (q := 3) (F := F) (Nat.le_of_ble_eq_true rfl) (Nat.le_of_ble_eq_true rfl) (by decide) rfl rfl r).mono ?_
        rintro v H' ⟨rfl, rfl⟩
        conv => whnf
        refine (rsecondZ (p := 2) (q := 4) (F := F) (Nat.le_of_ble_eq_true rfl) (Nat.le_of_ble_eq_true rfl) (by decide) rfl rfl r).mono ?_
        rintro v H' ⟨rfl, rfl⟩
        conv => whnf
        refine DR.mk ⟨.take 0 (.take 2 (.take 3 (.take 4 (.alt 1 (.alt 5 (.alt 6 (.take 7 (.take 8 (.take 9 (.take 11 (.alt 10 (.alt 12 (.take 13 (.take 14 .done)) .nil) .nil))))) .nil) .nil) (.alt 5 (.alt 1 (.alt 6 (.take 7 (.take 8 (.take 9 (.take 11 (.alt 10 (.alt 12 (.take 13 (.take 14 .done)) .nil) .nil))))) .nil) (.alt 6 (.alt 1 (.take 7 (.take 8 (.take 9 (.take 11 (.alt 10 (.alt 12 (.take 13 (.take 14 .done)) .nil) .nil))))) .nil) .nil)) .nil))))), by decide +kernel, [1, 2, 3, 4], ?_⟩
        conv => whnf
        repeat' (first | (refine And.intro ?_ ?_ <;> conv => whnf) | (refine (waitsR (p := 1) (q := 3) (n := 0) (F := F) (Nat.le_of_ble_eq_true rfl) (Nat.le_of_ble_eq_true rfl) (by decide) rfl rfl).mono ?_; rintro v H' ⟨rfl, rfl⟩; conv => whnf) | (refine (fwdR (p := 1) (q := 3) (n := 0) (F := F) (Nat.le_of_ble_eq_true rfl) (Nat.le_of_ble_eq_true rfl) (by decide) rfl rfl hF (by omega) 8 305419896 (by decide)).mono ?_; rintro v H' ⟨rfl, rfl⟩; conv => whnf) | (refine (rfwdR (p := 2) (q := 4) (n := 0) (F := F) (Nat.le_of_ble_eq_true rfl) (Nat.le_of_ble_eq_true rfl) (by decide) rfl rfl hF (by omega) 8 305419896 (by decide)).mono ?_; rintro v H' ⟨rfl, rfl⟩; conv => whnf) | (rw [bne_self_eq_false]; conv => whnf) | exact ⟨(i + 1, some (0, F)), [0, 1, 2, 3, 4], ⟨by omega, by omega, by omega, hF⟩, by show N - (i + 1) < N - i; omega, okN_of (n0 := 3) (by decide), Nat.le_of_ble_eq_true rfl, ⟨⟨_, rfl, .inl rfl⟩, ⟨_, rfl, .inl rfl⟩, ⟨_, rfl, .inl rfl⟩, ⟨_, rfl, .inl rfl⟩, ⟨_, rfl, .inl rfl⟩, trivial⟩, ⟨rfl, rfl, rfl, gI i (by omega), trivial⟩⟩)
      · conv => whnf
        refine DR.way [0, 1, 2, 3, 4, 5, 6, 8, 9, 10, 11, 12, 13, 14, 7, 15, 16] (by decide +kernel) ⟨[1, 2, 3, 4], ?_⟩
        conv => whnf
        refine (fwdR (p := 1) (q := 3) (n := 0) (F := F) (Nat.le_of_ble_eq_true rfl) (Nat.le_of_ble_eq_true rfl) (by decide) rfl rfl hF (by omega) r.2.2.2.2.1 r.2.2.2.2.2.1 hd).mono ?_
        rintro v H' ⟨rfl, rfl⟩
        conv => whnf
        refine (rfwdR (p := 2) (q := 4) (n := 0) (F := F) (Nat.le_of_ble_eq_true rfl) (Nat.le_of_ble_eq_true rfl) (by decide) rfl rfl hF (by omega) r.2.2.2.2.1 r.2.2.2.2.2.1 hd).mono ?_
        rintro v H' ⟨rfl, rfl⟩
        conv => whnf
        rw [bne_self_eq_false]; conv => whnf
        refine DR.mk ⟨.take 0 (.take 2 (.take 3 (.take 4 (.alt 1 (.alt 5 (.alt 6 (.take 7 (.take 8 (.take 9 (.take 11 (.alt 10 (.alt 12 (.take 13 (.take 14 .done)) .nil) .nil))))) .nil) .nil) (.alt 5 (.alt 1 (.alt 6 (.take 7 (.take 8 (.take 9 (.take 11 (.alt 10 (.alt 12 (.take 13 (.take 14 .done)) .nil) .nil))))) .nil) (.alt 6 (.alt 1 (.take 7 (.take 8 (.take 9 (.take 11 (.alt 10 (.alt 12 (.take 13 (.take 14 .done)) .nil) .nil))))) .nil) .nil)) .nil))))), by decide +kernel, [1, 2, 3, 4], ?_⟩
        conv => whnf
        repeat' (first | (refine And.intro ?_ ?_ <;> conv => whnf) | (refine (waitsR (p := 1) (q := 3) (n := 0) (F := F) (Nat.le_of_ble_eq_true rfl) (Nat.le_of_ble_eq_true rfl) (by decide) rfl rfl).mono ?_; rintro v H' ⟨rfl, rfl⟩; conv => whnf) | (refine (fwdR (p := 1) (q := 3) (n := 0) (F := F) (Nat.le_of_ble_eq_true rfl) (Nat.le_of_ble_eq_true rfl) (by decide) rfl rfl hF (by omega) 8 305419896 (by decide)).mono ?_; rintro v H' ⟨rfl, rfl⟩; conv => whnf) | (refine (rfwdR (p := 2) (q := 4) (n := 0) (F := F) (Nat.le_of_ble_eq_true rfl) (Nat.le_of_ble_eq_true rfl) (by decide) rfl rfl hF (by omega) 8 305419896 (by decide)).mono ?_; rintro v H' ⟨rfl, rfl⟩; conv => whnf) | (rw [bne_self_eq_false]; conv => whnf) | exact ⟨(i + 1, some (0, F)), [0, 1, 2, 3, 4], ⟨by omega, by omega, by omega, hF⟩, by show N - (i + 1) < N - i; omega, okN_of (n0 := 3) (by decide), Nat.le_of_ble_eq_true rfl, ⟨⟨_, rfl, .inl rfl⟩, ⟨_, rfl, .inl rfl⟩, ⟨_, rfl, .inl rfl⟩, ⟨_, rfl, .inl rfl⟩, ⟨_, rfl, .inl rfl⟩, trivial⟩, ⟨rfl, rfl, rfl, gI i (by omega), trivial⟩⟩)
      · conv => whnf
        generalize (bits BinOp.and IntKind.i64 r.2.2.2.2.2.2 3 == 0) = mb
        cases mb
        · conv => whnf
          refine DR.mk ⟨.take 0 (.take 2 (.take 3 (.take 4 (.alt 1 (.alt 5 (.alt 6 (.take 7 (.take 8 (.take 9 (.take 11 (.alt 10 (.alt 12 (.take 13 (.take 14 .done)) .nil) .nil))))) .nil) .nil) (.alt 5 (.alt 1 (.alt 6 (.take 7 (.take 8 (.take 9 (.take 11 (.alt 10 (.alt 12 (.take 13 (.take 14 .done)) .nil) .nil))))) .nil) (.alt 6 (.alt 1 (.take 7 (.take 8 (.take 9 (.take 11 (.alt 10 (.alt 12 (.take 13 (.take 14 .done)) .nil) .nil))))) .nil) .nil)) .nil))))), by decide +kernel, [1, 2, 3, 4], ?_⟩
          conv => whnf
          repeat' (first | (refine And.intro ?_ ?_ <;> conv => whnf) | (refine (waitsR (p := 1) (q := 3) (n := 0) (F := F) (Nat.le_of_ble_eq_true rfl) (Nat.le_of_ble_eq_true rfl) (by decide) rfl rfl).mono ?_; rintro v H' ⟨rfl, rfl⟩; conv => whnf) | (refine (fwdR (p := 1) (q := 3) (n := 0) (F := F) (Nat.le_of_ble_eq_true rfl) (Nat.le_of_ble_eq_true rfl) (by decide) rfl rfl hF (by omega) 8 305419896 (by decide)).mono ?_; rintro v H' ⟨rfl, rfl⟩; conv => whnf) | (refine (rfwdR (p := 2) (q := 4) (n := 0) (F := F) (Nat.le_of_ble_eq_true rfl) (Nat.le_of_ble_eq_true rfl) (by decide) rfl rfl hF (by omega) 8 305419896 (by decide)).mono ?_; rintro v H' ⟨rfl, rfl⟩; conv => whnf) | (rw [bne_self_eq_false]; conv => whnf) | exact ⟨(i + 1, some (0, F)), [0, 1, 2, 3, 4], ⟨by omega, by omega, by omega, hF⟩, by show N - (i + 1) < N - i; omega, okN_of (n0 := 3) (by decide), Nat.le_of_ble_eq_true rfl, ⟨⟨_, rfl, .inl rfl⟩, ⟨_, rfl, .inl rfl⟩, ⟨_, rfl, .inl rfl⟩, ⟨_, rfl, .inl rfl⟩, ⟨_, rfl, .inl rfl⟩, trivial⟩, ⟨rfl, rfl, rfl, gI i (by omega), trivial⟩⟩)
        · conv => whnf
          refine (clearR (p := 1) (q := 3) (n := 0) (F := F) (Nat.le_of_ble_eq_true rfl) (Nat.le_of_ble_eq_true rfl) (by decide) rfl rfl).mono ?_
          rintro v H' ⟨rfl, rfl⟩
          conv => whnf
          refine DR.mk ⟨.take 0 (.take 2 (.take 3 (.take 4 (.alt 1 (.alt 5 (.alt 6 (.take 7 (.take 8 (.take 9 (.take 11 (.alt 10 (.alt 12 (.take 13 (.take 14 .done)) .nil) .nil))))) .nil) .nil) (.alt 5 (.alt 1 (.alt 6 (.take 7 (.take 8 (.take 9 (.take 11 (.alt 10 (.alt 12 (.take 13 (.take 14 .done)) .nil) .nil))))) .nil) (.alt 6 (.alt 1 (.take 7 (.take 8 (.take 9 (.take 11 (.alt 10 (.alt 12 (.take 13 (.take 14 .done)) .nil) .nil))))) .nil) .nil)) .nil))))), by decide +kernel, [1, 2], ?_⟩
          conv => whnf
          repeat' (first | (refine And.intro ?_ ?_ <;> conv => whnf) | (refine (waitsN (p := 1) (q := 0) (Nat.le_of_ble_eq_true rfl) (Nat.le_of_ble_eq_true rfl) (by decide) rfl).mono ?_; rintro v H' ⟨rfl, rfl⟩; conv => whnf) | (refine (fwdN (p := 1) (q := 0) (Nat.le_of_ble_eq_true rfl) (Nat.le_of_ble_eq_true rfl) (by decide) rfl 8 305419896).mono ?_; rintro v H' ⟨rfl, rfl⟩; conv => whnf) | (refine (rfwdN (p := 2) (q := 0) (Nat.le_of_ble_eq_true rfl) (Nat.le_of_ble_eq_true rfl) (by decide) rfl 8 305419896).mono ?_; rintro v H' ⟨rfl, rfl⟩; conv => whnf) | (rw [bne_self_eq_false]; conv => whnf) | exact ⟨(i + 1, none), [0, 1, 2], ⟨by omega, by omega⟩, by show N - (i + 1) < N - i; omega, okN_of (n0 := 3) (by decide), Nat.le_of_ble_eq_true rfl, ⟨⟨_, rfl, .inl rfl⟩, ⟨_, rfl, .inl rfl⟩, ⟨_, rfl, .inl rfl⟩, trivial⟩, ⟨rfl, rfl, rfl, gI i (by omega), trivial⟩⟩)
      · conv => whnf
        rw [show (k == 2) = false by simpa using h2]; conv => whnf
        rw [show (k == 3) = false by simpa using h3]; conv => whnf
        rw [show (k == 4) = false by simpa using h4]; conv => whnf
        rw [show (k == 5) = false by simpa using h5]; conv => whnf
        refine DR.way [0, 1, 2, 4, 5, 6, 3, 7, 8] (by decide +kernel) ⟨[1, 2, 3, 4], ?_⟩
        conv => whnf
        refine (firstR (p := 1) (q := 3) (n := 0) (F := F) (Nat.le_of_ble_eq_true rfl) (Nat.le_of_ble_eq_true rfl) (by decide) rfl rfl (by decide) r).mono ?_
        rintro v H' ⟨rfl, rfl⟩
        conv => whnf
        refine (rfirstR (p := 2) (q := 4) (n := 0) (F := F) (Nat.le_of_ble_eq_true rfl) (Nat.le_of_ble_eq_true rfl) (by decide) rfl rfl (by decide) r).mono ?_
        rintro v H' ⟨rfl, rfl⟩
        conv => whnf
        refine DR.mk ⟨.take 0 (.take 2 (.take 3 (.take 4 (.alt 1 (.alt 5 (.alt 6 (.take 7 (.take 8 (.take 9 (.take 11 (.alt 10 (.alt 12 (.take 13 (.take 14 .done)) .nil) .nil))))) .nil) .nil) (.alt 5 (.alt 1 (.alt 6 (.take 7 (.take 8 (.take 9 (.take 11 (.alt 10 (.alt 12 (.take 13 (.take 14 .done)) .nil) .nil))))) .nil) (.alt 6 (.alt 1 (.take 7 (.take 8 (.take 9 (.take 11 (.alt 10 (.alt 12 (.take 13 (.take 14 .done)) .nil) .nil))))) .nil) .nil)) .nil))))), by decide +kernel, [1, 2, 6, 7], ?_⟩
        conv => whnf
        repeat' (first | (refine And.intro ?_ ?_ <;> conv => whnf) | (refine (waitsR (p := 1) (q := 6) (n := 0 + 1) (F := up F 0 r) (Nat.le_of_ble_eq_true rfl) (Nat.le_of_ble_eq_true rfl) (by decide) rfl rfl).mono ?_; rintro v H' ⟨rfl, rfl⟩; conv => whnf) | (refine (fwdR (p := 1) (q := 6) (n := 0 + 1) (F := up F 0 r) (Nat.le_of_ble_eq_true rfl) (Nat.le_of_ble_eq_true rfl) (by decide) rfl rfl (okF_up hF hd) (by omega) 8 305419896 (by decide)).mono ?_; rintro v H' ⟨rfl, rfl⟩; conv => whnf) | (refine (rfwdR (p := 2) (q := 7) (n := 0 + 1) (F := up F 0 r) (Nat.le_of_ble_eq_true rfl) (Nat.le_of_ble_eq_true rfl) (by decide) rfl rfl (okF_up hF hd) (by omega) 8 305419896 (by decide)).mono ?_; rintro v H' ⟨rfl, rfl⟩; conv => whnf) | (rw [bne_self_eq_false]; conv => whnf) | exact ⟨(i + 1, some (0 + 1, up F 0 r)), [0, 1, 2, 6, 7], ⟨by omega, by omega, by omega, okF_up hF hd⟩, by show N - (i + 1) < N - i; omega, okN_of (n0 := 3) (by decide), Nat.le_of_ble_eq_true rfl, ⟨⟨_, rfl, .inl rfl⟩, ⟨_, rfl, .inl rfl⟩, ⟨_, rfl, .inl rfl⟩, ⟨_, rfl, .inl rfl⟩, ⟨_, rfl, .inl rfl⟩, trivial⟩, ⟨rfl, rfl, rfl, gI i (by omega), trivial⟩⟩)
    · conv => whnf
      rw [decide_eq_true (show (i : Int) < N by omega)]; conv => whnf
      rw [decide_eq_true (show (i : Int) < 100 by omega)]; conv => whnf
      rw [blt_of c.1]; conv => whnf
      rw [show (0 + i) = i by omega, blt_of c.1]; conv => whnf
      generalize A i = a at hd
      obtain ⟨k, r⟩ := a
      dsimp only at hd
      rcases kcase k with rfl | rfl | rfl | rfl | ⟨h2, h3, h4, h5⟩
      · conv => whnf
        rw [decide_eq_true (show ((n + 1 : Nat) : Int) > 0 by omega)]; conv => whnf
        refine (secondR (p := 1) (q := 3) (n := n) (F := F) (Nat.le_of_ble_eq_true rfl) (Nat.le_of_ble_eq_true rfl) (by decide) rfl rfl (by omega) (F 0)).mono ?_
        rintro v H' (⟨c1, rfl, rfl⟩ | ⟨c1, rfl, rfl⟩)
        case inr => exact absurd rfl c1
        conv => whnf
        refine (rsecondR (p := 2) (q := 4) (n := n) (F := F) (Nat.le_of_ble_eq_true rfl) (Nat.le_of_ble_eq_true rfl) (by decide) rfl rfl (by omega) (F 0)).mono ?_
        rintro v H' (⟨c2, rfl, rfl⟩ | ⟨c2, rfl, rfl⟩)
        case inr => exact absurd rfl c2
        conv => whnf
        rw [neq7 (F 0)]; conv => whnf
        refine DR.mk ⟨.take 0 (.take 2 (.take 3 (.take 4 (.alt 1 (.alt 5 (.alt 6 (.take 7 (.take 8 (.take 9 (.take 11 (.alt 10 (.alt 12 (.take 13 (.take 14 .done)) .nil) .nil))))) .nil) .nil) (.alt 5 (.alt 1 (.alt 6 (.take 7 (.take 8 (.take 9 (.take 11 (.alt 10 (.alt 12 (.take 13 (.take 14 .done)) .nil) .nil))))) .nil) (.alt 6 (.alt 1 (.take 7 (.take 8 (.take 9 (.take 11 (.alt 10 (.alt 12 (.take 13 (.take 14 .done)) .nil) .nil))))) .nil) .nil)) .nil))))), by decide +kernel, [1, 2, 3, 8], ?_⟩
        conv => whnf
        repeat' (first | (refine And.intro ?_ ?_ <;> conv => whnf) | (refine (waitsR (p := 1) (q := 3) (n := n) (F := (fun i => F (i + 1))) (Nat.le_of_ble_eq_true rfl) (Nat.le_of_ble_eq_true rfl) (by decide) rfl rfl).mono ?_; rintro v H' ⟨rfl, rfl⟩; conv => whnf) | (refine (fwdR (p := 1) (q := 3) (n := n) (F := (fun i => F (i + 1))) (Nat.le_of_ble_eq_true rfl) (Nat.le_of_ble_eq_true rfl) (by decide) rfl rfl (okF_tl hF) (by omega) 8 305419896 (by decide)).mono ?_; rintro v H' ⟨rfl, rfl⟩; conv => whnf) | (refine (rfwdR (p := 2) (q := 8) (n := n) (F := (fun i => F (i + 1))) (Nat.le_of_ble_eq_true rfl) (Nat.le_of_ble_eq_true rfl) (by decide) rfl rfl (okF_tl hF) (by omega) 8 305419896 (by decide)).mono ?_; rintro v H' ⟨rfl, rfl⟩; conv => whnf) | (rw [bne_self_eq_false]; conv => whnf) | exact ⟨(i + 1, some (n, (fun i => F (i + 1)))), [0, 1, 2, 3, 8], ⟨by omega, by omega, by omega, okF_tl hF⟩, by show N - (i + 1) < N - i; omega, okN_of (n0 := 3) (by decide), Nat.le_of_ble_eq_true rfl, ⟨⟨_, rfl, .inl rfl⟩, ⟨_, rfl, .inl rfl⟩, ⟨_, rfl, .inl rfl⟩, ⟨_, rfl, .inl rfl⟩, ⟨_, rfl, .inl rfl⟩, trivial⟩, ⟨rfl, rfl, rfl, gI i (by omega), trivial⟩⟩)
      · conv => whnf
        refine (secondR (p := 1) (q := 3) (n := n) (F := F) (Nat.le_of_ble_eq_true rfl) (Nat.le_of_ble_eq_true rfl) (by decide) rfl rfl (by omega) r).mono ?_
        rintro v H' (⟨c1, rfl, rfl⟩ | ⟨c1, rfl, rfl⟩)
        · conv => whnf
          refine (rsecondR (p := 2) (q := 4) (n := n) (F := F) (Nat.le_of_ble_eq_true rfl) (Nat.le_of_ble_eq_true rfl) (by decide) rfl rfl (by omega) r).mono ?_
          rintro v H' (⟨c2, rfl, rfl⟩ | ⟨c2, rfl, rfl⟩)
          case inr => exact absurd c1 c2
          conv => whnf
          rw [neq7 r]; conv => whnf
          refine DR.mk ⟨.take 0 (.take 2 (.take 3 (.take 4 (.alt 1 (.alt 5 (.alt 6 (.take 7 (.take 8 (.take 9 (.take 11 (.alt 10 (.alt 12 (.take 13 (.take 14 .done)) .nil) .nil))))) .nil) .nil) (.alt 5 (.alt 1 (.alt 6 (.take 7 (.take 8 (.take 9 (.take 11 (.alt 10 (.alt 12 (.take 13 (.take 14 .done)) .nil) .nil))))) .nil) (.alt 6 (.alt 1 (.take 7 (.take 8 (.take 9 (.take 11 (.alt 10 (.alt 12 (.take 13 (.take 14 .done)) .nil) .nil))))) .nil) .nil)) .nil))))), by decide +kernel, [1, 2, 3, 8], ?_⟩
          conv => whnf
          repeat' (first | (refine And.intro ?_ ?_ <;> conv => whnf) | (refine (waitsR (p := 1) (q := 3) (n := n) (F := (fun i => F (i + 1))) (Nat.le_of_ble_eq_true rfl) (Nat.le_of_ble_eq_true rfl) (by decide) rfl rfl).mono ?_; rintro v H' ⟨rfl, rfl⟩; conv => whnf) | (refine (fwdR (p := 1) (q := 3) (n := n) (F := (fun i => F (i + 1))) (Nat.le_of_ble_eq_true rfl) (Nat.le_of_ble_eq_true rfl) (by decide) rfl rfl (okF_tl hF) (by omega) 8 305419896 (by decide)).mono ?_; rintro v H' ⟨rfl, rfl⟩; conv => whnf) | (refine (rfwdR (p := 2) (q := 8) (n := n) (F := (fun i => F (i + 1))) (Nat.le_of_ble_eq_true rfl) (Nat.le_of_ble_eq_true rfl) (by decide) rfl rfl (okF_tl hF) (by omega) 8 305419896 (by decide)).mono ?_; rintro v H' ⟨rfl, rfl⟩; conv => whnf) | (rw [bne_self_eq_false]; conv => whnf) | exact ⟨(i + 1, some (n, (fun i => F (i + 1)))), [0, 1, 2, 3, 8], ⟨by omega, by omega, by omega, okF_tl hF⟩, by show N - (i + 1) < N - i; omega, okN_of (n0 := 3) (by decide), Nat.le_of_ble_eq_true rfl, ⟨⟨_, rfl, .inl rfl⟩, ⟨_, rfl, .inl rfl⟩, ⟨_, rfl, .inl rfl⟩, ⟨_, rfl, .inl rfl⟩, ⟨_, rfl, .inl rfl⟩, trivial⟩, ⟨rfl, rfl, rfl, gI i (by omega), trivial⟩⟩)
        · conv => whnf
          refine (rsecondR (p := 2) (q := 4) (n := n) (F := F) (Nat.le_of_ble_eq_true rfl) (Nat.le_of_ble_eq_true rfl) (by decide) rfl rfl (by omega) r).mono ?_
          rintro v H' (⟨c2, rfl, rfl⟩ | ⟨c2, rfl, rfl⟩)
          case inl => exact absurd c2 c1
          conv => whnf
          refine DR.mk ⟨.take 0 (.take 2 (.take 3 (.take 4 (.alt 1 (.alt 5 (.alt 6 (.take 7 (.take 8 (.take 9 (.take 11 (.alt 10 (.alt 12 (.take 13 (.take 14 .done)) .nil) .nil))))) .nil) .nil) (.alt 5 (.alt 1 (.alt 6 (.take 7 (.take 8 (.take 9 (.take 11 (.alt 10 (.alt 12 (.take 13 (.take 14 .done)) .nil) .nil))))) .nil) (.alt 6 (.alt 1 (.take 7 (.take 8 (.take 9 (.take 11 (.alt 10 (.alt 12 (.take 13 (.take 14 .done)) .nil) .nil))))) .nil) .nil)) .nil))))), by decide +kernel, [1, 2, 3, 4], ?_⟩
          conv => whnf
          repeat' (first | (refine And.intro ?_ ?_ <;> conv => whnf) | (refine (waitsR (p := 1) (q := 3) (n := (n + 1)) (F := F) (Nat.le_of_ble_eq_true rfl) (Nat.le_of_ble_eq_true rfl) (by decide) rfl rfl).mono ?_; rintro v H' ⟨rfl, rfl⟩; conv => whnf) | (refine (fwdR (p := 1) (q := 3) (n := (n + 1)) (F := F) (Nat.le_of_ble_eq_true rfl) (Nat.le_of_ble_eq_true rfl) (by decide) rfl rfl hF (by omega) 8 305419896 (by decide)).mono ?_; rintro v H' ⟨rfl, rfl⟩; conv => whnf) | (refine (rfwdR (p := 2) (q := 4) (n := (n + 1)) (F := F) (Nat.le_of_ble_eq_true rfl) (Nat.le_of_ble_eq_true rfl) (by decide) rfl rfl hF (by omega) 8 305419896 (by decide)).mono ?_; rintro v H' ⟨rfl, rfl⟩; conv => whnf) | (rw [bne_self_eq_false]; conv => whnf) | exact ⟨(i + 1, some ((n + 1), F)), [0, 1, 2, 3, 4], ⟨by omega, by omega, by omega, hF⟩, by show N - (i + 1) < N - i; omega, okN_of (n0 := 3) (by decide), Nat.le_of_ble_eq_true rfl, ⟨⟨_, rfl, .inl rfl⟩, ⟨_, rfl, .inl rfl⟩, ⟨_, rfl, .inl rfl⟩, ⟨_, rfl, .inl rfl⟩, ⟨_, rfl, .inl rfl⟩, trivial⟩, ⟨rfl, rfl, rfl, gI i (by omega), trivial⟩⟩)
      · conv => whnf
        refine DR.way [0, 1, 2, 3, 4, 5, 6, 8, 9, 10, 11, 12, 13, 14, 7, 15, 16] (by decide +kernel) ⟨[1, 2, 3, 4], ?_⟩
        conv => whnf
        refine (fwdR (p := 1) (q := 3) (n := (n + 1)) (F := F) (Nat.le_of_ble_eq_true rfl) (Nat.le_of_ble_eq_true rfl) (by decide) rfl rfl hF (by omega) r.2.2.2.2.1 r.2.2.2.2.2.1 hd).mono ?_
        rintro v H' ⟨rfl, rfl⟩
        conv => whnf
        refine (rfwdR (p := 2) (q := 4) (n := (n + 1)) (F := F) (Nat.le_of_ble_eq_true rfl) (Nat.le_of_ble_eq_true rfl) (by decide) rfl rfl hF (by omega) r.2.2.2.2.1 r.2.2.2.2.2.1 hd).mono ?_
        rintro v H' ⟨rfl, rfl⟩
        conv => whnf
        rw [bne_self_eq_false]; conv => whnf
        refine DR.mk ⟨.take 0 (.take 2 (.take 3 (.take 4 (.alt 1 (.alt 5 (.alt 6 (.take 7 (.take 8 (.take 9 (.take 11 (.alt 10 (.alt 12 (.take 13 (.take 14 .done)) .nil) .nil))))) .nil) .nil) (.alt 5 (.alt 1 (.alt 6 (.take 7 (.take 8 (.take 9 (.take 11 (.alt 10 (.alt 12 (.take 13 (.take 14 .done)) .nil) .nil))))) .nil) (.alt 6 (.alt 1 (.take 7 (.take 8 (.take 9 (.take 11 (.alt 10 (.alt 12 (.take 13 (.take 14 .done)) .nil) .nil))))) .nil) .nil)) .nil))))), by decide +kernel, [1, 2, 3, 4], ?_⟩
        conv => whnf
        repeat' (first | (refine And.intro ?_ ?_ <;> conv => whnf) | (refine (waitsR (p := 1) (q := 3) (n := (n + 1)) (F := F) (Nat.le_of_ble_eq_true rfl) (Nat.le_of_ble_eq_true rfl) (by decide) rfl rfl).mono ?_; rintro v H' ⟨rfl, rfl⟩; conv => whnf) | (refine (fwdR (p := 1) (q := 3) (n := (n + 1)) (F := F) (Nat.le_of_ble_eq_true rfl) (Nat.le_of_ble_eq_true rfl) (by decide) rfl rfl hF (by omega) 8 305419896 (by decide)).mono ?_; rintro v H' ⟨rfl, rfl⟩; conv => whnf) | (refine (rfwdR (p := 2) (q := 4) (n := (n + 1)) (F := F) (Nat.le_of_ble_eq_true rfl) (Nat.le_of_ble_eq_true rfl) (by decide) rfl rfl hF (by omega) 8 305419896 (by decide)).mono ?_; rintro v H' ⟨rfl, rfl⟩; conv => whnf) | (rw [bne_self_eq_false]; conv => whnf) | exact ⟨(i + 1, some ((n + 1), F)), [0, 1, 2, 3, 4], ⟨by omega, by omega, by omega, hF⟩, by show N - (i + 1) < N - i; omega, okN_of (n0 := 3) (by decide), Nat.le_of_ble_eq_true rfl, ⟨⟨_, rfl, .inl rfl⟩, ⟨_, rfl, .inl rfl⟩, ⟨_, rfl, .inl rfl⟩, ⟨_, rfl, .inl rfl⟩, ⟨_, rfl, .inl rfl⟩, trivial⟩, ⟨rfl, rfl, rfl, gI i (by omega), trivial⟩⟩)
      · conv => whnf
        generalize (bits BinOp.and IntKind.i64 r.2.2.2.2.2.2 3 == 0) = mb
        cases mb
        · conv => whnf
          refine DR.mk ⟨.take 0 (.take 2 (.take 3 (.take 4 (.alt 1 (.alt 5 (.alt 6 (.take 7 (.take 8 (.take 9 (.take 11 (.alt 10 (.alt 12 (.take 13 (.take 14 .done)) .nil) .nil))))) .nil) .nil) (.alt 5 (.alt 1 (.alt 6 (.take 7 (.take 8 (.take 9 (.take 11 (.alt 10 (.alt 12 (.take 13 (.take 14 .done)) .nil) .nil))))) .nil) (.alt 6 (.alt 1 (.take 7 (.take 8 (.take 9 (.take 11 (.alt 10 (.alt 12 (.take 13 (.take 14 .done)) .nil) .nil))))) .nil) .nil)) .nil))))), by decide +kernel, [1, 2, 3, 4], ?_⟩
          conv => whnf
          repeat' (first | (refine And.intro ?_ ?_ <;> conv => whnf) | (refine (waitsR (p := 1) (q := 3) (n := (n + 1)) (F := F) (Nat.le_of_ble_eq_true rfl) (Nat.le_of_ble_eq_true rfl) (by decide) rfl rfl).mono ?_; rintro v H' ⟨rfl, rfl⟩; conv => whnf) | (refine (fwdR (p := 1) (q := 3) (n := (n + 1)) (F := F) (Nat.le_of_ble_eq_true rfl) (Nat.le_of_ble_eq_true rfl) (by decide) rfl rfl hF (by omega) 8 305419896 (by decide)).mono ?_; rintro v H' ⟨rfl, rfl⟩; conv => whnf) | (refine (rfwdR (p := 2) (q := 4) (n := (n + 1)) (F := F) (Nat.le_of_ble_eq_true rfl) (Nat.le_of_ble_eq_true rfl) (by decide) rfl rfl hF (by omega) 8 305419896 (by decide)).mono ?_; rintro v H' ⟨rfl, rfl⟩; conv => whnf) | (rw [bne_self_eq_false]; conv => whnf) | exact ⟨(i + 1, some ((n + 1), F)), [0, 1, 2, 3, 4], ⟨by omega, by omega, by omega, hF⟩, by show N - (i + 1) < N - i; omega, okN_of (n0 := 3) (by decide), Nat.le_of_ble_eq_true rfl, ⟨⟨_, rfl, .inl rfl⟩, ⟨_, rfl, .inl rfl⟩, ⟨_, rfl, .inl rfl⟩, ⟨_, rfl, .inl rfl⟩, ⟨_, rfl, .inl rfl⟩, trivial⟩, ⟨rfl, rfl, rfl, gI i (by omega), trivial⟩⟩)
        · conv => whnf
          refine (clearR (p := 1) (q := 3) (n := (n + 1)) (F := F) (Nat.le_of_ble_eq_true rfl) (Nat.le_of_ble_eq_true rfl) (by decide) rfl rfl).mono ?_
          rintro v H' ⟨rfl, rfl⟩
          conv => whnf
          refine DR.mk ⟨.take 0 (.take 2 (.take 3 (.take 4 (.alt 1 (.alt 5 (.alt 6 (.take 7 (.take 8 (.take 9 (.take 11 (.alt 10 (.alt 12 (.take 13 (.take 14 .done)) .nil) .nil))))) .nil) .nil) (.alt 5 (.alt 1 (.alt 6 (.take 7 (.take 8 (.take 9 (.take 11 (.alt 10 (.alt 12 (.take 13 (.take 14 .done)) .nil) .nil))))) .nil) (.alt 6 (.alt 1 (.take 7 (.take 8 (.take 9 (.take 11 (.alt 10 (.alt 12 (.take 13 (.take 14 .done)) .nil) .nil))))) .nil) .nil)) .nil))))), by decide +kernel, [1, 2], ?_⟩
          conv => whnf
          repeat' (first | (refine And.intro ?_ ?_ <;> conv => whnf) | (refine (waitsN (p := 1) (q := 0) (Nat.le_of_ble_eq_true rfl) (Nat.le_of_ble_eq_true rfl) (by decide) rfl).mono ?_; rintro v H' ⟨rfl, rfl⟩; conv => whnf) | (refine (fwdN (p := 1) (q := 0) (Nat.le_of_ble_eq_true rfl) (Nat.le_of_ble_eq_true rfl) (by decide) rfl 8 305419896).mono ?_; rintro v H' ⟨rfl, rfl⟩; conv => whnf) | (refine (rfwdN (p := 2) (q := 0) (Nat.le_of_ble_eq_true rfl) (Nat.le_of_ble_eq_true rfl) (by decide) rfl 8 305419896).mono ?_; rintro v H' ⟨rfl, rfl⟩; conv => whnf) | (rw [bne_self_eq_false]; conv => whnf) | exact ⟨(i + 1, none), [0, 1, 2], ⟨by omega, by omega⟩, by show N - (i + 1) < N - i; omega, okN_of (n0 := 3) (by decide), Nat.le_of_ble_eq_true rfl, ⟨⟨_, rfl, .inl rfl⟩, ⟨_, rfl, .inl rfl⟩, ⟨_, rfl, .inl rfl⟩, trivial⟩, ⟨rfl, rfl, rfl, gI i (by omega), trivial⟩⟩)
      · conv => whnf
        rw [show (k == 2) = false by simpa using h2]; conv => whnf
        rw [show (k == 3) = false by simpa using h3]; conv => whnf
        rw [show (k == 4) = false by simpa using h4]; conv => whnf
        rw [show (k == 5) = false by simpa using h5]; conv => whnf
        by_cases hm : n + 1 < 16
        · refine DR.way [0, 1, 2, 4, 5, 6, 3, 7, 8] (by decide +kernel) ⟨[1, 2, 3, 4], ?_⟩
          conv => whnf
          refine (firstR (p := 1) (q := 3) (n := (n + 1)) (F := F) (Nat.le_of_ble_eq_true rfl) (Nat.le_of_ble_eq_true rfl) (by decide) rfl rfl hm r).mono ?_
          rintro v H' ⟨rfl, rfl⟩
          conv => whnf
          refine (rfirstR (p := 2) (q := 4) (n := (n + 1)) (F := F) (Nat.le_of_ble_eq_true rfl) (Nat.le_of_ble_eq_true rfl) (by decide) rfl rfl hm r).mono ?_
          rintro v H' ⟨rfl, rfl⟩
          conv => whnf
          refine DR.mk ⟨.take 0 (.take 2 (.take 3 (.take 4 (.alt 1 (.alt 5 (.alt 6 (.take 7 (.take 8 (.take 9 (.take 11 (.alt 10 (.alt 12 (.take 13 (.take 14 .done)) .nil) .nil))))) .nil) .nil) (.alt 5 (.alt 1 (.alt 6 (.take 7 (.take 8 (.take 9 (.take 11 (.alt 10 (.alt 12 (.take 13 (.take 14 .done)) .nil) .nil))))) .nil) (.alt 6 (.alt 1 (.take 7 (.take 8 (.take 9 (.take 11 (.alt 10 (.alt 12 (.take 13 (.take 14 .done)) .nil) .nil))))) .nil) .nil)) .nil))))), by decide +kernel, [1, 2, 6, 7], ?_⟩
          conv => whnf
          repeat' (first | (refine And.intro ?_ ?_ <;> conv => whnf) | (refine (waitsR (p := 1) (q := 6) (n := (n + 1) + 1) (F := up F (n + 1) r) (Nat.le_of_ble_eq_true rfl) (Nat.le_of_ble_eq_true rfl) (by decide) rfl rfl).mono ?_; rintro v H' ⟨rfl, rfl⟩; conv => whnf) | (refine (fwdR (p := 1) (q := 6) (n := (n + 1) + 1) (F := up F (n + 1) r) (Nat.le_of_ble_eq_true rfl) (Nat.le_of_ble_eq_true rfl) (by decide) rfl rfl (okF_up hF hd) (by omega) 8 305419896 (by decide)).mono ?_; rintro v H' ⟨rfl, rfl⟩; conv => whnf) | (refine (rfwdR (p := 2) (q := 7) (n := (n + 1) + 1) (F := up F (n + 1) r) (Nat.le_of_ble_eq_true rfl) (Nat.le_of_ble_eq_true rfl) (by decide) rfl rfl (okF_up hF hd) (by omega) 8 305419896 (by decide)).mono ?_; rintro v H' ⟨rfl, rfl⟩; conv => whnf) | (rw [bne_self_eq_false]; conv => whnf) | exact ⟨(i + 1, some ((n + 1) + 1, up F (n + 1) r)), [0, 1, 2, 6, 7], ⟨by omega, by omega, by omega, okF_up hF hd⟩, by show N - (i + 1) < N - i; omega, okN_of (n0 := 3) (by decide), Nat.le_of_ble_eq_true rfl, ⟨⟨_, rfl, .inl rfl⟩, ⟨_, rfl, .inl rfl⟩, ⟨_, rfl, .inl rfl⟩, ⟨_, rfl, .inl rfl⟩, ⟨_, rfl, .inl rfl⟩, trivial⟩, ⟨rfl, rfl, rfl, gI i (by omega), trivial⟩⟩)
        · refine DR.way [0, 1, 2, 4, 5, 6, 3, 7, 8] (by decide +kernel) ⟨[1, 2, 3, 4], ?_⟩
          conv => whnf
          refine (firstX (p := 1) (q := 3) (n := (n + 1)) (F := F) (Nat.le_of_ble_eq_true rfl) (Nat.le_of_ble_eq_true rfl) (by decide) rfl rfl hm r).mono ?_
          rintro v H' ⟨rfl, rfl⟩
          conv => whnf
          refine (rfirstX (p := 2) (q := 4) (n := (n + 1)) (F := F) (Nat.le_of_ble_eq_true rfl) (Nat.le_of_ble_eq_true rfl) (by decide) rfl rfl hm r).mono ?_
          rintro v H' ⟨rfl, rfl⟩
          conv => whnf
          refine DR.mk ⟨.take 0 (.take 2 (.take 3 (.take 4 (.alt 1 (.alt 5 (.alt 6 (.take 7 (.take 8 (.take 9 (.take 11 (.alt 10 (.alt 12 (.take 13 (.take 14 .done)) .nil) .nil))))) .nil) .nil) (.alt 5 (.alt 1 (.alt 6 (.take 7 (.take 8 (.take 9 (.take 11 (.alt 10 (.alt 12 (.take 13 (.take 14 .done)) .nil) .nil))))) .nil) (.alt 6 (.alt 1 (.take 7 (.take 8 (.take 9 (.take 11 (.alt 10 (.alt 12 (.take 13 (.take 14 .done)) .nil) .nil))))) .nil) .nil)) .nil))))), by decide +kernel, [1, 2, 3, 4], ?_⟩
          conv => whnf
          repeat' (first | (refine And.intro ?_ ?_ <;> conv => whnf) | (refine (waitsR (p := 1) (q := 3) (n := (n + 1)) (F := F) (Nat.le_of_ble_eq_true rfl) (Nat.le_of_ble_eq_true rfl) (by decide) rfl rfl).mono ?_; rintro v H' ⟨rfl, rfl⟩; conv => whnf) | (refine (fwdR (p := 1) (q := 3) (n := (n + 1)) (F := F) (Nat.le_of_ble_eq_true rfl) (Nat.le_of_ble_eq_true rfl) (by decide) rfl rfl hF (by omega) 8 305419896 (by decide)).mono ?_; rintro v H' ⟨rfl, rfl⟩; conv => whnf) | (refine (rfwdR (p := 2) (q := 4) (n := (n + 1)) (F := F) (Nat.le_of_ble_eq_true rfl) (Nat.le_of_ble_eq_true rfl) (by decide) rfl rfl hF (by omega) 8 305419896 (by decide)).mono ?_; rintro v H' ⟨rfl, rfl⟩; conv => whnf) | (rw [bne_self_eq_false]; conv => whnf) | exact ⟨(i + 1, some ((n + 1), F)), [0, 1, 2, 3, 4], ⟨by omega, by omega, by omega, hF⟩, by show N - (i + 1) < N - i; omega, okN_of (n0 := 3) (by decide), Nat.le_of_ble_eq_true rfl, ⟨⟨_, rfl, .inl rfl⟩, ⟨_, rfl, .inl rfl⟩, ⟨_, rfl, .inl rfl⟩, ⟨_, rfl, .inl rfl⟩, ⟨_, rfl, .inl rfl⟩, trivial⟩, ⟨rfl, rfl, rfl, gI i (by omega), trivial⟩⟩)
end Go.Proofs.Ytfkjjaimilkfcaa.Md
