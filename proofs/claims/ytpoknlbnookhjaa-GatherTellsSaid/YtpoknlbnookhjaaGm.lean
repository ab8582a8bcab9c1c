/- GatherTurns, beside leavers. -/
import Derived.Test.YtpoknlbnookhjaaGl
set_option linter.unusedVariables false
set_option linter.unusedSimpArgs false
namespace Go.Proofs.Ytpoknlbnookhjaa.Md
open Go.RowKit Go.Proofs.Ytpoknlbnookhjaa.Ae Go.Proofs.Ytpoknlbnookhjaa
open Go.Lone
theorem eqb_comm (x y : R7) : eqb x y = eqb y x := by
  unfold eqb
  rw [Bool.beq_comm (a := x.1), Bool.beq_comm (a := x.2.1), Bool.beq_comm (a := x.2.2.1), Bool.beq_comm (a := x.2.2.2.1), Bool.beq_comm (a := x.2.2.2.2.1), Bool.beq_comm (a := x.2.2.2.2.2.1), Bool.beq_comm (a := x.2.2.2.2.2.2)]
theorem eqb_self (x : R7) : eqb x x = true := by simp [eqb]
theorem kN (n : Int) {L : Nat} (h0 : 0 < L) (h1 : L ≤ 1000) : ∃ k : Nat, (IntKind.i64.wrap (n.tmod (L : Int) + (L : Int))).tmod (L : Int) = (k : Int) ∧ k < L := by
  have a := Int.tmod_lt_of_pos n (show (0 : Int) < L by omega)
  have b : -(L : Int) < n.tmod L := by
    have := Int.lt_tmod_of_pos n (show (0 : Int) < L by omega)
    exact this
  rw [w64 (by omega) (by omega), Int.tmod_eq_emod_of_nonneg (by omega)]
  have c := Int.emod_nonneg (n.tmod L + L) (show (L : Int) ≠ 0 by omega)
  have d := Int.emod_lt_of_pos (n.tmod L + L) (show (0 : Int) < L by omega)
  exact ⟨((n.tmod L + L) % (L : Int)).toNat, by omega, by omega⟩
theorem deq {z L L' : Nat} (e : L' = L) : (decide (z = L) == ((z : Int) == (L' : Int))) = true := by
  subst e
  revert L'
  intro L
  by_cases h : z = L
  · subst h; simp
  · rw [decide_eq_false h, show ((z : Int) == (L : Int)) = false by rw [beq_eq_false_iff_ne]; omega]; rfl
theorem turnsLaw {la lb k x y z : Nat} {A B : Nat → R7} {ok is inn : Bool} (h1 : agr la lb A B x ok) (h2 : agr lb la B A y is) (h3 : agr k la A A z inn) (hk : k ≤ la) : x = y ∧ ok = is ∧ z = k ∧ inn = decide (k = la) := by
  obtain ⟨b1, b2, b3⟩ := h2
  have hm : min lb la = min la lb := Nat.min_comm ..
  rw [hm] at b1 b3
  have j := judged (A := A) (B := B) (want := y) rfl h1 b1 (fun j hj => by rw [eqb_comm]; exact b2 j hj) (fun h => by
    rcases b3 with ⟨_, g, _⟩ | ⟨g, _⟩
    · rw [eqb_comm]; exact g
    · omega)
  have t := judged (A := A) (B := A) (want := k) (show min k la = k by omega) h3 (Nat.le_refl _) (fun j _ => eqb_self _) (fun h => absurd h (Nat.lt_irrefl _))
  refine ⟨j.1, ?_, t.1, by rw [t.2]; simp⟩
  rw [j.2]
  rcases b3 with ⟨g, _, rfl⟩ | ⟨g, rfl⟩
  · rw [decide_eq_false (show ¬ y = min la lb by omega)]; rfl
  · rw [decide_eq_true g]; simp [eq_comm]
theorem deq0 {L : Nat} : (decide (0 = L) == ((0 : Int) == (L : Int))) = true := deq (z := 0) (L := L) rfl
set_option maxRecDepth 100000 in
set_option maxHeartbeats 4000000 in
theorem turnsNN {la lb N M : Nat} {A B : Nat → R7} {n : Int} (hA : la ≤ N) (hB : lb ≤ M) :
    ACB Try.prog 5 [.v .nilS, .v .nilS, i64 n] [.dead, .dead] (fun v _ => plainA v ∧ v = .v (.bool true)) := by
  refine ACB.of_body dok und Try.func5 rfl rfl (Nat.le_of_ble_eq_true rfl) rfl ?_
  conv => whnf
  refine (agreeB (la := 0) (lb := 0) (A := A) (B := B) (.inl ⟨rfl, rfl⟩) (.inl ⟨rfl, rfl⟩) (by omega) (by omega)).mono ?_
  rintro v H' ⟨⟨x, ok, rfl, g1⟩, rfl⟩
  conv => whnf
  refine (agreeB (la := 0) (lb := 0) (A := B) (B := A) (.inl ⟨rfl, rfl⟩) (.inl ⟨rfl, rfl⟩) (by omega) (by omega)).mono ?_
  rintro v H' ⟨⟨y, is, rfl, g2⟩, rfl⟩
  conv => whnf
  refine ⟨by decide, trivial, by decide, by decide, ?_⟩
  conv => whnf
  refine (agreeB (la := 0) (lb := 0) (A := A) (B := A) (.inl ⟨rfl, rfl⟩) (.inl ⟨rfl, rfl⟩) (by omega) (by omega)).mono ?_
  rintro v H' ⟨⟨z, inn, rfl, g3⟩, rfl⟩
  obtain ⟨rfl, rfl, rfl, rfl⟩ := turnsLaw g1 g2 g3 (by omega)
  conv => whnf
  rw [show ((x : Int) == (x : Int)) = true by simp]; conv => whnf
  rw [show (ok == ok) = true by simp]; conv => whnf
  refine (knownA _).mono ?_
  rintro v H' ⟨rfl, rfl⟩
  exact ⟨trivial, rfl⟩
set_option maxRecDepth 100000 in
set_option maxHeartbeats 4000000 in
theorem turnsNZ {la lb N M : Nat} {A B : Nat → R7} {n : Int} (hA : la ≤ N) (hB : lb ≤ M) :
    ACB Try.prog 5 [.v .nilS, .v (.sl 1 0 0 0 7), i64 n] [.dead, .dead] (fun v _ => plainA v ∧ v = .v (.bool true)) := by
  refine ACB.of_body dok und Try.func5 rfl rfl (Nat.le_of_ble_eq_true rfl) rfl ?_
  conv => whnf
  refine (agreeB (la := 0) (lb := 0) (A := A) (B := B) (.inl ⟨rfl, rfl⟩) (.inr (.inl ⟨1, rfl, rfl⟩)) (by omega) (by omega)).mono ?_
  rintro v H' ⟨⟨x, ok, rfl, g1⟩, rfl⟩
  conv => whnf
  refine (agreeB (la := 0) (lb := 0) (A := B) (B := A) (.inr (.inl ⟨1, rfl, rfl⟩)) (.inl ⟨rfl, rfl⟩) (by omega) (by omega)).mono ?_
  rintro v H' ⟨⟨y, is, rfl, g2⟩, rfl⟩
  conv => whnf
  refine ⟨by decide, trivial, by decide, by decide, ?_⟩
  conv => whnf
  refine (agreeB (la := 0) (lb := 0) (A := A) (B := A) (.inl ⟨rfl, rfl⟩) (.inl ⟨rfl, rfl⟩) (by omega) (by omega)).mono ?_
  rintro v H' ⟨⟨z, inn, rfl, g3⟩, rfl⟩
  obtain ⟨rfl, rfl, rfl, rfl⟩ := turnsLaw g1 g2 g3 (by omega)
  conv => whnf
  rw [show ((x : Int) == (x : Int)) = true by simp]; conv => whnf
  rw [show (ok == ok) = true by simp]; conv => whnf
  refine (knownA _).mono ?_
  rintro v H' ⟨rfl, rfl⟩
  exact ⟨trivial, rfl⟩
set_option maxRecDepth 100000 in
set_option maxHeartbeats 4000000 in
theorem turnsNL {la lb N M : Nat} {A B : Nat → R7} {n : Int} (hA : la ≤ N) (hB : lb ≤ M) :
    ACB Try.prog 5 [.v .nilS, .v (.sl 1 0 0 lb 7), i64 n] [.dead, .ro (seg M B)] (fun v _ => plainA v ∧ v = .v (.bool true)) := by
  refine ACB.of_body dok und Try.func5 rfl rfl (Nat.le_of_ble_eq_true rfl) rfl ?_
  conv => whnf
  refine cb_intro (fun e => ?_) (fun e => ?_)
  · have e : (lb : Int) > 30 := by simpa using e
    conv => whnf
    refine ⟨by decide, trivial, by decide, by omega, ?_⟩
    conv => whnf
    refine (agreeB (la := 0) (lb := 30) (A := A) (B := B) (.inl ⟨rfl, rfl⟩) (.inr (.inr ⟨1, M, _, _, rfl, rfl, rfl, rfl, by omega⟩)) (by omega) (by omega)).mono ?_
    rintro v H' ⟨⟨x, ok, rfl, g1⟩, rfl⟩
    conv => whnf
    refine (agreeB (la := 30) (lb := 0) (A := B) (B := A) (.inr (.inr ⟨1, M, _, _, rfl, rfl, rfl, rfl, by omega⟩)) (.inl ⟨rfl, rfl⟩) (by omega) (by omega)).mono ?_
    rintro v H' ⟨⟨y, is, rfl, g2⟩, rfl⟩
    conv => whnf
    refine ⟨by decide, trivial, by decide, by decide, ?_⟩
    conv => whnf
    refine (agreeB (la := 0) (lb := 0) (A := A) (B := A) (.inl ⟨rfl, rfl⟩) (.inl ⟨rfl, rfl⟩) (by omega) (by omega)).mono ?_
    rintro v H' ⟨⟨z, inn, rfl, g3⟩, rfl⟩
    obtain ⟨rfl, rfl, rfl, rfl⟩ := turnsLaw g1 g2 g3 (by omega)
    conv => whnf
    rw [show ((x : Int) == (x : Int)) = true by simp]; conv => whnf
    rw [show (ok == ok) = true by simp]; conv => whnf
    refine (knownA _).mono ?_
    rintro v H' ⟨rfl, rfl⟩
    exact ⟨trivial, rfl⟩
  · have e : ¬ (lb : Int) > 30 := by simpa using e
    conv => whnf
    refine (agreeB (la := 0) (lb := lb) (A := A) (B := B) (.inl ⟨rfl, rfl⟩) (.inr (.inr ⟨1, M, _, _, rfl, rfl, rfl, rfl, by omega⟩)) (by omega) (by omega)).mono ?_
    rintro v H' ⟨⟨x, ok, rfl, g1⟩, rfl⟩
    conv => whnf
    refine (agreeB (la := lb) (lb := 0) (A := B) (B := A) (.inr (.inr ⟨1, M, _, _, rfl, rfl, rfl, rfl, by omega⟩)) (.inl ⟨rfl, rfl⟩) (by omega) (by omega)).mono ?_
    rintro v H' ⟨⟨y, is, rfl, g2⟩, rfl⟩
    conv => whnf
    refine ⟨by decide, trivial, by decide, by decide, ?_⟩
    conv => whnf
    refine (agreeB (la := 0) (lb := 0) (A := A) (B := A) (.inl ⟨rfl, rfl⟩) (.inl ⟨rfl, rfl⟩) (by omega) (by omega)).mono ?_
    rintro v H' ⟨⟨z, inn, rfl, g3⟩, rfl⟩
    obtain ⟨rfl, rfl, rfl, rfl⟩ := turnsLaw g1 g2 g3 (by omega)
    conv => whnf
    rw [show ((x : Int) == (x : Int)) = true by simp]; conv => whnf
    rw [show (ok == ok) = true by simp]; conv => whnf
    refine (knownA _).mono ?_
    rintro v H' ⟨rfl, rfl⟩
    exact ⟨trivial, rfl⟩
set_option maxRecDepth 100000 in
set_option maxHeartbeats 4000000 in
theorem turnsZN {la lb N M : Nat} {A B : Nat → R7} {n : Int} (hA : la ≤ N) (hB : lb ≤ M) :
    ACB Try.prog 5 [.v (.sl 0 0 0 0 7), .v .nilS, i64 n] [.dead, .dead] (fun v _ => plainA v ∧ v = .v (.bool true)) := by
  refine ACB.of_body dok und Try.func5 rfl rfl (Nat.le_of_ble_eq_true rfl) rfl ?_
  conv => whnf
  refine (agreeB (la := 0) (lb := 0) (A := A) (B := B) (.inr (.inl ⟨0, rfl, rfl⟩)) (.inl ⟨rfl, rfl⟩) (by omega) (by omega)).mono ?_
  rintro v H' ⟨⟨x, ok, rfl, g1⟩, rfl⟩
  conv => whnf
  refine (agreeB (la := 0) (lb := 0) (A := B) (B := A) (.inl ⟨rfl, rfl⟩) (.inr (.inl ⟨0, rfl, rfl⟩)) (by omega) (by omega)).mono ?_
  rintro v H' ⟨⟨y, is, rfl, g2⟩, rfl⟩
  conv => whnf
  refine ⟨by decide, trivial, by decide, by decide, ?_⟩
  conv => whnf
  refine (agreeB (la := 0) (lb := 0) (A := A) (B := A) (.inr (.inl ⟨0, rfl, rfl⟩)) (.inr (.inl ⟨0, rfl, rfl⟩)) (by omega) (by omega)).mono ?_
  rintro v H' ⟨⟨z, inn, rfl, g3⟩, rfl⟩
  obtain ⟨rfl, rfl, rfl, rfl⟩ := turnsLaw g1 g2 g3 (by omega)
  conv => whnf
  rw [show ((x : Int) == (x : Int)) = true by simp]; conv => whnf
  rw [show (ok == ok) = true by simp]; conv => whnf
  refine (knownA _).mono ?_
  rintro v H' ⟨rfl, rfl⟩
  exact ⟨trivial, rfl⟩
set_option maxRecDepth 100000 in
set_option maxHeartbeats 4000000 in
theorem turnsZZ {la lb N M : Nat} {A B : Nat → R7} {n : Int} (hA : la ≤ N) (hB : lb ≤ M) :
    ACB Try.prog 5 [.v (.sl 0 0 0 0 7), .v (.sl 1 0 0 0 7), i64 n] [.dead, .dead] (fun v _ => plainA v ∧ v = .v (.bool true)) := by
  refine ACB.of_body dok und Try.func5 rfl rfl (Nat.le_of_ble_eq_true rfl) rfl ?_
  conv => whnf
  refine (agreeB (la := 0) (lb := 0) (A := A) (B := B) (.inr (.inl ⟨0, rfl, rfl⟩)) (.inr (.inl ⟨1, rfl, rfl⟩)) (by omega) (by omega)).mono ?_
  rintro v H' ⟨⟨x, ok, rfl, g1⟩, rfl⟩
  conv => whnf
  refine (agreeB (la := 0) (lb := 0) (A := B) (B := A) (.inr (.inl ⟨1, rfl, rfl⟩)) (.inr (.inl ⟨0, rfl, rfl⟩)) (by omega) (by omega)).mono ?_
  rintro v H' ⟨⟨y, is, rfl, g2⟩, rfl⟩
  conv => whnf
  refine ⟨by decide, trivial, by decide, by decide, ?_⟩
  conv => whnf
  refine (agreeB (la := 0) (lb := 0) (A := A) (B := A) (.inr (.inl ⟨0, rfl, rfl⟩)) (.inr (.inl ⟨0, rfl, rfl⟩)) (by omega) (by omega)).mono ?_
  rintro v H' ⟨⟨z, inn, rfl, g3⟩, rfl⟩
  obtain ⟨rfl, rfl, rfl, rfl⟩ := turnsLaw g1 g2 g3 (by omega)
  conv => whnf
  rw [show ((x : Int) == (x : Int)) = true by simp]; conv => whnf
  rw [show (ok == ok) = true by simp]; conv => whnf
  refine (knownA _).mono ?_
  rintro v H' ⟨rfl, rfl⟩
  exact ⟨trivial, rfl⟩
set_option maxRecDepth 100000 in
set_option maxHeartbeats 4000000 in
theorem turnsZL {la lb N M : Nat} {A B : Nat → R7} {n : Int} (hA : la ≤ N) (hB : lb ≤ M) :
    ACB Try.prog 5 [.v (.sl 0 0 0 0 7), .v (.sl 1 0 0 lb 7), i64 n] [.dead, .ro (seg M B)] (fun v _ => plainA v ∧ v = .v (.bool true)) := by
  refine ACB.of_body dok und Try.func5 rfl rfl (Nat.le_of_ble_eq_true rfl) rfl ?_
  conv => whnf
  refine cb_intro (fun e => ?_) (fun e => ?_)
  · have e : (lb : Int) > 30 := by simpa using e
    conv => whnf
    refine ⟨by decide, trivial, by decide, by omega, ?_⟩
    conv => whnf
    refine (agreeB (la := 0) (lb := 30) (A := A) (B := B) (.inr (.inl ⟨0, rfl, rfl⟩)) (.inr (.inr ⟨1, M, _, _, rfl, rfl, rfl, rfl, by omega⟩)) (by omega) (by omega)).mono ?_
    rintro v H' ⟨⟨x, ok, rfl, g1⟩, rfl⟩
    conv => whnf
    refine (agreeB (la := 30) (lb := 0) (A := B) (B := A) (.inr (.inr ⟨1, M, _, _, rfl, rfl, rfl, rfl, by omega⟩)) (.inr (.inl ⟨0, rfl, rfl⟩)) (by omega) (by omega)).mono ?_
    rintro v H' ⟨⟨y, is, rfl, g2⟩, rfl⟩
    conv => whnf
    refine ⟨by decide, trivial, by decide, by decide, ?_⟩
    conv => whnf
    refine (agreeB (la := 0) (lb := 0) (A := A) (B := A) (.inr (.inl ⟨0, rfl, rfl⟩)) (.inr (.inl ⟨0, rfl, rfl⟩)) (by omega) (by omega)).mono ?_
    rintro v H' ⟨⟨z, inn, rfl, g3⟩, rfl⟩
    obtain ⟨rfl, rfl, rfl, rfl⟩ := turnsLaw g1 g2 g3 (by omega)
    conv => whnf
    rw [show ((x : Int) == (x : Int)) = true by simp]; conv => whnf
    rw [show (ok == ok) = true by simp]; conv => whnf
    refine (knownA _).mono ?_
    rintro v H' ⟨rfl, rfl⟩
    exact ⟨trivial, rfl⟩
  · have e : ¬ (lb : Int) > 30 := by simpa using e
    conv => whnf
    refine (agreeB (la := 0) (lb := lb) (A := A) (B := B) (.inr (.inl ⟨0, rfl, rfl⟩)) (.inr (.inr ⟨1, M, _, _, rfl, rfl, rfl, rfl, by omega⟩)) (by omega) (by omega)).mono ?_
    rintro v H' ⟨⟨x, ok, rfl, g1⟩, rfl⟩
    conv => whnf
    refine (agreeB (la := lb) (lb := 0) (A := B) (B := A) (.inr (.inr ⟨1, M, _, _, rfl, rfl, rfl, rfl, by omega⟩)) (.inr (.inl ⟨0, rfl, rfl⟩)) (by omega) (by omega)).mono ?_
    rintro v H' ⟨⟨y, is, rfl, g2⟩, rfl⟩
    conv => whnf
    refine ⟨by decide, trivial, by decide, by decide, ?_⟩
    conv => whnf
    refine (agreeB (la := 0) (lb := 0) (A := A) (B := A) (.inr (.inl ⟨0, rfl, rfl⟩)) (.inr (.inl ⟨0, rfl, rfl⟩)) (by omega) (by omega)).mono ?_
    rintro v H' ⟨⟨z, inn, rfl, g3⟩, rfl⟩
    obtain ⟨rfl, rfl, rfl, rfl⟩ := turnsLaw g1 g2 g3 (by omega)
    conv => whnf
    rw [show ((x : Int) == (x : Int)) = true by simp]; conv => whnf
    rw [show (ok == ok) = true by simp]; conv => whnf
    refine (knownA _).mono ?_
    rintro v H' ⟨rfl, rfl⟩
    exact ⟨trivial, rfl⟩
set_option maxRecDepth 100000 in
set_option maxHeartbeats 4000000 in
theorem turnsLN {la lb N M : Nat} {A B : Nat → R7} {n : Int} (hA : la ≤ N) (hB : lb ≤ M) :
    ACB Try.prog 5 [.v (.sl 0 0 0 la 7), .v .nilS, i64 n] [.ro (seg N A), .dead] (fun v _ => plainA v ∧ v = .v (.bool true)) := by
  refine ACB.of_body dok und Try.func5 rfl rfl (Nat.le_of_ble_eq_true rfl) rfl ?_
  conv => whnf
  refine cb_intro (fun e => ?_) (fun e => ?_)
  · have e : (la : Int) > 30 := by simpa using e
    conv => whnf
    refine ⟨by decide, trivial, by decide, by omega, ?_⟩
    conv => whnf
    refine (agreeB (la := 30) (lb := 0) (A := A) (B := B) (.inr (.inr ⟨0, N, _, _, rfl, rfl, rfl, rfl, by omega⟩)) (.inl ⟨rfl, rfl⟩) (by omega) (by omega)).mono ?_
    rintro v H' ⟨⟨x, ok, rfl, g1⟩, rfl⟩
    conv => whnf
    refine (agreeB (la := 0) (lb := 30) (A := B) (B := A) (.inl ⟨rfl, rfl⟩) (.inr (.inr ⟨0, N, _, _, rfl, rfl, rfl, rfl, by omega⟩)) (by omega) (by omega)).mono ?_
    rintro v H' ⟨⟨y, is, rfl, g2⟩, rfl⟩
    conv => whnf
    obtain ⟨k, hk, hkl⟩ := kN n (L := Int.toNat 30 - 0) (by omega) (by omega)
    rw [hk]
    refine ⟨by omega, trivial, Nat.zero_le _, by omega, ?_⟩
    conv => whnf
    refine (agreeB (la := k) (lb := 30) (A := A) (B := A) (.inr (.inr ⟨0, N, _, _, rfl, rfl, rfl, rfl, by omega⟩)) (.inr (.inr ⟨0, N, _, _, rfl, rfl, rfl, rfl, by omega⟩)) (by omega) (by omega)).mono ?_
    rintro v H' ⟨⟨z, inn, rfl, g3⟩, rfl⟩
    obtain ⟨rfl, rfl, rfl, rfl⟩ := turnsLaw g1 g2 g3 (by omega)
    conv => whnf
    rw [show ((x : Int) == (x : Int)) = true by simp]; conv => whnf
    rw [show (ok == ok) = true by simp]; conv => whnf
    rw [show ((z : Int) == (z : Int)) = true by simp]; conv => whnf
    rw [deq (z := z) (L := 30) (L' := Int.toNat 30 - 0) (by omega)]; conv => whnf
    refine (knownA _).mono ?_
    rintro v H' ⟨rfl, rfl⟩
    exact ⟨trivial, rfl⟩
  · have e : ¬ (la : Int) > 30 := by simpa using e
    by_cases z0 : la = 0
    · have z0 := z0
      conv => whnf
      refine (agreeB (la := la) (lb := 0) (A := A) (B := B) (.inr (.inr ⟨0, N, _, _, rfl, rfl, rfl, rfl, by omega⟩)) (.inl ⟨rfl, rfl⟩) (by omega) (by omega)).mono ?_
      rintro v H' ⟨⟨x, ok, rfl, g1⟩, rfl⟩
      conv => whnf
      refine (agreeB (la := 0) (lb := la) (A := B) (B := A) (.inl ⟨rfl, rfl⟩) (.inr (.inr ⟨0, N, _, _, rfl, rfl, rfl, rfl, by omega⟩)) (by omega) (by omega)).mono ?_
      rintro v H' ⟨⟨y, is, rfl, g2⟩, rfl⟩
      conv => whnf
      rw [decide_eq_false (show ¬ (la : Int) > 0 by omega)]; conv => whnf
      refine ⟨by decide, trivial, by decide, by omega, ?_⟩
      conv => whnf
      refine (agreeB (la := 0) (lb := la) (A := A) (B := A) (.inr (.inr ⟨0, N, _, _, rfl, rfl, rfl, rfl, by omega⟩)) (.inr (.inr ⟨0, N, _, _, rfl, rfl, rfl, rfl, by omega⟩)) (by omega) (by omega)).mono ?_
      rintro v H' ⟨⟨z, inn, rfl, g3⟩, rfl⟩
      obtain ⟨rfl, rfl, rfl, rfl⟩ := turnsLaw g1 g2 g3 (by omega)
      conv => whnf
      rw [show ((x : Int) == (x : Int)) = true by simp]; conv => whnf
      rw [show (ok == ok) = true by simp]; conv => whnf
      rw [deq0 (L := la)]; conv => whnf
      refine (knownA _).mono ?_
      rintro v H' ⟨rfl, rfl⟩
      exact ⟨trivial, rfl⟩
    · have z0 := z0
      conv => whnf
      refine (agreeB (la := la) (lb := 0) (A := A) (B := B) (.inr (.inr ⟨0, N, _, _, rfl, rfl, rfl, rfl, by omega⟩)) (.inl ⟨rfl, rfl⟩) (by omega) (by omega)).mono ?_
      rintro v H' ⟨⟨x, ok, rfl, g1⟩, rfl⟩
      conv => whnf
      refine (agreeB (la := 0) (lb := la) (A := B) (B := A) (.inl ⟨rfl, rfl⟩) (.inr (.inr ⟨0, N, _, _, rfl, rfl, rfl, rfl, by omega⟩)) (by omega) (by omega)).mono ?_
      rintro v H' ⟨⟨y, is, rfl, g2⟩, rfl⟩
      conv => whnf
      rw [decide_eq_true (show (la : Int) > 0 by omega)]; conv => whnf
      rw [show ((la : Int) == 0) = false by rw [beq_eq_false_iff_ne]; omega]; conv => whnf
      rw [show ((la : Int) == 0) = false by rw [beq_eq_false_iff_ne]; omega]; conv => whnf
      obtain ⟨k, hk, hkl⟩ := kN n (L := la) (by omega) (by omega)
      rw [hk]
      refine ⟨by omega, trivial, Nat.zero_le _, by omega, ?_⟩
      conv => whnf
      refine (agreeB (la := k) (lb := la) (A := A) (B := A) (.inr (.inr ⟨0, N, _, _, rfl, rfl, rfl, rfl, by omega⟩)) (.inr (.inr ⟨0, N, _, _, rfl, rfl, rfl, rfl, by omega⟩)) (by omega) (by omega)).mono ?_
      rintro v H' ⟨⟨z, inn, rfl, g3⟩, rfl⟩
      obtain ⟨rfl, rfl, rfl, rfl⟩ := turnsLaw g1 g2 g3 (by omega)
      conv => whnf
      rw [show ((x : Int) == (x : Int)) = true by simp]; conv => whnf
      rw [show (ok == ok) = true by simp]; conv => whnf
      rw [show ((z : Int) == (z : Int)) = true by simp]; conv => whnf
      rw [deq (z := z) (L := la) (L' := la) (by omega)]; conv => whnf
      refine (knownA _).mono ?_
      rintro v H' ⟨rfl, rfl⟩
      exact ⟨trivial, rfl⟩
set_option maxRecDepth 100000 in
set_option maxHeartbeats 4000000 in
theorem turnsLZ {la lb N M : Nat} {A B : Nat → R7} {n : Int} (hA : la ≤ N) (hB : lb ≤ M) :
    ACB Try.prog 5 [.v (.sl 0 0 0 la 7), .v (.sl 1 0 0 0 7), i64 n] [.ro (seg N A), .dead] (fun v _ => plainA v ∧ v = .v (.bool true)) := by
  refine ACB.of_body dok und Try.func5 rfl rfl (Nat.le_of_ble_eq_true rfl) rfl ?_
  conv => whnf
  refine cb_intro (fun e => ?_) (fun e => ?_)
  · have e : (la : Int) > 30 := by simpa using e
    conv => whnf
    refine ⟨by decide, trivial, by decide, by omega, ?_⟩
    conv => whnf
    refine (agreeB (la := 30) (lb := 0) (A := A) (B := B) (.inr (.inr ⟨0, N, _, _, rfl, rfl, rfl, rfl, by omega⟩)) (.inr (.inl ⟨1, rfl, rfl⟩)) (by omega) (by omega)).mono ?_
    rintro v H' ⟨⟨x, ok, rfl, g1⟩, rfl⟩
    conv => whnf
    refine (agreeB (la := 0) (lb := 30) (A := B) (B := A) (.inr (.inl ⟨1, rfl, rfl⟩)) (.inr (.inr ⟨0, N, _, _, rfl, rfl, rfl, rfl, by omega⟩)) (by omega) (by omega)).mono ?_
    rintro v H' ⟨⟨y, is, rfl, g2⟩, rfl⟩
    conv => whnf
    obtain ⟨k, hk, hkl⟩ := kN n (L := Int.toNat 30 - 0) (by omega) (by omega)
    rw [hk]
    refine ⟨by omega, trivial, Nat.zero_le _, by omega, ?_⟩
    conv => whnf
    refine (agreeB (la := k) (lb := 30) (A := A) (B := A) (.inr (.inr ⟨0, N, _, _, rfl, rfl, rfl, rfl, by omega⟩)) (.inr (.inr ⟨0, N, _, _, rfl, rfl, rfl, rfl, by omega⟩)) (by omega) (by omega)).mono ?_
    rintro v H' ⟨⟨z, inn, rfl, g3⟩, rfl⟩
    obtain ⟨rfl, rfl, rfl, rfl⟩ := turnsLaw g1 g2 g3 (by omega)
    conv => whnf
    rw [show ((x : Int) == (x : Int)) = true by simp]; conv => whnf
    rw [show (ok == ok) = true by simp]; conv => whnf
    rw [show ((z : Int) == (z : Int)) = true by simp]; conv => whnf
    rw [deq (z := z) (L := 30) (L' := Int.toNat 30 - 0) (by omega)]; conv => whnf
    refine (knownA _).mono ?_
    rintro v H' ⟨rfl, rfl⟩
    exact ⟨trivial, rfl⟩
  · have e : ¬ (la : Int) > 30 := by simpa using e
    by_cases z0 : la = 0
    · have z0 := z0
      conv => whnf
      refine (agreeB (la := la) (lb := 0) (A := A) (B := B) (.inr (.inr ⟨0, N, _, _, rfl, rfl, rfl, rfl, by omega⟩)) (.inr (.inl ⟨1, rfl, rfl⟩)) (by omega) (by omega)).mono ?_
      rintro v H' ⟨⟨x, ok, rfl, g1⟩, rfl⟩
      conv => whnf
      refine (agreeB (la := 0) (lb := la) (A := B) (B := A) (.inr (.inl ⟨1, rfl, rfl⟩)) (.inr (.inr ⟨0, N, _, _, rfl, rfl, rfl, rfl, by omega⟩)) (by omega) (by omega)).mono ?_
      rintro v H' ⟨⟨y, is, rfl, g2⟩, rfl⟩
      conv => whnf
      rw [decide_eq_false (show ¬ (la : Int) > 0 by omega)]; conv => whnf
      refine ⟨by decide, trivial, by decide, by omega, ?_⟩
      conv => whnf
      refine (agreeB (la := 0) (lb := la) (A := A) (B := A) (.inr (.inr ⟨0, N, _, _, rfl, rfl, rfl, rfl, by omega⟩)) (.inr (.inr ⟨0, N, _, _, rfl, rfl, rfl, rfl, by omega⟩)) (by omega) (by omega)).mono ?_
      rintro v H' ⟨⟨z, inn, rfl, g3⟩, rfl⟩
      obtain ⟨rfl, rfl, rfl, rfl⟩ := turnsLaw g1 g2 g3 (by omega)
      conv => whnf
      rw [show ((x : Int) == (x : Int)) = true by simp]; conv => whnf
      rw [show (ok == ok) = true by simp]; conv => whnf
      rw [deq0 (L := la)]; conv => whnf
      refine (knownA _).mono ?_
      rintro v H' ⟨rfl, rfl⟩
      exact ⟨trivial, rfl⟩
    · have z0 := z0
      conv => whnf
      refine (agreeB (la := la) (lb := 0) (A := A) (B := B) (.inr (.inr ⟨0, N, _, _, rfl, rfl, rfl, rfl, by omega⟩)) (.inr (.inl ⟨1, rfl, rfl⟩)) (by omega) (by omega)).mono ?_
      rintro v H' ⟨⟨x, ok, rfl, g1⟩, rfl⟩
      conv => whnf
      refine (agreeB (la := 0) (lb := la) (A := B) (B := A) (.inr (.inl ⟨1, rfl, rfl⟩)) (.inr (.inr ⟨0, N, _, _, rfl, rfl, rfl, rfl, by omega⟩)) (by omega) (by omega)).mono ?_
      rintro v H' ⟨⟨y, is, rfl, g2⟩, rfl⟩
      conv => whnf
      rw [decide_eq_true (show (la : Int) > 0 by omega)]; conv => whnf
      rw [show ((la : Int) == 0) = false by rw [beq_eq_false_iff_ne]; omega]; conv => whnf
      rw [show ((la : Int) == 0) = false by rw [beq_eq_false_iff_ne]; omega]; conv => whnf
      obtain ⟨k, hk, hkl⟩ := kN n (L := la) (by omega) (by omega)
      rw [hk]
      refine ⟨by omega, trivial, Nat.zero_le _, by omega, ?_⟩
      conv => whnf
      refine (agreeB (la := k) (lb := la) (A := A) (B := A) (.inr (.inr ⟨0, N, _, _, rfl, rfl, rfl, rfl, by omega⟩)) (.inr (.inr ⟨0, N, _, _, rfl, rfl, rfl, rfl, by omega⟩)) (by omega) (by omega)).mono ?_
      rintro v H' ⟨⟨z, inn, rfl, g3⟩, rfl⟩
      obtain ⟨rfl, rfl, rfl, rfl⟩ := turnsLaw g1 g2 g3 (by omega)
      conv => whnf
      rw [show ((x : Int) == (x : Int)) = true by simp]; conv => whnf
      rw [show (ok == ok) = true by simp]; conv => whnf
      rw [show ((z : Int) == (z : Int)) = true by simp]; conv => whnf
      rw [deq (z := z) (L := la) (L' := la) (by omega)]; conv => whnf
      refine (knownA _).mono ?_
      rintro v H' ⟨rfl, rfl⟩
      exact ⟨trivial, rfl⟩
set_option maxRecDepth 100000 in
set_option maxHeartbeats 4000000 in
theorem turnsLL {la lb N M : Nat} {A B : Nat → R7} {n : Int} (hA : la ≤ N) (hB : lb ≤ M) :
    ACB Try.prog 5 [.v (.sl 0 0 0 la 7), .v (.sl 1 0 0 lb 7), i64 n] [.ro (seg N A), .ro (seg M B)] (fun v _ => plainA v ∧ v = .v (.bool true)) := by
  refine ACB.of_body dok und Try.func5 rfl rfl (Nat.le_of_ble_eq_true rfl) rfl ?_
  conv => whnf
  refine cb_intro (fun e => ?_) (fun e => ?_)
  · have e : (la : Int) > 30 := by simpa using e
    conv => whnf
    refine ⟨by decide, trivial, by decide, by omega, ?_⟩
    conv => whnf
    refine cb_intro (fun e => ?_) (fun e => ?_)
    · have e : (lb : Int) > 30 := by simpa using e
      conv => whnf
      refine ⟨by decide, trivial, by decide, by omega, ?_⟩
      conv => whnf
      refine (agreeB (la := 30) (lb := 30) (A := A) (B := B) (.inr (.inr ⟨0, N, _, _, rfl, rfl, rfl, rfl, by omega⟩)) (.inr (.inr ⟨1, M, _, _, rfl, rfl, rfl, rfl, by omega⟩)) (by omega) (by omega)).mono ?_
      rintro v H' ⟨⟨x, ok, rfl, g1⟩, rfl⟩
      conv => whnf
      refine (agreeB (la := 30) (lb := 30) (A := B) (B := A) (.inr (.inr ⟨1, M, _, _, rfl, rfl, rfl, rfl, by omega⟩)) (.inr (.inr ⟨0, N, _, _, rfl, rfl, rfl, rfl, by omega⟩)) (by omega) (by omega)).mono ?_
      rintro v H' ⟨⟨y, is, rfl, g2⟩, rfl⟩
      conv => whnf
      obtain ⟨k, hk, hkl⟩ := kN n (L := Int.toNat 30 - 0) (by omega) (by omega)
      rw [hk]
      refine ⟨by omega, trivial, Nat.zero_le _, by omega, ?_⟩
      conv => whnf
      refine (agreeB (la := k) (lb := 30) (A := A) (B := A) (.inr (.inr ⟨0, N, _, _, rfl, rfl, rfl, rfl, by omega⟩)) (.inr (.inr ⟨0, N, _, _, rfl, rfl, rfl, rfl, by omega⟩)) (by omega) (by omega)).mono ?_
      rintro v H' ⟨⟨z, inn, rfl, g3⟩, rfl⟩
      obtain ⟨rfl, rfl, rfl, rfl⟩ := turnsLaw g1 g2 g3 (by omega)
      conv => whnf
      rw [show ((x : Int) == (x : Int)) = true by simp]; conv => whnf
      rw [show (ok == ok) = true by simp]; conv => whnf
      rw [show ((z : Int) == (z : Int)) = true by simp]; conv => whnf
      rw [deq (z := z) (L := 30) (L' := Int.toNat 30 - 0) (by omega)]; conv => whnf
      refine (knownA _).mono ?_
      rintro v H' ⟨rfl, rfl⟩
      exact ⟨trivial, rfl⟩
    · have e : ¬ (lb : Int) > 30 := by simpa using e
      conv => whnf
      refine (agreeB (la := 30) (lb := lb) (A := A) (B := B) (.inr (.inr ⟨0, N, _, _, rfl, rfl, rfl, rfl, by omega⟩)) (.inr (.inr ⟨1, M, _, _, rfl, rfl, rfl, rfl, by omega⟩)) (by omega) (by omega)).mono ?_
      rintro v H' ⟨⟨x, ok, rfl, g1⟩, rfl⟩
      conv => whnf
      refine (agreeB (la := lb) (lb := 30) (A := B) (B := A) (.inr (.inr ⟨1, M, _, _, rfl, rfl, rfl, rfl, by omega⟩)) (.inr (.inr ⟨0, N, _, _, rfl, rfl, rfl, rfl, by omega⟩)) (by omega) (by omega)).mono ?_
      rintro v H' ⟨⟨y, is, rfl, g2⟩, rfl⟩
      conv => whnf
      obtain ⟨k, hk, hkl⟩ := kN n (L := Int.toNat 30 - 0) (by omega) (by omega)
      rw [hk]
      refine ⟨by omega, trivial, Nat.zero_le _, by omega, ?_⟩
      conv => whnf
      refine (agreeB (la := k) (lb := 30) (A := A) (B := A) (.inr (.inr ⟨0, N, _, _, rfl, rfl, rfl, rfl, by omega⟩)) (.inr (.inr ⟨0, N, _, _, rfl, rfl, rfl, rfl, by omega⟩)) (by omega) (by omega)).mono ?_
      rintro v H' ⟨⟨z, inn, rfl, g3⟩, rfl⟩
      obtain ⟨rfl, rfl, rfl, rfl⟩ := turnsLaw g1 g2 g3 (by omega)
      conv => whnf
      rw [show ((x : Int) == (x : Int)) = true by simp]; conv => whnf
      rw [show (ok == ok) = true by simp]; conv => whnf
      rw [show ((z : Int) == (z : Int)) = true by simp]; conv => whnf
      rw [deq (z := z) (L := 30) (L' := Int.toNat 30 - 0) (by omega)]; conv => whnf
      refine (knownA _).mono ?_
      rintro v H' ⟨rfl, rfl⟩
      exact ⟨trivial, rfl⟩
  · have e : ¬ (la : Int) > 30 := by simpa using e
    by_cases z0 : la = 0
    · have z0 := z0
      conv => whnf
      refine cb_intro (fun e => ?_) (fun e => ?_)
      · have e : (lb : Int) > 30 := by simpa using e
        conv => whnf
        refine ⟨by decide, trivial, by decide, by omega, ?_⟩
        conv => whnf
        refine (agreeB (la := la) (lb := 30) (A := A) (B := B) (.inr (.inr ⟨0, N, _, _, rfl, rfl, rfl, rfl, by omega⟩)) (.inr (.inr ⟨1, M, _, _, rfl, rfl, rfl, rfl, by omega⟩)) (by omega) (by omega)).mono ?_
        rintro v H' ⟨⟨x, ok, rfl, g1⟩, rfl⟩
        conv => whnf
        refine (agreeB (la := 30) (lb := la) (A := B) (B := A) (.inr (.inr ⟨1, M, _, _, rfl, rfl, rfl, rfl, by omega⟩)) (.inr (.inr ⟨0, N, _, _, rfl, rfl, rfl, rfl, by omega⟩)) (by omega) (by omega)).mono ?_
        rintro v H' ⟨⟨y, is, rfl, g2⟩, rfl⟩
        conv => whnf
        rw [decide_eq_false (show ¬ (la : Int) > 0 by omega)]; conv => whnf
        refine ⟨by decide, trivial, by decide, by omega, ?_⟩
        conv => whnf
        refine (agreeB (la := 0) (lb := la) (A := A) (B := A) (.inr (.inr ⟨0, N, _, _, rfl, rfl, rfl, rfl, by omega⟩)) (.inr (.inr ⟨0, N, _, _, rfl, rfl, rfl, rfl, by omega⟩)) (by omega) (by omega)).mono ?_
        rintro v H' ⟨⟨z, inn, rfl, g3⟩, rfl⟩
        obtain ⟨rfl, rfl, rfl, rfl⟩ := turnsLaw g1 g2 g3 (by omega)
        conv => whnf
        rw [show ((x : Int) == (x : Int)) = true by simp]; conv => whnf
        rw [show (ok == ok) = true by simp]; conv => whnf
        rw [deq0 (L := la)]; conv => whnf
        refine (knownA _).mono ?_
        rintro v H' ⟨rfl, rfl⟩
        exact ⟨trivial, rfl⟩
      · have e : ¬ (lb : Int) > 30 := by simpa using e
        conv => whnf
        refine (agreeB (la := la) (lb := lb) (A := A) (B := B) (.inr (.inr ⟨0, N, _, _, rfl, rfl, rfl, rfl, by omega⟩)) (.inr (.inr ⟨1, M, _, _, rfl, rfl, rfl, rfl, by omega⟩)) (by omega) (by omega)).mono ?_
        rintro v H' ⟨⟨x, ok, rfl, g1⟩, rfl⟩
        conv => whnf
        refine (agreeB (la := lb) (lb := la) (A := B) (B := A) (.inr (.inr ⟨1, M, _, _, rfl, rfl, rfl, rfl, by omega⟩)) (.inr (.inr ⟨0, N, _, _, rfl, rfl, rfl, rfl, by omega⟩)) (by omega) (by omega)).mono ?_
        rintro v H' ⟨⟨y, is, rfl, g2⟩, rfl⟩
        conv => whnf
        rw [decide_eq_false (show ¬ (la : Int) > 0 by omega)]; conv => whnf
        refine ⟨by decide, trivial, by decide, by omega, ?_⟩
        conv => whnf
        refine (agreeB (la := 0) (lb := la) (A := A) (B := A) (.inr (.inr ⟨0, N, _, _, rfl, rfl, rfl, rfl, by omega⟩)) (.inr (.inr ⟨0, N, _, _, rfl, rfl, rfl, rfl, by omega⟩)) (by omega) (by omega)).mono ?_
        rintro v H' ⟨⟨z, inn, rfl, g3⟩, rfl⟩
        obtain ⟨rfl, rfl, rfl, rfl⟩ := turnsLaw g1 g2 g3 (by omega)
        conv => whnf
        rw [show ((x : Int) == (x : Int)) = true by simp]; conv => whnf
        rw [show (ok == ok) = true by simp]; conv => whnf
        rw [deq0 (L := la)]; conv => whnf
        refine (knownA _).mono ?_
        rintro v H' ⟨rfl, rfl⟩
        exact ⟨trivial, rfl⟩
    · have z0 := z0
      conv => whnf
      refine cb_intro (fun e => ?_) (fun e => ?_)
      · have e : (lb : Int) > 30 := by simpa using e
        conv => whnf
        refine ⟨by decide, trivial, by decide, by omega, ?_⟩
        conv => whnf
        refine (agreeB (la := la) (lb := 30) (A := A) (B := B) (.inr (.inr ⟨0, N, _, _, rfl, rfl, rfl, rfl, by omega⟩)) (.inr (.inr ⟨1, M, _, _, rfl, rfl, rfl, rfl, by omega⟩)) (by omega) (by omega)).mono ?_
        rintro v H' ⟨⟨x, ok, rfl, g1⟩, rfl⟩
        conv => whnf
        refine (agreeB (la := 30) (lb := la) (A := B) (B := A) (.inr (.inr ⟨1, M, _, _, rfl, rfl, rfl, rfl, by omega⟩)) (.inr (.inr ⟨0, N, _, _, rfl, rfl, rfl, rfl, by omega⟩)) (by omega) (by omega)).mono ?_
        rintro v H' ⟨⟨y, is, rfl, g2⟩, rfl⟩
        conv => whnf
        rw [decide_eq_true (show (la : Int) > 0 by omega)]; conv => whnf
        rw [show ((la : Int) == 0) = false by rw [beq_eq_false_iff_ne]; omega]; conv => whnf
        rw [show ((la : Int) == 0) = false by rw [beq_eq_false_iff_ne]; omega]; conv => whnf
        obtain ⟨k, hk, hkl⟩ := kN n (L := la) (by omega) (by omega)
        rw [hk]
        refine ⟨by omega, trivial, Nat.zero_le _, by omega, ?_⟩
        conv => whnf
        refine (agreeB (la := k) (lb := la) (A := A) (B := A) (.inr (.inr ⟨0, N, _, _, rfl, rfl, rfl, rfl, by omega⟩)) (.inr (.inr ⟨0, N, _, _, rfl, rfl, rfl, rfl, by omega⟩)) (by omega) (by omega)).mono ?_
        rintro v H' ⟨⟨z, inn, rfl, g3⟩, rfl⟩
        obtain ⟨rfl, rfl, rfl, rfl⟩ := turnsLaw g1 g2 g3 (by omega)
        conv => whnf
        rw [show ((x : Int) == (x : Int)) = true by simp]; conv => whnf
        rw [show (ok == ok) = true by simp]; conv => whnf
        rw [show ((z : Int) == (z : Int)) = true by simp]; conv => whnf
        rw [deq (z := z) (L := la) (L' := la) (by omega)]; conv => whnf
        refine (knownA _).mono ?_
        rintro v H' ⟨rfl, rfl⟩
        exact ⟨trivial, rfl⟩
      · have e : ¬ (lb : Int) > 30 := by simpa using e
        conv => whnf
        refine (agreeB (la := la) (lb := lb) (A := A) (B := B) (.inr (.inr ⟨0, N, _, _, rfl, rfl, rfl, rfl, by omega⟩)) (.inr (.inr ⟨1, M, _, _, rfl, rfl, rfl, rfl, by omega⟩)) (by omega) (by omega)).mono ?_
        rintro v H' ⟨⟨x, ok, rfl, g1⟩, rfl⟩
        conv => whnf
        refine (agreeB (la := lb) (lb := la) (A := B) (B := A) (.inr (.inr ⟨1, M, _, _, rfl, rfl, rfl, rfl, by omega⟩)) (.inr (.inr ⟨0, N, _, _, rfl, rfl, rfl, rfl, by omega⟩)) (by omega) (by omega)).mono ?_
        rintro v H' ⟨⟨y, is, rfl, g2⟩, rfl⟩
        conv => whnf
        rw [decide_eq_true (show (la : Int) > 0 by omega)]; conv => whnf
        rw [show ((la : Int) == 0) = false by rw [beq_eq_false_iff_ne]; omega]; conv => whnf
        rw [show ((la : Int) == 0) = false by rw [beq_eq_false_iff_ne]; omega]; conv => whnf
        obtain ⟨k, hk, hkl⟩ := kN n (L := la) (by omega) (by omega)
        rw [hk]
        refine ⟨by omega, trivial, Nat.zero_le _, by omega, ?_⟩
        conv => whnf
        refine (agreeB (la := k) (lb := la) (A := A) (B := A) (.inr (.inr ⟨0, N, _, _, rfl, rfl, rfl, rfl, by omega⟩)) (.inr (.inr ⟨0, N, _, _, rfl, rfl, rfl, rfl, by omega⟩)) (by omega) (by omega)).mono ?_
        rintro v H' ⟨⟨z, inn, rfl, g3⟩, rfl⟩
        obtain ⟨rfl, rfl, rfl, rfl⟩ := turnsLaw g1 g2 g3 (by omega)
        conv => whnf
        rw [show ((x : Int) == (x : Int)) = true by simp]; conv => whnf
        rw [show (ok == ok) = true by simp]; conv => whnf
        rw [show ((z : Int) == (z : Int)) = true by simp]; conv => whnf
        rw [deq (z := z) (L := la) (L' := la) (by omega)]; conv => whnf
        refine (knownA _).mono ?_
        rintro v H' ⟨rfl, rfl⟩
        exact ⟨trivial, rfl⟩
theorem turnsPK {k0 k1 : Blk} {va vb : V} {la lb : Nat} {A B : Nat → R7} {n : Int} (ha : form 0 k0 va la A) (hb : form 1 k1 vb lb B) :
    ACB Try.prog 5 [.v va, .v vb, i64 n] [k0, k1] (fun v _ => plainA v ∧ v = .v (.bool true)) := by
  rcases ha with ⟨rfl, rfl, rfl⟩ | ⟨rfl, rfl, rfl⟩ | ⟨N, rfl, hN, rfl⟩ <;> rcases hb with ⟨rfl, rfl, rfl⟩ | ⟨rfl, rfl, rfl⟩ | ⟨M, rfl, hM, rfl⟩
  · exact turnsNN (N := 0) (M := 0) (A := A) (B := B) (Nat.le_refl 0) (Nat.le_refl 0)
  · exact turnsNZ (N := 0) (M := 0) (A := A) (B := B) (Nat.le_refl 0) (Nat.le_refl 0)
  · exact turnsNL (N := 0) (M := M) (A := A) (B := B) (Nat.le_refl 0) hM
  · exact turnsZN (N := 0) (M := 0) (A := A) (B := B) (Nat.le_refl 0) (Nat.le_refl 0)
  · exact turnsZZ (N := 0) (M := 0) (A := A) (B := B) (Nat.le_refl 0) (Nat.le_refl 0)
  · exact turnsZL (N := 0) (M := M) (A := A) (B := B) (Nat.le_refl 0) hM
  · exact turnsLN (N := N) (M := 0) (A := A) (B := B) hN (Nat.le_refl 0)
  · exact turnsLZ (N := N) (M := 0) (A := A) (B := B) hN (Nat.le_refl 0)
  · exact turnsLL (N := N) (M := M) (A := A) (B := B) hN hM
theorem turnsA {H : Hp} {va vb : V} {la lb : Nat} {A B : Nat → R7} {n : Int} (ha : rowIn H va la A) (hb : rowIn H vb lb B) :
    ACB Try.prog 5 [.v va, .v vb, i64 n] H (fun v H' => v = .v (.bool true) ∧ H' = H) := by
  obtain ⟨k0, k1, ns, va', vb', ha', hb', hs, he⟩ := canon ha hb
  exact ACB.view0 (turnsPK ha' hb') hs (rensA_two he n)
end Go.Proofs.Ytpoknlbnookhjaa.Md
