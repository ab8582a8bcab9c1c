/- The gates' functions, ours and the document's. -/
import Derived.Test.YtfkjjaimilkfcaaGq
set_option linter.unusedVariables false
set_option linter.unusedSimpArgs false
namespace Go.Proofs.Ytfkjjaimilkfcaa.Md
open Go.RowKit Go.Proofs.Ytfkjjaimilkfcaa.Ae Go.Proofs.Ytfkjjaimilkfcaa Go.Proofs.Ytfkjjaimilkfcaa.Al
/-- One more call behind n. -/
def upA (A : Nat → Ask) (n : Nat) (a : Ask) : Nat → Ask := fun i => if i < n then A i else a
theorem flat_upA (n : Nat) (A : Nat → Ask) (a : Ask) : flat (.recs 8 n (fun i => ac (A i)) :: .one (.int .i64 a.1) :: rs a.2) = flat (arow (n + 1) (upA A n a)) := by
  have e : (List.range n).flatMap (fun i => ac (upA A n a i)) = (List.range n).flatMap (fun i => ac (A i)) := by
    have : ∀ l : List Nat, (∀ i ∈ l, i < n) → l.flatMap (fun i => ac (upA A n a i)) = l.flatMap (fun i => ac (A i)) := by
      intro l
      induction l with
      | nil => intro _; rfl
      | cons b l ih =>
        intro h
        rw [List.flatMap_cons, List.flatMap_cons, ih fun i hi => h i (List.mem_cons_of_mem _ hi)]
        simp only [upA, if_pos (h b List.mem_cons_self)]
    exact this _ fun i hi => List.mem_range.1 hi
  have f : ∀ (m : Nat) (B : Nat → Ask), flat (arow m B) = (List.range m).flatMap (fun i => ac (B i)) := fun m B => by simp [flat, Seg.flat]
  rw [f, List.range_succ, List.flatMap_append, e]
  simp [flat, Seg.flat, upA]
theorem oks_arow (n : Nat) (A : Nat → Ask) : oks (arow n A) := by
  intro s hs
  simp at hs; subst hs
  exact fun i _ => rfl
theorem len_arow (n : Nat) (A : Nat → Ask) : lenS (arow n A) = n * (7 + 1) := by simp [lenS]; try omega
theorem play_nil : AC Try.prog 14 [.v .nilS] [] (fun v H => v = bo true ∧ H = []) := by
  refine AC.clean rfl (AC.of_body dok Try.func14 rfl rfl (Nat.le_of_ble_eq_true rfl) ?_)
  conv => whnf
  refine (newE _).mono ?_
  rintro v H' ⟨rfl, rfl⟩
  conv => whnf
  refine aw_rounds dok 1 ?_
  conv => whnf
  exact ⟨trivial, trivial, rfl, rfl⟩
theorem play_zero : AC Try.prog 14 [.v (.sl 0 0 0 0 8)] [.dead] (fun v H => v = bo true ∧ H = [.dead]) := by
  refine AC.clean rfl (AC.of_body dok Try.func14 rfl rfl (Nat.le_of_ble_eq_true rfl) ?_)
  conv => whnf
  refine (newE _).mono ?_
  rintro v H' ⟨rfl, rfl⟩
  conv => whnf
  refine aw_rounds dok 1 ?_
  conv => whnf
  exact ⟨trivial, trivial, rfl, rfl⟩
def okA (N : Nat) (A : Nat → Ask) : Prop := ∀ i, i < N → (A i).2.2.2.2.2.2.1 < 4294967296
/-- A play, among any blocks. -/
theorem playE (N : Nat) (A : Nat → Ask) (hA : okA N A) {G : Hp} {p : Nat} (hp : p < G.length) (g : lk G p = some (.rw (arow N A)) ∨ lk G p = some (.ro (arow N A))) : AC Try.prog 14 [.v (.sl p 0 0 N 8)] G (fun v H => v = bo true ∧ H = G) := by
  refine ((play0 N A hA).embed [p] (G := G) (by simp) (by intro x hx; simp at hx; omega) ⟨g, trivial⟩).mono ?_
  rintro v G' ⟨v0, H', ⟨rfl, rfl⟩, _, rfl, rfl⟩
  exact ⟨rfl, by simp [embP]⟩
theorem playZ {G : Hp} {p : Nat} (hp : p < G.length) : AC Try.prog 14 [.v (.sl p 0 0 0 8)] G (fun v H => v = bo true ∧ H = G) := by
  refine (play_zero.embed [p] (G := G) (by simp) (by intro x hx; simp at hx; omega) trivial).mono ?_
  rintro v G' ⟨v0, H', ⟨rfl, rfl⟩, _, rfl, rfl⟩
  exact ⟨rfl, by simp [embP]⟩
theorem playN (G : Hp) : AC Try.prog 14 [.v .nilS] G (fun v H => v = bo true ∧ H = G) := by
  refine (play_nil.embed [] (G := G) (by simp) (by simp) trivial).mono ?_
  rintro v G' ⟨v0, H', ⟨rfl, rfl⟩, _, rfl, rfl⟩
  exact ⟨rfl, by simp [embP]⟩
theorem within00 (n hi : Int) (h0 : 0 < hi ∧ hi ≤ 1073741824) : AC Try.prog 9 [i64 n, i64 0, i64 hi] [] (fun v H => (∃ r : Int, 0 ≤ r ∧ r ≤ hi ∧ v = i64 r) ∧ H = []) := by
  have e : IntKind.i64.wrap (IntKind.i64.wrap (hi - 0) + 1) = hi + 1 := by rw [IntKind.wrap_i64, IntKind.wrap_i64]; omega
  have hm : -(hi + 1) < n.tmod (hi + 1) ∧ n.tmod (hi + 1) < hi + 1 := by
    refine ⟨?_, Int.tmod_lt_of_pos _ (by omega)⟩
    rw [Int.tmod_eq_emod]
    have := Int.emod_nonneg n (show hi + 1 ≠ 0 by omega)
    split <;> omega
  have e2 : IntKind.i64.wrap (IntKind.i64.wrap (IntKind.i64.wrap (n.tmod (hi + 1) + hi) - 0) + 1) = n.tmod (hi + 1) + hi + 1 := by rw [IntKind.wrap_i64, IntKind.wrap_i64, IntKind.wrap_i64]; omega
  have e3 : ∀ z : Int, 0 ≤ z → z ≤ hi → IntKind.i64.wrap (0 + z) = z := fun z h1 h2 => by rw [IntKind.wrap_i64]; omega
  have ez : (hi + 1 == 0) = false := by simp; omega
  refine AC.clean rfl (AC.of_body dok Try.func9 rfl rfl (Nat.le_of_ble_eq_true rfl) ?_)
  conv => whnf
  repeat' (refine cb_intro (fun h => ?_) (fun h => ?_) <;> simp only [beq_iff_eq, beq_eq_false_iff_ne, bne_iff_ne, bne_eq_false_iff_eq, ne_eq, decide_eq_true_eq, decide_eq_false_iff_not] at h <;> first | (exfalso; omega) | conv => whnf)
  all_goals try (exact ⟨trivial, trivial, ⟨n, by omega, by omega, rfl⟩, rfl⟩)
  all_goals rw [e] at h ⊢
  all_goals try rw [e2]
  all_goals rw [e3 _ (by omega) (by omega)]
  all_goals exact ⟨trivial, trivial, ⟨_, by omega, by omega, rfl⟩, rfl⟩
/-- The same, among any blocks. -/
theorem within01 (n hi : Int) (h0 : 0 < hi ∧ hi ≤ 1073741824) (H : Hp) : AC Try.prog 9 [i64 n, i64 0, i64 hi] H (fun v H' => (∃ r : Int, 0 ≤ r ∧ r ≤ hi ∧ v = i64 r) ∧ H' = H) := by
  have := (within00 n hi h0).embed [] (G := H) (by simp) (by simp) trivial
  refine AC.mono this ?_
  rintro v G' ⟨v0, H', ⟨⟨r, h1, h2, rfl⟩, rfl⟩, _, rfl, rfl⟩
  exact ⟨⟨r, h1, h2, rfl⟩, by simp [embP]⟩
end Go.Proofs.Ytfkjjaimilkfcaa.Md
