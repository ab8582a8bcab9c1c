/- The gates' functions, ours and the document's. -/
import Derived.Test.YtfkjjaimilkfcaaBg
set_option linter.unusedVariables false
set_option linter.unusedSimpArgs false
namespace Go.Proofs.Ytfkjjaimilkfcaa.Md
open Go.RowKit Go.Proofs.Ytfkjjaimilkfcaa.Ae Go.Proofs.Ytfkjjaimilkfcaa Go.Proofs.Ytfkjjaimilkfcaa.Al
/-- One more behind n. -/
def up (F : Nat → R7) (n : Nat) (r : R7) : Nat → R7 := fun i => if i < n then F i else r
abbrev row (n : Nat) (F : Nat → R7) : Blk := .rw [.recs 7 n (fun i => rc (F i))]
theorem flat_row (n : Nat) (F : Nat → R7) : flat [.recs 7 n (fun i => rc (F i))] = (List.range n).flatMap (fun i => rc (F i)) := by simp [flat, Seg.flat]
theorem flat_up (n : Nat) (F : Nat → R7) (r : R7) : flat (.recs 7 n (fun i => rc (F i)) :: rs r) = flat [.recs 7 (n + 1) (fun i => rc (up F n r i))] := by
  have e : (List.range n).flatMap (fun i => rc (up F n r i)) = (List.range n).flatMap (fun i => rc (F i)) := by
    have : ∀ l : List Nat, (∀ i ∈ l, i < n) → l.flatMap (fun i => rc (up F n r i)) = l.flatMap (fun i => rc (F i)) := by
      intro l
      induction l with
      | nil => intro _; rfl
      | cons a l ih =>
        intro h
        rw [List.flatMap_cons, List.flatMap_cons, ih fun i hi => h i (List.mem_cons_of_mem _ hi)]
        simp only [up, if_pos (h a List.mem_cons_self)]
    exact this _ fun i hi => List.mem_range.1 hi
  rw [flat_row, List.range_succ, List.flatMap_append, e]
  simp [flat, Seg.flat, up]
theorem oks_row (n : Nat) (F : Nat → R7) : oks [.recs 7 n (fun i => rc (F i))] := by
  intro s hs
  simp at hs; subst hs
  exact fun i _ => rfl
theorem ren_row (σ : List Nat) (n : Nat) (F : Nat → R7) : rensS σ [.recs 7 n (fun i => rc (F i))] = [.recs 7 n (fun i => rc (F i))] := rfl
theorem len_row (n : Nat) (F : Nat → R7) : lenS [.recs 7 n (fun i => rc (F i))] = n * (6 + 1) := by simp [lenS]; try omega
theorem flat_one (r : R7) : flat (rs r) = flat [.recs 7 1 (fun i => rc (up (fun _ => r) 0 r i))] := rfl
set_option maxHeartbeats 4000000 in
theorem first_nil (r : R7) : AC Try.prog 8 [.v (.ptr 0 0 0 0), .agg (rs r)] [.rw [.one .nilS], .dead] (fun v H => v = bo true ∧ H = [.rw [.one (.sl 2 0 0 1 7)], .dead, row 1 (up (fun _ => r) 0 r)]) := by
  refine AC.reix rfl (AC.of_body dok Try.func8 rfl rfl (Nat.le_of_ble_eq_true rfl) ?_)
  conv => whnf
  refine DR.mk ⟨.take 0 (.take 1 (.take 2 (.take 3 (.alt 4 (.alt 5 (.alt 6 (.alt 7 (.take 8 (.take 9 (.alt 10 .done .nil))) .nil) .nil) .nil) (.alt 5 (.alt 4 (.alt 6 (.alt 7 (.take 8 (.take 9 (.alt 10 .done .nil))) .nil) .nil) (.alt 6 (.alt 4 (.alt 7 (.take 8 (.take 9 (.alt 10 .done .nil))) .nil) .nil) .nil)) .nil))))), by decide +kernel, [0], ?_⟩
  conv => whnf
  repeat' (first | exact ⟨[.rw [.one (.sl 2 0 0 1 7)], .dead, row 1 (up (fun _ => r) 0 r)], [0, 1, 4], bo true, okN_of (n0 := 2) (by decide), Nat.le_of_ble_eq_true rfl, ⟨⟨_, rfl, .inl rfl⟩, trivial, ⟨_, rfl, .inr ⟨oks_row _ _, flat_one r⟩⟩, trivial⟩, rfl, rfl, rfl⟩ | (refine And.intro (by decide) (And.intro (room_small (by decide) (by decide)) ?_); conv => whnf) | (refine And.intro ?_ ?_ <;> conv => whnf))
set_option maxHeartbeats 4000000 in
theorem first_row (r : R7) (n : Nat) (F : Nat → R7) (hn : n < 16) : AC Try.prog 8 [.v (.ptr 0 0 0 0), .agg (rs r)] [.rw [.one (.sl 1 0 0 n 7)], row n F] (fun v H => v = bo true ∧ H = [.rw [.one (.sl 2 0 0 (n + 1) 7)], .dead, row (n + 1) (up F n r)]) := by
  refine AC.reix rfl (AC.of_body dok Try.func8 rfl rfl (Nat.le_of_ble_eq_true rfl) ?_)
  conv => whnf
  rw [decide_eq_false (show ¬ ((n : Int) ≥ 16) by omega)]; conv => whnf
  refine DR.mk ⟨.take 0 (.take 1 (.take 2 (.take 3 (.alt 4 (.alt 5 (.alt 6 (.alt 7 (.take 8 (.take 9 (.alt 10 .done .nil))) .nil) .nil) .nil) (.alt 5 (.alt 4 (.alt 6 (.alt 7 (.take 8 (.take 9 (.alt 10 .done .nil))) .nil) .nil) (.alt 6 (.alt 4 (.alt 7 (.take 8 (.take 9 (.alt 10 .done .nil))) .nil) .nil) .nil)) .nil))))), by decide +kernel, [0, 1], ?_⟩
  conv => whnf
  repeat' (first | exact ⟨[.rw [.one (.sl 2 0 0 (n + 1) 7)], .dead, row (n + 1) (up F n r)], [0, 1, 4], bo true, okN_of (n0 := 2) (by decide), Nat.le_of_ble_eq_true rfl, ⟨⟨_, rfl, .inl rfl⟩, trivial, ⟨_, rfl, .inr ⟨oks_row _ _, flat_up n F r⟩⟩, trivial⟩, rfl, rfl, rfl⟩ | (refine And.intro (len_row n F) (And.intro (room_small (by omega) (by decide)) ?_); conv => whnf) | (refine And.intro ?_ ?_ <;> conv => whnf))
theorem first_full (r : R7) (n : Nat) (F : Nat → R7) (hn : ¬ n < 16) : AC Try.prog 8 [.v (.ptr 0 0 0 0), .agg (rs r)] [.rw [.one (.sl 1 0 0 n 7)], row n F] (fun v H => v = bo false ∧ H = [.rw [.one (.sl 1 0 0 n 7)], row n F]) := by
  refine AC.reix rfl (AC.of_body dok Try.func8 rfl rfl (Nat.le_of_ble_eq_true rfl) ?_)
  conv => whnf
  rw [decide_eq_true (show ((n : Int) ≥ 16) by omega)]; conv => whnf
  exact ⟨[.rw [.one (.sl 1 0 0 n 7)], row n F], [0, 1], bo false, okN_of (n0 := 2) (by decide), Nat.le_of_ble_eq_true rfl, ⟨⟨_, rfl, .inl rfl⟩, ⟨_, rfl, .inl rfl⟩, trivial⟩, rfl, rfl, rfl⟩
def z7 : R7 := (0, 0, 0, false, 0, 0, 0)
theorem in_t {n : Nat} {l : List Seg} {z : Int} (h : freeS l = true) : (AV.tup [.agg l, i64 z]).inR n := ⟨in_agg h, trivial, trivial⟩
theorem gin (n : Nat) (F : Nat → R7) : hpIn 2 [.rw [.one (.sl 1 0 0 n 7)], row n F] := ⟨⟨Nat.lt_succ_self 1, trivial⟩, ⟨(fun i hi v hv => by simp at hv; rcases hv with rfl | rfl | rfl | rfl | rfl | rfl | rfl <;> trivial), trivial⟩, trivial⟩
theorem second_nil (r : R7) : AC Try.prog 10 [.v (.ptr 0 0 0 0), .agg (rs r)] [.rw [.one .nilS], .dead] (fun v H => v = .tup [.agg (rs z7), i64 2] ∧ H = [.rw [.one .nilS], .dead]) := by
  refine AC.clean rfl (AC.of_body dok Try.func10 rfl rfl (Nat.le_of_ble_eq_true rfl) ?_)
  conv => whnf
  refine DR.std (by decide +kernel) ⟨[], ?_⟩
  conv => whnf
  exact ⟨in_t rfl, ⟨⟨trivial, trivial⟩, trivial⟩, rfl, rfl⟩
theorem second_zero (r : R7) (F : Nat → R7) : AC Try.prog 10 [.v (.ptr 0 0 0 0), .agg (rs r)] [.rw [.one (.sl 1 0 0 0 7)], row 0 F] (fun v H => v = .tup [.agg (rs z7), i64 2] ∧ H = [.rw [.one (.sl 1 0 0 0 7)], row 0 F]) := by
  refine AC.clean rfl (AC.of_body dok Try.func10 rfl rfl (Nat.le_of_ble_eq_true rfl) ?_)
  conv => whnf
  refine DR.std (by decide +kernel) ⟨[], ?_⟩
  conv => whnf
  exact ⟨in_t rfl, gin 0 F, rfl, rfl⟩
theorem del1 (n : Nat) (F : Nat → R7) (hn : n ≤ 1000) (G : Hp) (p : Nat) (hp : p < G.length) (g0 : lk G p = some (row (n + 1) F)) : AC Try.prog 16 [.v (.sl p 0 0 (n + 1) 7), i64 0, i64 1] G (fun v H => v = .v (.sl p 0 0 n 7) ∧ H = G.set p (row n (fun i => F (i + 1)))) := by
  refine ((del0 n (fun i => rc (F i)) (fun _ => rfl) hn).embed [p] (G := G) (by simp) (by intro x hx; simp at hx; omega) ⟨g0, trivial⟩).mono ?_
  rintro v G' ⟨v0, H', ⟨rfl, rfl⟩, _, rfl, rfl⟩
  exact ⟨by simp [AV.ren, V.ren, nthN], by simp [embP]; rfl⟩
theorem second_go (r : R7) (n : Nat) (F : Nat → R7) (hn : n ≤ 1000) : AC Try.prog 10 [.v (.ptr 0 0 0 0), .agg (rs r)] [.rw [.one (.sl 1 0 0 (n + 1) 7)], row (n + 1) F]
    (fun v H => (F 0 = r ∧ v = .tup [.agg (rs r), i64 1] ∧ H = [.rw [.one (.sl 1 0 0 n 7)], row n (fun i => F (i + 1))]) ∨ (F 0 ≠ r ∧ v = .tup [.agg (rs z7), i64 2] ∧ H = [.rw [.one (.sl 1 0 0 (n + 1) 7)], row (n + 1) F])) := by
  refine AC.clean rfl (AC.of_body dok Try.func10 rfl rfl (Nat.le_of_ble_eq_true rfl) ?_)
  conv => whnf
  refine DR.std (by decide +kernel) ⟨[], ?_⟩
  conv => whnf
  refine (same1 (F (0 + 0)) r _).mono ?_
  rintro v H' ⟨rfl, rfl⟩
  by_cases c : F 0 = r
  · have e : decide (F (0 + 0) = r) = true := decide_eq_true c
    rw [e]
    conv => whnf
    refine (del1 n F hn _ 1 (Nat.le_of_ble_eq_true rfl) rfl).mono ?_
    rintro v H' ⟨rfl, rfl⟩
    conv => whnf
    exact ⟨in_t rfl, gin n (fun i => F (i + 1)), .inl ⟨c, rfl, rfl⟩⟩
  · have e : decide (F (0 + 0) = r) = false := decide_eq_false c
    rw [e]
    conv => whnf
    exact ⟨in_t rfl, gin (n + 1) F, .inr ⟨c, rfl, rfl⟩⟩
theorem waits_nil : AC Try.prog 11 [.v (.ptr 0 0 0 0)] [.rw [.one .nilS], .dead] (fun v H => v = i64 0 ∧ H = [.rw [.one .nilS], .dead]) := by
  refine AC.clean rfl (AC.of_body dok Try.func11 rfl rfl (Nat.le_of_ble_eq_true rfl) ?_)
  conv => whnf
  exact ⟨trivial, ⟨⟨trivial, trivial⟩, trivial⟩, rfl, rfl⟩
theorem waits_row (n : Nat) (F : Nat → R7) : AC Try.prog 11 [.v (.ptr 0 0 0 0)] [.rw [.one (.sl 1 0 0 n 7)], row n F] (fun v H => v = i64 n ∧ H = [.rw [.one (.sl 1 0 0 n 7)], row n F]) := by
  refine AC.clean rfl (AC.of_body dok Try.func11 rfl rfl (Nat.le_of_ble_eq_true rfl) ?_)
  conv => whnf
  exact ⟨trivial, gin n F, rfl, rfl⟩
theorem clear_nil : AC Try.prog 20 [.v (.ptr 0 0 0 0)] [.rw [.one .nilS], .dead] (fun v H => v = .tup [] ∧ H = [.rw [.one .nilS], .dead]) := by
  refine AC.clean rfl (AC.of_body dok Try.func20 rfl rfl (Nat.le_of_ble_eq_true rfl) ?_)
  conv => whnf
  exact ⟨trivial, ⟨⟨trivial, trivial⟩, trivial⟩, rfl, rfl⟩
theorem clear_row (n : Nat) (F : Nat → R7) : AC Try.prog 20 [.v (.ptr 0 0 0 0)] [.rw [.one (.sl 1 0 0 n 7)], row n F] (fun v H => v = .tup [] ∧ H = [.rw [.one .nilS], row n F]) := by
  refine AC.clean rfl (AC.of_body dok Try.func20 rfl rfl (Nat.le_of_ble_eq_true rfl) ?_)
  conv => whnf
  exact ⟨trivial, ⟨⟨trivial, trivial⟩, (gin n F).2⟩, rfl, rfl⟩
theorem new0 : AC Try.prog 7 [] [] (fun v H => v = .v (.ptr 0 0 0 0) ∧ H = [.rw [.one .nilS]]) := by
  refine AC.of_body dok Try.func7 rfl rfl (Nat.le_of_ble_eq_true rfl) ?_
  conv => whnf
  exact ⟨rfl, rfl⟩
/-- A word with what waits put into it, from the first on. -/
def fwd (F : Nat → R7) (a : Int) (x : Nat) : Nat → Nat
  | 0 => x
  | k + 1 => if (F k).2.2.2.1 = true ∧ (F k).2.2.2.2.1 = a then merge (fwd F a x k) (F k).2.2.2.2.2.1 (F k).2.2.2.2.2.2 else fwd F a x k
theorem fwd_lt (F : Nat → R7) (a : Int) (x : Nat) (hx : x < 4294967296) : ∀ k, fwd F a x k < 4294967296
  | 0 => hx
  | k + 1 => by
    simp only [fwd]
    split
    · exact merge_lt _ _ _
    · exact fwd_lt F a x hx k
def okF (n : Nat) (F : Nat → R7) : Prop := ∀ i, i < n → (F i).2.2.2.2.2.1 < 4294967296
theorem gI (i : Nat) (h : i < 1000000) : some (AV.v (V.int .i64 (IntKind.i64.wrap ((i : Int) + 1)))) = some (i64 ((i + 1 : Nat) : Int)) := congrArg (fun z => some (AV.v (V.int .i64 z))) (by rw [IntKind.wrap_i64]; omega)
theorem fwd_nil (a : Int) (x : Nat) : AC Try.prog 13 [.v (.ptr 0 0 0 0), u32 a, u32 x] [.rw [.one .nilS], .dead] (fun v H => v = u32 x ∧ H = [.rw [.one .nilS], .dead]) := by
  refine AC.clean rfl (AC.of_body dok Try.func13 rfl rfl (Nat.le_of_ble_eq_true rfl) ?_)
  conv => whnf
  refine aw_rounds dok 1 ?_
  conv => whnf
  exact ⟨trivial, ⟨⟨trivial, trivial⟩, trivial⟩, rfl, rfl⟩
set_option maxHeartbeats 4000000 in
theorem fwd_row (n : Nat) (F : Nat → R7) (hF : okF n F) (hn : n ≤ 1000) (a : Int) (x : Nat) (hx : x < 4294967296) : AC Try.prog 13 [.v (.ptr 0 0 0 0), u32 a, u32 x] [.rw [.one (.sl 1 0 0 n 7)], row n F] (fun v H => v = u32 (fwd F a x n) ∧ H = [.rw [.one (.sl 1 0 0 n 7)], row n F]) := by
  refine AC.clean rfl (AC.of_body dok Try.func13 rfl rfl (Nat.le_of_ble_eq_true rfl) ?_)
  conv => whnf
  refine aw_loopC dok 2 (fun k : Nat => [(1, u32 a), (2, u32 (fwd F a x k)), (12, .v (.sl 1 0 0 n 7)), (13, i64 n), (14, i64 k)]) (fun _ => [.rw [.one (.sl 1 0 0 n 7)], row n F]) (fun k => k ≤ n) (fun k => n - k) 0 ⟨rfl, rfl, rfl, rfl, rfl, trivial⟩ rfl (Nat.zero_le _) (fun _ => rfl) ?_
  intro k hk
  conv => whnf
  by_cases c : k < n
  · rw [decide_eq_true (show (k : Int) < n by omega)]; conv => whnf
    rw [blt_of c]; conv => whnf
    rw [show (0 + k) = k by omega, blt_of c]; conv => whnf
    by_cases c1 : (F k).2.2.2.1 = true
    · rw [c1]; conv => whnf
      by_cases c2 : (F k).2.2.2.2.1 = a
      · rw [c2, beq_self_eq_true]; conv => whnf
        refine (mergeA (fwd F a x k) (F k).2.2.2.2.2.1 (F k).2.2.2.2.2.2 (fwd_lt F a x hx k) (hF k c) _).mono ?_
        rintro v H' ⟨rfl, rfl⟩
        conv => whnf
        have e : fwd F a x (k + 1) = merge (fwd F a x k) (F k).2.2.2.2.2.1 (F k).2.2.2.2.2.2 := by rw [fwd, if_pos ⟨c1, c2⟩]
        exact ⟨k + 1, c, by show n - (k + 1) < n - k; omega, ⟨rfl, by rw [e]; rfl, rfl, rfl, gI k (by omega), trivial⟩, ⟨trivial, trivial, Nat.lt_succ_self 1, trivial, trivial, trivial⟩, gin n F, rfl⟩
      · rw [show ((F k).2.2.2.2.1 == a) = false by simpa using c2]; conv => whnf
        have e : fwd F a x (k + 1) = fwd F a x k := by rw [fwd, if_neg (fun h => c2 h.2)]
        exact ⟨k + 1, c, by show n - (k + 1) < n - k; omega, ⟨rfl, by rw [e]; rfl, rfl, rfl, gI k (by omega), trivial⟩, ⟨trivial, trivial, Nat.lt_succ_self 1, trivial, trivial, trivial⟩, gin n F, rfl⟩
    · rw [show (F k).2.2.2.1 = false by simpa using c1]; conv => whnf
      have e : fwd F a x (k + 1) = fwd F a x k := by rw [fwd, if_neg (fun h => c1 h.1)]
      exact ⟨k + 1, c, by show n - (k + 1) < n - k; omega, ⟨rfl, by rw [e]; rfl, rfl, rfl, gI k (by omega), trivial⟩, ⟨trivial, trivial, Nat.lt_succ_self 1, trivial, trivial, trivial⟩, gin n F, rfl⟩
  · rw [decide_eq_false (show ¬ (k : Int) < n by omega)]; conv => whnf
    obtain rfl : k = n := by omega
    exact ⟨trivial, gin k F, rfl, rfl⟩
end Go.Proofs.Ytfkjjaimilkfcaa.Md
