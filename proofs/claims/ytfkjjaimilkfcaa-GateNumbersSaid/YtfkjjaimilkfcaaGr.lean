/- The gates' functions, ours and the document's. -/
import Derived.Test.YtfkjjaimilkfcaaGw
set_option linter.unusedVariables false
set_option linter.unusedSimpArgs false
namespace Go.Proofs.Ytfkjjaimilkfcaa.Md
open Go.RowKit Go.Proofs.Ytfkjjaimilkfcaa.Ae Go.Proofs.Ytfkjjaimilkfcaa Go.Proofs.Ytfkjjaimilkfcaa.Al
theorem ble_z (n : Nat) : (0 + n).ble n = true := by rw [Nat.zero_add]; exact Nat.ble_self_eq_true n
theorem len_row' (n : Nat) (F : Nat → R7) : lenS [.recs 7 n (fun i => rc (F (0 + i)))] = (0 + n) * (6 + 1) := by simp [lenS]; try omega
set_option maxHeartbeats 4000000 in
theorem rfirst_nil (r : R7) : AC Try.prog 21 [.v (.ptr 0 0 0 0), .agg (rs r)] [.rw [.one .nilS], .dead] (fun v H => v = bo true ∧ H = [.rw [.one (.sl 2 0 0 1 7)], .dead, row 1 (up (fun _ => r) 0 r)]) := by
  refine AC.reix rfl (AC.of_body dok Try.func21 rfl rfl (Nat.le_of_ble_eq_true rfl) ?_)
  conv => whnf
  refine DR.mk ⟨.take 0 (.take 2 (.take 3 (.take 4 (.alt 1 (.alt 5 (.alt 6 (.alt 7 (.alt 8 (.alt 9 (.take 10 (.take 11 (.alt 12 .done .nil))) .nil) .nil) .nil) (.alt 7 (.alt 6 (.alt 8 (.alt 9 (.take 10 (.take 11 (.alt 12 .done .nil))) .nil) .nil) (.alt 8 (.alt 6 (.alt 9 (.take 10 (.take 11 (.alt 12 .done .nil))) .nil) .nil) .nil)) .nil)) (.alt 7 (.alt 5 (.alt 6 (.alt 8 (.alt 9 (.take 10 (.take 11 (.alt 12 .done .nil))) .nil) .nil) (.alt 8 (.alt 6 (.alt 9 (.take 10 (.take 11 (.alt 12 .done .nil))) .nil) .nil) .nil)) (.alt 8 (.alt 5 (.alt 6 (.alt 9 (.take 10 (.take 11 (.alt 12 .done .nil))) .nil) .nil) .nil) .nil)) .nil)) (.alt 5 (.alt 1 (.alt 6 (.alt 7 (.alt 8 (.alt 9 (.take 10 (.take 11 (.alt 12 .done .nil))) .nil) .nil) .nil) (.alt 7 (.alt 6 (.alt 8 (.alt 9 (.take 10 (.take 11 (.alt 12 .done .nil))) .nil) .nil) (.alt 8 (.alt 6 (.alt 9 (.take 10 (.take 11 (.alt 12 .done .nil))) .nil) .nil) .nil)) .nil)) (.alt 7 (.alt 1 (.alt 6 (.alt 8 (.alt 9 (.take 10 (.take 11 (.alt 12 .done .nil))) .nil) .nil) (.alt 8 (.alt 6 (.alt 9 (.take 10 (.take 11 (.alt 12 .done .nil))) .nil) .nil) .nil)) (.alt 8 (.alt 1 (.alt 6 (.alt 9 (.take 10 (.take 11 (.alt 12 .done .nil))) .nil) .nil) .nil) .nil)) .nil)) (.alt 7 (.alt 1 (.alt 5 (.alt 6 (.alt 8 (.alt 9 (.take 10 (.take 11 (.alt 12 .done .nil))) .nil) .nil) (.alt 8 (.alt 6 (.alt 9 (.take 10 (.take 11 (.alt 12 .done .nil))) .nil) .nil) .nil)) (.alt 8 (.alt 5 (.alt 6 (.alt 9 (.take 10 (.take 11 (.alt 12 .done .nil))) .nil) .nil) .nil) .nil)) (.alt 5 (.alt 1 (.alt 6 (.alt 8 (.alt 9 (.take 10 (.take 11 (.alt 12 .done .nil))) .nil) .nil) (.alt 8 (.alt 6 (.alt 9 (.take 10 (.take 11 (.alt 12 .done .nil))) .nil) .nil) .nil)) (.alt 8 (.alt 1 (.alt 6 (.alt 9 (.take 10 (.take 11 (.alt 12 .done .nil))) .nil) .nil) .nil) .nil)) (.alt 8 (.alt 1 (.alt 5 (.alt 6 (.alt 9 (.take 10 (.take 11 (.alt 12 .done .nil))) .nil) .nil) .nil) (.alt 5 (.alt 1 (.alt 6 (.alt 9 (.take 10 (.take 11 (.alt 12 .done .nil))) .nil) .nil) .nil) .nil)) .nil))) .nil)))))), by decide +kernel, [0], ?_⟩
  conv => whnf
  repeat' (first | exact ⟨[.rw [.one (.sl 2 0 0 1 7)], .dead, row 1 (up (fun _ => r) 0 r)], [0, 1, 6], bo true, okN_of (n0 := 2) (by decide), Nat.le_of_ble_eq_true rfl, ⟨⟨_, rfl, .inl rfl⟩, trivial, ⟨_, rfl, .inr ⟨oks_row _ _, flat_one r⟩⟩, trivial⟩, rfl, rfl, rfl⟩ | (refine And.intro rfl (And.intro (room_small (by decide) (by decide)) ?_); conv => whnf) | (refine And.intro (by decide) (And.intro (room_small (by decide) (by decide)) ?_); conv => whnf) | (refine And.intro ?_ ?_ <;> conv => whnf))
set_option maxHeartbeats 8000000 in
theorem rfirst_row (r : R7) (n : Nat) (F : Nat → R7) (hn : n < 16) : AC Try.prog 21 [.v (.ptr 0 0 0 0), .agg (rs r)] [.rw [.one (.sl 1 0 0 n 7)], row n F] (fun v H => v = bo true ∧ H = [.rw [.one (.sl 2 0 0 (n + 1) 7)], .dead, row (n + 1) (up F n r)]) := by
  refine AC.reix rfl (AC.of_body dok Try.func21 rfl rfl (Nat.le_of_ble_eq_true rfl) ?_)
  conv => whnf
  rw [decide_eq_false (show ¬ ((n : Int) ≥ 16) by omega)]; conv => whnf
  refine DR.mk ⟨.take 0 (.take 2 (.take 3 (.take 4 (.alt 1 (.alt 5 (.alt 6 (.alt 7 (.alt 8 (.alt 9 (.take 10 (.take 11 (.alt 12 .done .nil))) .nil) .nil) .nil) (.alt 7 (.alt 6 (.alt 8 (.alt 9 (.take 10 (.take 11 (.alt 12 .done .nil))) .nil) .nil) (.alt 8 (.alt 6 (.alt 9 (.take 10 (.take 11 (.alt 12 .done .nil))) .nil) .nil) .nil)) .nil)) (.alt 7 (.alt 5 (.alt 6 (.alt 8 (.alt 9 (.take 10 (.take 11 (.alt 12 .done .nil))) .nil) .nil) (.alt 8 (.alt 6 (.alt 9 (.take 10 (.take 11 (.alt 12 .done .nil))) .nil) .nil) .nil)) (.alt 8 (.alt 5 (.alt 6 (.alt 9 (.take 10 (.take 11 (.alt 12 .done .nil))) .nil) .nil) .nil) .nil)) .nil)) (.alt 5 (.alt 1 (.alt 6 (.alt 7 (.alt 8 (.alt 9 (.take 10 (.take 11 (.alt 12 .done .nil))) .nil) .nil) .nil) (.alt 7 (.alt 6 (.alt 8 (.alt 9 (.take 10 (.take 11 (.alt 12 .done .nil))) .nil) .nil) (.alt 8 (.alt 6 (.alt 9 (.take 10 (.take 11 (.alt 12 .done .nil))) .nil) .nil) .nil)) .nil)) (.alt 7 (.alt 1 (.alt 6 (.alt 8 (.alt 9 (.take 10 (.take 11 (.alt 12 .done .nil))) .nil) .nil) (.alt 8 (.alt 6 (.alt 9 (.take 10 (.take 11 (.alt 12 .done .nil))) .nil) .nil) .nil)) (.alt 8 (.alt 1 (.alt 6 (.alt 9 (.take 10 (.take 11 (.alt 12 .done .nil))) .nil) .nil) .nil) .nil)) .nil)) (.alt 7 (.alt 1 (.alt 5 (.alt 6 (.alt 8 (.alt 9 (.take 10 (.take 11 (.alt 12 .done .nil))) .nil) .nil) (.alt 8 (.alt 6 (.alt 9 (.take 10 (.take 11 (.alt 12 .done .nil))) .nil) .nil) .nil)) (.alt 8 (.alt 5 (.alt 6 (.alt 9 (.take 10 (.take 11 (.alt 12 .done .nil))) .nil) .nil) .nil) .nil)) (.alt 5 (.alt 1 (.alt 6 (.alt 8 (.alt 9 (.take 10 (.take 11 (.alt 12 .done .nil))) .nil) .nil) (.alt 8 (.alt 6 (.alt 9 (.take 10 (.take 11 (.alt 12 .done .nil))) .nil) .nil) .nil)) (.alt 8 (.alt 1 (.alt 6 (.alt 9 (.take 10 (.take 11 (.alt 12 .done .nil))) .nil) .nil) .nil) .nil)) (.alt 8 (.alt 1 (.alt 5 (.alt 6 (.alt 9 (.take 10 (.take 11 (.alt 12 .done .nil))) .nil) .nil) .nil) (.alt 5 (.alt 1 (.alt 6 (.alt 9 (.take 10 (.take 11 (.alt 12 .done .nil))) .nil) .nil) .nil) .nil)) .nil))) .nil)))))), by decide +kernel, [0], ?_⟩
  conv => whnf
  repeat' (first | (simp only [Nat.zero_add]; exact ⟨[.rw [.one (.sl 2 0 0 (n + 1) 7)], .dead, row (n + 1) (up F n r)], [0, 1, 6], bo true, okN_of (n0 := 2) (by decide), Nat.le_of_ble_eq_true rfl, ⟨⟨_, rfl, .inl rfl⟩, trivial, ⟨_, rfl, .inr ⟨oks_row _ _, flat_up n F r⟩⟩, trivial⟩, rfl, rfl, rfl⟩) | (rw [ble_z n]; conv => whnf) | (refine And.intro rfl (And.intro (room_small (by omega) (by decide)) ?_); conv => whnf) | (refine And.intro (len_row' n F) (And.intro (room_small (by omega) (by decide)) ?_); conv => whnf) | (refine And.intro ?_ ?_ <;> conv => whnf))
theorem rsecond_nil (r : R7) : AC Try.prog 18 [.v (.ptr 0 0 0 0), .agg (rs r)] [.rw [.one .nilS], .dead] (fun v H => v = .tup [.agg (rs z7), i64 2] ∧ H = [.rw [.one .nilS], .dead]) := by
  refine AC.clean rfl (AC.of_body dok Try.func18 rfl rfl (Nat.le_of_ble_eq_true rfl) ?_)
  conv => whnf
  refine DR.std (by decide +kernel) ⟨[], ?_⟩
  conv => whnf
  exact ⟨in_t rfl, ⟨⟨trivial, trivial⟩, trivial⟩, rfl, rfl⟩
theorem rsecond_zero (r : R7) (F : Nat → R7) : AC Try.prog 18 [.v (.ptr 0 0 0 0), .agg (rs r)] [.rw [.one (.sl 1 0 0 0 7)], row 0 F] (fun v H => v = .tup [.agg (rs z7), i64 2] ∧ H = [.rw [.one (.sl 1 0 0 0 7)], row 0 F]) := by
  refine AC.clean rfl (AC.of_body dok Try.func18 rfl rfl (Nat.le_of_ble_eq_true rfl) ?_)
  conv => whnf
  refine DR.std (by decide +kernel) ⟨[], ?_⟩
  conv => whnf
  exact ⟨in_t rfl, gin 0 F, rfl, rfl⟩
theorem eq7c (r s : R7) (c : Bool) (h : decide (r = s) = c) : (r.1 == s.1 && (r.2.1 == s.2.1 && (r.2.2.1 == s.2.2.1 && (r.2.2.2.1 == s.2.2.2.1 && (r.2.2.2.2.1 == s.2.2.2.2.1 && (((r.2.2.2.2.2.1 : Nat) : Int) == ((s.2.2.2.2.2.1 : Nat) : Int) && r.2.2.2.2.2.2 == s.2.2.2.2.2.2)))))) = c := (eq7 r s).trans h
set_option maxHeartbeats 4000000 in
theorem rsecond_go (r : R7) (n : Nat) (F : Nat → R7) (hn : n ≤ 1000) : AC Try.prog 18 [.v (.ptr 0 0 0 0), .agg (rs r)] [.rw [.one (.sl 1 0 0 (n + 1) 7)], row (n + 1) F]
    (fun v H => (F 0 = r ∧ v = .tup [.agg (rs r), i64 1] ∧ H = [.rw [.one (.sl 2 0 0 n 7)], .dead, row n (fun i => F (i + 1))]) ∨ (F 0 ≠ r ∧ v = .tup [.agg (rs z7), i64 2] ∧ H = [.rw [.one (.sl 1 0 0 (n + 1) 7)], row (n + 1) F])) := by
  refine AC.reix rfl (AC.of_body dok Try.func18 rfl rfl (Nat.le_of_ble_eq_true rfl) ?_)
  conv => whnf
  refine DR.std (by decide +kernel) ⟨[], ?_⟩
  conv => whnf
  by_cases c : F 0 = r
  · rw [eq7c (F (0 + 0)) r true (decide_eq_true c)]
    conv => whnf
    refine ⟨trivial, by decide, by show 1 ≤ n + 1; omega, Nat.le_refl _, ?_⟩
    conv => whnf
    rw [show (0 + Int.toNat 1 + (n + 1 - Int.toNat 1)).ble (n + 1) = true from Nat.ble_eq_true_of_le (by show 0 + 1 + (n + 1 - 1) ≤ n + 1; omega)]
    conv => whnf
    rw [show n + 1 - Int.toNat 1 = n from rfl]
    refine ⟨rfl, room_small (by omega) (by decide), ?_⟩
    conv => whnf
    have ef : (fun j => rc (F (0 + Int.toNat 1 + j))) = (fun i => rc (F (i + 1))) := by
      funext j
      rw [show 0 + Int.toNat 1 + j = j + 1 from Nat.add_comm 1 j]
    simp only [Nat.zero_add]
    exact ⟨[.rw [.one (.sl 2 0 0 n 7)], .dead, row n (fun i => F (i + 1))], [0, 1, 5], .tup [.agg (rs r), i64 1], okN_of (n0 := 2) (by decide), Nat.le_of_ble_eq_true rfl, ⟨⟨_, rfl, .inl rfl⟩, trivial, ⟨_, rfl, .inr ⟨oks_row _ _, congrArg (fun f => flat [.recs 7 n f]) ef⟩⟩, trivial⟩, rfl, .inl ⟨c, rfl, rfl⟩⟩
  · rw [eq7c (F (0 + 0)) r false (decide_eq_false c)]
    conv => whnf
    exact ⟨[.rw [.one (.sl 1 0 0 (n + 1) 7)], row (n + 1) F], [0, 1], .tup [.agg (rs z7), i64 2], okN_of (n0 := 2) (by decide), Nat.le_of_ble_eq_true rfl, ⟨⟨_, rfl, .inl rfl⟩, ⟨_, rfl, .inl rfl⟩, trivial⟩, rfl, .inr ⟨c, rfl, rfl⟩⟩
theorem rfwd_nil (a : Int) (x : Nat) : AC Try.prog 19 [.v (.ptr 0 0 0 0), u32 a, u32 x] [.rw [.one .nilS], .dead] (fun v H => v = u32 x ∧ H = [.rw [.one .nilS], .dead]) := by
  refine AC.clean rfl (AC.of_body dok Try.func19 rfl rfl (Nat.le_of_ble_eq_true rfl) ?_)
  conv => whnf
  refine aw_rounds dok 1 ?_
  conv => whnf
  exact ⟨trivial, ⟨⟨trivial, trivial⟩, trivial⟩, rfl, rfl⟩
set_option maxHeartbeats 4000000 in
theorem rfwd_row (n : Nat) (F : Nat → R7) (hF : okF n F) (hn : n ≤ 1000) (a : Int) (x : Nat) (hx : x < 4294967296) : AC Try.prog 19 [.v (.ptr 0 0 0 0), u32 a, u32 x] [.rw [.one (.sl 1 0 0 n 7)], row n F] (fun v H => v = u32 (fwd F a x n) ∧ H = [.rw [.one (.sl 1 0 0 n 7)], row n F]) := by
  refine AC.clean rfl (AC.of_body dok Try.func19 rfl rfl (Nat.le_of_ble_eq_true rfl) ?_)
  conv => whnf
  refine aw_loopC dok 2 (fun k : Nat => [(1, u32 a), (2, u32 (fwd F a x k)), (12, .v (.sl 1 0 0 n 7)), (13, i64 n), (14, i64 k)]) (fun _ => [.rw [.one (.sl 1 0 0 n 7)], row n F]) (fun k => k ≤ n) (fun k => n - k) 0 ⟨rfl, rfl, rfl, rfl, rfl, trivial⟩ rfl (Nat.zero_le _) (fun _ => rfl) ?_
  intro k hk
  conv => whnf
  by_cases c : k < n
  · rw [decide_eq_true (show (k : Int) < n by omega)]; conv => whnf
    rw [blt_of c]; conv => whnf
    rw [show (0 + k) = k by omega, blt_of c]; conv => whnf
    by_cases c1 : (F k).2.2.2.1 = true
    · rw [c1]; conv => whnf
      by_cases c2 : (F k).2.2.2.2.1 = a
      · rw [c2, beq_self_eq_true]; conv => whnf
        refine (mergeRA (fwd F a x k) (F k).2.2.2.2.2.1 (F k).2.2.2.2.2.2 (fwd_lt F a x hx k) (hF k c) _).mono ?_
        rintro v H' ⟨rfl, rfl⟩
        conv => whnf
        have e : fwd F a x (k + 1) = merge (fwd F a x k) (F k).2.2.2.2.2.1 (F k).2.2.2.2.2.2 := by rw [fwd, if_pos ⟨c1, c2⟩]
        exact ⟨k + 1, c, by show n - (k + 1) < n - k; omega, ⟨rfl, by rw [e]; rfl, rfl, rfl, gI k (by omega), trivial⟩, ⟨trivial, trivial, Nat.lt_succ_self 1, trivial, trivial, trivial⟩, gin n F, rfl⟩
      · rw [show ((F k).2.2.2.2.1 == a) = false by simpa using c2]; conv => whnf
        have e : fwd F a x (k + 1) = fwd F a x k := by rw [fwd, if_neg (fun h => c2 h.2)]
        exact ⟨k + 1, c, by show n - (k + 1) < n - k; omega, ⟨rfl, by rw [e]; rfl, rfl, rfl, gI k (by omega), trivial⟩, ⟨trivial, trivial, Nat.lt_succ_self 1, trivial, trivial, trivial⟩, gin n F, rfl⟩
    · rw [show (F k).2.2.2.1 = false by simpa using c1]; conv => whnf
      have e : fwd F a x (k + 1) = fwd F a x k := by rw [fwd, if_neg (fun h => c1 h.1)]
      exact ⟨k + 1, c, by show n - (k + 1) < n - k; omega, ⟨rfl, by rw [e]; rfl, rfl, rfl, gI k (by omega), trivial⟩, ⟨trivial, trivial, Nat.lt_succ_self 1, trivial, trivial, trivial⟩, gin n F, rfl⟩
  · rw [decide_eq_false (show ¬ (k : Int) < n by omega)]; conv => whnf
    obtain rfl : k = n := by omega
    exact ⟨trivial, gin k F, rfl, rfl⟩
end Go.Proofs.Ytfkjjaimilkfcaa.Md
