/- The gates' functions, ours and the document's. -/
import Derived.Test.YtfkjjaimilkfcaaGl
set_option linter.unusedVariables false
set_option linter.unusedSimpArgs false
namespace Go.Proofs.Ytfkjjaimilkfcaa.Md
open Go.RowKit Go.Proofs.Ytfkjjaimilkfcaa.Ae Go.Proofs.Ytfkjjaimilkfcaa Go.Proofs.Ytfkjjaimilkfcaa.Al
/-- What the loop holds: how many asks were taken over, and which. -/
def pS (N : Nat) : Nat × (Nat → Ask) → Sl
  | (0, _) => [(0, .v (.sl 0 0 0 N 8)), (3, .v .nilS), (7, i64 N), (8, i64 ((0 : Nat) : Int))]
  | (j + 1, _) => [(0, .v (.sl 0 0 0 N 8)), (3, .v (.sl 1 0 0 (j + 1) 8)), (7, i64 N), (8, i64 ((j + 1 : Nat) : Int))]
def pH (N : Nat) (A : Nat → Ask) : Nat × (Nat → Ask) → Hp
  | (0, _) => [.ro (arow N A)]
  | (j + 1, B) => [.ro (arow N A), .rw (arow (j + 1) B)]
theorem okA_up {n : Nat} {A : Nat → Ask} (h : okA n A) {a : Ask} (ha : a.2.2.2.2.2.2.1 < 4294967296) : okA (n + 1) (upA A n a) := by
  intro i hi
  unfold upA
  split
  · rename_i c; exact h i c
  · exact ha
theorem gJ (i : Nat) (h : i < 1000000000000000) : some (AV.v (V.int .i64 (IntKind.i64.wrap ((i : Int) + 1)))) = some (i64 ((i + 1 : Nat) : Int)) := congrArg (fun z => some (AV.v (V.int .i64 z))) (by rw [IntKind.wrap_i64]; omega)
def tame (q : Int) (a : Ask) : Ask := (q, a.2.1, a.2.2.1, a.2.2.2.1, a.2.2.2.2.1, bits BinOp.and IntKind.u32 a.2.2.2.2.2.1 12, a.2.2.2.2.2.2.1, a.2.2.2.2.2.2.2)
theorem flat_ask1 (A : Nat → Ask) (a : Ask) : flat (.one (.int .i64 a.1) :: rs a.2) = flat (arow 1 (upA A 0 a)) := by
  have := flat_upA 0 A a
  rw [← this]
  rfl
set_option maxHeartbeats 4000000 in
set_option maxRecDepth 100000 in
theorem plays_go (N : Nat) (A : Nat → Ask) (hA : okA N A) (hN : 0 < N) (hb : N * 48 ≤ 140737488355328) : AC Try.prog 6 [.v (.sl 0 0 0 N 8)] [.ro (arow N A)] (fun v _ => v = bo true) := by
  refine AC.of_body dok Try.func6 rfl rfl (Nat.le_of_ble_eq_true rfl) ?_
  conv => whnf
  refine aw_loopR dok 1 (pS N) (pH N A) (fun x => x.1 ≤ N ∧ okA x.1 x.2) (fun x => N - x.1) (0, A) ⟨rfl, rfl, rfl, rfl, trivial⟩ rfl ⟨Nat.zero_le _, fun i hi => absurd hi (Nat.not_lt_zero _)⟩ rfl ?_
  rintro ⟨i, B⟩ ⟨hi, hB⟩
  dsimp only at hi hB
  rcases i with _ | j
  · conv => whnf
    rw [decide_eq_true (show ((0 : Nat) : Int) < N by omega)]; conv => whnf
    rw [blt_of hN]; conv => whnf
    rw [show (0 + 0) = 0 from rfl, blt_of hN]; conv => whnf
    have hd := hA 0 hN
    generalize A 0 = a at hd
    conv => whnf
    refine DR.mk ⟨.take 0 (.take 3 (.take 4 (.alt 1 (.alt 2 (.alt 5 (.take 6 (.take 7 (.alt 8 (.take 9 (.take 10 (.alt 11 .done .nil))) .nil))) .nil) (.alt 5 (.take 6 (.alt 2 (.take 7 (.alt 8 (.take 9 (.take 10 (.alt 11 .done .nil))) .nil)) .nil)) .nil)) (.alt 5 (.take 6 (.alt 1 (.alt 2 (.take 7 (.alt 8 (.take 9 (.take 10 (.alt 11 .done .nil))) .nil)) .nil) .nil)) .nil)))), by decide +kernel, [1], ?_⟩
    conv => whnf
    repeat' (first | exact Nat.le_of_ble_eq_true rfl | exact room_small (Nat.le_of_ble_eq_true rfl) (by decide) | exact ⟨(1, upA A 0 (tame q a)), [0, 3], ⟨hN, okA_up hB hd⟩, by show N - 1 < N - 0; omega, okN_of (n0 := 1) (by decide), Nat.le_of_ble_eq_true rfl, ⟨⟨_, rfl, .inl rfl⟩, ⟨_, rfl, .inr ⟨oks_arow _ _, flat_ask1 A (tame q a)⟩⟩, trivial⟩, ⟨rfl, rfl, rfl, rfl, trivial⟩⟩ | (refine And.intro ?_ ?_ <;> conv => whnf) | (refine (within01 a.1 5 (by decide) _).mono ?_; rintro v H' ⟨⟨q, h1, h2, rfl⟩, rfl⟩; conv => whnf))
  · by_cases c : j + 1 < N
    · conv => whnf
      rw [decide_eq_true (show ((j + 1 : Nat) : Int) < N by omega)]; conv => whnf
      rw [blt_of c]; conv => whnf
      rw [show (0 + (j + 1)) = j + 1 by omega, blt_of c]; conv => whnf
      have hd := hA (j + 1) c
      generalize A (j + 1) = a at hd
      conv => whnf
      refine DR.mk ⟨.take 0 (.take 3 (.take 4 (.alt 1 (.alt 2 (.alt 5 (.take 6 (.take 7 (.alt 8 (.take 9 (.take 10 (.alt 11 .done .nil))) .nil))) .nil) (.alt 5 (.take 6 (.alt 2 (.take 7 (.alt 8 (.take 9 (.take 10 (.alt 11 .done .nil))) .nil)) .nil)) .nil)) (.alt 5 (.take 6 (.alt 1 (.alt 2 (.take 7 (.alt 8 (.take 9 (.take 10 (.alt 11 .done .nil))) .nil)) .nil) .nil)) .nil)))), by decide +kernel, [2], ?_⟩
      conv => whnf
      repeat' (first | exact Nat.le_of_ble_eq_true rfl | exact (by simp [lenS]; omega) | exact room_big (by omega) (by show (j + 1 + 1) * 48 ≤ 140737488355328; omega) | exact ⟨(j + 1 + 1, upA B (j + 1) (tame q a)), [0, 4], ⟨c, okA_up hB hd⟩, by show N - (j + 1 + 1) < N - (j + 1); omega, okN_of (n0 := 1) (by decide), Nat.le_of_ble_eq_true rfl, ⟨⟨_, rfl, .inl rfl⟩, ⟨_, rfl, .inr ⟨oks_arow _ _, flat_upA (j + 1) B (tame q a)⟩⟩, trivial⟩, ⟨rfl, rfl, rfl, gJ (j + 1) (by omega), trivial⟩⟩ | (refine And.intro ?_ ?_ <;> conv => whnf) | (refine (within01 a.1 5 (by decide) _).mono ?_; rintro v H' ⟨⟨q, h1, h2, rfl⟩, rfl⟩; conv => whnf))
    · conv => whnf
      rw [decide_eq_false (show ¬ ((j + 1 : Nat) : Int) < N by omega)]; conv => whnf
      have e : j + 1 = N := by omega
      refine (playE (p := 1) (j + 1) B hB (Nat.le_of_ble_eq_true rfl) (.inl rfl)).mono ?_
      rintro v H' ⟨rfl, rfl⟩
      conv => whnf
      refine (playE (p := 0) N A hA (Nat.le_of_ble_eq_true rfl) (.inr rfl)).mono ?_
      rintro v H' ⟨rfl, rfl⟩
      conv => whnf
      refine (known1 _).mono ?_
      rintro v H' ⟨rfl, rfl⟩
      conv => whnf
theorem plays_nil : AC Try.prog 6 [.v .nilS] [.dead] (fun v _ => v = bo true) := by
  refine AC.of_body dok Try.func6 rfl rfl (Nat.le_of_ble_eq_true rfl) ?_
  conv => whnf
  refine aw_rounds dok 1 ?_
  conv => whnf
  refine (playN _).mono ?_
  rintro v H' ⟨rfl, rfl⟩
  conv => whnf
  refine (playN _).mono ?_
  rintro v H' ⟨rfl, rfl⟩
  conv => whnf
  refine (known1 _).mono ?_
  rintro v H' ⟨rfl, rfl⟩
  conv => whnf
theorem plays_zero : AC Try.prog 6 [.v (.sl 0 0 0 0 8)] [.dead] (fun v _ => v = bo true) := by
  refine AC.of_body dok Try.func6 rfl rfl (Nat.le_of_ble_eq_true rfl) ?_
  conv => whnf
  refine aw_rounds dok 1 ?_
  conv => whnf
  refine (playN _).mono ?_
  rintro v H' ⟨rfl, rfl⟩
  conv => whnf
  refine (playZ (p := 0) (Nat.le_of_ble_eq_true rfl)).mono ?_
  rintro v H' ⟨rfl, rfl⟩
  conv => whnf
  refine (known1 _).mono ?_
  rintro v H' ⟨rfl, rfl⟩
  conv => whnf
end Go.Proofs.Ytfkjjaimilkfcaa.Md
