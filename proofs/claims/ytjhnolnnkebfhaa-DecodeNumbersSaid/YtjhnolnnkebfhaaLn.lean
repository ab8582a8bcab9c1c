/- DecodeNumbers: the closed sentence of layer 5. -/
import Derived.Test.YtjhnolnnkebfhaaKd
set_option linter.unusedVariables false
set_option linter.unusedSimpArgs false
namespace Go.Proofs.Ytjhnolnnkebfhaa.Md
open Go.RowKit Go.Proofs.Ytjhnolnnkebfhaa.Ae Go.Proofs.Ytjhnolnnkebfhaa.Bv Go.Proofs.Ytjhnolnnkebfhaa
theorem sameJ (z : Int) (h : 0 ≤ z ∧ z < 4294967296) (H : Hp) : AC Try.prog 10 [u32 z] H (RetH H (bo true)) := by
  obtain ⟨x, rfl, hx⟩ : ∃ x : Nat, z = x ∧ x < 4294967296 := ⟨z.toNat, by omega, by omega⟩
  exact same1 x hx H
theorem sU (i : Nat) (h : i < 1000) : some (AV.v (V.int .u32 (IntKind.u32.wrap ((i : Int) + 1)))) = some (u32 ((i + 1 : Nat) : Int)) := congrArg (fun z => some (AV.v (V.int .u32 z))) (by rw [IntKind.wrap_u32]; omega)
theorem sI (i : Nat) (h : i < 1000) : some (AV.v (V.int .i64 (IntKind.i64.wrap ((i : Int) + 1)))) = some (i64 ((i + 1 : Nat) : Int)) := congrArg (fun z => some (AV.v (V.int .i64 z))) (by rw [IntKind.wrap_i64]; omega)
set_option maxRecDepth 100000 in
set_option maxHeartbeats 2000000 in
theorem numbers0 : AC Try.prog 4 [] [] (fun v _ => v = bo true) := by
  refine AC.of_body dok Try.func4 rfl rfl (Nat.le_of_ble_eq_true rfl) ?_
  conv => whnf
  refine aw_loopC dok 0 (fun i : Nat => [(1, u32 i)]) (fun _ => []) (fun i => i ≤ 128) (fun i => 128 - i) 0 ⟨rfl, trivial⟩ rfl (by decide) (fun _ => rfl) ?_
  intro i hi
  conv => whnf
  refine cb_intro (fun h => ?_) (fun h => ?_)
  · have hi2 : i < 128 := by have := of_decide_eq_true h; omega
    conv => whnf
    refine aw_loopC dok 0 (fun j : Nat => [(1, u32 i), (2, u32 j)]) (fun _ => []) (fun j => j ≤ 8) (fun j => 8 - j) 0 ⟨rfl, rfl, trivial⟩ rfl (by decide) (fun _ => rfl) ?_
    intro j hj
    conv => whnf
    refine cb_intro (fun h => ?_) (fun h => ?_)
    · have hj2 : j < 8 := by have := of_decide_eq_true h; omega
      conv => whnf
      refine aw_loopC dok 1 (fun k : Nat => [(1, u32 i), (2, u32 j), (16, .v (.sl 0 0 0 8 1)), (17, i64 8), (18, i64 k)]) (fun _ => [.rw [.ints .u32 8 [0, 1, 31, 32, 33, 64, 127, 24]]]) (fun k => k ≤ 8) (fun k => 8 - k) 0 ⟨rfl, rfl, rfl, rfl, rfl, trivial⟩ rfl (by decide) (fun _ => rfl) ?_
      intro k hk
      conv => whnf
      refine cb_intro (fun h => ?_) (fun h => ?_)
      · have hk2 : k < 8 := by have := of_decide_eq_true h; omega
        conv => whnf
        rw [blt_of hk2]; conv => whnf
        rw [show (0 + k) * 1 = k by omega, blt_of hk2]; conv => whnf
        generalize [0, 1, 31, 32, 33, 64, 127, 24].getD k (0 : Int) = v4
        refine aw_loop dok (fun m : Nat => [(1, u32 i), (2, u32 j), (16, .v (.sl 0 0 0 8 1)), (17, i64 8), (18, i64 k), (4, u32 v4), (22, .v (.sl 1 0 0 6 1)), (23, i64 6), (24, i64 m)]) (fun _ => [.rw [.ints .u32 8 [0, 1, 31, 32, 33, 64, 127, 24]], .rw [.ints .u32 6 [0, 16, 33521664, 1052544, 2097152, 3145728]]]) (fun m => m ≤ 6) (fun m => 6 - m) 0 ⟨rfl, rfl, rfl, rfl, rfl, rfl, rfl, rfl, rfl, trivial⟩ rfl (by decide) ?_
        intro m hm
        conv => whnf
        refine cb_intro (fun h => ?_) (fun h => ?_)
        · have hm2 : m < 6 := by have := of_decide_eq_true h; omega
          conv => whnf
          rw [blt_of hm2]; conv => whnf
          rw [show (0 + m) * 1 = m by omega, blt_of hm2]; conv => whnf
          refine (sameJ _ (range32 _ _ _) _).mono ?_
          rintro v H' ⟨rfl, rfl⟩
          conv => whnf
          exact ⟨m + 1, hm2, by show 6 - (m + 1) < 6 - m; omega, ⟨rfl, rfl, rfl, rfl, rfl, rfl, rfl, rfl, sI m (by omega), trivial⟩, rfl⟩
        · conv => whnf
          exact ⟨k + 1, hk2, by show 8 - (k + 1) < 8 - k; omega, ⟨rfl, rfl, rfl, rfl, sI k (by omega), trivial⟩, ⟨trivial, trivial, Nat.lt_succ_self 0, trivial, trivial, trivial⟩, ⟨⟨trivial, trivial⟩, trivial⟩, rfl⟩
      · have hk2 : ¬ k < 8 := by have := of_decide_eq_false h; omega
        conv => whnf
        exact ⟨j + 1, hj2, by show 8 - (j + 1) < 8 - j; omega, ⟨rfl, sU j (by omega), trivial⟩, ⟨trivial, trivial, trivial⟩, trivial, rfl⟩
    · conv => whnf
      exact ⟨i + 1, hi2, by show 128 - (i + 1) < 128 - i; omega, ⟨sU i (by omega), trivial⟩, ⟨trivial, trivial⟩, trivial, rfl⟩
  · conv => whnf
    refine aw_loop dok (fun x : Nat => [(7, i64 ((x : Int) - 1))]) (fun _ => []) (fun x => x ≤ 61) (fun x => 61 - x) 0 ⟨rfl, trivial⟩ rfl (by decide) ?_
    intro x hx
    conv => whnf
    refine cb_intro (fun h => ?_) (fun h => ?_)
    · have hx2 : x < 61 := by have := of_decide_eq_true h; omega
      conv => whnf
      refine (judged1 _ _ _ _ _ _).mono ?_
      rintro v H' ⟨rfl, rfl⟩
      conv => whnf
      refine (judged1 _ _ _ _ _ _).mono ?_
      rintro v H' ⟨rfl, rfl⟩
      conv => whnf
      exact ⟨x + 1, hx2, by show 61 - (x + 1) < 61 - x; omega, ⟨congrArg (fun z => some (AV.v (V.int .i64 z))) (by rw [IntKind.wrap_i64]; omega), trivial⟩, rfl⟩
    · conv => whnf
      iterate 5
        refine (same1 _ (by decide) _).mono ?_
        rintro v H' ⟨rfl, rfl⟩
        conv => whnf
      refine (known1 _).mono ?_
      rintro v H' ⟨rfl, rfl⟩
      conv => whnf
theorem walkNumbers (W : World) : Calls Try.prog 4 #[] W fun e w' => e = .returned (.bool true) ∧ Below W.heap.size W w' := AC.law0 numbers0 .nil W
end Go.Proofs.Ytjhnolnnkebfhaa.Md
