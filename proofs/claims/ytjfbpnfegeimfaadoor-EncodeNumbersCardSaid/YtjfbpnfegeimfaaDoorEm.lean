/- EncodeNumbers. -/
import Derived.Test.YtjfbpnfegeimfaaDoorLw
set_option linter.unusedVariables false
set_option linter.unusedSimpArgs false
namespace Go.Proofs.YtjfbpnfegeimfaaDoor.Md
open Go.RowKit Go.Proofs.YtjfbpnfegeimfaaDoor.Ae Go.Proofs.YtjfbpnfegeimfaaDoor.Bv Go.Proofs.YtjfbpnfegeimfaaDoor
theorem sI (i : Nat) (h : i < 1000) : some (AV.v (V.int .i64 (IntKind.i64.wrap ((i : Int) + 1)))) = some (i64 ((i + 1 : Nat) : Int)) := congrArg (fun z => some (AV.v (V.int .i64 z))) (by rw [IntKind.wrap_i64]; omega)
set_option maxRecDepth 100000 in
set_option maxHeartbeats 2000000 in
theorem numbers0 : AC Tryd.prog 3 [] [] (fun v _ => v = bo true) := by
  refine AC.of_body dok Tryd.func3 rfl rfl (Nat.le_of_ble_eq_true rfl) ?_
  conv => whnf
  refine aw_loopC dok 0 (fun x : Nat => [(1, i64 ((x : Int) - 1))]) (fun _ => []) (fun x => x ≤ 59) (fun x => 59 - x) 0 ⟨rfl, trivial⟩ rfl (by decide) (fun _ => rfl) ?_
  intro x hx
  conv => whnf
  refine cb_intro (fun h => ?_) (fun h => ?_)
  · have hx2 : x < 59 := by have := of_decide_eq_true h; omega
    conv => whnf
    refine aw_loopC dok 1 (fun j : Nat => [(1, i64 ((x : Int) - 1)), (10, .v (.sl 0 0 0 20 1)), (11, i64 20), (12, i64 j)]) (fun _ => [.rw [.ints .i32 20 [0, 1, -1, 2, 31, 32, 2047, 2048, -2048, -2049, 4094, 4096, -4096, 1048574, 1048576, -1048576, 16773120, -2147483648, 2147479552, 832]]]) (fun j => j ≤ 20) (fun j => 20 - j) 0 ⟨rfl, rfl, rfl, rfl, trivial⟩ rfl (by decide) (fun _ => rfl) ?_
    intro j hj
    conv => whnf
    refine cb_intro (fun h => ?_) (fun h => ?_)
    · have hj2 : j < 20 := by have := of_decide_eq_true h; omega
      conv => whnf
      rw [blt_of hj2]; conv => whnf
      rw [show (0 + j) * 1 = j by omega, blt_of hj2]; conv => whnf
      generalize [0, 1, -1, 2, 31, 32, 2047, 2048, -2048, -2049, 4094, 4096, -4096, 1048574, 1048576, -1048576, 16773120, -2147483648, 2147479552, 832].getD j (0 : Int) = n
      refine aw_rounds dok 9 ?_
      conv => whnf
      iterate 8
        refine (same1 _ _ _ _ _ _).mono ?_
        rintro v H' ⟨rfl, rfl⟩
        conv => whnf
      exact ⟨j + 1, hj2, by show 20 - (j + 1) < 20 - j; omega, ⟨rfl, rfl, rfl, sI j (by omega), trivial⟩, ⟨trivial, Nat.lt_succ_self 0, trivial, trivial, trivial⟩, ⟨⟨trivial, trivial⟩, trivial⟩, rfl⟩
    · conv => whnf
      exact ⟨x + 1, hx2, by show 59 - (x + 1) < 59 - x; omega, ⟨congrArg (fun z => some (AV.v (V.int .i64 z))) (by rw [IntKind.wrap_i64]; omega), trivial⟩, ⟨trivial, trivial⟩, trivial, rfl⟩
  · conv => whnf
    refine (known1 _).mono ?_
    rintro v H' ⟨rfl, rfl⟩
    conv => whnf
theorem walkNumbers (W : World) (ht : GTw W) : Calls Tryd.prog 3 #[] W fun e w' => e = .returned (.bool true) ∧ Below W.heap.size W w' := AC.law0 numbers0 .nil W ht
end Go.Proofs.YtjfbpnfegeimfaaDoor.Md
