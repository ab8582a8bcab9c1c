/- Pairs, Same, Agree, beside leavers. -/
import Derived.Test.YtpoknlbnookhjaaGg
set_option linter.unusedVariables false
set_option linter.unusedSimpArgs false
namespace Go.Proofs.Ytpoknlbnookhjaa.Md
open Go.RowKit Go.Proofs.Ytpoknlbnookhjaa.Ae Go.Proofs.Ytpoknlbnookhjaa
open Go.Lone
theorem und : Und Try.prog := ⟨Try.underlying3, Try.underlying23⟩
def eqb (x y : R7) : Bool := x.1 == y.1 && (x.2.1 == y.2.1 && (x.2.2.1 == y.2.2.1 && (x.2.2.2.1 == y.2.2.2.1 && (x.2.2.2.2.1 == y.2.2.2.2.1 && (x.2.2.2.2.2.1 == y.2.2.2.2.2.1 && x.2.2.2.2.2.2 == y.2.2.2.2.2.2)))))
def ag (r : R7) : AV := .agg ((rc r).map .one)
set_option maxRecDepth 100000 in
set_option maxHeartbeats 4000000 in
theorem sameK (x y : R7) : ACB Try.prog 10 [ag x, ag y] [] (fun v _ => plainA v ∧ v = .v (.bool (eqb x y))) := by
  refine ACB.of_body dok und Try.func10 rfl rfl (Nat.le_of_ble_eq_true rfl) rfl ?_
  conv => whnf
  exact ⟨trivial, rfl⟩
theorem sameB (x y : R7) (H : Hp) : ACB Try.prog 10 [ag x, ag y] H (fun v H' => v = .v (.bool (eqb x y)) ∧ H' = H) := ACB.view0 (ns := []) (sameK x y) trivial rfl
def rc2 (A B : Nat → R7) (i : Nat) : List V := rc (A i) ++ rc (B i)
abbrev i64 (n : Int) : AV := .v (.int .i64 n)
/-- The pairs so far: nothing yet, or block 4. -/
def pV : Nat → V
  | 0 => .nilS
  | k + 1 => .sl 4 0 0 (k + 1) 14
def pH (A B : Nat → R7) (H : Hp) : Nat → Hp
  | 0 => H
  | k + 1 => H ++ [.rw [.recs 14 (k + 1) (rc2 A B)]]
theorem w64 {x : Int} (h1 : -1000000 ≤ x) (h2 : x ≤ 1000000) : IntKind.i64.wrap x = x := by rw [IntKind.wrap_i64]; omega
theorem gI (i : Nat) (h : i < 1000000) : some (AV.v (V.int .i64 (IntKind.i64.wrap ((i : Int) + 1)))) = some (i64 ((i + 1 : Nat) : Int)) := congrArg (fun z => some (AV.v (V.int .i64 z))) (by rw [IntKind.wrap_i64]; omega)
theorem gL (v : V) : some (AV.v v) = some (AV.v v) := rfl
theorem oks_rc2 (n : Nat) (A B : Nat → R7) : oks [.recs 14 n (rc2 A B)] := oks_cons (fun _ _ => rfl) oks_nil
theorem flat_rc2 (k : Nat) (A B : Nat → R7) : flat (.recs 14 (k + 1) (rc2 A B) :: ((rc (A (k + 1)) ++ rc (B (k + 1))).map .one)) = flat [.recs 14 (k + 2) (rc2 A B)] := by
  rw [flat_cons, flat_ones]
  simp only [flat, Seg.flat, List.flatMap_cons, List.flatMap_nil, List.append_nil]
  rw [List.range_succ (n := k + 1), List.flatMap_append]
  simp [rc2]
theorem wL {a b c : Nat} (ha : a ≤ 1000) (hb : b ≤ 1000) (hc : c ≤ 1000) : IntKind.i64.wrap (IntKind.i64.wrap ((a : Int) + b) - IntKind.i64.wrap (2 * (c : Int))) = (a : Int) + b - 2 * c := by
  rw [w64 (x := (a : Int) + b) (by omega) (by omega), w64 (x := 2 * (c : Int)) (by omega) (by omega), w64 (by omega) (by omega)]
theorem vI {x y : Int} (u : V) (e : x = y) : AV.tup [.v u, .v (.int .i64 x)] = .tup [.v u, .v (.int .i64 y)] := by rw [e]
def pS (m n : Int) (x y : V) (k : Nat) : Sl := [(23, i64 k), (22, i64 n), (9, .v (pV k)), (8, i64 m), (6, .v x), (7, .v y)]
set_option maxRecDepth 100000 in
set_option maxHeartbeats 4000000 in
theorem pairsK {k0 k1 : Blk} {va vb : V} {la lb : Nat} {A B : Nat → R7} (ha : rowIn [k0, k1] va la A) (hb : rowIn [k0, k1] vb lb B) (hla : la ≤ 1000) (hlb : lb ≤ 1000) (h0 : k0 = .dead ∨ ∃ N A, k0 = .ro (seg N A)) (h1 : k1 = .dead ∨ ∃ N A, k1 = .ro (seg N A)) :
    ACB Try.prog 9 [.v va, .v vb] [k0, k1] (fun v H' => ∃ u, v = .tup [.v u, .v (.int .i64 ((la : Int) + lb - 2 * (min la lb : Nat)))] ∧ outRow 14 [k0, k1] H' u (min la lb) (rc2 A B)) := by
  refine ACB.of_body dok und Try.func9 rfl rfl (Nat.le_of_ble_eq_true rfl) rfl ?_
  conv => whnf
  refine (streamsB ha hb (by omega) (by omega)).mono ?_
  rintro v H' ⟨ux, uy, bx, by', o1, o2, rfl, rfl⟩
  have hmin : (if (lb : Int) < (la : Int) then (lb : Int) else la) = ((min la lb : Nat) : Int) := by split <;> omega
  generalize hn : min la lb = n at *
  rcases o1 with ⟨rfl, rfl, rfl⟩ | ⟨rfl, rfl⟩ <;> rcases o2 with ⟨rfl, rfl, rfl⟩ | ⟨rfl, rfl⟩
  · conv => whnf
    refine aw_loopRB dok und 4 (fun _ : Nat => pS 0 0 .nilS .nilS 0) (fun _ => [k0, k1, .dead, .dead]) (fun _ => True) (fun k => k) 0 ⟨rfl, by first | exact rfl | exact congrArg (fun z => some (i64 z)) (by split <;> omega), rfl, by first | exact rfl | exact congrArg (fun z => some (i64 z)) (by split <;> omega), rfl, rfl, trivial⟩ rfl trivial rfl ?_
    intro k _
    obtain rfl : n = 0 := by omega
    conv => whnf
    exact ⟨.nilS, vI _ (wL (c := 0) (by omega) (by omega) (by omega)), .inl ⟨rfl, rfl⟩⟩
  · conv => whnf
    refine aw_loopRB dok und 4 (fun _ : Nat => pS 0 0 .nilS (.sl 3 0 0 lb 7) 0) (fun _ => [k0, k1, .dead, (.rw (seg lb B))]) (fun _ => True) (fun k => k) 0 ⟨rfl, by first | exact rfl | exact congrArg (fun z => some (i64 z)) (by split <;> omega), rfl, by first | exact rfl | exact congrArg (fun z => some (i64 z)) (by split <;> omega), rfl, rfl, trivial⟩ rfl trivial rfl ?_
    intro k _
    obtain rfl : n = 0 := by omega
    conv => whnf
    exact ⟨.nilS, vI _ (wL (c := 0) (by omega) (by omega) (by omega)), .inl ⟨rfl, rfl⟩⟩
  · conv => whnf
    refine aw_loopRB dok und 4 (fun _ : Nat => pS 0 0 (.sl 2 0 0 la 7) .nilS 0) (fun _ => [k0, k1, (.rw (seg la A)), .dead]) (fun _ => True) (fun k => k) 0 ⟨rfl, by first | exact rfl | exact congrArg (fun z => some (i64 z)) (by split <;> omega), rfl, by first | exact rfl | exact congrArg (fun z => some (i64 z)) (by split <;> omega), rfl, rfl, trivial⟩ rfl trivial rfl ?_
    intro k _
    obtain rfl : n = 0 := by omega
    conv => whnf
    exact ⟨.nilS, vI _ (wL (c := 0) (by omega) (by omega) (by omega)), .inl ⟨rfl, rfl⟩⟩
  · conv => whnf
    refine aw_loopRB dok und 4 (pS (if (lb : Int) < (la : Int) then (lb : Int) else la) (if (lb : Int) < (la : Int) then (lb : Int) else la) (.sl 2 0 0 la 7) (.sl 3 0 0 lb 7)) (pH A B [k0, k1, .rw (seg la A), .rw (seg lb B)]) (fun k => k ≤ n) (fun k => n - k) 0 ⟨rfl, rfl, rfl, rfl, rfl, rfl, trivial⟩ rfl (Nat.zero_le _) rfl ?_
    rw [hmin]
    intro k hk
    by_cases ck : k < n
    case neg =>
      obtain rfl : k = n := by omega
      rcases k with _ | k
      · conv => whnf
        exact ⟨.nilS, vI _ (wL (by omega) (by omega) (by omega)), .inl ⟨rfl, rfl⟩⟩
      · conv => whnf
        rw [decide_eq_false (show ¬ ((k + 1 : Nat) : Int) < ((k + 1 : Nat) : Int) by omega)]
        conv => whnf
        exact ⟨pV (k + 1), vI _ (wL (by omega) (by omega) (by omega)), .inr ⟨4, rfl, Nat.le_of_ble_eq_true rfl, rfl⟩⟩
    rcases h0 with rfl | ⟨N0, A0, rfl⟩ <;> rcases h1 with rfl | ⟨N1, A1, rfl⟩
    all_goals
      rcases k with _ | k
      · conv => whnf
        rw [decide_eq_true (show ((0 : Nat) : Int) < n by omega)]
        conv => whnf
        refine DRB.std (by decide +kernel) (by decide +kernel) ⟨[], ?_⟩
        conv => whnf
        rw [blt_of (show 0 < la by omega)]; conv => whnf
        rw [Nat.zero_add 0, blt_of (show 0 < la by omega)]; conv => whnf
        rw [blt_of (show 0 < lb by omega)]; conv => whnf
        rw [blt_of (show 0 < lb by omega)]; conv => whnf
        refine ⟨Nat.le_of_ble_eq_true rfl, room_small (Nat.le_of_ble_eq_true rfl) (by decide), ?_⟩
        conv => whnf
        exact ⟨1, [0, 1, 2, 3, 5], by omega, by show n - 1 < n - 0; omega, okN_of (n0 := 4) (by decide), Nat.le_of_ble_eq_true rfl, ⟨by first | exact trivial | exact ⟨_, rfl, .inl rfl⟩, by first | exact trivial | exact ⟨_, rfl, .inl rfl⟩, ⟨_, rfl, .inl rfl⟩, ⟨_, rfl, .inl rfl⟩, ⟨_, rfl, .inr ⟨oks_rc2 _ _ _, rfl⟩⟩, trivial⟩, ⟨gI _ (by omega), rfl, gL _, rfl, rfl, rfl, trivial⟩⟩
      · conv => whnf
        rw [decide_eq_true (show ((k + 1 : Nat) : Int) < n by omega)]
        conv => whnf
        refine DRB.std (by decide +kernel) (by decide +kernel) ⟨[4], ?_⟩
        conv => whnf
        rw [blt_of (show k + 1 < la by omega)]; conv => whnf
        rw [Nat.zero_add (k + 1), blt_of (show k + 1 < la by omega)]; conv => whnf
        rw [blt_of (show k + 1 < lb by omega)]; conv => whnf
        rw [Nat.zero_add (k + 1), blt_of (show k + 1 < lb by omega)]; conv => whnf
        refine ⟨by simp [lenS]; omega, room_small (by omega) (by decide), ?_⟩
        conv => whnf
        exact ⟨k + 2, [0, 1, 2, 3, 6], by omega, by show n - (k + 2) < n - (k + 1); omega, okN_of (n0 := 4) (by decide), Nat.le_of_ble_eq_true rfl, ⟨by first | exact trivial | exact ⟨_, rfl, .inl rfl⟩, by first | exact trivial | exact ⟨_, rfl, .inl rfl⟩, ⟨_, rfl, .inl rfl⟩, ⟨_, rfl, .inl rfl⟩, ⟨_, rfl, .inr ⟨oks_rc2 _ _ _, flat_rc2 _ _ _⟩⟩, trivial⟩, ⟨gI _ (by omega), rfl, gL _, rfl, rfl, rfl, trivial⟩⟩
end Go.Proofs.Ytpoknlbnookhjaa.Md
