/- GatherNumbers, beside leavers. -/
import Derived.Test.YtpoknlbnookhjaaGl
set_option linter.unusedVariables false
set_option linter.unusedSimpArgs false
namespace Go.Proofs.Ytpoknlbnookhjaa.Md
open Go.RowKit Go.Proofs.Ytpoknlbnookhjaa.Ae Go.Proofs.Ytpoknlbnookhjaa
open Go.Lone
def n1S (n : Nat) : Sl := [(1, i64 n), (0, .v (.bool false))]
def n2S (n m : Nat) : Sl := [(2, i64 m), (1, i64 n), (0, .v (.bool false))]
def n3S (n m at' : Nat) : Sl := [(3, i64 at'), (2, i64 m), (1, i64 n), (0, .v (.bool false))]
def pcR (j : Nat) : R7 := (4 * (j : Int), 0, 0, false, 0, 0, 0)
/-- The first i records have their places. -/
def aR (i j : Nat) : List V :=
  match Nat.blt j i with
  | true => rc (pcR j)
  | false => rc (0, 0, 0, false, 0, 0, 0)
theorem flatMap_congr' {f g : Nat → List V} : ∀ n, (∀ j, j < n → f j = g j) → (List.range n).flatMap f = (List.range n).flatMap g := by
  intro n
  induction n with
  | zero => intro _; rfl
  | succ n ih => intro h; rw [List.range_succ, List.flatMap_append, List.flatMap_append, ih fun j hj => h j (by omega), List.flatMap_cons, List.flatMap_cons, h n (by omega)]; rfl
theorem flat_recs (st n : Nat) (f : Nat → List V) : flat [.recs st n f] = (List.range n).flatMap f := by simp [flat, Seg.flat]
theorem aR_len (i j : Nat) : (aR i j).length = 7 := by unfold aR; split <;> rfl
theorem oks_aR (i n : Nat) : oks [.recs 7 n (aR i)] := oks_cons (fun _ _ => aR_len _ _) oks_nil
theorem bltF {a b : Nat} (h : b ≤ a) : Nat.blt a b = false := by
  cases e : Nat.blt a b with
  | false => rfl
  | true => exact absurd (Nat.le_of_ble_eq_true e) (by omega)
theorem ren_aR (σ : List Nat) (n i : Nat) : flat (rensS σ [.recs 7 n (aR i)]) = flat [.recs 7 n (aR i)] := by
  have e : rensS σ [.recs 7 n (aR i)] = [.recs 7 n (fun j => (aR i j).map (V.ren σ))] := rfl
  rw [e, flat_recs, flat_recs]
  refine flatMap_congr' n fun j _ => ?_
  unfold aR
  split <;> rfl
theorem flat_step {σ : List Nat} (n i : Nat) (hi : i < 12) : flat [.recs 7 n (fun j => if j = i then (aR i j).set 0 (.int .u32 (IntKind.u32.wrap (IntKind.i64.wrap (4 * (i : Int))))) else aR i j)] = flat (rensS σ [.recs 7 n (aR (i + 1))]) := by
  rw [ren_aR, flat_recs, flat_recs]
  refine flatMap_congr' n fun j hj => ?_
  have e : IntKind.u32.wrap (IntKind.i64.wrap (4 * (i : Int))) = 4 * (i : Int) := by
    rw [w64 (by omega) (by omega)]
    have : IntKind.u32.wrap (4 * (i : Int)) = (4 * (i : Int)) % 4294967296 := by rfl
    rw [this]; omega
  rw [e]
  by_cases h : j = i
  · subst h
    rw [if_pos rfl]
    unfold aR
    rw [bltF (Nat.le_refl j), blt_of (Nat.lt_succ_self j)]
    rfl
  · rw [if_neg h]
    unfold aR
    rcases Nat.lt_or_ge j i with c | c
    · rw [blt_of c, blt_of (show j < i + 1 by omega)]
    · rw [bltF c, bltF (show i + 1 ≤ j by omega)]
theorem flat_full (n i : Nat) (hi : n ≤ i) : flat [.recs 7 n (aR i)] = flat (seg n pcR) := by
  rw [flat_recs, flat_seg]
  refine flatMap_congr' n fun j hj => ?_
  unfold aR
  rw [blt_of (show j < i by omega)]
def bR (x j : Nat) : R7 := (4 * (j : Int), if j = x then 9 else 0, 0, false, 0, 0, 0)
theorem flat_mark (n i x : Nat) (hi : n ≤ i) : flat [.recs 7 n (fun j => if j = x then (aR i j).set 1 (.int .u32 9) else aR i j)] = flat (seg n (bR x)) := by
  rw [flat_recs, flat_seg]
  refine flatMap_congr' n fun j hj => ?_
  unfold aR
  rw [blt_of (show j < i by omega)]
  by_cases h : j = x
  · rw [if_pos h]; unfold bR; rw [if_pos h]; rfl
  · rw [if_neg h]; unfold bR; rw [if_neg h]; rfl
def n4S (pa pb n m x i : Nat) : Sl := [(26, i64 i), (25, i64 n), (4, .v (.sl pa 0 0 n 7)), (5, .v (.sl pb 0 0 m 7)), (3, i64 x), (2, i64 m), (1, i64 n), (0, .v (.bool false))]
def n5S (pa pb n m x i : Nat) : Sl := [(39, i64 i), (38, i64 m), (4, .v (.sl pa 0 0 n 7)), (5, .v (.sl pb 0 0 m 7)), (3, i64 x), (2, i64 m), (1, i64 n), (0, .v (.bool false))]
theorem rowIn.ofF {H : Hp} {n : Nat} {A : Nat → R7} (p N : Nat) {l : List Seg} (h1 : H[p]? = some (.rw l)) (h2 : flat l = flat (seg N A)) (h : n ≤ N) : rowIn H (.sl p 0 0 n 7) n A := .inr (.inr ⟨p, N, _, l, rfl, h1, rfl, h2, h⟩)
theorem g3 (i : Nat) (h : i < 1000000) : some (AV.v (V.int .i64 (IntKind.i64.wrap ((i : Int) + 3)))) = some (i64 ((i + 3 : Nat) : Int)) := congrArg (fun z => some (AV.v (V.int .i64 z))) (by rw [IntKind.wrap_i64]; omega)
set_option maxRecDepth 100000 in
set_option maxHeartbeats 4000000 in
theorem numbersK : ACB Try.prog 3 [] [] (fun v _ => v = .v (.bool true)) := by
  refine ACB.of_body dok und Try.func3 rfl rfl (Nat.le_of_ble_eq_true rfl) rfl ?_
  conv => whnf
  refine aw_loopRB dok und 0 n1S (fun _ => []) (fun n => n ≤ 12) (fun n => 12 - n) 0 ⟨rfl, rfl, trivial⟩ rfl (Nat.zero_le _) rfl ?_
  intro n hn
  by_cases cn : n < 12
  case neg =>
    obtain rfl : n = 12 := by omega
    conv => whnf
    refine (knownA _).mono ?_
    rintro v H' ⟨rfl, rfl⟩
    exact rfl
  conv => whnf
  rw [decide_eq_true (show (n : Int) < 12 by omega)]; conv => whnf
  refine aw_loopRB dok und 0 (n2S n) (fun _ => []) (fun m => m ≤ 12) (fun m => 12 - m) 0 ⟨rfl, rfl, rfl, trivial⟩ rfl (Nat.zero_le _) rfl ?_
  intro m hm
  by_cases cm : m < 12
  case neg =>
    obtain rfl : m = 12 := by omega
    conv => whnf
    exact ⟨n + 1, [], by show n + 1 ≤ 12; omega, by show 12 - (n + 1) < 12 - n; omega, okN_of (n0 := 0) (by decide), Nat.le_of_ble_eq_true rfl, trivial, ⟨gI n (by omega), rfl, trivial⟩⟩
  conv => whnf
  rw [decide_eq_true (show (m : Int) < 12 by omega)]; conv => whnf
  refine aw_loopRB dok und 0 (n3S n m) (fun _ => []) (fun x => x ≤ 14) (fun x => 14 - x) 0 ⟨rfl, rfl, rfl, rfl, trivial⟩ rfl (Nat.zero_le _) rfl ?_
  intro x hx
  by_cases cx : x < 12
  case neg =>
    conv => whnf
    rw [decide_eq_false (show ¬ (x : Int) < 12 by omega)]; conv => whnf
    exact ⟨m + 1, [], by show m + 1 ≤ 12; omega, by show 12 - (m + 1) < 12 - m; omega, okN_of (n0 := 0) (by decide), Nat.le_of_ble_eq_true rfl, trivial, ⟨gI m (by omega), rfl, rfl, trivial⟩⟩
  conv => whnf
  rw [decide_eq_true (show (x : Int) < 12 by omega)]; conv => whnf
  refine ⟨⟨.take 0 (.take 2 (.alt 1 (.take 4 (.alt 3 (.take 5 .done) .nil)) (.alt 3 (.alt 1 (.take 4 (.take 5 .done)) .nil) .nil))), by decide +kernel, by decide +kernel, [], ?_⟩⟩
  conv => whnf
  refine ⟨?_, ?_⟩
  · conv => whnf
    refine ⟨rfl, by omega, by omega, by decide, by decide, ?_⟩
    conv => whnf
    refine ⟨rfl, by omega, by omega, by decide, by decide, ?_⟩
    conv => whnf
    refine aw_loopRB dok und 2 (n4S 0 1 n m x) (fun i => [.rw [.recs 7 n (aR (i))], .rw [.recs 7 m (aR (0))]]) (fun i => i ≤ n) (fun i => n - i) 0 ⟨rfl, rfl, rfl, rfl, rfl, rfl, rfl, rfl, trivial⟩ rfl (Nat.zero_le _) rfl ?_
    intro i hi
    by_cases ci : i < n
    case pos =>
      conv => whnf
      rw [decide_eq_true (show (i : Int) < n by omega)]; conv => whnf
      rw [blt_of ci]; conv => whnf
      rw [Nat.zero_add i, blt_of ci]; conv => whnf
      exact ⟨i + 1, [0, 1], by show i + 1 ≤ n; omega, by show n - (i + 1) < n - i; omega, okN_of (n0 := 2) (by decide), Nat.le_of_ble_eq_true rfl, ⟨⟨_, rfl, .inr ⟨oks_aR _ _, flat_step n i (by omega)⟩⟩, ⟨_, rfl, .inr ⟨oks_aR _ _, (ren_aR _ _ _).symm⟩⟩, trivial⟩, ⟨gI i (by omega), rfl, rfl, rfl, rfl, rfl, rfl, rfl, trivial⟩⟩
    obtain rfl : i = n := by omega
    conv => whnf
    rw [decide_eq_false (show ¬ (i : Int) < i by omega)]; conv => whnf
    refine aw_loopRB dok und 2 (n5S 0 1 i m x) (fun j => [.rw [.recs 7 i (aR (i))], .rw [.recs 7 m (aR (j))]]) (fun j => j ≤ m) (fun j => m - j) 0 ⟨rfl, rfl, rfl, rfl, rfl, rfl, rfl, rfl, trivial⟩ rfl (Nat.zero_le _) rfl ?_
    intro j hj
    by_cases cj : j < m
    case pos =>
      conv => whnf
      rw [decide_eq_true (show (j : Int) < m by omega)]; conv => whnf
      rw [blt_of cj]; conv => whnf
      rw [Nat.zero_add j, blt_of cj]; conv => whnf
      exact ⟨j + 1, [0, 1], by show j + 1 ≤ m; omega, by show m - (j + 1) < m - j; omega, okN_of (n0 := 2) (by decide), Nat.le_of_ble_eq_true rfl, ⟨⟨_, rfl, .inr ⟨oks_aR _ _, (ren_aR _ _ _).symm⟩⟩, ⟨_, rfl, .inr ⟨oks_aR _ _, flat_step m j (by omega)⟩⟩, trivial⟩, ⟨gI j (by omega), rfl, rfl, rfl, rfl, rfl, rfl, rfl, trivial⟩⟩
    obtain rfl : j = m := by omega
    conv => whnf
    rw [decide_eq_false (show ¬ (j : Int) < j by omega)]; conv => whnf
    by_cases cb : x < j
    · rw [decide_eq_true (show (x : Int) < j by omega)]; conv => whnf
      rw [blt_of cb]; conv => whnf
      rw [Nat.zero_add x, blt_of cb]; conv => whnf
      refine (sameA (la := i) (lb := j) (A := pcR) (B := bR x) (rowIn.ofF 0 i rfl (flat_full _ _ (Nat.le_refl _)) (Nat.le_refl _)) (rowIn.ofF 1 j rfl (flat_mark _ _ _ (Nat.le_refl _)) (Nat.le_refl _)) (by omega) (by omega)).mono ?_
      rintro v H' ⟨rfl, rfl⟩
      conv => whnf
      exact ⟨x + 3, [], by show x + 3 ≤ 14; omega, by show 14 - (x + 3) < 14 - x; omega, okN_of (n0 := 0) (by decide), Nat.le_of_ble_eq_true rfl, trivial, ⟨g3 x (by omega), rfl, rfl, rfl, trivial⟩⟩
    · rw [decide_eq_false (show ¬ (x : Int) < j by omega)]; conv => whnf
      refine (sameA (la := i) (lb := j) (A := pcR) (B := pcR) (rowIn.ofF 0 i rfl (flat_full _ _ (Nat.le_refl _)) (Nat.le_refl _)) (rowIn.ofF 1 j rfl (flat_full _ _ (Nat.le_refl _)) (Nat.le_refl _)) (by omega) (by omega)).mono ?_
      rintro v H' ⟨rfl, rfl⟩
      conv => whnf
      exact ⟨x + 3, [], by show x + 3 ≤ 14; omega, by show 14 - (x + 3) < 14 - x; omega, okN_of (n0 := 0) (by decide), Nat.le_of_ble_eq_true rfl, trivial, ⟨g3 x (by omega), rfl, rfl, rfl, trivial⟩⟩
  · conv => whnf
    refine ⟨rfl, by omega, by omega, by decide, by decide, ?_⟩
    conv => whnf
    refine ⟨rfl, by omega, by omega, by decide, by decide, ?_⟩
    conv => whnf
    refine aw_loopRB dok und 2 (n4S 1 0 n m x) (fun i => [.rw [.recs 7 m (aR (0))], .rw [.recs 7 n (aR (i))]]) (fun i => i ≤ n) (fun i => n - i) 0 ⟨rfl, rfl, rfl, rfl, rfl, rfl, rfl, rfl, trivial⟩ rfl (Nat.zero_le _) rfl ?_
    intro i hi
    by_cases ci : i < n
    case pos =>
      conv => whnf
      rw [decide_eq_true (show (i : Int) < n by omega)]; conv => whnf
      rw [blt_of ci]; conv => whnf
      rw [Nat.zero_add i, blt_of ci]; conv => whnf
      exact ⟨i + 1, [0, 1], by show i + 1 ≤ n; omega, by show n - (i + 1) < n - i; omega, okN_of (n0 := 2) (by decide), Nat.le_of_ble_eq_true rfl, ⟨⟨_, rfl, .inr ⟨oks_aR _ _, (ren_aR _ _ _).symm⟩⟩, ⟨_, rfl, .inr ⟨oks_aR _ _, flat_step n i (by omega)⟩⟩, trivial⟩, ⟨gI i (by omega), rfl, rfl, rfl, rfl, rfl, rfl, rfl, trivial⟩⟩
    obtain rfl : i = n := by omega
    conv => whnf
    rw [decide_eq_false (show ¬ (i : Int) < i by omega)]; conv => whnf
    refine aw_loopRB dok und 2 (n5S 1 0 i m x) (fun j => [.rw [.recs 7 m (aR (j))], .rw [.recs 7 i (aR (i))]]) (fun j => j ≤ m) (fun j => m - j) 0 ⟨rfl, rfl, rfl, rfl, rfl, rfl, rfl, rfl, trivial⟩ rfl (Nat.zero_le _) rfl ?_
    intro j hj
    by_cases cj : j < m
    case pos =>
      conv => whnf
      rw [decide_eq_true (show (j : Int) < m by omega)]; conv => whnf
      rw [blt_of cj]; conv => whnf
      rw [Nat.zero_add j, blt_of cj]; conv => whnf
      exact ⟨j + 1, [0, 1], by show j + 1 ≤ m; omega, by show m - (j + 1) < m - j; omega, okN_of (n0 := 2) (by decide), Nat.le_of_ble_eq_true rfl, ⟨⟨_, rfl, .inr ⟨oks_aR _ _, flat_step m j (by omega)⟩⟩, ⟨_, rfl, .inr ⟨oks_aR _ _, (ren_aR _ _ _).symm⟩⟩, trivial⟩, ⟨gI j (by omega), rfl, rfl, rfl, rfl, rfl, rfl, rfl, trivial⟩⟩
    obtain rfl : j = m := by omega
    conv => whnf
    rw [decide_eq_false (show ¬ (j : Int) < j by omega)]; conv => whnf
    by_cases cb : x < j
    · rw [decide_eq_true (show (x : Int) < j by omega)]; conv => whnf
      rw [blt_of cb]; conv => whnf
      rw [Nat.zero_add x, blt_of cb]; conv => whnf
      refine (sameA (la := i) (lb := j) (A := pcR) (B := bR x) (rowIn.ofF 1 i rfl (flat_full _ _ (Nat.le_refl _)) (Nat.le_refl _)) (rowIn.ofF 0 j rfl (flat_mark _ _ _ (Nat.le_refl _)) (Nat.le_refl _)) (by omega) (by omega)).mono ?_
      rintro v H' ⟨rfl, rfl⟩
      conv => whnf
      exact ⟨x + 3, [], by show x + 3 ≤ 14; omega, by show 14 - (x + 3) < 14 - x; omega, okN_of (n0 := 0) (by decide), Nat.le_of_ble_eq_true rfl, trivial, ⟨g3 x (by omega), rfl, rfl, rfl, trivial⟩⟩
    · rw [decide_eq_false (show ¬ (x : Int) < j by omega)]; conv => whnf
      refine (sameA (la := i) (lb := j) (A := pcR) (B := pcR) (rowIn.ofF 1 i rfl (flat_full _ _ (Nat.le_refl _)) (Nat.le_refl _)) (rowIn.ofF 0 j rfl (flat_full _ _ (Nat.le_refl _)) (Nat.le_refl _)) (by omega) (by omega)).mono ?_
      rintro v H' ⟨rfl, rfl⟩
      conv => whnf
      exact ⟨x + 3, [], by show x + 3 ≤ 14; omega, by show 14 - (x + 3) < 14 - x; omega, okN_of (n0 := 0) (by decide), Nat.le_of_ble_eq_true rfl, trivial, ⟨g3 x (by omega), rfl, rfl, rfl, trivial⟩⟩
theorem numbersA (H : Hp) : ACB Try.prog 3 [] H (fun v H' => v = .v (.bool true) ∧ H' = H) := ACB.view0 (ns := []) (numbersK.mono fun v H' h => ⟨by subst h; trivial, h⟩) trivial rfl
end Go.Proofs.Ytpoknlbnookhjaa.Md
