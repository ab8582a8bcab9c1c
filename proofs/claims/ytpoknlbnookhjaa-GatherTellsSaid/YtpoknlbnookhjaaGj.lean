/- Agree over any blocks; the law's helper same, beside leavers. -/
import Derived.Test.YtpoknlbnookhjaaGi
set_option linter.unusedVariables false
set_option linter.unusedSimpArgs false
namespace Go.Proofs.Ytpoknlbnookhjaa.Md
open Go.RowKit Go.Proofs.Ytpoknlbnookhjaa.Ae Go.Proofs.Ytpoknlbnookhjaa
open Go.Lone
theorem agreeB {H : Hp} {va vb : V} {la lb : Nat} {A B : Nat → R7} (ha : rowIn H va la A) (hb : rowIn H vb lb B) (hla : la ≤ 1000) (hlb : lb ≤ 1000) :
    ACB Try.prog 8 [.v va, .v vb] H (fun v H' => (∃ (k : Nat) (ok : Bool), v = .tup [i64 k, .v (.bool ok)] ∧ agr la lb A B k ok) ∧ H' = H) := by
  obtain ⟨k0, k1, ns, va', vb', ha', hb', hs, he⟩ := canon ha hb
  exact ACB.view0 (agreeK (ha'.row rfl) (hb'.row rfl) hla hlb ha'.rd hb'.rd) hs he
theorem leftN {la lb n : Nat} (h1 : la ≤ 1000) (h2 : lb ≤ 1000) (h3 : n ≤ 1000) : ((la : Int) + lb - 2 * (n : Int) != IntKind.i64.wrap (IntKind.i64.wrap ((la : Int) + lb) - IntKind.i64.wrap (2 * (n : Int)))) = false := by
  rw [wL h1 h2 h3]; simp
theorem judged {la lb n k : Nat} {A B : Nat → R7} {ok : Bool} (hn : min la lb = n) (h : agr la lb A B k ok) {want : Nat} (hw : want ≤ n) (h1 : ∀ j, j < want → eqb (A j) (B j) = true) (h2 : want < n → eqb (A want) (B want) = false) :
    k = want ∧ ok = (decide (want = n) && decide (la = lb)) := by
  obtain ⟨g1, g2, g3⟩ := h
  rw [hn] at g1 g3
  rcases Nat.lt_trichotomy k want with c | c | c
  · exfalso
    have e := h1 k c
    rcases g3 with ⟨_, g, _⟩ | ⟨g, _⟩
    · rw [e] at g; cases g
    · omega
  · subst c
    refine ⟨rfl, ?_⟩
    rcases g3 with ⟨g, _, rfl⟩ | ⟨g, rfl⟩
    · rw [decide_eq_false (show ¬ k = n by omega)]; rfl
    · rw [decide_eq_true g]; rfl
  · exfalso
    have e := g2 want c
    rw [h2 (by omega)] at e; cases e
theorem slfN {x y : R7} (e : x = y) : (!(x.1 == y.1 && (x.2.1 == y.2.1 && (x.2.2.1 == y.2.2.1 && (x.2.2.2.1 == y.2.2.2.1 && (x.2.2.2.2.1 == y.2.2.2.2.1 && (x.2.2.2.2.2.1 == y.2.2.2.2.2.1 && x.2.2.2.2.2.2 == y.2.2.2.2.2.2))))))) = false := by
  subst e; simp
def sS (n left k : Int) (ok : Bool) (u va vb : V) (want i : Nat) : Sl := [(47, i64 i), (46, i64 n), (45, .v u), (10, i64 want), (9, i64 n), (8, .v (.bool ok)), (7, i64 k), (6, i64 left), (5, .v u), (0, .v va), (1, .v vb)]
set_option maxRecDepth 100000 in
set_option maxHeartbeats 4000000 in
theorem sameLL {la lb N M : Nat} {A B : Nat → R7} (hA : la ≤ N) (hB : lb ≤ M) (hla : la ≤ 1000) (hlb : lb ≤ 1000) :
    ACB Try.prog 6 [.v (.sl 0 0 0 la 7), .v (.sl 1 0 0 lb 7)] [.ro (seg N A), .ro (seg M B)] (fun v _ => plainA v ∧ v = .v (.bool true)) := by
  have ha : rowIn [.ro (seg N A), .ro (seg M B)] (.sl 0 0 0 la 7) la A := .inr (.inr ⟨0, N, _, _, rfl, rfl, rfl, rfl, hA⟩)
  have hb : rowIn [.ro (seg N A), .ro (seg M B)] (.sl 1 0 0 lb 7) lb B := .inr (.inr ⟨1, M, _, _, rfl, rfl, rfl, rfl, hB⟩)
  refine ACB.of_body dok und Try.func6 rfl rfl (Nat.le_of_ble_eq_true rfl) rfl ?_
  conv => whnf
  refine (pairsB ha hb hla hlb).mono ?_
  rintro v H' ⟨u, b, rfl, rfl, o⟩
  have hmin : (if (lb : Int) < (la : Int) then (lb : Int) else la) = ((min la lb : Nat) : Int) := by split <;> omega
  conv => whnf
  refine (agreeB ha.app hb.app hla hlb).mono ?_
  rintro v H' ⟨⟨k, ok, rfl, hag⟩, rfl⟩
  generalize hn : min la lb = n at *
  rcases o with ⟨rfl, rfl, rfl⟩ | ⟨rfl, rfl⟩
  · conv => whnf
    rw [hmin]
    conv => whnf
    rw [leftN (n := 0) hla hlb (by omega)]
    conv => whnf
    refine aw_loopRB dok und 3 (fun _ : Nat => sS 0 ((la : Int) + lb - 2 * ((0 : Nat) : Int)) k ok .nilS (.sl 0 0 0 la 7) (.sl 1 0 0 lb 7) 0 0) (fun _ => [.ro (seg N A), .ro (seg M B), .dead]) (fun _ => True) (fun k => k) 0 ⟨rfl, rfl, rfl, rfl, rfl, rfl, rfl, rfl, rfl, rfl, rfl, trivial⟩ rfl trivial rfl ?_
    intro i _
    obtain ⟨rfl, rfl⟩ := judged hn hag (Nat.le_refl 0) (fun j h => absurd h (Nat.not_lt_zero _)) (fun h => absurd h (Nat.not_lt_zero _))
    conv => whnf
    rw [hleft (n := 0) hn]
    by_cases e : la = lb
    · rw [decide_eq_true e]; conv => whnf
      exact ⟨trivial, rfl⟩
    · rw [decide_eq_false e]; conv => whnf
      exact ⟨trivial, rfl⟩
  · conv => whnf
    rw [hmin, show ((n : Int) != (n : Int)) = false by simp]
    conv => whnf
    rw [leftN hla hlb (by omega)]
    conv => whnf
    refine aw_loopRB dok und 3 (fun x : Nat × Nat => sS n ((la : Int) + lb - 2 * (n : Int)) k ok (.sl 2 0 0 n 14) (.sl 0 0 0 la 7) (.sl 1 0 0 lb 7) x.1 x.2) (fun _ => [.ro (seg N A), .ro (seg M B), .rw [.recs 14 n (rc2 A B)]]) (fun x => x.1 ≤ x.2 ∧ x.2 ≤ n ∧ (∀ j, j < x.1 → eqb (A j) (B j) = true) ∧ (x.1 < x.2 → eqb (A x.1) (B x.1) = false)) (fun x => n - x.2) (0, 0) ⟨rfl, rfl, rfl, rfl, rfl, rfl, rfl, rfl, rfl, rfl, rfl, trivial⟩ rfl ⟨Nat.zero_le _, Nat.zero_le _, fun j h => absurd h (Nat.not_lt_zero _), fun h => absurd h (Nat.not_lt_zero _)⟩ rfl ?_
    rintro ⟨want, i⟩ ⟨hwi, hin, hall, hne⟩
    dsimp only at hwi hin hall hne
    by_cases ck : i < n
    case neg =>
      obtain rfl : i = n := by omega
      obtain ⟨rfl, rfl⟩ := judged hn hag hwi hall hne
      conv => whnf
      rw [decide_eq_false (show ¬ (i : Int) < i by omega)]; conv => whnf
      rw [show ((k : Int) == ((k, i) : Nat × Nat).fst) = true by simp]; conv => whnf
      by_cases ci : k = i
      · subst ci
        rw [show ((((k, k) : Nat × Nat).fst : Int) == k) = true by simp]; conv => whnf
        rw [hleft hn]
        by_cases e : la = lb
        · rw [decide_eq_true e, decide_eq_true (rfl : k = k)]; conv => whnf
          exact ⟨trivial, rfl⟩
        · rw [decide_eq_false e, decide_eq_true (rfl : k = k)]; conv => whnf
          exact ⟨trivial, rfl⟩
      · rw [show ((((k, i) : Nat × Nat).fst : Int) == i) = false by simp; omega, decide_eq_false ci]; conv => whnf
        exact ⟨trivial, rfl⟩
    conv => whnf
    rw [decide_eq_true (show (i : Int) < n by omega)]; conv => whnf
    refine DRB.std (by decide +kernel) (by decide +kernel) ⟨[], ?_⟩
    conv => whnf
    rw [blt_of (show i < n by omega)]; conv => whnf
    rw [Nat.zero_add i, blt_of (show i < n by omega)]; conv => whnf
    rw [blt_of (show i < la by omega)]; conv => whnf
    rw [blt_of (show 0 + ((want, i) : Nat × Nat).snd < N by show 0 + i < N; omega)]; conv => whnf
    rw [slfN (x := A i) (y := A (0 + ((want, i) : Nat × Nat).snd)) (by show A i = A (0 + i); rw [Nat.zero_add])]; conv => whnf
    rw [blt_of ck]; conv => whnf
    rw [Nat.zero_add i, blt_of ck]; conv => whnf
    rw [blt_of (show i < lb by omega)]; conv => whnf
    rw [blt_of (show 0 + ((want, i) : Nat × Nat).snd < M by show 0 + i < M; omega)]; conv => whnf
    rw [slfN (x := B i) (y := B (0 + ((want, i) : Nat × Nat).snd)) (by show B i = B (0 + i); rw [Nat.zero_add])]; conv => whnf
    refine DRB.std (by decide +kernel) (by decide +kernel) ⟨[], ?_⟩
    conv => whnf
    by_cases cw : want = i
    case neg =>
      rw [show ((((want, i) : Nat × Nat).fst : Int) == ((want, i) : Nat × Nat).snd) = false by simp; omega]; conv => whnf
      exact ⟨(want, i + 1), [0, 1, 2], ⟨by show want ≤ i + 1; omega, by show i + 1 ≤ n; omega, hall, fun _ => hne (by omega)⟩, by show n - (i + 1) < n - i; omega, okN_of (n0 := 3) (by decide), Nat.le_of_ble_eq_true rfl, ⟨⟨_, rfl, .inl rfl⟩, ⟨_, rfl, .inl rfl⟩, ⟨_, rfl, .inl rfl⟩, trivial⟩, ⟨gI i (by omega), rfl, rfl, rfl, rfl, rfl, rfl, rfl, rfl, rfl, rfl, trivial⟩⟩
    subst cw
    rw [show ((((want, want) : Nat × Nat).fst : Int) == ((want, want) : Nat × Nat).snd) = true by simp]; conv => whnf
    rw [blt_of (show want < la by omega)]; conv => whnf
    rw [blt_of (show 0 + ((want, want) : Nat × Nat).snd < N by show 0 + want < N; omega)]; conv => whnf
    rw [blt_of (show want < lb by omega)]; conv => whnf
    rw [blt_of (show 0 + ((want, want) : Nat × Nat).snd < M by show 0 + want < M; omega)]; conv => whnf
    refine cb_intro (fun e => ?_) (fun e => ?_)
    · conv => whnf
      exact ⟨(want + 1, want + 1), [0, 1, 2], ⟨Nat.le_refl _, by show want + 1 ≤ n; omega, fun j hj => by
        have hj : j < want + 1 := hj
        rcases Nat.lt_or_ge j want with h | h
        · exact hall j h
        · obtain rfl : j = want := by omega
          have e : eqb (A (0 + j)) (B (0 + j)) = true := e
          rw [Nat.zero_add] at e; exact e, fun h => absurd h (Nat.lt_irrefl _)⟩, by show n - (want + 1) < n - want; omega, okN_of (n0 := 3) (by decide), Nat.le_of_ble_eq_true rfl, ⟨⟨_, rfl, .inl rfl⟩, ⟨_, rfl, .inl rfl⟩, ⟨_, rfl, .inl rfl⟩, trivial⟩, ⟨gI want (by omega), rfl, rfl, gI want (by omega), rfl, rfl, rfl, rfl, rfl, rfl, rfl, trivial⟩⟩
    · conv => whnf
      exact ⟨(want, want + 1), [0, 1, 2], ⟨by show want ≤ want + 1; omega, by show want + 1 ≤ n; omega, hall, fun h => by
          have e : eqb (A (0 + want)) (B (0 + want)) = false := e
          rw [Nat.zero_add] at e; exact e⟩, by show n - (want + 1) < n - want; omega, okN_of (n0 := 3) (by decide), Nat.le_of_ble_eq_true rfl, ⟨⟨_, rfl, .inl rfl⟩, ⟨_, rfl, .inl rfl⟩, ⟨_, rfl, .inl rfl⟩, trivial⟩, ⟨gI want (by omega), rfl, rfl, rfl, rfl, rfl, rfl, rfl, rfl, rfl, rfl, trivial⟩⟩
end Go.Proofs.Ytpoknlbnookhjaa.Md
