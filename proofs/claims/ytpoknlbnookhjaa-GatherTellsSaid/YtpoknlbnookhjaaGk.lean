/- The law's helper same, where a row is nil; over any blocks; beside leavers. -/
import Derived.Test.YtpoknlbnookhjaaGj
set_option linter.unusedVariables false
set_option linter.unusedSimpArgs false
namespace Go.Proofs.Ytpoknlbnookhjaa.Md
open Go.RowKit Go.Proofs.Ytpoknlbnookhjaa.Ae Go.Proofs.Ytpoknlbnookhjaa
open Go.Lone
theorem left0 {la lb : Nat} {x z : Int} (h1 : la ≤ 1000) (h2 : lb ≤ 1000) (hx : x = (la : Int) + lb) (hz : z = 0) : ((la : Int) + lb - 2 * ((0 : Nat) : Int) != IntKind.i64.wrap (IntKind.i64.wrap x - IntKind.i64.wrap (2 * z))) = false := by
  subst hx hz
  exact leftN (n := 0) h1 h2 (by omega)
set_option maxRecDepth 100000 in
set_option maxHeartbeats 4000000 in
theorem sameNL {k0 k1 : Blk} {la lb : Nat} {A B : Nat → R7} (ha : rowIn [k0, k1] .nilS la A) (hb : rowIn [k0, k1] (.sl 1 0 0 lb 7) lb B) (hz : la = 0) (hla : la ≤ 1000) (hlb : lb ≤ 1000) (h0 : rdK k0) (h1 : rdK k1) :
    ACB Try.prog 6 [.v .nilS, .v (.sl 1 0 0 lb 7)] [k0, k1] (fun v _ => plainA v ∧ v = .v (.bool true)) := by
  refine ACB.of_body dok und Try.func6 rfl rfl (Nat.le_of_ble_eq_true rfl) rfl ?_
  conv => whnf
  refine (pairsB ha hb hla hlb).mono ?_
  rintro v H' ⟨u, b, rfl, rfl, o⟩
  conv => whnf
  refine (agreeB ha.app hb.app hla hlb).mono ?_
  rintro v H' ⟨⟨k, ok, rfl, hag⟩, rfl⟩
  have hn : min la lb = 0 := by omega
  have hmin : (if (lb : Int) < (la : Int) then (lb : Int) else la) = 0 := by split <;> omega
  rw [hn] at o ⊢
  rcases o with ⟨rfl, _, rfl⟩ | ⟨rfl, rfl⟩
  · conv => whnf
    refine cb_false (left0 hla hlb (by omega) (by split <;> omega)) ?_
    conv => whnf
    refine aw_loopRB dok und 3 (fun _ : Nat => sS 0 ((la : Int) + lb - 2 * ((0 : Nat) : Int)) k ok .nilS .nilS (.sl 1 0 0 lb 7) 0 0) (fun _ => [k0, k1, .dead]) (fun _ => True) (fun k => k) 0 ⟨rfl, rfl, rfl, rfl, by first | exact rfl | exact congrArg (fun z => some (i64 z)) (by split <;> omega), rfl, rfl, rfl, rfl, rfl, rfl, trivial⟩ rfl trivial rfl ?_
    intro i _
    obtain ⟨rfl, rfl⟩ := judged hn hag (Nat.le_refl 0) (fun j h => absurd h (Nat.not_lt_zero _)) (fun h => absurd h (Nat.not_lt_zero _))
    conv => whnf
    rw [hleft (n := 0) hn]
    by_cases e : la = lb
    · rw [decide_eq_true e]; conv => whnf
      exact ⟨trivial, rfl⟩
    · rw [decide_eq_false e]; conv => whnf
      exact ⟨trivial, rfl⟩
  · conv => whnf
    refine cb_false (left0 hla hlb (by omega) (by split <;> omega)) ?_
    conv => whnf
    refine aw_loopRB dok und 3 (fun _ : Nat => sS 0 ((la : Int) + lb - 2 * ((0 : Nat) : Int)) k ok (.sl 2 0 0 0 14) .nilS (.sl 1 0 0 lb 7) 0 0) (fun _ => [k0, k1, .rw [.recs 14 0 (rc2 A B)]]) (fun _ => True) (fun k => k) 0 ⟨rfl, rfl, rfl, rfl, by first | exact rfl | exact congrArg (fun z => some (i64 z)) (by split <;> omega), rfl, rfl, rfl, rfl, rfl, rfl, trivial⟩ rfl trivial rfl ?_
    intro i _
    obtain ⟨rfl, rfl⟩ := judged hn hag (Nat.le_refl 0) (fun j h => absurd h (Nat.not_lt_zero _)) (fun h => absurd h (Nat.not_lt_zero _))
    conv => whnf
    rw [hleft (n := 0) hn]
    by_cases e : la = lb
    · rw [decide_eq_true e]; conv => whnf
      exact ⟨trivial, rfl⟩
    · rw [decide_eq_false e]; conv => whnf
      exact ⟨trivial, rfl⟩
set_option maxRecDepth 100000 in
set_option maxHeartbeats 4000000 in
theorem sameLN {k0 k1 : Blk} {la lb : Nat} {A B : Nat → R7} (ha : rowIn [k0, k1] (.sl 0 0 0 la 7) la A) (hb : rowIn [k0, k1] .nilS lb B) (hz : lb = 0) (hla : la ≤ 1000) (hlb : lb ≤ 1000) (h0 : rdK k0) (h1 : rdK k1) :
    ACB Try.prog 6 [.v (.sl 0 0 0 la 7), .v .nilS] [k0, k1] (fun v _ => plainA v ∧ v = .v (.bool true)) := by
  refine ACB.of_body dok und Try.func6 rfl rfl (Nat.le_of_ble_eq_true rfl) rfl ?_
  conv => whnf
  refine (pairsB ha hb hla hlb).mono ?_
  rintro v H' ⟨u, b, rfl, rfl, o⟩
  conv => whnf
  refine (agreeB ha.app hb.app hla hlb).mono ?_
  rintro v H' ⟨⟨k, ok, rfl, hag⟩, rfl⟩
  have hn : min la lb = 0 := by omega
  have hmin : (if (lb : Int) < (la : Int) then (lb : Int) else la) = 0 := by split <;> omega
  rw [hn] at o ⊢
  rcases o with ⟨rfl, _, rfl⟩ | ⟨rfl, rfl⟩
  · conv => whnf
    rw [show (if (0 : Int) < (la : Int) then (0 : Int) else (la : Int)) = 0 by split <;> omega]
    conv => whnf
    refine cb_false (left0 hla hlb (by omega) (by first | rfl | omega | (split <;> omega))) ?_
    conv => whnf
    refine aw_loopRB dok und 3 (fun _ : Nat => sS 0 ((la : Int) + lb - 2 * ((0 : Nat) : Int)) k ok .nilS (.sl 0 0 0 la 7) .nilS 0 0) (fun _ => [k0, k1, .dead]) (fun _ => True) (fun k => k) 0 ⟨rfl, rfl, rfl, rfl, by first | exact rfl | exact congrArg (fun z => some (i64 z)) (by split <;> omega), rfl, rfl, rfl, rfl, rfl, rfl, trivial⟩ rfl trivial rfl ?_
    intro i _
    obtain ⟨rfl, rfl⟩ := judged hn hag (Nat.le_refl 0) (fun j h => absurd h (Nat.not_lt_zero _)) (fun h => absurd h (Nat.not_lt_zero _))
    conv => whnf
    rw [hleft (n := 0) hn]
    by_cases e : la = lb
    · rw [decide_eq_true e]; conv => whnf
      exact ⟨trivial, rfl⟩
    · rw [decide_eq_false e]; conv => whnf
      exact ⟨trivial, rfl⟩
  · conv => whnf
    rw [show (if (0 : Int) < (la : Int) then (0 : Int) else (la : Int)) = 0 by split <;> omega]
    conv => whnf
    refine cb_false (left0 hla hlb (by omega) (by first | rfl | omega | (split <;> omega))) ?_
    conv => whnf
    refine aw_loopRB dok und 3 (fun _ : Nat => sS 0 ((la : Int) + lb - 2 * ((0 : Nat) : Int)) k ok (.sl 2 0 0 0 14) (.sl 0 0 0 la 7) .nilS 0 0) (fun _ => [k0, k1, .rw [.recs 14 0 (rc2 A B)]]) (fun _ => True) (fun k => k) 0 ⟨rfl, rfl, rfl, rfl, by first | exact rfl | exact congrArg (fun z => some (i64 z)) (by split <;> omega), rfl, rfl, rfl, rfl, rfl, rfl, trivial⟩ rfl trivial rfl ?_
    intro i _
    obtain ⟨rfl, rfl⟩ := judged hn hag (Nat.le_refl 0) (fun j h => absurd h (Nat.not_lt_zero _)) (fun h => absurd h (Nat.not_lt_zero _))
    conv => whnf
    rw [hleft (n := 0) hn]
    by_cases e : la = lb
    · rw [decide_eq_true e]; conv => whnf
      exact ⟨trivial, rfl⟩
    · rw [decide_eq_false e]; conv => whnf
      exact ⟨trivial, rfl⟩
set_option maxRecDepth 100000 in
set_option maxHeartbeats 4000000 in
theorem sameNN {k0 k1 : Blk} {la lb : Nat} {A B : Nat → R7} (ha : rowIn [k0, k1] .nilS la A) (hb : rowIn [k0, k1] .nilS lb B) (hz : la = 0 ∧ lb = 0) (hla : la ≤ 1000) (hlb : lb ≤ 1000) (h0 : rdK k0) (h1 : rdK k1) :
    ACB Try.prog 6 [.v .nilS, .v .nilS] [k0, k1] (fun v _ => plainA v ∧ v = .v (.bool true)) := by
  refine ACB.of_body dok und Try.func6 rfl rfl (Nat.le_of_ble_eq_true rfl) rfl ?_
  conv => whnf
  refine (pairsB ha hb hla hlb).mono ?_
  rintro v H' ⟨u, b, rfl, rfl, o⟩
  conv => whnf
  refine (agreeB ha.app hb.app hla hlb).mono ?_
  rintro v H' ⟨⟨k, ok, rfl, hag⟩, rfl⟩
  have hn : min la lb = 0 := by omega
  have hmin : (if (lb : Int) < (la : Int) then (lb : Int) else la) = 0 := by split <;> omega
  rw [hn] at o ⊢
  rcases o with ⟨rfl, _, rfl⟩ | ⟨rfl, rfl⟩
  · conv => whnf
    refine cb_false (left0 hla hlb (by omega) (by split <;> omega)) ?_
    conv => whnf
    refine aw_loopRB dok und 3 (fun _ : Nat => sS 0 ((la : Int) + lb - 2 * ((0 : Nat) : Int)) k ok .nilS .nilS .nilS 0 0) (fun _ => [k0, k1, .dead]) (fun _ => True) (fun k => k) 0 ⟨rfl, rfl, rfl, rfl, by first | exact rfl | exact congrArg (fun z => some (i64 z)) (by split <;> omega), rfl, rfl, rfl, rfl, rfl, rfl, trivial⟩ rfl trivial rfl ?_
    intro i _
    obtain ⟨rfl, rfl⟩ := judged hn hag (Nat.le_refl 0) (fun j h => absurd h (Nat.not_lt_zero _)) (fun h => absurd h (Nat.not_lt_zero _))
    conv => whnf
    rw [hleft (n := 0) hn]
    by_cases e : la = lb
    · rw [decide_eq_true e]; conv => whnf
      exact ⟨trivial, rfl⟩
    · rw [decide_eq_false e]; conv => whnf
      exact ⟨trivial, rfl⟩
  · conv => whnf
    refine cb_false (left0 hla hlb (by omega) (by split <;> omega)) ?_
    conv => whnf
    refine aw_loopRB dok und 3 (fun _ : Nat => sS 0 ((la : Int) + lb - 2 * ((0 : Nat) : Int)) k ok (.sl 2 0 0 0 14) .nilS .nilS 0 0) (fun _ => [k0, k1, .rw [.recs 14 0 (rc2 A B)]]) (fun _ => True) (fun k => k) 0 ⟨rfl, rfl, rfl, rfl, by first | exact rfl | exact congrArg (fun z => some (i64 z)) (by split <;> omega), rfl, rfl, rfl, rfl, rfl, rfl, trivial⟩ rfl trivial rfl ?_
    intro i _
    obtain ⟨rfl, rfl⟩ := judged hn hag (Nat.le_refl 0) (fun j h => absurd h (Nat.not_lt_zero _)) (fun h => absurd h (Nat.not_lt_zero _))
    conv => whnf
    rw [hleft (n := 0) hn]
    by_cases e : la = lb
    · rw [decide_eq_true e]; conv => whnf
      exact ⟨trivial, rfl⟩
    · rw [decide_eq_false e]; conv => whnf
      exact ⟨trivial, rfl⟩
set_option maxRecDepth 100000 in
set_option maxHeartbeats 4000000 in
theorem sameZZ {k0 k1 : Blk} {la lb : Nat} {A B : Nat → R7} (ha : rowIn [k0, k1] (.sl 0 0 0 la 7) la A) (hb : rowIn [k0, k1] (.sl 1 0 0 lb 7) lb B) (hz : la = 0 ∨ lb = 0) (hla : la ≤ 1000) (hlb : lb ≤ 1000) (h0 : rdK k0) (h1 : rdK k1) :
    ACB Try.prog 6 [.v (.sl 0 0 0 la 7), .v (.sl 1 0 0 lb 7)] [k0, k1] (fun v _ => plainA v ∧ v = .v (.bool true)) := by
  refine ACB.of_body dok und Try.func6 rfl rfl (Nat.le_of_ble_eq_true rfl) rfl ?_
  conv => whnf
  refine (pairsB ha hb hla hlb).mono ?_
  rintro v H' ⟨u, b, rfl, rfl, o⟩
  conv => whnf
  refine (agreeB ha.app hb.app hla hlb).mono ?_
  rintro v H' ⟨⟨k, ok, rfl, hag⟩, rfl⟩
  have hn : min la lb = 0 := by omega
  have hmin : (if (lb : Int) < (la : Int) then (lb : Int) else la) = 0 := by split <;> omega
  rw [hn] at o ⊢
  rcases o with ⟨rfl, _, rfl⟩ | ⟨rfl, rfl⟩
  · conv => whnf
    rw [show (if (lb : Int) < (la : Int) then (lb : Int) else (la : Int)) = ((0 : Nat) : Int) by split <;> omega]
    conv => whnf
    refine cb_false (left0 hla hlb (by omega) (by first | rfl | omega | (split <;> omega))) ?_
    conv => whnf
    refine aw_loopRB dok und 3 (fun _ : Nat => sS 0 ((la : Int) + lb - 2 * ((0 : Nat) : Int)) k ok .nilS (.sl 0 0 0 la 7) (.sl 1 0 0 lb 7) 0 0) (fun _ => [k0, k1, .dead]) (fun _ => True) (fun k => k) 0 ⟨rfl, rfl, rfl, rfl, by first | exact rfl | exact congrArg (fun z => some (i64 z)) (by split <;> omega), rfl, rfl, rfl, rfl, rfl, rfl, trivial⟩ rfl trivial rfl ?_
    intro i _
    obtain ⟨rfl, rfl⟩ := judged hn hag (Nat.le_refl 0) (fun j h => absurd h (Nat.not_lt_zero _)) (fun h => absurd h (Nat.not_lt_zero _))
    conv => whnf
    rw [hleft (n := 0) hn]
    by_cases e : la = lb
    · rw [decide_eq_true e]; conv => whnf
      exact ⟨trivial, rfl⟩
    · rw [decide_eq_false e]; conv => whnf
      exact ⟨trivial, rfl⟩
  · conv => whnf
    rw [show (if (lb : Int) < (la : Int) then (lb : Int) else (la : Int)) = ((0 : Nat) : Int) by split <;> omega]
    conv => whnf
    refine cb_false (left0 hla hlb (by omega) (by first | rfl | omega | (split <;> omega))) ?_
    conv => whnf
    refine aw_loopRB dok und 3 (fun _ : Nat => sS 0 ((la : Int) + lb - 2 * ((0 : Nat) : Int)) k ok (.sl 2 0 0 0 14) (.sl 0 0 0 la 7) (.sl 1 0 0 lb 7) 0 0) (fun _ => [k0, k1, .rw [.recs 14 0 (rc2 A B)]]) (fun _ => True) (fun k => k) 0 ⟨rfl, rfl, rfl, rfl, by first | exact rfl | exact congrArg (fun z => some (i64 z)) (by split <;> omega), rfl, rfl, rfl, rfl, rfl, rfl, trivial⟩ rfl trivial rfl ?_
    intro i _
    obtain ⟨rfl, rfl⟩ := judged hn hag (Nat.le_refl 0) (fun j h => absurd h (Nat.not_lt_zero _)) (fun h => absurd h (Nat.not_lt_zero _))
    conv => whnf
    rw [hleft (n := 0) hn]
    by_cases e : la = lb
    · rw [decide_eq_true e]; conv => whnf
      exact ⟨trivial, rfl⟩
    · rw [decide_eq_false e]; conv => whnf
      exact ⟨trivial, rfl⟩
theorem samePK {k0 k1 : Blk} {va vb : V} {la lb : Nat} {A B : Nat → R7} (ha : form 0 k0 va la A) (hb : form 1 k1 vb lb B) (hla : la ≤ 1000) (hlb : lb ≤ 1000) :
    ACB Try.prog 6 [.v va, .v vb] [k0, k1] (fun v _ => plainA v ∧ v = .v (.bool true)) := by
  have ra : rowIn [k0, k1] va la A := ha.row rfl
  have rb : rowIn [k0, k1] vb lb B := hb.row rfl
  have da := ha.rd
  have db := hb.rd
  rcases ha with ⟨rfl, rfl, rfl⟩ | ⟨rfl, rfl, rfl⟩ | ⟨N, rfl, hN, rfl⟩ <;> rcases hb with ⟨rfl, rfl, rfl⟩ | ⟨rfl, rfl, rfl⟩ | ⟨M, rfl, hM, rfl⟩
  · exact sameNN ra rb ⟨rfl, rfl⟩ hla hlb da db
  · exact sameNL ra rb rfl hla hlb da db
  · exact sameNL ra rb rfl hla hlb da db
  · exact sameLN ra rb rfl hla hlb da db
  · exact sameZZ ra rb (.inl rfl) hla hlb da db
  · exact sameZZ ra rb (.inl rfl) hla hlb da db
  · exact sameLN ra rb rfl hla hlb da db
  · exact sameZZ ra rb (.inr rfl) hla hlb da db
  · exact sameLL hN hM hla hlb
theorem sameA {H : Hp} {va vb : V} {la lb : Nat} {A B : Nat → R7} (ha : rowIn H va la A) (hb : rowIn H vb lb B) (hla : la ≤ 1000) (hlb : lb ≤ 1000) :
    ACB Try.prog 6 [.v va, .v vb] H (fun v H' => v = .v (.bool true) ∧ H' = H) := by
  obtain ⟨k0, k1, ns, va', vb', ha', hb', hs, he⟩ := canon ha hb
  exact ACB.view0 (samePK ha' hb' hla hlb) hs he
end Go.Proofs.Ytpoknlbnookhjaa.Md
