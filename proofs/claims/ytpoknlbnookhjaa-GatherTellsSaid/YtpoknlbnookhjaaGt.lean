/- GatherTells, beside leavers. -/
import Derived.Test.YtpoknlbnookhjaaGq
import Derived.Test.YtpoknlbnookhjaaGm
set_option linter.unusedVariables false
set_option linter.unusedSimpArgs false
namespace Go.Proofs.Ytpoknlbnookhjaa.Md
open Go.RowKit Go.Proofs.Ytpoknlbnookhjaa.Ae Go.Proofs.Ytpoknlbnookhjaa
open Go.Lone
set_option maxRecDepth 100000 in
set_option maxHeartbeats 4000000 in
theorem tellsNN {la lb N M : Nat} {A B : Nat → R7} {n : Int} (hA : la ≤ N) (hB : lb ≤ M) :
    ACB Try.prog 4 [.v .nilS, .v .nilS, i64 n] [.dead, .dead] (fun v _ => plainA v ∧ v = .v (.bool true)) := by
  refine ACB.of_body dok und Try.func4 rfl rfl (Nat.le_of_ble_eq_true rfl) rfl ?_
  conv => whnf
  refine region8 (k := 0) (la := 0) (lb := 0) (A := A) (B := B) (.inl ⟨rfl, rfl⟩) (.inl ⟨rfl, rfl⟩) (by omega) (by omega) (by omega) ⟨rfl, rfl, rfl, trivial⟩ fun s' H' h6 => ?_
  conv => whnf
  rw [h6]
  exact ⟨trivial, rfl⟩
set_option maxRecDepth 100000 in
set_option maxHeartbeats 4000000 in
theorem tellsNZ {la lb N M : Nat} {A B : Nat → R7} {n : Int} (hA : la ≤ N) (hB : lb ≤ M) :
    ACB Try.prog 4 [.v .nilS, .v (.sl 1 0 0 0 7), i64 n] [.dead, .dead] (fun v _ => plainA v ∧ v = .v (.bool true)) := by
  refine ACB.of_body dok und Try.func4 rfl rfl (Nat.le_of_ble_eq_true rfl) rfl ?_
  conv => whnf
  refine region8 (k := 0) (la := 0) (lb := 0) (A := A) (B := B) (.inl ⟨rfl, rfl⟩) (.inr (.inl ⟨1, rfl, rfl⟩)) (by omega) (by omega) (by omega) ⟨rfl, rfl, rfl, trivial⟩ fun s' H' h6 => ?_
  conv => whnf
  rw [h6]
  exact ⟨trivial, rfl⟩
set_option maxRecDepth 100000 in
set_option maxHeartbeats 4000000 in
theorem tellsNL {la lb N M : Nat} {A B : Nat → R7} {n : Int} (hA : la ≤ N) (hB : lb ≤ M) :
    ACB Try.prog 4 [.v .nilS, .v (.sl 1 0 0 lb 7), i64 n] [.dead, .ro (seg M B)] (fun v _ => plainA v ∧ v = .v (.bool true)) := by
  refine ACB.of_body dok und Try.func4 rfl rfl (Nat.le_of_ble_eq_true rfl) rfl ?_
  conv => whnf
  refine cb_intro (fun e => ?_) (fun e => ?_)
  · have e : (lb : Int) > 40 := by simpa using e
    conv => whnf
    refine ⟨by decide, trivial, by decide, by omega, ?_⟩
    conv => whnf
    refine region8 (k := 0) (la := 0) (lb := 40) (A := A) (B := B) (.inl ⟨rfl, rfl⟩) (.inr (.inr ⟨1, M, _, _, rfl, rfl, rfl, rfl, by omega⟩)) (by omega) (by omega) (by omega) ⟨rfl, rfl, rfl, trivial⟩ fun s' H' h6 => ?_
    conv => whnf
    rw [h6]
    exact ⟨trivial, rfl⟩
  · have e : ¬ (lb : Int) > 40 := by simpa using e
    conv => whnf
    refine region8 (k := 0) (la := 0) (lb := lb) (A := A) (B := B) (.inl ⟨rfl, rfl⟩) (.inr (.inr ⟨1, M, _, _, rfl, rfl, rfl, rfl, by omega⟩)) (by omega) (by omega) (by omega) ⟨rfl, rfl, rfl, trivial⟩ fun s' H' h6 => ?_
    conv => whnf
    rw [h6]
    exact ⟨trivial, rfl⟩
set_option maxRecDepth 100000 in
set_option maxHeartbeats 4000000 in
theorem tellsZN {la lb N M : Nat} {A B : Nat → R7} {n : Int} (hA : la ≤ N) (hB : lb ≤ M) :
    ACB Try.prog 4 [.v (.sl 0 0 0 0 7), .v .nilS, i64 n] [.dead, .dead] (fun v _ => plainA v ∧ v = .v (.bool true)) := by
  refine ACB.of_body dok und Try.func4 rfl rfl (Nat.le_of_ble_eq_true rfl) rfl ?_
  conv => whnf
  refine region8 (k := 0) (la := 0) (lb := 0) (A := A) (B := B) (.inr (.inl ⟨0, rfl, rfl⟩)) (.inl ⟨rfl, rfl⟩) (by omega) (by omega) (by omega) ⟨rfl, rfl, rfl, trivial⟩ fun s' H' h6 => ?_
  conv => whnf
  rw [h6]
  exact ⟨trivial, rfl⟩
set_option maxRecDepth 100000 in
set_option maxHeartbeats 4000000 in
theorem tellsZZ {la lb N M : Nat} {A B : Nat → R7} {n : Int} (hA : la ≤ N) (hB : lb ≤ M) :
    ACB Try.prog 4 [.v (.sl 0 0 0 0 7), .v (.sl 1 0 0 0 7), i64 n] [.dead, .dead] (fun v _ => plainA v ∧ v = .v (.bool true)) := by
  refine ACB.of_body dok und Try.func4 rfl rfl (Nat.le_of_ble_eq_true rfl) rfl ?_
  conv => whnf
  refine region8 (k := 0) (la := 0) (lb := 0) (A := A) (B := B) (.inr (.inl ⟨0, rfl, rfl⟩)) (.inr (.inl ⟨1, rfl, rfl⟩)) (by omega) (by omega) (by omega) ⟨rfl, rfl, rfl, trivial⟩ fun s' H' h6 => ?_
  conv => whnf
  rw [h6]
  exact ⟨trivial, rfl⟩
set_option maxRecDepth 100000 in
set_option maxHeartbeats 4000000 in
theorem tellsZL {la lb N M : Nat} {A B : Nat → R7} {n : Int} (hA : la ≤ N) (hB : lb ≤ M) :
    ACB Try.prog 4 [.v (.sl 0 0 0 0 7), .v (.sl 1 0 0 lb 7), i64 n] [.dead, .ro (seg M B)] (fun v _ => plainA v ∧ v = .v (.bool true)) := by
  refine ACB.of_body dok und Try.func4 rfl rfl (Nat.le_of_ble_eq_true rfl) rfl ?_
  conv => whnf
  refine cb_intro (fun e => ?_) (fun e => ?_)
  · have e : (lb : Int) > 40 := by simpa using e
    conv => whnf
    refine ⟨by decide, trivial, by decide, by omega, ?_⟩
    conv => whnf
    refine region8 (k := 0) (la := 0) (lb := 40) (A := A) (B := B) (.inr (.inl ⟨0, rfl, rfl⟩)) (.inr (.inr ⟨1, M, _, _, rfl, rfl, rfl, rfl, by omega⟩)) (by omega) (by omega) (by omega) ⟨rfl, rfl, rfl, trivial⟩ fun s' H' h6 => ?_
    conv => whnf
    rw [h6]
    exact ⟨trivial, rfl⟩
  · have e : ¬ (lb : Int) > 40 := by simpa using e
    conv => whnf
    refine region8 (k := 0) (la := 0) (lb := lb) (A := A) (B := B) (.inr (.inl ⟨0, rfl, rfl⟩)) (.inr (.inr ⟨1, M, _, _, rfl, rfl, rfl, rfl, by omega⟩)) (by omega) (by omega) (by omega) ⟨rfl, rfl, rfl, trivial⟩ fun s' H' h6 => ?_
    conv => whnf
    rw [h6]
    exact ⟨trivial, rfl⟩
set_option maxRecDepth 100000 in
set_option maxHeartbeats 4000000 in
theorem tellsLN {la lb N M : Nat} {A B : Nat → R7} {n : Int} (hA : la ≤ N) (hB : lb ≤ M) :
    ACB Try.prog 4 [.v (.sl 0 0 0 la 7), .v .nilS, i64 n] [.ro (seg N A), .dead] (fun v _ => plainA v ∧ v = .v (.bool true)) := by
  refine ACB.of_body dok und Try.func4 rfl rfl (Nat.le_of_ble_eq_true rfl) rfl ?_
  conv => whnf
  refine cb_intro (fun e => ?_) (fun e => ?_)
  · have e : (la : Int) > 40 := by simpa using e
    conv => whnf
    refine ⟨by decide, trivial, by decide, by omega, ?_⟩
    conv => whnf
    obtain ⟨k, hk, hkl⟩ := kN n (L := Int.toNat 40 - 0) (by omega) (by omega)
    rw [hk]
    refine region8 (k := k) (la := 40) (lb := 0) (A := A) (B := B) (.inr (.inr ⟨0, N, _, _, rfl, rfl, rfl, rfl, by omega⟩)) (.inl ⟨rfl, rfl⟩) (by omega) (by omega) (by omega) ⟨rfl, rfl, rfl, trivial⟩ fun s' H' h6 => ?_
    conv => whnf
    rw [h6]
    exact ⟨trivial, rfl⟩
  · have e : ¬ (la : Int) > 40 := by simpa using e
    by_cases z0 : la = 0
    · have z0 := z0
      conv => whnf
      rw [decide_eq_false (show ¬ (la : Int) > 0 by omega)]; conv => whnf
      refine region8 (k := 0) (la := la) (lb := 0) (A := A) (B := B) (.inr (.inr ⟨0, N, _, _, rfl, rfl, rfl, rfl, by omega⟩)) (.inl ⟨rfl, rfl⟩) (by omega) (by omega) (by omega) ⟨rfl, rfl, rfl, trivial⟩ fun s' H' h6 => ?_
      conv => whnf
      rw [h6]
      exact ⟨trivial, rfl⟩
    · have z0 := z0
      conv => whnf
      rw [decide_eq_true (show (la : Int) > 0 by omega)]; conv => whnf
      rw [show ((la : Int) == 0) = false by rw [beq_eq_false_iff_ne]; omega]; conv => whnf
      rw [show ((la : Int) == 0) = false by rw [beq_eq_false_iff_ne]; omega]; conv => whnf
      obtain ⟨k, hk, hkl⟩ := kN n (L := la) (by omega) (by omega)
      rw [hk]
      refine region8 (k := k) (la := la) (lb := 0) (A := A) (B := B) (.inr (.inr ⟨0, N, _, _, rfl, rfl, rfl, rfl, by omega⟩)) (.inl ⟨rfl, rfl⟩) (by omega) (by omega) (by omega) ⟨rfl, rfl, rfl, trivial⟩ fun s' H' h6 => ?_
      conv => whnf
      rw [h6]
      exact ⟨trivial, rfl⟩
set_option maxRecDepth 100000 in
set_option maxHeartbeats 4000000 in
theorem tellsLZ {la lb N M : Nat} {A B : Nat → R7} {n : Int} (hA : la ≤ N) (hB : lb ≤ M) :
    ACB Try.prog 4 [.v (.sl 0 0 0 la 7), .v (.sl 1 0 0 0 7), i64 n] [.ro (seg N A), .dead] (fun v _ => plainA v ∧ v = .v (.bool true)) := by
  refine ACB.of_body dok und Try.func4 rfl rfl (Nat.le_of_ble_eq_true rfl) rfl ?_
  conv => whnf
  refine cb_intro (fun e => ?_) (fun e => ?_)
  · have e : (la : Int) > 40 := by simpa using e
    conv => whnf
    refine ⟨by decide, trivial, by decide, by omega, ?_⟩
    conv => whnf
    obtain ⟨k, hk, hkl⟩ := kN n (L := Int.toNat 40 - 0) (by omega) (by omega)
    rw [hk]
    refine region8 (k := k) (la := 40) (lb := 0) (A := A) (B := B) (.inr (.inr ⟨0, N, _, _, rfl, rfl, rfl, rfl, by omega⟩)) (.inr (.inl ⟨1, rfl, rfl⟩)) (by omega) (by omega) (by omega) ⟨rfl, rfl, rfl, trivial⟩ fun s' H' h6 => ?_
    conv => whnf
    rw [h6]
    exact ⟨trivial, rfl⟩
  · have e : ¬ (la : Int) > 40 := by simpa using e
    by_cases z0 : la = 0
    · have z0 := z0
      conv => whnf
      rw [decide_eq_false (show ¬ (la : Int) > 0 by omega)]; conv => whnf
      refine region8 (k := 0) (la := la) (lb := 0) (A := A) (B := B) (.inr (.inr ⟨0, N, _, _, rfl, rfl, rfl, rfl, by omega⟩)) (.inr (.inl ⟨1, rfl, rfl⟩)) (by omega) (by omega) (by omega) ⟨rfl, rfl, rfl, trivial⟩ fun s' H' h6 => ?_
      conv => whnf
      rw [h6]
      exact ⟨trivial, rfl⟩
    · have z0 := z0
      conv => whnf
      rw [decide_eq_true (show (la : Int) > 0 by omega)]; conv => whnf
      rw [show ((la : Int) == 0) = false by rw [beq_eq_false_iff_ne]; omega]; conv => whnf
      rw [show ((la : Int) == 0) = false by rw [beq_eq_false_iff_ne]; omega]; conv => whnf
      obtain ⟨k, hk, hkl⟩ := kN n (L := la) (by omega) (by omega)
      rw [hk]
      refine region8 (k := k) (la := la) (lb := 0) (A := A) (B := B) (.inr (.inr ⟨0, N, _, _, rfl, rfl, rfl, rfl, by omega⟩)) (.inr (.inl ⟨1, rfl, rfl⟩)) (by omega) (by omega) (by omega) ⟨rfl, rfl, rfl, trivial⟩ fun s' H' h6 => ?_
      conv => whnf
      rw [h6]
      exact ⟨trivial, rfl⟩
set_option maxRecDepth 100000 in
set_option maxHeartbeats 4000000 in
theorem tellsLL {la lb N M : Nat} {A B : Nat → R7} {n : Int} (hA : la ≤ N) (hB : lb ≤ M) :
    ACB Try.prog 4 [.v (.sl 0 0 0 la 7), .v (.sl 1 0 0 lb 7), i64 n] [.ro (seg N A), .ro (seg M B)] (fun v _ => plainA v ∧ v = .v (.bool true)) := by
  refine ACB.of_body dok und Try.func4 rfl rfl (Nat.le_of_ble_eq_true rfl) rfl ?_
  conv => whnf
  refine cb_intro (fun e => ?_) (fun e => ?_)
  · have e : (la : Int) > 40 := by simpa using e
    conv => whnf
    refine ⟨by decide, trivial, by decide, by omega, ?_⟩
    conv => whnf
    refine cb_intro (fun e => ?_) (fun e => ?_)
    · have e : (lb : Int) > 40 := by simpa using e
      conv => whnf
      refine ⟨by decide, trivial, by decide, by omega, ?_⟩
      conv => whnf
      obtain ⟨k, hk, hkl⟩ := kN n (L := Int.toNat 40 - 0) (by omega) (by omega)
      rw [hk]
      refine region8 (k := k) (la := 40) (lb := 40) (A := A) (B := B) (.inr (.inr ⟨0, N, _, _, rfl, rfl, rfl, rfl, by omega⟩)) (.inr (.inr ⟨1, M, _, _, rfl, rfl, rfl, rfl, by omega⟩)) (by omega) (by omega) (by omega) ⟨rfl, rfl, rfl, trivial⟩ fun s' H' h6 => ?_
      conv => whnf
      rw [h6]
      exact ⟨trivial, rfl⟩
    · have e : ¬ (lb : Int) > 40 := by simpa using e
      conv => whnf
      obtain ⟨k, hk, hkl⟩ := kN n (L := Int.toNat 40 - 0) (by omega) (by omega)
      rw [hk]
      refine region8 (k := k) (la := 40) (lb := lb) (A := A) (B := B) (.inr (.inr ⟨0, N, _, _, rfl, rfl, rfl, rfl, by omega⟩)) (.inr (.inr ⟨1, M, _, _, rfl, rfl, rfl, rfl, by omega⟩)) (by omega) (by omega) (by omega) ⟨rfl, rfl, rfl, trivial⟩ fun s' H' h6 => ?_
      conv => whnf
      rw [h6]
      exact ⟨trivial, rfl⟩
  · have e : ¬ (la : Int) > 40 := by simpa using e
    by_cases z0 : la = 0
    · have z0 := z0
      conv => whnf
      refine cb_intro (fun e => ?_) (fun e => ?_)
      · have e : (lb : Int) > 40 := by simpa using e
        conv => whnf
        refine ⟨by decide, trivial, by decide, by omega, ?_⟩
        conv => whnf
        rw [decide_eq_false (show ¬ (la : Int) > 0 by omega)]; conv => whnf
        refine region8 (k := 0) (la := la) (lb := 40) (A := A) (B := B) (.inr (.inr ⟨0, N, _, _, rfl, rfl, rfl, rfl, by omega⟩)) (.inr (.inr ⟨1, M, _, _, rfl, rfl, rfl, rfl, by omega⟩)) (by omega) (by omega) (by omega) ⟨rfl, rfl, rfl, trivial⟩ fun s' H' h6 => ?_
        conv => whnf
        rw [h6]
        exact ⟨trivial, rfl⟩
      · have e : ¬ (lb : Int) > 40 := by simpa using e
        conv => whnf
        rw [decide_eq_false (show ¬ (la : Int) > 0 by omega)]; conv => whnf
        refine region8 (k := 0) (la := la) (lb := lb) (A := A) (B := B) (.inr (.inr ⟨0, N, _, _, rfl, rfl, rfl, rfl, by omega⟩)) (.inr (.inr ⟨1, M, _, _, rfl, rfl, rfl, rfl, by omega⟩)) (by omega) (by omega) (by omega) ⟨rfl, rfl, rfl, trivial⟩ fun s' H' h6 => ?_
        conv => whnf
        rw [h6]
        exact ⟨trivial, rfl⟩
    · have z0 := z0
      conv => whnf
      refine cb_intro (fun e => ?_) (fun e => ?_)
      · have e : (lb : Int) > 40 := by simpa using e
        conv => whnf
        refine ⟨by decide, trivial, by decide, by omega, ?_⟩
        conv => whnf
        rw [decide_eq_true (show (la : Int) > 0 by omega)]; conv => whnf
        rw [show ((la : Int) == 0) = false by rw [beq_eq_false_iff_ne]; omega]; conv => whnf
        rw [show ((la : Int) == 0) = false by rw [beq_eq_false_iff_ne]; omega]; conv => whnf
        obtain ⟨k, hk, hkl⟩ := kN n (L := la) (by omega) (by omega)
        rw [hk]
        refine region8 (k := k) (la := la) (lb := 40) (A := A) (B := B) (.inr (.inr ⟨0, N, _, _, rfl, rfl, rfl, rfl, by omega⟩)) (.inr (.inr ⟨1, M, _, _, rfl, rfl, rfl, rfl, by omega⟩)) (by omega) (by omega) (by omega) ⟨rfl, rfl, rfl, trivial⟩ fun s' H' h6 => ?_
        conv => whnf
        rw [h6]
        exact ⟨trivial, rfl⟩
      · have e : ¬ (lb : Int) > 40 := by simpa using e
        conv => whnf
        rw [decide_eq_true (show (la : Int) > 0 by omega)]; conv => whnf
        rw [show ((la : Int) == 0) = false by rw [beq_eq_false_iff_ne]; omega]; conv => whnf
        rw [show ((la : Int) == 0) = false by rw [beq_eq_false_iff_ne]; omega]; conv => whnf
        obtain ⟨k, hk, hkl⟩ := kN n (L := la) (by omega) (by omega)
        rw [hk]
        refine region8 (k := k) (la := la) (lb := lb) (A := A) (B := B) (.inr (.inr ⟨0, N, _, _, rfl, rfl, rfl, rfl, by omega⟩)) (.inr (.inr ⟨1, M, _, _, rfl, rfl, rfl, rfl, by omega⟩)) (by omega) (by omega) (by omega) ⟨rfl, rfl, rfl, trivial⟩ fun s' H' h6 => ?_
        conv => whnf
        rw [h6]
        exact ⟨trivial, rfl⟩
theorem tellsPK {k0 k1 : Blk} {va vb : V} {la lb : Nat} {A B : Nat → R7} {n : Int} (ha : form 0 k0 va la A) (hb : form 1 k1 vb lb B) :
    ACB Try.prog 4 [.v va, .v vb, i64 n] [k0, k1] (fun v _ => plainA v ∧ v = .v (.bool true)) := by
  rcases ha with ⟨rfl, rfl, rfl⟩ | ⟨rfl, rfl, rfl⟩ | ⟨N, rfl, hN, rfl⟩ <;> rcases hb with ⟨rfl, rfl, rfl⟩ | ⟨rfl, rfl, rfl⟩ | ⟨M, rfl, hM, rfl⟩
  · exact tellsNN (N := 0) (M := 0) (A := A) (B := B) (Nat.le_refl 0) (Nat.le_refl 0)
  · exact tellsNZ (N := 0) (M := 0) (A := A) (B := B) (Nat.le_refl 0) (Nat.le_refl 0)
  · exact tellsNL (N := 0) (M := M) (A := A) (B := B) (Nat.le_refl 0) hM
  · exact tellsZN (N := 0) (M := 0) (A := A) (B := B) (Nat.le_refl 0) (Nat.le_refl 0)
  · exact tellsZZ (N := 0) (M := 0) (A := A) (B := B) (Nat.le_refl 0) (Nat.le_refl 0)
  · exact tellsZL (N := 0) (M := M) (A := A) (B := B) (Nat.le_refl 0) hM
  · exact tellsLN (N := N) (M := 0) (A := A) (B := B) hN (Nat.le_refl 0)
  · exact tellsLZ (N := N) (M := 0) (A := A) (B := B) hN (Nat.le_refl 0)
  · exact tellsLL (N := N) (M := M) (A := A) (B := B) hN hM
theorem tellsA {H : Hp} {va vb : V} {la lb : Nat} {A B : Nat → R7} {n : Int} (ha : rowIn H va la A) (hb : rowIn H vb lb B) :
    ACB Try.prog 4 [.v va, .v vb, i64 n] H (fun v H' => v = .v (.bool true) ∧ H' = H) := by
  obtain ⟨k0, k1, ns, va', vb', ha', hb', hs, he⟩ := canon ha hb
  exact ACB.view0 (tellsPK ha' hb') hs (rensA_two he n)
end Go.Proofs.Ytpoknlbnookhjaa.Md
