/- What the laws of layer 6 share. -/
import Derived.Test.YtjfbpnfegeimfaaDoorTx
import Derived.Test.YtjfbpnfegeimfaaDoorOp
set_option linter.unusedVariables false
set_option linter.unusedSimpArgs false
namespace Go.Proofs.YtjfbpnfegeimfaaDoor.Md
open Go.RowKit Go.Proofs.YtjfbpnfegeimfaaDoor.Ae Go.Proofs.YtjfbpnfegeimfaaDoor.Bv Go.Proofs.YtjfbpnfegeimfaaDoor
theorem in_b {n : Nat} {b : Bool} : (bo b).inR n := trivial
set_option maxHeartbeats 4000000 in
theorem same0 (op rd r1 r2 im : Int) : AC Tryd.prog 7 [.agg (inst op rd r1 r2 im)] [] (Ret (bo true)) := by
  refine AC.clean rfl (AC.of_body dok Tryd.func7 rfl rfl (Nat.le_of_ble_eq_true rfl) ?_)
  conv => whnf
  refine (enc1 (op, rd, r1, r2, im) _).mono ?_
  rintro v H' ⟨rfl, rfl⟩
  conv => whnf
  refine (renc1 (op, rd, r1, r2, im) _).mono ?_
  rintro v H' ⟨rfl, rfl⟩
  conv => whnf
  refine DR.way [0, 1, 2, 3, 4, 5, 6, 7, 8, 9, 11, 10, 12, 13, 14, 15, 16, 17, 19, 20, 18, 21, 22, 23, 24] (by decide +kernel) ⟨[], ?_⟩
  conv => whnf
  rw [beq_self_eq_true]; conv => whnf
  rw [beq_self_eq_true]; conv => whnf
  refine (text1 (op, rd, r1, r2, im) _).mono ?_
  rintro v H' ⟨rfl, rfl⟩
  conv => whnf
  refine (rtext1 (op, rd, r1, r2, im) _).mono ?_
  rintro v H' ⟨rfl, rfl⟩
  conv => whnf
  rw [beq_self_eq_true]; conv => whnf
  refine (name1 op _).mono ?_
  rintro v H' ⟨rfl, rfl⟩
  conv => whnf
  refine (rname1 op _).mono ?_
  rintro v H' ⟨rfl, rfl⟩
  conv => whnf
  rw [beq_self_eq_true]
  exact ⟨in_b, trivial, rfl, rfl⟩
theorem same1 (op rd r1 r2 im : Int) (H : Hp) : AC Tryd.prog 7 [.agg (inst op rd r1 r2 im)] H (RetH H (bo true)) := (same0 op rd r1 r2 im).anyH rfl rfl H
theorem it1 : Lib.itoa 1 = [49] := by unfold Lib.itoa; rw [if_neg (by decide)]; exact dec_small (by decide)
theorem it2 : Lib.itoa 2 = [50] := by unfold Lib.itoa; rw [if_neg (by decide)]; exact dec_small (by decide)
theorem it3 : Lib.itoa 3 = [51] := by unfold Lib.itoa; rw [if_neg (by decide)]; exact dec_small (by decide)
theorem it4 : Lib.itoa 4 = [52] := by unfold Lib.itoa; rw [if_neg (by decide)]; exact dec_small (by decide)
theorem itm3 : Lib.itoa (-3) = [45, 51] := by
  unfold Lib.itoa; rw [if_pos (by decide)]; rw [show (-3 : Int).natAbs = 3 from rfl, dec_small (by decide)]; rfl
theorem it832 : Lib.itoa 832 = [56, 51, 50] := by
  unfold Lib.itoa; rw [if_neg (by decide)]; rw [show (832 : Int).toNat = 832 from rfl, dec_big (by decide), dec_big (by decide), dec_small (by decide)]; rfl
theorem kv1 : valid (19, 1, 2, 0, -3) := vI (by omega) (by omega) (by omega) (by omega)
theorem kv2 : ¬ valid (19, 0, 0, 0, 2048) := fun h => by
  have := (h.2.2.2.2.2.2.2.1 (by decide)).2
  dsimp only at this
  omega
theorem kv3 : valid (47, 0, 0, 0, 0) := vN (by omega)
theorem kv4 : valid (53, 3, 4, 0, 832) := vC (by omega) (by omega) (by omega) (by omega)
theorem kw1 : word (19, 1, 2, 0, -3) = 4291887251 := by decide +kernel
theorem kt1 : txt (19, 1, 2, 0, -3) = [97, 100, 100, 105, 32, 120, 49, 32, 120, 50, 32, 45, 51] := by
  unfold txt
  rw [encT_pos kv1, if_neg (fun e => by cases e), if_neg (by decide), if_neg (by decide), if_pos (by decide)]
  dsimp only [rg, sn]
  rw [it1, it2, itm3]; rfl
theorem kt2 : txt (47, 0, 0, 0, 0) = [101, 99, 97, 108, 108] := by
  unfold txt
  rw [encT_pos kv3, if_neg (fun e => by cases e), if_neg (by decide), if_neg (by decide), if_neg (by decide), if_neg (by decide), if_neg (by decide)]; rfl
theorem kt3 : txt (53, 3, 4, 0, 832) = [99, 115, 114, 114, 119, 105, 32, 120, 51, 32, 52, 32, 56, 51, 50] := by
  unfold txt
  rw [encT_pos kv4, if_neg (fun e => by cases e), if_neg (by decide), if_pos (by decide)]
  dsimp only [rg, sn]
  rw [it3, it4, it832]; rfl
theorem str_eq {s : List UInt8} {a : Array UInt8} (h : s.toArray = a) : ((⟨s.toArray⟩ : ByteArray).toList == (⟨a⟩ : ByteArray).toList) = true := by
  subst h; exact beq_self_eq_true _
set_option maxRecDepth 100000 in
set_option maxHeartbeats 4000000 in
theorem known0 : AC Tryd.prog 8 [] [] (Ret (bo true)) := by
  refine AC.clean rfl (AC.of_body dok Tryd.func8 rfl rfl (Nat.le_of_ble_eq_true rfl) ?_)
  conv => whnf
  refine (enc1 (19, 1, 2, 0, -3) _).mono ?_
  rintro v H' ⟨rfl, rfl⟩
  conv => whnf
  refine (enc1 (19, 0, 0, 0, 2048) _).mono ?_
  rintro v H' ⟨rfl, rfl⟩
  rw [encT_pos kv1, encT_neg kv2, kw1]
  conv => whnf
  refine (name1 0 _).mono ?_
  rintro v H' ⟨rfl, rfl⟩
  obtain ⟨s, hs, es⟩ : ∃ s, nm 0 = s ∧ s.toArray = #[] := ⟨_, rfl, by first | rfl | rw [kt1] | rw [kt2] | rw [kt3]⟩
  rw [hs]
  conv => whnf
  rw [str_eq es]; conv => whnf
  refine (name1 19 _).mono ?_
  rintro v H' ⟨rfl, rfl⟩
  obtain ⟨s, hs, es⟩ : ∃ s, nm 19 = s ∧ s.toArray = #[97, 100, 100, 105] := ⟨_, rfl, by first | rfl | rw [kt1] | rw [kt2] | rw [kt3]⟩
  rw [hs]
  conv => whnf
  rw [str_eq es]; conv => whnf
  refine (text1 (19, 1, 2, 0, -3) _).mono ?_
  rintro v H' ⟨rfl, rfl⟩
  obtain ⟨s, hs, es⟩ : ∃ s, txt (19, 1, 2, 0, -3) = s ∧ s.toArray = #[97, 100, 100, 105, 32, 120, 49, 32, 120, 50, 32, 45, 51] := ⟨_, rfl, by first | rfl | rw [kt1] | rw [kt2] | rw [kt3]⟩
  rw [hs]
  conv => whnf
  rw [str_eq es]; conv => whnf
  refine (text1 (47, 0, 0, 0, 0) _).mono ?_
  rintro v H' ⟨rfl, rfl⟩
  obtain ⟨s, hs, es⟩ : ∃ s, txt (47, 0, 0, 0, 0) = s ∧ s.toArray = #[101, 99, 97, 108, 108] := ⟨_, rfl, by first | rfl | rw [kt1] | rw [kt2] | rw [kt3]⟩
  rw [hs]
  conv => whnf
  rw [str_eq es]; conv => whnf
  refine (text1 (53, 3, 4, 0, 832) _).mono ?_
  rintro v H' ⟨rfl, rfl⟩
  obtain ⟨s, hs, es⟩ : ∃ s, txt (53, 3, 4, 0, 832) = s ∧ s.toArray = #[99, 115, 114, 114, 119, 105, 32, 120, 51, 32, 52, 32, 56, 51, 50] := ⟨_, rfl, by first | rfl | rw [kt1] | rw [kt2] | rw [kt3]⟩
  rw [hs]
  conv => whnf
  rw [str_eq es]
  exact ⟨in_b, trivial, rfl, rfl⟩
theorem known1 (H : Hp) : AC Tryd.prog 8 [] H (RetH H (bo true)) := known0.anyH rfl rfl H
end Go.Proofs.YtjfbpnfegeimfaaDoor.Md
