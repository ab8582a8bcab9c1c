/- Instructions told in words. -/

import Derived.Test.YtgglclmilocgcaaGreatDoorEw
import Derived.Test.YtgglclmilocgcaaGreatDoorNv
set_option linter.unusedVariables false
set_option linter.unusedSimpArgs false
namespace Go.Proofs.YtgglclmilocgcaaGreatDoor.Md
open Go.RowKit Go.Proofs.YtgglclmilocgcaaGreatDoor.Ae Go.Proofs.YtgglclmilocgcaaGreatDoor.Bv Go.Proofs.YtgglclmilocgcaaGreatDoor
theorem nm_none {op : Int} (h : op < 1 ∨ 55 < op) : nm op = [] := by
  unfold nm
  by_cases c : op < 1
  · rw [show op.toNat = 0 by omega]; rfl
  · obtain ⟨k, hk⟩ : ∃ k, op.toNat = 56 + k := ⟨op.toNat - 56, by omega⟩
    rw [hk]; simp [List.getD, nmL]
theorem nm_len (op : Int) : (nm op).length ≤ 6 := by
  by_cases h : 1 ≤ op ∧ op ≤ 55
  · rcases fifty5 h with rfl | rfl | rfl | rfl | rfl | rfl | rfl | rfl | rfl | rfl | rfl | rfl | rfl | rfl | rfl | rfl | rfl | rfl | rfl | rfl | rfl | rfl | rfl | rfl | rfl | rfl | rfl | rfl | rfl | rfl | rfl | rfl | rfl | rfl | rfl | rfl | rfl | rfl | rfl | rfl | rfl | rfl | rfl | rfl | rfl | rfl | rfl | rfl | rfl | rfl | rfl | rfl | rfl | rfl | rfl <;> decide
  · rw [nm_none (by omega)]; decide
theorem name0 (op : Int) : AC Tryz.prog 80 [i64 op] [] (Ret (tx (nm op))) := by
  refine AC.clean rfl (AC.of_body dok Tryz.func80 rfl rfl (Nat.le_of_ble_eq_true rfl) ?_)
  conv => whnf
  by_cases h : 1 ≤ op ∧ op ≤ 55
  · refine (of1 op h _).mono ?_
    rintro v H' ⟨rfl, rfl⟩
    conv => whnf
    exact ⟨trivial, trivial, rfl, rfl⟩
  · refine (ofN1 op (by omega) _).mono ?_
    rintro v H' ⟨rfl, rfl⟩
    rw [nm_none (by omega)]
    conv => whnf
    exact ⟨trivial, trivial, rfl, rfl⟩
theorem name1 (op : Int) (H : Hp) : AC Tryz.prog 80 [i64 op] H (RetH H (tx (nm op))) := (name0 op).anyH rfl rfl H
theorem valid_im {t : T5} (h : valid t) : -2147483648 ≤ t.2.2.2.2 ∧ t.2.2.2.2 < 2147483648 := by
  obtain ⟨h1, h2, hrd, hr1, hr2, hU, hJ, hI, hB, hS, hH, hR, hC, hN⟩ := h
  rcases fmt_cases t.1 with ⟨g, e⟩ | ⟨g, e⟩ | ⟨g, e⟩ | ⟨g, e⟩ | ⟨g, e⟩ | ⟨g, e⟩ | ⟨g, e⟩ | ⟨g, e⟩ | ⟨g, e⟩ | ⟨g, e⟩ <;> omega
/-- What an instruction is in words. -/
def txt (t : T5) : List UInt8 :=
  if (encT t).2 = false then nm t.1
  else if fmt t.1 = 85 ∨ fmt t.1 = 74 then nm t.1 ++ rg t.2.1 ++ sn t.2.2.2.2
  else if fmt t.1 = 67 ∧ 53 ≤ t.1 then nm t.1 ++ rg t.2.1 ++ sn t.2.2.1 ++ sn t.2.2.2.2
  else if fmt t.1 = 73 ∨ fmt t.1 = 72 ∨ fmt t.1 = 67 then nm t.1 ++ rg t.2.1 ++ rg t.2.2.1 ++ sn t.2.2.2.2
  else if fmt t.1 = 66 ∨ fmt t.1 = 83 then nm t.1 ++ rg t.2.2.1 ++ rg t.2.2.2.1 ++ sn t.2.2.2.2
  else if fmt t.1 = 82 then nm t.1 ++ rg t.2.1 ++ rg t.2.2.1 ++ rg t.2.2.2.1
  else nm t.1
theorem cat_ok (l m : List UInt8) (h : l.length + m.length ≤ 4611686018427387904) : (((⟨l.toArray⟩ : ByteArray).size + (⟨m.toArray⟩ : ByteArray).size : Nat) : Int) ≤ IntKind.i64.max := by
  rw [ba_size, ba_size]
  show ((l.length + m.length : Nat) : Int) ≤ 9223372036854775807
  omega
set_option maxHeartbeats 4000000 in
theorem text0 (op rd r1 r2 im : Int) : AC Tryz.prog 16 [.agg (inst op rd r1 r2 im)] [] (Ret (tx (txt (op, rd, r1, r2, im)))) := by
  refine AC.clean rfl (AC.of_body dok Tryz.func16 rfl rfl (Nat.le_of_ble_eq_true rfl) ?_)
  conv => whnf
  by_cases h : 1 ≤ op ∧ op ≤ 55
  case neg =>
    refine (ofN1 op (by omega) _).mono ?_
    rintro v H' ⟨rfl, rfl⟩
    conv => whnf
    refine (enc1 (op, rd, r1, r2, im) _).mono ?_
    rintro v H' ⟨rfl, rfl⟩
    have nv : ¬ valid (op, rd, r1, r2, im) := fun hv => h (valid_op hv)
    unfold txt
    rw [encT_neg nv, if_pos rfl, nm_none (by omega)]
    conv => whnf
    exact ⟨trivial, trivial, rfl, rfl⟩
  refine (of1 op h _).mono ?_
  rintro v H' ⟨rfl, rfl⟩
  conv => whnf
  refine (enc1 (op, rd, r1, r2, im) _).mono ?_
  rintro v H' ⟨rfl, rfl⟩
  by_cases hv : valid (op, rd, r1, r2, im)
  case neg =>
    unfold txt
    rw [encT_neg hv, if_pos rfl]
    conv => whnf
    exact ⟨trivial, trivial, rfl, rfl⟩
  have hi := valid_im hv
  have hl := nm_len op
  have hv' := hv
  obtain ⟨v1, v2, hrd, hr1, hr2, _⟩ := hv'
  dsimp only at v1 v2 hrd hr1 hr2 hi
  have l0 := itoa_len rd (by omega) (by omega)
  have l1 := itoa_len r1 (by omega) (by omega)
  have l2 := itoa_len r2 (by omega) (by omega)
  have l3 := itoa_len im (by omega) (by omega)
  unfold txt
  rw [encT_pos hv, if_neg (fun e => by cases e)]
  conv => whnf
  refine DR.way [0, 1, 4, 5, 8, 9, 12, 13, 14, 2, 3, 6, 7, 10, 11, 15, 16, 17, 18, 19, 20] (by decide +kernel) ⟨[], ?_⟩
  conv => whnf
  refine (itoa1 rd (by omega) (by omega) _).mono ?_
  rintro v H' ⟨rfl, rfl⟩
  conv => whnf
  refine ⟨cat_ok [32, 120] _ (by simp; omega), ?_⟩
  rw [ba_add [32, 120]]
  conv => whnf
  refine (itoa1 r1 (by omega) (by omega) _).mono ?_
  rintro v H' ⟨rfl, rfl⟩
  conv => whnf
  refine ⟨cat_ok [32, 120] _ (by simp; omega), ?_⟩
  rw [ba_add [32, 120]]
  conv => whnf
  refine (itoa1 r2 (by omega) (by omega) _).mono ?_
  rintro v H' ⟨rfl, rfl⟩
  conv => whnf
  refine ⟨cat_ok [32, 120] _ (by simp; omega), ?_⟩
  rw [ba_add [32, 120]]
  conv => whnf
  rw [show IntKind.i64.wrap im = im by rw [IntKind.wrap_i64]; omega]
  refine (itoa1 im (by omega) (by omega) _).mono ?_
  rintro v H' ⟨rfl, rfl⟩
  conv => whnf
  refine ⟨cat_ok [32] _ (by simp; omega), ?_⟩
  rw [ba_add [32]]
  conv => whnf
  rcases fmt_cases op with ⟨g, e⟩ | ⟨g, e⟩ | ⟨g, e⟩ | ⟨g, e⟩ | ⟨g, e⟩ | ⟨g, e⟩ | ⟨g, e⟩ | ⟨g, e⟩ | ⟨g, e⟩ | ⟨g, e⟩
  case inl | inr.inl =>
    have f1 : fr op = 117 ∨ fr op = 106 := by first | exact .inl (fr_U g).1 | (subst g; exact .inr fr_J.1)
    rw [if_pos (show fmt op = 85 ∨ fmt op = 74 by omega)]
    rcases f1 with f1 | f1
    all_goals rw [f1]
    all_goals conv => whnf
    all_goals refine ⟨cat_ok _ _ (by simp; omega), ?_⟩
    all_goals rw [ba_add]
    all_goals conv => whnf
    all_goals refine ⟨cat_ok _ _ (by simp; omega), ?_⟩
    all_goals rw [ba_add]
    all_goals conv => whnf
    all_goals exact ⟨trivial, trivial, rfl, rfl⟩
  case inr.inr.inl | inr.inr.inr.inr.inr.inl =>
    have f1 : fr op = 105 ∨ fr op = 104 := by first | exact .inl (fr_I g).1 | exact .inr (fr_H g).1
    rw [if_neg (show ¬ (fmt op = 85 ∨ fmt op = 74) by omega), if_neg (show ¬ (fmt op = 67 ∧ 53 ≤ op) by omega), if_pos (show fmt op = 73 ∨ fmt op = 72 ∨ fmt op = 67 by omega)]
    rcases f1 with f1 | f1
    all_goals rw [f1]
    all_goals conv => whnf
    all_goals refine ⟨cat_ok _ _ (by simp; omega), ?_⟩
    all_goals rw [ba_add]
    all_goals conv => whnf
    all_goals refine ⟨cat_ok _ _ (by simp; omega), ?_⟩
    all_goals rw [ba_add]
    all_goals conv => whnf
    all_goals refine ⟨cat_ok _ _ (by simp; omega), ?_⟩
    all_goals rw [ba_add]
    all_goals conv => whnf
    all_goals exact ⟨trivial, trivial, rfl, rfl⟩
  case inr.inr.inr.inl | inr.inr.inr.inr.inl =>
    have f1 : fr op = 98 ∨ fr op = 115 := by first | exact .inl (fr_B g).1 | exact .inr (fr_S g).1
    rw [if_neg (show ¬ (fmt op = 85 ∨ fmt op = 74) by omega), if_neg (show ¬ (fmt op = 67 ∧ 53 ≤ op) by omega), if_neg (show ¬ (fmt op = 73 ∨ fmt op = 72 ∨ fmt op = 67) by omega), if_pos (show fmt op = 66 ∨ fmt op = 83 by omega)]
    rcases f1 with f1 | f1
    all_goals rw [f1]
    all_goals conv => whnf
    all_goals refine ⟨cat_ok _ _ (by simp; omega), ?_⟩
    all_goals rw [ba_add]
    all_goals conv => whnf
    all_goals refine ⟨cat_ok _ _ (by simp; omega), ?_⟩
    all_goals rw [ba_add]
    all_goals conv => whnf
    all_goals refine ⟨cat_ok _ _ (by simp; omega), ?_⟩
    all_goals rw [ba_add]
    all_goals conv => whnf
    all_goals exact ⟨trivial, trivial, rfl, rfl⟩
  case inr.inr.inr.inr.inr.inr.inl =>
    have f1 := (fr_R g).1
    rw [if_neg (show ¬ (fmt op = 85 ∨ fmt op = 74) by omega), if_neg (show ¬ (fmt op = 67 ∧ 53 ≤ op) by omega), if_neg (show ¬ (fmt op = 73 ∨ fmt op = 72 ∨ fmt op = 67) by omega), if_neg (show ¬ (fmt op = 66 ∨ fmt op = 83) by omega), if_pos (show fmt op = 82 by omega)]
    rw [f1]
    conv => whnf
    refine ⟨cat_ok _ _ (by simp; omega), ?_⟩
    rw [ba_add]
    conv => whnf
    refine ⟨cat_ok _ _ (by simp; omega), ?_⟩
    rw [ba_add]
    conv => whnf
    refine ⟨cat_ok _ _ (by simp; omega), ?_⟩
    rw [ba_add]
    conv => whnf
    exact ⟨trivial, trivial, rfl, rfl⟩
  case inr.inr.inr.inr.inr.inr.inr.inl =>
    rw [if_neg (show ¬ (fmt op = 85 ∨ fmt op = 74) by omega)]
    by_cases c : 53 ≤ op
    · have f1 : fr op = 122 := by rcases (show op = 53 ∨ op = 54 ∨ op = 55 by omega) with rfl | rfl | rfl <;> decide
      rw [if_pos (show fmt op = 67 ∧ 53 ≤ op by omega)]
      rw [f1]
      conv => whnf
      refine DR.way [0, 1, 2, 3, 4, 5, 6, 9, 7, 8, 10, 11] (by decide +kernel) ⟨[], ?_⟩
      conv => whnf
      refine ⟨cat_ok _ _ (by simp; omega), ?_⟩
      rw [ba_add]
      conv => whnf
      refine ⟨cat_ok _ [32] (by simp; omega), ?_⟩
      rw [ba_add _ [32]]
      conv => whnf
      refine (itoa1 r1 (by omega) (by omega) _).mono ?_
      rintro v H' ⟨rfl, rfl⟩
      conv => whnf
      refine ⟨cat_ok _ _ (by simp; omega), ?_⟩
      rw [ba_add]
      conv => whnf
      refine ⟨cat_ok _ _ (by simp; omega), ?_⟩
      rw [ba_add]
      conv => whnf
      exact ⟨trivial, trivial, by simp [rg, sn], rfl⟩
    · have f1 : fr op = 99 := by rcases (show op = 50 ∨ op = 51 ∨ op = 52 by omega) with rfl | rfl | rfl <;> decide
      rw [if_neg (show ¬ (fmt op = 67 ∧ 53 ≤ op) by omega), if_pos (show fmt op = 73 ∨ fmt op = 72 ∨ fmt op = 67 by omega)]
      rw [f1]
      conv => whnf
      refine ⟨cat_ok _ _ (by simp; omega), ?_⟩
      rw [ba_add]
      conv => whnf
      refine ⟨cat_ok _ _ (by simp; omega), ?_⟩
      rw [ba_add]
      conv => whnf
      refine ⟨cat_ok _ _ (by simp; omega), ?_⟩
      rw [ba_add]
      conv => whnf
      exact ⟨trivial, trivial, rfl, rfl⟩
  case inr.inr.inr.inr.inr.inr.inr.inr.inl =>
    have f1 := fr_N g
    rw [if_neg (show ¬ (fmt op = 85 ∨ fmt op = 74) by omega), if_neg (show ¬ (fmt op = 67 ∧ 53 ≤ op) by omega), if_neg (show ¬ (fmt op = 73 ∨ fmt op = 72 ∨ fmt op = 67) by omega), if_neg (show ¬ (fmt op = 66 ∨ fmt op = 83) by omega), if_neg (show ¬ fmt op = 82 by omega)]
    rw [f1]
    conv => whnf
    exact ⟨trivial, trivial, rfl, rfl⟩
  case inr.inr.inr.inr.inr.inr.inr.inr.inr => exfalso; omega
theorem text1 (t : T5) (H : Hp) : AC Tryz.prog 16 [.agg (ins t)] H (RetH H (tx (txt t))) := (text0 t.1 t.2.1 t.2.2.1 t.2.2.2.1 t.2.2.2.2).anyH rfl rfl H
end Go.Proofs.YtgglclmilocgcaaGreatDoor.Md
