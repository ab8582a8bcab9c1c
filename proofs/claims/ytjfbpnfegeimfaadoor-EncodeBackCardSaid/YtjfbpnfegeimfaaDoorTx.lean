/- Instructions told in words. -/
import Derived.Test.YtjfbpnfegeimfaaDoorEd
import Derived.Test.YtjfbpnfegeimfaaDoorNu
set_option linter.unusedVariables false
set_option linter.unusedSimpArgs false
namespace Go.Proofs.YtjfbpnfegeimfaaDoor.Md
open Go.RowKit Go.Proofs.YtjfbpnfegeimfaaDoor.Ae Go.Proofs.YtjfbpnfegeimfaaDoor.Bv Go.Proofs.YtjfbpnfegeimfaaDoor
def nameS : List Seg := nmL.map fun l => Seg.one (.str ⟨l.toArray⟩)
theorem names0 : AC Tryd.prog 36 [] [] (fun v H => v = .v (.sl 0 0 0 56 1) ∧ H = [.rw nameS]) := by
  refine AC.of_body dok Tryd.func36 rfl rfl (Nat.le_of_ble_eq_true rfl) ?_
  conv => whnf
  exact ⟨rfl, rfl⟩
theorem names1 (G : Hp) : AC Tryd.prog 36 [] G (fun v H => v = .v (.sl G.length 0 0 56 1) ∧ H = G ++ [.rw nameS]) := by
  refine (names0.embed [] (G := G) (by simp) (by simp) trivial).mono ?_
  rintro v G' ⟨v0, H', ⟨rfl, rfl⟩, _, rfl, rfl⟩
  exact ⟨by simp [AV.ren, V.ren, nthN], by simp only [embP]; rfl⟩
set_option maxRecDepth 100000 in
set_option maxHeartbeats 40000000 in
theorem rname0 (op : Int) : AC Tryd.prog 17 [i64 op] [] (Ret (tx (nm op))) := by
  refine AC.clean rfl (AC.of_body dok Tryd.func17 rfl rfl (Nat.le_of_ble_eq_true rfl) ?_)
  conv => whnf
  by_cases c : op < 0
  · rw [decide_eq_true c]; conv => whnf
    have e : nm op = [] := by unfold nm; rw [show op.toNat = 0 by omega]; rfl
    rw [e]
    exact ⟨trivial, trivial, rfl, rfl⟩
  rw [decide_eq_false c]; conv => whnf
  refine (names1 _).mono ?_
  rintro v H' ⟨rfl, rfl⟩
  conv => whnf
  by_cases c2 : op ≥ ((56 : Nat) : Int)
  · rw [decide_eq_true c2]; conv => whnf
    have e : nm op = [] := by
      unfold nm
      obtain ⟨k, hk⟩ : ∃ k, op.toNat = 56 + k := ⟨op.toNat - 56, by omega⟩
      rw [hk]; simp [List.getD, nmL]
    rw [e]
    exact ⟨trivial, trivial, rfl, rfl⟩
  rw [decide_eq_false c2]; conv => whnf
  refine (names1 _).mono ?_
  rintro v H' ⟨rfl, rfl⟩
  by_cases c3 : op = 0
  · subst c3
    conv => whnf
    exact ⟨trivial, trivial, rfl, rfl⟩
  rcases fifty5 (show 1 ≤ op ∧ op ≤ 55 by omega) with rfl | rfl | rfl | rfl | rfl | rfl | rfl | rfl | rfl | rfl | rfl | rfl | rfl | rfl | rfl | rfl | rfl | rfl | rfl | rfl | rfl | rfl | rfl | rfl | rfl | rfl | rfl | rfl | rfl | rfl | rfl | rfl | rfl | rfl | rfl | rfl | rfl | rfl | rfl | rfl | rfl | rfl | rfl | rfl | rfl | rfl | rfl | rfl | rfl | rfl | rfl | rfl | rfl | rfl | rfl
  all_goals conv => whnf
  all_goals exact ⟨trivial, trivial, rfl, rfl⟩
theorem rname1 (op : Int) (H : Hp) : AC Tryd.prog 17 [i64 op] H (RetH H (tx (nm op))) := (rname0 op).anyH rfl rfl H
theorem nm_none {op : Int} (h : op < 1 ∨ 55 < op) : nm op = [] := by
  unfold nm
  by_cases c : op < 1
  · rw [show op.toNat = 0 by omega]; rfl
  · obtain ⟨k, hk⟩ : ∃ k, op.toNat = 56 + k := ⟨op.toNat - 56, by omega⟩
    rw [hk]; simp [List.getD, nmL]
theorem nm_len (op : Int) : (nm op).length ≤ 6 := by
  by_cases h : 1 ≤ op ∧ op ≤ 55
  · rcases fifty5 h with rfl | rfl | rfl | rfl | rfl | rfl | rfl | rfl | rfl | rfl | rfl | rfl | rfl | rfl | rfl | rfl | rfl | rfl | rfl | rfl | rfl | rfl | rfl | rfl | rfl | rfl | rfl | rfl | rfl | rfl | rfl | rfl | rfl | rfl | rfl | rfl | rfl | rfl | rfl | rfl | rfl | rfl | rfl | rfl | rfl | rfl | rfl | rfl | rfl | rfl | rfl | rfl | rfl | rfl | rfl <;> decide
  · rw [nm_none (by omega)]; decide
theorem name0 (op : Int) : AC Tryd.prog 16 [i64 op] [] (Ret (tx (nm op))) := by
  refine AC.clean rfl (AC.of_body dok Tryd.func16 rfl rfl (Nat.le_of_ble_eq_true rfl) ?_)
  conv => whnf
  by_cases h : 1 ≤ op ∧ op ≤ 55
  · refine (of1 op h _).mono ?_
    rintro v H' ⟨rfl, rfl⟩
    conv => whnf
    exact ⟨trivial, trivial, rfl, rfl⟩
  · refine (ofN1 op (by omega) _).mono ?_
    rintro v H' ⟨rfl, rfl⟩
    rw [nm_none (by omega)]
    conv => whnf
    exact ⟨trivial, trivial, rfl, rfl⟩
theorem name1 (op : Int) (H : Hp) : AC Tryd.prog 16 [i64 op] H (RetH H (tx (nm op))) := (name0 op).anyH rfl rfl H
theorem valid_im {t : T5} (h : valid t) : -2147483648 ≤ t.2.2.2.2 ∧ t.2.2.2.2 < 2147483648 := by
  obtain ⟨h1, h2, hrd, hr1, hr2, hU, hJ, hI, hB, hS, hH, hR, hC, hN⟩ := h
  rcases fmt_cases t.1 with ⟨g, e⟩ | ⟨g, e⟩ | ⟨g, e⟩ | ⟨g, e⟩ | ⟨g, e⟩ | ⟨g, e⟩ | ⟨g, e⟩ | ⟨g, e⟩ | ⟨g, e⟩ | ⟨g, e⟩ <;> omega
/-- What an instruction is in words. -/
def txt (t : T5) : List UInt8 :=
  if (encT t).2 = false then nm t.1
  else if fmt t.1 = 85 ∨ fmt t.1 = 74 then nm t.1 ++ rg t.2.1 ++ sn t.2.2.2.2
  else if fmt t.1 = 67 ∧ 53 ≤ t.1 then nm t.1 ++ rg t.2.1 ++ sn t.2.2.1 ++ sn t.2.2.2.2
  else if fmt t.1 = 73 ∨ fmt t.1 = 72 ∨ fmt t.1 = 67 then nm t.1 ++ rg t.2.1 ++ rg t.2.2.1 ++ sn t.2.2.2.2
  else if fmt t.1 = 66 ∨ fmt t.1 = 83 then nm t.1 ++ rg t.2.2.1 ++ rg t.2.2.2.1 ++ sn t.2.2.2.2
  else if fmt t.1 = 82 then nm t.1 ++ rg t.2.1 ++ rg t.2.2.1 ++ rg t.2.2.2.1
  else nm t.1
theorem cat_ok (l m : List UInt8) (h : l.length + m.length ≤ 4611686018427387904) : (((⟨l.toArray⟩ : ByteArray).size + (⟨m.toArray⟩ : ByteArray).size : Nat) : Int) ≤ IntKind.i64.max := by
  rw [ba_size, ba_size]
  show ((l.length + m.length : Nat) : Int) ≤ 9223372036854775807
  omega
set_option maxHeartbeats 4000000 in
theorem text0 (op rd r1 r2 im : Int) : AC Tryd.prog 12 [.agg (inst op rd r1 r2 im)] [] (Ret (tx (txt (op, rd, r1, r2, im)))) := by
  refine AC.clean rfl (AC.of_body dok Tryd.func12 rfl rfl (Nat.le_of_ble_eq_true rfl) ?_)
  conv => whnf
  by_cases h : 1 ≤ op ∧ op ≤ 55
  case neg =>
    refine (ofN1 op (by omega) _).mono ?_
    rintro v H' ⟨rfl, rfl⟩
    conv => whnf
    refine (enc1 (op, rd, r1, r2, im) _).mono ?_
    rintro v H' ⟨rfl, rfl⟩
    have nv : ¬ valid (op, rd, r1, r2, im) := fun hv => h (valid_op hv)
    unfold txt
    rw [encT_neg nv, if_pos rfl, nm_none (by omega)]
    conv => whnf
    exact ⟨trivial, trivial, rfl, rfl⟩
  refine (of1 op h _).mono ?_
  rintro v H' ⟨rfl, rfl⟩
  conv => whnf
  refine (enc1 (op, rd, r1, r2, im) _).mono ?_
  rintro v H' ⟨rfl, rfl⟩
  by_cases hv : valid (op, rd, r1, r2, im)
  case neg =>
    unfold txt
    rw [encT_neg hv, if_pos rfl]
    conv => whnf
    exact ⟨trivial, trivial, rfl, rfl⟩
  have hi := valid_im hv
  have hl := nm_len op
  have hv' := hv
  obtain ⟨v1, v2, hrd, hr1, hr2, _⟩ := hv'
  dsimp only at v1 v2 hrd hr1 hr2 hi
  have l0 := itoa_len rd (by omega) (by omega)
  have l1 := itoa_len r1 (by omega) (by omega)
  have l2 := itoa_len r2 (by omega) (by omega)
  have l3 := itoa_len im (by omega) (by omega)
  unfold txt
  rw [encT_pos hv, if_neg (fun e => by cases e)]
  conv => whnf
  refine DR.way [0, 1, 4, 5, 8, 9, 12, 13, 14, 2, 3, 6, 7, 10, 11, 15, 16, 17, 18, 19, 20] (by decide +kernel) ⟨[], ?_⟩
  conv => whnf
  refine (itoa1 rd (by omega) (by omega) _).mono ?_
  rintro v H' ⟨rfl, rfl⟩
  conv => whnf
  refine ⟨cat_ok [32, 120] _ (by simp; omega), ?_⟩
  rw [ba_add [32, 120]]
  conv => whnf
  refine (itoa1 r1 (by omega) (by omega) _).mono ?_
  rintro v H' ⟨rfl, rfl⟩
  conv => whnf
  refine ⟨cat_ok [32, 120] _ (by simp; omega), ?_⟩
  rw [ba_add [32, 120]]
  conv => whnf
  refine (itoa1 r2 (by omega) (by omega) _).mono ?_
  rintro v H' ⟨rfl, rfl⟩
  conv => whnf
  refine ⟨cat_ok [32, 120] _ (by simp; omega), ?_⟩
  rw [ba_add [32, 120]]
  conv => whnf
  rw [show IntKind.i64.wrap im = im by rw [IntKind.wrap_i64]; omega]
  refine (itoa1 im (by omega) (by omega) _).mono ?_
  rintro v H' ⟨rfl, rfl⟩
  conv => whnf
  refine ⟨cat_ok [32] _ (by simp; omega), ?_⟩
  rw [ba_add [32]]
  conv => whnf
  rcases fmt_cases op with ⟨g, e⟩ | ⟨g, e⟩ | ⟨g, e⟩ | ⟨g, e⟩ | ⟨g, e⟩ | ⟨g, e⟩ | ⟨g, e⟩ | ⟨g, e⟩ | ⟨g, e⟩ | ⟨g, e⟩
  case inl | inr.inl =>
    have f1 : fr op = 117 ∨ fr op = 106 := by first | exact .inl (fr_U g).1 | (subst g; exact .inr fr_J.1)
    rw [if_pos (show fmt op = 85 ∨ fmt op = 74 by omega)]
    rcases f1 with f1 | f1
    all_goals rw [f1]
    all_goals conv => whnf
    all_goals refine ⟨cat_ok _ _ (by simp; omega), ?_⟩
    all_goals rw [ba_add]
    all_goals conv => whnf
    all_goals refine ⟨cat_ok _ _ (by simp; omega), ?_⟩
    all_goals rw [ba_add]
    all_goals conv => whnf
    all_goals exact ⟨trivial, trivial, rfl, rfl⟩
  case inr.inr.inl | inr.inr.inr.inr.inr.inl =>
    have f1 : fr op = 105 ∨ fr op = 104 := by first | exact .inl (fr_I g).1 | exact .inr (fr_H g).1
    rw [if_neg (show ¬ (fmt op = 85 ∨ fmt op = 74) by omega), if_neg (show ¬ (fmt op = 67 ∧ 53 ≤ op) by omega), if_pos (show fmt op = 73 ∨ fmt op = 72 ∨ fmt op = 67 by omega)]
    rcases f1 with f1 | f1
    all_goals rw [f1]
    all_goals conv => whnf
    all_goals refine ⟨cat_ok _ _ (by simp; omega), ?_⟩
    all_goals rw [ba_add]
    all_goals conv => whnf
    all_goals refine ⟨cat_ok _ _ (by simp; omega), ?_⟩
    all_goals rw [ba_add]
    all_goals conv => whnf
    all_goals refine ⟨cat_ok _ _ (by simp; omega), ?_⟩
    all_goals rw [ba_add]
    all_goals conv => whnf
    all_goals exact ⟨trivial, trivial, rfl, rfl⟩
  case inr.inr.inr.inl | inr.inr.inr.inr.inl =>
    have f1 : fr op = 98 ∨ fr op = 115 := by first | exact .inl (fr_B g).1 | exact .inr (fr_S g).1
    rw [if_neg (show ¬ (fmt op = 85 ∨ fmt op = 74) by omega), if_neg (show ¬ (fmt op = 67 ∧ 53 ≤ op) by omega), if_neg (show ¬ (fmt op = 73 ∨ fmt op = 72 ∨ fmt op = 67) by omega), if_pos (show fmt op = 66 ∨ fmt op = 83 by omega)]
    rcases f1 with f1 | f1
    all_goals rw [f1]
    all_goals conv => whnf
    all_goals refine ⟨cat_ok _ _ (by simp; omega), ?_⟩
    all_goals rw [ba_add]
    all_goals conv => whnf
    all_goals refine ⟨cat_ok _ _ (by simp; omega), ?_⟩
    all_goals rw [ba_add]
    all_goals conv => whnf
    all_goals refine ⟨cat_ok _ _ (by simp; omega), ?_⟩
    all_goals rw [ba_add]
    all_goals conv => whnf
    all_goals exact ⟨trivial, trivial, rfl, rfl⟩
  case inr.inr.inr.inr.inr.inr.inl =>
    have f1 := (fr_R g).1
    rw [if_neg (show ¬ (fmt op = 85 ∨ fmt op = 74) by omega), if_neg (show ¬ (fmt op = 67 ∧ 53 ≤ op) by omega), if_neg (show ¬ (fmt op = 73 ∨ fmt op = 72 ∨ fmt op = 67) by omega), if_neg (show ¬ (fmt op = 66 ∨ fmt op = 83) by omega), if_pos (show fmt op = 82 by omega)]
    rw [f1]
    conv => whnf
    refine ⟨cat_ok _ _ (by simp; omega), ?_⟩
    rw [ba_add]
    conv => whnf
    refine ⟨cat_ok _ _ (by simp; omega), ?_⟩
    rw [ba_add]
    conv => whnf
    refine ⟨cat_ok _ _ (by simp; omega), ?_⟩
    rw [ba_add]
    conv => whnf
    exact ⟨trivial, trivial, rfl, rfl⟩
  case inr.inr.inr.inr.inr.inr.inr.inl =>
    rw [if_neg (show ¬ (fmt op = 85 ∨ fmt op = 74) by omega)]
    by_cases c : 53 ≤ op
    · have f1 : fr op = 122 := by rcases (show op = 53 ∨ op = 54 ∨ op = 55 by omega) with rfl | rfl | rfl <;> decide
      rw [if_pos (show fmt op = 67 ∧ 53 ≤ op by omega)]
      rw [f1]
      conv => whnf
      refine DR.way [0, 1, 2, 3, 4, 5, 6, 9, 7, 8, 10, 11] (by decide +kernel) ⟨[], ?_⟩
      conv => whnf
      refine ⟨cat_ok _ _ (by simp; omega), ?_⟩
      rw [ba_add]
      conv => whnf
      refine ⟨cat_ok _ [32] (by simp; omega), ?_⟩
      rw [ba_add _ [32]]
      conv => whnf
      refine (itoa1 r1 (by omega) (by omega) _).mono ?_
      rintro v H' ⟨rfl, rfl⟩
      conv => whnf
      refine ⟨cat_ok _ _ (by simp; omega), ?_⟩
      rw [ba_add]
      conv => whnf
      refine ⟨cat_ok _ _ (by simp; omega), ?_⟩
      rw [ba_add]
      conv => whnf
      exact ⟨trivial, trivial, by simp [rg, sn], rfl⟩
    · have f1 : fr op = 99 := by rcases (show op = 50 ∨ op = 51 ∨ op = 52 by omega) with rfl | rfl | rfl <;> decide
      rw [if_neg (show ¬ (fmt op = 67 ∧ 53 ≤ op) by omega), if_pos (show fmt op = 73 ∨ fmt op = 72 ∨ fmt op = 67 by omega)]
      rw [f1]
      conv => whnf
      refine ⟨cat_ok _ _ (by simp; omega), ?_⟩
      rw [ba_add]
      conv => whnf
      refine ⟨cat_ok _ _ (by simp; omega), ?_⟩
      rw [ba_add]
      conv => whnf
      refine ⟨cat_ok _ _ (by simp; omega), ?_⟩
      rw [ba_add]
      conv => whnf
      exact ⟨trivial, trivial, rfl, rfl⟩
  case inr.inr.inr.inr.inr.inr.inr.inr.inl =>
    have f1 := fr_N g
    rw [if_neg (show ¬ (fmt op = 85 ∨ fmt op = 74) by omega), if_neg (show ¬ (fmt op = 67 ∧ 53 ≤ op) by omega), if_neg (show ¬ (fmt op = 73 ∨ fmt op = 72 ∨ fmt op = 67) by omega), if_neg (show ¬ (fmt op = 66 ∨ fmt op = 83) by omega), if_neg (show ¬ fmt op = 82 by omega)]
    rw [f1]
    conv => whnf
    exact ⟨trivial, trivial, rfl, rfl⟩
  case inr.inr.inr.inr.inr.inr.inr.inr.inr => exfalso; omega
theorem text1 (t : T5) (H : Hp) : AC Tryd.prog 12 [.agg (ins t)] H (RetH H (tx (txt t))) := (text0 t.1 t.2.1 t.2.2.1 t.2.2.2.1 t.2.2.2.2).anyH rfl rfl H
theorem rg_len (n : Int) (h0 : -1099511627776 ≤ n) (h1 : n ≤ 1099511627776) : (rg n).length ≤ 1099511627780 := by
  have := itoa_len n h0 h1
  unfold rg; simp; omega
set_option maxHeartbeats 4000000 in
theorem rtext0 (op rd r1 r2 im : Int) : AC Tryd.prog 15 [.agg (inst op rd r1 r2 im)] [] (Ret (tx (txt (op, rd, r1, r2, im)))) := by
  refine AC.clean rfl (AC.of_body dok Tryd.func15 rfl rfl (Nat.le_of_ble_eq_true rfl) ?_)
  conv => whnf
  refine (rname1 op _).mono ?_
  rintro v H' ⟨rfl, rfl⟩
  conv => whnf
  refine (renc1 (op, rd, r1, r2, im) _).mono ?_
  rintro v H' ⟨rfl, rfl⟩
  by_cases hv : valid (op, rd, r1, r2, im)
  case neg =>
    unfold txt
    rw [encT_neg hv, if_pos rfl]
    conv => whnf
    exact ⟨trivial, trivial, rfl, rfl⟩
  have hi := valid_im hv
  have hl := nm_len op
  have hv' := hv
  obtain ⟨v1, v2, hrd, hr1, hr2, _⟩ := hv'
  dsimp only at v1 v2 hrd hr1 hr2 hi
  have l0 := rg_len rd (by omega) (by omega)
  have l1 := rg_len r1 (by omega) (by omega)
  have l2 := rg_len r2 (by omega) (by omega)
  have l3 := itoa_len im (by omega) (by omega)
  have l4 := itoa_len r1 (by omega) (by omega)
  unfold txt
  rw [encT_pos hv, if_neg (fun e => by cases e)]
  conv => whnf
  refine (fmt1 _ _).mono ?_
  rintro v H' ⟨rfl, rfl⟩
  have ei : IntKind.i64.wrap im = im := by rw [IntKind.wrap_i64]; omega
  rcases fmt_cases op with ⟨g, e⟩ | ⟨g, e⟩ | ⟨g, e⟩ | ⟨g, e⟩ | ⟨g, e⟩ | ⟨g, e⟩ | ⟨g, e⟩ | ⟨g, e⟩ | ⟨g, e⟩ | ⟨g, e⟩
  all_goals dsimp only
  all_goals rw [e]
  case inl | inr.inl =>
    rw [if_pos (by decide)]
    conv => whnf
    refine (reg1r rd (by omega) (by omega) _).mono ?_
    rintro v H' ⟨rfl, rfl⟩
    conv => whnf
    refine ⟨cat_ok _ _ (by first | omega | (simp; omega)), ?_⟩
    rw [ba_add]
    conv => whnf
    refine ⟨cat_ok _ [32] (by first | omega | (simp; omega)), ?_⟩
    rw [ba_add _ [32]]
    conv => whnf
    rw [ei]
    refine (num1 im (by omega) (by omega) _).mono ?_
    rintro v H' ⟨rfl, rfl⟩
    conv => whnf
    refine ⟨cat_ok _ _ (by first | omega | (simp; omega)), ?_⟩
    rw [ba_add]
    conv => whnf
    exact ⟨trivial, trivial, by simp [sn], rfl⟩
  case inr.inr.inl | inr.inr.inr.inr.inr.inl =>
    rw [if_neg (by decide), if_neg (fun c => absurd c.1 (by decide)), if_pos (by decide)]
    conv => whnf
    refine (reg1r rd (by omega) (by omega) _).mono ?_
    rintro v H' ⟨rfl, rfl⟩
    conv => whnf
    refine ⟨cat_ok _ _ (by first | omega | (simp; omega)), ?_⟩
    rw [ba_add]
    conv => whnf
    refine (reg1r r1 (by omega) (by omega) _).mono ?_
    rintro v H' ⟨rfl, rfl⟩
    conv => whnf
    refine ⟨cat_ok _ _ (by first | omega | (simp; omega)), ?_⟩
    rw [ba_add]
    conv => whnf
    refine ⟨cat_ok _ [32] (by first | omega | (simp; omega)), ?_⟩
    rw [ba_add _ [32]]
    conv => whnf
    rw [ei]
    refine (num1 im (by omega) (by omega) _).mono ?_
    rintro v H' ⟨rfl, rfl⟩
    conv => whnf
    refine ⟨cat_ok _ _ (by first | omega | (simp; omega)), ?_⟩
    rw [ba_add]
    conv => whnf
    exact ⟨trivial, trivial, by simp [sn], rfl⟩
  case inr.inr.inr.inl | inr.inr.inr.inr.inl =>
    rw [if_neg (by decide), if_neg (fun c => absurd c.1 (by decide)), if_neg (by decide), if_pos (by decide)]
    conv => whnf
    refine (reg1r r1 (by omega) (by omega) _).mono ?_
    rintro v H' ⟨rfl, rfl⟩
    conv => whnf
    refine ⟨cat_ok _ _ (by first | omega | (simp; omega)), ?_⟩
    rw [ba_add]
    conv => whnf
    refine (reg1r r2 (by omega) (by omega) _).mono ?_
    rintro v H' ⟨rfl, rfl⟩
    conv => whnf
    refine ⟨cat_ok _ _ (by first | omega | (simp; omega)), ?_⟩
    rw [ba_add]
    conv => whnf
    refine ⟨cat_ok _ [32] (by first | omega | (simp; omega)), ?_⟩
    rw [ba_add _ [32]]
    conv => whnf
    rw [ei]
    refine (num1 im (by omega) (by omega) _).mono ?_
    rintro v H' ⟨rfl, rfl⟩
    conv => whnf
    refine ⟨cat_ok _ _ (by first | omega | (simp; omega)), ?_⟩
    rw [ba_add]
    conv => whnf
    exact ⟨trivial, trivial, by simp [sn], rfl⟩
  case inr.inr.inr.inr.inr.inr.inl =>
    rw [if_neg (by decide), if_neg (fun c => absurd c.1 (by decide)), if_neg (by decide), if_neg (by decide), if_pos rfl]
    conv => whnf
    refine (reg1r rd (by omega) (by omega) _).mono ?_
    rintro v H' ⟨rfl, rfl⟩
    conv => whnf
    refine ⟨cat_ok _ _ (by first | omega | (simp; omega)), ?_⟩
    rw [ba_add]
    conv => whnf
    refine (reg1r r1 (by omega) (by omega) _).mono ?_
    rintro v H' ⟨rfl, rfl⟩
    conv => whnf
    refine ⟨cat_ok _ _ (by first | omega | (simp; omega)), ?_⟩
    rw [ba_add]
    conv => whnf
    refine (reg1r r2 (by omega) (by omega) _).mono ?_
    rintro v H' ⟨rfl, rfl⟩
    conv => whnf
    refine ⟨cat_ok _ _ (by first | omega | (simp; omega)), ?_⟩
    rw [ba_add]
    conv => whnf
    exact ⟨trivial, trivial, rfl, rfl⟩
  case inr.inr.inr.inr.inr.inr.inr.inl =>
    rw [if_neg (by decide)]
    by_cases c : 53 ≤ op
    · rw [if_pos ⟨rfl, c⟩]
      conv => whnf
      refine (reg1r rd (by omega) (by omega) _).mono ?_
      rintro v H' ⟨rfl, rfl⟩
      conv => whnf
      refine ⟨cat_ok _ _ (by first | omega | (simp; omega)), ?_⟩
      rw [ba_add]
      conv => whnf
      rw [decide_eq_true (show op ≥ 53 from c)]
      conv => whnf
      refine ⟨cat_ok _ [32] (by first | omega | (simp; omega)), ?_⟩
      rw [ba_add _ [32]]
      conv => whnf
      refine (num1 r1 (by omega) (by omega) _).mono ?_
      rintro v H' ⟨rfl, rfl⟩
      conv => whnf
      refine ⟨cat_ok _ _ (by first | omega | (simp; omega)), ?_⟩
      rw [ba_add]
      conv => whnf
      refine ⟨cat_ok _ [32] (by first | omega | (simp; omega)), ?_⟩
      rw [ba_add _ [32]]
      conv => whnf
      rw [ei]
      refine (num1 im (by omega) (by omega) _).mono ?_
      rintro v H' ⟨rfl, rfl⟩
      conv => whnf
      refine ⟨cat_ok _ _ (by first | omega | (simp; omega)), ?_⟩
      rw [ba_add]
      conv => whnf
      exact ⟨trivial, trivial, by simp [sn], rfl⟩
    · rw [if_neg (fun x => c x.2), if_pos (by decide)]
      conv => whnf
      refine (reg1r rd (by omega) (by omega) _).mono ?_
      rintro v H' ⟨rfl, rfl⟩
      conv => whnf
      refine ⟨cat_ok _ _ (by first | omega | (simp; omega)), ?_⟩
      rw [ba_add]
      conv => whnf
      rw [decide_eq_false (show ¬ (op ≥ 53) from c)]
      conv => whnf
      refine (reg1r r1 (by omega) (by omega) _).mono ?_
      rintro v H' ⟨rfl, rfl⟩
      conv => whnf
      refine ⟨cat_ok _ _ (by first | omega | (simp; omega)), ?_⟩
      rw [ba_add]
      conv => whnf
      refine ⟨cat_ok _ [32] (by first | omega | (simp; omega)), ?_⟩
      rw [ba_add _ [32]]
      conv => whnf
      rw [ei]
      refine (num1 im (by omega) (by omega) _).mono ?_
      rintro v H' ⟨rfl, rfl⟩
      conv => whnf
      refine ⟨cat_ok _ _ (by first | omega | (simp; omega)), ?_⟩
      rw [ba_add]
      conv => whnf
      exact ⟨trivial, trivial, by simp [sn], rfl⟩
  case inr.inr.inr.inr.inr.inr.inr.inr.inl =>
    rw [if_neg (by decide), if_neg (fun c => absurd c.1 (by decide)), if_neg (by decide), if_neg (by decide), if_neg (by decide)]
    conv => whnf
    exact ⟨trivial, trivial, rfl, rfl⟩
  case inr.inr.inr.inr.inr.inr.inr.inr.inr => exfalso; omega
theorem rtext1 (t : T5) (H : Hp) : AC Tryd.prog 15 [.agg (ins t)] H (RetH H (tx (txt t))) := (rtext0 t.1 t.2.1 t.2.2.1 t.2.2.2.1 t.2.2.2.2).anyH rfl rfl H
end Go.Proofs.YtjfbpnfegeimfaaDoor.Md
