/- EncodeRanges. -/
import Derived.Test.YtjfbpnfegeimfaaDoorLw
set_option linter.unusedVariables false
set_option linter.unusedSimpArgs false
namespace Go.Proofs.YtjfbpnfegeimfaaDoor.Md
open Go.RowKit Go.Proofs.YtjfbpnfegeimfaaDoor.Ae Go.Proofs.YtjfbpnfegeimfaaDoor.Bv Go.Proofs.YtjfbpnfegeimfaaDoor
/-- With another immediate: valid, if it goes into its field. -/
theorem valid_with {op rd r1 r2 im : Int} (h : valid (op, rd, r1, r2, im)) (n : Int) (hn : -2147483648 ≤ n ∧ n < 2147483648) : valid (op, rd, r1, r2, n) ↔
    ((fmt op = 85 → n % 4096 = 0) ∧ (fmt op = 74 → n % 2 = 0 ∧ -1048576 ≤ n ∧ n < 1048576) ∧ (fmt op = 73 → -2048 ≤ n ∧ n < 2048) ∧ (fmt op = 66 → n % 2 = 0 ∧ -4096 ≤ n ∧ n < 4096) ∧ (fmt op = 83 → -2048 ≤ n ∧ n < 2048) ∧ (fmt op = 72 → 0 ≤ n ∧ n < 32) ∧ (fmt op = 82 → n = 0) ∧ (fmt op = 67 → 0 ≤ n ∧ n < 4096) ∧ (fmt op = 78 → n = 0)) := by
  obtain ⟨v1, v2, v3, v4, v5, hU, hJ, hI, hB, hS, hH, hR, hC, hN⟩ := h
  dsimp only at v1 v2 v3 v4 v5 hU hJ hI hB hS hH hR hC hN
  constructor
  · rintro ⟨_, _, _, _, _, hU', hJ', hI', hB', hS', hH', hR', hC', hN'⟩
    dsimp only at hU' hJ' hI' hB' hS' hH' hR' hC' hN'
    exact ⟨fun e => (hU' e).2.2.1, fun e => (hJ' e).2.2, fun e => (hI' e).2, fun e => (hB' e).2, fun e => (hS' e).2, fun e => (hH' e).2, hR', fun e => (hC' e).2, fun e => (hN' e).2.2.2⟩
  · rintro ⟨hU', hJ', hI', hB', hS', hH', hR', hC', hN'⟩
    exact ⟨v1, v2, v3, v4, v5, fun e => ⟨(hU e).1, (hU e).2.1, hU' e, hn⟩, fun e => ⟨(hJ e).1, (hJ e).2.1, hJ' e⟩, fun e => ⟨(hI e).1, hI' e⟩, fun e => ⟨(hB e).1, hB' e⟩, fun e => ⟨(hS e).1, hS' e⟩, fun e => ⟨(hH e).1, hH' e⟩, hR', fun e => ⟨(hC e).1, hC' e⟩, fun e => ⟨(hN e).1, (hN e).2.1, (hN e).2.2.1, hN' e⟩⟩
theorem tm0 (n k : Int) : (n.tmod k == 0) = decide (n % k = 0) := by
  rw [Bool.eq_iff_iff]
  simp only [beq_iff_eq, decide_eq_true_eq]
  rw [← Int.dvd_iff_tmod_eq_zero, Int.dvd_iff_emod_eq_zero]
set_option maxHeartbeats 4000000 in
theorem ranges0 (tv : V) (b0 : Blk) (ht : tapeOk tv b0) (n : Int) (hn : -2147483648 ≤ n ∧ n < 2147483648) : AC Tryd.prog 6 [.v tv, i32 n] [b0] (fun v _ => v = bo true) := by
  refine AC.of_body dok Tryd.func6 rfl rfl (Nat.le_of_ble_eq_true rfl) ?_
  conv => whnf
  refine (instZ tv b0 ht _ 1 (by decide) (Nat.le_of_ble_eq_true rfl) rfl rfl).mono ?_
  rintro v H' ⟨t, k, hv, rfl, rfl⟩
  obtain ⟨op, rd, r1, r2, im⟩ := t
  conv => whnf
  refine (enc1 (op, rd, r1, r2, n) _).mono ?_
  rintro v H' ⟨rfl, rfl⟩
  conv => whnf
  refine (fmt1 _ _).mono ?_
  rintro v H' ⟨rfl, rfl⟩
  have hw := valid_with hv n hn
  have ei : IntKind.i64.wrap n = n := by rw [IntKind.wrap_i64]; omega
  have hop : 1 ≤ op ∧ op ≤ 55 := valid_op hv
  clear hv ht
  dsimp only
  rcases fmt_cases op with ⟨g, e⟩ | ⟨g, e⟩ | ⟨g, e⟩ | ⟨g, e⟩ | ⟨g, e⟩ | ⟨g, e⟩ | ⟨g, e⟩ | ⟨g, e⟩ | ⟨g, e⟩ | ⟨g, e⟩
  all_goals rw [e] at hw ⊢
  case inl =>
    by_cases hv : valid (op, rd, r1, r2, n)
    · rw [encT_pos hv]
      have hc := hw.1 hv
      conv => whnf
      rw [ei]
      rw [decide_eq_true (show n ≥ -2147483648 by omega)]; conv => whnf
      rw [ei]
      rw [decide_eq_true (show n ≤ 2147479552 by omega)]; conv => whnf
      rw [ei]
      rw [tm0, decide_eq_true (show n % 4096 = 0 by omega)]; conv => whnf
      refine (known1 _).mono ?_
      rintro v H' ⟨rfl, rfl⟩
      conv => whnf
    · rw [encT_neg hv]
      have hc := fun x => hv (hw.2 x)
      clear hw
      conv => whnf
      rw [ei]
      by_cases c1 : n ≥ -2147483648
      · rw [decide_eq_true c1]; conv => whnf
        rw [ei]
        by_cases c2 : n ≤ 2147479552
        · rw [decide_eq_true c2]; conv => whnf
          rw [ei]
          have c3 : ¬ n % 4096 = 0 := fun c3 => hc (by omega)
          rw [tm0, decide_eq_false c3]; conv => whnf
          refine (known1 _).mono ?_
          rintro v H' ⟨rfl, rfl⟩
          conv => whnf
        · rw [decide_eq_false c2]; conv => whnf
          refine (known1 _).mono ?_
          rintro v H' ⟨rfl, rfl⟩
          conv => whnf
      · rw [decide_eq_false c1]; conv => whnf
        refine (known1 _).mono ?_
        rintro v H' ⟨rfl, rfl⟩
        conv => whnf
  case inr.inl =>
    by_cases hv : valid (op, rd, r1, r2, n)
    · rw [encT_pos hv]
      have hc := hw.1 hv
      conv => whnf
      rw [ei]
      rw [decide_eq_true (show n ≥ -1048576 by omega)]; conv => whnf
      rw [ei]
      rw [decide_eq_true (show n ≤ 1048574 by omega)]; conv => whnf
      rw [ei]
      rw [tm0, decide_eq_true (show n % 2 = 0 by omega)]; conv => whnf
      refine (known1 _).mono ?_
      rintro v H' ⟨rfl, rfl⟩
      conv => whnf
    · rw [encT_neg hv]
      have hc := fun x => hv (hw.2 x)
      clear hw
      conv => whnf
      rw [ei]
      by_cases c1 : n ≥ -1048576
      · rw [decide_eq_true c1]; conv => whnf
        rw [ei]
        by_cases c2 : n ≤ 1048574
        · rw [decide_eq_true c2]; conv => whnf
          rw [ei]
          have c3 : ¬ n % 2 = 0 := fun c3 => hc (by omega)
          rw [tm0, decide_eq_false c3]; conv => whnf
          refine (known1 _).mono ?_
          rintro v H' ⟨rfl, rfl⟩
          conv => whnf
        · rw [decide_eq_false c2]; conv => whnf
          refine (known1 _).mono ?_
          rintro v H' ⟨rfl, rfl⟩
          conv => whnf
      · rw [decide_eq_false c1]; conv => whnf
        refine (known1 _).mono ?_
        rintro v H' ⟨rfl, rfl⟩
        conv => whnf
  case inr.inr.inl =>
    by_cases hv : valid (op, rd, r1, r2, n)
    · rw [encT_pos hv]
      have hc := hw.1 hv
      conv => whnf
      rw [ei]
      rw [decide_eq_true (show n ≥ -2048 by omega)]; conv => whnf
      rw [ei]
      rw [decide_eq_true (show n ≤ 2047 by omega)]; conv => whnf
      rw [ei]
      rw [tm0, decide_eq_true (show n % 1 = 0 by omega)]; conv => whnf
      refine (known1 _).mono ?_
      rintro v H' ⟨rfl, rfl⟩
      conv => whnf
    · rw [encT_neg hv]
      have hc := fun x => hv (hw.2 x)
      clear hw
      conv => whnf
      rw [ei]
      by_cases c1 : n ≥ -2048
      · rw [decide_eq_true c1]; conv => whnf
        rw [ei]
        by_cases c2 : n ≤ 2047
        · rw [decide_eq_true c2]; conv => whnf
          rw [ei]
          have c3 : ¬ n % 1 = 0 := fun c3 => hc (by omega)
          rw [tm0, decide_eq_false c3]; conv => whnf
          refine (known1 _).mono ?_
          rintro v H' ⟨rfl, rfl⟩
          conv => whnf
        · rw [decide_eq_false c2]; conv => whnf
          refine (known1 _).mono ?_
          rintro v H' ⟨rfl, rfl⟩
          conv => whnf
      · rw [decide_eq_false c1]; conv => whnf
        refine (known1 _).mono ?_
        rintro v H' ⟨rfl, rfl⟩
        conv => whnf
  case inr.inr.inr.inl =>
    by_cases hv : valid (op, rd, r1, r2, n)
    · rw [encT_pos hv]
      have hc := hw.1 hv
      conv => whnf
      rw [ei]
      rw [decide_eq_true (show n ≥ -4096 by omega)]; conv => whnf
      rw [ei]
      rw [decide_eq_true (show n ≤ 4094 by omega)]; conv => whnf
      rw [ei]
      rw [tm0, decide_eq_true (show n % 2 = 0 by omega)]; conv => whnf
      refine (known1 _).mono ?_
      rintro v H' ⟨rfl, rfl⟩
      conv => whnf
    · rw [encT_neg hv]
      have hc := fun x => hv (hw.2 x)
      clear hw
      conv => whnf
      rw [ei]
      by_cases c1 : n ≥ -4096
      · rw [decide_eq_true c1]; conv => whnf
        rw [ei]
        by_cases c2 : n ≤ 4094
        · rw [decide_eq_true c2]; conv => whnf
          rw [ei]
          have c3 : ¬ n % 2 = 0 := fun c3 => hc (by omega)
          rw [tm0, decide_eq_false c3]; conv => whnf
          refine (known1 _).mono ?_
          rintro v H' ⟨rfl, rfl⟩
          conv => whnf
        · rw [decide_eq_false c2]; conv => whnf
          refine (known1 _).mono ?_
          rintro v H' ⟨rfl, rfl⟩
          conv => whnf
      · rw [decide_eq_false c1]; conv => whnf
        refine (known1 _).mono ?_
        rintro v H' ⟨rfl, rfl⟩
        conv => whnf
  case inr.inr.inr.inr.inl =>
    by_cases hv : valid (op, rd, r1, r2, n)
    · rw [encT_pos hv]
      have hc := hw.1 hv
      conv => whnf
      rw [ei]
      rw [decide_eq_true (show n ≥ -2048 by omega)]; conv => whnf
      rw [ei]
      rw [decide_eq_true (show n ≤ 2047 by omega)]; conv => whnf
      rw [ei]
      rw [tm0, decide_eq_true (show n % 1 = 0 by omega)]; conv => whnf
      refine (known1 _).mono ?_
      rintro v H' ⟨rfl, rfl⟩
      conv => whnf
    · rw [encT_neg hv]
      have hc := fun x => hv (hw.2 x)
      clear hw
      conv => whnf
      rw [ei]
      by_cases c1 : n ≥ -2048
      · rw [decide_eq_true c1]; conv => whnf
        rw [ei]
        by_cases c2 : n ≤ 2047
        · rw [decide_eq_true c2]; conv => whnf
          rw [ei]
          have c3 : ¬ n % 1 = 0 := fun c3 => hc (by omega)
          rw [tm0, decide_eq_false c3]; conv => whnf
          refine (known1 _).mono ?_
          rintro v H' ⟨rfl, rfl⟩
          conv => whnf
        · rw [decide_eq_false c2]; conv => whnf
          refine (known1 _).mono ?_
          rintro v H' ⟨rfl, rfl⟩
          conv => whnf
      · rw [decide_eq_false c1]; conv => whnf
        refine (known1 _).mono ?_
        rintro v H' ⟨rfl, rfl⟩
        conv => whnf
  case inr.inr.inr.inr.inr.inl =>
    by_cases hv : valid (op, rd, r1, r2, n)
    · rw [encT_pos hv]
      have hc := hw.1 hv
      conv => whnf
      rw [ei]
      rw [decide_eq_true (show n ≥ 0 by omega)]; conv => whnf
      rw [ei]
      rw [decide_eq_true (show n ≤ 31 by omega)]; conv => whnf
      rw [ei]
      rw [tm0, decide_eq_true (show n % 1 = 0 by omega)]; conv => whnf
      refine (known1 _).mono ?_
      rintro v H' ⟨rfl, rfl⟩
      conv => whnf
    · rw [encT_neg hv]
      have hc := fun x => hv (hw.2 x)
      clear hw
      conv => whnf
      rw [ei]
      by_cases c1 : n ≥ 0
      · rw [decide_eq_true c1]; conv => whnf
        rw [ei]
        by_cases c2 : n ≤ 31
        · rw [decide_eq_true c2]; conv => whnf
          rw [ei]
          have c3 : ¬ n % 1 = 0 := fun c3 => hc (by omega)
          rw [tm0, decide_eq_false c3]; conv => whnf
          refine (known1 _).mono ?_
          rintro v H' ⟨rfl, rfl⟩
          conv => whnf
        · rw [decide_eq_false c2]; conv => whnf
          refine (known1 _).mono ?_
          rintro v H' ⟨rfl, rfl⟩
          conv => whnf
      · rw [decide_eq_false c1]; conv => whnf
        refine (known1 _).mono ?_
        rintro v H' ⟨rfl, rfl⟩
        conv => whnf
  case inr.inr.inr.inr.inr.inr.inl =>
    by_cases hv : valid (op, rd, r1, r2, n)
    · rw [encT_pos hv]
      have hc := hw.1 hv
      conv => whnf
      rw [ei]
      rw [decide_eq_true (show n ≥ 0 by omega)]; conv => whnf
      rw [ei]
      rw [decide_eq_true (show n ≤ 0 by omega)]; conv => whnf
      rw [ei]
      rw [tm0, decide_eq_true (show n % 1 = 0 by omega)]; conv => whnf
      refine (known1 _).mono ?_
      rintro v H' ⟨rfl, rfl⟩
      conv => whnf
    · rw [encT_neg hv]
      have hc := fun x => hv (hw.2 x)
      clear hw
      conv => whnf
      rw [ei]
      by_cases c1 : n ≥ 0
      · rw [decide_eq_true c1]; conv => whnf
        rw [ei]
        by_cases c2 : n ≤ 0
        · rw [decide_eq_true c2]; conv => whnf
          rw [ei]
          have c3 : ¬ n % 1 = 0 := fun c3 => hc (by omega)
          rw [tm0, decide_eq_false c3]; conv => whnf
          refine (known1 _).mono ?_
          rintro v H' ⟨rfl, rfl⟩
          conv => whnf
        · rw [decide_eq_false c2]; conv => whnf
          refine (known1 _).mono ?_
          rintro v H' ⟨rfl, rfl⟩
          conv => whnf
      · rw [decide_eq_false c1]; conv => whnf
        refine (known1 _).mono ?_
        rintro v H' ⟨rfl, rfl⟩
        conv => whnf
  case inr.inr.inr.inr.inr.inr.inr.inl =>
    by_cases hv : valid (op, rd, r1, r2, n)
    · rw [encT_pos hv]
      have hc := hw.1 hv
      conv => whnf
      rw [ei]
      rw [decide_eq_true (show n ≥ 0 by omega)]; conv => whnf
      rw [ei]
      rw [decide_eq_true (show n ≤ 4095 by omega)]; conv => whnf
      rw [ei]
      rw [tm0, decide_eq_true (show n % 1 = 0 by omega)]; conv => whnf
      refine (known1 _).mono ?_
      rintro v H' ⟨rfl, rfl⟩
      conv => whnf
    · rw [encT_neg hv]
      have hc := fun x => hv (hw.2 x)
      clear hw
      conv => whnf
      rw [ei]
      by_cases c1 : n ≥ 0
      · rw [decide_eq_true c1]; conv => whnf
        rw [ei]
        by_cases c2 : n ≤ 4095
        · rw [decide_eq_true c2]; conv => whnf
          rw [ei]
          have c3 : ¬ n % 1 = 0 := fun c3 => hc (by omega)
          rw [tm0, decide_eq_false c3]; conv => whnf
          refine (known1 _).mono ?_
          rintro v H' ⟨rfl, rfl⟩
          conv => whnf
        · rw [decide_eq_false c2]; conv => whnf
          refine (known1 _).mono ?_
          rintro v H' ⟨rfl, rfl⟩
          conv => whnf
      · rw [decide_eq_false c1]; conv => whnf
        refine (known1 _).mono ?_
        rintro v H' ⟨rfl, rfl⟩
        conv => whnf
  case inr.inr.inr.inr.inr.inr.inr.inr.inl =>
    by_cases hv : valid (op, rd, r1, r2, n)
    · rw [encT_pos hv]
      have hc := hw.1 hv
      conv => whnf
      rw [ei]
      rw [decide_eq_true (show n ≥ 0 by omega)]; conv => whnf
      rw [ei]
      rw [decide_eq_true (show n ≤ 0 by omega)]; conv => whnf
      rw [ei]
      rw [tm0, decide_eq_true (show n % 1 = 0 by omega)]; conv => whnf
      refine (known1 _).mono ?_
      rintro v H' ⟨rfl, rfl⟩
      conv => whnf
    · rw [encT_neg hv]
      have hc := fun x => hv (hw.2 x)
      clear hw
      conv => whnf
      rw [ei]
      by_cases c1 : n ≥ 0
      · rw [decide_eq_true c1]; conv => whnf
        rw [ei]
        by_cases c2 : n ≤ 0
        · rw [decide_eq_true c2]; conv => whnf
          rw [ei]
          have c3 : ¬ n % 1 = 0 := fun c3 => hc (by omega)
          rw [tm0, decide_eq_false c3]; conv => whnf
          refine (known1 _).mono ?_
          rintro v H' ⟨rfl, rfl⟩
          conv => whnf
        · rw [decide_eq_false c2]; conv => whnf
          refine (known1 _).mono ?_
          rintro v H' ⟨rfl, rfl⟩
          conv => whnf
      · rw [decide_eq_false c1]; conv => whnf
        refine (known1 _).mono ?_
        rintro v H' ⟨rfl, rfl⟩
        conv => whnf
  case inr.inr.inr.inr.inr.inr.inr.inr.inr => exfalso; omega
theorem ro_tape {tv : V} {b0 : Blk} (ht : tapeOk tv b0) : ∀ (n : Nat) (l : List Seg), ([b0] : Hp)[n]? ≠ some (Blk.rw l) := by
  intro k l hk
  rcases ht with ⟨_, rfl⟩ | ⟨_, rfl⟩ | ⟨n, l, _, rfl, _⟩ <;> cases k <;> simp at hk
theorem walkRanges {K : Type} {enc : TypeId × Value → K} {W0 : World} {base b2 : Nat} {spare : Nat → Bool} {held : Bool} {x : Option Addr} {n c : Nat} {d : DataW K} {p : List MemPlace} (h1 : DataW.Trod enc Tryd.prog W0 base spare held 29 (.slice x n c) d p) (v1 : Value.okWide Tryd.prog W0 .any b2 29 (.slice x n c))
    (a : Int) (w : World) (gt : GTw w) (wa : (Lit.int .i32 a).wf = true) (e0 : w = W0 := by rfl) :
    Calls Tryd.prog 6 #[.slice x n c, .int .i32 a] w fun e w' => e = .returned (.bool true) ∧ Below w.heap.size w w' := by
  subst e0
  have hn : -2147483648 ≤ a ∧ a < 2147483648 := by
    simp [Lit.wf, IntKind.min, IntKind.max, IntKind.signed, IntKind.bits] at wa; omega
  obtain ⟨tv, b0, R, ht, hr, hx⟩ := openTape gt h1 v1
  exact AC.law (ranges0 tv b0 ht a hn) (.cons hx (.cons rfl .nil)) hr (ro_tape ht)
end Go.Proofs.YtjfbpnfegeimfaaDoor.Md
