/- DecodeFields: what is decoded, and what it writes and reads. -/
import Derived.Test.YtjhnolnnkebfhaaKd
set_option linter.unusedVariables false
set_option linter.unusedSimpArgs false
namespace Go.Proofs.Ytjhnolnnkebfhaa.Md
open Go.RowKit Go.Proofs.Ytjhnolnnkebfhaa.Ae Go.Proofs.Ytjhnolnnkebfhaa.Bv Go.Proofs.Ytjhnolnnkebfhaa
/-- What holds of an instruction that was decoded. -/
def good (t : T5) : Prop := t = none5 ∨ (1 ≤ t.1 ∧ t.1 ≤ 55 ∧ 0 ≤ t.2.1 ∧ t.2.1 < 32 ∧ 0 ≤ t.2.2.1 ∧ t.2.2.1 < 32 ∧ 0 ≤ t.2.2.2.1 ∧ t.2.2.2.1 < 32)
theorem good_wth {op a b c d : Int} (h : 0 ≤ op ∧ op ≤ 55) (ha : 0 ≤ a ∧ a < 32) (hb : 0 ≤ b ∧ b < 32) (hc : 0 ≤ c ∧ c < 32) : good (wth op a b c d) := by
  unfold wth
  split
  · exact .inl rfl
  · exact .inr ⟨by omega, h.2, ha.1, ha.2, hb.1, hb.2, hc.1, hc.2⟩
theorem good_some {op a b c d : Int} (h : 1 ≤ op ∧ op ≤ 55) (ha : 0 ≤ a ∧ a < 32) (hb : 0 ≤ b ∧ b < 32) (hc : 0 ≤ c ∧ c < 32) : good (op, a, b, c, d) := .inr ⟨h.1, h.2, ha.1, ha.2, hb.1, hb.2, hc.1, hc.2⟩
theorem tab_le {k : Nat} (h : k < 8) : (0 ≤ tI k ∧ tI k ≤ 55) ∧ (0 ≤ tS k ∧ tS k ≤ 55) ∧ (0 ≤ tR k ∧ tR k ≤ 55) ∧ (0 ≤ tM k ∧ tM k ≤ 55) ∧ (0 ≤ tB k ∧ tB k ≤ 55) ∧ (0 ≤ tL k ∧ tL k ≤ 55) ∧ (0 ≤ tW k ∧ tW k ≤ 55) := by
  rcases eight h with rfl | rfl | rfl | rfl | rfl | rfl | rfl | rfl <;> decide
theorem good_ite {c : Prop} [Decidable c] {a b : T5} (ha : good a) (hb : good b) : good (if c then a else b) := by
  by_cases h : c
  · rw [if_pos h]; exact ha
  · rw [if_neg h]; exact hb
theorem reg_le {f7 k : Nat} (h : k < 8) : 0 ≤ regOp f7 k ∧ regOp f7 k ≤ 55 := by
  obtain ⟨a1, a2, a3, a4, a5, a6, a7⟩ := tab_le h
  unfold regOp
  split
  · exact a3
  split
  · exact a4
  split
  · split
    · decide
    · split <;> decide
  · decide
theorem good5 {x code f3 f7 rd r1 r2 : Nat} (h3 : f3 < 8) (hd : rd < 32) (h1 : r1 < 32) (h2 : r2 < 32) : good (D5 x code f3 f7 rd r1 r2) := by
  obtain ⟨a1, a2, a3, a4, a5, a6, a7⟩ := tab_le h3
  have z : (0 : Int) ≤ 0 ∧ (0 : Int) < 32 := by decide
  have hd : (0 : Int) ≤ rd ∧ (rd : Int) < 32 := by omega
  have h1 : (0 : Int) ≤ r1 ∧ (r1 : Int) < 32 := by omega
  have h2 : (0 : Int) ≤ r2 ∧ (r2 : Int) < 32 := by omega
  have n : good none5 := .inl rfl
  exact good_ite (good_some (by decide) hd z z) <| good_ite (good_some (by decide) hd z z) <| good_ite (good_some (by decide) hd z z) <|
    good_ite (good_ite (good_some (by decide) hd h1 z) n) <| good_ite (good_wth a5 z h1 h2) <| good_ite (good_wth a6 hd h1 z) <| good_ite (good_wth a7 z h1 h2) <|
    good_ite (good_ite (good_ite (good_some (by decide) hd h1 z) n) (good_ite (good_ite (good_some (by decide) hd h1 z) (good_ite (good_some (by decide) hd h1 z) n)) (good_wth a1 hd h1 z))) <|
    good_ite (good_wth (reg_le h3) hd h1 h2) <| good_ite (good_ite (good_some (by decide) z z z) n) <|
    good_ite (good_ite (good_some (by decide) z z z) (good_ite (good_some (by decide) z z z) (good_ite (good_some (by decide) z z z) (good_wth a2 hd h1 z)))) n
theorem good_dec (x : Nat) : good (dec x) := good5 (Nat.mod_lt _ (by decide)) (Nat.mod_lt _ (by decide)) (Nat.mod_lt _ (by decide)) (Nat.mod_lt _ (by decide))
theorem as_nat32 {n : Int} (h : 0 ≤ n ∧ n < 4294967296) : ∃ x : Nat, n = x ∧ x < 4294967296 := ⟨n.toNat, by omega, by omega⟩
theorem ten (low : Int) : ∃ k : Nat, k < 10 ∧ (IntKind.i64.wrap (low.tmod 10 + 10)).tmod 10 = k := by
  have h1 : -10 < low.tmod 10 ∧ low.tmod 10 < 10 := by rw [Int.tmod_eq_emod]; split <;> omega
  have h2 : IntKind.i64.wrap (low.tmod 10 + 10) = low.tmod 10 + 10 := by rw [IntKind.wrap_i64]; omega
  rw [h2]
  rw [Int.tmod_eq_emod_of_nonneg (by omega)]
  exact ⟨((low.tmod 10 + 10) % 10).toNat, by omega, by omega⟩
theorem fields0 (w : Nat) (low : Int) : AC Try.prog 6 [u32 w, i64 low] [] (Ret (bo true)) := by
  refine AC.clean rfl (AC.of_body dok Try.func6 rfl rfl (Nat.le_of_ble_eq_true rfl) ?_)
  conv => whnf
  obtain ⟨k, hk, e⟩ := ten low
  rw [e]; conv => whnf
  rw [blt_of hk]; conv => whnf
  rw [show Nat.blt ((0 + k) * (0 + 1)) (0 + 1 + 1 + 1 + 1 + 1 + 1 + 1 + 1 + 1 + 1) = true from blt_of (by omega)]; conv => whnf
  obtain ⟨x, ex, hx⟩ := as_nat32 (range32 BinOp.or (bits BinOp.andNot IntKind.u32 (w : Int) 127) ([55, 23, 111, 103, 99, 3, 35, 19, 51, 115].getD ((0 + k) * (0 + 1)) 0))
  rw [ex]
  have g := good_dec x
  rcases hd : dec x with ⟨op, rd, r1, r2, im⟩
  rw [hd] at g
  refine (decT hd hx _).mono ?_
  rintro v H' ⟨rfl, rfl⟩
  conv => whnf
  refine (rds1 op rd r1 r2 im _).mono ?_
  rintro v H' ⟨rfl, rfl⟩
  by_cases z : op = 0
  · have e0 : ((op, rd, r1, r2, im) : T5) = none5 := by
      rcases g with g | g
      · exact g
      · exact absurd g.1 (by simp only [z]; decide)
    simp only [none5, Prod.mk.injEq] at e0
    obtain ⟨rfl, rfl, rfl, rfl, rfl⟩ := e0
    conv => whnf
    refine (wr1 _ _ _ _ _ _).mono ?_
    rintro v H' ⟨rfl, rfl⟩
    conv => whnf
    refine (known1 _).mono ?_
    rintro v H' ⟨rfl, rfl⟩
    conv => whnf
    exact ⟨trivial, trivial, rfl, rfl⟩
  have g : 1 ≤ op ∧ op ≤ 55 ∧ 0 ≤ rd ∧ rd < 32 ∧ 0 ≤ r1 ∧ r1 < 32 ∧ 0 ≤ r2 ∧ r2 < 32 := by
    rcases g with g | g
    · exact absurd (congrArg (fun t : T5 => t.1) g) z
    · exact g
  refine cb_false (by simpa using z) ?_
  conv => whnf
  have sl : (slowI op = 0 ∧ ¬ (38 ≤ op ∧ op ≤ 45)) ∨ (slowI op ≠ 0 ∧ 38 ≤ op ∧ op ≤ 45) := by
    unfold slowI
    split
    · exact .inr ⟨by decide, by omega⟩
    split
    · exact .inr ⟨by decide, by omega⟩
    · exact .inl ⟨rfl, by omega⟩
  cases hw : wrB op rd <;> cases h1 : rd1 op <;> cases h2 : rd2 op <;> have hw0 := hw <;> simp only [wrB, rd1, rd2, decide_eq_true_eq, decide_eq_false_iff_not] at hw h1 h2 <;> first | (exfalso; omega) | skip
  all_goals repeat (refine cb_true (decide_eq_true (by omega)) ?_; conv => whnf)
  all_goals refine (wr1 _ _ _ _ _ _).mono ?_
  all_goals rintro v H' ⟨rfl, rfl⟩
  all_goals rw [hw0]
  all_goals conv => whnf
  all_goals repeat (refine cb_intro (fun h => ?_) (fun h => ?_) <;> simp only [beq_iff_eq, beq_eq_false_iff_ne, bne_iff_ne, bne_eq_false_iff_eq, ne_eq, decide_eq_true_eq, decide_eq_false_iff_not] at h <;> first | (exfalso; omega) | conv => whnf)
  all_goals refine (slow1 _ _ _ _ _ _).mono ?_
  all_goals rintro v H' ⟨rfl, rfl⟩
  all_goals conv => whnf
  all_goals repeat' (refine cb_intro (fun h => ?_) (fun h => ?_) <;> simp only [beq_iff_eq, beq_eq_false_iff_ne, bne_iff_ne, bne_eq_false_iff_eq, ne_eq, decide_eq_true_eq, decide_eq_false_iff_not] at h <;> first | (exfalso; omega) | conv => whnf)
  all_goals refine (known1 _).mono ?_
  all_goals rintro v H' ⟨rfl, rfl⟩
  all_goals conv => whnf
  all_goals repeat' (refine cb_intro (fun h => ?_) (fun h => ?_) <;> simp only [beq_iff_eq, beq_eq_false_iff_ne, bne_iff_ne, bne_eq_false_iff_eq, ne_eq, decide_eq_true_eq, decide_eq_false_iff_not] at h <;> first | (exfalso; omega) | conv => whnf)
  all_goals exact ⟨trivial, trivial, rfl, rfl⟩
theorem walkFields (a b : Int) (W : World) (wa : (Lit.int .u32 a).wf = true) (wb : (Lit.int .i64 b).wf = true) : Calls Try.prog 6 #[.int .u32 a, .int .i64 b] W fun e w' => e = .returned (.bool true) ∧ Below W.heap.size W w' := by
  obtain ⟨n, rfl, hn⟩ := wf_u32 wa
  exact AC.law0 ((fields0 n b).mono fun v H h => h.1) (.cons rfl (.cons rfl .nil)) W
end Go.Proofs.Ytjhnolnnkebfhaa.Md
