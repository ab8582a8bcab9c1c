/- What a unit that is done tells is what the op comes to. -/
import Derived.Test.YtfgemmiahgmmbaaNw
import Derived.Test.YtfgemmiahgmmbaaPortA
set_option linter.unusedVariables false
set_option linter.unusedSimpArgs false
namespace Go.Proofs.Ytfgemmiahgmmbaa.Un
open Go.RowKit Go.Proofs.Ytfgemmiahgmmbaa.Bv Go.Proofs.Ytfgemmiahgmmbaa.Alu
theorem size_no (n : Nat) : sizeV n false = (n, false) := by unfold sizeV; rfl
theorem size_neg (n : Nat) (x : Int) (h : wrap32 (n : Int) = x) (hx : x < 0) : sizeV n true = ((-x).toNat, true) := by unfold sizeV; rw [h, decide_eq_true hx]; rfl
theorem size_pos (n : Nat) (x : Int) (h : wrap32 (n : Int) = x) (hx : ¬ x < 0) : sizeV n true = (n, false) := by unfold sizeV; rw [h, decide_eq_false hx]; rfl
theorem pos_is (n : Nat) (hn : n < 4294967296) (x : Int) (h : wrap32 (n : Int) = x) (hx : ¬ x < 0) : (n : Int) = x := by unfold wrap32 at h; omega
theorem at32_mul (u : Un) (h : isMul u.op = true) : at_ u 32 = { u with acc := u.x * u.y, out := 0, steps := 32 } := by
  unfold at_; rw [if_pos h, pre_32]
theorem at32_div (u : Un) (h : isMul u.op = false) (hb : ¬ u.y = 0) : at_ u 32 = { u with acc := u.x % u.y, out := u.x / u.y, steps := 32 } := by
  unfold at_ rem quo; rw [if_neg (by rw [h]; decide), pre_32, if_neg hb, if_neg hb]; simp
theorem sg_true (n : Nat) : sg true n = (-(n : Int)) % 18446744073709551616 := rfl
theorem sg_false (n : Nat) : sg false n = n := rfl
theorem res_38 (a b x y acc out steps : Nat) (m : Bool) : resV ⟨38, a, b, x, y, acc, out, steps, m⟩ = sg m acc % 4294967296 := by
  unfold resV; dsimp only; rw [if_pos (by decide)]
theorem res_high (op : Int) (h : op = 39 ∨ op = 40 ∨ op = 41) (a b x y acc out steps : Nat) (m : Bool) : resV ⟨op, a, b, x, y, acc, out, steps, m⟩ = sg m acc / 4294967296 % 4294967296 := by
  unfold resV; dsimp only; rw [if_neg (by omega), if_pos h]
theorem res_0 (op : Int) (h : op = 42 ∨ op = 43) (a x y acc out steps : Nat) (m : Bool) : resV ⟨op, a, 0, x, y, acc, out, steps, m⟩ = 4294967295 := by
  unfold resV; dsimp only; rw [if_neg (by omega), if_neg (by omega), if_pos rfl, if_neg (by omega)]
theorem res_0r (op : Int) (h : op = 44 ∨ op = 45) (a x y acc out steps : Nat) (m : Bool) : resV ⟨op, a, 0, x, y, acc, out, steps, m⟩ = a := by
  unfold resV; dsimp only; rw [if_neg (by omega), if_neg (by omega), if_pos rfl, if_pos h]
theorem res_quo (op : Int) (h : op = 42 ∨ op = 43) (a b x y acc out steps : Nat) (hb : ¬ b = 0) (m : Bool) : resV ⟨op, a, b, x, y, acc, out, steps, m⟩ = sg m out % 4294967296 := by
  unfold resV; dsimp only; rw [if_neg (by omega), if_neg (by omega), if_neg hb, if_neg (by omega)]
theorem res_rem (op : Int) (h : op = 44 ∨ op = 45) (a b x y acc out steps : Nat) (hb : ¬ b = 0) (m : Bool) : resV ⟨op, a, b, x, y, acc, out, steps, m⟩ = sg m acc % 4294967296 := by
  unfold resV; dsimp only; rw [if_neg (by omega), if_neg (by omega), if_neg hb, if_pos h]
theorem low_sg (m : Bool) (n : Nat) : sg m n % 4294967296 = (if m then -(n : Int) else n) % 4294967296 := by
  cases m
  · rw [sg_false]; rfl
  · rw [sg_true, if_pos rfl]; generalize (n : Int) = z; omega
theorem high_sg (m : Bool) (n : Nat) : sg m n / 4294967296 % 4294967296 = (if m then -(n : Int) else n) / 4294967296 % 4294967296 := by
  cases m
  · rw [sg_false]; rfl
  · rw [sg_true, if_pos rfl]; generalize (n : Int) = z; omega
/-- Sizes and signs of a number. -/
theorem sizes (a : Nat) (ha : a < 4294967296) : (if (sizeV a true).2 then -((sizeV a true).1 : Int) else (sizeV a true).1) = wrap32 (a : Int) := by
  obtain ⟨x, hx⟩ : ∃ x, wrap32 (a : Int) = x := ⟨_, rfl⟩
  rw [hx]
  by_cases h : x < 0
  · rw [size_neg a x hx h]
    clear hx
    simp only [if_true]; omega
  · rw [size_pos a x hx h]
    have := pos_is a ha x hx h
    clear hx
    simpa using this
theorem sizes0 (a : Nat) : (if (sizeV a false).2 then -((sizeV a false).1 : Int) else (sizeV a false).1) = (a : Int) := by rw [size_no]; rfl
theorem sgn_mul (p q : Nat) (m n : Bool) : (if (m != n) then -((p * q : Nat) : Int) else ((p * q : Nat) : Int)) = (if m then -(p : Int) else p) * (if n then -(q : Int) else q) := by
  cases m <;> cases n <;> simp [Int.mul_neg, Int.neg_mul]
theorem init_mul (op : Int) (a b : Nat) (h : op = 38 ∨ op = 39 ∨ op = 40 ∨ op = 41) :
    at_ (initU op a b) 32 = ⟨op, a, b, (sizeV a (firstB op)).1, (sizeV b (firstB op && op != 40)).1, (sizeV a (firstB op)).1 * (sizeV b (firstB op && op != 40)).1, 0, 32, (sizeV a (firstB op)).2 != (sizeV b (firstB op && op != 40)).2⟩ := by
  have hm : isMul (initU op a b).op = true := by
    show isMul op = true
    rcases h with rfl | rfl | rfl | rfl <;> decide
  rw [at32_mul _ hm]
  unfold initU
  rw [if_neg (by omega)]
theorem fin_38 (a b : Nat) : resV (at_ (initU 38 a b) 32) = doI 38 a b := by
  rw [init_mul 38 a b (by decide), show firstB 38 = false from by decide, Bool.false_and, size_no, size_no, res_38, low_sg, doI_38]
  simp
theorem prod_eq (p q : Nat × Bool) (X Y : Int) (hp : (if p.2 then -(p.1 : Int) else p.1) = X) (hq : (if q.2 then -(q.1 : Int) else q.1) = Y) : (if (p.2 != q.2) then -((p.1 * q.1 : Nat) : Int) else ((p.1 * q.1 : Nat) : Int)) = X * Y := by
  rw [sgn_mul, hp, hq]
theorem fin_39 (a b : Nat) (ha : a < 4294967296) (hb : b < 4294967296) : resV (at_ (initU 39 a b) 32) = doI 39 a b := by
  rw [init_mul 39 a b (by decide), show firstB 39 = true from by decide, show (true && (39 : Int) != 40) = true from by decide, res_high 39 (by decide), high_sg, prod_eq _ _ _ _ (sizes a ha) (sizes b hb), doI_39]
theorem fin_40 (a b : Nat) (ha : a < 4294967296) (hb : b < 4294967296) : resV (at_ (initU 40 a b) 32) = doI 40 a b := by
  rw [init_mul 40 a b (by decide), show firstB 40 = true from by decide, show (true && (40 : Int) != 40) = false from by decide, res_high 40 (by decide), high_sg, prod_eq _ _ _ _ (sizes a ha) (sizes0 b), doI_40]
theorem fin_41 (a b : Nat) (ha : a < 4294967296) (hb : b < 4294967296) : resV (at_ (initU 41 a b) 32) = doI 41 a b := by
  rw [init_mul 41 a b (by decide), show firstB 41 = false from by decide, Bool.false_and, res_high 41 (by decide), high_sg, prod_eq _ _ _ _ (sizes0 a) (sizes0 b), doI_41, (mulhu_w a b ha hb).2]
theorem size_zero (s : Bool) : sizeV 0 s = (0, false) := by
  unfold sizeV
  rw [show wrap32 ((0 : Nat) : Int) = 0 from by unfold wrap32; decide, show decide ((0 : Int) < 0) = false from by decide, Bool.and_false]; rfl
theorem size_nz (b : Nat) (hb : b < 4294967296) (s : Bool) (h : ¬ b = 0) : ¬ (sizeV b s).1 = 0 := by
  cases s
  · rw [size_no]; exact h
  · have h2 := sizes b hb
    have h3 := wrap32_zero b hb
    intro h0
    rw [h0] at h2
    simp at h2
    exact h (h3.1 h2.symm)
theorem quo_eq (p q : Nat × Bool) (X Y : Int) (hp : (if p.2 then -(p.1 : Int) else p.1) = X) (hq : (if q.2 then -(q.1 : Int) else q.1) = Y) : (if (p.2 != q.2) then -((p.1 / q.1 : Nat) : Int) else ((p.1 / q.1 : Nat) : Int)) = Int.tdiv X Y := by
  subst hp hq
  obtain ⟨p, m⟩ := p
  obtain ⟨q, n⟩ := q
  cases m <;> cases n <;> simp [Int.neg_tdiv, Int.tdiv_neg, Int.tdiv_eq_ediv_of_nonneg]
theorem rem_eq (p q : Nat × Bool) (X Y : Int) (hp : (if p.2 then -(p.1 : Int) else p.1) = X) (hq : (if q.2 then -(q.1 : Int) else q.1) = Y) : (if p.2 then -((p.1 % q.1 : Nat) : Int) else ((p.1 % q.1 : Nat) : Int)) = Int.tmod X Y := by
  subst hp hq
  obtain ⟨p, m⟩ := p
  obtain ⟨q, n⟩ := q
  cases m <;> cases n <;> simp [Int.neg_tmod, Int.tmod_neg, Int.tmod_eq_emod_of_nonneg]
theorem init_div (op : Int) (a b : Nat) (h : op = 42 ∨ op = 43 ∨ op = 45) (hy : ¬ (sizeV b (firstB op && op != 40)).1 = 0) :
    at_ (initU op a b) 32 = ⟨op, a, b, (sizeV a (firstB op)).1, (sizeV b (firstB op && op != 40)).1, (sizeV a (firstB op)).1 % (sizeV b (firstB op && op != 40)).1, (sizeV a (firstB op)).1 / (sizeV b (firstB op && op != 40)).1, 32, (sizeV a (firstB op)).2 != (sizeV b (firstB op && op != 40)).2⟩ := by
  have hm : isMul (initU op a b).op = false := by
    show isMul op = false
    rcases h with rfl | rfl | rfl <;> decide
  rw [at32_div _ hm hy]
  unfold initU
  rw [if_neg (by omega)]
theorem init_rem (op : Int) (a b : Nat) (h : op = 44) (hy : ¬ (sizeV b (firstB op && op != 40)).1 = 0) :
    at_ (initU op a b) 32 = ⟨op, a, b, (sizeV a (firstB op)).1, (sizeV b (firstB op && op != 40)).1, (sizeV a (firstB op)).1 % (sizeV b (firstB op && op != 40)).1, (sizeV a (firstB op)).1 / (sizeV b (firstB op && op != 40)).1, 32, (sizeV a (firstB op)).2⟩ := by
  have hm : isMul (initU op a b).op = false := by
    show isMul op = false
    rw [h]; decide
  rw [at32_div _ hm hy]
  unfold initU
  rw [if_pos h]
theorem at_b0 (op : Int) (a : Nat) (k : Nat) : ∃ x y acc out steps m, at_ (initU op a 0) k = ⟨op, a, 0, x, y, acc, out, steps, m⟩ := by
  unfold at_
  split
  · exact ⟨_, _, _, _, _, _, rfl⟩
  · exact ⟨_, _, _, _, _, _, rfl⟩
theorem fin_42 (a b : Nat) (ha : a < 4294967296) (hb : b < 4294967296) : resV (at_ (initU 42 a b) 32) = doI 42 a b := by
  by_cases h0 : b = 0
  · subst h0
    obtain ⟨x, y, acc, out, steps, m, e⟩ := at_b0 42 a 32
    rw [e, res_0 42 (by decide), doI_42, if_pos (by decide)]
  · have hy := size_nz b hb (firstB 42 && (42 : Int) != 40) h0
    rw [init_div 42 a b (by decide) hy, show firstB 42 = true from by decide, show (true && (42 : Int) != 40) = true from by decide, res_quo 42 (by decide) _ _ _ _ _ _ _ h0, low_sg, quo_eq _ _ _ _ (sizes a ha) (sizes b hb), doI_42, if_neg (by omega)]
theorem fin_43 (a b : Nat) (ha : a < 4294967296) (hb : b < 4294967296) : resV (at_ (initU 43 a b) 32) = doI 43 a b := by
  by_cases h0 : b = 0
  · subst h0
    obtain ⟨x, y, acc, out, steps, m, e⟩ := at_b0 43 a 32
    rw [e, res_0 43 (by decide), doI_43, if_pos (by decide)]
  · have hy := size_nz b hb (firstB 43 && (43 : Int) != 40) h0
    rw [init_div 43 a b (by decide) hy, show firstB 43 = false from by decide, Bool.false_and, size_no, size_no, res_quo 43 (by decide) _ _ _ _ _ _ _ h0, show (((a, false) : Nat × Bool).2 != ((b, false) : Nat × Bool).2) = false from rfl, sg_false, doI_43, if_neg (by omega)]
    show ((a / b : Nat) : Int) % 4294967296 = _
    rw [Int.natCast_ediv, div_small a b ha]
theorem fin_44 (a b : Nat) (ha : a < 4294967296) (hb : b < 4294967296) : resV (at_ (initU 44 a b) 32) = doI 44 a b := by
  by_cases h0 : b = 0
  · subst h0
    obtain ⟨x, y, acc, out, steps, m, e⟩ := at_b0 44 a 32
    rw [e, res_0r 44 (by decide), doI_44, if_pos (by decide)]
  · have hy := size_nz b hb (firstB 44 && (44 : Int) != 40) h0
    rw [init_rem 44 a b (by decide) hy, show firstB 44 = true from by decide, show (true && (44 : Int) != 40) = true from by decide, res_rem 44 (by decide) _ _ _ _ _ _ _ h0, low_sg, rem_eq _ _ _ _ (sizes a ha) (sizes b hb), doI_44, if_neg (by omega)]
theorem fin_45 (a b : Nat) (ha : a < 4294967296) (hb : b < 4294967296) : resV (at_ (initU 45 a b) 32) = doI 45 a b := by
  by_cases h0 : b = 0
  · subst h0
    obtain ⟨x, y, acc, out, steps, m, e⟩ := at_b0 45 a 32
    rw [e, res_0r 45 (by decide), doI_45, if_pos (by decide)]
  · have hy := size_nz b hb (firstB 45 && (45 : Int) != 40) h0
    rw [init_div 45 a b (by decide) hy, show firstB 45 = false from by decide, Bool.false_and, size_no, size_no, res_rem 45 (by decide) _ _ _ _ _ _ _ h0, show (((a, false) : Nat × Bool).2 != ((b, false) : Nat × Bool).2) = false from rfl, sg_false, doI_45, if_neg (by omega)]
    show ((a % b : Nat) : Int) % 4294967296 = _
    have := Nat.mod_lt a (show 0 < b by omega)
    rw [Int.natCast_emod]
    omega
/-- What a unit that is done tells is what the op comes to. -/
theorem fin (op : Int) (a b : Nat) (h : ¬ (op < 38 ∨ 45 < op)) (ha : a < 4294967296) (hb : b < 4294967296) : resV (at_ (initU op a b) 32) = doI op a b := by
  rcases (show op = 38 ∨ op = 39 ∨ op = 40 ∨ op = 41 ∨ op = 42 ∨ op = 43 ∨ op = 44 ∨ op = 45 by omega) with rfl | rfl | rfl | rfl | rfl | rfl | rfl | rfl
  · exact fin_38 a b
  · exact fin_39 a b ha hb
  · exact fin_40 a b ha hb
  · exact fin_41 a b ha hb
  · exact fin_42 a b ha hb
  · exact fin_43 a b ha hb
  · exact fin_44 a b ha hb
  · exact fin_45 a b ha hb
end Go.Proofs.Ytfgemmiahgmmbaa.Un
