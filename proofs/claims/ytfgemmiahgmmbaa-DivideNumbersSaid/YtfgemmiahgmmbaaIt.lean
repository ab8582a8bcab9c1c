/- A unit behind so many steps; and the contract of Step on it. -/
import Derived.Test.YtfgemmiahgmmbaaSd
set_option linter.unusedVariables false
set_option linter.unusedSimpArgs false
namespace Go.Proofs.Ytfgemmiahgmmbaa.Un
open Go.RowKit Go.Proofs.Ytfgemmiahgmmbaa.Bv
def isMul (op : Int) : Bool := decide (38 ≤ op) && decide (op ≤ 41)
/-- What of a number was read behind so many steps. -/
def pre (x k : Nat) : Nat := x / 2 ^ (32 - k)
theorem pre_step (x k : Nat) (hk : k < 32) : pre x (k + 1) = pre x k * 2 + x / 2 ^ (31 - k) % 2 := by
  unfold pre
  rw [show 32 - (k + 1) = 31 - k from by omega, show 32 - k = 31 - k + 1 from by omega, Nat.pow_succ, ← Nat.div_div_eq_div_mul]
  omega
theorem pre_lt (x k : Nat) (hx : x < 4294967296) (hk : k ≤ 32) : pre x k < 2 ^ k := by
  unfold pre
  rw [Nat.div_lt_iff_lt_mul (Nat.two_pow_pos _), ← Nat.pow_add, show k + (32 - k) = 32 from by omega]; exact hx
theorem pre_0 (x : Nat) (hx : x < 4294967296) : pre x 0 = 0 := by unfold pre; rw [Nat.div_eq_of_lt]; simpa using hx
theorem pre_32 (x : Nat) : pre x 32 = x := by unfold pre; simp
theorem pow32 (k : Nat) (hk : k ≤ 32) : 2 ^ k ≤ 4294967296 := Nat.pow_le_pow_right (n := 2) (by decide) hk
def quo (x y k : Nat) : Nat := if y = 0 then 2 ^ k - 1 else pre x k / y
def rem (x y k : Nat) : Nat := if y = 0 then pre x k else pre x k % y
/-- A unit behind so many steps. -/
def at_ (u : Un) (k : Nat) : Un :=
  if isMul u.op then { u with acc := pre u.x k * u.y, out := 0, steps := k } else { u with acc := rem u.x u.y k, out := quo u.x u.y k * 2 ^ (32 - k), steps := k }
theorem at_op (u : Un) (k : Nat) : (at_ u k).op = u.op := by unfold at_; split <;> rfl
theorem at_x (u : Un) (k : Nat) : (at_ u k).x = u.x := by unfold at_; split <;> rfl
theorem at_y (u : Un) (k : Nat) : (at_ u k).y = u.y := by unfold at_; split <;> rfl
theorem at_a (u : Un) (k : Nat) : (at_ u k).a = u.a := by unfold at_; split <;> rfl
theorem at_b (u : Un) (k : Nat) : (at_ u k).b = u.b := by unfold at_; split <;> rfl
theorem at_minus (u : Un) (k : Nat) : (at_ u k).minus = u.minus := by unfold at_; split <;> rfl
theorem at_steps (u : Un) (k : Nat) : (at_ u k).steps = k := by unfold at_; split <;> rfl
theorem mul_at (u : Un) (k : Nat) (hk : k < 32) (hm : isMul u.op = true) : (at_ u k).mulStep = at_ u (k + 1) := by
  have h := pre_step u.x k hk
  have e : pre u.x k * u.y * 2 + u.x / 2 ^ (31 - k) % 2 * u.y = pre u.x (k + 1) * u.y := by rw [h, Nat.add_mul, Nat.mul_right_comm]
  unfold Un.mulStep Un.bit at_
  rw [if_pos hm, if_pos hm]
  simp only [e]
theorem mul_ov (u : Un) (k : Nat) (hk : k < 32) (hx : u.x < 4294967296) (hy : u.y < 4294967296) (hm : isMul u.op = true) : (at_ u k).acc * 2 + (at_ u k).y < 18446744073709551616 := by
  have h1 := pre_lt u.x k hx (by omega)
  have h2 : 2 ^ k ≤ 2 ^ 31 := Nat.pow_le_pow_right (by decide) (by omega)
  rw [at_y]
  unfold at_
  rw [if_pos hm]
  show pre u.x k * u.y * 2 + u.y < _
  have h3 : pre u.x k * u.y ≤ 2147483647 * u.y := Nat.mul_le_mul_right _ (by omega)
  omega
theorem div_acc (u : Un) (k : Nat) (hm : isMul u.op = false) : (at_ u k).acc = rem u.x u.y k ∧ (at_ u k).out = quo u.x u.y k * 2 ^ (32 - k) := by
  unfold at_; rw [if_neg (by rw [hm]; decide)]; exact ⟨rfl, rfl⟩
theorem rem_lt (x y k : Nat) (hx : x < 4294967296) (hy : y < 4294967296) (hk : k < 32) : rem x y k < 4294967296 := by
  have h1 := pre_lt x k hx (by omega)
  have h2 := pow32 k (by omega)
  unfold rem
  split
  · omega
  · have := Nat.mod_lt (pre x k) (show 0 < y by omega); omega
theorem quo_lt (x y k : Nat) (hx : x < 4294967296) (hk : k ≤ 32) : quo x y k < 2 ^ k := by
  have h1 := pre_lt x k hx hk
  have h2 := Nat.two_pow_pos k
  unfold quo
  split
  · omega
  · exact Nat.lt_of_le_of_lt (Nat.div_le_self _ _) h1
theorem out_ok (x y k : Nat) (hx : x < 4294967296) (hk : k < 32) : quo x y k * 2 ^ (32 - k) / 2 ^ (31 - k) % 2 = 0 ∧ quo x y k * 2 ^ (32 - k) < 4294967296 := by
  have h1 := quo_lt x y k hx (by omega)
  constructor
  · rw [show 32 - k = 31 - k + 1 from by omega, Nat.pow_succ, Nat.mul_comm (2 ^ (31 - k)), ← Nat.mul_assoc, Nat.mul_div_cancel _ (Nat.two_pow_pos _)]; omega
  · have h2 : quo x y k * 2 ^ (32 - k) < 2 ^ k * 2 ^ (32 - k) := Nat.mul_lt_mul_of_pos_right h1 (Nat.two_pow_pos _)
    rw [← Nat.pow_add, show k + (32 - k) = 32 from by omega] at h2; exact h2
theorem div_at (u : Un) (k : Nat) (hk : k < 32) (hm : isMul u.op = false) : (at_ u k).divStep = at_ u (k + 1) := by
  have h := pre_step u.x k hk
  have hb : u.x / 2 ^ (31 - k) % 2 < 2 := Nat.mod_lt _ (by decide)
  have hpow : 2 ^ (32 - k) = 2 ^ (31 - k) * 2 := by rw [← Nat.pow_succ]; congr 1; omega
  have hpow2 : 2 ^ (32 - (k + 1)) = 2 ^ (31 - k) := by congr 1; omega
  have hm' : ¬ isMul u.op = true := by rw [hm]; decide
  unfold Un.divStep Un.rest Un.bit at_
  rw [if_neg hm', if_neg hm']
  simp only
  generalize u.x / 2 ^ (31 - k) % 2 = bt at *
  by_cases hy : u.y = 0
  · have e1 : rem u.x u.y k = pre u.x k := by unfold rem; rw [if_pos hy]
    have e2 : rem u.x u.y (k + 1) = pre u.x (k + 1) := by unfold rem; rw [if_pos hy]
    have e3 : quo u.x u.y k = 2 ^ k - 1 := by unfold quo; rw [if_pos hy]
    have e4 : quo u.x u.y (k + 1) = 2 ^ (k + 1) - 1 := by unfold quo; rw [if_pos hy]
    have hp := Nat.two_pow_pos k
    have e5 : (2 ^ k - 1) * 2 ^ (32 - k) + 2 ^ (31 - k) = (2 ^ (k + 1) - 1) * 2 ^ (32 - (k + 1)) := by
      rw [hpow, hpow2, Nat.pow_succ 2 k, Nat.mul_comm (2 ^ (31 - k)) 2, ← Nat.mul_assoc, ← Nat.succ_mul]
      congr 1; omega
    rw [if_pos (by omega), e1, e2, e3, e4, h, e5, hy]; rfl
  · have hy0 : 0 < u.y := by omega
    have e1 : rem u.x u.y k = pre u.x k % u.y := by unfold rem; rw [if_neg hy]
    have e2 : rem u.x u.y (k + 1) = (pre u.x k * 2 + bt) % u.y := by unfold rem; rw [if_neg hy, h]
    have e3 : quo u.x u.y k = pre u.x k / u.y := by unfold quo; rw [if_neg hy]
    have e4 : quo u.x u.y (k + 1) = (pre u.x k * 2 + bt) / u.y := by unfold quo; rw [if_neg hy, h]
    have hd := Nat.div_add_mod (pre u.x k) u.y
    have hml := Nat.mod_lt (pre u.x k) hy0
    rw [e1, e2, e3, e4, hpow2, hpow]
    generalize pre u.x k % u.y = r at *
    generalize pre u.x k / u.y = q at *
    generalize pre u.x k = P at *
    have hP : P * 2 + bt = u.y * (2 * q) + (r * 2 + bt) := by rw [← hd, Nat.add_mul, Nat.mul_comm 2 q, ← Nat.mul_assoc]; omega
    by_cases hge : u.y ≤ r * 2 + bt
    · have hq : (P * 2 + bt) / u.y = 2 * q + 1 ∧ (P * 2 + bt) % u.y = r * 2 + bt - u.y := by
        have e : P * 2 + bt = (r * 2 + bt - u.y) + u.y * (2 * q + 1) := by rw [hP, Nat.mul_add]; omega
        rw [e]
        exact ⟨by rw [Nat.add_mul_div_left _ _ hy0, Nat.div_eq_of_lt (by omega)]; omega, by rw [Nat.add_mul_mod_self_left, Nat.mod_eq_of_lt (by omega)]⟩
      rw [if_pos hge, hq.1, hq.2]
      have e : q * (2 ^ (31 - k) * 2) + 2 ^ (31 - k) = (2 * q + 1) * 2 ^ (31 - k) := by rw [Nat.add_mul, Nat.one_mul, Nat.mul_comm (2 ^ (31 - k)) 2, ← Nat.mul_assoc, Nat.mul_comm q 2]
      rw [e]
    · have hq : (P * 2 + bt) / u.y = 2 * q ∧ (P * 2 + bt) % u.y = r * 2 + bt := by
        rw [hP, Nat.add_comm]
        exact ⟨by rw [Nat.add_mul_div_left _ _ hy0, Nat.div_eq_of_lt (by omega)]; omega, by rw [Nat.add_mul_mod_self_left, Nat.mod_eq_of_lt (by omega)]⟩
      rw [if_neg hge, hq.1, hq.2]
      have e : q * (2 ^ (31 - k) * 2) = 2 * q * 2 ^ (31 - k) := by rw [Nat.mul_comm (2 ^ (31 - k)) 2, ← Nat.mul_assoc, Nat.mul_comm q 2]
      rw [e]
theorem isMul_at (u : Un) (k : Nat) : isMul (at_ u k).op = isMul u.op := by rw [at_op]
/-- A step of a unit that is not done. -/
theorem cStep (W : World) (p : Nat) (u : Un) (k : Nat) (hk : k < 32) (hx : u.x < 4294967296) (hy : u.y < 4294967296) (h : At W p (at_ u k)) :
    Calls Try.prog 10 #[.pointer (some ⟨p, 0, none⟩)] W fun e w' => e = .returned (.bool (((k + 1 : Nat) : Int) == 32)) ∧ At w' p (at_ u (k + 1)) ∧ W.grownBy w' (some p) := by
  have hs := at_steps u k
  have hx' : (at_ u k).x < 18446744073709551616 := by rw [at_x]; omega
  cases hm : isMul u.op
  · obtain ⟨ea, eo⟩ := div_acc u k hm
    have hr := rem_lt u.x u.y k hx hy hk
    obtain ⟨o1, o2⟩ := out_ok u.x u.y k hx hk
    have hov : (at_ u k).acc * 2 + 1 < 18446744073709551616 := by rw [ea]; omega
    have hm' : (decide (38 ≤ (at_ u k).op) && decide ((at_ u k).op ≤ 41)) = false := by rw [at_op]; exact hm
    by_cases hl : (at_ u k).rest < (at_ u k).y
    · have c := cStep_lt W p (at_ u k) h (by omega) hm' hx' hov hl
      rw [hs, div_at u k hk hm] at c; exact c
    · have c := cStep_ge W p (at_ u k) h (by omega) hm' hx' hov (by omega) (by rw [eo, hs]; exact o1) (by rw [eo]; exact o2)
      rw [hs, div_at u k hk hm] at c; exact c
  · have c := cStep_mul W p (at_ u k) h (by omega) (by rw [at_op]; exact hm) hx' (mul_ov u k hk hx hy hm)
    rw [hs, mul_at u k hk hm] at c; exact c
/-- A step of one that is done. -/
theorem cStep_done (W : World) (p : Nat) (u : Un) (h : At W p u) (hs : u.steps = 32) :
    Calls Try.prog 10 #[.pointer (some ⟨p, 0, none⟩)] W fun e w' => e = .returned (.bool true) ∧ W = w' := by
  have hd : (((u.steps : Nat) : Int) == 32) = true := by rw [hs]; rfl
  have H := Lib.hid h
  clear h hs
  go_enter Try.func10, Try.ntmps10
  go_wp2_with fail
  refine (cdone _ p u H.out).mono ?_
  rintro e w' ⟨rfl, rfl⟩
  go_wp2_with fail
  go_ret
  exact ⟨rfl, rfl⟩
end Go.Proofs.Ytfgemmiahgmmbaa.Un
