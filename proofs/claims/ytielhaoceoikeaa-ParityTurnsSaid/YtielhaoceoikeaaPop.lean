/- How many bits of a number are 1, and what that comes to under and, or, exclusive or, parts of a number: for natural numbers. -/
namespace Go.Proofs.Ytielhaoceoikeaa.Pop
/-- How many bits are 1. -/
def pc : Nat → Nat
  | 0 => 0
  | n + 1 => (n + 1) % 2 + pc ((n + 1) / 2)
termination_by n => n
decreasing_by omega

theorem pc_zero : pc 0 = 0 := by rw [pc]
theorem pc_eq (n : Nat) : pc n = n % 2 + pc (n / 2) := by
  cases n with
  | zero => simp [pc_zero]
  | succ n => rw [pc]
theorem pc_odd (m : Nat) : pc (2 * m + 1) = pc m + 1 := by
  have h1 : (2 * m + 1) % 2 = 1 := by omega
  have h2 : (2 * m + 1) / 2 = m := by omega
  rw [pc_eq, h1, h2]; omega
theorem pc_even (m : Nat) : pc (2 * m) = pc m := by
  have h1 : (2 * m) % 2 = 0 := by omega
  have h2 : (2 * m) / 2 = m := by omega
  rw [pc_eq, h1, h2]; omega

theorem and_div (a b : Nat) : (a &&& b) / 2 = a / 2 &&& b / 2 := by
  have := Nat.shiftRight_and_distrib (a := a) (b := b) (i := 1)
  simpa only [Nat.shiftRight_eq_div_pow, Nat.pow_one] using this
theorem or_div (a b : Nat) : (a ||| b) / 2 = a / 2 ||| b / 2 := by
  have := Nat.shiftRight_or_distrib (a := a) (b := b) (i := 1)
  simpa only [Nat.shiftRight_eq_div_pow, Nat.pow_one] using this
theorem xor_div (a b : Nat) : (a ^^^ b) / 2 = a / 2 ^^^ b / 2 := by
  have := Nat.shiftRight_xor_distrib (a := a) (b := b) (i := 1)
  simpa only [Nat.shiftRight_eq_div_pow, Nat.pow_one] using this
theorem and_mod (a b : Nat) : (a &&& b) % 2 = a % 2 * (b % 2) := by
  have := Nat.and_mod_two_pow (a := a) (b := b) (n := 1)
  simp only [Nat.pow_one] at this; rw [this]
  rcases Nat.mod_two_eq_zero_or_one a with h | h <;> rcases Nat.mod_two_eq_zero_or_one b with k | k <;> rw [h, k] <;> rfl
theorem or_mod (a b : Nat) : (a ||| b) % 2 = a % 2 + b % 2 - a % 2 * (b % 2) := by
  have := Nat.or_mod_two_pow (a := a) (b := b) (n := 1)
  simp only [Nat.pow_one] at this; rw [this]
  rcases Nat.mod_two_eq_zero_or_one a with h | h <;> rcases Nat.mod_two_eq_zero_or_one b with k | k <;> rw [h, k] <;> rfl
theorem xor_mod (a b : Nat) : (a ^^^ b) % 2 = (a % 2 + b % 2) % 2 := by
  have := Nat.xor_mod_two_pow (a := a) (b := b) (n := 1)
  simp only [Nat.pow_one] at this; rw [this]
  rcases Nat.mod_two_eq_zero_or_one a with h | h <;> rcases Nat.mod_two_eq_zero_or_one b with k | k <;> rw [h, k] <;> rfl

/-- One bit is taken away. -/
theorem pc_and_pred (n : Nat) : 0 < n → pc (n &&& (n - 1)) + 1 = pc n := by
  induction n using Nat.strongRecOn with
  | ind n ih =>
    intro h
    rw [pc_eq (n &&& (n - 1)), and_div, and_mod, pc_eq n]
    rcases Nat.mod_two_eq_zero_or_one n with e | e
    · have h2 : (n - 1) / 2 = n / 2 - 1 := by omega
      have := ih (n / 2) (by omega) (by omega)
      rw [h2, e, Nat.zero_mul]; omega
    · have h2 : (n - 1) / 2 = n / 2 := by omega
      have h3 : (n - 1) % 2 = 0 := by omega
      rw [h2, h3, Nat.and_self, e]; omega
theorem and_pred_lt (n : Nat) (h : 0 < n) : n &&& (n - 1) < n := by
  have := Nat.and_le_right (n := n) (m := n - 1)
  omega
theorem pc_or_and (a : Nat) : ∀ b, pc (a ||| b) + pc (a &&& b) = pc a + pc b := by
  induction a using Nat.strongRecOn with
  | ind a ih =>
    intro b
    by_cases h : a = 0
    · subst h; simp [pc_zero]
    · have := ih (a / 2) (by omega) (b / 2)
      rw [pc_eq (a ||| b), pc_eq (a &&& b), pc_eq a, pc_eq b, or_div, and_div, or_mod, and_mod]
      rcases Nat.mod_two_eq_zero_or_one a with h | h <;> rcases Nat.mod_two_eq_zero_or_one b with k | k <;> rw [h, k] <;> simp only [Nat.mul_zero, Nat.mul_one] <;> omega
theorem pc_xor (a : Nat) : ∀ b, pc (a ^^^ b) % 2 = (pc a + pc b) % 2 := by
  induction a using Nat.strongRecOn with
  | ind a ih =>
    intro b
    by_cases h : a = 0
    · subst h; simp [pc_zero]
    · have := ih (a / 2) (by omega) (b / 2)
      rw [pc_eq (a ^^^ b), pc_eq a, pc_eq b, xor_div, xor_mod]
      omega
/-- A number in two parts. -/
theorem pc_parts (k : Nat) : ∀ n, pc n = pc (n / 2 ^ k) + pc (n % 2 ^ k) := by
  induction k with
  | zero => intro n; simp [pc_zero, Nat.mod_one]
  | succ k ih =>
    intro n
    rw [pc_eq n, ih (n / 2), pc_eq (n % 2 ^ (k + 1))]
    have h1 : n / 2 / 2 ^ k = n / 2 ^ (k + 1) := by rw [Nat.div_div_eq_div_mul, Nat.pow_succ, Nat.mul_comm]
    have h2 : n % 2 ^ (k + 1) % 2 = n % 2 := Nat.mod_mod_of_dvd _ ⟨2 ^ k, by rw [Nat.pow_succ, Nat.mul_comm]⟩
    have h3 : n % 2 ^ (k + 1) / 2 = n / 2 % 2 ^ k := by rw [Nat.pow_succ, Nat.mul_comm, Nat.mod_mul_right_div_self]
    rw [h1, h2, h3]; omega
/-- A number turned all over. -/
theorem pc_not (k : Nat) : ∀ n, n < 2 ^ k → pc (2 ^ k - 1 - n) + pc n = k := by
  induction k with
  | zero => intro n h; have : n = 0 := by simpa using h
            subst this; simp [pc_zero]
  | succ k ih =>
    intro n h
    rw [Nat.pow_succ] at *
    have := ih (n / 2) (by omega)
    rw [pc_eq (2 ^ k * 2 - 1 - n), pc_eq n]
    have e : (2 ^ k * 2 - 1 - n) / 2 = 2 ^ k - 1 - n / 2 := by omega
    rw [e]; omega
theorem pc_two_pow (k : Nat) : pc (2 ^ k) = 1 := by
  induction k with
  | zero => rw [pc_eq]; simp [pc_zero]
  | succ k ih => rw [Nat.pow_succ, Nat.mul_comm, pc_even, ih]
theorem pc_le (k : Nat) : ∀ n, n < 2 ^ k → pc n ≤ k := fun n h => by have := pc_not k n h; omega
end Go.Proofs.Ytielhaoceoikeaa.Pop
