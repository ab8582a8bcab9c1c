/- DecodeLoads: words that are put together, and what they decode to. -/
import Derived.Test.YtjhnolnnkebfhaaLf
set_option linter.unusedVariables false
set_option linter.unusedSimpArgs false
namespace Go.Proofs.Ytjhnolnnkebfhaa.Md
open Go.RowKit Go.Proofs.Ytjhnolnnkebfhaa.Ae Go.Proofs.Ytjhnolnnkebfhaa.Bv Go.Proofs.Ytjhnolnnkebfhaa
theorem fld_or (a b s n : Nat) : (a ||| b) / 2 ^ s % 2 ^ n = (a / 2 ^ s % 2 ^ n) ||| (b / 2 ^ s % 2 ^ n) := by
  rw [← Nat.shiftRight_eq_div_pow, ← Nat.shiftRight_eq_div_pow, ← Nat.shiftRight_eq_div_pow, Nat.shiftRight_or_distrib, Nat.or_mod_two_pow]
theorem fld_and (a b s n : Nat) : (a &&& b) / 2 ^ s % 2 ^ n = (a / 2 ^ s % 2 ^ n) &&& (b / 2 ^ s % 2 ^ n) := by
  rw [← Nat.shiftRight_eq_div_pow, ← Nat.shiftRight_eq_div_pow, ← Nat.shiftRight_eq_div_pow, Nat.shiftRight_and_distrib, Nat.and_mod_two_pow]
theorem and_ones (a s n m : Nat) (hm : m = 2 ^ n - 1) : (a / 2 ^ s % 2 ^ n) &&& m = a / 2 ^ s % 2 ^ n := by
  subst hm; rw [Nat.and_two_pow_sub_one_eq_mod, Nat.mod_mod]
theorem andNot_lit (a m m' : Nat) (ha : a < 4294967296) (hm : m' < 4294967296) (h : ~~~BitVec.ofInt 32 (m : Int) = BitVec.ofInt 32 (m' : Int)) : bits .andNot .u32 (a : Int) (m : Int) = ((a &&& m' : Nat) : Int) := by
  rw [andNot32, h, ← and32, nand32 a m' ha hm]
theorem lt_and (a b : Nat) (h : a < 4294967296) : a &&& b < 4294967296 := Nat.lt_of_le_of_lt Nat.and_le_left h
theorem lt_or (a b : Nat) (ha : a < 4294967296) (hb : b < 4294967296) : a ||| b < 4294967296 := Nat.or_lt_two_pow (n := 32) ha hb
/-- A register op's word: its parts. -/
theorem loads_parts (w x y : Nat) (hx : x < 32) (hy : y < 32) :
    dec ((w &&& 4293947392) ||| 51) = wth (regOp (w / 2 ^ 25 % 2 ^ 7) (w / 2 ^ 12 % 2 ^ 3)) 0 0 (w / 2 ^ 20 % 2 ^ 5 : Nat) 0 ∧
    dec (((w &&& 4293947392) ||| 51) ||| (x * 128) ||| (y * 32768)) = wth (regOp (w / 2 ^ 25 % 2 ^ 7) (w / 2 ^ 12 % 2 ^ 3)) x y (w / 2 ^ 20 % 2 ^ 5 : Nat) 0 := by
  have x0 : x * 128 / 2 ^ 0 % 2 ^ 7 = 0 := by omega
  have x1 : x * 128 / 2 ^ 12 % 2 ^ 3 = 0 := by omega
  have x2 : x * 128 / 2 ^ 25 % 2 ^ 7 = 0 := by omega
  have x3 : x * 128 / 2 ^ 7 % 2 ^ 5 = x := by omega
  have x4 : x * 128 / 2 ^ 15 % 2 ^ 5 = 0 := by omega
  have x5 : x * 128 / 2 ^ 20 % 2 ^ 5 = 0 := by omega
  have y0 : y * 32768 / 2 ^ 0 % 2 ^ 7 = 0 := by omega
  have y1 : y * 32768 / 2 ^ 12 % 2 ^ 3 = 0 := by omega
  have y2 : y * 32768 / 2 ^ 25 % 2 ^ 7 = 0 := by omega
  have y3 : y * 32768 / 2 ^ 7 % 2 ^ 5 = 0 := by omega
  have y4 : y * 32768 / 2 ^ 15 % 2 ^ 5 = y := by omega
  have y5 : y * 32768 / 2 ^ 20 % 2 ^ 5 = 0 := by omega
  have m0 : 4293947392 / 2 ^ 0 % 2 ^ 7 = 0 := by decide
  have m1 : 4293947392 / 2 ^ 12 % 2 ^ 3 = 2 ^ 3 - 1 := by decide
  have m2 : 4293947392 / 2 ^ 25 % 2 ^ 7 = 2 ^ 7 - 1 := by decide
  have m3 : 4293947392 / 2 ^ 7 % 2 ^ 5 = 0 := by decide
  have m4 : 4293947392 / 2 ^ 15 % 2 ^ 5 = 0 := by decide
  have m5 : 4293947392 / 2 ^ 20 % 2 ^ 5 = 2 ^ 5 - 1 := by decide
  have c0 : 51 / 2 ^ 0 % 2 ^ 7 = 51 := by decide
  have c1 : 51 / 2 ^ 12 % 2 ^ 3 = 0 := by decide
  have c2 : 51 / 2 ^ 25 % 2 ^ 7 = 0 := by decide
  have c3 : 51 / 2 ^ 7 % 2 ^ 5 = 0 := by decide
  have c4 : 51 / 2 ^ 15 % 2 ^ 5 = 0 := by decide
  have c5 : 51 / 2 ^ 20 % 2 ^ 5 = 0 := by decide
  unfold dec
  simp only [fld_or, fld_and, x0, x1, x2, x3, x4, x5, y0, y1, y2, y3, y4, y5, m0, m1, m2, m3, m4, m5, c0, c1, c2, c3, c4, c5, and_ones _ _ _ _ rfl, Nat.or_zero, Nat.and_zero, Nat.zero_or]
  exact ⟨rfl, rfl⟩
theorem reg_range (f7 : Nat) {f3 : Nat} (h : f3 < 8) : regOp f7 f3 = 0 ∨ (28 ≤ regOp f7 f3 ∧ regOp f7 f3 ≤ 45) := by
  unfold regOp
  split
  · right; rcases eight h with rfl | rfl | rfl | rfl | rfl | rfl | rfl | rfl <;> decide
  split
  · right; rcases eight h with rfl | rfl | rfl | rfl | rfl | rfl | rfl | rfl <;> decide
  split
  · split
    · right; decide
    · split
      · right; decide
      · left; rfl
  · left; rfl
theorem wrB_reg {op x : Int} (h : 28 ≤ op ∧ op ≤ 45) : wrB op x = (x != 0) := by
  unfold wrB
  by_cases hx : x = 0
  · subst hx; rw [decide_eq_false (by omega)]; rfl
  · rw [decide_eq_true (by omega)]; symm; simpa using hx
theorem loads0 (n : Nat) (a1 a2 : Int) (hn : n < 4294967296) : AC Try.prog 3 [u32 n, i64 a1, i64 a2] [] (Ret (bo true)) := by
  have e1 : bits .andNot .u32 (n : Int) 1019903 = ((n &&& 4293947392 : Nat) : Int) := andNot_lit n 1019903 4293947392 hn (by decide) (by decide)
  have hv0 := lt_and n 4293947392 hn
  have e2 : bits .or .u32 ((n &&& 4293947392 : Nat) : Int) 51 = (((n &&& 4293947392) ||| 51 : Nat) : Int) := nor32 (n &&& 4293947392) 51 hv0 (by decide)
  have hv := lt_or _ 51 hv0 (by decide)
  have e3 : bits .and .i64 a1 31 = a1 % 32 := and_mask_i64 5 (by decide) a1 31 (by decide)
  have e4 : bits .and .i64 a2 31 = a2 % 32 := and_mask_i64 5 (by decide) a2 31 (by decide)
  obtain ⟨x, hx⟩ : ∃ x : Nat, a1 % 32 = (x : Int) := ⟨(a1 % 32).toNat, by omega⟩
  obtain ⟨y, hy⟩ : ∃ y : Nat, a2 % 32 = (y : Int) := ⟨(a2 % 32).toNat, by omega⟩
  have hx1 : x < 32 := by omega
  have hy1 : y < 32 := by omega
  rw [hx] at e3
  rw [hy] at e4
  obtain ⟨P, Q⟩ := loads_parts n x y hx1 hy1
  have hr := reg_range (n / 2 ^ 25 % 2 ^ 7) (f3 := n / 2 ^ 12 % 2 ^ 3) (Nat.mod_lt _ (by decide))
  refine AC.clean rfl (AC.of_body dok Try.func3 rfl rfl (Nat.le_of_ble_eq_true rfl) ?_)
  conv => whnf
  rw [e1, e2]
  generalize hV : (n &&& 4293947392) ||| 51 = v at *
  generalize hop : regOp (n / 2 ^ 25 % 2 ^ 7) (n / 2 ^ 12 % 2 ^ 3) = op at *
  generalize n / 2 ^ 20 % 2 ^ 5 = r2 at *
  have o1 := nor32 v (x * 2 ^ 7) hv (by omega)
  have hv2 := lt_or v (x * 2 ^ 7) hv (by omega)
  have o2 := nor32 (v ||| x * 2 ^ 7) (y * 2 ^ 15) hv2 (by omega)
  have hv3 := lt_or _ (y * 2 ^ 15) hv2 (by omega)
  have x3 : IntKind.u32.wrap (x : Int) = x := u32_nat x (by omega)
  have y3 : IntKind.u32.wrap (y : Int) = y := u32_nat y (by omega)
  rw [e3, e4, x3, y3]
  by_cases h0 : op = 0
  · rw [wth_z h0] at P Q
    refine (decT P hv _).mono ?_
    rintro v' H' ⟨rfl, rfl⟩
    conv => whnf
    rw [shl32 x 7 (by omega), shl32 y 15 (by omega), o1, o2]
    refine (decT Q hv3 _).mono ?_
    rintro v' H' ⟨rfl, rfl⟩
    conv => whnf
    refine (known1 _).mono ?_
    rintro v' H' ⟨rfl, rfl⟩
    conv => whnf
    exact ⟨trivial, trivial, rfl, rfl⟩
  · rw [wth_nz h0] at P Q
    have hne : (op != 0) = true := by simpa using h0
    refine (decT P hv _).mono ?_
    rintro v' H' ⟨rfl, rfl⟩
    rw [hne]
    conv => whnf
    rw [shl32 x 7 (by omega), shl32 y 15 (by omega), o1, o2]
    refine (decT Q hv3 _).mono ?_
    rintro v' H' ⟨rfl, rfl⟩
    rw [hne]
    conv => whnf
    rw [i64_nat x (by omega), i64_nat y (by omega), eqI_self]; conv => whnf
    refine (wr1 _ _ _ _ _ _).mono ?_
    rintro v' H' ⟨rfl, rfl⟩
    rw [wrB_reg (by omega)]
    conv => whnf
    rw [beq_self_eq_true]; conv => whnf
    refine (known1 _).mono ?_
    rintro v' H' ⟨rfl, rfl⟩
    conv => whnf
    exact ⟨trivial, trivial, rfl, rfl⟩
theorem walkLoads (a b c : Int) (W : World) (wa : (Lit.int .u32 a).wf = true) (wb : (Lit.int .i64 b).wf = true) (wc : (Lit.int .i64 c).wf = true) : Calls Try.prog 3 #[.int .u32 a, .int .i64 b, .int .i64 c] W fun e w' => e = .returned (.bool true) ∧ Below W.heap.size W w' := by
  obtain ⟨n, rfl, hn⟩ := wf_u32 wa
  exact AC.law0 ((loads0 n b c hn).mono fun v H h => h.1) (.cons rfl (.cons rfl (.cons rfl .nil))) W
end Go.Proofs.Ytjhnolnnkebfhaa.Md
