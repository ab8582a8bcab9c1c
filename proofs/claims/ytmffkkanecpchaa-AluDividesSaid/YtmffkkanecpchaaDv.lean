/- The law AluDivides, walked; and the numbers that it asks. -/
import Derived.Test.YtmffkkanecpchaaLw
set_option linter.unusedVariables false
set_option linter.unusedSimpArgs false
namespace Go.Proofs.Ytmffkkanecpchaa.Alu
open Go.RowKit Go.Proofs.Ytmffkkanecpchaa.Bv
theorem near (a : Int) : ∃ k, wrap32 a = a + 4294967296 * k := by
  refine ⟨(wrap32 a - a) / 4294967296, ?_⟩
  unfold wrap32; omega
theorem mod_near (z : Int) : ∃ k, z % 4294967296 = z + 4294967296 * k := ⟨-(z / 4294967296), by omega⟩
/-- Quotient times divisor and the rest, reckoned in 32 bits. -/
theorem back32 (a b : Int) : ((Int.tdiv (wrap32 a) (wrap32 b) % 4294967296) * b + Int.tmod (wrap32 a) (wrap32 b)) % 4294967296 = a % 4294967296 := by
  obtain ⟨k1, e1⟩ := near a
  obtain ⟨k2, e2⟩ := near b
  generalize hx : wrap32 a = x at *
  generalize hy : wrap32 b = y at *
  obtain ⟨k3, e3⟩ := mod_near (Int.tdiv x y)
  have e4 : Int.tdiv x y * y + Int.tmod x y = x := by have := Int.mul_tdiv_add_tmod x y; rw [Int.mul_comm] at this; exact this
  rw [e3]
  have e5 : b = y + 4294967296 * (-k2) := by omega
  have e6 : (Int.tdiv x y + 4294967296 * k3) * b + Int.tmod x y = x + 4294967296 * (Int.tdiv x y * (-k2) + k3 * b) := by
    rw [Int.add_mul]
    have : Int.tdiv x y * b = Int.tdiv x y * y + 4294967296 * (Int.tdiv x y * (-k2)) := by
      conv => lhs; rw [e5]
      rw [Int.mul_add, ← Int.mul_assoc, ← Int.mul_assoc, Int.mul_comm (Int.tdiv x y) 4294967296]
    rw [this, Int.mul_add, Int.mul_assoc]
    omega
  rw [e6, Int.add_mul_emod_self_left, e1, Int.add_mul_emod_self_left]
theorem rest_lt (x y : Int) (hy : ¬ y = 0) : (0 < y → -y < Int.tmod x y ∧ Int.tmod x y < y) ∧ (y < 0 → y < Int.tmod x y ∧ Int.tmod x y < -y) := by
  constructor
  · intro h
    exact ⟨by have := Int.lt_tmod_of_pos x h; omega, Int.tmod_lt_of_pos x h⟩
  · intro h
    have h2 : 0 < -y := by omega
    have e : Int.tmod x (-y) = Int.tmod x y := Int.tmod_neg x y
    have h3 := Int.lt_tmod_of_pos x h2
    have h4 := Int.tmod_lt_of_pos x h2
    rw [e] at h3 h4
    exact ⟨by omega, h4⟩
theorem whole (p : Nat) (hp : p < 18446744073709551616) : Go.bits .or .u64 ((p : Int) / 4294967296 * 4294967296) ((p : Int) % 4294967296) = (p : Int) := by
  have e1 : ((p : Int) / 4294967296 * 4294967296) = ((p / 4294967296 * 4294967296 : Nat) : Int) := by omega
  have e2 : ((p : Int) % 4294967296) = ((p % 4294967296 : Nat) : Int) := by omega
  have h := Nat.two_pow_add_eq_or_of_lt (i := 32) (b := p % 4294967296) (Nat.mod_lt _ (by decide)) (p / 4294967296)
  simp only [show (2 : Nat) ^ 32 = 4294967296 from rfl] at h
  rw [e1, e2, nor64 _ _ (by omega) (by omega), Nat.mul_comm, ← h]
  congr 1; omega
theorem prod_lt (a b : Nat) (ha : a < 4294967296) (hb : b < 4294967296) : a * b < 18446744073709551616 := by
  have : a * b ≤ 4294967295 * 4294967295 := Nat.mul_le_mul (by omega) (by omega)
  omega
theorem unsigned_back (a b : Nat) (ha : a < 4294967296) (hb : ¬ b = 0) : ((a : Int) / b * b + (a : Int) % b) % 4294967296 = a ∧ (a : Int) % b < b := by
  have h := Int.ediv_mul_add_emod (a : Int) (b : Int)
  have h2 := Int.emod_lt_of_pos (a : Int) (show (0 : Int) < b by omega)
  rw [h]; omega
theorem wrap32_back (z : Int) (h1 : -2147483648 ≤ z) (h2 : z ≤ 2147483647) : wrap32 (z % 4294967296) = z := by unfold wrap32; omega
theorem wrap32_mod (z : Int) : wrap32 (z % 4294967296) % 4294967296 = z % 4294967296 := by unfold wrap32; omega
theorem nz (b : Nat) (h : ¬ b = 0) : ¬ (b : Int) = 0 := by omega
theorem a_small (a : Nat) (ha : a < 4294967296) : (a : Int) % 4294967296 = a := by omega
theorem t_range (T y : Int) (hy : ¬ y = 0) (y1 : -2147483648 ≤ y) (y2 : y ≤ 2147483647) (h : (0 < y → -y < T ∧ T < y) ∧ (y < 0 → y < T ∧ T < -y)) : -2147483648 ≤ T ∧ T ≤ 2147483647 := by omega
theorem p_range (p : Nat) (hp : p < 18446744073709551616) : 0 ≤ (p : Int) / 4294967296 ∧ (p : Int) / 4294967296 < 4294967296 ∧ 0 ≤ (p : Int) % 4294967296 ∧ (p : Int) % 4294967296 < 4294967296 := by omega
/-- All that the law asks, of numbers that are named. -/
theorem div_facts (a b : Nat) (ha : a < 4294967296) (hb : b < 4294967296) (h0 : ¬ b = 0) : ∃ q r s t hi lo S T y : Int,
    doI 43 a b = q ∧ doI 45 a b = r ∧ doI 42 a b = s ∧ doI 44 a b = t ∧ doI 41 a b = hi ∧ doI 38 a b = lo ∧ wrap32 s = S ∧ wrap32 t = T ∧ wrap32 (b : Int) = y ∧
    (Go.bits .or .u64 (hi * 4294967296) lo = IntKind.u64.wrap ((a : Int) * b)) ∧ r < b ∧ (q * b + r) % 4294967296 = a ∧ (S % 4294967296 * b + T) % 4294967296 = a ∧
    0 ≤ hi ∧ hi < 4294967296 ∧ 0 ≤ lo ∧ lo < 4294967296 ∧ -2147483648 ≤ T ∧ T ≤ 2147483647 ∧ -2147483648 ≤ y ∧ y ≤ 2147483647 ∧ ¬ y = 0 ∧ ((0 < y → -y < T ∧ T < y) ∧ (y < 0 → y < T ∧ T < -y)) := by
  have hp := prod_lt a b ha hb
  have hm : (a : Int) * (b : Int) = ((a * b : Nat) : Int) := by simp
  have hyz : ¬ wrap32 (b : Int) = 0 := by rw [wrap32_zero b hb]; exact h0
  have hyr := wrap32_in b
  have hbk := back32 a b
  have hu := unsigned_back a b ha h0
  rw [doI_43, doI_45, doI_42, doI_44, doI_41, doI_38, if_neg (nz b h0), if_neg (nz b h0), if_neg (nz b h0), if_neg (nz b h0), hm]
  generalize wrap32 (a : Int) = x at *
  generalize wrap32 (b : Int) = y at *
  have hr := rest_lt x y hyz
  generalize Int.tmod x y = T at *
  generalize Int.tdiv x y = D at *
  obtain ⟨y1, y2⟩ := hyr
  obtain ⟨t1, t2⟩ := t_range T y hyz y1 y2 hr
  obtain ⟨l1, l2, l3, l4⟩ := p_range (a * b) hp
  refine ⟨_, _, _, _, _, _, wrap32 (D % 4294967296), T, y, rfl, rfl, rfl, rfl, rfl, rfl, rfl, wrap32_back T t1 t2, rfl, ?_, hu.2, hu.1, ?_, l1, l2, l3, l4, t1, t2, y1, y2, hyz, hr⟩
  · rw [whole _ hp, u64_nat _ hp]
  · rw [wrap32_mod, hbk]; exact a_small a ha
set_option maxHeartbeats 1000000 in
theorem div_calls (a b : Nat) (ha : a < 4294967296) (hb : b < 4294967296) (h0 : ¬ b = 0) (w : World) : Calls Try.prog 5 #[.int .u32 a, .int .u32 b] w fun e w' => e = .returned (.bool true) ∧ w = w' := by
  obtain ⟨q, r, s, t, hi, lo, S, T, y, hq, hr, hs, ht, hhi, hlo, eS, eT, ey, f1, f2, f3, f4, i1, i2, i3, i4, t1, t2, y1, y2, hy, hd⟩ := div_facts a b ha hb h0
  have ES : ∀ c : Int, c = s → wrap32 c = S := by rintro c rfl; exact eS
  have ET : ∀ c : Int, c = t → wrap32 c = T := by rintro c rfl; exact eT
  have EY : ∀ c : Int, c = (b : Int) → wrap32 c = y := by rintro c rfl; exact ey
  have b1 : (Go.bits .or .u64 (hi * 4294967296) lo != IntKind.u64.wrap ((a : Int) * b)) = false := by rw [bne_eq_false_iff_eq]; exact f1
  have b3 : ((q * b + r) % 4294967296 != (a : Int)) = false := by rw [bne_eq_false_iff_eq]; exact f3
  have b4 : ((S % 4294967296 * b + T) % 4294967296 != (a : Int)) = false := by rw [bne_eq_false_iff_eq]; exact f4
  have z1 : ((b : Int) == 0) = false := by simpa using h0
  have z2 : ((b : Int) != 0) = true := by simpa using h0
  have HA := Lib.hid ha
  have HB := Lib.hid hb
  have HQ := Lib.hid hq; have HR := Lib.hid hr; have HS := Lib.hid hs; have HT := Lib.hid ht; have HH := Lib.hid hhi; have HL := Lib.hid hlo
  have HD := Lib.hid hd
  clear hq hr hs ht hhi hlo f1 f3 f4 eS eT ey hd
  go_enter Try.func5, Try.ntmps5
  go_wp2_with fail
  refine (cDoE 43 _ _ a b q HQ.out rfl rfl HA.out HB.out _).mono ?_
  rintro e w' ⟨rfl, rfl⟩
  go_wp2_with fail
  refine (cDoE 45 _ _ a b r HR.out rfl rfl HA.out HB.out _).mono ?_
  rintro e w' ⟨rfl, rfl⟩
  go_wp2_with fail
  refine (cDoE 42 _ _ a b s HS.out rfl rfl HA.out HB.out _).mono ?_
  rintro e w' ⟨rfl, rfl⟩
  go_wp2_with fail
  refine (cDoE 44 _ _ a b t HT.out rfl rfl HA.out HB.out _).mono ?_
  rintro e w' ⟨rfl, rfl⟩
  go_wp2_with fail
  refine (cDoE 41 _ _ a b hi HH.out rfl rfl HA.out HB.out _).mono ?_
  rintro e w' ⟨rfl, rfl⟩
  go_wp2_with fail
  refine (cDoE 38 _ _ a b lo HL.out rfl rfl HA.out HB.out _).mono ?_
  rintro e w' ⟨rfl, rfl⟩
  go_wp2_with fail
  all_goals first
    | (refine (cknown _).mono ?_
       rintro e w' ⟨rfl, rfl⟩
       go_wp2_with fail
       go_ret
       exact ⟨rfl, rfl⟩)
    | (exfalso; have hd := HD.out; clear b1 b3 b4 z1 z2 i1 i2 i3 i4; omega)
set_option maxHeartbeats 1000000 in
theorem div_zero (a : Nat) (ha : a < 4294967296) (w : World) : Calls Try.prog 5 #[.int .u32 a, .int .u32 0] w fun e w' => e = .returned (.bool true) ∧ w = w' := by
  have HA := Lib.hid ha
  have HB : Hid (0 < 4294967296) := Lib.hid (by decide)
  have HQ : Hid (doI 43 a (0 : Nat) = 4294967295) := Lib.hid (by rw [doI_43, if_pos (by decide)])
  have HR : Hid (doI 45 a (0 : Nat) = a) := Lib.hid (by rw [doI_45, if_pos (by decide)])
  have HS : Hid (doI 42 a (0 : Nat) = 4294967295) := Lib.hid (by rw [doI_42, if_pos (by decide)])
  have HT : Hid (doI 44 a (0 : Nat) = a) := Lib.hid (by rw [doI_44, if_pos (by decide)])
  have HH : Hid (doI 41 a (0 : Nat) = 0) := Lib.hid (by rw [doI_41]; simp)
  have HL : Hid (doI 38 a (0 : Nat) = 0) := Lib.hid (by rw [doI_38]; simp)
  have em := mod_w32 (a : Int)
  have e2 : (a : Int) % 4294967296 = a := a_small a ha
  rw [e2] at em
  obtain ⟨t1, t2⟩ := wrap32_in a
  generalize hT : wrap32 (a : Int) = T at *
  have ET : ∀ c : Int, c = (a : Int) → wrap32 c = T := by rintro c rfl; exact hT
  have ES : wrap32 4294967295 = -1 := by unfold wrap32; decide
  clear hT ha e2
  go_enter Try.func5, Try.ntmps5
  go_wp2_with fail
  refine (cDoE 43 _ _ a 0 4294967295 HQ.out rfl rfl HA.out HB.out _).mono ?_
  rintro e w' ⟨rfl, rfl⟩
  go_wp2_with fail
  refine (cDoE 45 _ _ a 0 a HR.out rfl rfl HA.out HB.out _).mono ?_
  rintro e w' ⟨rfl, rfl⟩
  go_wp2_with fail
  refine (cDoE 42 _ _ a 0 4294967295 HS.out rfl rfl HA.out HB.out _).mono ?_
  rintro e w' ⟨rfl, rfl⟩
  go_wp2_with fail
  refine (cDoE 44 _ _ a 0 a HT.out rfl rfl HA.out HB.out _).mono ?_
  rintro e w' ⟨rfl, rfl⟩
  go_wp2_with fail
  refine (cDoE 41 _ _ a 0 0 HH.out rfl rfl HA.out HB.out _).mono ?_
  rintro e w' ⟨rfl, rfl⟩
  go_wp2_with fail
  refine (cDoE 38 _ _ a 0 0 HL.out rfl rfl HA.out HB.out _).mono ?_
  rintro e w' ⟨rfl, rfl⟩
  go_wp2_with fail
  all_goals
    refine (cknown _).mono ?_
    rintro e w' ⟨rfl, rfl⟩
    go_wp2_with fail
    go_ret
    exact ⟨rfl, rfl⟩
theorem divides_walk (a1 a2 : Int) (w : World) (w1 : (Lit.int .u32 a1).wf = true) (w2 : (Lit.int .u32 a2).wf = true) : Calls Try.prog 5 #[.int .u32 a1, .int .u32 a2] w fun e w' => e = .returned (.bool true) ∧ Below w.heap.size w w' := by
  obtain ⟨a, rfl, ha⟩ := wf_u32 w1
  obtain ⟨b, rfl, hb⟩ := wf_u32 w2
  by_cases h : b = 0
  · subst h
    refine (div_zero a ha w).mono ?_
    rintro e w' ⟨he, rfl⟩
    exact ⟨he, Below.refl _ _⟩
  · refine (div_calls a b ha hb h w).mono ?_
    rintro e w' ⟨he, rfl⟩
    exact ⟨he, Below.refl _ _⟩
end Go.Proofs.Ytmffkkanecpchaa.Alu
