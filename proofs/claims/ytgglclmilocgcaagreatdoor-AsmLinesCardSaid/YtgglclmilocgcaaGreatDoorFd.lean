/- Fields of words: package field, and the document's. -/
import Derived.Test.YtgglclmilocgcaaGreatDoorBa
import Derived.Test.YtgglclmilocgcaaGreatDoorBv
set_option linter.unusedVariables false
set_option linter.unusedSimpArgs false
namespace Go.Proofs.YtgglclmilocgcaaGreatDoor.Md
open Go.RowKit Go.Proofs.YtgglclmilocgcaaGreatDoor.Ae Go.Proofs.YtgglclmilocgcaaGreatDoor.Bv Go.Proofs.YtgglclmilocgcaaGreatDoor
/-- A plain result: no block is left. -/
abbrev Ret (r : AV) : AV → Hp → Prop := fun v H => v = r ∧ H = []
/-- A plain result, among any blocks. -/
abbrev RetH (H : Hp) (r : AV) : AV → Hp → Prop := fun v H' => v = r ∧ H' = H
theorem raw_bits (x s n : Nat) (hx : x < 4294967296) (hs : s < 32) (h1 : 1 ≤ n) (h2 : n ≤ 32) :
    IntKind.u32.wrap (bits BinOp.and IntKind.u64 ((IntKind.u64.wrap (x : Int)).fdiv (2 ^ min s IntKind.u64.bits)) (IntKind.u64.wrap (IntKind.u64.wrap (1 * 2 ^ min n IntKind.u64.bits) - 1))) = ((x / 2 ^ s % 2 ^ n : Nat) : Int) := by
  have e1 : min s IntKind.u64.bits = s := by show min s 64 = s; omega
  have e2 : min n IntKind.u64.bits = n := by show min n 64 = n; omega
  rw [e1, e2, u64_nat x (by omega)]
  have hp : (2 : Nat) ^ n ≤ 2 ^ 32 := Nat.pow_le_pow_right (by decide) h2
  have hpos : 0 < (2 : Nat) ^ n := Nat.two_pow_pos n
  have hq : x / 2 ^ s ≤ x := Nat.div_le_self _ _
  have e3 : (1 * 2 ^ n : Int) = ((2 ^ n : Nat) : Int) := by simp
  have e4 : ((x : Int)).fdiv (2 ^ s) = ((x / 2 ^ s : Nat) : Int) := by
    rw [Int.fdiv_eq_ediv_of_nonneg _ (by exact Int.le_of_lt (Int.pow_pos (by decide)))]; simp
  rw [e3, e4, u64_nat _ (by omega), show ((2 ^ n : Nat) : Int) - 1 = ((2 ^ n - 1 : Nat) : Int) by omega, u64_nat _ (by omega), nand64 _ _ (by omega) (by omega), Nat.and_two_pow_sub_one_eq_mod]
  have := Nat.mod_lt (x / 2 ^ s) hpos
  exact u32_nat _ (by omega)
theorem bits0 (x s n : Nat) (hx : x < 4294967296) (hs : s < 32) (h1 : 1 ≤ n) (h2 : n ≤ 32) : AC Tryz.prog 60 [u32 x, i64 s, i64 n] [] (Ret (u32 ((x / 2 ^ s % 2 ^ n : Nat) : Int))) := by
  have c1 : decide ((s : Int) < 0) = false := by simp
  have c2 : decide ((s : Int) ≥ 32) = false := by simp; omega
  have c3 : decide ((n : Int) < 1) = false := by simp; omega
  have c4 : decide ((n : Int) > 32) = false := by simp; omega
  refine AC.clean rfl (AC.of_body dok Tryz.func60 rfl rfl (Nat.le_of_ble_eq_true rfl) ?_)
  conv => whnf
  rw [c1]; conv => whnf
  rw [c2]; conv => whnf
  rw [c3]; conv => whnf
  rw [c4]; conv => whnf
  refine DR.std (by decide +kernel) ⟨[], ?_⟩
  conv => whnf
  exact ⟨trivial, trivial, by rw [raw_bits x s n hx hs h1 h2], rfl⟩
/-- A number of so many bits, with its sign. -/
def sg (n b : Nat) : Int := if n % 2 ^ b < 2 ^ (b - 1) then ((n % 2 ^ b : Nat) : Int) else ((n % 2 ^ b : Nat) : Int) - 2 ^ b
theorem sg_range (n b : Nat) (h1 : 1 ≤ b) (h2 : b ≤ 32) : -2147483648 ≤ sg n b ∧ sg n b ≤ 2147483647 := by
  have hp : (2 : Nat) ^ (b - 1) ≤ 2 ^ 31 := Nat.pow_le_pow_right (by decide) (by omega)
  have hq : (2 : Nat) ^ b = 2 * 2 ^ (b - 1) := by rw [← Nat.pow_succ']; congr 1; omega
  have hr : ((2 : Int) ^ b) = ((2 ^ b : Nat) : Int) := by simp
  have hm := Nat.mod_lt n (Nat.two_pow_pos b)
  unfold sg
  rw [hr]
  split <;> omega
theorem raw_sign (n b : Nat) (hn : n < 4294967296) (h1 : 1 ≤ b) (h2 : b ≤ 32) :
    (IntKind.i32.wrap (IntKind.u32.wrap ((n : Int) * 2 ^ min (32 - b) IntKind.u32.bits))).fdiv (2 ^ min (32 - b) IntKind.i32.bits) = sg n b := by
  have e1 : min (32 - b) IntKind.u32.bits = 32 - b := by show min (32 - b) 32 = 32 - b; omega
  have e2 : min (32 - b) IntKind.i32.bits = 32 - b := by show min (32 - b) 32 = 32 - b; omega
  rw [e1, e2]
  have hpq : (2 : Nat) ^ (32 - b) * 2 ^ b = 4294967296 := by rw [← Nat.pow_add]; rw [show 32 - b + b = 32 by omega]
  have hpos : 0 < (2 : Nat) ^ (32 - b) := Nat.two_pow_pos _
  have hb2 : (2 : Nat) ^ b = 2 * 2 ^ (b - 1) := by rw [← Nat.pow_succ']; congr 1; omega
  have hhalf : (2 : Nat) ^ (32 - b) * 2 ^ (b - 1) = 2147483648 := by
    have : (2 : Nat) ^ (32 - b) * (2 * 2 ^ (b - 1)) = 4294967296 := by rw [← hb2]; exact hpq
    rw [Nat.mul_left_comm] at this; omega
  have hm := Nat.mod_lt n (Nat.two_pow_pos b)
  have hw : IntKind.u32.wrap ((n : Int) * 2 ^ (32 - b)) = ((2 ^ (32 - b) * (n % 2 ^ b) : Nat) : Int) := by
    rw [IntKind.wrap_u32]
    have : (n : Int) * 2 ^ (32 - b) = ((2 ^ (32 - b) * n : Nat) : Int) := by simp [Int.mul_comm]
    rw [this, ← Nat.mul_mod_mul_left, hpq]
    generalize 2 ^ (32 - b) * n = z
    omega
  rw [hw]
  have hr : ((2 : Int) ^ b) = ((2 ^ b : Nat) : Int) := by simp
  have hr2 : ((2 : Int) ^ (32 - b)) = ((2 ^ (32 - b) : Nat) : Int) := by simp
  unfold sg
  rw [hr, hr2]
  generalize hm' : n % 2 ^ b = m at *
  generalize (2 : Nat) ^ (32 - b) = p at *
  generalize (2 : Nat) ^ (b - 1) = h at *
  generalize (2 : Nat) ^ b = q at *
  split
  · rename_i hlt
    have : p * m < 2147483648 := by rw [← hhalf]; exact Nat.mul_lt_mul_of_pos_left hlt hpos
    have e : IntKind.i32.wrap ((p * m : Nat) : Int) = ((p * m : Nat) : Int) := by rw [IntKind.wrap_i32]; omega
    rw [e, Int.fdiv_eq_ediv_of_nonneg _ (by omega), Int.natCast_mul, Int.mul_ediv_cancel_left _ (by omega)]
  · rename_i hge
    have h3 : 2147483648 ≤ p * m := by rw [← hhalf]; exact Nat.mul_le_mul_left _ (by omega)
    have h4 : p * m < 4294967296 := by rw [← hpq]; exact Nat.mul_lt_mul_of_pos_left hm hpos
    have e : IntKind.i32.wrap ((p * m : Nat) : Int) = (p : Int) * ((m : Int) - q) := by
      rw [IntKind.wrap_i32, Int.mul_sub]
      have : (p : Int) * q = 4294967296 := by rw [← Int.natCast_mul, hpq]; rfl
      rw [this, ← Int.natCast_mul]; omega
    rw [e, Int.fdiv_eq_ediv_of_nonneg _ (by omega), Int.mul_ediv_cancel_left _ (by omega)]
theorem sign0 (n b : Nat) (hn : n < 4294967296) (h1 : 1 ≤ b) (h2 : b ≤ 32) : AC Tryz.prog 61 [u32 n, i64 b] [] (Ret (i32 (sg n b))) := by
  have c1 : decide ((b : Int) < 1) = false := decide_eq_false (by omega)
  have c2 : decide ((b : Int) > 32) = false := decide_eq_false (by omega)
  refine AC.clean rfl (AC.of_body dok Tryz.func61 rfl rfl (Nat.le_of_ble_eq_true rfl) ?_)
  conv => whnf
  rw [c1]; conv => whnf
  rw [c2]; conv => whnf
  have hk : IntKind.i64.wrap (32 - (b : Int)) = ((32 - b : Nat) : Int) := by rw [IntKind.wrap_i64]; omega
  rw [hk]; conv => whnf
  rw [hk]; conv => whnf
  exact ⟨trivial, trivial, by rw [raw_sign n b hn h1 h2], rfl⟩
/-- The document's number of so many bits. -/
theorem rsign0 (n b : Nat) (hn : n < 4294967296) (h1 : 1 ≤ b) (h2 : b ≤ 32) : AC Tryz.prog 69 [u32 n, i64 b] [] (Ret (i32 (sg n b))) := by
  have c1 : decide ((b : Int) < 1) = false := decide_eq_false (by omega)
  have c2 : decide ((b : Int) > 32) = false := decide_eq_false (by omega)
  refine AC.clean rfl (AC.of_body dok Tryz.func69 rfl rfl (Nat.le_of_ble_eq_true rfl) ?_)
  conv => whnf
  rw [c1]; conv => whnf
  rw [c2]; conv => whnf
  have hk : IntKind.u64.wrap (IntKind.i64.wrap (32 - (b : Int))) = ((32 - b : Nat) : Int) := by rw [IntKind.wrap_i64, wrap_u64]; omega
  rw [hk]; conv => whnf
  rw [hk]; conv => whnf
  exact ⟨trivial, trivial, by rw [raw_sign n b hn h1 h2], rfl⟩
theorem raw_round (x s i : Nat) (hx : x < 4294967296) (h : s + i < 32) :
    bits BinOp.or IntKind.u32 ((x / 2 ^ s % 2 ^ i : Nat) : Int) (IntKind.u32.wrap (bits BinOp.and IntKind.u32 ((x : Int).fdiv (2 ^ min (s + i) IntKind.u32.bits)) 1 * 2 ^ min i IntKind.u32.bits)) = ((x / 2 ^ s % 2 ^ (i + 1) : Nat) : Int) := by
  have e1 : min (s + i) IntKind.u32.bits = s + i := by show min (s + i) 32 = s + i; omega
  have e2 : min i IntKind.u32.bits = i := by show min i 32 = i; omega
  have e3 : ((x : Int)).fdiv (2 ^ (s + i)) = ((x / 2 ^ (s + i) : Nat) : Int) := by
    rw [Int.fdiv_eq_ediv_of_nonneg _ (by exact Int.le_of_lt (Int.pow_pos (by decide)))]; simp
  have hq : x / 2 ^ (s + i) ≤ x := Nat.div_le_self _ _
  have hi : (2 : Nat) ^ i ≤ 2 ^ 31 := Nat.pow_le_pow_right (by decide) (by omega)
  have hm := Nat.mod_lt (x / 2 ^ s) (Nat.two_pow_pos i)
  rw [e1, e2, e3, show (1 : Int) = ((1 : Nat) : Int) from rfl, nand32 _ _ (by omega) (by decide), Nat.and_one_is_mod]
  have hb : x / 2 ^ (s + i) % 2 < 2 := Nat.mod_lt _ (by decide)
  have hz : x / 2 ^ (s + i) % 2 * 2 ^ i ≤ 1 * 2 ^ i := Nat.mul_le_mul_right _ (by omega)
  have e4 : (((x / 2 ^ (s + i) % 2 : Nat) : Int) * 2 ^ i) = ((x / 2 ^ (s + i) % 2 * 2 ^ i : Nat) : Int) := by simp
  rw [e4, u32_nat _ (by omega), nor32 _ _ (by omega) (by omega), or_field _ _ 1 i (by rw [Nat.div_eq_of_lt hm]) (by simpa using hb), Nat.mod_pow_succ, Nat.div_div_eq_div_mul, ← Nat.pow_add, Nat.mul_comm (2 ^ i)]
theorem rbits0 (x s n : Nat) (hx : x < 4294967296) (h1 : 1 ≤ n) (h2 : s + n ≤ 32) : AC Tryz.prog 42 [u32 x, i64 s, i64 n] [] (Ret (u32 ((x / 2 ^ s % 2 ^ n : Nat) : Int))) := by
  have c1 : decide ((s : Int) < 0) = false := decide_eq_false (by omega)
  have c2 : decide ((s : Int) > 31) = false := decide_eq_false (by omega)
  have c3 : decide ((n : Int) < 1) = false := decide_eq_false (by omega)
  have c4 : decide ((n : Int) > 32) = false := decide_eq_false (by omega)
  refine AC.clean rfl (AC.of_body dok Tryz.func42 rfl rfl (Nat.le_of_ble_eq_true rfl) ?_)
  conv => whnf
  rw [c1]; conv => whnf
  rw [c2]; conv => whnf
  rw [c3]; conv => whnf
  rw [c4]; conv => whnf
  refine aw_loop dok (fun i : Nat => [(0, u32 x), (1, i64 s), (2, i64 n), (7, u32 ((x / 2 ^ s % 2 ^ i : Nat) : Int)), (8, i64 i)]) (fun _ => []) (fun i => i ≤ n) (fun i => n - i) 0 ?_ rfl (Nat.zero_le _) ?_
  · refine ⟨rfl, rfl, rfl, ?_, rfl, trivial⟩
    have e : x / 2 ^ s % 2 ^ 0 = 0 := by rw [Nat.pow_zero, Nat.mod_one]
    rw [e]; rfl
  intro i hi
  by_cases h : i < n
  · have d1 : decide ((i : Int) < n) = true := decide_eq_true (by omega)
    have e1 : IntKind.i64.wrap ((s : Int) + i) = ((s + i : Nat) : Int) := by rw [IntKind.wrap_i64]; omega
    have d2 : decide (IntKind.i64.wrap ((s : Int) + i) < 32) = true := by rw [e1]; exact decide_eq_true (by omega)
    conv => whnf
    rw [d1]; conv => whnf
    rw [d2]; conv => whnf
    have e2 : IntKind.u64.wrap (IntKind.i64.wrap ((s : Int) + i)) = ((s + i : Nat) : Int) := by rw [e1]; exact u64_nat _ (by omega)
    have e4 : IntKind.i64.wrap ((i : Int) + 1) = ((i + 1 : Nat) : Int) := by rw [IntKind.wrap_i64]; omega
    rw [e2]; conv => whnf
    have e5 : i % ((2 : Int) ^ IntKind.u64.bits).natAbs = i := Nat.mod_eq_of_lt (by show i < 18446744073709551616; omega)
    rw [e5]
    refine ⟨i + 1, h, ?_, ⟨rfl, rfl, rfl, congrArg (fun z => some (AV.v (V.int .u32 z))) (raw_round x s i hx (by omega)), congrArg (fun z => some (AV.v (V.int .i64 z))) e4, trivial⟩, rfl⟩
    show n - (i + 1) < n - i
    omega
  · have d1 : decide ((i : Int) < n) = false := decide_eq_false (by omega)
    conv => whnf
    rw [d1]; conv => whnf
    have : i = n := by omega
    subst this
    exact ⟨trivial, trivial, rfl, rfl⟩
/-! The immediates. -/
def immI (x : Nat) : Int := sg (x / 2 ^ 20 % 2 ^ 12) 12
def immS (x : Nat) : Int := sg (x / 2 ^ 25 % 2 ^ 7 * 32 + x / 2 ^ 7 % 2 ^ 5) 12
def immB (x : Nat) : Int := sg (x / 2 ^ 31 % 2 ^ 1 * 4096 + x / 2 ^ 7 % 2 ^ 1 * 2048 + x / 2 ^ 25 % 2 ^ 6 * 32 + x / 2 ^ 8 % 2 ^ 4 * 2) 13
def immJ (x : Nat) : Int := sg (x / 2 ^ 31 % 2 ^ 1 * 1048576 + x / 2 ^ 12 % 2 ^ 8 * 4096 + x / 2 ^ 20 % 2 ^ 1 * 2048 + x / 2 ^ 21 % 2 ^ 10 * 2) 21
def immU (x : Nat) : Int := sg (x / 2 ^ 12 % 2 ^ 20 * 4096) 32
theorem shl32 (a k : Nat) (h : a * 2 ^ k < 4294967296) (hk : k ≤ 32 := by decide) : IntKind.u32.wrap ((a : Int) * 2 ^ min k IntKind.u32.bits) = ((a * 2 ^ k : Nat) : Int) := by
  have e1 : min k IntKind.u32.bits = k := by show min k 32 = k; omega
  have e2 : ((a : Int) * 2 ^ k) = ((a * 2 ^ k : Nat) : Int) := by simp
  rw [e1, e2]
  exact u32_nat _ h
theorem orD (a b s : Nat) (ha : a % 2 ^ s = 0) (hb : b < 2 ^ s) (h : a < 4294967296) (hs : s ≤ 32 := by decide) : bits BinOp.or IntKind.u32 (a : Int) (b : Int) = ((a + b : Nat) : Int) := by
  have hp : (2 : Nat) ^ s ≤ 2 ^ 32 := Nat.pow_le_pow_right (by decide) hs
  rw [nor32 a b h (by omega)]
  have e : a = a / 2 ^ s * 2 ^ s := by have := Nat.div_add_mod a (2 ^ s); rw [ha, Nat.mul_comm] at this; omega
  have e2 : a &&& b = 0 := by
    rw [Nat.and_comm, e, mul_and, Nat.div_eq_of_lt hb]; simp
  rw [or_eq_add e2]
theorem immI0 (x : Nat) (hx : x < 4294967296) : AC Tryz.prog 31 [u32 x] [] (Ret (i32 (immI x))) := by
  refine AC.clean rfl (AC.of_body dok Tryz.func31 rfl rfl (Nat.le_of_ble_eq_true rfl) ?_)
  conv => whnf
  refine ((bits0 x 20 12 hx (by decide) (by decide) (by decide)).anyH rfl rfl _).mono ?_
  rintro v H' ⟨rfl, rfl⟩
  conv => whnf
  refine ((sign0 _ 12 (by omega) (by decide) (by decide)).anyH rfl rfl _).mono ?_
  rintro v H' ⟨rfl, rfl⟩
  exact ⟨trivial, trivial, rfl, rfl⟩
theorem rimmI0 (x : Nat) (hx : x < 4294967296) : AC Tryz.prog 46 [u32 x] [] (Ret (i32 (immI x))) := by
  refine AC.clean rfl (AC.of_body dok Tryz.func46 rfl rfl (Nat.le_of_ble_eq_true rfl) ?_)
  conv => whnf
  refine ((rbits0 x 20 12 hx (by decide) (by decide)).anyH rfl rfl _).mono ?_
  rintro v H' ⟨rfl, rfl⟩
  conv => whnf
  refine ((rsign0 _ 12 (by omega) (by decide) (by decide)).anyH rfl rfl _).mono ?_
  rintro v H' ⟨rfl, rfl⟩
  exact ⟨trivial, trivial, rfl, rfl⟩
theorem immS0 (x : Nat) (hx : x < 4294967296) : AC Tryz.prog 34 [u32 x] [] (Ret (i32 (immS x))) := by
  refine AC.clean rfl (AC.of_body dok Tryz.func34 rfl rfl (Nat.le_of_ble_eq_true rfl) ?_)
  conv => whnf
  refine ((bits0 x 25 7 hx (by decide) (by decide) (by decide)).anyH rfl rfl _).mono ?_
  rintro v H' ⟨rfl, rfl⟩
  conv => whnf
  refine ((bits0 x 7 5 hx (by decide) (by decide) (by decide)).anyH rfl rfl _).mono ?_
  rintro v H' ⟨rfl, rfl⟩
  conv => whnf
  rw [shl32 (x / 2 ^ 25 % 2 ^ 7) 5 (by omega)]
  rw [orD _ _ 5 (by omega) (by omega) (by omega)]
  refine ((sign0 _ 12 (by omega) (by decide) (by decide)).anyH rfl rfl _).mono ?_
  rintro v H' ⟨rfl, rfl⟩
  exact ⟨trivial, trivial, rfl, rfl⟩
theorem rimmS0 (x : Nat) (hx : x < 4294967296) : AC Tryz.prog 48 [u32 x] [] (Ret (i32 (immS x))) := by
  refine AC.clean rfl (AC.of_body dok Tryz.func48 rfl rfl (Nat.le_of_ble_eq_true rfl) ?_)
  conv => whnf
  refine ((rbits0 x 25 7 hx (by decide) (by decide)).anyH rfl rfl _).mono ?_
  rintro v H' ⟨rfl, rfl⟩
  conv => whnf
  refine ((rbits0 x 7 5 hx (by decide) (by decide)).anyH rfl rfl _).mono ?_
  rintro v H' ⟨rfl, rfl⟩
  conv => whnf
  rw [shl32 (x / 2 ^ 25 % 2 ^ 7) 5 (by omega)]
  rw [orD _ _ 5 (by omega) (by omega) (by omega)]
  refine ((rsign0 _ 12 (by omega) (by decide) (by decide)).anyH rfl rfl _).mono ?_
  rintro v H' ⟨rfl, rfl⟩
  exact ⟨trivial, trivial, rfl, rfl⟩
theorem immB0 (x : Nat) (hx : x < 4294967296) : AC Tryz.prog 33 [u32 x] [] (Ret (i32 (immB x))) := by
  refine AC.clean rfl (AC.of_body dok Tryz.func33 rfl rfl (Nat.le_of_ble_eq_true rfl) ?_)
  conv => whnf
  refine ((bits0 x 31 1 hx (by decide) (by decide) (by decide)).anyH rfl rfl _).mono ?_
  rintro v H' ⟨rfl, rfl⟩
  conv => whnf
  refine ((bits0 x 7 1 hx (by decide) (by decide) (by decide)).anyH rfl rfl _).mono ?_
  rintro v H' ⟨rfl, rfl⟩
  conv => whnf
  refine ((bits0 x 25 6 hx (by decide) (by decide) (by decide)).anyH rfl rfl _).mono ?_
  rintro v H' ⟨rfl, rfl⟩
  conv => whnf
  refine ((bits0 x 8 4 hx (by decide) (by decide) (by decide)).anyH rfl rfl _).mono ?_
  rintro v H' ⟨rfl, rfl⟩
  conv => whnf
  rw [shl32 (x / 2 ^ 31 % 2 ^ 1) 12 (by omega)]
  rw [shl32 (x / 2 ^ 7 % 2 ^ 1) 11 (by omega)]
  rw [shl32 (x / 2 ^ 25 % 2 ^ 6) 5 (by omega)]
  rw [shl32 (x / 2 ^ 8 % 2 ^ 4) 1 (by omega)]
  rw [orD _ _ 12 (by omega) (by omega) (by omega)]
  rw [orD _ _ 11 (by omega) (by omega) (by omega)]
  rw [orD _ _ 5 (by omega) (by omega) (by omega)]
  refine ((sign0 _ 13 (by omega) (by decide) (by decide)).anyH rfl rfl _).mono ?_
  rintro v H' ⟨rfl, rfl⟩
  exact ⟨trivial, trivial, rfl, rfl⟩
theorem rimmB0 (x : Nat) (hx : x < 4294967296) : AC Tryz.prog 47 [u32 x] [] (Ret (i32 (immB x))) := by
  refine AC.clean rfl (AC.of_body dok Tryz.func47 rfl rfl (Nat.le_of_ble_eq_true rfl) ?_)
  conv => whnf
  refine ((rbits0 x 31 1 hx (by decide) (by decide)).anyH rfl rfl _).mono ?_
  rintro v H' ⟨rfl, rfl⟩
  conv => whnf
  refine ((rbits0 x 7 1 hx (by decide) (by decide)).anyH rfl rfl _).mono ?_
  rintro v H' ⟨rfl, rfl⟩
  conv => whnf
  refine ((rbits0 x 25 6 hx (by decide) (by decide)).anyH rfl rfl _).mono ?_
  rintro v H' ⟨rfl, rfl⟩
  conv => whnf
  refine ((rbits0 x 8 4 hx (by decide) (by decide)).anyH rfl rfl _).mono ?_
  rintro v H' ⟨rfl, rfl⟩
  conv => whnf
  rw [shl32 (x / 2 ^ 31 % 2 ^ 1) 12 (by omega)]
  rw [shl32 (x / 2 ^ 7 % 2 ^ 1) 11 (by omega)]
  rw [shl32 (x / 2 ^ 25 % 2 ^ 6) 5 (by omega)]
  rw [shl32 (x / 2 ^ 8 % 2 ^ 4) 1 (by omega)]
  rw [orD _ _ 12 (by omega) (by omega) (by omega)]
  rw [orD _ _ 11 (by omega) (by omega) (by omega)]
  rw [orD _ _ 5 (by omega) (by omega) (by omega)]
  refine ((rsign0 _ 13 (by omega) (by decide) (by decide)).anyH rfl rfl _).mono ?_
  rintro v H' ⟨rfl, rfl⟩
  exact ⟨trivial, trivial, rfl, rfl⟩
theorem immJ0 (x : Nat) (hx : x < 4294967296) : AC Tryz.prog 30 [u32 x] [] (Ret (i32 (immJ x))) := by
  refine AC.clean rfl (AC.of_body dok Tryz.func30 rfl rfl (Nat.le_of_ble_eq_true rfl) ?_)
  conv => whnf
  refine ((bits0 x 31 1 hx (by decide) (by decide) (by decide)).anyH rfl rfl _).mono ?_
  rintro v H' ⟨rfl, rfl⟩
  conv => whnf
  refine ((bits0 x 12 8 hx (by decide) (by decide) (by decide)).anyH rfl rfl _).mono ?_
  rintro v H' ⟨rfl, rfl⟩
  conv => whnf
  refine ((bits0 x 20 1 hx (by decide) (by decide) (by decide)).anyH rfl rfl _).mono ?_
  rintro v H' ⟨rfl, rfl⟩
  conv => whnf
  refine ((bits0 x 21 10 hx (by decide) (by decide) (by decide)).anyH rfl rfl _).mono ?_
  rintro v H' ⟨rfl, rfl⟩
  conv => whnf
  rw [shl32 (x / 2 ^ 31 % 2 ^ 1) 20 (by omega)]
  rw [shl32 (x / 2 ^ 12 % 2 ^ 8) 12 (by omega)]
  rw [shl32 (x / 2 ^ 20 % 2 ^ 1) 11 (by omega)]
  rw [shl32 (x / 2 ^ 21 % 2 ^ 10) 1 (by omega)]
  rw [orD _ _ 20 (by omega) (by omega) (by omega)]
  rw [orD _ _ 12 (by omega) (by omega) (by omega)]
  rw [orD _ _ 11 (by omega) (by omega) (by omega)]
  refine ((sign0 _ 21 (by omega) (by decide) (by decide)).anyH rfl rfl _).mono ?_
  rintro v H' ⟨rfl, rfl⟩
  exact ⟨trivial, trivial, rfl, rfl⟩
theorem rimmJ0 (x : Nat) (hx : x < 4294967296) : AC Tryz.prog 44 [u32 x] [] (Ret (i32 (immJ x))) := by
  refine AC.clean rfl (AC.of_body dok Tryz.func44 rfl rfl (Nat.le_of_ble_eq_true rfl) ?_)
  conv => whnf
  refine ((rbits0 x 31 1 hx (by decide) (by decide)).anyH rfl rfl _).mono ?_
  rintro v H' ⟨rfl, rfl⟩
  conv => whnf
  refine ((rbits0 x 12 8 hx (by decide) (by decide)).anyH rfl rfl _).mono ?_
  rintro v H' ⟨rfl, rfl⟩
  conv => whnf
  refine ((rbits0 x 20 1 hx (by decide) (by decide)).anyH rfl rfl _).mono ?_
  rintro v H' ⟨rfl, rfl⟩
  conv => whnf
  refine ((rbits0 x 21 10 hx (by decide) (by decide)).anyH rfl rfl _).mono ?_
  rintro v H' ⟨rfl, rfl⟩
  conv => whnf
  rw [shl32 (x / 2 ^ 31 % 2 ^ 1) 20 (by omega)]
  rw [shl32 (x / 2 ^ 12 % 2 ^ 8) 12 (by omega)]
  rw [shl32 (x / 2 ^ 20 % 2 ^ 1) 11 (by omega)]
  rw [shl32 (x / 2 ^ 21 % 2 ^ 10) 1 (by omega)]
  rw [orD _ _ 20 (by omega) (by omega) (by omega)]
  rw [orD _ _ 12 (by omega) (by omega) (by omega)]
  rw [orD _ _ 11 (by omega) (by omega) (by omega)]
  refine ((rsign0 _ 21 (by omega) (by decide) (by decide)).anyH rfl rfl _).mono ?_
  rintro v H' ⟨rfl, rfl⟩
  exact ⟨trivial, trivial, rfl, rfl⟩
theorem bits1 (x s n : Nat) (hx : x < 4294967296) (hs : s < 32) (h1 : 1 ≤ n) (h2 : n ≤ 32) (H : Hp) : AC Tryz.prog 60 [u32 x, i64 s, i64 n] H (RetH H (u32 ((x / 2 ^ s % 2 ^ n : Nat) : Int))) := (bits0 x s n hx hs h1 h2).anyH rfl rfl H
theorem rbits1 (x s n : Nat) (hx : x < 4294967296) (h1 : 1 ≤ n) (h2 : s + n ≤ 32) (H : Hp) : AC Tryz.prog 42 [u32 x, i64 s, i64 n] H (RetH H (u32 ((x / 2 ^ s % 2 ^ n : Nat) : Int))) := (rbits0 x s n hx h1 h2).anyH rfl rfl H
theorem immI1 (x : Nat) (hx : x < 4294967296) (H : Hp) : AC Tryz.prog 31 [u32 x] H (RetH H (i32 (immI x))) := (immI0 x hx).anyH rfl rfl H
theorem rimmI1 (x : Nat) (hx : x < 4294967296) (H : Hp) : AC Tryz.prog 46 [u32 x] H (RetH H (i32 (immI x))) := (rimmI0 x hx).anyH rfl rfl H
theorem immS1 (x : Nat) (hx : x < 4294967296) (H : Hp) : AC Tryz.prog 34 [u32 x] H (RetH H (i32 (immS x))) := (immS0 x hx).anyH rfl rfl H
theorem rimmS1 (x : Nat) (hx : x < 4294967296) (H : Hp) : AC Tryz.prog 48 [u32 x] H (RetH H (i32 (immS x))) := (rimmS0 x hx).anyH rfl rfl H
theorem immB1 (x : Nat) (hx : x < 4294967296) (H : Hp) : AC Tryz.prog 33 [u32 x] H (RetH H (i32 (immB x))) := (immB0 x hx).anyH rfl rfl H
theorem rimmB1 (x : Nat) (hx : x < 4294967296) (H : Hp) : AC Tryz.prog 47 [u32 x] H (RetH H (i32 (immB x))) := (rimmB0 x hx).anyH rfl rfl H
theorem immJ1 (x : Nat) (hx : x < 4294967296) (H : Hp) : AC Tryz.prog 30 [u32 x] H (RetH H (i32 (immJ x))) := (immJ0 x hx).anyH rfl rfl H
theorem rimmJ1 (x : Nat) (hx : x < 4294967296) (H : Hp) : AC Tryz.prog 44 [u32 x] H (RetH H (i32 (immJ x))) := (rimmJ0 x hx).anyH rfl rfl H
theorem raw_i32 (n : Nat) (h : n < 4294967296) : IntKind.i32.wrap (n : Int) = sg n 32 := by
  rw [IntKind.wrap_i32]; unfold sg; split <;> omega
theorem immU0 (x : Nat) (hx : x < 4294967296) : AC Tryz.prog 29 [u32 x] [] (Ret (i32 (immU x))) := by
  refine AC.clean rfl (AC.of_body dok Tryz.func29 rfl rfl (Nat.le_of_ble_eq_true rfl) ?_)
  conv => whnf
  refine (bits1 x 12 20 hx (by decide) (by decide) (by decide) _).mono ?_
  rintro v H' ⟨rfl, rfl⟩
  conv => whnf
  rw [shl32 (x / 2 ^ 12 % 2 ^ 20) 12 (by omega)]
  exact ⟨trivial, trivial, by rw [raw_i32 _ (by omega)]; rfl, rfl⟩
theorem rimmU0 (x : Nat) (hx : x < 4294967296) : AC Tryz.prog 43 [u32 x] [] (Ret (i32 (immU x))) := by
  refine AC.clean rfl (AC.of_body dok Tryz.func43 rfl rfl (Nat.le_of_ble_eq_true rfl) ?_)
  conv => whnf
  have e : bits BinOp.andNot IntKind.u32 (x : Int) 4095 = ((x / 2 ^ 12 % 2 ^ 20 * 4096 : Nat) : Int) := by
    rw [clear32 12 0 (by decide) x (by omega) (by omega) 4095 (by decide)]; omega
  rw [e]
  exact ⟨trivial, trivial, by rw [raw_i32 _ (by omega)]; rfl, rfl⟩
theorem immU1 (x : Nat) (hx : x < 4294967296) (H : Hp) : AC Tryz.prog 29 [u32 x] H (RetH H (i32 (immU x))) := (immU0 x hx).anyH rfl rfl H
theorem rimmU1 (x : Nat) (hx : x < 4294967296) (H : Hp) : AC Tryz.prog 43 [u32 x] H (RetH H (i32 (immU x))) := (rimmU0 x hx).anyH rfl rfl H
end Go.Proofs.YtgglclmilocgcaaGreatDoor.Md
