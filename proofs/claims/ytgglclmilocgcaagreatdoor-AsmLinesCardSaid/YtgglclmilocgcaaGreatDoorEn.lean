/- Words and instructions: what is decoded is valid. -/
import Derived.Test.YtgglclmilocgcaaGreatDoorTq
set_option linter.unusedVariables false
set_option linter.unusedSimpArgs false
namespace Go.Proofs.YtgglclmilocgcaaGreatDoor.Md
open Go.RowKit Go.Proofs.YtgglclmilocgcaaGreatDoor.Ae Go.Proofs.YtgglclmilocgcaaGreatDoor.Bv Go.Proofs.YtgglclmilocgcaaGreatDoor
theorem sg12 (n : Nat) : -2048 ≤ sg n 12 ∧ sg n 12 < 2048 := by unfold sg; split <;> omega
theorem sg13 (n : Nat) (h : n % 2 = 0) : sg n 13 % 2 = 0 ∧ -4096 ≤ sg n 13 ∧ sg n 13 < 4096 := by unfold sg; split <;> omega
theorem sg21 (n : Nat) (h : n % 2 = 0) : sg n 21 % 2 = 0 ∧ -1048576 ≤ sg n 21 ∧ sg n 21 < 1048576 := by unfold sg; split <;> omega
theorem sg32 (n : Nat) (h : n % 4096 = 0) : sg n 32 % 4096 = 0 ∧ -2147483648 ≤ sg n 32 ∧ sg n 32 < 2147483648 := by unfold sg; split <;> omega
theorem immI_r (x : Nat) : -2048 ≤ immI x ∧ immI x < 2048 := sg12 _
theorem immS_r (x : Nat) : -2048 ≤ immS x ∧ immS x < 2048 := sg12 _
theorem immB_r (x : Nat) : immB x % 2 = 0 ∧ -4096 ≤ immB x ∧ immB x < 4096 := sg13 _ (by omega)
theorem immJ_r (x : Nat) : immJ x % 2 = 0 ∧ -1048576 ≤ immJ x ∧ immJ x < 1048576 := sg21 _ (by omega)
theorem immU_r (x : Nat) : immU x % 4096 = 0 ∧ -2147483648 ≤ immU x ∧ immU x < 2147483648 := sg32 _ (by omega)
/-- A word of its fields. -/
def pk (a rd f3 r1 r2 f7 : Nat) : Nat := a + 128 * (rd + 32 * (f3 + 8 * (r1 + 32 * (r2 + 32 * f7))))
theorem or_split (k x x' y y' : Nat) (h : x < 2 ^ k) (h' : x' < 2 ^ k) : (x + 2 ^ k * y) ||| (x' + 2 ^ k * y') = (x ||| x') + 2 ^ k * (y ||| y') := by
  have h1 : ((x + 2 ^ k * y) ||| (x' + 2 ^ k * y')) % 2 ^ k = x ||| x' := by
    rw [Nat.or_mod_two_pow, Nat.add_mul_mod_self_left, Nat.add_mul_mod_self_left, Nat.mod_eq_of_lt h, Nat.mod_eq_of_lt h']
  have h2 : ((x + 2 ^ k * y) ||| (x' + 2 ^ k * y')) / 2 ^ k = y ||| y' := by
    rw [← Nat.shiftRight_eq_div_pow, Nat.shiftRight_or_distrib, Nat.shiftRight_eq_div_pow, Nat.shiftRight_eq_div_pow, Nat.add_mul_div_left _ _ (Nat.two_pow_pos k), Nat.add_mul_div_left _ _ (Nat.two_pow_pos k), Nat.div_eq_of_lt h, Nat.div_eq_of_lt h', Nat.zero_add, Nat.zero_add]
  rw [← Nat.mod_add_div ((x + 2 ^ k * y) ||| (x' + 2 ^ k * y')) (2 ^ k), h1, h2]
theorem pk_or {a rd f3 r1 r2 f7 a' rd' f3' r1' r2' f7' : Nat} (h : a < 128 ∧ rd < 32 ∧ f3 < 8 ∧ r1 < 32 ∧ r2 < 32) (h' : a' < 128 ∧ rd' < 32 ∧ f3' < 8 ∧ r1' < 32 ∧ r2' < 32) :
    pk a rd f3 r1 r2 f7 ||| pk a' rd' f3' r1' r2' f7' = pk (a ||| a') (rd ||| rd') (f3 ||| f3') (r1 ||| r1') (r2 ||| r2') (f7 ||| f7') := by
  unfold pk
  rw [or_split 7 _ _ _ _ h.1 h'.1, or_split 5 _ _ _ _ h.2.1 h'.2.1, or_split 3 _ _ _ _ h.2.2.1 h'.2.2.1, or_split 5 _ _ _ _ h.2.2.2.1 h'.2.2.2.1, or_split 5 _ _ _ _ h.2.2.2.2 h'.2.2.2.2]
structure PkB (a rd f3 r1 r2 f7 : Nat) : Prop where
  a : a < 128
  rd : rd < 32
  f3 : f3 < 8
  r1 : r1 < 32
  r2 : r2 < 32
  f7 : f7 < 128
theorem pk_lt {a rd f3 r1 r2 f7 : Nat} (h : PkB a rd f3 r1 r2 f7) : pk a rd f3 r1 r2 f7 < 4294967296 := by
  obtain ⟨h1, h2, h3, h4, h5, h6⟩ := h; unfold pk; omega
theorem pk_fields {a rd f3 r1 r2 f7 : Nat} (h : PkB a rd f3 r1 r2 f7) :
    pk a rd f3 r1 r2 f7 / 2 ^ 0 % 2 ^ 7 = a ∧ pk a rd f3 r1 r2 f7 / 2 ^ 12 % 2 ^ 3 = f3 ∧ pk a rd f3 r1 r2 f7 / 2 ^ 25 % 2 ^ 7 = f7 ∧ pk a rd f3 r1 r2 f7 / 2 ^ 7 % 2 ^ 5 = rd ∧ pk a rd f3 r1 r2 f7 / 2 ^ 15 % 2 ^ 5 = r1 ∧ pk a rd f3 r1 r2 f7 / 2 ^ 20 % 2 ^ 5 = r2 := by
  obtain ⟨h1, h2, h3, h4, h5, h6⟩ := h
  unfold pk
  refine ⟨?_, ?_, ?_, ?_, ?_, ?_⟩ <;> omega
theorem dec_pk {a rd f3 r1 r2 f7 : Nat} (h : PkB a rd f3 r1 r2 f7) : dec (pk a rd f3 r1 r2 f7) = D5 (pk a rd f3 r1 r2 f7) a f3 f7 rd r1 r2 := by
  obtain ⟨h1, h2, h3, h4, h5, h6⟩ := pk_fields h
  unfold dec; rw [h1, h2, h3, h4, h5, h6]
theorem immI_pk {a rd f3 r1 r2 f7 : Nat} (h : PkB a rd f3 r1 r2 f7) : immI (pk a rd f3 r1 r2 f7) = sg (r2 + 32 * f7) 12 := by
  obtain ⟨h1, h2, h3, h4, h5, h6⟩ := h
  unfold immI; congr 1; unfold pk; omega
theorem immS_pk {a rd f3 r1 r2 f7 : Nat} (h : PkB a rd f3 r1 r2 f7) : immS (pk a rd f3 r1 r2 f7) = sg (rd + 32 * f7) 12 := by
  obtain ⟨h1, h2, h3, h4, h5, h6⟩ := h
  unfold immS; congr 1; unfold pk; omega
theorem immB_pk {a rd f3 r1 r2 f7 : Nat} (h : PkB a rd f3 r1 r2 f7) : immB (pk a rd f3 r1 r2 f7) = sg (f7 / 64 * 4096 + rd % 2 * 2048 + f7 % 64 * 32 + rd / 2 * 2) 13 := by
  obtain ⟨h1, h2, h3, h4, h5, h6⟩ := h
  have e1 : pk a rd f3 r1 r2 f7 / 2 ^ 31 % 2 ^ 1 = f7 / 64 := by unfold pk; omega
  have e2 : pk a rd f3 r1 r2 f7 / 2 ^ 7 % 2 ^ 1 = rd % 2 := by unfold pk; omega
  have e3 : pk a rd f3 r1 r2 f7 / 2 ^ 25 % 2 ^ 6 = f7 % 64 := by unfold pk; omega
  have e4 : pk a rd f3 r1 r2 f7 / 2 ^ 8 % 2 ^ 4 = rd / 2 := by unfold pk; omega
  unfold immB; rw [e1, e2, e3, e4]
theorem immJ_pk {a rd f3 r1 r2 f7 : Nat} (h : PkB a rd f3 r1 r2 f7) : immJ (pk a rd f3 r1 r2 f7) = sg (f7 / 64 * 1048576 + (f3 + 8 * r1) * 4096 + r2 % 2 * 2048 + (r2 / 2 + 16 * (f7 % 64)) * 2) 21 := by
  obtain ⟨h1, h2, h3, h4, h5, h6⟩ := h
  have e1 : pk a rd f3 r1 r2 f7 / 2 ^ 31 % 2 ^ 1 = f7 / 64 := by unfold pk; omega
  have e2 : pk a rd f3 r1 r2 f7 / 2 ^ 12 % 2 ^ 8 = f3 + 8 * r1 := by unfold pk; omega
  have e3 : pk a rd f3 r1 r2 f7 / 2 ^ 20 % 2 ^ 1 = r2 % 2 := by unfold pk; omega
  have e4 : pk a rd f3 r1 r2 f7 / 2 ^ 21 % 2 ^ 10 = r2 / 2 + 16 * (f7 % 64) := by unfold pk; omega
  unfold immJ; rw [e1, e2, e3, e4]
theorem immU_pk {a rd f3 r1 r2 f7 : Nat} (h : PkB a rd f3 r1 r2 f7) : immU (pk a rd f3 r1 r2 f7) = sg ((f3 + 8 * r1 + 256 * r2 + 8192 * f7) * 4096) 32 := by
  obtain ⟨h1, h2, h3, h4, h5, h6⟩ := h
  have e1 : pk a rd f3 r1 r2 f7 / 2 ^ 12 % 2 ^ 20 = f3 + 8 * r1 + 256 * r2 + 8192 * f7 := by unfold pk; omega
  unfold immU; rw [e1]
/-- The bits of an op that do not change. -/
def opc (op : Int) : Nat := [55, 23, 111, 103, 99, 99, 99, 99, 99, 99, 3, 3, 3, 3, 3, 35, 35, 35, 19, 19, 19, 19, 19, 19, 19, 19, 19, 51, 51, 51, 51, 51, 51, 51, 51, 51, 51, 51, 51, 51, 51, 51, 51, 51, 51, 15, 115, 115, 115, 115, 115, 115, 115, 115, 115].getD (op.toNat - 1) 0
def op3 (op : Int) : Nat := [0, 0, 0, 0, 0, 1, 4, 5, 6, 7, 0, 1, 2, 4, 5, 0, 1, 2, 0, 2, 3, 4, 6, 7, 1, 5, 5, 0, 0, 1, 2, 3, 4, 5, 5, 6, 7, 0, 1, 2, 3, 4, 5, 6, 7, 0, 0, 0, 0, 1, 2, 3, 5, 6, 7].getD (op.toNat - 1) 0
def op7 (op : Int) : Nat := [0, 0, 0, 0, 0, 0, 0, 0, 0, 0, 0, 0, 0, 0, 0, 0, 0, 0, 0, 0, 0, 0, 0, 0, 0, 0, 32, 0, 32, 0, 0, 0, 0, 0, 32, 0, 0, 1, 1, 1, 1, 1, 1, 1, 1, 0, 0, 0, 24, 0, 0, 0, 0, 0, 0].getD (op.toNat - 1) 0
def op2 (op : Int) : Nat := [0, 0, 0, 0, 0, 0, 0, 0, 0, 0, 0, 0, 0, 0, 0, 0, 0, 0, 0, 0, 0, 0, 0, 0, 0, 0, 0, 0, 0, 0, 0, 0, 0, 0, 0, 0, 0, 0, 0, 0, 0, 0, 0, 0, 0, 0, 0, 1, 2, 0, 0, 0, 0, 0, 0].getD (op.toNat - 1) 0
def base (op : Int) : Nat := pk (opc op) 0 (op3 op) 0 (op2 op) (op7 op)
/-- A number of 32 bits, as it lies. -/
def un (z : Int) : Nat := (z % 4294967296).toNat
/-- An instruction's word. -/
def word (t : T5) : Nat :=
  if fmt t.1 = 85 then pk (opc t.1) t.2.1.toNat (un t.2.2.2.2 / 4096 % 8) (un t.2.2.2.2 / 32768 % 32) (un t.2.2.2.2 / 1048576 % 32) (un t.2.2.2.2 / 33554432)
  else if fmt t.1 = 74 then pk (opc t.1) t.2.1.toNat (un t.2.2.2.2 / 4096 % 8) (un t.2.2.2.2 / 32768 % 32) (un t.2.2.2.2 / 2048 % 2 + un t.2.2.2.2 / 2 % 16 * 2) (un t.2.2.2.2 / 32 % 64 + un t.2.2.2.2 / 1048576 % 2 * 64)
  else if fmt t.1 = 73 then pk (opc t.1) t.2.1.toNat (op3 t.1) t.2.2.1.toNat (un t.2.2.2.2 % 32) (un t.2.2.2.2 / 32 % 128)
  else if fmt t.1 = 66 then pk (opc t.1) (un t.2.2.2.2 / 2048 % 2 + un t.2.2.2.2 / 2 % 16 * 2) (op3 t.1) t.2.2.1.toNat t.2.2.2.1.toNat (un t.2.2.2.2 / 32 % 64 + un t.2.2.2.2 / 4096 % 2 * 64)
  else if fmt t.1 = 83 then pk (opc t.1) (un t.2.2.2.2 % 32) (op3 t.1) t.2.2.1.toNat t.2.2.2.1.toNat (un t.2.2.2.2 / 32 % 128)
  else if fmt t.1 = 72 then pk (opc t.1) t.2.1.toNat (op3 t.1) t.2.2.1.toNat (un t.2.2.2.2 % 32) (op7 t.1)
  else if fmt t.1 = 82 then pk (opc t.1) t.2.1.toNat (op3 t.1) t.2.2.1.toNat t.2.2.2.1.toNat (op7 t.1)
  else if fmt t.1 = 67 then pk (opc t.1) t.2.1.toNat (op3 t.1) t.2.2.1.toNat (un t.2.2.2.2 % 32) (un t.2.2.2.2 / 32 % 128)
  else pk (opc t.1) 0 (op3 t.1) 0 (op2 t.1) (op7 t.1)
theorem un_lt (z : Int) : un z < 4294967296 := by unfold un; omega
theorem back12 (z : Int) (h : -2048 ≤ z ∧ z < 2048) : sg (un z % 32 + 32 * (un z / 32 % 128)) 12 = z := by unfold sg un; split <;> omega
theorem back12u (z : Int) (h : 0 ≤ z ∧ z < 4096) : (un z % 32 + 32 * (un z / 32 % 128) : Nat) = z := by unfold un; omega
theorem back5 (z : Int) (h : 0 ≤ z ∧ z < 32) : ((un z % 32 : Nat) : Int) = z := by unfold un; omega
theorem bits13 (u : Nat) (h : u % 2 = 0) : (u / 32 % 64 + u / 4096 % 2 * 64) / 64 * 4096 + (u / 2048 % 2 + u / 2 % 16 * 2) % 2 * 2048 + (u / 32 % 64 + u / 4096 % 2 * 64) % 64 * 32 + (u / 2048 % 2 + u / 2 % 16 * 2) / 2 * 2 = u % 8192 := by
  rw [show (u / 32 % 64 + u / 4096 % 2 * 64) / 64 = u / 4096 % 2 by omega, show (u / 2048 % 2 + u / 2 % 16 * 2) % 2 = u / 2048 % 2 by omega, show (u / 32 % 64 + u / 4096 % 2 * 64) % 64 = u / 32 % 64 by omega, show (u / 2048 % 2 + u / 2 % 16 * 2) / 2 = u / 2 % 16 by omega]
  omega
theorem bits21 (u : Nat) (h : u % 2 = 0) : (u / 32 % 64 + u / 1048576 % 2 * 64) / 64 * 1048576 + (u / 4096 % 8 + 8 * (u / 32768 % 32)) * 4096 + (u / 2048 % 2 + u / 2 % 16 * 2) % 2 * 2048 + ((u / 2048 % 2 + u / 2 % 16 * 2) / 2 + 16 * ((u / 32 % 64 + u / 1048576 % 2 * 64) % 64)) * 2 = u % 2097152 := by
  rw [show (u / 32 % 64 + u / 1048576 % 2 * 64) / 64 = u / 1048576 % 2 by omega, show (u / 2048 % 2 + u / 2 % 16 * 2) % 2 = u / 2048 % 2 by omega, show (u / 32 % 64 + u / 1048576 % 2 * 64) % 64 = u / 32 % 64 by omega, show (u / 2048 % 2 + u / 2 % 16 * 2) / 2 = u / 2 % 16 by omega]
  omega
theorem back13 (z : Int) (h : z % 2 = 0 ∧ -4096 ≤ z ∧ z < 4096) : sg ((un z / 32 % 64 + un z / 4096 % 2 * 64) / 64 * 4096 + (un z / 2048 % 2 + un z / 2 % 16 * 2) % 2 * 2048 + (un z / 32 % 64 + un z / 4096 % 2 * 64) % 64 * 32 + (un z / 2048 % 2 + un z / 2 % 16 * 2) / 2 * 2) 13 = z := by
  obtain ⟨h1, h2⟩ := h
  rw [bits13 (un z) (by unfold un; omega)]
  unfold sg un; split <;> omega
theorem back21 (z : Int) (h : z % 2 = 0 ∧ -1048576 ≤ z ∧ z < 1048576) : sg ((un z / 32 % 64 + un z / 1048576 % 2 * 64) / 64 * 1048576 + (un z / 4096 % 8 + 8 * (un z / 32768 % 32)) * 4096 + (un z / 2048 % 2 + un z / 2 % 16 * 2) % 2 * 2048 + ((un z / 2048 % 2 + un z / 2 % 16 * 2) / 2 + 16 * ((un z / 32 % 64 + un z / 1048576 % 2 * 64) % 64)) * 2) 21 = z := by
  obtain ⟨h1, h2⟩ := h
  rw [bits21 (un z) (by unfold un; omega)]
  unfold sg un; split <;> omega
theorem back32 (z : Int) (h : z % 4096 = 0 ∧ -2147483648 ≤ z ∧ z < 2147483648) : sg ((un z / 4096 % 8 + 8 * (un z / 32768 % 32) + 256 * (un z / 1048576 % 32) + 8192 * (un z / 33554432)) * 4096) 32 = z := by
  obtain ⟨h1, h2⟩ := h
  have e : (un z / 4096 % 8 + 8 * (un z / 32768 % 32) + 256 * (un z / 1048576 % 32) + 8192 * (un z / 33554432)) * 4096 = un z := by
    have : un z % 4096 = 0 := by unfold un; omega
    omega
  rw [e]; unfold sg un; split <;> omega
theorem nat_of {z : Int} {n : Int} (h : 0 ≤ z ∧ z < n) : ∃ k : Nat, z = k ∧ (k : Int) < n := ⟨z.toNat, by omega, by omega⟩
theorem fifty5 {op : Int} (h : 1 ≤ op ∧ op ≤ 55) : op = 1 ∨ op = 2 ∨ op = 3 ∨ op = 4 ∨ op = 5 ∨ op = 6 ∨ op = 7 ∨ op = 8 ∨ op = 9 ∨ op = 10 ∨ op = 11 ∨ op = 12 ∨ op = 13 ∨ op = 14 ∨ op = 15 ∨ op = 16 ∨ op = 17 ∨ op = 18 ∨ op = 19 ∨ op = 20 ∨ op = 21 ∨ op = 22 ∨ op = 23 ∨ op = 24 ∨ op = 25 ∨ op = 26 ∨ op = 27 ∨ op = 28 ∨ op = 29 ∨ op = 30 ∨ op = 31 ∨ op = 32 ∨ op = 33 ∨ op = 34 ∨ op = 35 ∨ op = 36 ∨ op = 37 ∨ op = 38 ∨ op = 39 ∨ op = 40 ∨ op = 41 ∨ op = 42 ∨ op = 43 ∨ op = 44 ∨ op = 45 ∨ op = 46 ∨ op = 47 ∨ op = 48 ∨ op = 49 ∨ op = 50 ∨ op = 51 ∨ op = 52 ∨ op = 53 ∨ op = 54 ∨ op = 55 := by omega
theorem opB (op : Int) : opc op < 128 ∧ op3 op < 8 ∧ op7 op < 128 ∧ op2 op < 32 := by
  by_cases h : 1 ≤ op ∧ op ≤ 55
  · rcases fifty5 h with rfl | rfl | rfl | rfl | rfl | rfl | rfl | rfl | rfl | rfl | rfl | rfl | rfl | rfl | rfl | rfl | rfl | rfl | rfl | rfl | rfl | rfl | rfl | rfl | rfl | rfl | rfl | rfl | rfl | rfl | rfl | rfl | rfl | rfl | rfl | rfl | rfl | rfl | rfl | rfl | rfl | rfl | rfl | rfl | rfl | rfl | rfl | rfl | rfl | rfl | rfl | rfl | rfl | rfl | rfl <;> decide
  · by_cases h1 : op ≤ 0
    · unfold opc op3 op7 op2
      rw [show op.toNat - 1 = 0 by omega]; decide
    · obtain ⟨k, hk⟩ : ∃ k, op.toNat - 1 = 55 + k := ⟨op.toNat - 56, by omega⟩
      unfold opc op3 op7 op2
      rw [hk]; simp [List.getD]
/-- A valid instruction's word is decoded as itself. -/
theorem dec_word {t : T5} (h : valid t) : dec (word t) = t := by
  obtain ⟨op, rd, r1, r2, im⟩ := t
  obtain ⟨h1, h2, hrd, hr1, hr2, hU, hJ, hI, hB, hS, hH, hR, hC, hN⟩ := h
  dsimp only at h1 h2 hrd hr1 hr2 hU hJ hI hB hS hH hR hC hN
  obtain ⟨rd, rfl, hrd⟩ := nat_of hrd
  obtain ⟨r1, rfl, hr1⟩ := nat_of hr1
  obtain ⟨r2, rfl, hr2⟩ := nat_of hr2
  have hu := un_lt im
  obtain ⟨ba, b3, b7, b2⟩ := opB op
  unfold word
  dsimp only [Int.toNat_natCast]
  rcases fmt_cases op with ⟨g, e⟩ | ⟨g, e⟩ | ⟨g, e⟩ | ⟨g, e⟩ | ⟨g, e⟩ | ⟨g, e⟩ | ⟨g, e⟩ | ⟨g, e⟩ | ⟨g, e⟩ | ⟨g, e⟩
  all_goals rw [e] at hU hJ hI hB hS hH hR hC hN ⊢
  case inl =>
    obtain ⟨z1, z2, h⟩ := hU rfl
    simp only [if_pos]
    have hb : PkB (opc op) rd (un im / 4096 % 8) (un im / 32768 % 32) (un im / 1048576 % 32) (un im / 33554432) := ⟨ba, by omega, by omega, by omega, by omega, by omega⟩
    rw [dec_pk hb]
    have hi := immU_pk hb
    rw [back32 im h] at hi
    generalize pk (opc op) rd (un im / 4096 % 8) (un im / 32768 % 32) (un im / 1048576 % 32) (un im / 33554432) = x at hi ⊢
    rcases g with rfl | rfl <;> simp only [D5, opc] <;> simp [hi, z1, z2]
  case inr.inl =>
    obtain ⟨z1, z2, h⟩ := hJ rfl
    simp only [show ¬ ((74 : Int) = 85) by decide, if_false, if_pos]
    have hb : PkB (opc op) rd (un im / 4096 % 8) (un im / 32768 % 32) (un im / 2048 % 2 + un im / 2 % 16 * 2) (un im / 32 % 64 + un im / 1048576 % 2 * 64) := ⟨ba, by omega, by omega, by omega, by omega, by omega⟩
    rw [dec_pk hb]
    have hi := immJ_pk hb
    rw [back21 im h] at hi
    generalize pk (opc op) rd (un im / 4096 % 8) (un im / 32768 % 32) (un im / 2048 % 2 + un im / 2 % 16 * 2) (un im / 32 % 64 + un im / 1048576 % 2 * 64) = x at hi ⊢
    subst g
    simp only [D5, opc]; simp [hi, z1, z2]
  case inr.inr.inl =>
    obtain ⟨z1, h⟩ := hI rfl
    simp only [show ¬ ((73 : Int) = 85) by decide, show ¬ ((73 : Int) = 74) by decide, if_false, if_pos]
    have hb : PkB (opc op) rd (op3 op) r1 (un im % 32) (un im / 32 % 128) := ⟨ba, by omega, by omega, by omega, by omega, by omega⟩
    rw [dec_pk hb]
    have hi := immI_pk hb
    rw [back12 im h] at hi
    generalize pk (opc op) rd (op3 op) r1 (un im % 32) (un im / 32 % 128) = x at hi ⊢
    rcases (show op = 4 ∨ op = 11 ∨ op = 12 ∨ op = 13 ∨ op = 14 ∨ op = 15 ∨ op = 19 ∨ op = 20 ∨ op = 21 ∨ op = 22 ∨ op = 23 ∨ op = 24 by omega) with rfl | rfl | rfl | rfl | rfl | rfl | rfl | rfl | rfl | rfl | rfl | rfl <;> simp only [D5, imm5, wth, opc, op3] <;> simp [hi, z1, tL, tI]
  case inr.inr.inr.inl =>
    obtain ⟨z1, h⟩ := hB rfl
    simp only [show ¬ ((66 : Int) = 85) by decide, show ¬ ((66 : Int) = 74) by decide, show ¬ ((66 : Int) = 73) by decide, if_false, if_pos]
    have hb : PkB (opc op) (un im / 2048 % 2 + un im / 2 % 16 * 2) (op3 op) r1 r2 (un im / 32 % 64 + un im / 4096 % 2 * 64) := ⟨ba, by omega, by omega, by omega, by omega, by omega⟩
    rw [dec_pk hb]
    have hi := immB_pk hb
    rw [back13 im h] at hi
    generalize pk (opc op) (un im / 2048 % 2 + un im / 2 % 16 * 2) (op3 op) r1 r2 (un im / 32 % 64 + un im / 4096 % 2 * 64) = x at hi ⊢
    rcases (show op = 5 ∨ op = 6 ∨ op = 7 ∨ op = 8 ∨ op = 9 ∨ op = 10 by omega) with rfl | rfl | rfl | rfl | rfl | rfl <;> simp only [D5, wth, opc, op3] <;> simp [hi, z1, tB]
  case inr.inr.inr.inr.inl =>
    obtain ⟨z1, h⟩ := hS rfl
    simp only [show ¬ ((83 : Int) = 85) by decide, show ¬ ((83 : Int) = 74) by decide, show ¬ ((83 : Int) = 73) by decide, show ¬ ((83 : Int) = 66) by decide, if_false, if_pos]
    have hb : PkB (opc op) (un im % 32) (op3 op) r1 r2 (un im / 32 % 128) := ⟨ba, by omega, by omega, by omega, by omega, by omega⟩
    rw [dec_pk hb]
    have hi := immS_pk hb
    rw [back12 im h] at hi
    generalize pk (opc op) (un im % 32) (op3 op) r1 r2 (un im / 32 % 128) = x at hi ⊢
    rcases (show op = 16 ∨ op = 17 ∨ op = 18 by omega) with rfl | rfl | rfl <;> simp only [D5, wth, opc, op3] <;> simp [hi, z1, tW]
  case inr.inr.inr.inr.inr.inl =>
    obtain ⟨z1, h⟩ := hH rfl
    simp only [show ¬ ((72 : Int) = 85) by decide, show ¬ ((72 : Int) = 74) by decide, show ¬ ((72 : Int) = 73) by decide, show ¬ ((72 : Int) = 66) by decide, show ¬ ((72 : Int) = 83) by decide, if_false, if_pos]
    have hb : PkB (opc op) rd (op3 op) r1 (un im % 32) (op7 op) := ⟨ba, by omega, by omega, by omega, by omega, by omega⟩
    rw [dec_pk hb]
    have hi := back5 im h
    rcases (show op = 25 ∨ op = 26 ∨ op = 27 by omega) with rfl | rfl | rfl <;> simp only [D5, imm5, opc, op3, op7] <;> simp [z1] <;> simpa using hi
  case inr.inr.inr.inr.inr.inr.inl =>
    have z1 := hR rfl
    simp only [show ¬ ((82 : Int) = 85) by decide, show ¬ ((82 : Int) = 74) by decide, show ¬ ((82 : Int) = 73) by decide, show ¬ ((82 : Int) = 66) by decide, show ¬ ((82 : Int) = 83) by decide, show ¬ ((82 : Int) = 72) by decide, if_false, if_pos]
    have hb : PkB (opc op) rd (op3 op) r1 r2 (op7 op) := ⟨ba, by omega, by omega, by omega, by omega, by omega⟩
    rw [dec_pk hb]
    rcases (show op = 28 ∨ op = 29 ∨ op = 30 ∨ op = 31 ∨ op = 32 ∨ op = 33 ∨ op = 34 ∨ op = 35 ∨ op = 36 ∨ op = 37 ∨ op = 38 ∨ op = 39 ∨ op = 40 ∨ op = 41 ∨ op = 42 ∨ op = 43 ∨ op = 44 ∨ op = 45 by omega) with rfl | rfl | rfl | rfl | rfl | rfl | rfl | rfl | rfl | rfl | rfl | rfl | rfl | rfl | rfl | rfl | rfl | rfl <;> simp only [D5, wth, opc, op3, op7] <;> simp [z1, regOp, tR, tM]
  case inr.inr.inr.inr.inr.inr.inr.inl =>
    obtain ⟨z1, h⟩ := hC rfl
    simp only [show ¬ ((67 : Int) = 85) by decide, show ¬ ((67 : Int) = 74) by decide, show ¬ ((67 : Int) = 73) by decide, show ¬ ((67 : Int) = 66) by decide, show ¬ ((67 : Int) = 83) by decide, show ¬ ((67 : Int) = 72) by decide, show ¬ ((67 : Int) = 82) by decide, if_false, if_pos]
    have hb : PkB (opc op) rd (op3 op) r1 (un im % 32) (un im / 32 % 128) := ⟨ba, by omega, by omega, by omega, by omega, by omega⟩
    rw [dec_pk hb]
    have hi : pk (opc op) rd (op3 op) r1 (un im % 32) (un im / 32 % 128) / 2 ^ 20 % 2 ^ 12 = un im % 32 + 32 * (un im / 32 % 128) := by
      obtain ⟨h1, h2, h3, h4, h5, h6⟩ := hb; unfold pk; omega
    have hi2 := back12u im h
    have ne : ∀ k, pk (opc op) rd (op3 op) r1 (un im % 32) (un im / 32 % 128) = k → k / 4096 % 8 = op3 op := by
      intro k hk; rw [← hk]; exact (pk_fields hb).2.1
    have n1 : pk (opc op) rd (op3 op) r1 (un im % 32) (un im / 32 % 128) ≠ 115 := fun hk => by
      have := ne _ hk
      rcases (show op = 50 ∨ op = 51 ∨ op = 52 ∨ op = 53 ∨ op = 54 ∨ op = 55 by omega) with rfl | rfl | rfl | rfl | rfl | rfl <;> exact absurd this (by decide)
    have n2 : pk (opc op) rd (op3 op) r1 (un im % 32) (un im / 32 % 128) ≠ 1048691 := fun hk => by
      have := ne _ hk
      rcases (show op = 50 ∨ op = 51 ∨ op = 52 ∨ op = 53 ∨ op = 54 ∨ op = 55 by omega) with rfl | rfl | rfl | rfl | rfl | rfl <;> exact absurd this (by decide)
    have n3 : pk (opc op) rd (op3 op) r1 (un im % 32) (un im / 32 % 128) ≠ 807403635 := fun hk => by
      have := ne _ hk
      rcases (show op = 50 ∨ op = 51 ∨ op = 52 ∨ op = 53 ∨ op = 54 ∨ op = 55 by omega) with rfl | rfl | rfl | rfl | rfl | rfl <;> exact absurd this (by decide)
    generalize pk (opc op) rd (op3 op) r1 (un im % 32) (un im / 32 % 128) = x at *
    have e5 : ∀ c : Int, c ≠ 0 → sys5 x (op3 op) rd r1 = wth (tS (op3 op)) rd r1 0 im := by
      intro _ _
      unfold sys5
      rw [if_neg n1, if_neg n2, if_neg n3, hi, hi2]
    have e6 := e5 1 (by decide)
    rcases (show op = 50 ∨ op = 51 ∨ op = 52 ∨ op = 53 ∨ op = 54 ∨ op = 55 by omega) with rfl | rfl | rfl | rfl | rfl | rfl <;> simp only [D5, opc, e6] <;> simp [z1, wth, tS, op3]
  case inr.inr.inr.inr.inr.inr.inr.inr.inl =>
    obtain ⟨z1, z2, z3, z4⟩ := hN rfl
    subst z4
    have y1 : rd = 0 := by omega
    have y2 : r1 = 0 := by omega
    have y3 : r2 = 0 := by omega
    subst y1 y2 y3
    rcases (show op = 46 ∨ op = 47 ∨ op = 48 ∨ op = 49 by omega) with rfl | rfl | rfl | rfl <;> decide
  case inr.inr.inr.inr.inr.inr.inr.inr.inr => exfalso; omega
theorem vU {op rd im : Int} (h : op = 1 ∨ op = 2) (h1 : 0 ≤ rd ∧ rd < 32) (h2 : im % 4096 = 0 ∧ -2147483648 ≤ im ∧ im < 2147483648) : valid (op, rd, 0, 0, im) := by
  have e : fmt op = 85 := by rcases h with rfl | rfl <;> decide
  unfold valid; dsimp only; omega
theorem vJ {rd im : Int} (h1 : 0 ≤ rd ∧ rd < 32) (h2 : im % 2 = 0 ∧ -1048576 ≤ im ∧ im < 1048576) : valid (3, rd, 0, 0, im) := by
  have e : fmt 3 = 74 := by decide
  unfold valid; dsimp only; omega
theorem vI {op rd r1 im : Int} (h : op = 4 ∨ (11 ≤ op ∧ op ≤ 15) ∨ (19 ≤ op ∧ op ≤ 24)) (h1 : 0 ≤ rd ∧ rd < 32) (h3 : 0 ≤ r1 ∧ r1 < 32) (h2 : -2048 ≤ im ∧ im < 2048) : valid (op, rd, r1, 0, im) := by
  have e : fmt op = 73 := by unfold fmt; rw [if_neg (by omega), if_neg (by omega), if_pos h]
  unfold valid; dsimp only; omega
theorem vB {op r1 r2 im : Int} (h : 5 ≤ op ∧ op ≤ 10) (h1 : 0 ≤ r1 ∧ r1 < 32) (h3 : 0 ≤ r2 ∧ r2 < 32) (h2 : im % 2 = 0 ∧ -4096 ≤ im ∧ im < 4096) : valid (op, 0, r1, r2, im) := by
  have e : fmt op = 66 := by unfold fmt; rw [if_neg (by omega), if_neg (by omega), if_neg (by omega), if_pos h]
  unfold valid; dsimp only; omega
theorem vS {op r1 r2 im : Int} (h : 16 ≤ op ∧ op ≤ 18) (h1 : 0 ≤ r1 ∧ r1 < 32) (h3 : 0 ≤ r2 ∧ r2 < 32) (h2 : -2048 ≤ im ∧ im < 2048) : valid (op, 0, r1, r2, im) := by
  have e : fmt op = 83 := by unfold fmt; rw [if_neg (by omega), if_neg (by omega), if_neg (by omega), if_neg (by omega), if_pos h]
  unfold valid; dsimp only; omega
theorem vH {op rd r1 im : Int} (h : 25 ≤ op ∧ op ≤ 27) (h1 : 0 ≤ rd ∧ rd < 32) (h3 : 0 ≤ r1 ∧ r1 < 32) (h2 : 0 ≤ im ∧ im < 32) : valid (op, rd, r1, 0, im) := by
  have e : fmt op = 72 := by unfold fmt; rw [if_neg (by omega), if_neg (by omega), if_neg (by omega), if_neg (by omega), if_neg (by omega), if_pos h]
  unfold valid; dsimp only; omega
theorem vR {op rd r1 r2 : Int} (h : 28 ≤ op ∧ op ≤ 45) (h1 : 0 ≤ rd ∧ rd < 32) (h3 : 0 ≤ r1 ∧ r1 < 32) (h2 : 0 ≤ r2 ∧ r2 < 32) : valid (op, rd, r1, r2, 0) := by
  have e : fmt op = 82 := by unfold fmt; rw [if_neg (by omega), if_neg (by omega), if_neg (by omega), if_neg (by omega), if_neg (by omega), if_neg (by omega), if_pos h]
  unfold valid; dsimp only; omega
theorem vC {op rd r1 im : Int} (h : 50 ≤ op ∧ op ≤ 55) (h1 : 0 ≤ rd ∧ rd < 32) (h3 : 0 ≤ r1 ∧ r1 < 32) (h2 : 0 ≤ im ∧ im < 4096) : valid (op, rd, r1, 0, im) := by
  have e : fmt op = 67 := by unfold fmt; rw [if_neg (by omega), if_neg (by omega), if_neg (by omega), if_neg (by omega), if_neg (by omega), if_neg (by omega), if_neg (by omega), if_pos h]
  unfold valid; dsimp only; omega
theorem vN {op : Int} (h : 46 ≤ op ∧ op ≤ 49) : valid (op, 0, 0, 0, 0) := by
  have e : fmt op = 78 := by unfold fmt; rw [if_neg (by omega), if_neg (by omega), if_neg (by omega), if_neg (by omega), if_neg (by omega), if_neg (by omega), if_neg (by omega), if_neg (by omega), if_pos h]
  unfold valid; dsimp only; omega
theorem v_wth {op rd r1 r2 im : Int} (h : op ≠ 0 → valid (op, rd, r1, r2, im)) (n : (wth op rd r1 r2 im).1 ≠ 0) : valid (wth op rd r1 r2 im) := by
  unfold wth at n ⊢
  split
  · rename_i c; rw [if_pos c] at n; exact absurd rfl n
  · rename_i c; exact h c
theorem tB_r {f3 : Nat} (h : f3 < 8) (n : tB f3 ≠ 0) : 5 ≤ tB f3 ∧ tB f3 ≤ 10 := by rcases eight h with rfl | rfl | rfl | rfl | rfl | rfl | rfl | rfl <;> revert n <;> decide
theorem tL_r {f3 : Nat} (h : f3 < 8) (n : tL f3 ≠ 0) : 11 ≤ tL f3 ∧ tL f3 ≤ 15 := by rcases eight h with rfl | rfl | rfl | rfl | rfl | rfl | rfl | rfl <;> revert n <;> decide
theorem tW_r {f3 : Nat} (h : f3 < 8) (n : tW f3 ≠ 0) : 16 ≤ tW f3 ∧ tW f3 ≤ 18 := by rcases eight h with rfl | rfl | rfl | rfl | rfl | rfl | rfl | rfl <;> revert n <;> decide
theorem tI_r {f3 : Nat} (h : f3 < 8) (n : tI f3 ≠ 0) : 19 ≤ tI f3 ∧ tI f3 ≤ 24 := by rcases eight h with rfl | rfl | rfl | rfl | rfl | rfl | rfl | rfl <;> revert n <;> decide
theorem tS_r {f3 : Nat} (h : f3 < 8) (n : tS f3 ≠ 0) : 50 ≤ tS f3 ∧ tS f3 ≤ 55 := by rcases eight h with rfl | rfl | rfl | rfl | rfl | rfl | rfl | rfl <;> revert n <;> decide
theorem tR_r {f3 : Nat} (h : f3 < 8) : 28 ≤ tR f3 ∧ tR f3 ≤ 45 := by rcases eight h with rfl | rfl | rfl | rfl | rfl | rfl | rfl | rfl <;> decide
theorem tM_r {f3 : Nat} (h : f3 < 8) : 28 ≤ tM f3 ∧ tM f3 ≤ 45 := by rcases eight h with rfl | rfl | rfl | rfl | rfl | rfl | rfl | rfl <;> decide
theorem regOp_r {f7 f3 : Nat} (h : f3 < 8) (n : regOp f7 f3 ≠ 0) : 28 ≤ regOp f7 f3 ∧ regOp f7 f3 ≤ 45 := by
  unfold regOp at n ⊢
  split
  · exact tR_r h
  split
  · exact tM_r h
  split
  · split
    · decide
    · split
      · decide
      · rename_i c0 c1 c2 c3 c4; simp only [if_neg c0, if_neg c1, if_pos c2, if_neg c3, if_neg c4] at n; exact absurd rfl n
  · rename_i c0 c1 c2; simp only [if_neg c0, if_neg c1, if_neg c2] at n; exact absurd rfl n
theorem none_v (h : none5.1 ≠ 0) : valid none5 := absurd rfl h
set_option maxHeartbeats 4000000 in
/-- What is decoded can be encoded. -/
theorem dec_valid {x : Nat} : (dec x).1 ≠ 0 → valid (dec x) := by
  unfold dec
  have h3 : x / 2 ^ 12 % 2 ^ 3 < 8 := Nat.mod_lt _ (by decide)
  have h2 : x / 2 ^ 20 % 2 ^ 5 < 32 := Nat.mod_lt _ (by decide)
  have hd : x / 2 ^ 7 % 2 ^ 5 < 32 := Nat.mod_lt _ (by decide)
  have h1 : x / 2 ^ 15 % 2 ^ 5 < 32 := Nat.mod_lt _ (by decide)
  generalize x / 2 ^ 0 % 2 ^ 7 = code at *
  generalize x / 2 ^ 12 % 2 ^ 3 = f3 at *
  generalize x / 2 ^ 25 % 2 ^ 7 = f7 at *
  generalize x / 2 ^ 7 % 2 ^ 5 = rd at *
  generalize x / 2 ^ 15 % 2 ^ 5 = r1 at *
  generalize x / 2 ^ 20 % 2 ^ 5 = r2 at *
  have hd' : 0 ≤ (rd : Int) ∧ (rd : Int) < 32 := by omega
  have h1' : 0 ≤ (r1 : Int) ∧ (r1 : Int) < 32 := by omega
  have h2' : 0 ≤ (r2 : Int) ∧ (r2 : Int) < 32 := by omega
  unfold D5
  split
  · exact fun _ => vU (.inl rfl) hd' (immU_r x)
  split
  · exact fun _ => vU (.inr rfl) hd' (immU_r x)
  split
  · exact fun _ => vJ hd' (immJ_r x)
  split
  · split
    · exact fun _ => vI (by omega) hd' h1' (immI_r x)
    · exact none_v
  split
  · exact v_wth fun n => vB (tB_r h3 n) h1' h2' (immB_r x)
  split
  · exact v_wth fun n => vI (.inr (.inl (tL_r h3 n))) hd' h1' (immI_r x)
  split
  · exact v_wth fun n => vS (tW_r h3 n) h1' h2' (immS_r x)
  split
  · unfold imm5
    split
    · split
      · exact fun _ => vH (by omega) hd' h1' h2'
      · exact none_v
    split
    · split
      · exact fun _ => vH (by omega) hd' h1' h2'
      split
      · exact fun _ => vH (by omega) hd' h1' h2'
      · exact none_v
    · exact v_wth fun n => vI (.inr (.inr (tI_r h3 n))) hd' h1' (immI_r x)
  split
  · exact v_wth fun n => vR (regOp_r h3 n) hd' h1' h2'
  split
  · split
    · exact fun _ => vN (by omega)
    · exact none_v
  split
  · unfold sys5
    split
    · exact fun _ => vN (by omega)
    split
    · exact fun _ => vN (by omega)
    split
    · exact fun _ => vN (by omega)
    · exact v_wth fun n => vC (tS_r h3 n) hd' h1' (by omega)
  · exact none_v
/-- What is no valid instruction is none that is decoded. -/
theorem dec_ne {x : Nat} {t : T5} (h : ¬ valid t) (hn : (dec x).1 ≠ 0) : dec x ≠ t := fun e => h (e ▸ dec_valid hn)
end Go.Proofs.YtgglclmilocgcaaGreatDoor.Md
