/- Numbers told in digits by the document. -/
import Derived.Test.YtjfbpnfegeimfaaDoorIt
set_option linter.unusedVariables false
set_option linter.unusedSimpArgs false
namespace Go.Proofs.YtjfbpnfegeimfaaDoor.Md
open Go.RowKit Go.Proofs.YtjfbpnfegeimfaaDoor.Ae Go.Proofs.YtjfbpnfegeimfaaDoor.Bv Go.Proofs.YtjfbpnfegeimfaaDoor
theorem ba_add (l m : List UInt8) : ((⟨l.toArray⟩ : ByteArray) ++ (⟨m.toArray⟩ : ByteArray)) = ⟨(l ++ m).toArray⟩ := by
  apply ByteArray.ext
  simp
theorem ba_size (l : List UInt8) : (⟨l.toArray⟩ : ByteArray).size = l.length := by
  show (l.toArray).size = _
  simp
theorem dec_len (u : Nat) : (Lib.decDigits u).length ≤ u + 1 := by
  induction u using Nat.strongRecOn with
  | ind u ih =>
    rw [Lib.decDigits]
    split
    · simp
    · have := ih (u / 10) (by omega)
      simp; omega
theorem dec_small {u : Nat} (h : u < 10) : Lib.decDigits u = [UInt8.ofNat (48 + u)] := by rw [Lib.decDigits, dif_pos h]
theorem dec_big {u : Nat} (h : ¬ u < 10) : Lib.decDigits u = Lib.decDigits (u / 10) ++ [UInt8.ofNat (48 + u % 10)] := by rw [Lib.decDigits, dif_neg h]
theorem utf_digit {d : Nat} (h : d < 10) : Utf8.encode ((48 + d : Nat) : Int) = ⟨[UInt8.ofNat (48 + d)].toArray⟩ := by
  rcases (show d = 0 ∨ d = 1 ∨ d = 2 ∨ d = 3 ∨ d = 4 ∨ d = 5 ∨ d = 6 ∨ d = 7 ∨ d = 8 ∨ d = 9 by omega) with rfl | rfl | rfl | rfl | rfl | rfl | rfl | rfl | rfl | rfl <;> rfl
theorem numN0 (n : Nat) (h : n ≤ 1099511627776) : AC Tryd.prog 35 [i64 n] [] (Ret (tx (Lib.decDigits n))) := by
  induction n using Nat.strongRecOn with
  | ind n ih =>
    refine AC.clean rfl (AC.of_body dok Tryd.func35 rfl rfl (Nat.le_of_ble_eq_true rfl) ?_)
    have d1 : decide ((n : Int) < 0) = false := decide_eq_false (by omega)
    conv => whnf
    rw [d1]; conv => whnf
    by_cases c : n < 10
    · rw [decide_eq_false (show ¬ ((n : Int) ≥ 10) by omega)]; conv => whnf
      have e : IntKind.i32.wrap (IntKind.i64.wrap (48 + (n : Int))) = ((48 + n : Nat) : Int) := by rw [IntKind.wrap_i64, IntKind.wrap_i32]; omega
      rw [e, utf_digit c, dec_small c]
      exact ⟨trivial, trivial, rfl, rfl⟩
    · rw [decide_eq_true (show ((n : Int) ≥ 10) by omega)]; conv => whnf
      have e1 : IntKind.i64.wrap ((n : Int).tdiv 10) = ((n / 10 : Nat) : Int) := by rw [show (n : Int).tdiv 10 = ((n / 10 : Nat) : Int) from rfl, IntKind.wrap_i64]; omega
      rw [e1]
      refine ((ih (n / 10) (by omega) (by omega)).anyH rfl rfl _).mono ?_
      rintro v H' ⟨rfl, rfl⟩
      conv => whnf
      have e : IntKind.i32.wrap (IntKind.i64.wrap (48 + (n : Int).tmod 10)) = ((48 + n % 10 : Nat) : Int) := by
        rw [show (n : Int).tmod 10 = ((n % 10 : Nat) : Int) from rfl, IntKind.wrap_i64, IntKind.wrap_i32]; omega
      rw [e, utf_digit (show n % 10 < 10 by omega), ba_add, ba_size, ba_size, ← dec_big c]
      have hl := dec_len (n / 10)
      refine ⟨?_, ?_⟩
      · show (((Lib.decDigits (n / 10)).length + 1 : Nat) : Int) ≤ 9223372036854775807
        omega
      conv => whnf
      exact ⟨trivial, trivial, rfl, rfl⟩
/-- Any number, in digits, as the document tells it. -/
theorem num0 (n : Int) (h0 : -1099511627776 ≤ n) (h1 : n ≤ 1099511627776) : AC Tryd.prog 35 [i64 n] [] (Ret (tx (Lib.itoa n))) := by
  by_cases c : n < 0
  · obtain ⟨m, rfl⟩ : ∃ m : Nat, n = -(m : Int) := ⟨n.natAbs, by omega⟩
    refine AC.clean rfl (AC.of_body dok Tryd.func35 rfl rfl (Nat.le_of_ble_eq_true rfl) ?_)
    conv => whnf
    rw [decide_eq_true c]; conv => whnf
    have e : IntKind.i64.wrap (0 - -(m : Int)) = (m : Int) := by rw [IntKind.wrap_i64]; omega
    rw [e]
    refine ((numN0 m (by omega)).anyH rfl rfl _).mono ?_
    rintro v H' ⟨rfl, rfl⟩
    conv => whnf
    have hl := dec_len m
    have e2 : Lib.itoa (-(m : Int)) = 45 :: Lib.decDigits m := by unfold Lib.itoa; rw [if_pos c]; simp
    rw [show ((⟨#[45]⟩ : ByteArray) ++ (⟨(Lib.decDigits m).toArray⟩ : ByteArray)) = ⟨(45 :: Lib.decDigits m).toArray⟩ from ba_add [45] _, ba_size, e2]
    refine ⟨?_, ?_⟩
    · show ((1 + (Lib.decDigits m).length : Nat) : Int) ≤ 9223372036854775807
      omega
    conv => whnf
    exact ⟨trivial, trivial, rfl, rfl⟩
  · obtain ⟨m, rfl⟩ : ∃ m : Nat, n = (m : Int) := ⟨n.toNat, by omega⟩
    have e2 : Lib.itoa (m : Int) = Lib.decDigits m := by unfold Lib.itoa; rw [if_neg c]; simp
    rw [e2]
    exact numN0 m (by omega)
theorem itoa_len (n : Int) (h0 : -1099511627776 ≤ n) (h1 : n ≤ 1099511627776) : (Lib.itoa n).length ≤ 1099511627778 := by
  unfold Lib.itoa
  split
  · have := dec_len n.natAbs; simp; omega
  · have := dec_len n.toNat; omega
/-- A register, told. -/
def rg (n : Int) : List UInt8 := 32 :: 120 :: Lib.itoa n
def sn (n : Int) : List UInt8 := 32 :: Lib.itoa n
theorem reg0r (n : Int) (h0 : -1099511627776 ≤ n) (h1 : n ≤ 1099511627776) : AC Tryd.prog 34 [i64 n] [] (Ret (tx (rg n))) := by
  refine AC.clean rfl (AC.of_body dok Tryd.func34 rfl rfl (Nat.le_of_ble_eq_true rfl) ?_)
  conv => whnf
  refine ((num0 n h0 h1).anyH rfl rfl _).mono ?_
  rintro v H' ⟨rfl, rfl⟩
  conv => whnf
  have hl := itoa_len n h0 h1
  rw [show ((⟨#[32, 120]⟩ : ByteArray) ++ (⟨(Lib.itoa n).toArray⟩ : ByteArray)) = ⟨(rg n).toArray⟩ from ba_add [32, 120] _, ba_size]
  refine ⟨?_, ?_⟩
  · show ((2 + (Lib.itoa n).length : Nat) : Int) ≤ 9223372036854775807
    omega
  conv => whnf
  exact ⟨trivial, trivial, rfl, rfl⟩
theorem reg1r (n : Int) (h0 : -1099511627776 ≤ n) (h1 : n ≤ 1099511627776) (H : Hp) : AC Tryd.prog 34 [i64 n] H (RetH H (tx (rg n))) := (reg0r n h0 h1).anyH rfl rfl H
theorem num1 (n : Int) (h0 : -1099511627776 ≤ n) (h1 : n ≤ 1099511627776) (H : Hp) : AC Tryd.prog 35 [i64 n] H (RetH H (tx (Lib.itoa n))) := (num0 n h0 h1).anyH rfl rfl H
end Go.Proofs.YtjfbpnfegeimfaaDoor.Md
