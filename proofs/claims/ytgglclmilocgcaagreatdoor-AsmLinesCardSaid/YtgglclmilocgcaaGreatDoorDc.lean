/- Words taken apart, and decoded: package decode. -/
import Derived.Test.YtgglclmilocgcaaGreatDoorFd
set_option linter.unusedVariables false
set_option linter.unusedSimpArgs false
namespace Go.Proofs.YtgglclmilocgcaaGreatDoor.Md
open Go.RowKit Go.Proofs.YtgglclmilocgcaaGreatDoor.Ae Go.Proofs.YtgglclmilocgcaaGreatDoor.Bv Go.Proofs.YtgglclmilocgcaaGreatDoor
/-- A word's parts. -/
abbrev parts (x code f3 f7 rd r1 r2 : Int) : List Seg := [.one (.int .u32 x), .one (.int .i64 code), .one (.int .i64 f3), .one (.int .i64 f7), .one (.int .i64 rd), .one (.int .i64 r1), .one (.int .i64 r2)]
theorem i64_nat (n : Nat) (h : n < 4294967296) : IntKind.i64.wrap (n : Int) = n := by rw [IntKind.wrap_i64]; omega
theorem apart0 (x : Nat) (hx : x < 4294967296) : AC Tryz.prog 28 [u32 x] [] (Ret (.agg (parts x (x / 2 ^ 0 % 2 ^ 7 : Nat) (x / 2 ^ 12 % 2 ^ 3 : Nat) (x / 2 ^ 25 % 2 ^ 7 : Nat) (x / 2 ^ 7 % 2 ^ 5 : Nat) (x / 2 ^ 15 % 2 ^ 5 : Nat) (x / 2 ^ 20 % 2 ^ 5 : Nat)))) := by
  refine AC.clean rfl (AC.of_body dok Tryz.func28 rfl rfl (Nat.le_of_ble_eq_true rfl) ?_)
  conv => whnf
  refine aw_rounds dok 7 ?_
  conv => whnf
  refine (bits1 x 0 7 hx (by decide) (by decide) (by decide) _).mono ?_
  rintro v H' ⟨rfl, rfl⟩
  conv => whnf
  refine (bits1 x 12 3 hx (by decide) (by decide) (by decide) _).mono ?_
  rintro v H' ⟨rfl, rfl⟩
  conv => whnf
  refine (bits1 x 25 7 hx (by decide) (by decide) (by decide) _).mono ?_
  rintro v H' ⟨rfl, rfl⟩
  conv => whnf
  refine (bits1 x 7 5 hx (by decide) (by decide) (by decide) _).mono ?_
  rintro v H' ⟨rfl, rfl⟩
  conv => whnf
  refine (bits1 x 15 5 hx (by decide) (by decide) (by decide) _).mono ?_
  rintro v H' ⟨rfl, rfl⟩
  conv => whnf
  refine (bits1 x 20 5 hx (by decide) (by decide) (by decide) _).mono ?_
  rintro v H' ⟨rfl, rfl⟩
  conv => whnf
  refine ⟨in_agg rfl, trivial, ?_, rfl⟩
  rw [i64_nat _ (by omega), i64_nat _ (by omega), i64_nat _ (by omega), i64_nat _ (by omega), i64_nat _ (by omega), i64_nat _ (by omega)]
  rfl
abbrev T5 := Int × Int × Int × Int × Int
abbrev ins (t : T5) : List Seg := inst t.1 t.2.1 t.2.2.1 t.2.2.2.1 t.2.2.2.2
def none5 : T5 := (0, 0, 0, 0, 0)
def wth (op rd r1 r2 im : Int) : T5 := if op = 0 then none5 else (op, rd, r1, r2, im)
theorem with0 (x code f3 f7 rd r1 r2 : Int) (op a b c d e : Int) : AC Tryz.prog 32 [.agg (parts x code f3 f7 rd r1 r2), i64 op, .agg (inst a b c d e)] [] (Ret (.agg (ins (wth op b c d e)))) := by
  refine AC.clean rfl (AC.of_body dok Tryz.func32 rfl rfl (Nat.le_of_ble_eq_true rfl) ?_)
  conv => whnf
  by_cases h : op = 0
  · subst h
    conv => whnf
    exact ⟨in_agg rfl, trivial, rfl, rfl⟩
  · have e : (op == 0) = false := by simpa using h
    rw [e]
    conv => whnf
    exact ⟨in_agg rfl, trivial, by simp only [wth, if_neg h], rfl⟩
theorem with1 (x code f3 f7 rd r1 r2 : Int) (op a b c d e : Int) (H : Hp) : AC Tryz.prog 32 [.agg (parts x code f3 f7 rd r1 r2), i64 op, .agg (inst a b c d e)] H (RetH H (.agg (ins (wth op b c d e)))) := (with0 x code f3 f7 rd r1 r2 op a b c d e).anyH rfl rfl H
def tI (k : Nat) : Int := [19, 0, 20, 21, 22, 0, 23, 24].getD k 0
def tS (k : Nat) : Int := [0, 50, 51, 52, 0, 53, 54, 55].getD k 0
def tR (k : Nat) : Int := [28, 30, 31, 32, 33, 34, 36, 37].getD k 0
def tM (k : Nat) : Int := [38, 39, 40, 41, 42, 43, 44, 45].getD k 0
def tB (k : Nat) : Int := [5, 6, 0, 0, 7, 8, 9, 10].getD k 0
def tL (k : Nat) : Int := [11, 12, 13, 0, 14, 15, 0, 0].getD k 0
def tW (k : Nat) : Int := [16, 17, 18, 0, 0, 0, 0, 0].getD k 0
def regOp (f7 f3 : Nat) : Int := if f7 = 0 then tR f3 else if f7 = 1 then tM f3 else if f7 = 32 then (if f3 = 0 then 29 else if f3 = 5 then 35 else 0) else 0
theorem eight {k : Nat} (h : k < 8) : k = 0 ∨ k = 1 ∨ k = 2 ∨ k = 3 ∨ k = 4 ∨ k = 5 ∨ k = 6 ∨ k = 7 := by omega
theorem bne_of {a : Nat} {b : Int} (h : (a : Int) ≠ b) : ((a : Int) == b) = false := by simpa using h
theorem reg0 (x code f3 f7 rd r1 r2 : Nat) (h3 : f3 < 8) : AC Tryz.prog 36 [.agg (parts x code f3 f7 rd r1 r2)] [] (Ret (i64 (regOp f7 f3))) := by
  refine AC.clean rfl (AC.of_body dok Tryz.func36 rfl rfl (Nat.le_of_ble_eq_true rfl) ?_)
  conv => whnf
  by_cases c0 : f7 = 0
  · subst c0
    rcases eight h3 with rfl | rfl | rfl | rfl | rfl | rfl | rfl | rfl <;> (conv => whnf) <;> exact ⟨trivial, trivial, rfl, rfl⟩
  rw [bne_of (a := f7) (b := 0) (by omega)]; conv => whnf
  by_cases c1 : f7 = 1
  · subst c1
    rcases eight h3 with rfl | rfl | rfl | rfl | rfl | rfl | rfl | rfl <;> (conv => whnf) <;> exact ⟨trivial, trivial, rfl, rfl⟩
  rw [bne_of (a := f7) (b := 1) (by omega)]; conv => whnf
  by_cases c2 : f7 = 32
  · subst c2
    rcases eight h3 with rfl | rfl | rfl | rfl | rfl | rfl | rfl | rfl <;> (conv => whnf) <;> exact ⟨trivial, trivial, rfl, rfl⟩
  rw [bne_of (a := f7) (b := 32) (by omega)]; conv => whnf
  rw [bne_of (a := f7) (b := 32) (by omega)]; conv => whnf
  exact ⟨trivial, trivial, by simp only [regOp, if_neg c0, if_neg c1, if_neg c2], rfl⟩
def imm5 (x f3 f7 rd r1 r2 : Nat) : T5 := if f3 = 1 then (if f7 = 0 then (25, rd, r1, 0, r2) else none5) else if f3 = 5 then (if f7 = 0 then (26, rd, r1, 0, r2) else if f7 = 32 then (27, rd, r1, 0, r2) else none5) else wth (tI f3) rd r1 0 (immI x)
theorem i32_nat (n : Nat) (h : n < 2147483648) : IntKind.i32.wrap (n : Int) = n := by rw [IntKind.wrap_i32]; omega
theorem imm0 (x code f3 f7 rd r1 r2 : Nat) (hx : x < 4294967296) (h3 : f3 < 8) (h2 : r2 < 32) : AC Tryz.prog 35 [.agg (parts x code f3 f7 rd r1 r2)] [] (Ret (.agg (ins (imm5 x f3 f7 rd r1 r2)))) := by
  refine AC.clean rfl (AC.of_body dok Tryz.func35 rfl rfl (Nat.le_of_ble_eq_true rfl) ?_)
  conv => whnf
  refine DR.mk ⟨.take 0 (.take 1 (.take 2 (.take 3 (.take 4 (.take 5 (.alt 6 (.take 7 (.alt 8 (.alt 9 .done .nil) .nil)) (.alt 8 (.alt 6 (.take 7 (.alt 9 .done .nil)) .nil) .nil))))))), by decide +kernel, [], ?_⟩
  conv => whnf
  refine ⟨?_, ?_⟩
  all_goals conv => whnf
  all_goals refine (immI1 x hx _).mono ?_
  all_goals rintro v H' ⟨rfl, rfl⟩
  all_goals conv => whnf
  all_goals rcases eight h3 with rfl | rfl | rfl | rfl | rfl | rfl | rfl | rfl
  all_goals conv => whnf
  case' refine_1.inr.inl | refine_1.inr.inr.inr.inr.inr.inl | refine_2.inr.inl | refine_2.inr.inr.inr.inr.inr.inl =>
    by_cases c0 : f7 = 0
    · subst c0
      conv => whnf
      rw [i32_nat r2 (by omega)]
      exact ⟨in_agg rfl, trivial, rfl, rfl⟩
    rw [bne_of (a := f7) (b := 0) (by omega)]; conv => whnf
  case' refine_1.inr.inl | refine_2.inr.inl =>
    exact ⟨in_agg rfl, trivial, by simp only [imm5, if_neg c0]; rfl, rfl⟩
  case' refine_1.inr.inr.inr.inr.inr.inl | refine_2.inr.inr.inr.inr.inr.inl =>
    by_cases c1 : f7 = 32
    · subst c1
      conv => whnf
      rw [i32_nat r2 (by omega)]
      exact ⟨in_agg rfl, trivial, rfl, rfl⟩
    rw [bne_of (a := f7) (b := 32) (by omega)]; conv => whnf
    exact ⟨in_agg rfl, trivial, by simp only [imm5, if_neg c0, if_neg c1]; rfl, rfl⟩
  all_goals refine DR.std (by decide +kernel) ⟨[1], ?_⟩
  all_goals conv => whnf
  all_goals refine (with1 _ _ _ _ _ _ _ _ _ _ _ _ _ _).mono ?_
  all_goals rintro v H' ⟨rfl, rfl⟩
  all_goals conv => whnf
  all_goals exact ⟨in_agg rfl, trivial, rfl, rfl⟩
def sys5 (x f3 rd r1 : Nat) : T5 := if x = 115 then (47, 0, 0, 0, 0) else if x = 1048691 then (48, 0, 0, 0, 0) else if x = 807403635 then (49, 0, 0, 0, 0) else wth (tS f3) rd r1 0 ((x / 2 ^ 20 % 2 ^ 12 : Nat) : Int)
theorem sys0 (x code f3 f7 rd r1 r2 : Nat) (hx : x < 4294967296) (h3 : f3 < 8) : AC Tryz.prog 37 [.agg (parts x code f3 f7 rd r1 r2)] [] (Ret (.agg (ins (sys5 x f3 rd r1)))) := by
  refine AC.clean rfl (AC.of_body dok Tryz.func37 rfl rfl (Nat.le_of_ble_eq_true rfl) ?_)
  conv => whnf
  by_cases c0 : x = 115
  · subst c0
    conv => whnf
    exact ⟨in_agg rfl, trivial, rfl, rfl⟩
  rw [bne_of (a := x) (b := 115) (by omega)]; conv => whnf
  by_cases c1 : x = 1048691
  · subst c1
    conv => whnf
    exact ⟨in_agg rfl, trivial, rfl, rfl⟩
  rw [bne_of (a := x) (b := 1048691) (by omega)]; conv => whnf
  by_cases c2 : x = 807403635
  · subst c2
    conv => whnf
    exact ⟨in_agg rfl, trivial, rfl, rfl⟩
  rw [bne_of (a := x) (b := 807403635) (by omega)]; conv => whnf
  have e : sys5 x f3 rd r1 = wth (tS f3) rd r1 0 ((x / 2 ^ 20 % 2 ^ 12 : Nat) : Int) := by simp only [sys5, if_neg c0, if_neg c1, if_neg c2]
  rw [e]
  rcases eight h3 with rfl | rfl | rfl | rfl | rfl | rfl | rfl | rfl
  · refine DR.std (by decide +kernel) ⟨[1], ?_⟩
    conv => whnf
    refine (bits1 x 20 12 hx (by decide) (by decide) (by decide) _).mono ?_
    rintro v H' ⟨rfl, rfl⟩
    conv => whnf
    rw [i32_nat (x / 2 ^ 20 % 2 ^ 12) (by omega)]
    refine (with1 x code 0 f7 rd r1 r2 0 0 rd r1 0 _ _).mono ?_
    rintro v H' ⟨rfl, rfl⟩
    conv => whnf
    exact ⟨in_agg rfl, trivial, rfl, rfl⟩
  · refine DR.std (by decide +kernel) ⟨[1], ?_⟩
    conv => whnf
    refine (bits1 x 20 12 hx (by decide) (by decide) (by decide) _).mono ?_
    rintro v H' ⟨rfl, rfl⟩
    conv => whnf
    rw [i32_nat (x / 2 ^ 20 % 2 ^ 12) (by omega)]
    refine (with1 x code 1 f7 rd r1 r2 50 0 rd r1 0 _ _).mono ?_
    rintro v H' ⟨rfl, rfl⟩
    conv => whnf
    exact ⟨in_agg rfl, trivial, rfl, rfl⟩
  · refine DR.std (by decide +kernel) ⟨[1], ?_⟩
    conv => whnf
    refine (bits1 x 20 12 hx (by decide) (by decide) (by decide) _).mono ?_
    rintro v H' ⟨rfl, rfl⟩
    conv => whnf
    rw [i32_nat (x / 2 ^ 20 % 2 ^ 12) (by omega)]
    refine (with1 x code 2 f7 rd r1 r2 51 0 rd r1 0 _ _).mono ?_
    rintro v H' ⟨rfl, rfl⟩
    conv => whnf
    exact ⟨in_agg rfl, trivial, rfl, rfl⟩
  · refine DR.std (by decide +kernel) ⟨[1], ?_⟩
    conv => whnf
    refine (bits1 x 20 12 hx (by decide) (by decide) (by decide) _).mono ?_
    rintro v H' ⟨rfl, rfl⟩
    conv => whnf
    rw [i32_nat (x / 2 ^ 20 % 2 ^ 12) (by omega)]
    refine (with1 x code 3 f7 rd r1 r2 52 0 rd r1 0 _ _).mono ?_
    rintro v H' ⟨rfl, rfl⟩
    conv => whnf
    exact ⟨in_agg rfl, trivial, rfl, rfl⟩
  · refine DR.std (by decide +kernel) ⟨[1], ?_⟩
    conv => whnf
    refine (bits1 x 20 12 hx (by decide) (by decide) (by decide) _).mono ?_
    rintro v H' ⟨rfl, rfl⟩
    conv => whnf
    rw [i32_nat (x / 2 ^ 20 % 2 ^ 12) (by omega)]
    refine (with1 x code 4 f7 rd r1 r2 0 0 rd r1 0 _ _).mono ?_
    rintro v H' ⟨rfl, rfl⟩
    conv => whnf
    exact ⟨in_agg rfl, trivial, rfl, rfl⟩
  · refine DR.std (by decide +kernel) ⟨[1], ?_⟩
    conv => whnf
    refine (bits1 x 20 12 hx (by decide) (by decide) (by decide) _).mono ?_
    rintro v H' ⟨rfl, rfl⟩
    conv => whnf
    rw [i32_nat (x / 2 ^ 20 % 2 ^ 12) (by omega)]
    refine (with1 x code 5 f7 rd r1 r2 53 0 rd r1 0 _ _).mono ?_
    rintro v H' ⟨rfl, rfl⟩
    conv => whnf
    exact ⟨in_agg rfl, trivial, rfl, rfl⟩
  · refine DR.std (by decide +kernel) ⟨[1], ?_⟩
    conv => whnf
    refine (bits1 x 20 12 hx (by decide) (by decide) (by decide) _).mono ?_
    rintro v H' ⟨rfl, rfl⟩
    conv => whnf
    rw [i32_nat (x / 2 ^ 20 % 2 ^ 12) (by omega)]
    refine (with1 x code 6 f7 rd r1 r2 54 0 rd r1 0 _ _).mono ?_
    rintro v H' ⟨rfl, rfl⟩
    conv => whnf
    exact ⟨in_agg rfl, trivial, rfl, rfl⟩
  · refine DR.std (by decide +kernel) ⟨[1], ?_⟩
    conv => whnf
    refine (bits1 x 20 12 hx (by decide) (by decide) (by decide) _).mono ?_
    rintro v H' ⟨rfl, rfl⟩
    conv => whnf
    rw [i32_nat (x / 2 ^ 20 % 2 ^ 12) (by omega)]
    refine (with1 x code 7 f7 rd r1 r2 55 0 rd r1 0 _ _).mono ?_
    rintro v H' ⟨rfl, rfl⟩
    conv => whnf
    exact ⟨in_agg rfl, trivial, rfl, rfl⟩
theorem apart1 (x : Nat) (hx : x < 4294967296) (H : Hp) : AC Tryz.prog 28 [u32 x] H (RetH H (.agg (parts x (x / 2 ^ 0 % 2 ^ 7 : Nat) (x / 2 ^ 12 % 2 ^ 3 : Nat) (x / 2 ^ 25 % 2 ^ 7 : Nat) (x / 2 ^ 7 % 2 ^ 5 : Nat) (x / 2 ^ 15 % 2 ^ 5 : Nat) (x / 2 ^ 20 % 2 ^ 5 : Nat)))) := (apart0 x hx).anyH rfl rfl H
theorem reg1 (x code f3 f7 rd r1 r2 : Nat) (h3 : f3 < 8) (H : Hp) : AC Tryz.prog 36 [.agg (parts x code f3 f7 rd r1 r2)] H (RetH H (i64 (regOp f7 f3))) := (reg0 x code f3 f7 rd r1 r2 h3).anyH rfl rfl H
theorem imm1 (x code f3 f7 rd r1 r2 : Nat) (hx : x < 4294967296) (h3 : f3 < 8) (h2 : r2 < 32) (H : Hp) : AC Tryz.prog 35 [.agg (parts x code f3 f7 rd r1 r2)] H (RetH H (.agg (ins (imm5 x f3 f7 rd r1 r2)))) := (imm0 x code f3 f7 rd r1 r2 hx h3 h2).anyH rfl rfl H
theorem sys1 (x code f3 f7 rd r1 r2 : Nat) (hx : x < 4294967296) (h3 : f3 < 8) (H : Hp) : AC Tryz.prog 37 [.agg (parts x code f3 f7 rd r1 r2)] H (RetH H (.agg (ins (sys5 x f3 rd r1)))) := (sys0 x code f3 f7 rd r1 r2 hx h3).anyH rfl rfl H
/-- What a word is, by its fields. -/
def D5 (x code f3 f7 rd r1 r2 : Nat) : T5 :=
  if code = 55 then (1, rd, 0, 0, immU x)
  else if code = 23 then (2, rd, 0, 0, immU x)
  else if code = 111 then (3, rd, 0, 0, immJ x)
  else if code = 103 then (if f3 = 0 then (4, rd, r1, 0, immI x) else none5)
  else if code = 99 then wth (tB f3) 0 r1 r2 (immB x)
  else if code = 3 then wth (tL f3) rd r1 0 (immI x)
  else if code = 35 then wth (tW f3) 0 r1 r2 (immS x)
  else if code = 19 then imm5 x f3 f7 rd r1 r2
  else if code = 51 then wth (regOp f7 f3) rd r1 r2 0
  else if code = 15 then (if f3 = 0 then (46, 0, 0, 0, 0) else none5)
  else if code = 115 then sys5 x f3 rd r1
  else none5
def dec (x : Nat) : T5 := D5 x (x / 2 ^ 0 % 2 ^ 7) (x / 2 ^ 12 % 2 ^ 3) (x / 2 ^ 25 % 2 ^ 7) (x / 2 ^ 7 % 2 ^ 5) (x / 2 ^ 15 % 2 ^ 5) (x / 2 ^ 20 % 2 ^ 5)
/-- An instruction, and whether it is one. -/
abbrev insB (t : T5) : AV := .tup [.agg (ins t), bo (t.1 != 0)]
theorem in_tupB {n : Nat} {l : List Seg} {b : Bool} (h : freeS l = true) : (AV.tup [.agg l, bo b]).inR n := ⟨in_agg h, trivial, trivial⟩
theorem dec0 (x : Nat) (hx : x < 4294967296) : AC Tryz.prog 15 [u32 x] [] (Ret (insB (dec x))) := by
  refine AC.clean rfl (AC.of_body dok Tryz.func15 rfl rfl (Nat.le_of_ble_eq_true rfl) ?_)
  conv => whnf
  refine (apart1 x hx _).mono ?_
  rintro v H' ⟨rfl, rfl⟩
  have h3 : x / 2 ^ 12 % 2 ^ 3 < 8 := Nat.mod_lt _ (by decide)
  have h2 : x / 2 ^ 20 % 2 ^ 5 < 32 := Nat.mod_lt _ (by decide)
  simp only [dec]
  generalize x / 2 ^ 0 % 2 ^ 7 = code at *
  generalize x / 2 ^ 12 % 2 ^ 3 = f3 at *
  generalize x / 2 ^ 25 % 2 ^ 7 = f7 at *
  generalize x / 2 ^ 7 % 2 ^ 5 = rd at *
  generalize x / 2 ^ 15 % 2 ^ 5 = r1 at *
  generalize x / 2 ^ 20 % 2 ^ 5 = r2 at *
  conv => whnf
  by_cases c55 : code = 55
  · subst c55
    conv => whnf
    refine DR.std (by decide +kernel) ⟨[2], ?_⟩
    conv => whnf
    refine (immU1 x hx _).mono ?_
    rintro v H' ⟨rfl, rfl⟩
    conv => whnf
    refine DR.std (by decide +kernel) ⟨[0], ?_⟩
    conv => whnf
    exact ⟨in_tupB rfl, trivial, rfl, rfl⟩
  rw [bne_of (a := code) (b := 55) (by omega)]; conv => whnf
  by_cases c23 : code = 23
  · subst c23
    conv => whnf
    refine DR.std (by decide +kernel) ⟨[2], ?_⟩
    conv => whnf
    refine (immU1 x hx _).mono ?_
    rintro v H' ⟨rfl, rfl⟩
    conv => whnf
    refine DR.std (by decide +kernel) ⟨[0], ?_⟩
    conv => whnf
    exact ⟨in_tupB rfl, trivial, rfl, rfl⟩
  rw [bne_of (a := code) (b := 23) (by omega)]; conv => whnf
  by_cases c111 : code = 111
  · subst c111
    conv => whnf
    refine DR.std (by decide +kernel) ⟨[2], ?_⟩
    conv => whnf
    refine (immJ1 x hx _).mono ?_
    rintro v H' ⟨rfl, rfl⟩
    conv => whnf
    refine DR.std (by decide +kernel) ⟨[0], ?_⟩
    conv => whnf
    exact ⟨in_tupB rfl, trivial, rfl, rfl⟩
  rw [bne_of (a := code) (b := 111) (by omega)]; conv => whnf
  by_cases c103 : code = 103
  · subst c103
    conv => whnf
    by_cases d : f3 = 0
    · subst d
      conv => whnf
      refine DR.std (by decide +kernel) ⟨[2], ?_⟩
      conv => whnf
      refine (immI1 x hx _).mono ?_
      rintro v H' ⟨rfl, rfl⟩
      conv => whnf
      refine DR.std (by decide +kernel) ⟨[0], ?_⟩
      conv => whnf
      exact ⟨in_tupB rfl, trivial, rfl, rfl⟩
    rw [bne_of (a := f3) (b := 0) (by omega)]; conv => whnf
    refine DR.std (by decide +kernel) ⟨[0], ?_⟩
    conv => whnf
    exact ⟨in_tupB rfl, trivial, by simp only [D5, if_neg d]; rfl, rfl⟩
  rw [bne_of (a := code) (b := 103) (by omega)]; conv => whnf
  by_cases c99 : code = 99
  · subst c99
    conv => whnf
    rcases eight h3 with rfl | rfl | rfl | rfl | rfl | rfl | rfl | rfl
    all_goals refine DR.std (by decide +kernel) ⟨[2], ?_⟩
    all_goals conv => whnf
    all_goals conv => whnf
    all_goals refine (immB1 x hx _).mono ?_
    all_goals rintro v H' ⟨rfl, rfl⟩
    all_goals conv => whnf
    all_goals refine ((with1 _ _ _ _ _ _ _ _ _ _ _ _ _ _)).mono ?_
    all_goals rintro v H' ⟨rfl, rfl⟩
    all_goals conv => whnf
    all_goals refine DR.std (by decide +kernel) ⟨[0], ?_⟩
    all_goals conv => whnf
    all_goals exact ⟨in_tupB rfl, trivial, rfl, rfl⟩
  rw [bne_of (a := code) (b := 99) (by omega)]; conv => whnf
  by_cases c3 : code = 3
  · subst c3
    conv => whnf
    rcases eight h3 with rfl | rfl | rfl | rfl | rfl | rfl | rfl | rfl
    all_goals refine DR.std (by decide +kernel) ⟨[2], ?_⟩
    all_goals conv => whnf
    all_goals conv => whnf
    all_goals refine (immI1 x hx _).mono ?_
    all_goals rintro v H' ⟨rfl, rfl⟩
    all_goals conv => whnf
    all_goals refine ((with1 _ _ _ _ _ _ _ _ _ _ _ _ _ _)).mono ?_
    all_goals rintro v H' ⟨rfl, rfl⟩
    all_goals conv => whnf
    all_goals refine DR.std (by decide +kernel) ⟨[0], ?_⟩
    all_goals conv => whnf
    all_goals exact ⟨in_tupB rfl, trivial, rfl, rfl⟩
  rw [bne_of (a := code) (b := 3) (by omega)]; conv => whnf
  by_cases c35 : code = 35
  · subst c35
    conv => whnf
    rcases eight h3 with rfl | rfl | rfl | rfl | rfl | rfl | rfl | rfl
    all_goals refine DR.std (by decide +kernel) ⟨[2], ?_⟩
    all_goals conv => whnf
    all_goals conv => whnf
    all_goals refine (immS1 x hx _).mono ?_
    all_goals rintro v H' ⟨rfl, rfl⟩
    all_goals conv => whnf
    all_goals refine ((with1 _ _ _ _ _ _ _ _ _ _ _ _ _ _)).mono ?_
    all_goals rintro v H' ⟨rfl, rfl⟩
    all_goals conv => whnf
    all_goals refine DR.std (by decide +kernel) ⟨[0], ?_⟩
    all_goals conv => whnf
    all_goals exact ⟨in_tupB rfl, trivial, rfl, rfl⟩
  rw [bne_of (a := code) (b := 35) (by omega)]; conv => whnf
  by_cases c19 : code = 19
  · subst c19
    conv => whnf
    refine (imm1 x _ f3 f7 rd r1 r2 hx h3 h2 _).mono ?_
    rintro v H' ⟨rfl, rfl⟩
    conv => whnf
    refine DR.std (by decide +kernel) ⟨[0], ?_⟩
    conv => whnf
    exact ⟨in_tupB rfl, trivial, rfl, rfl⟩
  rw [bne_of (a := code) (b := 19) (by omega)]; conv => whnf
  by_cases c51 : code = 51
  · subst c51
    conv => whnf
    refine DR.way [0, 1, 3, 4, 5, 6, 7, 8, 9, 2, 10, 11] (by decide +kernel) ⟨[2], ?_⟩
    conv => whnf
    refine (reg1 x _ f3 f7 rd r1 r2 h3 _).mono ?_
    rintro v H' ⟨rfl, rfl⟩
    conv => whnf
    refine ((with1 _ _ _ _ _ _ _ _ _ _ _ _ _ _)).mono ?_
    rintro v H' ⟨rfl, rfl⟩
    conv => whnf
    refine DR.std (by decide +kernel) ⟨[0], ?_⟩
    conv => whnf
    exact ⟨in_tupB rfl, trivial, rfl, rfl⟩
  rw [bne_of (a := code) (b := 51) (by omega)]; conv => whnf
  by_cases c15 : code = 15
  · subst c15
    conv => whnf
    by_cases d : f3 = 0
    · subst d
      conv => whnf
      refine DR.std (by decide +kernel) ⟨[0], ?_⟩
      conv => whnf
      exact ⟨in_tupB rfl, trivial, rfl, rfl⟩
    rw [bne_of (a := f3) (b := 0) (by omega)]; conv => whnf
    refine DR.std (by decide +kernel) ⟨[0], ?_⟩
    conv => whnf
    exact ⟨in_tupB rfl, trivial, by simp only [D5, if_neg d]; rfl, rfl⟩
  rw [bne_of (a := code) (b := 15) (by omega)]; conv => whnf
  by_cases c115 : code = 115
  · subst c115
    conv => whnf
    refine (sys1 x _ f3 f7 rd r1 r2 hx h3 _).mono ?_
    rintro v H' ⟨rfl, rfl⟩
    conv => whnf
    refine DR.std (by decide +kernel) ⟨[0], ?_⟩
    conv => whnf
    exact ⟨in_tupB rfl, trivial, rfl, rfl⟩
  rw [bne_of (a := code) (b := 115) (by omega)]; conv => whnf
  refine DR.std (by decide +kernel) ⟨[0], ?_⟩
  conv => whnf
  have e : D5 x code f3 f7 rd r1 r2 = none5 := by simp only [D5, if_neg c55, if_neg c23, if_neg c111, if_neg c103, if_neg c99, if_neg c3, if_neg c35, if_neg c19, if_neg c51, if_neg c15, if_neg c115]
  exact ⟨in_tupB rfl, trivial, by rw [e]; rfl, rfl⟩
end Go.Proofs.YtgglclmilocgcaaGreatDoor.Md
