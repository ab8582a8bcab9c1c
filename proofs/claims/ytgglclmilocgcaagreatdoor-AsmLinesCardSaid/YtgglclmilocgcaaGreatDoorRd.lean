/- The document's decoding. -/
import Derived.Test.YtgglclmilocgcaaGreatDoorDc
set_option linter.unusedVariables false
set_option linter.unusedSimpArgs false
namespace Go.Proofs.YtgglclmilocgcaaGreatDoor.Md
open Go.RowKit Go.Proofs.YtgglclmilocgcaaGreatDoor.Ae Go.Proofs.YtgglclmilocgcaaGreatDoor.Bv Go.Proofs.YtgglclmilocgcaaGreatDoor
theorem dec1 (x : Nat) (hx : x < 4294967296) (H : Hp) : AC Tryz.prog 15 [u32 x] H (RetH H (insB (dec x))) := (dec0 x hx).anyH rfl rfl H
/-- A table's place. -/
def pickAt (n : Nat) (l : List Int) (k : Nat) : Int := if k < n then l.getD k 0 else 0
theorem pick0 (n : Nat) (l : List Int) (k : Nat) (hk : k < 4294967296) : AC Tryz.prog 45 [.v (.sl 0 0 0 n 1), u32 k] [.ro [.ints .i64 n l]] (fun v H => v = i64 (pickAt n l k) ∧ H = [.ro [.ints .i64 n l]]) := by
  refine AC.clean rfl (AC.of_body dok Tryz.func45 rfl rfl (Nat.le_of_ble_eq_true rfl) ?_)
  conv => whnf
  by_cases h : k < n
  · have d : decide ((k : Int) < n) = true := decide_eq_true (by omega)
    rw [i64_nat k hk, d]; conv => whnf
    rw [blt_of h]; conv => whnf
    rw [show (0 + k) * 1 = k by omega, blt_of h]; conv => whnf
    exact ⟨trivial, ⟨⟨trivial, trivial⟩, trivial⟩, by simp only [pickAt, if_pos h], rfl⟩
  · have d : decide ((k : Int) < n) = false := decide_eq_false (by omega)
    rw [i64_nat k hk, d]; conv => whnf
    exact ⟨trivial, ⟨⟨trivial, trivial⟩, trivial⟩, by simp only [pickAt, if_neg h], rfl⟩
theorem pick1 (n : Nat) (l : List Int) (k p : Nat) (hk : k < 4294967296) (H : Hp) (hp : p < H.length) (hl : lk H p = some (.rw [.ints .i64 n l]) ∨ lk H p = some (.ro [.ints .i64 n l])) : AC Tryz.prog 45 [.v (.sl p 0 0 n 1), u32 k] H (RetH H (i64 (pickAt n l k))) := by
  refine ((pick0 n l k hk).embed [p] (G := H) (by simp) (by simpa using hp) ⟨hl, trivial⟩).mono ?_
  rintro v G' ⟨v0, H', ⟨rfl, rfl⟩, _, rfl, rfl⟩
  exact ⟨rfl, by simp [embP]⟩
theorem pick8 (l : List Int) {k : Nat} (h : k < 8) : pickAt 8 l k = l.getD k 0 := if_pos h
/-- Of the register ops, by the document. -/
theorem rarith0 (f7 f3 : Nat) (h7 : f7 < 4294967296) (h3 : f3 < 8) : AC Tryz.prog 50 [u32 f7, u32 f3] [] (Ret (i64 (regOp f7 f3))) := by
  refine AC.clean rfl (AC.of_body dok Tryz.func50 rfl rfl (Nat.le_of_ble_eq_true rfl) ?_)
  conv => whnf
  by_cases c0 : f7 = 0
  · subst c0
    conv => whnf
    refine (pick1 _ _ f3 0 (by omega) _ (by decide) (.inl rfl)).mono ?_
    rintro v H' ⟨rfl, rfl⟩
    conv => whnf
    exact ⟨trivial, trivial, by rw [pick8 _ h3]; rfl, rfl⟩
  rw [bne_of (a := f7) (b := 0) (by omega)]; conv => whnf
  by_cases c2 : f7 = 32
  · subst c2
    conv => whnf
    refine (pick1 _ _ f3 0 (by omega) _ (by decide) (.inl rfl)).mono ?_
    rintro v H' ⟨rfl, rfl⟩
    conv => whnf
    exact ⟨trivial, trivial, by rw [pick8 _ h3]; rcases eight h3 with rfl | rfl | rfl | rfl | rfl | rfl | rfl | rfl <;> rfl, rfl⟩
  rw [bne_of (a := f7) (b := 32) (by omega)]; conv => whnf
  by_cases c1 : f7 = 1
  · subst c1
    conv => whnf
    refine (pick1 _ _ f3 0 (by omega) _ (by decide) (.inl rfl)).mono ?_
    rintro v H' ⟨rfl, rfl⟩
    conv => whnf
    exact ⟨trivial, trivial, by rw [pick8 _ h3]; rfl, rfl⟩
  rw [bne_of (a := f7) (b := 1) (by omega)]; conv => whnf
  exact ⟨trivial, trivial, by simp only [regOp, if_neg c0, if_neg c1, if_neg c2], rfl⟩
theorem rarith1 (f7 f3 : Nat) (h7 : f7 < 4294967296) (h3 : f3 < 8) (H : Hp) : AC Tryz.prog 50 [u32 f7, u32 f3] H (RetH H (i64 (regOp f7 f3))) := (rarith0 f7 f3 h7 h3).anyH rfl rfl H
/-- Of the ops with an immediate, by the document. -/
def rimm (x f3 : Nat) : Int × Int := if f3 = 1 then (if x / 2 ^ 25 % 2 ^ 7 = 0 then (25, (x / 2 ^ 20 % 2 ^ 5 : Nat)) else (0, 0)) else if f3 = 5 then (if x / 2 ^ 25 % 2 ^ 7 = 0 then (26, (x / 2 ^ 20 % 2 ^ 5 : Nat)) else if x / 2 ^ 25 % 2 ^ 7 = 32 then (27, (x / 2 ^ 20 % 2 ^ 5 : Nat)) else (0, 0)) else (tI f3, immI x)
theorem in_ints2 {n : Nat} {k k' : IntKind} {a b : Int} : (AV.tup [.v (.int k a), .v (.int k' b)]).inR n := ⟨trivial, trivial, trivial⟩
theorem rimm0 (x f3 : Nat) (hx : x < 4294967296) (h3 : f3 < 8) : AC Tryz.prog 49 [u32 x, u32 f3] [] (Ret (.tup [i64 (rimm x f3).1, i32 (rimm x f3).2])) := by
  refine AC.clean rfl (AC.of_body dok Tryz.func49 rfl rfl (Nat.le_of_ble_eq_true rfl) ?_)
  conv => whnf
  refine (pick1 _ _ f3 0 (by omega) _ (by decide) (.inl rfl)).mono ?_
  rintro v H' ⟨rfl, rfl⟩
  conv => whnf
  rw [pick8 _ h3]
  have hl : x / 2 ^ 25 % 2 ^ 7 < 2 ^ 7 := Nat.mod_lt _ (by decide)
  rcases eight h3 with rfl | rfl | rfl | rfl | rfl | rfl | rfl | rfl
  all_goals conv => whnf
  case inr.inl =>
    refine (rbits1 x 25 7 hx (by decide) (by decide) _).mono ?_
    rintro v H' ⟨rfl, rfl⟩
    conv => whnf
    simp only [rimm]
    generalize x / 2 ^ 25 % 2 ^ 7 = f7 at *
    by_cases c0 : f7 = 0
    · subst c0
      conv => whnf
      refine (rbits1 x 20 5 hx (by decide) (by decide) _).mono ?_
      rintro v H' ⟨rfl, rfl⟩
      conv => whnf
      rw [i32_nat (x / 2 ^ 20 % 2 ^ 5) (by omega)]
      exact ⟨in_ints2, trivial, rfl, rfl⟩
    by_cases c1 : f7 = 32
    · subst c1
      conv => whnf
      exact ⟨in_ints2, trivial, rfl, rfl⟩
    rw [bne_of (a := f7) (b := 32) (by omega)]; conv => whnf
    have e : ((f7 : Int) != 0) = true := by simpa using c0
    rw [e]; conv => whnf
    exact ⟨in_ints2, trivial, by simp [c0], rfl⟩
  case inr.inr.inr.inr.inr.inl =>
    refine (rbits1 x 25 7 hx (by decide) (by decide) _).mono ?_
    rintro v H' ⟨rfl, rfl⟩
    conv => whnf
    simp only [rimm]
    generalize x / 2 ^ 25 % 2 ^ 7 = f7 at *
    by_cases c0 : f7 = 0
    · subst c0
      conv => whnf
      refine (rbits1 x 20 5 hx (by decide) (by decide) _).mono ?_
      rintro v H' ⟨rfl, rfl⟩
      conv => whnf
      rw [i32_nat (x / 2 ^ 20 % 2 ^ 5) (by omega)]
      exact ⟨in_ints2, trivial, rfl, rfl⟩
    by_cases c1 : f7 = 32
    · subst c1
      conv => whnf
      refine (rbits1 x 20 5 hx (by decide) (by decide) _).mono ?_
      rintro v H' ⟨rfl, rfl⟩
      conv => whnf
      rw [i32_nat (x / 2 ^ 20 % 2 ^ 5) (by omega)]
      exact ⟨in_ints2, trivial, rfl, rfl⟩
    rw [bne_of (a := f7) (b := 32) (by omega)]; conv => whnf
    have e : ((f7 : Int) != 0) = true := by simpa using c0
    rw [e]; conv => whnf
    exact ⟨in_ints2, trivial, by simp [c0, c1], rfl⟩
  all_goals refine (rimmI1 x hx _).mono ?_
  all_goals rintro v H' ⟨rfl, rfl⟩
  all_goals conv => whnf
  all_goals exact ⟨in_ints2, trivial, rfl, rfl⟩
theorem rimm1 (x f3 : Nat) (hx : x < 4294967296) (h3 : f3 < 8) (H : Hp) : AC Tryz.prog 49 [u32 x, u32 f3] H (RetH H (.tup [i64 (rimm x f3).1, i32 (rimm x f3).2])) := (rimm0 x f3 hx h3).anyH rfl rfl H
def rsys (x f3 : Nat) (rd r1 : Int) : T5 := if x = 115 then (47, 0, 0, 0, 0) else if x = 1048691 then (48, 0, 0, 0, 0) else if x = 807403635 then (49, 0, 0, 0, 0) else (tS f3, rd, r1, 0, ((x / 2 ^ 20 % 2 ^ 12 : Nat) : Int))
theorem rsys0 (x f3 : Nat) (hx : x < 4294967296) (h3 : f3 < 8) (a rd r1 r2 im : Int) : AC Tryz.prog 51 [u32 x, u32 f3, .agg (inst a rd r1 r2 im)] [] (Ret (.tup [.agg (ins (rsys x f3 rd r1)), bo (decide ((rsys x f3 rd r1).1 > 0))])) := by
  refine AC.clean rfl (AC.of_body dok Tryz.func51 rfl rfl (Nat.le_of_ble_eq_true rfl) ?_)
  conv => whnf
  by_cases c115 : x = 115
  · subst c115
    conv => whnf
    exact ⟨in_tupB rfl, trivial, rfl, rfl⟩
  rw [bne_of (a := x) (b := 115) (by omega)]; conv => whnf
  by_cases c1048691 : x = 1048691
  · subst c1048691
    conv => whnf
    exact ⟨in_tupB rfl, trivial, rfl, rfl⟩
  rw [bne_of (a := x) (b := 1048691) (by omega)]; conv => whnf
  by_cases c807403635 : x = 807403635
  · subst c807403635
    conv => whnf
    exact ⟨in_tupB rfl, trivial, rfl, rfl⟩
  rw [bne_of (a := x) (b := 807403635) (by omega)]; conv => whnf
  have e : rsys x f3 rd r1 = (tS f3, rd, r1, 0, ((x / 2 ^ 20 % 2 ^ 12 : Nat) : Int)) := by simp only [rsys, if_neg c115, if_neg c1048691, if_neg c807403635]
  rw [e]
  refine (pick1 _ _ f3 2 (by omega) _ (Nat.le_of_ble_eq_true rfl) (.inl rfl)).mono ?_
  rintro v H' ⟨rfl, rfl⟩
  conv => whnf
  refine (rbits1 x 20 12 hx (by decide) (by decide) _).mono ?_
  rintro v H' ⟨rfl, rfl⟩
  conv => whnf
  rw [i32_nat (x / 2 ^ 20 % 2 ^ 12) (by omega), pick8 _ h3]
  refine DR.std (by decide +kernel) ⟨[1], ?_⟩
  conv => whnf
  exact ⟨in_tupB rfl, trivial, rfl, rfl⟩
theorem rsys1 (x f3 : Nat) (hx : x < 4294967296) (h3 : f3 < 8) (a rd r1 r2 im : Int) (H : Hp) : AC Tryz.prog 51 [u32 x, u32 f3, .agg (inst a rd r1 r2 im)] H (RetH H (.tup [.agg (ins (rsys x f3 rd r1)), bo (decide ((rsys x f3 rd r1).1 > 0))])) := (rsys0 x f3 hx h3 a rd r1 r2 im).anyH rfl rfl H
theorem and127 (x : Nat) (hx : x < 4294967296) : bits BinOp.and IntKind.u32 (x : Int) 127 = ((x / 2 ^ 0 % 2 ^ 7 : Nat) : Int) := by
  rw [and_mask32 7 (by decide) x (by omega) (by omega) 127 (by decide)]; omega
theorem dec_def (x : Nat) : dec x = D5 x (x / 2 ^ 0 % 2 ^ 7) (x / 2 ^ 12 % 2 ^ 3) (x / 2 ^ 25 % 2 ^ 7) (x / 2 ^ 7 % 2 ^ 5) (x / 2 ^ 15 % 2 ^ 5) (x / 2 ^ 20 % 2 ^ 5) := rfl
theorem wth_z {op a b c d : Int} (h : op = 0) : wth op a b c d = none5 := if_pos h
theorem wth_nz {op a b c d : Int} (h : ¬ op = 0) : wth op a b c d = (op, a, b, c, d) := if_neg h
theorem insB_nz (t : T5) (h : ¬ t.1 = 0) : insB t = .tup [.agg (ins t), bo true] := by
  have e : (t.1 != 0) = true := by simpa using h
  rw [insB, e]
section
variable {x f3 f7 rd r1 r2 : Nat}
theorem jalr_eq : D5 x 103 f3 f7 rd r1 r2 = wth (pickAt 1 [4] f3) rd r1 0 (immI x) := by
  show (if f3 = 0 then ((4, (rd : Int), (r1 : Int), 0, immI x) : T5) else none5) = _
  unfold pickAt
  by_cases h : f3 = 0
  · subst h; rfl
  · rw [if_neg h, if_neg (by omega)]; rfl
theorem fence_eq : D5 x 15 f3 f7 rd r1 r2 = wth (pickAt 1 [46] f3) 0 0 0 0 := by
  show (if f3 = 0 then ((46, 0, 0, 0, 0) : T5) else none5) = _
  unfold pickAt
  by_cases h : f3 = 0
  · subst h; rfl
  · rw [if_neg h, if_neg (by omega)]; rfl
theorem branch_eq (x : Nat) (h : f3 < 8) : D5 x 99 f3 f7 rd r1 r2 = wth (pickAt 8 [5, 6, 0, 0, 7, 8, 9, 10] f3) 0 r1 r2 (immB x) := by
  rw [pick8 _ h]; rfl
theorem load_eq (x : Nat) (h : f3 < 8) : D5 x 3 f3 f7 rd r1 r2 = wth (pickAt 6 [11, 12, 13, 0, 14, 15] f3) rd r1 0 (immI x) := by
  rcases eight h with rfl | rfl | rfl | rfl | rfl | rfl | rfl | rfl <;> rfl
theorem store_eq (x : Nat) (h : f3 < 8) : D5 x 35 f3 f7 rd r1 r2 = wth (pickAt 3 [16, 17, 18] f3) 0 r1 r2 (immS x) := by
  rcases eight h with rfl | rfl | rfl | rfl | rfl | rfl | rfl | rfl <;> rfl
theorem imm_eq : D5 x 19 f3 (x / 2 ^ 25 % 2 ^ 7) rd r1 (x / 2 ^ 20 % 2 ^ 5) = wth (rimm x f3).1 rd r1 0 (rimm x f3).2 := by
  show imm5 x f3 (x / 2 ^ 25 % 2 ^ 7) rd r1 (x / 2 ^ 20 % 2 ^ 5) = _
  unfold imm5 rimm
  split
  · split <;> rfl
  · split
    · split
      · rfl
      · split <;> rfl
    · rfl
theorem op_eq : D5 x 51 f3 f7 rd r1 r2 = wth (regOp f7 f3) rd r1 r2 0 := rfl
theorem system_eq (x : Nat) (h : f3 < 8) : D5 x 115 f3 f7 rd r1 r2 = if decide ((rsys x f3 rd r1).1 > 0) = true then rsys x f3 rd r1 else none5 := by
  show sys5 x f3 rd r1 = _
  unfold sys5 rsys
  split
  · rfl
  · split
    · rfl
    · split
      · rfl
      · rcases eight h with rfl | rfl | rfl | rfl | rfl | rfl | rfl | rfl <;> rfl
end
theorem rdec0 (x : Nat) (hx : x < 4294967296) : AC Tryz.prog 23 [u32 x] [] (Ret (insB (dec x))) := by
  refine AC.clean rfl (AC.of_body dok Tryz.func23 rfl rfl (Nat.le_of_ble_eq_true rfl) ?_)
  conv => whnf
  refine (rbits1 x 12 3 hx (by decide) (by decide) _).mono ?_
  rintro v H' ⟨rfl, rfl⟩
  conv => whnf
  refine (rbits1 x 7 5 hx (by decide) (by decide) _).mono ?_
  rintro v H' ⟨rfl, rfl⟩
  conv => whnf
  refine (rbits1 x 15 5 hx (by decide) (by decide) _).mono ?_
  rintro v H' ⟨rfl, rfl⟩
  conv => whnf
  refine (rbits1 x 20 5 hx (by decide) (by decide) _).mono ?_
  rintro v H' ⟨rfl, rfl⟩
  conv => whnf
  have h3 : x / 2 ^ 12 % 2 ^ 3 < 8 := Nat.mod_lt _ (by decide)
  rw [i64_nat (x / 2 ^ 7 % 2 ^ 5) (by omega), i64_nat (x / 2 ^ 15 % 2 ^ 5) (by omega), i64_nat (x / 2 ^ 20 % 2 ^ 5) (by omega), and127 x hx]
  rw [dec_def]
  generalize hc : x / 2 ^ 0 % 2 ^ 7 = code at *
  by_cases c55 : code = 55
  · subst c55
    conv => whnf
    refine DR.mk ⟨.take 0 (.take 2 (.alt 1 (.alt 3 (.take 4 (.alt 5 .done .nil)) .nil) (.alt 3 (.alt 1 (.take 4 (.alt 5 .done .nil)) .nil) .nil))), by decide +kernel, [1], ?_⟩
    conv => whnf
    refine ⟨?_, ?_⟩
    all_goals conv => whnf
    all_goals refine (rimmU1 x hx _).mono ?_
    all_goals rintro v H' ⟨rfl, rfl⟩
    all_goals conv => whnf
    all_goals rw [and127 x hx, hc]
    all_goals conv => whnf
    all_goals exact ⟨in_tupB rfl, trivial, rfl, rfl⟩
  rw [bne_of (a := code) (b := 55) (by omega)]; conv => whnf
  by_cases c23 : code = 23
  · subst c23
    conv => whnf
    refine DR.mk ⟨.take 0 (.take 2 (.alt 1 (.alt 3 (.take 4 (.alt 5 .done .nil)) .nil) (.alt 3 (.alt 1 (.take 4 (.alt 5 .done .nil)) .nil) .nil))), by decide +kernel, [1], ?_⟩
    conv => whnf
    refine ⟨?_, ?_⟩
    all_goals conv => whnf
    all_goals refine (rimmU1 x hx _).mono ?_
    all_goals rintro v H' ⟨rfl, rfl⟩
    all_goals conv => whnf
    all_goals rw [and127 x hx, hc]
    all_goals conv => whnf
    all_goals exact ⟨in_tupB rfl, trivial, rfl, rfl⟩
  rw [bne_of (a := code) (b := 23) (by omega)]; conv => whnf
  by_cases c111 : code = 111
  · subst c111
    conv => whnf
    refine DR.mk ⟨.take 0 (.take 2 (.alt 1 (.alt 3 (.take 4 (.alt 5 .done .nil)) .nil) (.alt 3 (.alt 1 (.take 4 (.alt 5 .done .nil)) .nil) .nil))), by decide +kernel, [1], ?_⟩
    conv => whnf
    refine ⟨?_, ?_⟩
    all_goals conv => whnf
    all_goals refine (rimmJ1 x hx _).mono ?_
    all_goals rintro v H' ⟨rfl, rfl⟩
    all_goals conv => whnf
    all_goals exact ⟨in_tupB rfl, trivial, rfl, rfl⟩
  rw [bne_of (a := code) (b := 111) (by omega)]; conv => whnf
  by_cases c103 : code = 103
  · subst c103
    conv => whnf
    refine (pick1 _ _ (x / 2 ^ 12 % 2 ^ 3) 2 (by omega) _ (Nat.le_of_ble_eq_true rfl) (.inl rfl)).mono ?_
    rintro v H' ⟨rfl, rfl⟩
    conv => whnf
    refine (rimmI1 x hx _).mono ?_
    rintro v H' ⟨rfl, rfl⟩
    conv => whnf
    by_cases z : pickAt 1 [4] (x / 2 ^ 12 % 2 ^ 3) = 0
    · rw [show (pickAt 1 [4] (x / 2 ^ 12 % 2 ^ 3) == 0) = true by simpa using z]; conv => whnf
      exact ⟨in_tupB rfl, trivial, by rw [jalr_eq, wth_z z]; rfl, rfl⟩
    rw [show (pickAt 1 [4] (x / 2 ^ 12 % 2 ^ 3) == 0) = false by simpa using z]; conv => whnf
    exact ⟨in_tupB rfl, trivial, by rw [jalr_eq, wth_nz z, insB_nz _ z], rfl⟩
  rw [bne_of (a := code) (b := 103) (by omega)]; conv => whnf
  by_cases c99 : code = 99
  · subst c99
    conv => whnf
    refine (pick1 _ _ (x / 2 ^ 12 % 2 ^ 3) 2 (by omega) _ (Nat.le_of_ble_eq_true rfl) (.inl rfl)).mono ?_
    rintro v H' ⟨rfl, rfl⟩
    conv => whnf
    refine (rimmB1 x hx _).mono ?_
    rintro v H' ⟨rfl, rfl⟩
    conv => whnf
    by_cases z : pickAt 8 [5, 6, 0, 0, 7, 8, 9, 10] (x / 2 ^ 12 % 2 ^ 3) = 0
    · rw [show (pickAt 8 [5, 6, 0, 0, 7, 8, 9, 10] (x / 2 ^ 12 % 2 ^ 3) == 0) = true by simpa using z]; conv => whnf
      exact ⟨in_tupB rfl, trivial, by rw [branch_eq _ h3, wth_z z]; rfl, rfl⟩
    rw [show (pickAt 8 [5, 6, 0, 0, 7, 8, 9, 10] (x / 2 ^ 12 % 2 ^ 3) == 0) = false by simpa using z]; conv => whnf
    exact ⟨in_tupB rfl, trivial, by rw [branch_eq _ h3, wth_nz z, insB_nz _ z], rfl⟩
  rw [bne_of (a := code) (b := 99) (by omega)]; conv => whnf
  by_cases c3 : code = 3
  · subst c3
    conv => whnf
    refine (pick1 _ _ (x / 2 ^ 12 % 2 ^ 3) 2 (by omega) _ (Nat.le_of_ble_eq_true rfl) (.inl rfl)).mono ?_
    rintro v H' ⟨rfl, rfl⟩
    conv => whnf
    refine (rimmI1 x hx _).mono ?_
    rintro v H' ⟨rfl, rfl⟩
    conv => whnf
    by_cases z : pickAt 6 [11, 12, 13, 0, 14, 15] (x / 2 ^ 12 % 2 ^ 3) = 0
    · rw [show (pickAt 6 [11, 12, 13, 0, 14, 15] (x / 2 ^ 12 % 2 ^ 3) == 0) = true by simpa using z]; conv => whnf
      exact ⟨in_tupB rfl, trivial, by rw [load_eq _ h3, wth_z z]; rfl, rfl⟩
    rw [show (pickAt 6 [11, 12, 13, 0, 14, 15] (x / 2 ^ 12 % 2 ^ 3) == 0) = false by simpa using z]; conv => whnf
    exact ⟨in_tupB rfl, trivial, by rw [load_eq _ h3, wth_nz z, insB_nz _ z], rfl⟩
  rw [bne_of (a := code) (b := 3) (by omega)]; conv => whnf
  by_cases c35 : code = 35
  · subst c35
    conv => whnf
    refine (pick1 _ _ (x / 2 ^ 12 % 2 ^ 3) 2 (by omega) _ (Nat.le_of_ble_eq_true rfl) (.inl rfl)).mono ?_
    rintro v H' ⟨rfl, rfl⟩
    conv => whnf
    refine (rimmS1 x hx _).mono ?_
    rintro v H' ⟨rfl, rfl⟩
    conv => whnf
    by_cases z : pickAt 3 [16, 17, 18] (x / 2 ^ 12 % 2 ^ 3) = 0
    · rw [show (pickAt 3 [16, 17, 18] (x / 2 ^ 12 % 2 ^ 3) == 0) = true by simpa using z]; conv => whnf
      exact ⟨in_tupB rfl, trivial, by rw [store_eq _ h3, wth_z z]; rfl, rfl⟩
    rw [show (pickAt 3 [16, 17, 18] (x / 2 ^ 12 % 2 ^ 3) == 0) = false by simpa using z]; conv => whnf
    exact ⟨in_tupB rfl, trivial, by rw [store_eq _ h3, wth_nz z, insB_nz _ z], rfl⟩
  rw [bne_of (a := code) (b := 35) (by omega)]; conv => whnf
  by_cases c19 : code = 19
  · subst c19
    conv => whnf
    refine (rimm1 x _ hx h3 _).mono ?_
    rintro v H' ⟨rfl, rfl⟩
    conv => whnf
    by_cases z : (rimm x (x / 2 ^ 12 % 2 ^ 3)).1 = 0
    · rw [show ((rimm x (x / 2 ^ 12 % 2 ^ 3)).1 == 0) = true by simpa using z]; conv => whnf
      exact ⟨in_tupB rfl, trivial, by rw [imm_eq, wth_z z]; rfl, rfl⟩
    rw [show ((rimm x (x / 2 ^ 12 % 2 ^ 3)).1 == 0) = false by simpa using z]; conv => whnf
    exact ⟨in_tupB rfl, trivial, by rw [imm_eq, wth_nz z, insB_nz _ z], rfl⟩
  rw [bne_of (a := code) (b := 19) (by omega)]; conv => whnf
  by_cases c51 : code = 51
  · subst c51
    conv => whnf
    refine (rbits1 x 25 7 hx (by decide) (by decide) _).mono ?_
    rintro v H' ⟨rfl, rfl⟩
    conv => whnf
    refine (rarith1 _ _ (by omega) h3 _).mono ?_
    rintro v H' ⟨rfl, rfl⟩
    conv => whnf
    by_cases z : regOp (x / 2 ^ 25 % 2 ^ 7) (x / 2 ^ 12 % 2 ^ 3) = 0
    · rw [show (regOp (x / 2 ^ 25 % 2 ^ 7) (x / 2 ^ 12 % 2 ^ 3) == 0) = true by simpa using z]; conv => whnf
      exact ⟨in_tupB rfl, trivial, by rw [op_eq, wth_z z]; rfl, rfl⟩
    rw [show (regOp (x / 2 ^ 25 % 2 ^ 7) (x / 2 ^ 12 % 2 ^ 3) == 0) = false by simpa using z]; conv => whnf
    exact ⟨in_tupB rfl, trivial, by rw [op_eq, wth_nz z, insB_nz _ z], rfl⟩
  rw [bne_of (a := code) (b := 51) (by omega)]; conv => whnf
  by_cases c15 : code = 15
  · subst c15
    conv => whnf
    refine (pick1 _ _ (x / 2 ^ 12 % 2 ^ 3) 2 (by omega) _ (Nat.le_of_ble_eq_true rfl) (.inl rfl)).mono ?_
    rintro v H' ⟨rfl, rfl⟩
    conv => whnf
    by_cases z : pickAt 1 [46] (x / 2 ^ 12 % 2 ^ 3) = 0
    · rw [show (pickAt 1 [46] (x / 2 ^ 12 % 2 ^ 3) == 0) = true by simpa using z]; conv => whnf
      exact ⟨in_tupB rfl, trivial, by rw [fence_eq, wth_z z]; rfl, rfl⟩
    rw [show (pickAt 1 [46] (x / 2 ^ 12 % 2 ^ 3) == 0) = false by simpa using z]; conv => whnf
    exact ⟨in_tupB rfl, trivial, by rw [fence_eq, wth_nz z, insB_nz _ z], rfl⟩
  rw [bne_of (a := code) (b := 15) (by omega)]; conv => whnf
  by_cases c115 : code = 115
  · subst c115
    conv => whnf
    refine (rsys1 x _ hx h3 _ _ _ _ _ _).mono ?_
    rintro v H' ⟨rfl, rfl⟩
    conv => whnf
    rw [system_eq _ h3]
    generalize hz : decide ((rsys x (x / 2 ^ 12 % 2 ^ 3) (x / 2 ^ 7 % 2 ^ 5 : Nat) (x / 2 ^ 15 % 2 ^ 5 : Nat)).1 > 0) = z
    cases z
    · conv => whnf
      exact ⟨in_tupB rfl, trivial, rfl, rfl⟩
    · conv => whnf
      have hz := of_decide_eq_true hz
      exact ⟨in_tupB rfl, trivial, by rw [if_pos rfl, insB_nz _ (by omega)], rfl⟩
  rw [bne_of (a := code) (b := 115) (by omega)]; conv => whnf
  have e : D5 x code (x / 2 ^ 12 % 2 ^ 3) (x / 2 ^ 25 % 2 ^ 7) (x / 2 ^ 7 % 2 ^ 5) (x / 2 ^ 15 % 2 ^ 5) (x / 2 ^ 20 % 2 ^ 5) = none5 := by simp only [D5, if_neg c55, if_neg c23, if_neg c111, if_neg c103, if_neg c99, if_neg c3, if_neg c35, if_neg c19, if_neg c51, if_neg c15, if_neg c115]
  exact ⟨in_tupB rfl, trivial, by rw [e]; rfl, rfl⟩
end Go.Proofs.YtgglclmilocgcaaGreatDoor.Md
