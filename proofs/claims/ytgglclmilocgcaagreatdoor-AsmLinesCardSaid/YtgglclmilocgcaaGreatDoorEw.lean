/- Instructions put together. -/
import Derived.Test.YtgglclmilocgcaaGreatDoorEn
import Derived.Test.YtgglclmilocgcaaGreatDoorIt
set_option linter.unusedVariables false
set_option linter.unusedSimpArgs false
namespace Go.Proofs.YtgglclmilocgcaaGreatDoor.Md
open Go.RowKit Go.Proofs.YtgglclmilocgcaaGreatDoor.Ae Go.Proofs.YtgglclmilocgcaaGreatDoor.Bv Go.Proofs.YtgglclmilocgcaaGreatDoor
theorem part_val (n s b to : Nat) (hn : n < 4294967296) (hs : s < 32) (hb : b < 32) (ht : b + to ≤ 32) : IntKind.u32.wrap (bits BinOp.and IntKind.u32 ((n : Int).fdiv (2 ^ min s IntKind.u32.bits)) (IntKind.u32.wrap (IntKind.u32.wrap (1 * 2 ^ min b IntKind.u32.bits) - 1)) * 2 ^ min to IntKind.u32.bits) = ((n / 2 ^ s % 2 ^ b * 2 ^ to : Nat) : Int) := by
  have e1 : min s IntKind.u32.bits = s := by show min s 32 = s; omega
  have e2 : min b IntKind.u32.bits = b := by show min b 32 = b; omega
  have e3 : min to IntKind.u32.bits = to := by show min to 32 = to; omega
  have hp : (2 : Nat) ^ b ≤ 2 ^ 31 := Nat.pow_le_pow_right (by decide) (by omega)
  have hpos : 0 < (2 : Nat) ^ b := Nat.two_pow_pos b
  have hbt : (2 : Nat) ^ b * 2 ^ to ≤ 2 ^ 32 := by rw [← Nat.pow_add]; exact Nat.pow_le_pow_right (by decide) ht
  have f1 : ((n : Int).fdiv (2 ^ s)) = ((n / 2 ^ s : Nat) : Int) := by
    rw [Int.fdiv_eq_ediv_of_nonneg _ (by exact_mod_cast Nat.zero_le _)]; simp
  have f2 : ((1 : Int) * 2 ^ b) = ((2 ^ b : Nat) : Int) := by simp
  have f3 : (((2 ^ b : Nat) : Int) - 1) = ((2 ^ b - 1 : Nat) : Int) := by rw [Int.natCast_sub hpos]; rfl
  have h1 : n / 2 ^ s < 4294967296 := Nat.lt_of_le_of_lt (Nat.div_le_self _ _) hn
  rw [e1, e2, e3, f1, f2, u32_nat _ (by omega), f3, u32_nat _ (by omega), nand32 _ _ h1 (by omega), Nat.and_two_pow_sub_one_eq_mod]
  have hm : n / 2 ^ s % 2 ^ b < 2 ^ b := Nat.mod_lt _ hpos
  have h2 : n / 2 ^ s % 2 ^ b * 2 ^ to < 2 ^ b * 2 ^ to := Nat.mul_lt_mul_of_pos_right hm (Nat.two_pow_pos to)
  have f4 : ((n / 2 ^ s % 2 ^ b : Nat) : Int) * 2 ^ to = ((n / 2 ^ s % 2 ^ b * 2 ^ to : Nat) : Int) := by simp
  rw [f4, u32_nat _ (by omega)]
theorem part0 (n s b to : Nat) (hn : n < 4294967296) (hs : s < 32) (hb : b < 32) (ht : b + to ≤ 32) : AC Tryz.prog 83 [u32 n, i64 s, i64 b, i64 to] [] (Ret (u32 ((n / 2 ^ s % 2 ^ b * 2 ^ to : Nat)))) := by
  refine AC.clean rfl (AC.of_body dok Tryz.func83 rfl rfl (Nat.le_of_ble_eq_true rfl) ?_)
  conv => whnf
  refine DR.std (by decide +kernel) ⟨[], ?_⟩
  conv => whnf
  rw [part_val n s b to hn hs hb ht]
  exact ⟨trivial, trivial, rfl, rfl⟩
theorem part1 (n s b to : Nat) (hn : n < 4294967296) (hs : s < 32) (hb : b < 32) (ht : b + to ≤ 32) (H : Hp) : AC Tryz.prog 83 [u32 n, i64 s, i64 b, i64 to] H (RetH H (u32 ((n / 2 ^ s % 2 ^ b * 2 ^ to : Nat)))) := (part0 n s b to hn hs hb ht).anyH rfl rfl H
/-- The ops' names, formats. -/
def nmL : List (List UInt8) := [[], [108, 117, 105], [97, 117, 105, 112, 99], [106, 97, 108], [106, 97, 108, 114], [98, 101, 113], [98, 110, 101], [98, 108, 116], [98, 103, 101], [98, 108, 116, 117], [98, 103, 101, 117], [108, 98], [108, 104], [108, 119], [108, 98, 117], [108, 104, 117], [115, 98], [115, 104], [115, 119], [97, 100, 100, 105], [115, 108, 116, 105], [115, 108, 116, 105, 117], [120, 111, 114, 105], [111, 114, 105], [97, 110, 100, 105], [115, 108, 108, 105], [115, 114, 108, 105], [115, 114, 97, 105], [97, 100, 100], [115, 117, 98], [115, 108, 108], [115, 108, 116], [115, 108, 116, 117], [120, 111, 114], [115, 114, 108], [115, 114, 97], [111, 114], [97, 110, 100], [109, 117, 108], [109, 117, 108, 104], [109, 117, 108, 104, 115, 117], [109, 117, 108, 104, 117], [100, 105, 118], [100, 105, 118, 117], [114, 101, 109], [114, 101, 109, 117], [102, 101, 110, 99, 101], [101, 99, 97, 108, 108], [101, 98, 114, 101, 97, 107], [109, 114, 101, 116], [99, 115, 114, 114, 119], [99, 115, 114, 114, 115], [99, 115, 114, 114, 99], [99, 115, 114, 114, 119, 105], [99, 115, 114, 114, 115, 105], [99, 115, 114, 114, 99, 105]]
def frL : List Int := [0, 117, 117, 106, 105, 98, 98, 98, 98, 98, 98, 105, 105, 105, 105, 105, 115, 115, 115, 105, 105, 105, 105, 105, 105, 104, 104, 104, 114, 114, 114, 114, 114, 114, 114, 114, 114, 114, 114, 114, 114, 114, 114, 114, 114, 114, 110, 110, 110, 110, 99, 99, 99, 122, 122, 122]
def nm (op : Int) : List UInt8 := nmL.getD op.toNat []
def fr (op : Int) : Int := frL.getD op.toNat 0
/-- How an op's word is made. -/
abbrev form (op : Int) : List Seg := [.one (.str ⟨(nm op).toArray⟩), .one (.int .i32 (fr op)), .one (.int .u32 (base op : Int))]
def formL : List Seg := [.one (.str ⟨#[108, 117, 105]⟩), .one (.int .i32 117), .one (.int .u32 55), .one (.str ⟨#[97, 117, 105, 112, 99]⟩), .one (.int .i32 117), .one (.int .u32 23), .one (.str ⟨#[106, 97, 108]⟩), .one (.int .i32 106), .one (.int .u32 111), .one (.str ⟨#[106, 97, 108, 114]⟩), .one (.int .i32 105), .one (.int .u32 103), .one (.str ⟨#[98, 101, 113]⟩), .one (.int .i32 98), .one (.int .u32 99), .one (.str ⟨#[98, 110, 101]⟩), .one (.int .i32 98), .one (.int .u32 4195), .one (.str ⟨#[98, 108, 116]⟩), .one (.int .i32 98), .one (.int .u32 16483), .one (.str ⟨#[98, 103, 101]⟩), .one (.int .i32 98), .one (.int .u32 20579), .one (.str ⟨#[98, 108, 116, 117]⟩), .one (.int .i32 98), .one (.int .u32 24675), .one (.str ⟨#[98, 103, 101, 117]⟩), .one (.int .i32 98), .one (.int .u32 28771), .one (.str ⟨#[108, 98]⟩), .one (.int .i32 105), .one (.int .u32 3), .one (.str ⟨#[108, 104]⟩), .one (.int .i32 105), .one (.int .u32 4099), .one (.str ⟨#[108, 119]⟩), .one (.int .i32 105), .one (.int .u32 8195), .one (.str ⟨#[108, 98, 117]⟩), .one (.int .i32 105), .one (.int .u32 16387), .one (.str ⟨#[108, 104, 117]⟩), .one (.int .i32 105), .one (.int .u32 20483), .one (.str ⟨#[115, 98]⟩), .one (.int .i32 115), .one (.int .u32 35), .one (.str ⟨#[115, 104]⟩), .one (.int .i32 115), .one (.int .u32 4131), .one (.str ⟨#[115, 119]⟩), .one (.int .i32 115), .one (.int .u32 8227), .one (.str ⟨#[97, 100, 100, 105]⟩), .one (.int .i32 105), .one (.int .u32 19), .one (.str ⟨#[115, 108, 116, 105]⟩), .one (.int .i32 105), .one (.int .u32 8211), .one (.str ⟨#[115, 108, 116, 105, 117]⟩), .one (.int .i32 105), .one (.int .u32 12307), .one (.str ⟨#[120, 111, 114, 105]⟩), .one (.int .i32 105), .one (.int .u32 16403), .one (.str ⟨#[111, 114, 105]⟩), .one (.int .i32 105), .one (.int .u32 24595), .one (.str ⟨#[97, 110, 100, 105]⟩), .one (.int .i32 105), .one (.int .u32 28691), .one (.str ⟨#[115, 108, 108, 105]⟩), .one (.int .i32 104), .one (.int .u32 4115), .one (.str ⟨#[115, 114, 108, 105]⟩), .one (.int .i32 104), .one (.int .u32 20499), .one (.str ⟨#[115, 114, 97, 105]⟩), .one (.int .i32 104), .one (.int .u32 1073762323), .one (.str ⟨#[97, 100, 100]⟩), .one (.int .i32 114), .one (.int .u32 51), .one (.str ⟨#[115, 117, 98]⟩), .one (.int .i32 114), .one (.int .u32 1073741875), .one (.str ⟨#[115, 108, 108]⟩), .one (.int .i32 114), .one (.int .u32 4147), .one (.str ⟨#[115, 108, 116]⟩), .one (.int .i32 114), .one (.int .u32 8243), .one (.str ⟨#[115, 108, 116, 117]⟩), .one (.int .i32 114), .one (.int .u32 12339), .one (.str ⟨#[120, 111, 114]⟩), .one (.int .i32 114), .one (.int .u32 16435), .one (.str ⟨#[115, 114, 108]⟩), .one (.int .i32 114), .one (.int .u32 20531), .one (.str ⟨#[115, 114, 97]⟩), .one (.int .i32 114), .one (.int .u32 1073762355), .one (.str ⟨#[111, 114]⟩), .one (.int .i32 114), .one (.int .u32 24627), .one (.str ⟨#[97, 110, 100]⟩), .one (.int .i32 114), .one (.int .u32 28723), .one (.str ⟨#[109, 117, 108]⟩), .one (.int .i32 114), .one (.int .u32 33554483), .one (.str ⟨#[109, 117, 108, 104]⟩), .one (.int .i32 114), .one (.int .u32 33558579), .one (.str ⟨#[109, 117, 108, 104, 115, 117]⟩), .one (.int .i32 114), .one (.int .u32 33562675), .one (.str ⟨#[109, 117, 108, 104, 117]⟩), .one (.int .i32 114), .one (.int .u32 33566771), .one (.str ⟨#[100, 105, 118]⟩), .one (.int .i32 114), .one (.int .u32 33570867), .one (.str ⟨#[100, 105, 118, 117]⟩), .one (.int .i32 114), .one (.int .u32 33574963), .one (.str ⟨#[114, 101, 109]⟩), .one (.int .i32 114), .one (.int .u32 33579059), .one (.str ⟨#[114, 101, 109, 117]⟩), .one (.int .i32 114), .one (.int .u32 33583155), .one (.str ⟨#[102, 101, 110, 99, 101]⟩), .one (.int .i32 110), .one (.int .u32 15), .one (.str ⟨#[101, 99, 97, 108, 108]⟩), .one (.int .i32 110), .one (.int .u32 115), .one (.str ⟨#[101, 98, 114, 101, 97, 107]⟩), .one (.int .i32 110), .one (.int .u32 1048691), .one (.str ⟨#[109, 114, 101, 116]⟩), .one (.int .i32 110), .one (.int .u32 807403635), .one (.str ⟨#[99, 115, 114, 114, 119]⟩), .one (.int .i32 99), .one (.int .u32 4211), .one (.str ⟨#[99, 115, 114, 114, 115]⟩), .one (.int .i32 99), .one (.int .u32 8307), .one (.str ⟨#[99, 115, 114, 114, 99]⟩), .one (.int .i32 99), .one (.int .u32 12403), .one (.str ⟨#[99, 115, 114, 114, 119, 105]⟩), .one (.int .i32 122), .one (.int .u32 20595), .one (.str ⟨#[99, 115, 114, 114, 115, 105]⟩), .one (.int .i32 122), .one (.int .u32 24691), .one (.str ⟨#[99, 115, 114, 114, 99, 105]⟩), .one (.int .i32 122), .one (.int .u32 28787)]
set_option maxRecDepth 100000 in
set_option maxHeartbeats 4000000 in
theorem forms0 : AC Tryz.prog 62 [] [] (Ret (.agg formL)) := by
  refine AC.clean rfl (AC.of_body dok Tryz.func62 rfl rfl (Nat.le_of_ble_eq_true rfl) ?_)
  conv => whnf
  exact ⟨in_agg rfl, trivial, rfl, rfl⟩
theorem forms1 (H : Hp) : AC Tryz.prog 62 [] H (RetH H (.agg formL)) := forms0.anyH rfl rfl H
theorem in_tupB3 {n : Nat} {l : List Seg} {b : Bool} (h : freeS l = true) : (AV.tup [.agg l, bo b]).inR n := ⟨in_agg h, trivial, trivial⟩
set_option maxRecDepth 100000 in
set_option maxHeartbeats 40000000 in
theorem of0 (op : Int) (h : 1 ≤ op ∧ op ≤ 55) : AC Tryz.prog 38 [i64 op] [] (Ret (.tup [.agg (form op), bo true])) := by
  have d1 : decide (op < 1) = false := decide_eq_false (by omega)
  have d2 : decide (op > 55) = false := decide_eq_false (by omega)
  refine AC.clean rfl (AC.of_body dok Tryz.func38 rfl rfl (Nat.le_of_ble_eq_true rfl) ?_)
  conv => whnf
  rw [d1]; conv => whnf
  rw [d2]; conv => whnf
  refine (forms1 _).mono ?_
  rintro v H' ⟨rfl, rfl⟩
  clear d1 d2
  rcases fifty5 h with rfl | rfl | rfl | rfl | rfl | rfl | rfl | rfl | rfl | rfl | rfl | rfl | rfl | rfl | rfl | rfl | rfl | rfl | rfl | rfl | rfl | rfl | rfl | rfl | rfl | rfl | rfl | rfl | rfl | rfl | rfl | rfl | rfl | rfl | rfl | rfl | rfl | rfl | rfl | rfl | rfl | rfl | rfl | rfl | rfl | rfl | rfl | rfl | rfl | rfl | rfl | rfl | rfl | rfl | rfl
  all_goals conv => whnf
  all_goals exact ⟨in_tupB3 rfl, trivial, rfl, rfl⟩
theorem of1 (op : Int) (h : 1 ≤ op ∧ op ≤ 55) (H : Hp) : AC Tryz.prog 38 [i64 op] H (RetH H (.tup [.agg (form op), bo true])) := (of0 op h).anyH rfl rfl H
/-- No such op. -/
theorem ofN0 (op : Int) (h : op < 1 ∨ 55 < op) : AC Tryz.prog 38 [i64 op] [] (Ret (.tup [.agg [.one (.str ⟨#[]⟩), .one (.int .i32 0), .one (.int .u32 0)], bo false])) := by
  refine AC.clean rfl (AC.of_body dok Tryz.func38 rfl rfl (Nat.le_of_ble_eq_true rfl) ?_)
  conv => whnf
  by_cases c : op < 1
  · rw [decide_eq_true c]; conv => whnf
    exact ⟨in_tupB3 rfl, trivial, rfl, rfl⟩
  · rw [decide_eq_false c]; conv => whnf
    rw [decide_eq_true (show op > 55 by omega)]; conv => whnf
    exact ⟨in_tupB3 rfl, trivial, rfl, rfl⟩
theorem ofN1 (op : Int) (h : op < 1 ∨ 55 < op) (H : Hp) : AC Tryz.prog 38 [i64 op] H (RetH H (.tup [.agg [.one (.str ⟨#[]⟩), .one (.int .i32 0), .one (.int .u32 0)], bo false])) := (ofN0 op h).anyH rfl rfl H
theorem part_lt (n s b to : Nat) (h : b + to ≤ 32) : n / 2 ^ s % 2 ^ b * 2 ^ to < 4294967296 := by
  have hm : n / 2 ^ s % 2 ^ b < 2 ^ b := Nat.mod_lt _ (Nat.two_pow_pos b)
  have h2 : n / 2 ^ s % 2 ^ b * 2 ^ to < 2 ^ b * 2 ^ to := Nat.mul_lt_mul_of_pos_right hm (Nat.two_pow_pos to)
  have hbt : (2 : Nat) ^ b * 2 ^ to ≤ 2 ^ 32 := by rw [← Nat.pow_add]; exact Nat.pow_le_pow_right (by decide) h
  omega
theorem wrap_un (z : Int) : IntKind.u32.wrap z = ((un z : Nat) : Int) := by rw [IntKind.wrap_u32]; unfold un; omega
theorem raw_or (a b : Nat) (ha : a < 4294967296) (hb : b < 4294967296) : bits BinOp.or IntKind.u32 (a : Int) (b : Int) = ((a ||| b : Nat) : Int) := nor32 a b ha hb
theorem or_lt {a b : Nat} (ha : a < 4294967296) (hb : b < 4294967296) : a ||| b < 4294967296 := Nat.or_lt_two_pow (n := 32) ha hb
theorem clr12 (n : Nat) (hn : n < 4294967296) : bits BinOp.andNot IntKind.u32 (n : Int) 4095 = ((n / 4096 * 4096 : Nat) : Int) := by
  rw [clear32 12 0 (by decide) n (by omega) (by omega) 4095 (by decide)]; omega
theorem shl20 (n : Nat) : IntKind.u32.wrap ((n : Int) * 2 ^ min 20 IntKind.u32.bits) = ((n % 4096 * 1048576 : Nat) : Int) := by
  rw [IntKind.wrap_u32]
  show (n : Int) * 1048576 % 4294967296 = _
  omega
/-- A form with an instruction's fields. -/
def layV (f : Int) (b rd r1 r2 n : Nat) : Nat :=
  if f = 117 then b ||| rd ||| (n / 4096 * 4096)
  else if f = 106 then b ||| rd ||| (n / 2 ^ 12 % 2 ^ 8 * 2 ^ 12) ||| (n / 2 ^ 11 % 2 ^ 1 * 2 ^ 20) ||| (n / 2 ^ 1 % 2 ^ 10 * 2 ^ 21) ||| (n / 2 ^ 20 % 2 ^ 1 * 2 ^ 31)
  else if f = 105 ∨ f = 104 ∨ f = 99 ∨ f = 122 then b ||| rd ||| r1 ||| (n % 4096 * 1048576)
  else if f = 98 then b ||| r1 ||| r2 ||| (n / 2 ^ 11 % 2 ^ 1 * 2 ^ 7) ||| (n / 2 ^ 1 % 2 ^ 4 * 2 ^ 8) ||| (n / 2 ^ 5 % 2 ^ 6 * 2 ^ 25) ||| (n / 2 ^ 12 % 2 ^ 1 * 2 ^ 31)
  else if f = 115 then b ||| r1 ||| r2 ||| (n / 2 ^ 0 % 2 ^ 5 * 2 ^ 7) ||| (n / 2 ^ 5 % 2 ^ 7 * 2 ^ 25)
  else if f = 114 then b ||| rd ||| r1 ||| r2
  else b
set_option maxRecDepth 100000 in
set_option maxHeartbeats 4000000 in
theorem lay0 (s : ByteArray) (f : Int) (hf : f = 117 ∨ f = 106 ∨ f = 105 ∨ f = 104 ∨ f = 99 ∨ f = 122 ∨ f = 98 ∨ f = 115 ∨ f = 114 ∨ f = 110) (b : Nat) (hb : b < 4294967296) (op rd r1 r2 im : Int) :
    AC Tryz.prog 59 [.agg [.one (.str s), .one (.int .i32 f), .one (.int .u32 b)], .agg (inst op rd r1 r2 im)] [] (Ret (u32 (layV f b (un rd / 2 ^ 0 % 2 ^ 5 * 2 ^ 7) (un r1 / 2 ^ 0 % 2 ^ 5 * 2 ^ 15) (un r2 / 2 ^ 0 % 2 ^ 5 * 2 ^ 20) (un im) : Nat))) := by
  have h0 : un rd / 2 ^ 0 % 2 ^ 5 * 2 ^ 7 < 4294967296 := part_lt _ _ _ _ (by decide)
  have h1 : un r1 / 2 ^ 0 % 2 ^ 5 * 2 ^ 15 < 4294967296 := part_lt _ _ _ _ (by decide)
  have h2 : un r2 / 2 ^ 0 % 2 ^ 5 * 2 ^ 20 < 4294967296 := part_lt _ _ _ _ (by decide)
  have hn := un_lt im
  refine AC.clean rfl (AC.of_body dok Tryz.func59 rfl rfl (Nat.le_of_ble_eq_true rfl) ?_)
  conv => whnf
  refine DR.way [0, 1, 2, 4, 5, 6, 8, 9, 10, 12, 13, 14, 3, 7, 11, 15, 16, 17, 18] (by decide +kernel) ⟨[], ?_⟩
  conv => whnf
  simp only [wrap_un]
  refine (part1 (un rd) 0 5 7 (un_lt _) (by decide) (by decide) (by decide) _).mono ?_
  rintro v H' ⟨rfl, rfl⟩
  conv => whnf
  refine (part1 (un r1) 0 5 15 (un_lt _) (by decide) (by decide) (by decide) _).mono ?_
  rintro v H' ⟨rfl, rfl⟩
  conv => whnf
  refine (part1 (un r2) 0 5 20 (un_lt _) (by decide) (by decide) (by decide) _).mono ?_
  rintro v H' ⟨rfl, rfl⟩
  generalize un rd / 2 ^ 0 % 2 ^ 5 * 2 ^ 7 = grd at h0 ⊢
  generalize un r1 / 2 ^ 0 % 2 ^ 5 * 2 ^ 15 = gr1 at h1 ⊢
  generalize un r2 / 2 ^ 0 % 2 ^ 5 * 2 ^ 20 = gr2 at h2 ⊢
  generalize un im = n at hn ⊢
  rcases hf with rfl | rfl | rfl | rfl | rfl | rfl | rfl | rfl | rfl | rfl
  all_goals conv => whnf
  case inl =>
    rw [raw_or _ _ hb h0, clr12 n hn, raw_or _ _ (or_lt hb h0) (by omega)]
    exact ⟨trivial, trivial, rfl, rfl⟩
  case inr.inl =>
    refine DR.way [0, 1, 2, 3, 4, 7, 10, 13, 5, 6, 8, 9, 11, 12, 14, 15, 16] (by decide +kernel) ⟨[], ?_⟩
    conv => whnf
    refine (part1 n 12 8 12 hn (by decide) (by decide) (by decide) _).mono ?_
    rintro v H' ⟨rfl, rfl⟩
    conv => whnf
    refine (part1 n 11 1 20 hn (by decide) (by decide) (by decide) _).mono ?_
    rintro v H' ⟨rfl, rfl⟩
    conv => whnf
    refine (part1 n 1 10 21 hn (by decide) (by decide) (by decide) _).mono ?_
    rintro v H' ⟨rfl, rfl⟩
    conv => whnf
    refine (part1 n 20 1 31 hn (by decide) (by decide) (by decide) _).mono ?_
    rintro v H' ⟨rfl, rfl⟩
    conv => whnf
    have q1 := or_lt hb h0
    have q2 := or_lt q1 (show n / 2 ^ 12 % 2 ^ 8 * 2 ^ 12 < 4294967296 from part_lt _ _ _ _ (by decide))
    have q3 := or_lt q2 (show n / 2 ^ 11 % 2 ^ 1 * 2 ^ 20 < 4294967296 from part_lt _ _ _ _ (by decide))
    have q4 := or_lt q3 (show n / 2 ^ 1 % 2 ^ 10 * 2 ^ 21 < 4294967296 from part_lt _ _ _ _ (by decide))
    rw [raw_or _ _ hb h0, raw_or _ _ q1 (part_lt _ _ _ _ (by decide)), raw_or _ _ q2 (part_lt _ _ _ _ (by decide)), raw_or _ _ q3 (part_lt _ _ _ _ (by decide)), raw_or _ _ q4 (part_lt _ _ _ _ (by decide))]
    exact ⟨trivial, trivial, rfl, rfl⟩
  case inr.inr.inl | inr.inr.inr.inl | inr.inr.inr.inr.inl | inr.inr.inr.inr.inr.inl =>
    have q1 := or_lt hb h0
    have q2 := or_lt q1 h1
    rw [raw_or _ _ hb h0, raw_or _ _ q1 h1, shl20, raw_or _ _ q2 (by omega)]
    exact ⟨trivial, trivial, rfl, rfl⟩
  case inr.inr.inr.inr.inr.inr.inl =>
    refine DR.way [0, 1, 2, 3, 4, 5, 6, 9, 12, 15, 7, 8, 10, 11, 13, 14, 16, 17, 18] (by decide +kernel) ⟨[], ?_⟩
    conv => whnf
    refine (part1 n 11 1 7 hn (by decide) (by decide) (by decide) _).mono ?_
    rintro v H' ⟨rfl, rfl⟩
    conv => whnf
    refine (part1 n 1 4 8 hn (by decide) (by decide) (by decide) _).mono ?_
    rintro v H' ⟨rfl, rfl⟩
    conv => whnf
    refine (part1 n 5 6 25 hn (by decide) (by decide) (by decide) _).mono ?_
    rintro v H' ⟨rfl, rfl⟩
    conv => whnf
    refine (part1 n 12 1 31 hn (by decide) (by decide) (by decide) _).mono ?_
    rintro v H' ⟨rfl, rfl⟩
    conv => whnf
    have q1 := or_lt hb h1
    have q2 := or_lt q1 h2
    have q3 := or_lt q2 (show n / 2 ^ 11 % 2 ^ 1 * 2 ^ 7 < 4294967296 from part_lt _ _ _ _ (by decide))
    have q4 := or_lt q3 (show n / 2 ^ 1 % 2 ^ 4 * 2 ^ 8 < 4294967296 from part_lt _ _ _ _ (by decide))
    have q5 := or_lt q4 (show n / 2 ^ 5 % 2 ^ 6 * 2 ^ 25 < 4294967296 from part_lt _ _ _ _ (by decide))
    rw [raw_or _ _ hb h1, raw_or _ _ q1 h2, raw_or _ _ q2 (part_lt _ _ _ _ (by decide)), raw_or _ _ q3 (part_lt _ _ _ _ (by decide)), raw_or _ _ q4 (part_lt _ _ _ _ (by decide)), raw_or _ _ q5 (part_lt _ _ _ _ (by decide))]
    exact ⟨trivial, trivial, rfl, rfl⟩
  case inr.inr.inr.inr.inr.inr.inr.inl =>
    refine DR.way [0, 1, 2, 3, 4, 5, 6, 9, 7, 8, 10, 11, 12] (by decide +kernel) ⟨[], ?_⟩
    conv => whnf
    refine (part1 n 0 5 7 hn (by decide) (by decide) (by decide) _).mono ?_
    rintro v H' ⟨rfl, rfl⟩
    conv => whnf
    refine (part1 n 5 7 25 hn (by decide) (by decide) (by decide) _).mono ?_
    rintro v H' ⟨rfl, rfl⟩
    conv => whnf
    have q1 := or_lt hb h1
    have q2 := or_lt q1 h2
    have q3 := or_lt q2 (show n / 2 ^ 0 % 2 ^ 5 * 2 ^ 7 < 4294967296 from part_lt _ _ _ _ (by decide))
    rw [raw_or _ _ hb h1, raw_or _ _ q1 h2, raw_or _ _ q2 (part_lt _ _ _ _ (by decide)), raw_or _ _ q3 (part_lt _ _ _ _ (by decide))]
    exact ⟨trivial, trivial, rfl, rfl⟩
  case inr.inr.inr.inr.inr.inr.inr.inr.inl =>
    have q1 := or_lt hb h0
    have q2 := or_lt q1 h1
    rw [raw_or _ _ hb h0, raw_or _ _ q1 h1, raw_or _ _ q2 h2]
    exact ⟨trivial, trivial, rfl, rfl⟩
  case inr.inr.inr.inr.inr.inr.inr.inr.inr =>
    exact ⟨trivial, trivial, rfl, rfl⟩
theorem p_rd (k : Nat) (h : k < 32) : un (k : Int) / 2 ^ 0 % 2 ^ 5 * 2 ^ 7 = pk 0 k 0 0 0 0 := by unfold un pk; omega
theorem p_r1 (k : Nat) (h : k < 32) : un (k : Int) / 2 ^ 0 % 2 ^ 5 * 2 ^ 15 = pk 0 0 0 k 0 0 := by unfold un pk; omega
theorem p_r2 (k : Nat) (h : k < 32) : un (k : Int) / 2 ^ 0 % 2 ^ 5 * 2 ^ 20 = pk 0 0 0 0 k 0 := by unfold un pk; omega
theorem p_u (n : Nat) : n / 4096 * 4096 = pk 0 0 (n / 4096 % 8) (n / 32768 % 32) (n / 1048576 % 32) (n / 33554432) := by unfold pk; omega
theorem p_i (n : Nat) : n % 4096 * 1048576 = pk 0 0 0 0 (n % 32) (n / 32 % 128) := by unfold pk; omega
theorem p_j1 (n : Nat) : n / 2 ^ 12 % 2 ^ 8 * 2 ^ 12 = pk 0 0 (n / 4096 % 8) (n / 32768 % 32) 0 0 := by unfold pk; omega
theorem p_j2 (n : Nat) : n / 2 ^ 11 % 2 ^ 1 * 2 ^ 20 = pk 0 0 0 0 (n / 2048 % 2) 0 := by unfold pk; omega
theorem p_j3 (n : Nat) : n / 2 ^ 1 % 2 ^ 10 * 2 ^ 21 = pk 0 0 0 0 (n / 2 % 16 * 2) (n / 32 % 64) := by unfold pk; omega
theorem p_j4 (n : Nat) : n / 2 ^ 20 % 2 ^ 1 * 2 ^ 31 = pk 0 0 0 0 0 (n / 1048576 % 2 * 64) := by unfold pk; omega
theorem p_b1 (n : Nat) : n / 2 ^ 11 % 2 ^ 1 * 2 ^ 7 = pk 0 (n / 2048 % 2) 0 0 0 0 := by unfold pk; omega
theorem p_b2 (n : Nat) : n / 2 ^ 1 % 2 ^ 4 * 2 ^ 8 = pk 0 (n / 2 % 16 * 2) 0 0 0 0 := by unfold pk; omega
theorem p_b3 (n : Nat) : n / 2 ^ 5 % 2 ^ 6 * 2 ^ 25 = pk 0 0 0 0 0 (n / 32 % 64) := by unfold pk; omega
theorem p_b4 (n : Nat) : n / 2 ^ 12 % 2 ^ 1 * 2 ^ 31 = pk 0 0 0 0 0 (n / 4096 % 2 * 64) := by unfold pk; omega
theorem p_s1 (n : Nat) : n / 2 ^ 0 % 2 ^ 5 * 2 ^ 7 = pk 0 (n % 32) 0 0 0 0 := by unfold pk; omega
theorem p_s2 (n : Nat) : n / 2 ^ 5 % 2 ^ 7 * 2 ^ 25 = pk 0 0 0 0 0 (n / 32 % 128) := by unfold pk; omega
theorem or_bit (a b : Nat) (ha : a < 2) : a ||| b * 2 = a + b * 2 := by
  have := or_split 1 a 0 0 b (by omega) (by decide)
  simpa [Nat.mul_comm] using this
theorem or_six (a b : Nat) (ha : a < 64) : a ||| b * 64 = a + b * 64 := by
  have := or_split 6 a 0 0 b (by omega) (by decide)
  simpa [Nat.mul_comm] using this
theorem fr_U {op : Int} (h : op = 1 ∨ op = 2) : fr op = 117 ∧ op3 op = 0 ∧ op7 op = 0 ∧ op2 op = 0 := by rcases h with rfl | rfl <;> decide
theorem fr_J : fr 3 = 106 ∧ op3 3 = 0 ∧ op7 3 = 0 ∧ op2 3 = 0 := by decide
theorem fr_I {op : Int} (h : op = 4 ∨ (11 ≤ op ∧ op ≤ 15) ∨ (19 ≤ op ∧ op ≤ 24)) : fr op = 105 ∧ op7 op = 0 ∧ op2 op = 0 := by
  rcases (show op = 4 ∨ op = 11 ∨ op = 12 ∨ op = 13 ∨ op = 14 ∨ op = 15 ∨ op = 19 ∨ op = 20 ∨ op = 21 ∨ op = 22 ∨ op = 23 ∨ op = 24 by omega) with rfl | rfl | rfl | rfl | rfl | rfl | rfl | rfl | rfl | rfl | rfl | rfl <;> decide
theorem fr_B {op : Int} (h : 5 ≤ op ∧ op ≤ 10) : fr op = 98 ∧ op7 op = 0 ∧ op2 op = 0 := by
  rcases (show op = 5 ∨ op = 6 ∨ op = 7 ∨ op = 8 ∨ op = 9 ∨ op = 10 by omega) with rfl | rfl | rfl | rfl | rfl | rfl <;> decide
theorem fr_S {op : Int} (h : 16 ≤ op ∧ op ≤ 18) : fr op = 115 ∧ op7 op = 0 ∧ op2 op = 0 := by
  rcases (show op = 16 ∨ op = 17 ∨ op = 18 by omega) with rfl | rfl | rfl <;> decide
theorem fr_H {op : Int} (h : 25 ≤ op ∧ op ≤ 27) : fr op = 104 ∧ op2 op = 0 := by
  rcases (show op = 25 ∨ op = 26 ∨ op = 27 by omega) with rfl | rfl | rfl <;> decide
theorem fr_R {op : Int} (h : 28 ≤ op ∧ op ≤ 45) : fr op = 114 ∧ op2 op = 0 := by
  rcases (show op = 28 ∨ op = 29 ∨ op = 30 ∨ op = 31 ∨ op = 32 ∨ op = 33 ∨ op = 34 ∨ op = 35 ∨ op = 36 ∨ op = 37 ∨ op = 38 ∨ op = 39 ∨ op = 40 ∨ op = 41 ∨ op = 42 ∨ op = 43 ∨ op = 44 ∨ op = 45 by omega) with rfl | rfl | rfl | rfl | rfl | rfl | rfl | rfl | rfl | rfl | rfl | rfl | rfl | rfl | rfl | rfl | rfl | rfl <;> decide
theorem fr_C {op : Int} (h : 50 ≤ op ∧ op ≤ 55) : (fr op = 99 ∨ fr op = 122) ∧ op7 op = 0 ∧ op2 op = 0 := by
  rcases (show op = 50 ∨ op = 51 ∨ op = 52 ∨ op = 53 ∨ op = 54 ∨ op = 55 by omega) with rfl | rfl | rfl | rfl | rfl | rfl <;> decide
theorem fr_N {op : Int} (h : 46 ≤ op ∧ op ≤ 49) : fr op = 110 := by
  rcases (show op = 46 ∨ op = 47 ∨ op = 48 ∨ op = 49 by omega) with rfl | rfl | rfl | rfl <;> decide
theorem fr_in {op : Int} (h : 1 ≤ op ∧ op ≤ 55) : fr op = 117 ∨ fr op = 106 ∨ fr op = 105 ∨ fr op = 104 ∨ fr op = 99 ∨ fr op = 122 ∨ fr op = 98 ∨ fr op = 115 ∨ fr op = 114 ∨ fr op = 110 := by
  rcases fmt_cases op with ⟨g, e⟩ | ⟨g, e⟩ | ⟨g, e⟩ | ⟨g, e⟩ | ⟨g, e⟩ | ⟨g, e⟩ | ⟨g, e⟩ | ⟨g, e⟩ | ⟨g, e⟩ | ⟨g, e⟩
  · have := (fr_U g).1; omega
  · subst g; have := fr_J.1; omega
  · have := (fr_I g).1; omega
  · have := (fr_B g).1; omega
  · have := (fr_S g).1; omega
  · have := (fr_H g).1; omega
  · have := (fr_R g).1; omega
  · have := (fr_C g).1; omega
  · have := fr_N g; omega
  · omega
theorem base_lt (op : Int) : base op < 4294967296 := by
  obtain ⟨h1, h2, h3, h4⟩ := opB op
  exact pk_lt ⟨h1, by decide, h2, by decide, h4, h3⟩
/-- What ours lays of an instruction. -/
abbrev layT (t : T5) : Nat := layV (fr t.1) (base t.1) (un t.2.1 / 2 ^ 0 % 2 ^ 5 * 2 ^ 7) (un t.2.2.1 / 2 ^ 0 % 2 ^ 5 * 2 ^ 15) (un t.2.2.2.1 / 2 ^ 0 % 2 ^ 5 * 2 ^ 20) (un t.2.2.2.2)
theorem layV_lt (f : Int) {b rd r1 r2 n : Nat} (hb : b < 4294967296) (h0 : rd < 4294967296) (h1 : r1 < 4294967296) (h2 : r2 < 4294967296) (hn : n < 4294967296) : layV f b rd r1 r2 n < 4294967296 := by
  unfold layV
  repeat' split
  all_goals repeat' (first | assumption | apply or_lt | exact part_lt _ _ _ _ (by decide) | omega)
set_option maxRecDepth 100000 in
/-- Ours is the word. -/
theorem lay_word {t : T5} (h : valid t) : layT t = word t := by
  obtain ⟨op, rd, r1, r2, im⟩ := t
  obtain ⟨h1, h2, hrd, hr1, hr2, hU, hJ, hI, hB, hS, hH, hR, hC, hN⟩ := h
  dsimp only at h1 h2 hrd hr1 hr2 hU hJ hI hB hS hH hR hC hN
  obtain ⟨rd, rfl, hrd⟩ := nat_of hrd
  obtain ⟨r1, rfl, hr1⟩ := nat_of hr1
  obtain ⟨r2, rfl, hr2⟩ := nat_of hr2
  have hrd : rd < 32 := by omega
  have hr1 : r1 < 32 := by omega
  have hr2 : r2 < 32 := by omega
  have hu := un_lt im
  obtain ⟨ba, b3, b7, b2⟩ := opB op
  unfold layT word base
  dsimp only [Int.toNat_natCast]
  rw [p_rd rd hrd, p_r1 r1 hr1, p_r2 r2 hr2]
  rcases fmt_cases op with ⟨g, e⟩ | ⟨g, e⟩ | ⟨g, e⟩ | ⟨g, e⟩ | ⟨g, e⟩ | ⟨g, e⟩ | ⟨g, e⟩ | ⟨g, e⟩ | ⟨g, e⟩ | ⟨g, e⟩
  all_goals rw [e] at hU hJ hI hB hS hH hR hC hN ⊢
  case inl =>
    obtain ⟨f1, f2, f3, f4⟩ := fr_U g
    simp only [if_pos]
    rw [f1, f2, f3, f4]
    unfold layV
    simp only [if_pos]
    rw [p_u, pk_or (by omega) (by omega), pk_or (by simp; omega) (by omega)]
    simp only [Nat.or_zero, Nat.zero_or]
  case inr.inl =>
    subst g
    obtain ⟨f1, f2, f3, f4⟩ := fr_J
    simp only [show ¬ ((74 : Int) = 85) by decide, if_false, if_pos]
    rw [f1, f2, f3, f4]
    unfold layV
    simp only [show ¬ ((106 : Int) = 117) by decide, if_false, if_pos]
    rw [p_j1, p_j2, p_j3, p_j4, pk_or (by omega) (by omega)]
    simp only [Nat.or_zero, Nat.zero_or]
    rw [pk_or (by omega) (by omega)]
    simp only [Nat.or_zero, Nat.zero_or]
    rw [pk_or (by omega) (by omega)]
    simp only [Nat.or_zero, Nat.zero_or]
    rw [pk_or (by omega) (by omega)]
    simp only [Nat.or_zero, Nat.zero_or]
    rw [or_bit _ _ (by omega), pk_or (by omega) (by omega)]
    simp only [Nat.or_zero, Nat.zero_or]
    rw [or_six _ _ (by omega)]
  case inr.inr.inl =>
    obtain ⟨f1, f3, f4⟩ := fr_I g
    simp only [show ¬ ((73 : Int) = 85) by decide, show ¬ ((73 : Int) = 74) by decide, if_false, if_pos]
    rw [f1, f3, f4]
    unfold layV
    simp only [show ¬ ((105 : Int) = 117) by decide, show ¬ ((105 : Int) = 106) by decide, if_false, true_or, if_true]
    rw [p_i, pk_or (by omega) (by omega)]
    simp only [Nat.or_zero, Nat.zero_or]
    rw [pk_or (by omega) (by omega)]
    simp only [Nat.or_zero, Nat.zero_or]
    rw [pk_or (by omega) (by omega)]
    simp only [Nat.or_zero, Nat.zero_or]
  case inr.inr.inr.inl =>
    obtain ⟨f1, f3, f4⟩ := fr_B g
    simp only [show ¬ ((66 : Int) = 85) by decide, show ¬ ((66 : Int) = 74) by decide, show ¬ ((66 : Int) = 73) by decide, if_false, if_pos]
    rw [f1, f3, f4]
    unfold layV
    simp only [show ¬ ((98 : Int) = 117) by decide, show ¬ ((98 : Int) = 106) by decide, show ¬ ((98 : Int) = 105 ∨ (98 : Int) = 104 ∨ (98 : Int) = 99 ∨ (98 : Int) = 122) by decide, if_false, if_true]
    rw [p_b1, p_b2, p_b3, p_b4, pk_or (by omega) (by omega)]
    simp only [Nat.or_zero, Nat.zero_or]
    rw [pk_or (by omega) (by omega)]
    simp only [Nat.or_zero, Nat.zero_or]
    rw [pk_or (by omega) (by omega)]
    simp only [Nat.or_zero, Nat.zero_or]
    rw [pk_or (by omega) (by omega)]
    simp only [Nat.or_zero, Nat.zero_or]
    rw [or_bit _ _ (by omega), pk_or (by omega) (by omega)]
    simp only [Nat.or_zero, Nat.zero_or]
    rw [pk_or (by omega) (by omega)]
    simp only [Nat.or_zero, Nat.zero_or]
    rw [or_six _ _ (by omega)]
  case inr.inr.inr.inr.inl =>
    obtain ⟨f1, f3, f4⟩ := fr_S g
    simp only [show ¬ ((83 : Int) = 85) by decide, show ¬ ((83 : Int) = 74) by decide, show ¬ ((83 : Int) = 73) by decide, show ¬ ((83 : Int) = 66) by decide, if_false, if_pos]
    rw [f1, f3, f4]
    unfold layV
    simp only [show ¬ ((115 : Int) = 117) by decide, show ¬ ((115 : Int) = 106) by decide, show ¬ ((115 : Int) = 105 ∨ (115 : Int) = 104 ∨ (115 : Int) = 99 ∨ (115 : Int) = 122) by decide, show ¬ ((115 : Int) = 98) by decide, if_false, if_true]
    rw [p_s1, p_s2, pk_or (by omega) (by omega)]
    simp only [Nat.or_zero, Nat.zero_or]
    rw [pk_or (by omega) (by omega)]
    simp only [Nat.or_zero, Nat.zero_or]
    rw [pk_or (by omega) (by omega)]
    simp only [Nat.or_zero, Nat.zero_or]
    rw [pk_or (by omega) (by omega)]
    simp only [Nat.or_zero, Nat.zero_or]
  case inr.inr.inr.inr.inr.inl =>
    obtain ⟨f1, f4⟩ := fr_H g
    obtain ⟨z1, z2⟩ := hH rfl
    simp only [show ¬ ((72 : Int) = 85) by decide, show ¬ ((72 : Int) = 74) by decide, show ¬ ((72 : Int) = 73) by decide, show ¬ ((72 : Int) = 66) by decide, show ¬ ((72 : Int) = 83) by decide, if_false, if_pos]
    rw [f1, f4]
    unfold layV
    simp only [show ¬ ((104 : Int) = 117) by decide, show ¬ ((104 : Int) = 106) by decide, true_or, or_true, if_false, if_true]
    rw [p_i, pk_or (by omega) (by omega)]
    simp only [Nat.or_zero, Nat.zero_or]
    rw [pk_or (by omega) (by omega)]
    simp only [Nat.or_zero, Nat.zero_or]
    have e0 : un im / 32 % 128 = 0 := by unfold un; omega
    rw [e0, pk_or (by omega) (by omega)]
    simp only [Nat.or_zero, Nat.zero_or]
  case inr.inr.inr.inr.inr.inr.inl =>
    obtain ⟨f1, f4⟩ := fr_R g
    simp only [show ¬ ((82 : Int) = 85) by decide, show ¬ ((82 : Int) = 74) by decide, show ¬ ((82 : Int) = 73) by decide, show ¬ ((82 : Int) = 66) by decide, show ¬ ((82 : Int) = 83) by decide, show ¬ ((82 : Int) = 72) by decide, if_false, if_pos]
    rw [f1, f4]
    unfold layV
    simp only [show ¬ ((114 : Int) = 117) by decide, show ¬ ((114 : Int) = 106) by decide, show ¬ ((114 : Int) = 105 ∨ (114 : Int) = 104 ∨ (114 : Int) = 99 ∨ (114 : Int) = 122) by decide, show ¬ ((114 : Int) = 98) by decide, show ¬ ((114 : Int) = 115) by decide, if_false, if_true]
    rw [pk_or (by omega) (by omega)]
    simp only [Nat.or_zero, Nat.zero_or]
    rw [pk_or (by omega) (by omega)]
    simp only [Nat.or_zero, Nat.zero_or]
    rw [pk_or (by omega) (by omega)]
    simp only [Nat.or_zero, Nat.zero_or]
  case inr.inr.inr.inr.inr.inr.inr.inl =>
    obtain ⟨f1, f3, f4⟩ := fr_C g
    simp only [show ¬ ((67 : Int) = 85) by decide, show ¬ ((67 : Int) = 74) by decide, show ¬ ((67 : Int) = 73) by decide, show ¬ ((67 : Int) = 66) by decide, show ¬ ((67 : Int) = 83) by decide, show ¬ ((67 : Int) = 72) by decide, show ¬ ((67 : Int) = 82) by decide, if_false, if_pos]
    rw [f3, f4]
    unfold layV
    rw [if_neg (show ¬ fr op = 117 by omega), if_neg (show ¬ fr op = 106 by omega), if_pos (show fr op = 105 ∨ fr op = 104 ∨ fr op = 99 ∨ fr op = 122 by omega)]
    rw [p_i, pk_or (by omega) (by omega)]
    simp only [Nat.or_zero, Nat.zero_or]
    rw [pk_or (by omega) (by omega)]
    simp only [Nat.or_zero, Nat.zero_or]
    rw [pk_or (by omega) (by omega)]
    simp only [Nat.or_zero, Nat.zero_or]
  case inr.inr.inr.inr.inr.inr.inr.inr.inl =>
    have f1 := fr_N g
    rw [f1]; rfl
  case inr.inr.inr.inr.inr.inr.inr.inr.inr => exfalso; omega
/-- The word, and whether there is one. -/
def encT (t : T5) : Nat × Bool := if dec (word t) = t ∧ t.1 ≠ 0 then (word t, true) else (0, false)
theorem encT_pos {t : T5} (h : valid t) : encT t = (word t, true) := by
  unfold encT; rw [if_pos ⟨dec_word h, by have := h.1; omega⟩]
theorem encT_neg {t : T5} (h : ¬ valid t) : encT t = (0, false) := by
  unfold encT; rw [if_neg (fun (e : dec (word t) = t ∧ t.1 ≠ 0) => h (e.1 ▸ dec_valid (by rw [e.1]; exact e.2)))]
theorem lay1 (op rd r1 r2 im : Int) (h : 1 ≤ op ∧ op ≤ 55) (H : Hp) : AC Tryz.prog 59 [.agg (form op), .agg (inst op rd r1 r2 im)] H (RetH H (u32 (layT (op, rd, r1, r2, im) : Nat))) :=
  (lay0 _ (fr op) (fr_in h) (base op) (base_lt op) op rd r1 r2 im).anyH rfl rfl H
theorem layT_lt (t : T5) : layT t < 4294967296 := layV_lt _ (base_lt _) (part_lt _ _ _ _ (by decide)) (part_lt _ _ _ _ (by decide)) (part_lt _ _ _ _ (by decide)) (un_lt _)
theorem valid_op {t : T5} (h : valid t) : 1 ≤ t.1 ∧ t.1 ≤ 55 := ⟨h.1, h.2.1⟩
theorem in_ub2 {n : Nat} {a : Int} {b : Bool} : (AV.tup [u32 a, bo b]).inR n := ⟨trivial, trivial, trivial⟩
/-- Whether two instructions are the same, cell by cell. -/
theorem eq5 (t u : T5) : (t.1 == u.1 && (t.2.1 == u.2.1 && (t.2.2.1 == u.2.2.1 && (t.2.2.2.1 == u.2.2.2.1 && t.2.2.2.2 == u.2.2.2.2)))) = decide (t = u) := by
  obtain ⟨a, b, c, d, e⟩ := t
  obtain ⟨a', b', c', d', e'⟩ := u
  rw [Bool.eq_iff_iff]
  simp only [Bool.and_eq_true, beq_iff_eq, decide_eq_true_eq, Prod.mk.injEq]
theorem enc0 (op rd r1 r2 im : Int) : AC Tryz.prog 27 [.agg (inst op rd r1 r2 im)] [] (Ret (.tup [u32 ((encT (op, rd, r1, r2, im)).1 : Nat), bo (encT (op, rd, r1, r2, im)).2])) := by
  refine AC.clean rfl (AC.of_body dok Tryz.func27 rfl rfl (Nat.le_of_ble_eq_true rfl) ?_)
  conv => whnf
  by_cases h : 1 ≤ op ∧ op ≤ 55
  · refine (of1 op h _).mono ?_
    rintro v H' ⟨rfl, rfl⟩
    conv => whnf
    refine (lay1 op rd r1 r2 im h _).mono ?_
    rintro v H' ⟨rfl, rfl⟩
    conv => whnf
    refine (dec1 _ (layT_lt _) _).mono ?_
    rintro v H' ⟨rfl, rfl⟩
    by_cases hv : valid (op, rd, r1, r2, im)
    · rw [lay_word hv, dec_word hv, encT_pos hv]
      conv => whnf
      have e : (op != 0) = true := by simp; omega
      rw [e]
      conv => whnf
      rw [show (op == op && (rd == rd && (r1 == r1 && (r2 == r2 && im == im)))) = true by simp]
      conv => whnf
      exact ⟨in_ub2, trivial, rfl, rfl⟩
    · rw [encT_neg hv]
      conv => whnf
      by_cases e : (dec (layT (op, rd, r1, r2, im))).1 = 0
      · rw [show ((dec (layT (op, rd, r1, r2, im))).1 != 0) = false by simpa using e]
        conv => whnf
        exact ⟨in_ub2, trivial, rfl, rfl⟩
      · rw [show ((dec (layT (op, rd, r1, r2, im))).1 != 0) = true by simpa using e]
        conv => whnf
        rw [eq5 (dec (layT (op, rd, r1, r2, im))) (op, rd, r1, r2, im), decide_eq_false (dec_ne hv e)]
        conv => whnf
        exact ⟨in_ub2, trivial, rfl, rfl⟩
  · refine (ofN1 op (by omega) _).mono ?_
    rintro v H' ⟨rfl, rfl⟩
    rw [encT_neg fun hv => h (valid_op hv)]
    conv => whnf
    exact ⟨in_ub2, trivial, rfl, rfl⟩
theorem enc1 (t : T5) (H : Hp) : AC Tryz.prog 27 [.agg (ins t)] H (RetH H (.tup [u32 ((encT t).1 : Nat), bo (encT t).2])) := (enc0 t.1 t.2.1 t.2.2.1 t.2.2.2.1 t.2.2.2.2).anyH rfl rfl H
end Go.Proofs.YtgglclmilocgcaaGreatDoor.Md
