/- The document puts instructions together. -/
import Derived.Test.YtjfbpnfegeimfaaDoorEw
set_option linter.unusedVariables false
set_option linter.unusedSimpArgs false
namespace Go.Proofs.YtjfbpnfegeimfaaDoor.Md
open Go.RowKit Go.Proofs.YtjfbpnfegeimfaaDoor.Ae Go.Proofs.YtjfbpnfegeimfaaDoor.Bv Go.Proofs.YtjfbpnfegeimfaaDoor
/-- The ops' codes. -/
def codeL : List Int := [55, 23, 111, 103, 99, 4195, 16483, 20579, 24675, 28771, 3, 4099, 8195, 16387, 20483, 35, 4131, 8227, 19, 8211, 12307, 16403, 24595, 28691, 4115, 20499, 1073762323, 51, 1073741875, 4147, 8243, 12339, 16435, 20531, 1073762355, 24627, 28723, 33554483, 33558579, 33562675, 33566771, 33570867, 33574963, 33579059, 33583155, 15, 115, 1048691, 807403635, 4211, 8307, 12403, 20595, 24691, 28787]
theorem codes0 : AC Tryd.prog 33 [] [] (fun v H => v = .v (.sl 0 0 0 55 1) ∧ H = [.rw [.ints .u32 55 codeL]]) := by
  refine AC.of_body dok Tryd.func33 rfl rfl (Nat.le_of_ble_eq_true rfl) ?_
  conv => whnf
  exact ⟨rfl, rfl⟩
theorem codes1 (G : Hp) : AC Tryd.prog 33 [] G (fun v H => v = .v (.sl G.length 0 0 55 1) ∧ H = G ++ [.rw [.ints .u32 55 codeL]]) := by
  refine (codes0.embed [] (G := G) (by simp) (by simp) trivial).mono ?_
  rintro v G' ⟨v0, H', ⟨rfl, rfl⟩, _, rfl, rfl⟩
  exact ⟨by simp [AV.ren, V.ren, nthN], by simp [embP, Blk.ren, rensS, Seg.ren]⟩
theorem as_u32 {z : Int} (h : 0 ≤ z ∧ z < 4294967296) : ∃ x : Nat, z = x ∧ x < 4294967296 := ⟨z.toNat, by omega, by omega⟩
set_option maxRecDepth 100000 in
theorem code_base (k : Nat) (h : k < 55) : codeL.getD k 0 = (base ((k : Int) + 1) : Int) := by
  obtain ⟨op, ho, h1⟩ : ∃ op : Int, op = (k : Int) + 1 ∧ (1 ≤ op ∧ op ≤ 55) := ⟨_, rfl, by omega⟩
  obtain ⟨rfl⟩ : k = (op - 1).toNat := by omega
  rw [← ho]
  clear ho h
  rcases fifty5 h1 with rfl | rfl | rfl | rfl | rfl | rfl | rfl | rfl | rfl | rfl | rfl | rfl | rfl | rfl | rfl | rfl | rfl | rfl | rfl | rfl | rfl | rfl | rfl | rfl | rfl | rfl | rfl | rfl | rfl | rfl | rfl | rfl | rfl | rfl | rfl | rfl | rfl | rfl | rfl | rfl | rfl | rfl | rfl | rfl | rfl | rfl | rfl | rfl | rfl | rfl | rfl | rfl | rfl | rfl | rfl <;> rfl
theorem leafN {t : T5} (h : ¬ valid t) : Ret (.tup [u32 ((encT t).1 : Nat), bo (encT t).2]) (.tup [u32 0, bo false]) [] := by
  rw [encT_neg h]; exact ⟨rfl, rfl⟩
theorem part_lit (n s b to : Nat) (m : Int) (hm : m = ((2 ^ b - 1 : Nat) : Int)) (hn : n < 4294967296) (hs : s < 32) (hb : b < 32) (ht : b + to ≤ 32) : IntKind.u32.wrap (bits BinOp.and IntKind.u32 ((n : Int).fdiv (2 ^ min s IntKind.u32.bits)) m * 2 ^ min to IntKind.u32.bits) = ((n / 2 ^ s % 2 ^ b * 2 ^ to : Nat) : Int) := by
  rw [← part_val n s b to hn hs hb ht]
  have hp : (2 : Nat) ^ b ≤ 2 ^ 31 := Nat.pow_le_pow_right (by decide) (by omega)
  have hpos : 0 < (2 : Nat) ^ b := Nat.two_pow_pos b
  have e2 : min b IntKind.u32.bits = b := by show min b 32 = b; omega
  have f2 : ((1 : Int) * 2 ^ b) = ((2 ^ b : Nat) : Int) := by simp
  have f3 : (((2 ^ b : Nat) : Int) - 1) = ((2 ^ b - 1 : Nat) : Int) := by rw [Int.natCast_sub hpos]; rfl
  rw [e2, f2, u32_nat _ (by omega), f3, u32_nat _ (by omega), hm]
theorem and_lit (n b to : Nat) (m : Int) (hm : m = ((2 ^ b - 1 : Nat) : Int)) (hn : n < 4294967296) (hb : b < 32) (ht : b + to ≤ 32) : IntKind.u32.wrap (bits BinOp.and IntKind.u32 (n : Int) m * 2 ^ min to IntKind.u32.bits) = ((n % 2 ^ b * 2 ^ to : Nat) : Int) := by
  have h := part_lit n 0 b to m hm hn (by decide) hb ht
  have e : ((n : Int).fdiv (2 ^ min 0 IntKind.u32.bits)) = n := by show (n : Int).fdiv 1 = n; simp
  rw [e] at h
  simpa using h
theorem d_rd (k : Nat) (h : k < 32) : IntKind.u32.wrap (((un (k : Int) : Nat) : Int) * 2 ^ min 7 IntKind.u32.bits) = (pk 0 k 0 0 0 0 : Nat) := by
  rw [show un (k : Int) = k by unfold un; omega, shl32 k 7 (by omega)]; unfold pk; omega
theorem d_r1 (k : Nat) (h : k < 32) : IntKind.u32.wrap (((un (k : Int) : Nat) : Int) * 2 ^ min 15 IntKind.u32.bits) = (pk 0 0 0 k 0 0 : Nat) := by
  rw [show un (k : Int) = k by unfold un; omega, shl32 k 15 (by omega)]; unfold pk; omega
theorem d_r2 (k : Nat) (h : k < 32) : IntKind.u32.wrap (((un (k : Int) : Nat) : Int) * 2 ^ min 20 IntKind.u32.bits) = (pk 0 0 0 0 k 0 : Nat) := by
  rw [show un (k : Int) = k by unfold un; omega, shl32 k 20 (by omega)]; unfold pk; omega
theorem d_j4 (n : Nat) (h : n < 4294967296) : IntKind.u32.wrap (bits BinOp.and IntKind.u32 ((n : Int).fdiv (2 ^ min 20 IntKind.u32.bits)) 1 * 2 ^ min 31 IntKind.u32.bits) = (pk 0 0 0 0 0 (n / 1048576 % 2 * 64) : Nat) := by
  rw [part_lit n 20 1 31 1 (by decide) h (by decide) (by decide) (by decide)]; unfold pk; omega
theorem d_j3 (n : Nat) (h : n < 4294967296) : IntKind.u32.wrap (bits BinOp.and IntKind.u32 ((n : Int).fdiv (2 ^ min 1 IntKind.u32.bits)) 1023 * 2 ^ min 21 IntKind.u32.bits) = (pk 0 0 0 0 (n / 2 % 16 * 2) (n / 32 % 64) : Nat) := by
  rw [part_lit n 1 10 21 1023 (by decide) h (by decide) (by decide) (by decide)]; unfold pk; omega
theorem d_j2 (n : Nat) (h : n < 4294967296) : IntKind.u32.wrap (bits BinOp.and IntKind.u32 ((n : Int).fdiv (2 ^ min 11 IntKind.u32.bits)) 1 * 2 ^ min 20 IntKind.u32.bits) = (pk 0 0 0 0 (n / 2048 % 2) 0 : Nat) := by
  rw [part_lit n 11 1 20 1 (by decide) h (by decide) (by decide) (by decide)]; unfold pk; omega
theorem d_j1 (n : Nat) (h : n < 4294967296) : IntKind.u32.wrap (bits BinOp.and IntKind.u32 ((n : Int).fdiv (2 ^ min 12 IntKind.u32.bits)) 255 * 2 ^ min 12 IntKind.u32.bits) = (pk 0 0 (n / 4096 % 8) (n / 32768 % 32) 0 0 : Nat) := by
  rw [part_lit n 12 8 12 255 (by decide) h (by decide) (by decide) (by decide)]; unfold pk; omega
theorem d_b4 (n : Nat) (h : n < 4294967296) : IntKind.u32.wrap (bits BinOp.and IntKind.u32 ((n : Int).fdiv (2 ^ min 12 IntKind.u32.bits)) 1 * 2 ^ min 31 IntKind.u32.bits) = (pk 0 0 0 0 0 (n / 4096 % 2 * 64) : Nat) := by
  rw [part_lit n 12 1 31 1 (by decide) h (by decide) (by decide) (by decide)]; unfold pk; omega
theorem d_b3 (n : Nat) (h : n < 4294967296) : IntKind.u32.wrap (bits BinOp.and IntKind.u32 ((n : Int).fdiv (2 ^ min 5 IntKind.u32.bits)) 63 * 2 ^ min 25 IntKind.u32.bits) = (pk 0 0 0 0 0 (n / 32 % 64) : Nat) := by
  rw [part_lit n 5 6 25 63 (by decide) h (by decide) (by decide) (by decide)]; unfold pk; omega
theorem d_b2 (n : Nat) (h : n < 4294967296) : IntKind.u32.wrap (bits BinOp.and IntKind.u32 ((n : Int).fdiv (2 ^ min 1 IntKind.u32.bits)) 15 * 2 ^ min 8 IntKind.u32.bits) = (pk 0 (n / 2 % 16 * 2) 0 0 0 0 : Nat) := by
  rw [part_lit n 1 4 8 15 (by decide) h (by decide) (by decide) (by decide)]; unfold pk; omega
theorem d_b1 (n : Nat) (h : n < 4294967296) : IntKind.u32.wrap (bits BinOp.and IntKind.u32 ((n : Int).fdiv (2 ^ min 11 IntKind.u32.bits)) 1 * 2 ^ min 7 IntKind.u32.bits) = (pk 0 (n / 2048 % 2) 0 0 0 0 : Nat) := by
  rw [part_lit n 11 1 7 1 (by decide) h (by decide) (by decide) (by decide)]; unfold pk; omega
theorem d_s2 (n : Nat) (h : n < 4294967296) : IntKind.u32.wrap (bits BinOp.and IntKind.u32 ((n : Int).fdiv (2 ^ min 5 IntKind.u32.bits)) 127 * 2 ^ min 25 IntKind.u32.bits) = (pk 0 0 0 0 0 (n / 32 % 128) : Nat) := by
  rw [part_lit n 5 7 25 127 (by decide) h (by decide) (by decide) (by decide)]; unfold pk; omega
theorem d_s1 (n : Nat) (h : n < 4294967296) : IntKind.u32.wrap (bits BinOp.and IntKind.u32 (n : Int) 31 * 2 ^ min 7 IntKind.u32.bits) = (pk 0 (n % 32) 0 0 0 0 : Nat) := by
  rw [and_lit n 5 7 31 (by decide) h (by decide) (by decide)]; unfold pk; omega
theorem d_h (n : Nat) (h : n < 4294967296) : IntKind.u32.wrap (bits BinOp.and IntKind.u32 (n : Int) 31 * 2 ^ min 20 IntKind.u32.bits) = (pk 0 0 0 0 (n % 32) 0 : Nat) := by
  rw [and_lit n 5 20 31 (by decide) h (by decide) (by decide)]; unfold pk; omega
theorem d_i (n : Nat) (h : n < 4294967296) : IntKind.u32.wrap (bits BinOp.and IntKind.u32 (n : Int) 4095 * 2 ^ min 20 IntKind.u32.bits) = (pk 0 0 0 0 (n % 32) (n / 32 % 128) : Nat) := by
  rw [and_lit n 12 20 4095 (by decide) h (by decide) (by decide)]; unfold pk; omega
theorem d_u (n : Nat) (h : n < 4294967296) : bits BinOp.andNot IntKind.u32 (n : Int) 4095 = (pk 0 0 (n / 4096 % 8) (n / 32768 % 32) (n / 1048576 % 32) (n / 33554432) : Nat) := by
  rw [clr12 n h, p_u]
theorem orP {a rd f3 r1 r2 f7 a' rd' f3' r1' r2' f7' : Nat} (h : PkB a rd f3 r1 r2 f7) (h' : PkB a' rd' f3' r1' r2' f7') :
    bits BinOp.or IntKind.u32 (pk a rd f3 r1 r2 f7 : Nat) (pk a' rd' f3' r1' r2' f7' : Nat) = (pk (a ||| a') (rd ||| rd') (f3 ||| f3') (r1 ||| r1') (r2 ||| r2') (f7 ||| f7') : Nat) := by
  rw [raw_or _ _ (pk_lt h) (pk_lt h'), pk_or ⟨h.a, h.rd, h.f3, h.r1, h.r2⟩ ⟨h'.a, h'.rd, h'.f3, h'.r1, h'.r2⟩]
theorem word_lt {t : T5} (h : valid t) : word t < 4294967296 := by rw [← lay_word h]; exact layT_lt t
theorem rdecV {z : Int} (h : 0 ≤ z ∧ z < 4294967296) (H : Hp) : AC Tryd.prog 11 [u32 z] H (fun v H' => ∃ x : Nat, v = insB (dec x) ∧ H' = H) := by
  obtain ⟨x, rfl, hx⟩ := as_u32 h
  refine (rdec1 x hx H).mono ?_
  rintro v H' ⟨rfl, rfl⟩
  exact ⟨_, rfl, rfl⟩
theorem wv_U {op : Int} {rd : Nat} {im : Int} (g : op = 1 ∨ op = 2) (hd : rd < 32) : bits BinOp.or IntKind.u32 (bits BinOp.or IntKind.u32 (bits BinOp.or IntKind.u32 (base op : Nat) (IntKind.u32.wrap (((un (rd : Int) : Nat) : Int) * 2 ^ min 7 IntKind.u32.bits))) (IntKind.u32.wrap (((un ((0 : Nat) : Int) : Nat) : Int) * 2 ^ min 15 IntKind.u32.bits))) (bits BinOp.andNot IntKind.u32 (un im : Nat) 4095) = (pk (opc op) rd (un im / 4096 % 8) (un im / 32768 % 32) (un im / 1048576 % 32) (un im / 33554432) : Nat) := by
  obtain ⟨f1, f2, f3, f4⟩ := fr_U g
  obtain ⟨ba, b3, b7, b2⟩ := opB op
  have hn := un_lt im
  unfold base
  rw [f2, f3, f4, d_rd rd hd, d_r1 0 (by decide), d_u _ hn, orP (by constructor <;> omega) (by constructor <;> omega)]
  simp only [Nat.or_zero, Nat.zero_or]
  rw [orP (by constructor <;> omega) (by constructor <;> omega)]
  simp only [Nat.or_zero, Nat.zero_or]
  rw [orP (by constructor <;> omega) (by constructor <;> omega)]
  simp only [Nat.or_zero, Nat.zero_or]
theorem wv_J {rd : Nat} {im : Int} (hd : rd < 32) : bits BinOp.or IntKind.u32 (bits BinOp.or IntKind.u32 (bits BinOp.or IntKind.u32 (base 3 : Nat) (IntKind.u32.wrap (((un (rd : Int) : Nat) : Int) * 2 ^ min 7 IntKind.u32.bits))) (IntKind.u32.wrap (((un ((0 : Nat) : Int) : Nat) : Int) * 2 ^ min 15 IntKind.u32.bits)))
    (bits BinOp.or IntKind.u32 (bits BinOp.or IntKind.u32 (bits BinOp.or IntKind.u32 (IntKind.u32.wrap (bits BinOp.and IntKind.u32 ((un im : Int).fdiv (2 ^ min 20 IntKind.u32.bits)) 1 * 2 ^ min 31 IntKind.u32.bits)) (IntKind.u32.wrap (bits BinOp.and IntKind.u32 ((un im : Int).fdiv (2 ^ min 1 IntKind.u32.bits)) 1023 * 2 ^ min 21 IntKind.u32.bits))) (IntKind.u32.wrap (bits BinOp.and IntKind.u32 ((un im : Int).fdiv (2 ^ min 11 IntKind.u32.bits)) 1 * 2 ^ min 20 IntKind.u32.bits))) (IntKind.u32.wrap (bits BinOp.and IntKind.u32 ((un im : Int).fdiv (2 ^ min 12 IntKind.u32.bits)) 255 * 2 ^ min 12 IntKind.u32.bits)))
    = (pk (opc 3) rd (un im / 4096 % 8) (un im / 32768 % 32) (un im / 2048 % 2 + un im / 2 % 16 * 2) (un im / 32 % 64 + un im / 1048576 % 2 * 64) : Nat) := by
  obtain ⟨f1, f2, f3, f4⟩ := fr_J
  obtain ⟨ba, b3, b7, b2⟩ := opB 3
  have hn := un_lt im
  unfold base
  rw [f2, f3, f4, d_rd rd hd, d_r1 0 (by decide), d_j1 _ hn, d_j2 _ hn, d_j3 _ hn, d_j4 _ hn]
  rw [orP (by constructor <;> omega) (by constructor <;> omega)]
  simp only [Nat.or_zero, Nat.zero_or]
  rw [orP (by constructor <;> omega) (by constructor <;> omega)]
  simp only [Nat.or_zero, Nat.zero_or]
  rw [orP (by constructor <;> omega) (by constructor <;> omega)]
  simp only [Nat.or_zero, Nat.zero_or]
  rw [Nat.or_comm (un im / 1048576 % 2 * 64), or_six _ _ (by omega)]
  rw [orP (by constructor <;> omega) (by constructor <;> omega)]
  simp only [Nat.or_zero, Nat.zero_or]
  rw [Nat.or_comm (un im / 2 % 16 * 2), or_bit _ _ (by omega)]
  rw [orP (by constructor <;> omega) (by constructor <;> omega)]
  simp only [Nat.or_zero, Nat.zero_or]
  rw [orP (by constructor <;> omega) (by constructor <;> omega)]
  simp only [Nat.or_zero, Nat.zero_or]
theorem wv_I {op : Int} {rd r1 : Nat} {im : Int} (f3 : op7 op = 0) (f4 : op2 op = 0) (hd : rd < 32) (h1 : r1 < 32) : bits BinOp.or IntKind.u32 (bits BinOp.or IntKind.u32 (bits BinOp.or IntKind.u32 (base op : Nat) (IntKind.u32.wrap (((un (rd : Int) : Nat) : Int) * 2 ^ min 7 IntKind.u32.bits))) (IntKind.u32.wrap (((un (r1 : Int) : Nat) : Int) * 2 ^ min 15 IntKind.u32.bits))) (IntKind.u32.wrap (bits BinOp.and IntKind.u32 (un im : Nat) 4095 * 2 ^ min 20 IntKind.u32.bits))
    = (pk (opc op) rd (op3 op) r1 (un im % 32) (un im / 32 % 128) : Nat) := by
  obtain ⟨ba, b3, b7, b2⟩ := opB op
  have hn := un_lt im
  unfold base
  rw [f3, f4, d_rd rd hd, d_r1 r1 h1, d_i _ hn]
  rw [orP (by constructor <;> omega) (by constructor <;> omega)]
  simp only [Nat.or_zero, Nat.zero_or]
  rw [orP (by constructor <;> omega) (by constructor <;> omega)]
  simp only [Nat.or_zero, Nat.zero_or]
  rw [orP (by constructor <;> omega) (by constructor <;> omega)]
  simp only [Nat.or_zero, Nat.zero_or]
theorem wv_B {op : Int} {r1 r2 : Nat} {im : Int} (f3 : op7 op = 0) (f4 : op2 op = 0) (h1 : r1 < 32) (h2 : r2 < 32) : bits BinOp.or IntKind.u32 (bits BinOp.or IntKind.u32 (bits BinOp.or IntKind.u32 (base op : Nat) (IntKind.u32.wrap (((un ((0 : Nat) : Int) : Nat) : Int) * 2 ^ min 7 IntKind.u32.bits))) (IntKind.u32.wrap (((un (r1 : Int) : Nat) : Int) * 2 ^ min 15 IntKind.u32.bits)))
    (bits BinOp.or IntKind.u32 (bits BinOp.or IntKind.u32 (bits BinOp.or IntKind.u32 (bits BinOp.or IntKind.u32 (IntKind.u32.wrap (bits BinOp.and IntKind.u32 ((un im : Int).fdiv (2 ^ min 12 IntKind.u32.bits)) 1 * 2 ^ min 31 IntKind.u32.bits)) (IntKind.u32.wrap (bits BinOp.and IntKind.u32 ((un im : Int).fdiv (2 ^ min 5 IntKind.u32.bits)) 63 * 2 ^ min 25 IntKind.u32.bits))) (IntKind.u32.wrap (bits BinOp.and IntKind.u32 ((un im : Int).fdiv (2 ^ min 1 IntKind.u32.bits)) 15 * 2 ^ min 8 IntKind.u32.bits))) (IntKind.u32.wrap (bits BinOp.and IntKind.u32 ((un im : Int).fdiv (2 ^ min 11 IntKind.u32.bits)) 1 * 2 ^ min 7 IntKind.u32.bits))) (IntKind.u32.wrap (((un (r2 : Int) : Nat) : Int) * 2 ^ min 20 IntKind.u32.bits)))
    = (pk (opc op) (un im / 2048 % 2 + un im / 2 % 16 * 2) (op3 op) r1 r2 (un im / 32 % 64 + un im / 4096 % 2 * 64) : Nat) := by
  obtain ⟨ba, b3, b7, b2⟩ := opB op
  have hn := un_lt im
  unfold base
  rw [f3, f4, d_rd 0 (by decide), d_r1 r1 h1, d_r2 r2 h2, d_b1 _ hn, d_b2 _ hn, d_b3 _ hn, d_b4 _ hn]
  rw [orP (by constructor <;> omega) (by constructor <;> omega)]
  simp only [Nat.or_zero, Nat.zero_or]
  rw [orP (by constructor <;> omega) (by constructor <;> omega)]
  simp only [Nat.or_zero, Nat.zero_or]
  rw [orP (by constructor <;> omega) (by constructor <;> omega)]
  simp only [Nat.or_zero, Nat.zero_or]
  rw [Nat.or_comm (un im / 4096 % 2 * 64), or_six _ _ (by omega)]
  rw [orP (by constructor <;> omega) (by constructor <;> omega)]
  simp only [Nat.or_zero, Nat.zero_or]
  rw [orP (by constructor <;> omega) (by constructor <;> omega)]
  simp only [Nat.or_zero, Nat.zero_or]
  rw [Nat.or_comm (un im / 2 % 16 * 2), or_bit _ _ (by omega)]
  rw [orP (by constructor <;> omega) (by constructor <;> omega)]
  simp only [Nat.or_zero, Nat.zero_or]
  rw [orP (by constructor <;> omega) (by constructor <;> omega)]
  simp only [Nat.or_zero, Nat.zero_or]
theorem wv_S {op : Int} {r1 r2 : Nat} {im : Int} (f3 : op7 op = 0) (f4 : op2 op = 0) (h1 : r1 < 32) (h2 : r2 < 32) : bits BinOp.or IntKind.u32 (bits BinOp.or IntKind.u32 (bits BinOp.or IntKind.u32 (base op : Nat) (IntKind.u32.wrap (((un ((0 : Nat) : Int) : Nat) : Int) * 2 ^ min 7 IntKind.u32.bits))) (IntKind.u32.wrap (((un (r1 : Int) : Nat) : Int) * 2 ^ min 15 IntKind.u32.bits)))
    (bits BinOp.or IntKind.u32 (bits BinOp.or IntKind.u32 (IntKind.u32.wrap (bits BinOp.and IntKind.u32 ((un im : Int).fdiv (2 ^ min 5 IntKind.u32.bits)) 127 * 2 ^ min 25 IntKind.u32.bits)) (IntKind.u32.wrap (bits BinOp.and IntKind.u32 (un im : Nat) 31 * 2 ^ min 7 IntKind.u32.bits))) (IntKind.u32.wrap (((un (r2 : Int) : Nat) : Int) * 2 ^ min 20 IntKind.u32.bits)))
    = (pk (opc op) (un im % 32) (op3 op) r1 r2 (un im / 32 % 128) : Nat) := by
  obtain ⟨ba, b3, b7, b2⟩ := opB op
  have hn := un_lt im
  unfold base
  rw [f3, f4, d_rd 0 (by decide), d_r1 r1 h1, d_r2 r2 h2, d_s1 _ hn, d_s2 _ hn]
  rw [orP (by constructor <;> omega) (by constructor <;> omega)]
  simp only [Nat.or_zero, Nat.zero_or]
  rw [orP (by constructor <;> omega) (by constructor <;> omega)]
  simp only [Nat.or_zero, Nat.zero_or]
  rw [orP (by constructor <;> omega) (by constructor <;> omega)]
  simp only [Nat.or_zero, Nat.zero_or]
  rw [orP (by constructor <;> omega) (by constructor <;> omega)]
  simp only [Nat.or_zero, Nat.zero_or]
  rw [orP (by constructor <;> omega) (by constructor <;> omega)]
  simp only [Nat.or_zero, Nat.zero_or]
theorem wv_H {op : Int} {rd r1 : Nat} {im : Int} (f4 : op2 op = 0) (hd : rd < 32) (h1 : r1 < 32) : bits BinOp.or IntKind.u32 (bits BinOp.or IntKind.u32 (bits BinOp.or IntKind.u32 (base op : Nat) (IntKind.u32.wrap (((un (rd : Int) : Nat) : Int) * 2 ^ min 7 IntKind.u32.bits))) (IntKind.u32.wrap (((un (r1 : Int) : Nat) : Int) * 2 ^ min 15 IntKind.u32.bits))) (IntKind.u32.wrap (bits BinOp.and IntKind.u32 (un im : Nat) 31 * 2 ^ min 20 IntKind.u32.bits))
    = (pk (opc op) rd (op3 op) r1 (un im % 32) (op7 op) : Nat) := by
  obtain ⟨ba, b3, b7, b2⟩ := opB op
  have hn := un_lt im
  unfold base
  rw [f4, d_rd rd hd, d_r1 r1 h1, d_h _ hn]
  rw [orP (by constructor <;> omega) (by constructor <;> omega)]
  simp only [Nat.or_zero, Nat.zero_or]
  rw [orP (by constructor <;> omega) (by constructor <;> omega)]
  simp only [Nat.or_zero, Nat.zero_or]
  rw [orP (by constructor <;> omega) (by constructor <;> omega)]
  simp only [Nat.or_zero, Nat.zero_or]
theorem wv_R {op : Int} {rd r1 r2 : Nat} (f4 : op2 op = 0) (hd : rd < 32) (h1 : r1 < 32) (h2 : r2 < 32) : bits BinOp.or IntKind.u32 (bits BinOp.or IntKind.u32 (bits BinOp.or IntKind.u32 (base op : Nat) (IntKind.u32.wrap (((un (rd : Int) : Nat) : Int) * 2 ^ min 7 IntKind.u32.bits))) (IntKind.u32.wrap (((un (r1 : Int) : Nat) : Int) * 2 ^ min 15 IntKind.u32.bits))) (IntKind.u32.wrap (((un (r2 : Int) : Nat) : Int) * 2 ^ min 20 IntKind.u32.bits))
    = (pk (opc op) rd (op3 op) r1 r2 (op7 op) : Nat) := by
  obtain ⟨ba, b3, b7, b2⟩ := opB op
  unfold base
  rw [f4, d_rd rd hd, d_r1 r1 h1, d_r2 r2 h2]
  rw [orP (by constructor <;> omega) (by constructor <;> omega)]
  simp only [Nat.or_zero, Nat.zero_or]
  rw [orP (by constructor <;> omega) (by constructor <;> omega)]
  simp only [Nat.or_zero, Nat.zero_or]
  rw [orP (by constructor <;> omega) (by constructor <;> omega)]
  simp only [Nat.or_zero, Nat.zero_or]
theorem wv_N {op : Int} : bits BinOp.or IntKind.u32 (bits BinOp.or IntKind.u32 (base op : Nat) (IntKind.u32.wrap (((un ((0 : Nat) : Int) : Nat) : Int) * 2 ^ min 7 IntKind.u32.bits))) (IntKind.u32.wrap (((un ((0 : Nat) : Int) : Nat) : Int) * 2 ^ min 15 IntKind.u32.bits))
    = (pk (opc op) 0 (op3 op) 0 (op2 op) (op7 op) : Nat) := by
  obtain ⟨ba, b3, b7, b2⟩ := opB op
  unfold base
  rw [d_rd 0 (by decide), d_r1 0 (by decide)]
  rw [orP (by constructor <;> omega) (by constructor <;> omega)]
  simp only [Nat.or_zero, Nat.zero_or]
  rw [orP (by constructor <;> omega) (by constructor <;> omega)]
  simp only [Nat.or_zero, Nat.zero_or]
set_option maxRecDepth 100000 in
set_option maxHeartbeats 4000000 in
theorem rencX (op rd r1 r2 im : Int) (h1 : 1 ≤ op ∧ op ≤ 55) : AC Tryd.prog 14 [.agg (inst op rd r1 r2 im)] [] (Ret (.tup [u32 ((encT (op, rd, r1, r2, im)).1 : Nat), bo (encT (op, rd, r1, r2, im)).2])) := by
  refine AC.clean rfl (AC.of_body dok Tryd.func14 rfl rfl (Nat.le_of_ble_eq_true rfl) ?_)
  conv => whnf
  refine (fmt1 _ _).mono ?_
  rintro v H' ⟨rfl, rfl⟩
  conv => whnf
  rcases fmt_cases op with ⟨g, e⟩ | ⟨g, e⟩ | ⟨g, e⟩ | ⟨g, e⟩ | ⟨g, e⟩ | ⟨g, e⟩ | ⟨g, e⟩ | ⟨g, e⟩ | ⟨g, e⟩ | ⟨g, e⟩
  all_goals try (exfalso; omega)
  all_goals rw [e]
  all_goals conv => whnf
  all_goals repeat' (refine cb_intro (fun h => ?_) (fun h => ?_) <;> simp only [beq_iff_eq, beq_eq_false_iff_ne, bne_iff_ne, bne_eq_false_iff_eq, ne_eq, decide_eq_true_eq, decide_eq_false_iff_not] at h <;> first | (exfalso; omega) | conv => whnf)
  all_goals try (refine ⟨in_ub2, trivial, ?_⟩; refine leafN (t := (op, rd, r1, r2, im)) (fun hv => ?_); obtain ⟨_, _, v1, v2, v3, _⟩ := hv; dsimp only at v1 v2 v3; omega)
  all_goals refine DR.mk ⟨.take 1 (.take 2 (.take 3 (.take 6 (.take 7 (.take 8 (.take 9 (.take 11 (.take 12 (.take 13 (.take 14 (.alt 0 (.take 4 (.alt 5 (.take 10 (.take 15 (.take 16 .done))) .nil)) .nil))))))))))), by decide +kernel, [], ?_⟩
  all_goals conv => whnf
  all_goals refine (codes1 _).mono ?_
  all_goals rintro v H' ⟨rfl, rfl⟩
  all_goals conv => whnf
  all_goals obtain ⟨q, rfl, hq⟩ : ∃ q : Nat, op = (q : Int) + 1 ∧ q < 55 := ⟨(op - 1).toNat, by omega, by omega⟩
  all_goals have eq : IntKind.i64.wrap ((q : Int) + 1 - 1) = (q : Int) := by rw [IntKind.wrap_i64]; omega
  all_goals rw [eq]
  all_goals conv => whnf
  all_goals rw [blt_of hq]
  all_goals conv => whnf
  all_goals rw [show (0 + q) * 1 = q by omega, blt_of hq]
  all_goals conv => whnf
  all_goals rw [code_base q hq]
  all_goals generalize hop : (q : Int) + 1 = op at *
  · by_cases hv : valid (op, rd, r1, r2, im)
    · have hv' := hv
      obtain ⟨v1, v2, hrd, hr1, hr2, hU, hJ, hI, hB, hS, hH, hR, hC, hN⟩ := hv'
      dsimp only at v1 v2 hrd hr1 hr2 hU hJ hI hB hS hH hR hC hN
      obtain ⟨rd, rfl, hrd⟩ := nat_of hrd
      obtain ⟨r1, rfl, hr1⟩ := nat_of hr1
      obtain ⟨r2, rfl, hr2⟩ := nat_of hr2
      have hrd : rd < 32 := by omega
      have hr1 : r1 < 32 := by omega
      have hr2 : r2 < 32 := by omega
      obtain ⟨z1, z2, h⟩ := hU e
      have y1 : r1 = 0 := by omega
      subst y1
      have ew' : word (op, (rd : Int), ((0 : Nat) : Int), (r2 : Int), im) = pk (opc op) rd (un im / 4096 % 8) (un im / 32768 % 32) (un im / 1048576 % 32) (un im / 33554432) := by unfold word; dsimp only [Int.toNat_natCast]; simp [e]
      rw [wrap_un (rd : Int), wrap_un ((0 : Nat) : Int), wrap_un im, wv_U g hrd, ← ew']
      refine (rdec1 _ (word_lt hv) _).mono ?_
      rintro v H' ⟨rfl, rfl⟩
      rw [dec_word hv, encT_pos hv]
      conv => whnf
      rw [show (op != 0) = true by simp; try omega]
      conv => whnf
      rw [show (op == op && ((rd : Int) == (rd : Int) && (((0 : Nat) : Int) == ((0 : Nat) : Int) && ((r2 : Int) == (r2 : Int) && im == im)))) = true by simp]
      conv => whnf
      exact ⟨in_ub2, trivial, rfl, rfl⟩
    · refine (rdecV (range32 _ _ _) _).mono ?_
      rintro v H' ⟨x, rfl, rfl⟩
      rw [encT_neg hv]
      conv => whnf
      by_cases c : (dec x).1 = 0
      · rw [show ((dec x).1 != 0) = false by simpa using c]; conv => whnf
        exact ⟨in_ub2, trivial, rfl, rfl⟩
      rw [show ((dec x).1 != 0) = true by simpa using c]
      conv => whnf
      rw [eq5 (dec x) (op, rd, r1, r2, im), decide_eq_false (dec_ne hv c)]
      conv => whnf
      exact ⟨in_ub2, trivial, rfl, rfl⟩
  · by_cases hv : valid (op, rd, r1, r2, im)
    · have hv' := hv
      obtain ⟨v1, v2, hrd, hr1, hr2, hU, hJ, hI, hB, hS, hH, hR, hC, hN⟩ := hv'
      dsimp only at v1 v2 hrd hr1 hr2 hU hJ hI hB hS hH hR hC hN
      obtain ⟨rd, rfl, hrd⟩ := nat_of hrd
      obtain ⟨r1, rfl, hr1⟩ := nat_of hr1
      obtain ⟨r2, rfl, hr2⟩ := nat_of hr2
      have hrd : rd < 32 := by omega
      have hr1 : r1 < 32 := by omega
      have hr2 : r2 < 32 := by omega
      obtain ⟨z1, z2, h⟩ := hJ e
      have y1 : r1 = 0 := by omega
      subst y1
      subst g
      have ew' : word (3, (rd : Int), ((0 : Nat) : Int), (r2 : Int), im) = pk (opc 3) rd (un im / 4096 % 8) (un im / 32768 % 32) (un im / 2048 % 2 + un im / 2 % 16 * 2) (un im / 32 % 64 + un im / 1048576 % 2 * 64) := by unfold word; dsimp only [Int.toNat_natCast]; simp [e]
      rw [wrap_un (rd : Int), wrap_un ((0 : Nat) : Int), wrap_un im, wv_J hrd, ← ew']
      refine (rdec1 _ (word_lt hv) _).mono ?_
      rintro v H' ⟨rfl, rfl⟩
      rw [dec_word hv, encT_pos hv]
      conv => whnf
      rw [eq5 (3, (rd : Int), ((0 : Nat) : Int), (r2 : Int), im) (3, (rd : Int), ((0 : Nat) : Int), (r2 : Int), im), decide_eq_true rfl]
      conv => whnf
      exact ⟨in_ub2, trivial, rfl, rfl⟩
    · refine (rdecV (range32 _ _ _) _).mono ?_
      rintro v H' ⟨x, rfl, rfl⟩
      rw [encT_neg hv]
      conv => whnf
      by_cases c : (dec x).1 = 0
      · rw [show ((dec x).1 != 0) = false by simpa using c]; conv => whnf
        exact ⟨in_ub2, trivial, rfl, rfl⟩
      rw [show ((dec x).1 != 0) = true by simpa using c]
      conv => whnf
      rw [eq5 (dec x) (op, rd, r1, r2, im), decide_eq_false (dec_ne hv c)]
      conv => whnf
      exact ⟨in_ub2, trivial, rfl, rfl⟩
  · by_cases hv : valid (op, rd, r1, r2, im)
    · have hv' := hv
      obtain ⟨v1, v2, hrd, hr1, hr2, hU, hJ, hI, hB, hS, hH, hR, hC, hN⟩ := hv'
      dsimp only at v1 v2 hrd hr1 hr2 hU hJ hI hB hS hH hR hC hN
      obtain ⟨rd, rfl, hrd⟩ := nat_of hrd
      obtain ⟨r1, rfl, hr1⟩ := nat_of hr1
      obtain ⟨r2, rfl, hr2⟩ := nat_of hr2
      have hrd : rd < 32 := by omega
      have hr1 : r1 < 32 := by omega
      have hr2 : r2 < 32 := by omega
      obtain ⟨f1, f3, f4⟩ := fr_I g
      have ew' : word (op, (rd : Int), (r1 : Int), (r2 : Int), im) = pk (opc op) rd (op3 op) r1 (un im % 32) (un im / 32 % 128) := by unfold word; dsimp only [Int.toNat_natCast]; simp [e]
      rw [wrap_un (rd : Int), wrap_un (r1 : Int), wrap_un im, wv_I f3 f4 hrd hr1, ← ew']
      refine (rdec1 _ (word_lt hv) _).mono ?_
      rintro v H' ⟨rfl, rfl⟩
      rw [dec_word hv, encT_pos hv]
      conv => whnf
      rw [show (op != 0) = true by simp; try omega]
      conv => whnf
      rw [show (op == op && ((rd : Int) == (rd : Int) && ((r1 : Int) == (r1 : Int) && ((r2 : Int) == (r2 : Int) && im == im)))) = true by simp]
      conv => whnf
      exact ⟨in_ub2, trivial, rfl, rfl⟩
    · refine (rdecV (range32 _ _ _) _).mono ?_
      rintro v H' ⟨x, rfl, rfl⟩
      rw [encT_neg hv]
      conv => whnf
      by_cases c : (dec x).1 = 0
      · rw [show ((dec x).1 != 0) = false by simpa using c]; conv => whnf
        exact ⟨in_ub2, trivial, rfl, rfl⟩
      rw [show ((dec x).1 != 0) = true by simpa using c]
      conv => whnf
      rw [eq5 (dec x) (op, rd, r1, r2, im), decide_eq_false (dec_ne hv c)]
      conv => whnf
      exact ⟨in_ub2, trivial, rfl, rfl⟩
  · by_cases hv : valid (op, rd, r1, r2, im)
    · have hv' := hv
      obtain ⟨v1, v2, hrd, hr1, hr2, hU, hJ, hI, hB, hS, hH, hR, hC, hN⟩ := hv'
      dsimp only at v1 v2 hrd hr1 hr2 hU hJ hI hB hS hH hR hC hN
      obtain ⟨rd, rfl, hrd⟩ := nat_of hrd
      obtain ⟨r1, rfl, hr1⟩ := nat_of hr1
      obtain ⟨r2, rfl, hr2⟩ := nat_of hr2
      have hrd : rd < 32 := by omega
      have hr1 : r1 < 32 := by omega
      have hr2 : r2 < 32 := by omega
      obtain ⟨z1, h⟩ := hB e
      have y1 : rd = 0 := by omega
      subst y1
      obtain ⟨f1, f3, f4⟩ := fr_B g
      have ew' : word (op, ((0 : Nat) : Int), (r1 : Int), (r2 : Int), im) = pk (opc op) (un im / 2048 % 2 + un im / 2 % 16 * 2) (op3 op) r1 r2 (un im / 32 % 64 + un im / 4096 % 2 * 64) := by unfold word; dsimp only [Int.toNat_natCast]; simp [e]
      rw [wrap_un ((0 : Nat) : Int), wrap_un (r1 : Int), wrap_un (r2 : Int), wrap_un im, wv_B f3 f4 hr1 hr2, ← ew']
      refine (rdec1 _ (word_lt hv) _).mono ?_
      rintro v H' ⟨rfl, rfl⟩
      rw [dec_word hv, encT_pos hv]
      conv => whnf
      rw [show (op != 0) = true by simp; try omega]
      conv => whnf
      rw [show (op == op && (((0 : Nat) : Int) == ((0 : Nat) : Int) && ((r1 : Int) == (r1 : Int) && ((r2 : Int) == (r2 : Int) && im == im)))) = true by simp]
      conv => whnf
      exact ⟨in_ub2, trivial, rfl, rfl⟩
    · refine (rdecV (range32 _ _ _) _).mono ?_
      rintro v H' ⟨x, rfl, rfl⟩
      rw [encT_neg hv]
      conv => whnf
      by_cases c : (dec x).1 = 0
      · rw [show ((dec x).1 != 0) = false by simpa using c]; conv => whnf
        exact ⟨in_ub2, trivial, rfl, rfl⟩
      rw [show ((dec x).1 != 0) = true by simpa using c]
      conv => whnf
      rw [eq5 (dec x) (op, rd, r1, r2, im), decide_eq_false (dec_ne hv c)]
      conv => whnf
      exact ⟨in_ub2, trivial, rfl, rfl⟩
  · by_cases hv : valid (op, rd, r1, r2, im)
    · have hv' := hv
      obtain ⟨v1, v2, hrd, hr1, hr2, hU, hJ, hI, hB, hS, hH, hR, hC, hN⟩ := hv'
      dsimp only at v1 v2 hrd hr1 hr2 hU hJ hI hB hS hH hR hC hN
      obtain ⟨rd, rfl, hrd⟩ := nat_of hrd
      obtain ⟨r1, rfl, hr1⟩ := nat_of hr1
      obtain ⟨r2, rfl, hr2⟩ := nat_of hr2
      have hrd : rd < 32 := by omega
      have hr1 : r1 < 32 := by omega
      have hr2 : r2 < 32 := by omega
      obtain ⟨z1, h⟩ := hS e
      have y1 : rd = 0 := by omega
      subst y1
      obtain ⟨f1, f3, f4⟩ := fr_S g
      have ew' : word (op, ((0 : Nat) : Int), (r1 : Int), (r2 : Int), im) = pk (opc op) (un im % 32) (op3 op) r1 r2 (un im / 32 % 128) := by unfold word; dsimp only [Int.toNat_natCast]; simp [e]
      rw [wrap_un ((0 : Nat) : Int), wrap_un (r1 : Int), wrap_un (r2 : Int), wrap_un im, wv_S f3 f4 hr1 hr2, ← ew']
      refine (rdec1 _ (word_lt hv) _).mono ?_
      rintro v H' ⟨rfl, rfl⟩
      rw [dec_word hv, encT_pos hv]
      conv => whnf
      rw [show (op != 0) = true by simp; try omega]
      conv => whnf
      rw [show (op == op && (((0 : Nat) : Int) == ((0 : Nat) : Int) && ((r1 : Int) == (r1 : Int) && ((r2 : Int) == (r2 : Int) && im == im)))) = true by simp]
      conv => whnf
      exact ⟨in_ub2, trivial, rfl, rfl⟩
    · refine (rdecV (range32 _ _ _) _).mono ?_
      rintro v H' ⟨x, rfl, rfl⟩
      rw [encT_neg hv]
      conv => whnf
      by_cases c : (dec x).1 = 0
      · rw [show ((dec x).1 != 0) = false by simpa using c]; conv => whnf
        exact ⟨in_ub2, trivial, rfl, rfl⟩
      rw [show ((dec x).1 != 0) = true by simpa using c]
      conv => whnf
      rw [eq5 (dec x) (op, rd, r1, r2, im), decide_eq_false (dec_ne hv c)]
      conv => whnf
      exact ⟨in_ub2, trivial, rfl, rfl⟩
  · by_cases hv : valid (op, rd, r1, r2, im)
    · have hv' := hv
      obtain ⟨v1, v2, hrd, hr1, hr2, hU, hJ, hI, hB, hS, hH, hR, hC, hN⟩ := hv'
      dsimp only at v1 v2 hrd hr1 hr2 hU hJ hI hB hS hH hR hC hN
      obtain ⟨rd, rfl, hrd⟩ := nat_of hrd
      obtain ⟨r1, rfl, hr1⟩ := nat_of hr1
      obtain ⟨r2, rfl, hr2⟩ := nat_of hr2
      have hrd : rd < 32 := by omega
      have hr1 : r1 < 32 := by omega
      have hr2 : r2 < 32 := by omega
      obtain ⟨f1, f4⟩ := fr_H g
      have ew' : word (op, (rd : Int), (r1 : Int), (r2 : Int), im) = pk (opc op) rd (op3 op) r1 (un im % 32) (op7 op) := by unfold word; dsimp only [Int.toNat_natCast]; simp [e]
      rw [wrap_un (rd : Int), wrap_un (r1 : Int), wrap_un im, wv_H f4 hrd hr1, ← ew']
      refine (rdec1 _ (word_lt hv) _).mono ?_
      rintro v H' ⟨rfl, rfl⟩
      rw [dec_word hv, encT_pos hv]
      conv => whnf
      rw [show (op != 0) = true by simp; try omega]
      conv => whnf
      rw [show (op == op && ((rd : Int) == (rd : Int) && ((r1 : Int) == (r1 : Int) && ((r2 : Int) == (r2 : Int) && im == im)))) = true by simp]
      conv => whnf
      exact ⟨in_ub2, trivial, rfl, rfl⟩
    · refine (rdecV (range32 _ _ _) _).mono ?_
      rintro v H' ⟨x, rfl, rfl⟩
      rw [encT_neg hv]
      conv => whnf
      by_cases c : (dec x).1 = 0
      · rw [show ((dec x).1 != 0) = false by simpa using c]; conv => whnf
        exact ⟨in_ub2, trivial, rfl, rfl⟩
      rw [show ((dec x).1 != 0) = true by simpa using c]
      conv => whnf
      rw [eq5 (dec x) (op, rd, r1, r2, im), decide_eq_false (dec_ne hv c)]
      conv => whnf
      exact ⟨in_ub2, trivial, rfl, rfl⟩
  · by_cases hv : valid (op, rd, r1, r2, im)
    · have hv' := hv
      obtain ⟨v1, v2, hrd, hr1, hr2, hU, hJ, hI, hB, hS, hH, hR, hC, hN⟩ := hv'
      dsimp only at v1 v2 hrd hr1 hr2 hU hJ hI hB hS hH hR hC hN
      obtain ⟨rd, rfl, hrd⟩ := nat_of hrd
      obtain ⟨r1, rfl, hr1⟩ := nat_of hr1
      obtain ⟨r2, rfl, hr2⟩ := nat_of hr2
      have hrd : rd < 32 := by omega
      have hr1 : r1 < 32 := by omega
      have hr2 : r2 < 32 := by omega
      obtain ⟨f1, f4⟩ := fr_R g
      have ew' : word (op, (rd : Int), (r1 : Int), (r2 : Int), im) = pk (opc op) rd (op3 op) r1 r2 (op7 op) := by unfold word; dsimp only [Int.toNat_natCast]; simp [e]
      rw [wrap_un (rd : Int), wrap_un (r1 : Int), wrap_un (r2 : Int), wv_R f4 hrd hr1 hr2, ← ew']
      refine (rdec1 _ (word_lt hv) _).mono ?_
      rintro v H' ⟨rfl, rfl⟩
      rw [dec_word hv, encT_pos hv]
      conv => whnf
      rw [show (op != 0) = true by simp; try omega]
      conv => whnf
      rw [show (op == op && ((rd : Int) == (rd : Int) && ((r1 : Int) == (r1 : Int) && ((r2 : Int) == (r2 : Int) && im == im)))) = true by simp]
      conv => whnf
      exact ⟨in_ub2, trivial, rfl, rfl⟩
    · refine (rdecV (range32 _ _ _) _).mono ?_
      rintro v H' ⟨x, rfl, rfl⟩
      rw [encT_neg hv]
      conv => whnf
      by_cases c : (dec x).1 = 0
      · rw [show ((dec x).1 != 0) = false by simpa using c]; conv => whnf
        exact ⟨in_ub2, trivial, rfl, rfl⟩
      rw [show ((dec x).1 != 0) = true by simpa using c]
      conv => whnf
      rw [eq5 (dec x) (op, rd, r1, r2, im), decide_eq_false (dec_ne hv c)]
      conv => whnf
      exact ⟨in_ub2, trivial, rfl, rfl⟩
  · by_cases hv : valid (op, rd, r1, r2, im)
    · have hv' := hv
      obtain ⟨v1, v2, hrd, hr1, hr2, hU, hJ, hI, hB, hS, hH, hR, hC, hN⟩ := hv'
      dsimp only at v1 v2 hrd hr1 hr2 hU hJ hI hB hS hH hR hC hN
      obtain ⟨rd, rfl, hrd⟩ := nat_of hrd
      obtain ⟨r1, rfl, hr1⟩ := nat_of hr1
      obtain ⟨r2, rfl, hr2⟩ := nat_of hr2
      have hrd : rd < 32 := by omega
      have hr1 : r1 < 32 := by omega
      have hr2 : r2 < 32 := by omega
      obtain ⟨f1, f3, f4⟩ := fr_C g
      have ew' : word (op, (rd : Int), (r1 : Int), (r2 : Int), im) = pk (opc op) rd (op3 op) r1 (un im % 32) (un im / 32 % 128) := by unfold word; dsimp only [Int.toNat_natCast]; simp [e]
      rw [wrap_un (rd : Int), wrap_un (r1 : Int), wrap_un im, wv_I f3 f4 hrd hr1, ← ew']
      refine (rdec1 _ (word_lt hv) _).mono ?_
      rintro v H' ⟨rfl, rfl⟩
      rw [dec_word hv, encT_pos hv]
      conv => whnf
      rw [show (op != 0) = true by simp; try omega]
      conv => whnf
      rw [show (op == op && ((rd : Int) == (rd : Int) && ((r1 : Int) == (r1 : Int) && ((r2 : Int) == (r2 : Int) && im == im)))) = true by simp]
      conv => whnf
      exact ⟨in_ub2, trivial, rfl, rfl⟩
    · refine (rdecV (range32 _ _ _) _).mono ?_
      rintro v H' ⟨x, rfl, rfl⟩
      rw [encT_neg hv]
      conv => whnf
      by_cases c : (dec x).1 = 0
      · rw [show ((dec x).1 != 0) = false by simpa using c]; conv => whnf
        exact ⟨in_ub2, trivial, rfl, rfl⟩
      rw [show ((dec x).1 != 0) = true by simpa using c]
      conv => whnf
      rw [eq5 (dec x) (op, rd, r1, r2, im), decide_eq_false (dec_ne hv c)]
      conv => whnf
      exact ⟨in_ub2, trivial, rfl, rfl⟩
  · by_cases hv : valid (op, rd, r1, r2, im)
    · have hv' := hv
      obtain ⟨v1, v2, hrd, hr1, hr2, hU, hJ, hI, hB, hS, hH, hR, hC, hN⟩ := hv'
      dsimp only at v1 v2 hrd hr1 hr2 hU hJ hI hB hS hH hR hC hN
      obtain ⟨rd, rfl, hrd⟩ := nat_of hrd
      obtain ⟨r1, rfl, hr1⟩ := nat_of hr1
      obtain ⟨r2, rfl, hr2⟩ := nat_of hr2
      have hrd : rd < 32 := by omega
      have hr1 : r1 < 32 := by omega
      have hr2 : r2 < 32 := by omega
      obtain ⟨z1, z2, z3, z4⟩ := hN e
      have y1 : rd = 0 := by omega
      have y2 : r1 = 0 := by omega
      subst y1 y2
      have ew' : word (op, ((0 : Nat) : Int), ((0 : Nat) : Int), (r2 : Int), im) = pk (opc op) 0 (op3 op) 0 (op2 op) (op7 op) := by unfold word; dsimp only [Int.toNat_natCast]; simp [e]
      rw [wrap_un ((0 : Nat) : Int), wv_N, ← ew']
      refine (rdec1 _ (word_lt hv) _).mono ?_
      rintro v H' ⟨rfl, rfl⟩
      rw [dec_word hv, encT_pos hv]
      conv => whnf
      rw [show (op != 0) = true by simp; try omega]
      conv => whnf
      rw [show (op == op && (((0 : Nat) : Int) == ((0 : Nat) : Int) && (((0 : Nat) : Int) == ((0 : Nat) : Int) && ((r2 : Int) == (r2 : Int) && im == im)))) = true by simp]
      conv => whnf
      exact ⟨in_ub2, trivial, rfl, rfl⟩
    · refine (rdecV (range32 _ _ _) _).mono ?_
      rintro v H' ⟨x, rfl, rfl⟩
      rw [encT_neg hv]
      conv => whnf
      by_cases c : (dec x).1 = 0
      · rw [show ((dec x).1 != 0) = false by simpa using c]; conv => whnf
        exact ⟨in_ub2, trivial, rfl, rfl⟩
      rw [show ((dec x).1 != 0) = true by simpa using c]
      conv => whnf
      rw [eq5 (dec x) (op, rd, r1, r2, im), decide_eq_false (dec_ne hv c)]
      conv => whnf
      exact ⟨in_ub2, trivial, rfl, rfl⟩
theorem fmt_none {op : Int} (h : op < 1 ∨ 55 < op) : fmt op = 0 := by
  rcases fmt_cases op with ⟨g, e⟩ | ⟨g, e⟩ | ⟨g, e⟩ | ⟨g, e⟩ | ⟨g, e⟩ | ⟨g, e⟩ | ⟨g, e⟩ | ⟨g, e⟩ | ⟨g, e⟩ | ⟨g, e⟩
  all_goals first | exact e | (exfalso; omega)
theorem renc0 (op rd r1 r2 im : Int) : AC Tryd.prog 14 [.agg (inst op rd r1 r2 im)] [] (Ret (.tup [u32 ((encT (op, rd, r1, r2, im)).1 : Nat), bo (encT (op, rd, r1, r2, im)).2])) := by
  by_cases h : 1 ≤ op ∧ op ≤ 55
  · exact rencX op rd r1 r2 im h
  refine AC.clean rfl (AC.of_body dok Tryd.func14 rfl rfl (Nat.le_of_ble_eq_true rfl) ?_)
  conv => whnf
  refine (fmt1 _ _).mono ?_
  rintro v H' ⟨rfl, rfl⟩
  rw [fmt_none (by omega)]
  conv => whnf
  exact ⟨in_ub2, trivial, leafN (fun hv => h (valid_op hv))⟩
theorem renc1 (t : T5) (H : Hp) : AC Tryd.prog 14 [.agg (ins t)] H (RetH H (.tup [u32 ((encT t).1 : Nat), bo (encT t).2])) := (renc0 t.1 t.2.1 t.2.2.1 t.2.2.2.1 t.2.2.2.2).anyH rfl rfl H
end Go.Proofs.YtjfbpnfegeimfaaDoor.Md
