/- The assembler's functions. -/
import Derived.Test.YtgglclmilocgcaaGreatDoorRa
set_option linter.unusedVariables false
set_option linter.unusedSimpArgs false
namespace Go.Proofs.YtgglclmilocgcaaGreatDoor.Md
open Go.RowKit Go.Proofs.YtgglclmilocgcaaGreatDoor.Ae Go.Proofs.YtgglclmilocgcaaGreatDoor.Bv Go.Proofs.YtgglclmilocgcaaGreatDoor
theorem nm_inj2 : ∀ i, i < 55 → ∀ j, j < 55 → nmL.getD (i + 1) [] = nmL.getD (j + 1) [] → i = j := by decide +kernel
theorem nm_inj {a b : Nat} (ha : 1 ≤ a ∧ a ≤ 55) (hb : 1 ≤ b ∧ b ≤ 55) (h : nm (a : Int) = nm (b : Int)) : a = b := by
  have := nm_inj2 (a - 1) (by omega) (b - 1) (by omega) (by rw [show a - 1 + 1 = a by omega, show b - 1 + 1 = b by omega]; exact h)
  omega
theorem op_at {k : Nat} (hk : 1 ≤ k ∧ k ≤ 55) : ∀ n, n ≤ 55 → 56 - k ≤ n → opAt (ba (nm (k : Int))) n = k
  | 0, _, h => by omega
  | n + 1, h1, h2 => by
    rw [opAt, ba_list, ba_list]
    by_cases e : 55 - n = k
    · rw [e, if_pos (beq_self_eq_true _)]
    · rw [if_neg (by simp only [beq_iff_eq]; exact fun q => e (nm_inj (by omega) hk q))]
      exact op_at hk n (by omega) (by omega)
theorem op_name {k : Nat} (hk : 1 ≤ k ∧ k ≤ 55) : opF (ba (nm (k : Int))) = k := op_at hk 55 (Nat.le_refl _) (by omega)
theorem op_addi : opF (ba [97, 100, 100, 105]) = 19 := op_name (k := 19) (by omega)
theorem op_none {s : List UInt8} (h : ∀ j, j < 55 → nmL.getD (j + 1) [] ≠ s) : ∀ n, n ≤ 55 → opAt (ba s) n = 0
  | 0, _ => rfl
  | n + 1, h1 => by
    have h2 := h (55 - n - 1) (by omega)
    rw [show 55 - n - 1 + 1 = 55 - n by omega] at h2
    rw [opAt, ba_list, ba_list, if_neg (by simp only [beq_iff_eq]; exact h2)]
    exact op_none h n (by omega)
theorem n_x0 : numF (ba [120, 48]) = 0 := by decide +kernel
theorem n_0 : numF (ba [48]) = 0 := by decide +kernel
theorem n_x1 : numF (ba [120, 49]) = 1 := by decide +kernel
theorem n_x2 : numF (ba [120, 50]) = 2 := by decide +kernel
theorem n_m3 : numF (ba [45, 51]) = -3 := by decide +kernel
theorem it0 : Lib.itoa 0 = [48] := by unfold Lib.itoa; rw [if_neg (by decide)]; exact dec_small (by decide)
theorem it1 : Lib.itoa 1 = [49] := by unfold Lib.itoa; rw [if_neg (by decide)]; exact dec_small (by decide)
theorem it2 : Lib.itoa 2 = [50] := by unfold Lib.itoa; rw [if_neg (by decide)]; exact dec_small (by decide)
theorem itm3 : Lib.itoa (-3) = [45, 51] := by
  unfold Lib.itoa; rw [if_pos (by decide)]; rw [show (-3 : Int).natAbs = 3 from rfl, dec_small (by decide)]; rfl
theorem kv0 : valid (19, 0, 0, 0, 0) := vI (by omega) (by omega) (by omega) (by omega)
theorem kv1 : valid (19, 1, 2, 0, -3) := vI (by omega) (by omega) (by omega) (by omega)
theorem kv2 : ¬ valid (19, 1, 2, -3, 0) := fun h => by
  have := h.2.2.2.2.1
  dsimp only at this
  omega
theorem kw0 : word (19, 0, 0, 0, 0) = 19 := by decide +kernel
theorem kw1 : word (19, 1, 2, 0, -3) = 4291887251 := by decide +kernel
def sa : List UInt8 := [97, 100, 100, 105, 32, 120, 48, 32, 120, 48, 32, 48]
def sd : List UInt8 := [97, 100, 100, 105, 32, 120, 49, 32, 120, 50, 32, 45, 51]
theorem kt0 : txt (19, 0, 0, 0, 0) = sa := by
  unfold txt
  rw [encT_pos kv0, if_neg (fun e => by cases e), if_neg (by decide), if_neg (by decide), if_pos (by decide)]
  dsimp only [rg, sn]
  rw [it0]; rfl
theorem kt1 : txt (19, 1, 2, 0, -3) = sd := by
  unfold txt
  rw [encT_pos kv1, if_neg (fun e => by cases e), if_neg (by decide), if_neg (by decide), if_pos (by decide)]
  dsimp only [rg, sn]
  rw [it1, it2, itm3]; rfl
theorem line_a : lineF (ba sa) = (19, true) := by
  unfold lineF
  rw [show cutB (ba sa) sp = [ba [97, 100, 100, 105], ba [120, 48], ba [120, 48], ba [48]] from by show cutB (ba sa) ⟨#[32]⟩ = _; rw [cutB_eq]; rfl]
  show tryF (ba sa) [(opF (ba [97, 100, 100, 105]), numF (ba [120, 48]), numF (ba [120, 48]), numF (ba [48]), 0), (opF (ba [97, 100, 100, 105]), numF (ba [120, 48]), numF (ba [120, 48]), 0, i32w (numF (ba [48]))), (opF (ba [97, 100, 100, 105]), 0, numF (ba [120, 48]), numF (ba [120, 48]), i32w (numF (ba [48])))] = _
  rw [op_addi, n_x0, n_0]
  rw [tryF, encT_pos kv0, kt0, kw0, ba_list, beq_self_eq_true]
  rfl
theorem line_b : lineF (ba [97, 100, 100, 105]) = (0, false) := by
  unfold lineF
  rw [show cutB (ba [97, 100, 100, 105]) sp = [ba [97, 100, 100, 105]] from by show cutB (ba [97, 100, 100, 105]) ⟨#[32]⟩ = _; rw [cutB_eq]; rfl]
  show tryF (ba [97, 100, 100, 105]) [(opF (ba [97, 100, 100, 105]), 0, 0, 0, 0)] = _
  rw [op_addi, tryF, encT_pos kv0, kt0, ba_list, ba_list, show (sa == [97, 100, 100, 105]) = false from by decide]
  rfl
theorem line_c : lineF (ba [46, 119, 111, 114, 100, 32, 53]) = (5, true) := by
  have := line_wl 5 (by decide)
  rw [show wl 5 = [46, 119, 111, 114, 100, 32, 53] from by unfold wl; rw [dec_small (by decide)]; rfl] at this
  exact this
theorem i32_m3 : i32w (-3) = -3 := by decide +kernel
theorem line_d : lineF (ba sd) = (4291887251, true) := by
  unfold lineF
  rw [show cutB (ba sd) sp = [ba [97, 100, 100, 105], ba [120, 49], ba [120, 50], ba [45, 51]] from by show cutB (ba sd) ⟨#[32]⟩ = _; rw [cutB_eq]; rfl]
  show tryF (ba sd) [(opF (ba [97, 100, 100, 105]), numF (ba [120, 49]), numF (ba [120, 50]), numF (ba [45, 51]), 0), (opF (ba [97, 100, 100, 105]), numF (ba [120, 49]), numF (ba [120, 50]), 0, i32w (numF (ba [45, 51]))), (opF (ba [97, 100, 100, 105]), 0, numF (ba [120, 49]), numF (ba [120, 50]), i32w (numF (ba [45, 51])))] = _
  rw [op_addi, n_x1, n_x2, n_m3, i32_m3]
  rw [tryF, encT_neg kv2, tryF, encT_pos kv1, kt1, kw1, ba_list, beq_self_eq_true]
  rfl
def se : List UInt8 := [110, 111, 110, 115, 101, 110, 115, 101]
theorem line_e : lineF (ba se) = (0, false) := by
  unfold lineF
  rw [show cutB (ba se) sp = [ba se] from by show cutB (ba se) ⟨#[32]⟩ = _; rw [cutB_eq]; rfl]
  show tryF (ba se) [(opF (ba se), 0, 0, 0, 0)] = _
  have : encT (opF (ba se), 0, 0, 0, 0) = (0, false) := by
    rw [show opF (ba se) = 0 from op_none (by decide) 55 (Nat.le_refl _)]
    exact encT_neg fun h => by have := h.1; omega
  rw [tryF, this]
  rfl
theorem dec_k1 : dec 4291887251 = (19, 1, 2, 0, -3) := by rw [← kw1]; exact dec_word kv1
theorem lw_k1 : lw 4291887251 = sd := by
  unfold lw
  rw [dec_k1, kt1]
  exact if_pos line_d
theorem dec_7 : dec 7 = (0, 0, 0, 0, 0) := by decide +kernel
theorem lw_7 : lw 7 = [46, 119, 111, 114, 100, 32, 55] := by
  unfold lw
  rw [dec_7, show txt (0, 0, 0, 0, 0) = [] from by unfold txt; rw [encT_neg fun h => by have := h.1; omega]; rfl, line_nil, if_neg (by decide)]
  unfold wl
  rw [dec_small (by decide)]
  rfl
theorem prog_bad : AC Tryz.prog 6 [.v (.str (ba se))] [] (Ret (.tup [.v .nilS, i64 12])) := by
  refine AC.clean rfl (AC.of_body dok Tryz.func6 rfl rfl (Nat.le_of_ble_eq_true rfl) ?_)
  conv => whnf
  refine aw_scope dok ?_
  conv => whnf
  refine (split2 (ba se) ⟨#[10]⟩ (by decide) (by decide)).mono ?_
  rintro v H' ⟨rfl, rfl⟩
  rw [cutB_eq, show cutL 10 (ba se).data.toList = [se] from rfl]
  conv => whnf
  refine aw_rounds dok 1 ?_
  conv => whnf
  rw [show (((List.map ba [se]).getD (0 + 0) ByteArray.empty).toList == (⟨#[]⟩ : ByteArray).toList) = false from by show ((ba se).toList == (ba []).toList) = false; rw [ba_list, ba_list]; rfl]
  conv => whnf
  refine (line1 (ba se) (by decide) _).mono ?_
  rw [line_e]
  rintro v H' ⟨rfl, rfl⟩
  conv => whnf
  exact ⟨⟨trivial, trivial, trivial⟩, trivial, rfl, rfl⟩
theorem prog_bad1 (H : Hp) : AC Tryz.prog 6 [.v (.str (ba se))] H (RetH H (.tup [.v .nilS, i64 12])) := prog_bad.anyH rfl rfl H
theorem listL_k : listL (([4291887251, 7] : List Int).map Int.toNat) = [97, 100, 100, 105, 32, 120, 49, 32, 120, 50, 32, 45, 51, 10, 46, 119, 111, 114, 100, 32, 55, 10] := by
  show (lw 4291887251 ++ [10]) ++ ((lw 7 ++ [10]) ++ []) = _
  rw [lw_k1, lw_7]
  rfl
theorem str_eq {s : List UInt8} {a : Array UInt8} (h : s.toArray = a) : ((⟨s.toArray⟩ : ByteArray).toList == (⟨a⟩ : ByteArray).toList) = true := by
  subst h; exact beq_self_eq_true _
set_option maxHeartbeats 4000000 in
set_option maxRecDepth 100000 in
theorem known0 : AC Tryz.prog 8 [] [] (Ret (bo true)) := by
  refine AC.clean rfl (AC.of_body dok Tryz.func8 rfl rfl (Nat.le_of_ble_eq_true rfl) ?_)
  conv => whnf
  refine (line1 (ba sa) (by decide) _).mono ?_
  rw [line_a]
  rintro v H' ⟨rfl, rfl⟩
  conv => whnf
  refine (line1 (ba [97, 100, 100, 105]) (by decide) _).mono ?_
  rw [line_b]
  rintro v H' ⟨rfl, rfl⟩
  conv => whnf
  refine (line1 (ba [46, 119, 111, 114, 100, 32, 53]) (by decide) _).mono ?_
  rw [line_c]
  rintro v H' ⟨rfl, rfl⟩
  conv => whnf
  refine (prog0 (ba (sd ++ [10, 10] ++ [46, 119, 111, 114, 100, 32, 55])) (by decide) [some 4291887251, none, some 7] (by decide) (by intro w hw; simp at hw; rcases hw with rfl | rfl <;> decide) (by show cutL 10 (sd ++ [10, 10] ++ [46, 119, 111, 114, 100, 32, 55]) = [lw 4291887251, [], lw 7]; rw [lw_k1, lw_7]; rfl)).mono ?_
  rintro v H' ⟨rfl, rfl⟩
  conv => whnf
  refine (prog_bad1 _).mono ?_
  rintro v H' ⟨rfl, rfl⟩
  conv => whnf
  refine (list1 [4291887251, 7] 2 (by intro x hx; simp at hx; rcases hx with rfl | rfl <;> decide) (by decide) (by decide) (p := 0) rfl rfl).mono ?_
  rintro v H' ⟨rfl, rfl⟩
  obtain ⟨t, ht, et⟩ : ∃ t, listL (([4291887251, 7] : List Int).map Int.toNat) = t ∧ t.toArray = #[97, 100, 100, 105, 32, 120, 49, 32, 120, 50, 32, 45, 51, 10, 46, 119, 111, 114, 100, 32, 55, 10] := ⟨_, rfl, by rw [listL_k]⟩
  rw [ht]
  conv => whnf
  rw [str_eq et]
  conv => whnf
  exact ⟨trivial, trivial, rfl, rfl⟩
theorem known1 (H : Hp) : AC Tryz.prog 8 [] H (RetH H (bo true)) := known0.anyH rfl rfl H
end Go.Proofs.YtgglclmilocgcaaGreatDoor.Md
