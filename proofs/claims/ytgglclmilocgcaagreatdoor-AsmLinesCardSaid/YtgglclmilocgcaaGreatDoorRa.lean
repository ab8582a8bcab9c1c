/- The assembler's functions. -/
import Derived.Test.YtgglclmilocgcaaGreatDoorRw
set_option linter.unusedVariables false
set_option linter.unusedSimpArgs false
namespace Go.Proofs.YtgglclmilocgcaaGreatDoor.Md
open Go.RowKit Go.Proofs.YtgglclmilocgcaaGreatDoor.Ae Go.Proofs.YtgglclmilocgcaaGreatDoor.Bv Go.Proofs.YtgglclmilocgcaaGreatDoor
abbrev uR (x : Int) : Prop := 0 ≤ x ∧ x < 4294967296
/-- A row of words that was put together: nil, or a block. -/
def rowV (p : Nat) : List Int → V
  | [] => .nilS
  | _ :: r => .sl p 0 0 (r.length + 1) 1
def rowH : List Int → Hp
  | [] => []
  | w :: r => [.rw [.ints .u32 (r.length + 1) (w :: r)]]
def wS (n m : Nat) : Nat × Nat × List Int → Sl
  | (i, _, []) => [(0, .v (.sl 0 0 0 n 1)), (1, i64 m), (5, .v (.ptr 1 0 0 0)), (6, .v .nilS), (7, i64 i)]
  | (i, _, _ :: r) => [(0, .v (.sl 0 0 0 n 1)), (1, i64 m), (5, .v (.ptr 1 0 0 0)), (6, .v (.sl 2 0 0 (r.length + 1) 1)), (7, i64 i)]
def wH (n : Nat) (l : List Int) : Nat × Nat × List Int → Hp
  | (_, k, []) => [.ro [.ints .i64 n l], tpB n k]
  | (_, k, w :: r) => [.ro [.ints .i64 n l], tpB n k, .rw [.ints .u32 (r.length + 1) (w :: r)]]
theorem all_snoc {l : List Int} {w : Int} (h : ∀ x ∈ l, uR x) (hw : uR w) : ∀ x ∈ l ++ [w], uR x := by
  intro x hx
  rcases List.mem_append.1 hx with hx | hx
  · exact h x hx
  · rw [List.mem_singleton.1 hx]; exact hw
theorem slqn (p a b : Nat) (h : a = b) : some (AV.v (V.sl p 0 0 b 1)) = some (AV.v (V.sl p 0 0 a 1)) := by rw [h]
set_option maxHeartbeats 4000000 in
theorem raw0 (n : Nat) (l : List Int) (hn : n ≤ 9223372036854775807) (m : Nat) (hm : m ≤ 100) : AC Tryz.prog 5 [.v (.sl 0 0 0 n 1), i64 m] [.ro [.ints .i64 n l]]
    (fun v H => ∃ L : List Int, L.length ≤ m ∧ (∀ x ∈ L, uR x) ∧ v = .v (rowV 1 L) ∧ H = .ro [.ints .i64 n l] :: rowH L) := by
  refine AC.reix rfl (AC.of_body dok Tryz.func5 rfl rfl (Nat.le_of_ble_eq_true rfl) ?_)
  conv => whnf
  refine aw_loopR dok 2 (wS n m) (wH n l) (fun x => x.1 ≤ m ∧ x.2.1 ≤ n ∧ x.2.2.length ≤ x.1 ∧ ∀ y ∈ x.2.2, uR y) (fun x => m - x.1) (0, 0, []) ⟨rfl, rfl, rfl, rfl, rfl, trivial⟩ rfl ⟨Nat.zero_le _, Nat.zero_le _, Nat.le_refl _, by simp⟩ rfl ?_
  rintro ⟨i, k, ws⟩ ⟨hi, hk, hl, hu⟩
  dsimp only at hi hk hl hu
  by_cases c : i < m
  · by_cases c2 : k < n
    · rcases ws with _ | ⟨w0, r⟩
      · conv => whnf
        rw [decide_eq_true (show (i : Int) < m by omega)]; conv => whnf
        rw [decide_eq_true (show (k : Int) < n by omega)]; conv => whnf
        refine (nextZ (p := 1) (n := n) (l := l) (k := k) hk hn (by decide) (Nat.le_of_ble_eq_true rfl) rfl rfl 4 (by decide)).mono ?_
        rintro v H' ⟨r1, k1, hk1, rfl, rfl⟩
        conv => whnf
        by_cases c3 : r1 = 0
        · rw [show (r1 == 0) = true by simpa using c3]; conv => whnf
          refine (wordZ (p := 1) (n := n) (l := l) (k := k1) hk1 hn (by decide) (Nat.le_of_ble_eq_true rfl) rfl rfl).mono ?_
          rintro v H' ⟨w, k2, hw, hk2, rfl, rfl⟩
          conv => whnf
          repeat' (first | exact Nat.le_of_ble_eq_true rfl | exact room_small (Nat.le_of_ble_eq_true rfl) (by decide) | exact ⟨(i + 1, k2, [w]), [0, 1, 3], ⟨c, hk2, by show 1 ≤ i + 1; omega, all_snoc (l := []) (by simp) hw⟩, by show m - (i + 1) < m - i; omega, okN_of (n0 := 2) (by decide), Nat.le_of_ble_eq_true rfl, ⟨⟨_, rfl, .inl rfl⟩, ⟨_, rfl, .inl rfl⟩, ⟨_, rfl, .inr ⟨oks_ints rfl, rfl⟩⟩, trivial⟩, ⟨rfl, rfl, rfl, rfl, gK i (by omega), trivial⟩⟩ | (refine And.intro ?_ ?_ <;> conv => whnf))
        · rw [show (r1 == 0) = false by simpa using c3]; conv => whnf
          refine (instZ2 (p := 1) (n := n) (l := l) (k := k1) hk1 hn (by decide) (Nat.le_of_ble_eq_true rfl) rfl rfl).mono ?_
          rintro v H' ⟨⟨t1, t2, t3, t4, t5⟩, k2, hk2, rfl, rfl⟩
          conv => whnf
          refine (renc1 t1 t2 t3 t4 t5 _).mono ?_
          rintro v H' ⟨⟨w, b, hw0, rfl⟩, rfl⟩
          have hw : uR (w : Int) := ⟨by omega, by omega⟩
          conv => whnf
          repeat' (first | exact Nat.le_of_ble_eq_true rfl | exact room_small (Nat.le_of_ble_eq_true rfl) (by decide) | exact ⟨(i + 1, k2, [(w : Int)]), [0, 1, 3], ⟨c, hk2, by show 1 ≤ i + 1; omega, all_snoc (l := []) (by simp) hw⟩, by show m - (i + 1) < m - i; omega, okN_of (n0 := 2) (by decide), Nat.le_of_ble_eq_true rfl, ⟨⟨_, rfl, .inl rfl⟩, ⟨_, rfl, .inl rfl⟩, ⟨_, rfl, .inr ⟨oks_ints rfl, rfl⟩⟩, trivial⟩, ⟨rfl, rfl, rfl, rfl, gK i (by omega), trivial⟩⟩ | (refine And.intro ?_ ?_ <;> conv => whnf))
      · conv => whnf
        rw [decide_eq_true (show (i : Int) < m by omega)]; conv => whnf
        rw [decide_eq_true (show (k : Int) < n by omega)]; conv => whnf
        have hr : r.length + 1 ≤ i := hl
        refine (nextZ (p := 1) (n := n) (l := l) (k := k) hk hn (by decide) (Nat.le_of_ble_eq_true rfl) rfl rfl 4 (by decide)).mono ?_
        rintro v H' ⟨r1, k1, hk1, rfl, rfl⟩
        conv => whnf
        by_cases c3 : r1 = 0
        · rw [show (r1 == 0) = true by simpa using c3]; conv => whnf
          refine (wordZ (p := 1) (n := n) (l := l) (k := k1) hk1 hn (by decide) (Nat.le_of_ble_eq_true rfl) rfl rfl).mono ?_
          rintro v H' ⟨w, k2, hw, hk2, rfl, rfl⟩
          have hll2 : (r ++ [w]).length + 1 = r.length + 1 + 1 := by simp
          conv => whnf
          repeat' (first | exact Nat.le_of_ble_eq_true rfl | exact len_ints _ _ _ | exact room_small (by omega) (by decide) | exact ⟨(i + 1, k2, w0 :: (r ++ [w])), [0, 1, 4], ⟨c, hk2, by rw [List.length_cons, List.length_append, List.length_singleton]; omega, all_snoc (l := w0 :: r) hu hw⟩, by show m - (i + 1) < m - i; omega, okN_of (n0 := 2) (by decide), Nat.le_of_ble_eq_true rfl, ⟨⟨_, rfl, .inl rfl⟩, ⟨_, rfl, .inl rfl⟩, ⟨_, rfl, .inr ⟨oks_ints rfl, rfl⟩⟩, trivial⟩, ⟨rfl, rfl, rfl, slqn _ _ _ hll2, gK i (by omega), trivial⟩⟩ | (refine And.intro ?_ ?_ <;> conv => whnf))
        · rw [show (r1 == 0) = false by simpa using c3]; conv => whnf
          refine (instZ2 (p := 1) (n := n) (l := l) (k := k1) hk1 hn (by decide) (Nat.le_of_ble_eq_true rfl) rfl rfl).mono ?_
          rintro v H' ⟨⟨t1, t2, t3, t4, t5⟩, k2, hk2, rfl, rfl⟩
          conv => whnf
          refine (renc1 t1 t2 t3 t4 t5 _).mono ?_
          rintro v H' ⟨⟨w, b, hw0, rfl⟩, rfl⟩
          have hw : uR (w : Int) := ⟨by omega, by omega⟩
          have hll2 : (r ++ [(w : Int)]).length + 1 = r.length + 1 + 1 := by simp
          conv => whnf
          repeat' (first | exact Nat.le_of_ble_eq_true rfl | exact len_ints _ _ _ | exact room_small (by omega) (by decide) | exact ⟨(i + 1, k2, w0 :: (r ++ [(w : Int)])), [0, 1, 4], ⟨c, hk2, by rw [List.length_cons, List.length_append, List.length_singleton]; omega, all_snoc (l := w0 :: r) hu hw⟩, by show m - (i + 1) < m - i; omega, okN_of (n0 := 2) (by decide), Nat.le_of_ble_eq_true rfl, ⟨⟨_, rfl, .inl rfl⟩, ⟨_, rfl, .inl rfl⟩, ⟨_, rfl, .inr ⟨oks_ints rfl, rfl⟩⟩, trivial⟩, ⟨rfl, rfl, rfl, slqn _ _ _ hll2, gK i (by omega), trivial⟩⟩ | (refine And.intro ?_ ?_ <;> conv => whnf))
    · rcases ws with _ | ⟨w0, r⟩
      · conv => whnf
        rw [decide_eq_true (show (i : Int) < m by omega)]; conv => whnf
        rw [decide_eq_false (show ¬ (k : Int) < n by omega)]; conv => whnf
        exact ⟨[.ro [.ints .i64 n l]], [0], .v (rowV 1 []), okN_of (n0 := 1) (by decide), Nat.le_of_ble_eq_true rfl, ⟨⟨_, rfl, .inl rfl⟩, trivial⟩, rfl, [], by omega, hu, rfl, rfl⟩
      · conv => whnf
        rw [decide_eq_true (show (i : Int) < m by omega)]; conv => whnf
        rw [decide_eq_false (show ¬ (k : Int) < n by omega)]; conv => whnf
        exact ⟨[.ro [.ints .i64 n l], .rw [.ints .u32 (r.length + 1) (w0 :: r)]], [0, 2], .v (rowV 1 (w0 :: r)), okN_of (n0 := 1) (by decide), Nat.le_of_ble_eq_true rfl, ⟨⟨_, rfl, .inl rfl⟩, ⟨_, rfl, .inl rfl⟩, trivial⟩, rfl, w0 :: r, by omega, hu, rfl, rfl⟩
  · rcases ws with _ | ⟨w0, r⟩
    · conv => whnf
      rw [decide_eq_false (show ¬ (i : Int) < m by omega)]; conv => whnf
      exact ⟨[.ro [.ints .i64 n l]], [0], .v (rowV 1 []), okN_of (n0 := 1) (by decide), Nat.le_of_ble_eq_true rfl, ⟨⟨_, rfl, .inl rfl⟩, trivial⟩, rfl, [], by omega, hu, rfl, rfl⟩
    · conv => whnf
      rw [decide_eq_false (show ¬ (i : Int) < m by omega)]; conv => whnf
      exact ⟨[.ro [.ints .i64 n l], .rw [.ints .u32 (r.length + 1) (w0 :: r)]], [0, 2], .v (rowV 1 (w0 :: r)), okN_of (n0 := 1) (by decide), Nat.le_of_ble_eq_true rfl, ⟨⟨_, rfl, .inl rfl⟩, ⟨_, rfl, .inl rfl⟩, trivial⟩, rfl, w0 :: r, by omega, hu, rfl, rfl⟩
theorem rawN (m : Nat) (hm : m ≤ 100) : AC Tryz.prog 5 [.v .nilS, i64 m] [] (fun v H => v = .v .nilS ∧ H = []) := by
  refine AC.clean rfl (AC.of_body dok Tryz.func5 rfl rfl (Nat.le_of_ble_eq_true rfl) ?_)
  conv => whnf
  refine aw_rounds dok 1 ?_
  conv => whnf
  by_cases c : 0 < m
  · rw [decide_eq_true (show ((0 : Int)) < m by omega)]; conv => whnf
    exact ⟨trivial, trivial, rfl, rfl⟩
  · rw [decide_eq_false (show ¬ ((0 : Int)) < m by omega)]; conv => whnf
    exact ⟨trivial, trivial, rfl, rfl⟩
theorem rawE (m : Nat) (hm : m ≤ 100) : AC Tryz.prog 5 [.v (.sl 0 0 0 0 1), i64 m] [.dead] (fun v H => v = .v .nilS ∧ H = [.dead]) := by
  refine AC.clean rfl (AC.of_body dok Tryz.func5 rfl rfl (Nat.le_of_ble_eq_true rfl) ?_)
  conv => whnf
  refine aw_rounds dok 1 ?_
  conv => whnf
  by_cases c : 0 < m
  · rw [decide_eq_true (show ((0 : Int)) < m by omega)]; conv => whnf
    exact ⟨trivial, trivial, rfl, rfl⟩
  · rw [decide_eq_false (show ¬ ((0 : Int)) < m by omega)]; conv => whnf
    exact ⟨trivial, trivial, rfl, rfl⟩
/-- A tape that lies among the blocks. -/
def tapeAt (G : Hp) (tv : V) : Prop := tv = .nilS ∨ ∃ q, q < G.length ∧ (tv = .sl q 0 0 0 1 ∨ ∃ (n : Nat) (l : List Int), tv = .sl q 0 0 n 1 ∧ lk G q = some (.ro [.ints .i64 n l]) ∧ n ≤ 9223372036854775807)
theorem rawG {G : Hp} {tv : V} (ht : tapeAt G tv) (m : Nat) (hm : m ≤ 100) : AC Tryz.prog 5 [.v tv, i64 m] G
    (fun v H => ∃ L : List Int, L.length ≤ m ∧ (∀ x ∈ L, uR x) ∧ v = .v (rowV G.length L) ∧ H = G ++ rowH L) := by
  rcases ht with rfl | ⟨q, hq, rfl | ⟨n, l, rfl, g, hn⟩⟩
  · refine ((rawN m hm).anyH rfl rfl G).mono ?_
    rintro v H' ⟨rfl, rfl⟩
    exact ⟨[], by simp, by simp, rfl, by simp [rowH]⟩
  · refine ((rawE m hm).embed [q] (G := G) (by simp) (by intro x hx; simp at hx; omega) trivial).mono ?_
    rintro v G' ⟨v0, H', ⟨rfl, rfl⟩, _, rfl, rfl⟩
    exact ⟨[], by simp, by simp, rfl, by simp [embP, rowH]⟩
  · refine ((raw0 n l hn m hm).embed [q] (G := G) (by simp) (by intro x hx; simp at hx; omega) ⟨.inr g, trivial⟩).mono ?_
    rintro v G' ⟨v0, H', ⟨L, h1, h2, rfl, rfl⟩, _, rfl, rfl⟩
    refine ⟨L, h1, h2, ?_, ?_⟩
    · cases L <;> simp [rowV, rowH, AV.ren, V.ren, nthN]
    · cases L <;> simp [embP, rowH, Blk.ren, rensS, Seg.ren, V.ren, nthN]
end Go.Proofs.YtgglclmilocgcaaGreatDoor.Md
