/- The assembler's functions. -/
import Derived.Test.YtgglclmilocgcaaGreatDoorKn
import Derived.Test.YtgglclmilocgcaaGreatDoorBk
set_option linter.unusedVariables false
set_option linter.unusedSimpArgs false
namespace Go.Proofs.YtgglclmilocgcaaGreatDoor.Md
open Go.RowKit Go.Proofs.YtgglclmilocgcaaGreatDoor.Ae Go.Proofs.YtgglclmilocgcaaGreatDoor.Bv Go.Proofs.YtgglclmilocgcaaGreatDoor

theorem wordsOf_app (A B : List (Option Nat)) : wordsOf (A ++ B) = wordsOf A ++ wordsOf B := by
  unfold wordsOf
  rw [List.filterMap_append, List.map_append]
theorem ps_cut2 {LL : List Int} (hu : ∀ x ∈ LL, uR x) : cutL 10 (listL (LL.map Int.toNat)) = (psOf LL).map pc := ps_cut hu
theorem lines_cut {La Lb : List Int} (ha : ∀ x ∈ La, uR x) (hb : ∀ x ∈ Lb, uR x) : cutL 10 (listL (La.map Int.toNat) ++ 10 :: listL (Lb.map Int.toNat)) = (psOf La ++ psOf Lb).map pc := by
  rw [cutL_list (nat_r ha)]
  have : cutL 10 (10 :: listL (Lb.map Int.toNat)) = [] :: cutL 10 (listL (Lb.map Int.toNat)) := cutL_at (p := []) (by simp)
  rw [this, ps_cut2 hb, List.map_append]
  unfold psOf
  rw [List.map_append, List.map_append, List.map_map (f := some) (g := pc), List.map_map (f := some) (g := pc)]
  simp only [List.append_assoc]
  rfl
theorem linesP {La Lb : List Int} (ha : ∀ x ∈ La, uR x) (hb : ∀ x ∈ Lb, uR x) (na : La.length ≤ 15) (nb : Lb.length ≤ 15) (S : ByteArray) (hS : S.data.toList = listL (La.map Int.toNat) ++ 10 :: listL (Lb.map Int.toNat)) (G : Hp) :
    AC Tryz.prog 6 [.v (.str S)] G (fun v H => v = progVg G.length (La ++ Lb) ∧ H = G ++ progH (La ++ Lb)) := by
  have h1 := listL_len (nat_r ha)
  have h2 := listL_len (nat_r hb)
  rw [List.length_map] at h1 h2
  have hsz : S.size < 1000000 := by
    have : S.size = S.data.toList.length := by simp
    rw [this, hS]; simp; omega
  have := progG S hsz (psOf La ++ psOf Lb) (by unfold psOf; simp; omega) (fun w hw => by
    rcases List.mem_append.1 hw with h | h
    · exact ps_in ha w h
    · exact ps_in hb w h) (by rw [hS]; exact lines_cut ha hb) G
  rw [wordsOf_app, ps_words ha, ps_words hb] at this
  exact this
def tapeOkAt (q : Nat) (tv : V) (b : Blk) : Prop := tv = .nilS ∨ (tv = .sl q 0 0 0 1) ∨ ∃ (n : Nat) (l : List Int), tv = .sl q 0 0 n 1 ∧ b = .ro [.ints .i64 n l] ∧ n ≤ 9223372036854775807
theorem catLe {a b : ByteArray} {m n : Nat} (ha : a.size ≤ m) (hb : b.size ≤ n) (h : m + n ≤ 9223372036854775807) : ((a.size + b.size : Nat) : Int) ≤ IntKind.i64.max := by
  show ((a.size + b.size : Nat) : Int) ≤ 9223372036854775807
  omega
theorem lsz {L : List Int} (hu : ∀ x ∈ L, uR x) (hn : L.length ≤ 15) : (ba (listL (L.map Int.toNat))).size ≤ 1140 := by
  have h1 := listL_len (nat_r hu)
  rw [List.length_map] at h1
  rw [ba_size]; omega
theorem catS (a b : List UInt8) : ((ba a ++ ba [10]) ++ ba b).data.toList = a ++ 10 :: b := by
  simp [ba]
theorem get_l (A B : List Int) (i : Nat) (h : i < A.length) : (A ++ B).getD i 0 = A.getD i 0 := by
  simp [List.getD, List.getElem?_append_left h]
theorem get_r (A B : List Int) (i : Nat) (h : A.length ≤ i) : (A ++ B).getD i 0 = B.getD (i - A.length) 0 := by
  simp [List.getD, List.getElem?_append_right h]
theorem subK (i n : Nat) (h : n ≤ i) (hi : i < 1000000) : IntKind.i64.wrap ((i : Int) - (n : Nat)) = ((i - n : Nat) : Int) := by rw [IntKind.wrap_i64]; omega
theorem lsz2 {l : List UInt8} {n : Nat} (h : (ba l).size ≤ n) : (ba l ++ ba [10]).size ≤ n + 1 := by
  rw [ByteArray.size_append]; exact Nat.add_le_add_right h 1
set_option maxHeartbeats 40000000 in
theorem lines_rr (tv tw : V) (l0 l1 : List Seg) (h0 : tapeAt [.ro l0, .ro l1] tv) (h1 : ∀ Lr, tapeAt ([.ro l0, .ro l1] ++ rowH Lr) tw) : AC Tryz.prog 4 [.v tv, .v tw] [.ro l0, .ro l1] (fun v _ => v = bo true) := by
  refine AC.of_body dok Tryz.func4 rfl rfl (Nat.le_of_ble_eq_true rfl) ?_
  conv => whnf
  refine (rawG h0 15 (by decide)).mono ?_
  rintro v H' ⟨La, ha1, ha2, rfl, rfl⟩
  conv => whnf
  refine (rawG (h1 La) 15 (by decide)).mono ?_
  rintro v H' ⟨Lb, hb1, hb2, rfl, rfl⟩
  have sa := lsz ha2 ha1
  have sb := lsz hb2 hb1
  rcases La with _ | ⟨wa, ra⟩
  · conv => whnf
    rcases Lb with _ | ⟨wb, rb⟩
    · conv => whnf
      refine (list2 _).mono ?_
      rintro v H' ⟨rfl, rfl⟩
      conv => whnf
      refine ⟨by decide, ?_⟩
      conv => whnf
      refine (list2 _).mono ?_
      rintro v H' ⟨rfl, rfl⟩
      conv => whnf
      refine ⟨by decide, ?_⟩
      conv => whnf
      refine (linesP (La := []) (Lb := []) (by simp) (by simp) (by decide) (by decide) _ (by rfl) _).mono ?_
      rintro v H' ⟨rfl, rfl⟩
      conv => whnf
      refine aw_rounds dok 1 ?_
      conv => whnf
      refine (known1 _).mono ?_
      rintro v H' ⟨rfl, rfl⟩
      conv => whnf
    · conv => whnf
      have hrb : rb.length + 1 ≤ 15 := hb1
      refine (list2 _).mono ?_
      rintro v H' ⟨rfl, rfl⟩
      conv => whnf
      refine ⟨catLe sa (by decide : (ba [10]).size ≤ 1) (by decide), ?_⟩
      conv => whnf
      refine (list1 (wb :: rb) (rb.length + 1) hb2 (by omega) (by omega) (p := 2) rfl rfl).mono ?_
      rintro v H' ⟨rfl, rfl⟩
      conv => whnf
      refine ⟨catLe (lsz2 sa) sb (by decide), ?_⟩
      conv => whnf
      have hP := fun S hS G => linesP ha2 hb2 ha1 hb1 S hS G
      rw [show [] ++ wb :: rb = wb :: rb from rfl] at hP
      refine (hP _ (catS _ _) _).mono ?_
      rintro v H' ⟨rfl, rfl⟩
      conv => whnf
      rw [show IntKind.i64.wrap (0 + ((rb.length + 1 : Nat) : Int)) = ((rb.length + 1 : Nat) : Int) by rw [IntKind.wrap_i64]; omega, show (((rb.length + 1 : Nat) : Int) != ((rb.length + 1 : Nat) : Int)) = false from bne_self_eq_false _]
      conv => whnf
      refine aw_loop dok (fun i : Nat => [(5, .v (.nilS)), (6, .v (.sl 2 0 0 (rb.length + 1) 1)), (7, .v (.sl 3 0 0 (rb.length + 1) 1)), (37, i64 ((rb.length + 1 : Nat) : Int)), (38, i64 i)]) (fun _ => _) (fun i => i ≤ rb.length + 1) (fun i => rb.length + 1 - i) 0 ⟨rfl, rfl, rfl, rfl, rfl, trivial⟩ rfl (Nat.zero_le _) ?_
      intro i hi
      by_cases c : i < rb.length + 1
      · conv => whnf
        rw [decide_eq_true (show (i : Int) < ((rb.length + 1 : Nat) : Int) by omega)]; conv => whnf
        refine DR.std (by decide +kernel) ⟨[], ?_⟩
        conv => whnf
        rw [decide_eq_false (show ¬ (i : Int) < 0 by omega)]; conv => whnf
        rw [decide_eq_true (show (0 : Int) ≤ (i : Int) by omega)]; conv => whnf
        rw [blt_of (show i < rb.length + 1 by omega)]; conv => whnf
        rw [show (0 + i) * 1 = i by omega, blt_of (show i < rb.length + 1 by omega)]; conv => whnf
        rw [show IntKind.i64.wrap ((i : Int) - 0) = (i : Int) by rw [IntKind.wrap_i64]; omega]; conv => whnf
        rw [blt_of (show i < rb.length + 1 by omega)]; conv => whnf
        rw [show (0 + i) * 1 = i by omega, blt_of (show i < rb.length + 1 by omega)]; conv => whnf
        rw [same_get]; conv => whnf
        exact ⟨i + 1, c, by show rb.length + 1 - (i + 1) < rb.length + 1 - i; omega, ⟨rfl, rfl, rfl, rfl, gK i (by omega), trivial⟩, rfl⟩
      · conv => whnf
        rw [decide_eq_false (show ¬ (i : Int) < ((rb.length + 1 : Nat) : Int) by omega)]; conv => whnf
        refine (known1 _).mono ?_
        rintro v H' ⟨rfl, rfl⟩
        conv => whnf
  · conv => whnf
    have hra : ra.length + 1 ≤ 15 := ha1
    rcases Lb with _ | ⟨wb, rb⟩
    · conv => whnf
      refine (list1 (wa :: ra) (ra.length + 1) ha2 (by omega) (by omega) (p := 2) rfl rfl).mono ?_
      rintro v H' ⟨rfl, rfl⟩
      conv => whnf
      refine ⟨catLe sa (by decide : (ba [10]).size ≤ 1) (by decide), ?_⟩
      conv => whnf
      refine (list2 _).mono ?_
      rintro v H' ⟨rfl, rfl⟩
      conv => whnf
      refine ⟨catLe (lsz2 sa) sb (by decide), ?_⟩
      conv => whnf
      have hP := fun S hS G => linesP ha2 hb2 ha1 hb1 S hS G
      rw [show wa :: ra ++ [] = wa :: ra by simp] at hP
      refine (hP _ (catS _ _) _).mono ?_
      rintro v H' ⟨rfl, rfl⟩
      conv => whnf
      rw [show IntKind.i64.wrap (((ra.length + 1 : Nat) : Int) + 0) = ((ra.length + 1 : Nat) : Int) by rw [IntKind.wrap_i64]; omega, show (((ra.length + 1 : Nat) : Int) != ((ra.length + 1 : Nat) : Int)) = false from bne_self_eq_false _]
      conv => whnf
      refine aw_loop dok (fun i : Nat => [(5, .v (.sl 2 0 0 (ra.length + 1) 1)), (6, .v (.nilS)), (7, .v (.sl 3 0 0 (ra.length + 1) 1)), (37, i64 ((ra.length + 1 : Nat) : Int)), (38, i64 i)]) (fun _ => _) (fun i => i ≤ ra.length + 1) (fun i => ra.length + 1 - i) 0 ⟨rfl, rfl, rfl, rfl, rfl, trivial⟩ rfl (Nat.zero_le _) ?_
      intro i hi
      by_cases c : i < ra.length + 1
      · conv => whnf
        rw [decide_eq_true (show (i : Int) < ((ra.length + 1 : Nat) : Int) by omega)]; conv => whnf
        refine DR.std (by decide +kernel) ⟨[], ?_⟩
        conv => whnf
        rw [decide_eq_true (show (i : Int) < ((ra.length + 1 : Nat) : Int) by omega)]; conv => whnf
        rw [blt_of (show i < ra.length + 1 by omega)]; conv => whnf
        rw [show (0 + i) * 1 = i by omega, blt_of (show i < ra.length + 1 by omega)]; conv => whnf
        rw [blt_of (show i < ra.length + 1 by omega)]; conv => whnf
        rw [show (0 + i) * 1 = i by omega, blt_of (show i < ra.length + 1 by omega)]; conv => whnf
        rw [same_get]; conv => whnf
        rw [decide_eq_false (show ¬ ((ra.length + 1 : Nat) : Int) ≤ (i : Int) by omega)]; conv => whnf
        exact ⟨i + 1, c, by show ra.length + 1 - (i + 1) < ra.length + 1 - i; omega, ⟨rfl, rfl, rfl, rfl, gK i (by omega), trivial⟩, rfl⟩
      · conv => whnf
        rw [decide_eq_false (show ¬ (i : Int) < ((ra.length + 1 : Nat) : Int) by omega)]; conv => whnf
        refine (known1 _).mono ?_
        rintro v H' ⟨rfl, rfl⟩
        conv => whnf
    · conv => whnf
      have hrb : rb.length + 1 ≤ 15 := hb1
      refine (list1 (wa :: ra) (ra.length + 1) ha2 (by omega) (by omega) (p := 2) rfl rfl).mono ?_
      rintro v H' ⟨rfl, rfl⟩
      conv => whnf
      refine ⟨catLe sa (by decide : (ba [10]).size ≤ 1) (by decide), ?_⟩
      conv => whnf
      refine (list1 (wb :: rb) (rb.length + 1) hb2 (by omega) (by omega) (p := 3) rfl rfl).mono ?_
      rintro v H' ⟨rfl, rfl⟩
      conv => whnf
      refine ⟨catLe (lsz2 sa) sb (by decide), ?_⟩
      conv => whnf
      obtain ⟨T, eT⟩ : ∃ T, T = ra ++ (wb :: rb) := ⟨_, rfl⟩
      have hT : T.length = ra.length + (rb.length + 1) := by rw [eT]; exact List.length_append
      have hP := fun S hS G => linesP ha2 hb2 ha1 hb1 S hS G
      rw [show wa :: ra ++ wb :: rb = wa :: T by rw [eT]; rfl] at hP
      refine (hP _ (catS _ _) _).mono ?_
      rintro v H' ⟨rfl, rfl⟩
      conv => whnf
      have gl : ∀ i, i < ra.length + 1 → (wa :: T).getD i 0 = (wa :: ra).getD i 0 := fun i hi => by rw [eT]; exact get_l (wa :: ra) (wb :: rb) i hi
      have gr : ∀ i, ra.length + 1 ≤ i → (wa :: T).getD i 0 = (wb :: rb).getD (i - (ra.length + 1)) 0 := fun i hi => by rw [eT]; exact get_r (wa :: ra) (wb :: rb) i hi
      rw [show IntKind.i64.wrap (((ra.length + 1 : Nat) : Int) + ((rb.length + 1 : Nat) : Int)) = ((T.length + 1 : Nat) : Int) by rw [IntKind.wrap_i64]; omega, show (((T.length + 1 : Nat) : Int) != ((T.length + 1 : Nat) : Int)) = false from bne_self_eq_false _]
      conv => whnf
      refine aw_loop dok (fun i : Nat => [(5, .v (.sl 2 0 0 (ra.length + 1) 1)), (6, .v (.sl 3 0 0 (rb.length + 1) 1)), (7, .v (.sl 4 0 0 (T.length + 1) 1)), (37, i64 ((T.length + 1 : Nat) : Int)), (38, i64 i)]) (fun _ => _) (fun i => i ≤ T.length + 1) (fun i => T.length + 1 - i) 0 ⟨rfl, rfl, rfl, rfl, rfl, trivial⟩ rfl (Nat.zero_le _) ?_
      intro i hi
      by_cases c : i < T.length + 1
      · conv => whnf
        rw [decide_eq_true (show (i : Int) < ((T.length + 1 : Nat) : Int) by omega)]; conv => whnf
        refine DR.std (by decide +kernel) ⟨[], ?_⟩
        conv => whnf
        by_cases c2 : i < ra.length + 1
        · rw [decide_eq_true (show (i : Int) < ((ra.length + 1 : Nat) : Int) by omega)]; conv => whnf
          rw [blt_of (show i < T.length + 1 by omega)]; conv => whnf
          rw [show (0 + i) * 1 = i by omega, blt_of (show i < T.length + 1 by omega)]; conv => whnf
          rw [blt_of (show i < ra.length + 1 by omega)]; conv => whnf
          rw [show (0 + i) * 1 = i by omega, blt_of (show i < ra.length + 1 by omega)]; conv => whnf
          rw [gl i c2, same_get]; conv => whnf
          rw [decide_eq_false (show ¬ ((ra.length + 1 : Nat) : Int) ≤ (i : Int) by omega)]; conv => whnf
          exact ⟨i + 1, c, by show T.length + 1 - (i + 1) < T.length + 1 - i; omega, ⟨rfl, rfl, rfl, rfl, gK i (by omega), trivial⟩, rfl⟩
        · rw [decide_eq_false (show ¬ (i : Int) < ((ra.length + 1 : Nat) : Int) by omega)]; conv => whnf
          rw [decide_eq_true (show ((ra.length + 1 : Nat) : Int) ≤ (i : Int) by omega)]; conv => whnf
          rw [blt_of (show i < T.length + 1 by omega)]; conv => whnf
          rw [show (0 + i) * 1 = i by omega, blt_of (show i < T.length + 1 by omega)]; conv => whnf
          rw [subK i (ra.length + 1) (by omega) (by omega)]; conv => whnf
          rw [blt_of (show i - (ra.length + 1) < rb.length + 1 by omega)]; conv => whnf
          rw [show (0 + (i - (ra.length + 1))) * 1 = i - (ra.length + 1) by omega, blt_of (show i - (ra.length + 1) < rb.length + 1 by omega)]; conv => whnf
          rw [gr i (by omega), same_get]; conv => whnf
          exact ⟨i + 1, c, by show T.length + 1 - (i + 1) < T.length + 1 - i; omega, ⟨rfl, rfl, rfl, rfl, gK i (by omega), trivial⟩, rfl⟩
      · conv => whnf
        rw [decide_eq_false (show ¬ (i : Int) < ((T.length + 1 : Nat) : Int) by omega)]; conv => whnf
        refine (known1 _).mono ?_
        rintro v H' ⟨rfl, rfl⟩
        conv => whnf
set_option maxHeartbeats 40000000 in
theorem lines_rd (tv tw : V) (l0 : List Seg) (h0 : tapeAt [.ro l0, .dead] tv) (h1 : ∀ Lr, tapeAt ([.ro l0, .dead] ++ rowH Lr) tw) : AC Tryz.prog 4 [.v tv, .v tw] [.ro l0, .dead] (fun v _ => v = bo true) := by
  refine AC.of_body dok Tryz.func4 rfl rfl (Nat.le_of_ble_eq_true rfl) ?_
  conv => whnf
  refine (rawG h0 15 (by decide)).mono ?_
  rintro v H' ⟨La, ha1, ha2, rfl, rfl⟩
  conv => whnf
  refine (rawG (h1 La) 15 (by decide)).mono ?_
  rintro v H' ⟨Lb, hb1, hb2, rfl, rfl⟩
  have sa := lsz ha2 ha1
  have sb := lsz hb2 hb1
  rcases La with _ | ⟨wa, ra⟩
  · conv => whnf
    rcases Lb with _ | ⟨wb, rb⟩
    · conv => whnf
      refine (list2 _).mono ?_
      rintro v H' ⟨rfl, rfl⟩
      conv => whnf
      refine ⟨by decide, ?_⟩
      conv => whnf
      refine (list2 _).mono ?_
      rintro v H' ⟨rfl, rfl⟩
      conv => whnf
      refine ⟨by decide, ?_⟩
      conv => whnf
      refine (linesP (La := []) (Lb := []) (by simp) (by simp) (by decide) (by decide) _ (by rfl) _).mono ?_
      rintro v H' ⟨rfl, rfl⟩
      conv => whnf
      refine aw_rounds dok 1 ?_
      conv => whnf
      refine (known1 _).mono ?_
      rintro v H' ⟨rfl, rfl⟩
      conv => whnf
    · conv => whnf
      have hrb : rb.length + 1 ≤ 15 := hb1
      refine (list2 _).mono ?_
      rintro v H' ⟨rfl, rfl⟩
      conv => whnf
      refine ⟨catLe sa (by decide : (ba [10]).size ≤ 1) (by decide), ?_⟩
      conv => whnf
      refine (list1 (wb :: rb) (rb.length + 1) hb2 (by omega) (by omega) (p := 2) rfl rfl).mono ?_
      rintro v H' ⟨rfl, rfl⟩
      conv => whnf
      refine ⟨catLe (lsz2 sa) sb (by decide), ?_⟩
      conv => whnf
      have hP := fun S hS G => linesP ha2 hb2 ha1 hb1 S hS G
      rw [show [] ++ wb :: rb = wb :: rb from rfl] at hP
      refine (hP _ (catS _ _) _).mono ?_
      rintro v H' ⟨rfl, rfl⟩
      conv => whnf
      rw [show IntKind.i64.wrap (0 + ((rb.length + 1 : Nat) : Int)) = ((rb.length + 1 : Nat) : Int) by rw [IntKind.wrap_i64]; omega, show (((rb.length + 1 : Nat) : Int) != ((rb.length + 1 : Nat) : Int)) = false from bne_self_eq_false _]
      conv => whnf
      refine aw_loop dok (fun i : Nat => [(5, .v (.nilS)), (6, .v (.sl 2 0 0 (rb.length + 1) 1)), (7, .v (.sl 3 0 0 (rb.length + 1) 1)), (37, i64 ((rb.length + 1 : Nat) : Int)), (38, i64 i)]) (fun _ => _) (fun i => i ≤ rb.length + 1) (fun i => rb.length + 1 - i) 0 ⟨rfl, rfl, rfl, rfl, rfl, trivial⟩ rfl (Nat.zero_le _) ?_
      intro i hi
      by_cases c : i < rb.length + 1
      · conv => whnf
        rw [decide_eq_true (show (i : Int) < ((rb.length + 1 : Nat) : Int) by omega)]; conv => whnf
        refine DR.std (by decide +kernel) ⟨[], ?_⟩
        conv => whnf
        rw [decide_eq_false (show ¬ (i : Int) < 0 by omega)]; conv => whnf
        rw [decide_eq_true (show (0 : Int) ≤ (i : Int) by omega)]; conv => whnf
        rw [blt_of (show i < rb.length + 1 by omega)]; conv => whnf
        rw [show (0 + i) * 1 = i by omega, blt_of (show i < rb.length + 1 by omega)]; conv => whnf
        rw [show IntKind.i64.wrap ((i : Int) - 0) = (i : Int) by rw [IntKind.wrap_i64]; omega]; conv => whnf
        rw [blt_of (show i < rb.length + 1 by omega)]; conv => whnf
        rw [show (0 + i) * 1 = i by omega, blt_of (show i < rb.length + 1 by omega)]; conv => whnf
        rw [same_get]; conv => whnf
        exact ⟨i + 1, c, by show rb.length + 1 - (i + 1) < rb.length + 1 - i; omega, ⟨rfl, rfl, rfl, rfl, gK i (by omega), trivial⟩, rfl⟩
      · conv => whnf
        rw [decide_eq_false (show ¬ (i : Int) < ((rb.length + 1 : Nat) : Int) by omega)]; conv => whnf
        refine (known1 _).mono ?_
        rintro v H' ⟨rfl, rfl⟩
        conv => whnf
  · conv => whnf
    have hra : ra.length + 1 ≤ 15 := ha1
    rcases Lb with _ | ⟨wb, rb⟩
    · conv => whnf
      refine (list1 (wa :: ra) (ra.length + 1) ha2 (by omega) (by omega) (p := 2) rfl rfl).mono ?_
      rintro v H' ⟨rfl, rfl⟩
      conv => whnf
      refine ⟨catLe sa (by decide : (ba [10]).size ≤ 1) (by decide), ?_⟩
      conv => whnf
      refine (list2 _).mono ?_
      rintro v H' ⟨rfl, rfl⟩
      conv => whnf
      refine ⟨catLe (lsz2 sa) sb (by decide), ?_⟩
      conv => whnf
      have hP := fun S hS G => linesP ha2 hb2 ha1 hb1 S hS G
      rw [show wa :: ra ++ [] = wa :: ra by simp] at hP
      refine (hP _ (catS _ _) _).mono ?_
      rintro v H' ⟨rfl, rfl⟩
      conv => whnf
      rw [show IntKind.i64.wrap (((ra.length + 1 : Nat) : Int) + 0) = ((ra.length + 1 : Nat) : Int) by rw [IntKind.wrap_i64]; omega, show (((ra.length + 1 : Nat) : Int) != ((ra.length + 1 : Nat) : Int)) = false from bne_self_eq_false _]
      conv => whnf
      refine aw_loop dok (fun i : Nat => [(5, .v (.sl 2 0 0 (ra.length + 1) 1)), (6, .v (.nilS)), (7, .v (.sl 3 0 0 (ra.length + 1) 1)), (37, i64 ((ra.length + 1 : Nat) : Int)), (38, i64 i)]) (fun _ => _) (fun i => i ≤ ra.length + 1) (fun i => ra.length + 1 - i) 0 ⟨rfl, rfl, rfl, rfl, rfl, trivial⟩ rfl (Nat.zero_le _) ?_
      intro i hi
      by_cases c : i < ra.length + 1
      · conv => whnf
        rw [decide_eq_true (show (i : Int) < ((ra.length + 1 : Nat) : Int) by omega)]; conv => whnf
        refine DR.std (by decide +kernel) ⟨[], ?_⟩
        conv => whnf
        rw [decide_eq_true (show (i : Int) < ((ra.length + 1 : Nat) : Int) by omega)]; conv => whnf
        rw [blt_of (show i < ra.length + 1 by omega)]; conv => whnf
        rw [show (0 + i) * 1 = i by omega, blt_of (show i < ra.length + 1 by omega)]; conv => whnf
        rw [blt_of (show i < ra.length + 1 by omega)]; conv => whnf
        rw [show (0 + i) * 1 = i by omega, blt_of (show i < ra.length + 1 by omega)]; conv => whnf
        rw [same_get]; conv => whnf
        rw [decide_eq_false (show ¬ ((ra.length + 1 : Nat) : Int) ≤ (i : Int) by omega)]; conv => whnf
        exact ⟨i + 1, c, by show ra.length + 1 - (i + 1) < ra.length + 1 - i; omega, ⟨rfl, rfl, rfl, rfl, gK i (by omega), trivial⟩, rfl⟩
      · conv => whnf
        rw [decide_eq_false (show ¬ (i : Int) < ((ra.length + 1 : Nat) : Int) by omega)]; conv => whnf
        refine (known1 _).mono ?_
        rintro v H' ⟨rfl, rfl⟩
        conv => whnf
    · conv => whnf
      have hrb : rb.length + 1 ≤ 15 := hb1
      refine (list1 (wa :: ra) (ra.length + 1) ha2 (by omega) (by omega) (p := 2) rfl rfl).mono ?_
      rintro v H' ⟨rfl, rfl⟩
      conv => whnf
      refine ⟨catLe sa (by decide : (ba [10]).size ≤ 1) (by decide), ?_⟩
      conv => whnf
      refine (list1 (wb :: rb) (rb.length + 1) hb2 (by omega) (by omega) (p := 3) rfl rfl).mono ?_
      rintro v H' ⟨rfl, rfl⟩
      conv => whnf
      refine ⟨catLe (lsz2 sa) sb (by decide), ?_⟩
      conv => whnf
      obtain ⟨T, eT⟩ : ∃ T, T = ra ++ (wb :: rb) := ⟨_, rfl⟩
      have hT : T.length = ra.length + (rb.length + 1) := by rw [eT]; exact List.length_append
      have hP := fun S hS G => linesP ha2 hb2 ha1 hb1 S hS G
      rw [show wa :: ra ++ wb :: rb = wa :: T by rw [eT]; rfl] at hP
      refine (hP _ (catS _ _) _).mono ?_
      rintro v H' ⟨rfl, rfl⟩
      conv => whnf
      have gl : ∀ i, i < ra.length + 1 → (wa :: T).getD i 0 = (wa :: ra).getD i 0 := fun i hi => by rw [eT]; exact get_l (wa :: ra) (wb :: rb) i hi
      have gr : ∀ i, ra.length + 1 ≤ i → (wa :: T).getD i 0 = (wb :: rb).getD (i - (ra.length + 1)) 0 := fun i hi => by rw [eT]; exact get_r (wa :: ra) (wb :: rb) i hi
      rw [show IntKind.i64.wrap (((ra.length + 1 : Nat) : Int) + ((rb.length + 1 : Nat) : Int)) = ((T.length + 1 : Nat) : Int) by rw [IntKind.wrap_i64]; omega, show (((T.length + 1 : Nat) : Int) != ((T.length + 1 : Nat) : Int)) = false from bne_self_eq_false _]
      conv => whnf
      refine aw_loop dok (fun i : Nat => [(5, .v (.sl 2 0 0 (ra.length + 1) 1)), (6, .v (.sl 3 0 0 (rb.length + 1) 1)), (7, .v (.sl 4 0 0 (T.length + 1) 1)), (37, i64 ((T.length + 1 : Nat) : Int)), (38, i64 i)]) (fun _ => _) (fun i => i ≤ T.length + 1) (fun i => T.length + 1 - i) 0 ⟨rfl, rfl, rfl, rfl, rfl, trivial⟩ rfl (Nat.zero_le _) ?_
      intro i hi
      by_cases c : i < T.length + 1
      · conv => whnf
        rw [decide_eq_true (show (i : Int) < ((T.length + 1 : Nat) : Int) by omega)]; conv => whnf
        refine DR.std (by decide +kernel) ⟨[], ?_⟩
        conv => whnf
        by_cases c2 : i < ra.length + 1
        · rw [decide_eq_true (show (i : Int) < ((ra.length + 1 : Nat) : Int) by omega)]; conv => whnf
          rw [blt_of (show i < T.length + 1 by omega)]; conv => whnf
          rw [show (0 + i) * 1 = i by omega, blt_of (show i < T.length + 1 by omega)]; conv => whnf
          rw [blt_of (show i < ra.length + 1 by omega)]; conv => whnf
          rw [show (0 + i) * 1 = i by omega, blt_of (show i < ra.length + 1 by omega)]; conv => whnf
          rw [gl i c2, same_get]; conv => whnf
          rw [decide_eq_false (show ¬ ((ra.length + 1 : Nat) : Int) ≤ (i : Int) by omega)]; conv => whnf
          exact ⟨i + 1, c, by show T.length + 1 - (i + 1) < T.length + 1 - i; omega, ⟨rfl, rfl, rfl, rfl, gK i (by omega), trivial⟩, rfl⟩
        · rw [decide_eq_false (show ¬ (i : Int) < ((ra.length + 1 : Nat) : Int) by omega)]; conv => whnf
          rw [decide_eq_true (show ((ra.length + 1 : Nat) : Int) ≤ (i : Int) by omega)]; conv => whnf
          rw [blt_of (show i < T.length + 1 by omega)]; conv => whnf
          rw [show (0 + i) * 1 = i by omega, blt_of (show i < T.length + 1 by omega)]; conv => whnf
          rw [subK i (ra.length + 1) (by omega) (by omega)]; conv => whnf
          rw [blt_of (show i - (ra.length + 1) < rb.length + 1 by omega)]; conv => whnf
          rw [show (0 + (i - (ra.length + 1))) * 1 = i - (ra.length + 1) by omega, blt_of (show i - (ra.length + 1) < rb.length + 1 by omega)]; conv => whnf
          rw [gr i (by omega), same_get]; conv => whnf
          exact ⟨i + 1, c, by show T.length + 1 - (i + 1) < T.length + 1 - i; omega, ⟨rfl, rfl, rfl, rfl, gK i (by omega), trivial⟩, rfl⟩
      · conv => whnf
        rw [decide_eq_false (show ¬ (i : Int) < ((T.length + 1 : Nat) : Int) by omega)]; conv => whnf
        refine (known1 _).mono ?_
        rintro v H' ⟨rfl, rfl⟩
        conv => whnf
set_option maxHeartbeats 40000000 in
theorem lines_dr (tv tw : V) (l1 : List Seg) (h0 : tapeAt [.dead, .ro l1] tv) (h1 : ∀ Lr, tapeAt ([.dead, .ro l1] ++ rowH Lr) tw) : AC Tryz.prog 4 [.v tv, .v tw] [.dead, .ro l1] (fun v _ => v = bo true) := by
  refine AC.of_body dok Tryz.func4 rfl rfl (Nat.le_of_ble_eq_true rfl) ?_
  conv => whnf
  refine (rawG h0 15 (by decide)).mono ?_
  rintro v H' ⟨La, ha1, ha2, rfl, rfl⟩
  conv => whnf
  refine (rawG (h1 La) 15 (by decide)).mono ?_
  rintro v H' ⟨Lb, hb1, hb2, rfl, rfl⟩
  have sa := lsz ha2 ha1
  have sb := lsz hb2 hb1
  rcases La with _ | ⟨wa, ra⟩
  · conv => whnf
    rcases Lb with _ | ⟨wb, rb⟩
    · conv => whnf
      refine (list2 _).mono ?_
      rintro v H' ⟨rfl, rfl⟩
      conv => whnf
      refine ⟨by decide, ?_⟩
      conv => whnf
      refine (list2 _).mono ?_
      rintro v H' ⟨rfl, rfl⟩
      conv => whnf
      refine ⟨by decide, ?_⟩
      conv => whnf
      refine (linesP (La := []) (Lb := []) (by simp) (by simp) (by decide) (by decide) _ (by rfl) _).mono ?_
      rintro v H' ⟨rfl, rfl⟩
      conv => whnf
      refine aw_rounds dok 1 ?_
      conv => whnf
      refine (known1 _).mono ?_
      rintro v H' ⟨rfl, rfl⟩
      conv => whnf
    · conv => whnf
      have hrb : rb.length + 1 ≤ 15 := hb1
      refine (list2 _).mono ?_
      rintro v H' ⟨rfl, rfl⟩
      conv => whnf
      refine ⟨catLe sa (by decide : (ba [10]).size ≤ 1) (by decide), ?_⟩
      conv => whnf
      refine (list1 (wb :: rb) (rb.length + 1) hb2 (by omega) (by omega) (p := 2) rfl rfl).mono ?_
      rintro v H' ⟨rfl, rfl⟩
      conv => whnf
      refine ⟨catLe (lsz2 sa) sb (by decide), ?_⟩
      conv => whnf
      have hP := fun S hS G => linesP ha2 hb2 ha1 hb1 S hS G
      rw [show [] ++ wb :: rb = wb :: rb from rfl] at hP
      refine (hP _ (catS _ _) _).mono ?_
      rintro v H' ⟨rfl, rfl⟩
      conv => whnf
      rw [show IntKind.i64.wrap (0 + ((rb.length + 1 : Nat) : Int)) = ((rb.length + 1 : Nat) : Int) by rw [IntKind.wrap_i64]; omega, show (((rb.length + 1 : Nat) : Int) != ((rb.length + 1 : Nat) : Int)) = false from bne_self_eq_false _]
      conv => whnf
      refine aw_loop dok (fun i : Nat => [(5, .v (.nilS)), (6, .v (.sl 2 0 0 (rb.length + 1) 1)), (7, .v (.sl 3 0 0 (rb.length + 1) 1)), (37, i64 ((rb.length + 1 : Nat) : Int)), (38, i64 i)]) (fun _ => _) (fun i => i ≤ rb.length + 1) (fun i => rb.length + 1 - i) 0 ⟨rfl, rfl, rfl, rfl, rfl, trivial⟩ rfl (Nat.zero_le _) ?_
      intro i hi
      by_cases c : i < rb.length + 1
      · conv => whnf
        rw [decide_eq_true (show (i : Int) < ((rb.length + 1 : Nat) : Int) by omega)]; conv => whnf
        refine DR.std (by decide +kernel) ⟨[], ?_⟩
        conv => whnf
        rw [decide_eq_false (show ¬ (i : Int) < 0 by omega)]; conv => whnf
        rw [decide_eq_true (show (0 : Int) ≤ (i : Int) by omega)]; conv => whnf
        rw [blt_of (show i < rb.length + 1 by omega)]; conv => whnf
        rw [show (0 + i) * 1 = i by omega, blt_of (show i < rb.length + 1 by omega)]; conv => whnf
        rw [show IntKind.i64.wrap ((i : Int) - 0) = (i : Int) by rw [IntKind.wrap_i64]; omega]; conv => whnf
        rw [blt_of (show i < rb.length + 1 by omega)]; conv => whnf
        rw [show (0 + i) * 1 = i by omega, blt_of (show i < rb.length + 1 by omega)]; conv => whnf
        rw [same_get]; conv => whnf
        exact ⟨i + 1, c, by show rb.length + 1 - (i + 1) < rb.length + 1 - i; omega, ⟨rfl, rfl, rfl, rfl, gK i (by omega), trivial⟩, rfl⟩
      · conv => whnf
        rw [decide_eq_false (show ¬ (i : Int) < ((rb.length + 1 : Nat) : Int) by omega)]; conv => whnf
        refine (known1 _).mono ?_
        rintro v H' ⟨rfl, rfl⟩
        conv => whnf
  · conv => whnf
    have hra : ra.length + 1 ≤ 15 := ha1
    rcases Lb with _ | ⟨wb, rb⟩
    · conv => whnf
      refine (list1 (wa :: ra) (ra.length + 1) ha2 (by omega) (by omega) (p := 2) rfl rfl).mono ?_
      rintro v H' ⟨rfl, rfl⟩
      conv => whnf
      refine ⟨catLe sa (by decide : (ba [10]).size ≤ 1) (by decide), ?_⟩
      conv => whnf
      refine (list2 _).mono ?_
      rintro v H' ⟨rfl, rfl⟩
      conv => whnf
      refine ⟨catLe (lsz2 sa) sb (by decide), ?_⟩
      conv => whnf
      have hP := fun S hS G => linesP ha2 hb2 ha1 hb1 S hS G
      rw [show wa :: ra ++ [] = wa :: ra by simp] at hP
      refine (hP _ (catS _ _) _).mono ?_
      rintro v H' ⟨rfl, rfl⟩
      conv => whnf
      rw [show IntKind.i64.wrap (((ra.length + 1 : Nat) : Int) + 0) = ((ra.length + 1 : Nat) : Int) by rw [IntKind.wrap_i64]; omega, show (((ra.length + 1 : Nat) : Int) != ((ra.length + 1 : Nat) : Int)) = false from bne_self_eq_false _]
      conv => whnf
      refine aw_loop dok (fun i : Nat => [(5, .v (.sl 2 0 0 (ra.length + 1) 1)), (6, .v (.nilS)), (7, .v (.sl 3 0 0 (ra.length + 1) 1)), (37, i64 ((ra.length + 1 : Nat) : Int)), (38, i64 i)]) (fun _ => _) (fun i => i ≤ ra.length + 1) (fun i => ra.length + 1 - i) 0 ⟨rfl, rfl, rfl, rfl, rfl, trivial⟩ rfl (Nat.zero_le _) ?_
      intro i hi
      by_cases c : i < ra.length + 1
      · conv => whnf
        rw [decide_eq_true (show (i : Int) < ((ra.length + 1 : Nat) : Int) by omega)]; conv => whnf
        refine DR.std (by decide +kernel) ⟨[], ?_⟩
        conv => whnf
        rw [decide_eq_true (show (i : Int) < ((ra.length + 1 : Nat) : Int) by omega)]; conv => whnf
        rw [blt_of (show i < ra.length + 1 by omega)]; conv => whnf
        rw [show (0 + i) * 1 = i by omega, blt_of (show i < ra.length + 1 by omega)]; conv => whnf
        rw [blt_of (show i < ra.length + 1 by omega)]; conv => whnf
        rw [show (0 + i) * 1 = i by omega, blt_of (show i < ra.length + 1 by omega)]; conv => whnf
        rw [same_get]; conv => whnf
        rw [decide_eq_false (show ¬ ((ra.length + 1 : Nat) : Int) ≤ (i : Int) by omega)]; conv => whnf
        exact ⟨i + 1, c, by show ra.length + 1 - (i + 1) < ra.length + 1 - i; omega, ⟨rfl, rfl, rfl, rfl, gK i (by omega), trivial⟩, rfl⟩
      · conv => whnf
        rw [decide_eq_false (show ¬ (i : Int) < ((ra.length + 1 : Nat) : Int) by omega)]; conv => whnf
        refine (known1 _).mono ?_
        rintro v H' ⟨rfl, rfl⟩
        conv => whnf
    · conv => whnf
      have hrb : rb.length + 1 ≤ 15 := hb1
      refine (list1 (wa :: ra) (ra.length + 1) ha2 (by omega) (by omega) (p := 2) rfl rfl).mono ?_
      rintro v H' ⟨rfl, rfl⟩
      conv => whnf
      refine ⟨catLe sa (by decide : (ba [10]).size ≤ 1) (by decide), ?_⟩
      conv => whnf
      refine (list1 (wb :: rb) (rb.length + 1) hb2 (by omega) (by omega) (p := 3) rfl rfl).mono ?_
      rintro v H' ⟨rfl, rfl⟩
      conv => whnf
      refine ⟨catLe (lsz2 sa) sb (by decide), ?_⟩
      conv => whnf
      obtain ⟨T, eT⟩ : ∃ T, T = ra ++ (wb :: rb) := ⟨_, rfl⟩
      have hT : T.length = ra.length + (rb.length + 1) := by rw [eT]; exact List.length_append
      have hP := fun S hS G => linesP ha2 hb2 ha1 hb1 S hS G
      rw [show wa :: ra ++ wb :: rb = wa :: T by rw [eT]; rfl] at hP
      refine (hP _ (catS _ _) _).mono ?_
      rintro v H' ⟨rfl, rfl⟩
      conv => whnf
      have gl : ∀ i, i < ra.length + 1 → (wa :: T).getD i 0 = (wa :: ra).getD i 0 := fun i hi => by rw [eT]; exact get_l (wa :: ra) (wb :: rb) i hi
      have gr : ∀ i, ra.length + 1 ≤ i → (wa :: T).getD i 0 = (wb :: rb).getD (i - (ra.length + 1)) 0 := fun i hi => by rw [eT]; exact get_r (wa :: ra) (wb :: rb) i hi
      rw [show IntKind.i64.wrap (((ra.length + 1 : Nat) : Int) + ((rb.length + 1 : Nat) : Int)) = ((T.length + 1 : Nat) : Int) by rw [IntKind.wrap_i64]; omega, show (((T.length + 1 : Nat) : Int) != ((T.length + 1 : Nat) : Int)) = false from bne_self_eq_false _]
      conv => whnf
      refine aw_loop dok (fun i : Nat => [(5, .v (.sl 2 0 0 (ra.length + 1) 1)), (6, .v (.sl 3 0 0 (rb.length + 1) 1)), (7, .v (.sl 4 0 0 (T.length + 1) 1)), (37, i64 ((T.length + 1 : Nat) : Int)), (38, i64 i)]) (fun _ => _) (fun i => i ≤ T.length + 1) (fun i => T.length + 1 - i) 0 ⟨rfl, rfl, rfl, rfl, rfl, trivial⟩ rfl (Nat.zero_le _) ?_
      intro i hi
      by_cases c : i < T.length + 1
      · conv => whnf
        rw [decide_eq_true (show (i : Int) < ((T.length + 1 : Nat) : Int) by omega)]; conv => whnf
        refine DR.std (by decide +kernel) ⟨[], ?_⟩
        conv => whnf
        by_cases c2 : i < ra.length + 1
        · rw [decide_eq_true (show (i : Int) < ((ra.length + 1 : Nat) : Int) by omega)]; conv => whnf
          rw [blt_of (show i < T.length + 1 by omega)]; conv => whnf
          rw [show (0 + i) * 1 = i by omega, blt_of (show i < T.length + 1 by omega)]; conv => whnf
          rw [blt_of (show i < ra.length + 1 by omega)]; conv => whnf
          rw [show (0 + i) * 1 = i by omega, blt_of (show i < ra.length + 1 by omega)]; conv => whnf
          rw [gl i c2, same_get]; conv => whnf
          rw [decide_eq_false (show ¬ ((ra.length + 1 : Nat) : Int) ≤ (i : Int) by omega)]; conv => whnf
          exact ⟨i + 1, c, by show T.length + 1 - (i + 1) < T.length + 1 - i; omega, ⟨rfl, rfl, rfl, rfl, gK i (by omega), trivial⟩, rfl⟩
        · rw [decide_eq_false (show ¬ (i : Int) < ((ra.length + 1 : Nat) : Int) by omega)]; conv => whnf
          rw [decide_eq_true (show ((ra.length + 1 : Nat) : Int) ≤ (i : Int) by omega)]; conv => whnf
          rw [blt_of (show i < T.length + 1 by omega)]; conv => whnf
          rw [show (0 + i) * 1 = i by omega, blt_of (show i < T.length + 1 by omega)]; conv => whnf
          rw [subK i (ra.length + 1) (by omega) (by omega)]; conv => whnf
          rw [blt_of (show i - (ra.length + 1) < rb.length + 1 by omega)]; conv => whnf
          rw [show (0 + (i - (ra.length + 1))) * 1 = i - (ra.length + 1) by omega, blt_of (show i - (ra.length + 1) < rb.length + 1 by omega)]; conv => whnf
          rw [gr i (by omega), same_get]; conv => whnf
          exact ⟨i + 1, c, by show T.length + 1 - (i + 1) < T.length + 1 - i; omega, ⟨rfl, rfl, rfl, rfl, gK i (by omega), trivial⟩, rfl⟩
      · conv => whnf
        rw [decide_eq_false (show ¬ (i : Int) < ((T.length + 1 : Nat) : Int) by omega)]; conv => whnf
        refine (known1 _).mono ?_
        rintro v H' ⟨rfl, rfl⟩
        conv => whnf
set_option maxHeartbeats 40000000 in
theorem lines_dd (tv tw : V)  (h0 : tapeAt [.dead, .dead] tv) (h1 : ∀ Lr, tapeAt ([.dead, .dead] ++ rowH Lr) tw) : AC Tryz.prog 4 [.v tv, .v tw] [.dead, .dead] (fun v _ => v = bo true) := by
  refine AC.of_body dok Tryz.func4 rfl rfl (Nat.le_of_ble_eq_true rfl) ?_
  conv => whnf
  refine (rawG h0 15 (by decide)).mono ?_
  rintro v H' ⟨La, ha1, ha2, rfl, rfl⟩
  conv => whnf
  refine (rawG (h1 La) 15 (by decide)).mono ?_
  rintro v H' ⟨Lb, hb1, hb2, rfl, rfl⟩
  have sa := lsz ha2 ha1
  have sb := lsz hb2 hb1
  rcases La with _ | ⟨wa, ra⟩
  · conv => whnf
    rcases Lb with _ | ⟨wb, rb⟩
    · conv => whnf
      refine (list2 _).mono ?_
      rintro v H' ⟨rfl, rfl⟩
      conv => whnf
      refine ⟨by decide, ?_⟩
      conv => whnf
      refine (list2 _).mono ?_
      rintro v H' ⟨rfl, rfl⟩
      conv => whnf
      refine ⟨by decide, ?_⟩
      conv => whnf
      refine (linesP (La := []) (Lb := []) (by simp) (by simp) (by decide) (by decide) _ (by rfl) _).mono ?_
      rintro v H' ⟨rfl, rfl⟩
      conv => whnf
      refine aw_rounds dok 1 ?_
      conv => whnf
      refine (known1 _).mono ?_
      rintro v H' ⟨rfl, rfl⟩
      conv => whnf
    · conv => whnf
      have hrb : rb.length + 1 ≤ 15 := hb1
      refine (list2 _).mono ?_
      rintro v H' ⟨rfl, rfl⟩
      conv => whnf
      refine ⟨catLe sa (by decide : (ba [10]).size ≤ 1) (by decide), ?_⟩
      conv => whnf
      refine (list1 (wb :: rb) (rb.length + 1) hb2 (by omega) (by omega) (p := 2) rfl rfl).mono ?_
      rintro v H' ⟨rfl, rfl⟩
      conv => whnf
      refine ⟨catLe (lsz2 sa) sb (by decide), ?_⟩
      conv => whnf
      have hP := fun S hS G => linesP ha2 hb2 ha1 hb1 S hS G
      rw [show [] ++ wb :: rb = wb :: rb from rfl] at hP
      refine (hP _ (catS _ _) _).mono ?_
      rintro v H' ⟨rfl, rfl⟩
      conv => whnf
      rw [show IntKind.i64.wrap (0 + ((rb.length + 1 : Nat) : Int)) = ((rb.length + 1 : Nat) : Int) by rw [IntKind.wrap_i64]; omega, show (((rb.length + 1 : Nat) : Int) != ((rb.length + 1 : Nat) : Int)) = false from bne_self_eq_false _]
      conv => whnf
      refine aw_loop dok (fun i : Nat => [(5, .v (.nilS)), (6, .v (.sl 2 0 0 (rb.length + 1) 1)), (7, .v (.sl 3 0 0 (rb.length + 1) 1)), (37, i64 ((rb.length + 1 : Nat) : Int)), (38, i64 i)]) (fun _ => _) (fun i => i ≤ rb.length + 1) (fun i => rb.length + 1 - i) 0 ⟨rfl, rfl, rfl, rfl, rfl, trivial⟩ rfl (Nat.zero_le _) ?_
      intro i hi
      by_cases c : i < rb.length + 1
      · conv => whnf
        rw [decide_eq_true (show (i : Int) < ((rb.length + 1 : Nat) : Int) by omega)]; conv => whnf
        refine DR.std (by decide +kernel) ⟨[], ?_⟩
        conv => whnf
        rw [decide_eq_false (show ¬ (i : Int) < 0 by omega)]; conv => whnf
        rw [decide_eq_true (show (0 : Int) ≤ (i : Int) by omega)]; conv => whnf
        rw [blt_of (show i < rb.length + 1 by omega)]; conv => whnf
        rw [show (0 + i) * 1 = i by omega, blt_of (show i < rb.length + 1 by omega)]; conv => whnf
        rw [show IntKind.i64.wrap ((i : Int) - 0) = (i : Int) by rw [IntKind.wrap_i64]; omega]; conv => whnf
        rw [blt_of (show i < rb.length + 1 by omega)]; conv => whnf
        rw [show (0 + i) * 1 = i by omega, blt_of (show i < rb.length + 1 by omega)]; conv => whnf
        rw [same_get]; conv => whnf
        exact ⟨i + 1, c, by show rb.length + 1 - (i + 1) < rb.length + 1 - i; omega, ⟨rfl, rfl, rfl, rfl, gK i (by omega), trivial⟩, rfl⟩
      · conv => whnf
        rw [decide_eq_false (show ¬ (i : Int) < ((rb.length + 1 : Nat) : Int) by omega)]; conv => whnf
        refine (known1 _).mono ?_
        rintro v H' ⟨rfl, rfl⟩
        conv => whnf
  · conv => whnf
    have hra : ra.length + 1 ≤ 15 := ha1
    rcases Lb with _ | ⟨wb, rb⟩
    · conv => whnf
      refine (list1 (wa :: ra) (ra.length + 1) ha2 (by omega) (by omega) (p := 2) rfl rfl).mono ?_
      rintro v H' ⟨rfl, rfl⟩
      conv => whnf
      refine ⟨catLe sa (by decide : (ba [10]).size ≤ 1) (by decide), ?_⟩
      conv => whnf
      refine (list2 _).mono ?_
      rintro v H' ⟨rfl, rfl⟩
      conv => whnf
      refine ⟨catLe (lsz2 sa) sb (by decide), ?_⟩
      conv => whnf
      have hP := fun S hS G => linesP ha2 hb2 ha1 hb1 S hS G
      rw [show wa :: ra ++ [] = wa :: ra by simp] at hP
      refine (hP _ (catS _ _) _).mono ?_
      rintro v H' ⟨rfl, rfl⟩
      conv => whnf
      rw [show IntKind.i64.wrap (((ra.length + 1 : Nat) : Int) + 0) = ((ra.length + 1 : Nat) : Int) by rw [IntKind.wrap_i64]; omega, show (((ra.length + 1 : Nat) : Int) != ((ra.length + 1 : Nat) : Int)) = false from bne_self_eq_false _]
      conv => whnf
      refine aw_loop dok (fun i : Nat => [(5, .v (.sl 2 0 0 (ra.length + 1) 1)), (6, .v (.nilS)), (7, .v (.sl 3 0 0 (ra.length + 1) 1)), (37, i64 ((ra.length + 1 : Nat) : Int)), (38, i64 i)]) (fun _ => _) (fun i => i ≤ ra.length + 1) (fun i => ra.length + 1 - i) 0 ⟨rfl, rfl, rfl, rfl, rfl, trivial⟩ rfl (Nat.zero_le _) ?_
      intro i hi
      by_cases c : i < ra.length + 1
      · conv => whnf
        rw [decide_eq_true (show (i : Int) < ((ra.length + 1 : Nat) : Int) by omega)]; conv => whnf
        refine DR.std (by decide +kernel) ⟨[], ?_⟩
        conv => whnf
        rw [decide_eq_true (show (i : Int) < ((ra.length + 1 : Nat) : Int) by omega)]; conv => whnf
        rw [blt_of (show i < ra.length + 1 by omega)]; conv => whnf
        rw [show (0 + i) * 1 = i by omega, blt_of (show i < ra.length + 1 by omega)]; conv => whnf
        rw [blt_of (show i < ra.length + 1 by omega)]; conv => whnf
        rw [show (0 + i) * 1 = i by omega, blt_of (show i < ra.length + 1 by omega)]; conv => whnf
        rw [same_get]; conv => whnf
        rw [decide_eq_false (show ¬ ((ra.length + 1 : Nat) : Int) ≤ (i : Int) by omega)]; conv => whnf
        exact ⟨i + 1, c, by show ra.length + 1 - (i + 1) < ra.length + 1 - i; omega, ⟨rfl, rfl, rfl, rfl, gK i (by omega), trivial⟩, rfl⟩
      · conv => whnf
        rw [decide_eq_false (show ¬ (i : Int) < ((ra.length + 1 : Nat) : Int) by omega)]; conv => whnf
        refine (known1 _).mono ?_
        rintro v H' ⟨rfl, rfl⟩
        conv => whnf
    · conv => whnf
      have hrb : rb.length + 1 ≤ 15 := hb1
      refine (list1 (wa :: ra) (ra.length + 1) ha2 (by omega) (by omega) (p := 2) rfl rfl).mono ?_
      rintro v H' ⟨rfl, rfl⟩
      conv => whnf
      refine ⟨catLe sa (by decide : (ba [10]).size ≤ 1) (by decide), ?_⟩
      conv => whnf
      refine (list1 (wb :: rb) (rb.length + 1) hb2 (by omega) (by omega) (p := 3) rfl rfl).mono ?_
      rintro v H' ⟨rfl, rfl⟩
      conv => whnf
      refine ⟨catLe (lsz2 sa) sb (by decide), ?_⟩
      conv => whnf
      obtain ⟨T, eT⟩ : ∃ T, T = ra ++ (wb :: rb) := ⟨_, rfl⟩
      have hT : T.length = ra.length + (rb.length + 1) := by rw [eT]; exact List.length_append
      have hP := fun S hS G => linesP ha2 hb2 ha1 hb1 S hS G
      rw [show wa :: ra ++ wb :: rb = wa :: T by rw [eT]; rfl] at hP
      refine (hP _ (catS _ _) _).mono ?_
      rintro v H' ⟨rfl, rfl⟩
      conv => whnf
      have gl : ∀ i, i < ra.length + 1 → (wa :: T).getD i 0 = (wa :: ra).getD i 0 := fun i hi => by rw [eT]; exact get_l (wa :: ra) (wb :: rb) i hi
      have gr : ∀ i, ra.length + 1 ≤ i → (wa :: T).getD i 0 = (wb :: rb).getD (i - (ra.length + 1)) 0 := fun i hi => by rw [eT]; exact get_r (wa :: ra) (wb :: rb) i hi
      rw [show IntKind.i64.wrap (((ra.length + 1 : Nat) : Int) + ((rb.length + 1 : Nat) : Int)) = ((T.length + 1 : Nat) : Int) by rw [IntKind.wrap_i64]; omega, show (((T.length + 1 : Nat) : Int) != ((T.length + 1 : Nat) : Int)) = false from bne_self_eq_false _]
      conv => whnf
      refine aw_loop dok (fun i : Nat => [(5, .v (.sl 2 0 0 (ra.length + 1) 1)), (6, .v (.sl 3 0 0 (rb.length + 1) 1)), (7, .v (.sl 4 0 0 (T.length + 1) 1)), (37, i64 ((T.length + 1 : Nat) : Int)), (38, i64 i)]) (fun _ => _) (fun i => i ≤ T.length + 1) (fun i => T.length + 1 - i) 0 ⟨rfl, rfl, rfl, rfl, rfl, trivial⟩ rfl (Nat.zero_le _) ?_
      intro i hi
      by_cases c : i < T.length + 1
      · conv => whnf
        rw [decide_eq_true (show (i : Int) < ((T.length + 1 : Nat) : Int) by omega)]; conv => whnf
        refine DR.std (by decide +kernel) ⟨[], ?_⟩
        conv => whnf
        by_cases c2 : i < ra.length + 1
        · rw [decide_eq_true (show (i : Int) < ((ra.length + 1 : Nat) : Int) by omega)]; conv => whnf
          rw [blt_of (show i < T.length + 1 by omega)]; conv => whnf
          rw [show (0 + i) * 1 = i by omega, blt_of (show i < T.length + 1 by omega)]; conv => whnf
          rw [blt_of (show i < ra.length + 1 by omega)]; conv => whnf
          rw [show (0 + i) * 1 = i by omega, blt_of (show i < ra.length + 1 by omega)]; conv => whnf
          rw [gl i c2, same_get]; conv => whnf
          rw [decide_eq_false (show ¬ ((ra.length + 1 : Nat) : Int) ≤ (i : Int) by omega)]; conv => whnf
          exact ⟨i + 1, c, by show T.length + 1 - (i + 1) < T.length + 1 - i; omega, ⟨rfl, rfl, rfl, rfl, gK i (by omega), trivial⟩, rfl⟩
        · rw [decide_eq_false (show ¬ (i : Int) < ((ra.length + 1 : Nat) : Int) by omega)]; conv => whnf
          rw [decide_eq_true (show ((ra.length + 1 : Nat) : Int) ≤ (i : Int) by omega)]; conv => whnf
          rw [blt_of (show i < T.length + 1 by omega)]; conv => whnf
          rw [show (0 + i) * 1 = i by omega, blt_of (show i < T.length + 1 by omega)]; conv => whnf
          rw [subK i (ra.length + 1) (by omega) (by omega)]; conv => whnf
          rw [blt_of (show i - (ra.length + 1) < rb.length + 1 by omega)]; conv => whnf
          rw [show (0 + (i - (ra.length + 1))) * 1 = i - (ra.length + 1) by omega, blt_of (show i - (ra.length + 1) < rb.length + 1 by omega)]; conv => whnf
          rw [gr i (by omega), same_get]; conv => whnf
          exact ⟨i + 1, c, by show T.length + 1 - (i + 1) < T.length + 1 - i; omega, ⟨rfl, rfl, rfl, rfl, gK i (by omega), trivial⟩, rfl⟩
      · conv => whnf
        rw [decide_eq_false (show ¬ (i : Int) < ((T.length + 1 : Nat) : Int) by omega)]; conv => whnf
        refine (known1 _).mono ?_
        rintro v H' ⟨rfl, rfl⟩
        conv => whnf
end Go.Proofs.YtgglclmilocgcaaGreatDoor.Md
