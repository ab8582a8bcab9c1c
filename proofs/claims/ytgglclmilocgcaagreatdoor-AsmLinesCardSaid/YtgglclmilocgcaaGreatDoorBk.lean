/- The assembler's functions. -/
import Derived.Test.YtgglclmilocgcaaGreatDoorKn
set_option linter.unusedVariables false
set_option linter.unusedSimpArgs false
namespace Go.Proofs.YtgglclmilocgcaaGreatDoor.Md
open Go.RowKit Go.Proofs.YtgglclmilocgcaaGreatDoor.Ae Go.Proofs.YtgglclmilocgcaaGreatDoor.Bv Go.Proofs.YtgglclmilocgcaaGreatDoor
/-- A row of words that came in. -/
def wordsAt (lv : V) (b1 : Blk) : Prop := (lv = .nilS ∧ b1 = .dead) ∨ (lv = .sl 1 0 0 0 1 ∧ b1 = .dead) ∨ ∃ (n : Nat) (L : List Int), 0 < n ∧ lv = .sl 1 0 0 n 1 ∧ b1 = .ro [.ints .u32 n L] ∧ L.length = n ∧ (∀ x ∈ L, uR x) ∧ n ≤ 9223372036854775807
/-- What lies in it, up to forty. -/
def wordsUpto : Blk → List Int
  | .ro [.ints _ _ L] => L.take 40
  | _ => []
theorem listL_app (a b : List Nat) : listL (a ++ b) = listL a ++ listL b := by unfold listL; rw [List.flatMap_append]
theorem lw_no {w : Nat} (hw : w < 4294967296) : ∀ b ∈ lw w, b ≠ 10 := by
  unfold lw
  split
  · intro b hb e
    have := txt_in _ b hb
    subst e
    exact absurd this (by decide)
  · intro b hb
    unfold wl at hb
    rcases List.mem_append.1 hb with hb | hb
    · have : ∀ b ∈ ([46, 119, 111, 114, 100, 32] : List UInt8), b ≠ 10 := by decide
      exact this b hb
    · exact dec_no w 10 (by decide) b hb
theorem cutL_list {r : List UInt8} : ∀ {a : List Nat}, (∀ w ∈ a, w < 4294967296) → cutL 10 (listL a ++ r) = a.map lw ++ cutL 10 r
  | [], _ => rfl
  | w :: a, h => by
    have hw := h w List.mem_cons_self
    have : listL (w :: a) ++ r = lw w ++ 10 :: (listL a ++ r) := by unfold listL; rw [List.flatMap_cons]; simp
    rw [this, cutL_at (lw_no hw), cutL_list fun x hx => h x (List.mem_cons_of_mem _ hx)]
    rfl
def progVg (p : Nat) : List Int → AV
  | [] => .tup [.v .nilS, i64 0]
  | _ :: r => .tup [.v (.sl p 0 0 (r.length + 1) 1), i64 0]
theorem progG (s : ByteArray) (hs : s.size < 1000000) (Ps : List (Option Nat)) (hn : Ps.length ≤ 1000) (hw : ∀ w, some w ∈ Ps → w < 4294967296) (hc : cutL 10 s.data.toList = Ps.map pc) (G : Hp) : AC Tryz.prog 6 [.v (.str s)] G (fun v H => v = progVg G.length (wordsOf Ps) ∧ H = G ++ progH (wordsOf Ps)) := by
  refine ((prog0 s hs Ps hn hw hc).embed [] (G := G) (by simp) (by simp) trivial).mono ?_
  rintro v G' ⟨v0, H', ⟨rfl, rfl⟩, _, rfl, rfl⟩
  generalize wordsOf Ps = W
  cases W with
  | nil => exact ⟨rfl, by simp [progH, embP]⟩
  | cons w r => exact ⟨rfl, by simp [progH, embP, Blk.ren, rensS, Seg.ren, V.ren, nthN]⟩
/-- The pieces of a list of words. -/
def psOf (LL : List Int) : List (Option Nat) := (LL.map Int.toNat).map some ++ [none]
theorem ps_words {LL : List Int} (hu : ∀ x ∈ LL, uR x) : wordsOf (psOf LL) = LL := by
  unfold wordsOf psOf
  rw [List.filterMap_append]
  have e1 : ((LL.map Int.toNat).map some).filterMap id = LL.map Int.toNat := by
    rw [List.filterMap_map]; simp [Function.comp_def]
  rw [e1]
  simp only [List.filterMap_cons, List.filterMap_nil, id, List.append_nil, List.map_map]
  conv => rhs; rw [← List.map_id LL]
  apply List.map_congr_left
  intro x hx
  have := hu x hx
  show ((x.toNat : Nat) : Int) = x
  omega
theorem nat_r {LL : List Int} (hu : ∀ x ∈ LL, uR x) : ∀ w ∈ LL.map Int.toNat, w < 4294967296 := by
  intro w hw
  obtain ⟨x, hx, rfl⟩ := List.mem_map.1 hw
  have := hu x hx
  omega
theorem ps_in {LL : List Int} (hu : ∀ x ∈ LL, uR x) : ∀ w, some w ∈ psOf LL → w < 4294967296 := by
  intro w hw
  unfold psOf at hw
  rcases List.mem_append.1 hw with hw | hw
  · obtain ⟨x, hx, e⟩ := List.mem_map.1 hw
    injection e with e; subst e
    exact nat_r hu x hx
  · simp at hw
theorem ps_cut {LL : List Int} (hu : ∀ x ∈ LL, uR x) : cutL 10 (ba (listL (LL.map Int.toNat))).data.toList = (psOf LL).map pc := by
  have := cutL_list (r := []) (nat_r hu)
  rw [List.append_nil] at this
  show cutL 10 (listL (LL.map Int.toNat)) = _
  rw [this]
  unfold psOf
  rw [List.map_append, List.map_map (f := some)]
  rfl
theorem listL_len {l : List Nat} (h : ∀ w ∈ l, w < 4294967296) : (listL l).length ≤ l.length * 76 := by
  induction l with
  | nil => simp [listL]
  | cons w l ih =>
    have h1 := ih fun x hx => h x (List.mem_cons_of_mem _ hx)
    have h2 := lw_len w (h w List.mem_cons_self)
    have : listL (w :: l) = lw w ++ [10] ++ listL l := by unfold listL; rw [List.flatMap_cons]
    rw [this]
    simp only [List.length_append, List.length_cons, List.length_nil]; omega
theorem backP {LL : List Int} (hu : ∀ x ∈ LL, uR x) (hn : LL.length ≤ 900) (G : Hp) : AC Tryz.prog 6 [tx (listL (LL.map Int.toNat))] G (fun v H => v = progVg G.length LL ∧ H = G ++ progH LL) := by
  have h1 := listL_len (nat_r hu)
  rw [List.length_map] at h1
  have := progG (ba (listL (LL.map Int.toNat))) (by rw [ba_size]; omega) (psOf LL) (by unfold psOf; simp; omega) (ps_in hu) (ps_cut hu) G
  rw [ps_words hu] at this
  exact this
theorem same_get (l : List Int) (i : Nat) : (l.getD i 0 != l.getD i 0) = false := bne_self_eq_false _
set_option maxHeartbeats 40000000 in
theorem back_go (tv : V) (b0 : Blk) (ht : tapeOk tv b0) (n : Nat) (L : List Int) (hn0 : 0 < n) (hl : L.length = n) (hu : ∀ x ∈ L, uR x) (hn : n ≤ 9223372036854775807) : AC Tryz.prog 3 [.v tv, .v (.sl 1 0 0 n 1)] [b0, .ro [.ints .u32 n L]] (fun v _ => v = bo true) := by
  have hta : tapeAt [b0, .ro [.ints .u32 n L]] tv := by
    rcases ht with ⟨rfl, rfl⟩ | ⟨rfl, rfl⟩ | ⟨m, l, rfl, rfl, hm⟩
    · exact .inl rfl
    · exact .inr ⟨0, Nat.le_of_ble_eq_true rfl, .inl rfl⟩
    · exact .inr ⟨0, Nat.le_of_ble_eq_true rfl, .inr ⟨m, l, rfl, rfl, hm⟩⟩
  refine AC.of_body dok Tryz.func3 rfl rfl (Nat.le_of_ble_eq_true rfl) ?_
  conv => whnf
  refine DR.mk ⟨.take 0 (.take 2 (.take 3 (.alt 1 (.alt 4 (.alt 5 (.take 6 (.alt 7 (.take 8 .done) .nil)) .nil) .nil) (.alt 4 (.alt 1 (.alt 5 (.take 6 (.alt 7 (.take 8 .done) .nil)) .nil) (.alt 5 (.take 6 (.alt 1 (.alt 7 (.take 8 .done) .nil) .nil)) .nil)) .nil)))), by decide +kernel, [2], ?_⟩
  obtain ⟨k, hkd⟩ : ∃ k, k = min n 40 := ⟨_, rfl⟩
  have hk0 : 0 < k := by omega
  have hkn : k ≤ n := by omega
  have hk : (if (40 : Int) < (n : Int) then (40 : Int) else (n : Int)) = ((k : Nat) : Int) := by split <;> omega
  rcases ht with ⟨rfl, rfl⟩ | ⟨rfl, rfl⟩ | ⟨m, l, rfl, rfl, hm⟩
  · conv => whnf
    refine And.intro ?_ ?_
    · conv => whnf
      refine (rawG hta 40 (by decide)).mono ?_
      rintro v H' ⟨Lr, hr1, hr2, rfl, rfl⟩
      conv => whnf
      rw [hk]
      refine ⟨by omega, trivial, by omega, by omega, ?_⟩
      rw [Int.toNat_natCast]
      rcases Lr with _ | ⟨w, r⟩
      · conv => whnf
        rw [show ((0 + 0) * (0 + 1) + (k - 0) * 1).ble n = true from Nat.ble_eq_true_of_le (by omega)]
        conv => whnf
        refine ⟨by omega, room_small (by omega) (by decide), ?_⟩
        conv => whnf
        rw [show (k - 0) * 1 = k by omega, List.append_nil]
        obtain ⟨w0, r0, e⟩ : ∃ w0 r0, List.take k (List.drop ((0 + 0) * (0 + 1)) L) = w0 :: r0 := by
          cases hq : List.take k (List.drop ((0 + 0) * (0 + 1)) L) with
          | nil =>
            have : (List.take k L).length = 0 := congrArg List.length hq
            rw [List.length_take] at this; omega
          | cons a b => exact ⟨a, b, rfl⟩
        have hLL : ∀ x ∈ w0 :: r0, uR x := fun x hx => hu x (List.mem_of_mem_take (e ▸ hx : x ∈ List.take k L))
        have hlen : r0.length + 1 = k := by
          have : (List.take k L).length = (w0 :: r0).length := congrArg List.length e
          rw [List.length_take] at this; simp at this; omega
        rw [e]
        refine (list1 (w0 :: r0) (k - 0) hLL (by omega) (by omega) (p := 2) rfl rfl).mono ?_
        rintro v H' ⟨rfl, rfl⟩
        conv => whnf
        refine (backP (LL := w0 :: r0) hLL (by simp; omega) _).mono ?_
        rintro v H' ⟨rfl, rfl⟩
        conv => whnf
        rw [show (((r0.length + 1 : Nat) : Int) != ((k - 0 : Nat) : Int)) = false by simp; try omega]
        conv => whnf
        refine aw_loop dok (fun i : Nat => [(5, .v (.sl 2 0 0 (k - 0) 1)), (6, .v (.sl 3 0 0 (r0.length + 1) 1)), (33, i64 ((r0.length + 1 : Nat) : Int)), (34, i64 i)]) (fun _ => _) (fun i => i ≤ r0.length + 1) (fun i => r0.length + 1 - i) 0 ⟨rfl, rfl, rfl, rfl, trivial⟩ rfl (Nat.zero_le _) ?_
        intro i hi
        by_cases c : i < r0.length + 1
        · conv => whnf
          rw [decide_eq_true (show (i : Int) < ((r0.length + 1 : Nat) : Int) by omega)]; conv => whnf
          refine DR.std (by decide +kernel) ⟨[], ?_⟩
          conv => whnf
          rw [blt_of (show i < r0.length + 1 by omega)]; conv => whnf
          rw [show (0 + i) * 1 = i by omega, blt_of (show i < r0.length + 1 by omega)]; conv => whnf
          rw [blt_of (show i < k - 0 by omega)]; conv => whnf
          rw [show (0 + i) * 1 = i by omega, blt_of (show i < k + 0 by omega)]; conv => whnf
          rw [same_get]; conv => whnf
          exact ⟨i + 1, c, by show r0.length + 1 - (i + 1) < r0.length + 1 - i; omega, ⟨rfl, rfl, rfl, gK i (by omega), trivial⟩, rfl⟩
        · conv => whnf
          rw [decide_eq_false (show ¬ (i : Int) < ((r0.length + 1 : Nat) : Int) by omega)]; conv => whnf
          refine (known1 _).mono ?_
          rintro v H' ⟨rfl, rfl⟩
          conv => whnf
      · conv => whnf
        rw [show ((0 + 0) * (0 + 1) + (k - 0) * 1).ble n = true from Nat.ble_eq_true_of_le (by omega)]
        conv => whnf
        have hr : r.length + 1 ≤ 40 := hr1
        refine ⟨len_ints _ _ _, room_small (by omega) (by decide), ?_⟩
        conv => whnf
        rw [show (k - 0) * 1 = k by omega, List.append_nil]
        obtain ⟨X, e⟩ : ∃ X, List.take k (List.drop ((0 + 0) * (0 + 1)) L) = X := ⟨_, rfl⟩
        have hX : ∀ x ∈ X, uR x := fun x hx => hu x (List.mem_of_mem_take (e ▸ hx : x ∈ List.take k L))
        have hlen : X.length = k := by
          have : (List.take k L).length = X.length := congrArg List.length e
          rw [List.length_take] at this; omega
        have hlx : (r ++ X).length = r.length + k := by rw [List.length_append]; omega
        have hLL : ∀ x ∈ w :: (r ++ X), uR x := by
          intro x hx
          rcases List.mem_cons.1 hx with rfl | hx
          · exact hr2 _ List.mem_cons_self
          · rcases List.mem_append.1 hx with hx | hx
            · exact hr2 _ (List.mem_cons_of_mem _ hx)
            · exact hX x hx
        rw [e, List.cons_append]
        refine (list1 (w :: (r ++ X)) (r.length + 1 + (k - 0)) hLL (by omega) (by omega) (p := 3) rfl rfl).mono ?_
        rintro v H' ⟨rfl, rfl⟩
        conv => whnf
        refine (backP (LL := w :: (r ++ X)) hLL (by simp; omega) _).mono ?_
        rintro v H' ⟨rfl, rfl⟩
        conv => whnf
        rw [show ((((r ++ X).length + 1 : Nat) : Int) != ((r.length + 1 + (k - 0) : Nat) : Int)) = false by simp; try omega]
        conv => whnf
        refine aw_loop dok (fun i : Nat => [(5, .v (.sl 3 0 0 (r.length + 1 + (k - 0)) 1)), (6, .v (.sl 4 0 0 ((r ++ X).length + 1) 1)), (33, i64 (((r ++ X).length + 1 : Nat) : Int)), (34, i64 i)]) (fun _ => _) (fun i => i ≤ (r ++ X).length + 1) (fun i => (r ++ X).length + 1 - i) 0 ⟨rfl, rfl, rfl, rfl, trivial⟩ rfl (Nat.zero_le _) ?_
        intro i hi
        by_cases c : i < (r ++ X).length + 1
        · conv => whnf
          rw [decide_eq_true (show (i : Int) < (((r ++ X).length + 1 : Nat) : Int) by omega)]; conv => whnf
          refine DR.std (by decide +kernel) ⟨[], ?_⟩
          conv => whnf
          rw [blt_of (show i < (r ++ X).length + 1 by omega)]; conv => whnf
          rw [show (0 + i) * 1 = i by omega, blt_of (show i < (r ++ X).length + 1 by omega)]; conv => whnf
          rw [blt_of (show i < r.length + 1 + (k - 0) by omega)]; conv => whnf
          rw [show (0 + i) * 1 = i by omega, blt_of (show i < r.length + 1 + (k + 0) by omega)]; conv => whnf
          rw [same_get]; conv => whnf
          exact ⟨i + 1, c, by show (r ++ X).length + 1 - (i + 1) < (r ++ X).length + 1 - i; omega, ⟨rfl, rfl, rfl, gK i (by omega), trivial⟩, rfl⟩
        · conv => whnf
          rw [decide_eq_false (show ¬ (i : Int) < (((r ++ X).length + 1 : Nat) : Int) by omega)]; conv => whnf
          refine (known1 _).mono ?_
          rintro v H' ⟨rfl, rfl⟩
          conv => whnf
    · conv => whnf
      refine And.intro ?_ ?_
      · conv => whnf
        refine (rawG hta 40 (by decide)).mono ?_
        rintro v H' ⟨Lr, hr1, hr2, rfl, rfl⟩
        conv => whnf
        rw [hk]
        refine ⟨by omega, trivial, by omega, by omega, ?_⟩
        rw [Int.toNat_natCast]
        rcases Lr with _ | ⟨w, r⟩
        · conv => whnf
          rw [show ((0 + 0) * (0 + 1) + (k - 0) * 1).ble n = true from Nat.ble_eq_true_of_le (by omega)]
          conv => whnf
          refine ⟨by omega, room_small (by omega) (by decide), ?_⟩
          conv => whnf
          rw [show (k - 0) * 1 = k by omega, List.append_nil]
          obtain ⟨w0, r0, e⟩ : ∃ w0 r0, List.take k (List.drop ((0 + 0) * (0 + 1)) L) = w0 :: r0 := by
            cases hq : List.take k (List.drop ((0 + 0) * (0 + 1)) L) with
            | nil =>
              have : (List.take k L).length = 0 := congrArg List.length hq
              rw [List.length_take] at this; omega
            | cons a b => exact ⟨a, b, rfl⟩
          have hLL : ∀ x ∈ w0 :: r0, uR x := fun x hx => hu x (List.mem_of_mem_take (e ▸ hx : x ∈ List.take k L))
          have hlen : r0.length + 1 = k := by
            have : (List.take k L).length = (w0 :: r0).length := congrArg List.length e
            rw [List.length_take] at this; simp at this; omega
          rw [e]
          refine (list1 (w0 :: r0) (k - 0) hLL (by omega) (by omega) (p := 2) rfl rfl).mono ?_
          rintro v H' ⟨rfl, rfl⟩
          conv => whnf
          refine (backP (LL := w0 :: r0) hLL (by simp; omega) _).mono ?_
          rintro v H' ⟨rfl, rfl⟩
          conv => whnf
          rw [show (((r0.length + 1 : Nat) : Int) != ((k - 0 : Nat) : Int)) = false by simp; try omega]
          conv => whnf
          refine aw_loop dok (fun i : Nat => [(5, .v (.sl 2 0 0 (k - 0) 1)), (6, .v (.sl 3 0 0 (r0.length + 1) 1)), (33, i64 ((r0.length + 1 : Nat) : Int)), (34, i64 i)]) (fun _ => _) (fun i => i ≤ r0.length + 1) (fun i => r0.length + 1 - i) 0 ⟨rfl, rfl, rfl, rfl, trivial⟩ rfl (Nat.zero_le _) ?_
          intro i hi
          by_cases c : i < r0.length + 1
          · conv => whnf
            rw [decide_eq_true (show (i : Int) < ((r0.length + 1 : Nat) : Int) by omega)]; conv => whnf
            refine DR.std (by decide +kernel) ⟨[], ?_⟩
            conv => whnf
            rw [blt_of (show i < r0.length + 1 by omega)]; conv => whnf
            rw [show (0 + i) * 1 = i by omega, blt_of (show i < r0.length + 1 by omega)]; conv => whnf
            rw [blt_of (show i < k - 0 by omega)]; conv => whnf
            rw [show (0 + i) * 1 = i by omega, blt_of (show i < k + 0 by omega)]; conv => whnf
            rw [same_get]; conv => whnf
            exact ⟨i + 1, c, by show r0.length + 1 - (i + 1) < r0.length + 1 - i; omega, ⟨rfl, rfl, rfl, gK i (by omega), trivial⟩, rfl⟩
          · conv => whnf
            rw [decide_eq_false (show ¬ (i : Int) < ((r0.length + 1 : Nat) : Int) by omega)]; conv => whnf
            refine (known1 _).mono ?_
            rintro v H' ⟨rfl, rfl⟩
            conv => whnf
        · conv => whnf
          rw [show ((0 + 0) * (0 + 1) + (k - 0) * 1).ble n = true from Nat.ble_eq_true_of_le (by omega)]
          conv => whnf
          have hr : r.length + 1 ≤ 40 := hr1
          refine ⟨len_ints _ _ _, room_small (by omega) (by decide), ?_⟩
          conv => whnf
          rw [show (k - 0) * 1 = k by omega, List.append_nil]
          obtain ⟨X, e⟩ : ∃ X, List.take k (List.drop ((0 + 0) * (0 + 1)) L) = X := ⟨_, rfl⟩
          have hX : ∀ x ∈ X, uR x := fun x hx => hu x (List.mem_of_mem_take (e ▸ hx : x ∈ List.take k L))
          have hlen : X.length = k := by
            have : (List.take k L).length = X.length := congrArg List.length e
            rw [List.length_take] at this; omega
          have hlx : (r ++ X).length = r.length + k := by rw [List.length_append]; omega
          have hLL : ∀ x ∈ w :: (r ++ X), uR x := by
            intro x hx
            rcases List.mem_cons.1 hx with rfl | hx
            · exact hr2 _ List.mem_cons_self
            · rcases List.mem_append.1 hx with hx | hx
              · exact hr2 _ (List.mem_cons_of_mem _ hx)
              · exact hX x hx
          rw [e, List.cons_append]
          refine (list1 (w :: (r ++ X)) (r.length + 1 + (k - 0)) hLL (by omega) (by omega) (p := 3) rfl rfl).mono ?_
          rintro v H' ⟨rfl, rfl⟩
          conv => whnf
          refine (backP (LL := w :: (r ++ X)) hLL (by simp; omega) _).mono ?_
          rintro v H' ⟨rfl, rfl⟩
          conv => whnf
          rw [show ((((r ++ X).length + 1 : Nat) : Int) != ((r.length + 1 + (k - 0) : Nat) : Int)) = false by simp; try omega]
          conv => whnf
          refine aw_loop dok (fun i : Nat => [(5, .v (.sl 3 0 0 (r.length + 1 + (k - 0)) 1)), (6, .v (.sl 4 0 0 ((r ++ X).length + 1) 1)), (33, i64 (((r ++ X).length + 1 : Nat) : Int)), (34, i64 i)]) (fun _ => _) (fun i => i ≤ (r ++ X).length + 1) (fun i => (r ++ X).length + 1 - i) 0 ⟨rfl, rfl, rfl, rfl, trivial⟩ rfl (Nat.zero_le _) ?_
          intro i hi
          by_cases c : i < (r ++ X).length + 1
          · conv => whnf
            rw [decide_eq_true (show (i : Int) < (((r ++ X).length + 1 : Nat) : Int) by omega)]; conv => whnf
            refine DR.std (by decide +kernel) ⟨[], ?_⟩
            conv => whnf
            rw [blt_of (show i < (r ++ X).length + 1 by omega)]; conv => whnf
            rw [show (0 + i) * 1 = i by omega, blt_of (show i < (r ++ X).length + 1 by omega)]; conv => whnf
            rw [blt_of (show i < r.length + 1 + (k - 0) by omega)]; conv => whnf
            rw [show (0 + i) * 1 = i by omega, blt_of (show i < r.length + 1 + (k + 0) by omega)]; conv => whnf
            rw [same_get]; conv => whnf
            exact ⟨i + 1, c, by show (r ++ X).length + 1 - (i + 1) < (r ++ X).length + 1 - i; omega, ⟨rfl, rfl, rfl, gK i (by omega), trivial⟩, rfl⟩
          · conv => whnf
            rw [decide_eq_false (show ¬ (i : Int) < (((r ++ X).length + 1 : Nat) : Int) by omega)]; conv => whnf
            refine (known1 _).mono ?_
            rintro v H' ⟨rfl, rfl⟩
            conv => whnf
      · conv => whnf
        rw [hk]
        refine ⟨by omega, trivial, by omega, by omega, ?_⟩
        rw [Int.toNat_natCast]
        conv => whnf
        refine (rawG hta 40 (by decide)).mono ?_
        rintro v H' ⟨Lr, hr1, hr2, rfl, rfl⟩
        rcases Lr with _ | ⟨w, r⟩
        · conv => whnf
          rw [show ((0 + 0) * (0 + 1) + (k - 0) * 1).ble n = true from Nat.ble_eq_true_of_le (by omega)]
          conv => whnf
          refine ⟨by omega, room_small (by omega) (by decide), ?_⟩
          conv => whnf
          rw [show (k - 0) * 1 = k by omega, List.append_nil]
          obtain ⟨w0, r0, e⟩ : ∃ w0 r0, List.take k (List.drop ((0 + 0) * (0 + 1)) L) = w0 :: r0 := by
            cases hq : List.take k (List.drop ((0 + 0) * (0 + 1)) L) with
            | nil =>
              have : (List.take k L).length = 0 := congrArg List.length hq
              rw [List.length_take] at this; omega
            | cons a b => exact ⟨a, b, rfl⟩
          have hLL : ∀ x ∈ w0 :: r0, uR x := fun x hx => hu x (List.mem_of_mem_take (e ▸ hx : x ∈ List.take k L))
          have hlen : r0.length + 1 = k := by
            have : (List.take k L).length = (w0 :: r0).length := congrArg List.length e
            rw [List.length_take] at this; simp at this; omega
          rw [e]
          refine (list1 (w0 :: r0) (k - 0) hLL (by omega) (by omega) (p := 2) rfl rfl).mono ?_
          rintro v H' ⟨rfl, rfl⟩
          conv => whnf
          refine (backP (LL := w0 :: r0) hLL (by simp; omega) _).mono ?_
          rintro v H' ⟨rfl, rfl⟩
          conv => whnf
          rw [show (((r0.length + 1 : Nat) : Int) != ((k - 0 : Nat) : Int)) = false by simp; try omega]
          conv => whnf
          refine aw_loop dok (fun i : Nat => [(5, .v (.sl 2 0 0 (k - 0) 1)), (6, .v (.sl 3 0 0 (r0.length + 1) 1)), (33, i64 ((r0.length + 1 : Nat) : Int)), (34, i64 i)]) (fun _ => _) (fun i => i ≤ r0.length + 1) (fun i => r0.length + 1 - i) 0 ⟨rfl, rfl, rfl, rfl, trivial⟩ rfl (Nat.zero_le _) ?_
          intro i hi
          by_cases c : i < r0.length + 1
          · conv => whnf
            rw [decide_eq_true (show (i : Int) < ((r0.length + 1 : Nat) : Int) by omega)]; conv => whnf
            refine DR.std (by decide +kernel) ⟨[], ?_⟩
            conv => whnf
            rw [blt_of (show i < r0.length + 1 by omega)]; conv => whnf
            rw [show (0 + i) * 1 = i by omega, blt_of (show i < r0.length + 1 by omega)]; conv => whnf
            rw [blt_of (show i < k - 0 by omega)]; conv => whnf
            rw [show (0 + i) * 1 = i by omega, blt_of (show i < k + 0 by omega)]; conv => whnf
            rw [same_get]; conv => whnf
            exact ⟨i + 1, c, by show r0.length + 1 - (i + 1) < r0.length + 1 - i; omega, ⟨rfl, rfl, rfl, gK i (by omega), trivial⟩, rfl⟩
          · conv => whnf
            rw [decide_eq_false (show ¬ (i : Int) < ((r0.length + 1 : Nat) : Int) by omega)]; conv => whnf
            refine (known1 _).mono ?_
            rintro v H' ⟨rfl, rfl⟩
            conv => whnf
        · conv => whnf
          rw [show ((0 + 0) * (0 + 1) + (k - 0) * 1).ble n = true from Nat.ble_eq_true_of_le (by omega)]
          conv => whnf
          have hr : r.length + 1 ≤ 40 := hr1
          refine ⟨len_ints _ _ _, room_small (by omega) (by decide), ?_⟩
          conv => whnf
          rw [show (k - 0) * 1 = k by omega, List.append_nil]
          obtain ⟨X, e⟩ : ∃ X, List.take k (List.drop ((0 + 0) * (0 + 1)) L) = X := ⟨_, rfl⟩
          have hX : ∀ x ∈ X, uR x := fun x hx => hu x (List.mem_of_mem_take (e ▸ hx : x ∈ List.take k L))
          have hlen : X.length = k := by
            have : (List.take k L).length = X.length := congrArg List.length e
            rw [List.length_take] at this; omega
          have hlx : (r ++ X).length = r.length + k := by rw [List.length_append]; omega
          have hLL : ∀ x ∈ w :: (r ++ X), uR x := by
            intro x hx
            rcases List.mem_cons.1 hx with rfl | hx
            · exact hr2 _ List.mem_cons_self
            · rcases List.mem_append.1 hx with hx | hx
              · exact hr2 _ (List.mem_cons_of_mem _ hx)
              · exact hX x hx
          rw [e, List.cons_append]
          refine (list1 (w :: (r ++ X)) (r.length + 1 + (k - 0)) hLL (by omega) (by omega) (p := 3) rfl rfl).mono ?_
          rintro v H' ⟨rfl, rfl⟩
          conv => whnf
          refine (backP (LL := w :: (r ++ X)) hLL (by simp; omega) _).mono ?_
          rintro v H' ⟨rfl, rfl⟩
          conv => whnf
          rw [show ((((r ++ X).length + 1 : Nat) : Int) != ((r.length + 1 + (k - 0) : Nat) : Int)) = false by simp; try omega]
          conv => whnf
          refine aw_loop dok (fun i : Nat => [(5, .v (.sl 3 0 0 (r.length + 1 + (k - 0)) 1)), (6, .v (.sl 4 0 0 ((r ++ X).length + 1) 1)), (33, i64 (((r ++ X).length + 1 : Nat) : Int)), (34, i64 i)]) (fun _ => _) (fun i => i ≤ (r ++ X).length + 1) (fun i => (r ++ X).length + 1 - i) 0 ⟨rfl, rfl, rfl, rfl, trivial⟩ rfl (Nat.zero_le _) ?_
          intro i hi
          by_cases c : i < (r ++ X).length + 1
          · conv => whnf
            rw [decide_eq_true (show (i : Int) < (((r ++ X).length + 1 : Nat) : Int) by omega)]; conv => whnf
            refine DR.std (by decide +kernel) ⟨[], ?_⟩
            conv => whnf
            rw [blt_of (show i < (r ++ X).length + 1 by omega)]; conv => whnf
            rw [show (0 + i) * 1 = i by omega, blt_of (show i < (r ++ X).length + 1 by omega)]; conv => whnf
            rw [blt_of (show i < r.length + 1 + (k - 0) by omega)]; conv => whnf
            rw [show (0 + i) * 1 = i by omega, blt_of (show i < r.length + 1 + (k + 0) by omega)]; conv => whnf
            rw [same_get]; conv => whnf
            exact ⟨i + 1, c, by show (r ++ X).length + 1 - (i + 1) < (r ++ X).length + 1 - i; omega, ⟨rfl, rfl, rfl, gK i (by omega), trivial⟩, rfl⟩
          · conv => whnf
            rw [decide_eq_false (show ¬ (i : Int) < (((r ++ X).length + 1 : Nat) : Int) by omega)]; conv => whnf
            refine (known1 _).mono ?_
            rintro v H' ⟨rfl, rfl⟩
            conv => whnf
  · conv => whnf
    refine And.intro ?_ ?_
    · conv => whnf
      refine (rawG hta 40 (by decide)).mono ?_
      rintro v H' ⟨Lr, hr1, hr2, rfl, rfl⟩
      conv => whnf
      rw [hk]
      refine ⟨by omega, trivial, by omega, by omega, ?_⟩
      rw [Int.toNat_natCast]
      rcases Lr with _ | ⟨w, r⟩
      · conv => whnf
        rw [show ((0 + 0) * (0 + 1) + (k - 0) * 1).ble n = true from Nat.ble_eq_true_of_le (by omega)]
        conv => whnf
        refine ⟨by omega, room_small (by omega) (by decide), ?_⟩
        conv => whnf
        rw [show (k - 0) * 1 = k by omega, List.append_nil]
        obtain ⟨w0, r0, e⟩ : ∃ w0 r0, List.take k (List.drop ((0 + 0) * (0 + 1)) L) = w0 :: r0 := by
          cases hq : List.take k (List.drop ((0 + 0) * (0 + 1)) L) with
          | nil =>
            have : (List.take k L).length = 0 := congrArg List.length hq
            rw [List.length_take] at this; omega
          | cons a b => exact ⟨a, b, rfl⟩
        have hLL : ∀ x ∈ w0 :: r0, uR x := fun x hx => hu x (List.mem_of_mem_take (e ▸ hx : x ∈ List.take k L))
        have hlen : r0.length + 1 = k := by
          have : (List.take k L).length = (w0 :: r0).length := congrArg List.length e
          rw [List.length_take] at this; simp at this; omega
        rw [e]
        refine (list1 (w0 :: r0) (k - 0) hLL (by omega) (by omega) (p := 2) rfl rfl).mono ?_
        rintro v H' ⟨rfl, rfl⟩
        conv => whnf
        refine (backP (LL := w0 :: r0) hLL (by simp; omega) _).mono ?_
        rintro v H' ⟨rfl, rfl⟩
        conv => whnf
        rw [show (((r0.length + 1 : Nat) : Int) != ((k - 0 : Nat) : Int)) = false by simp; try omega]
        conv => whnf
        refine aw_loop dok (fun i : Nat => [(5, .v (.sl 2 0 0 (k - 0) 1)), (6, .v (.sl 3 0 0 (r0.length + 1) 1)), (33, i64 ((r0.length + 1 : Nat) : Int)), (34, i64 i)]) (fun _ => _) (fun i => i ≤ r0.length + 1) (fun i => r0.length + 1 - i) 0 ⟨rfl, rfl, rfl, rfl, trivial⟩ rfl (Nat.zero_le _) ?_
        intro i hi
        by_cases c : i < r0.length + 1
        · conv => whnf
          rw [decide_eq_true (show (i : Int) < ((r0.length + 1 : Nat) : Int) by omega)]; conv => whnf
          refine DR.std (by decide +kernel) ⟨[], ?_⟩
          conv => whnf
          rw [blt_of (show i < r0.length + 1 by omega)]; conv => whnf
          rw [show (0 + i) * 1 = i by omega, blt_of (show i < r0.length + 1 by omega)]; conv => whnf
          rw [blt_of (show i < k - 0 by omega)]; conv => whnf
          rw [show (0 + i) * 1 = i by omega, blt_of (show i < k + 0 by omega)]; conv => whnf
          rw [same_get]; conv => whnf
          exact ⟨i + 1, c, by show r0.length + 1 - (i + 1) < r0.length + 1 - i; omega, ⟨rfl, rfl, rfl, gK i (by omega), trivial⟩, rfl⟩
        · conv => whnf
          rw [decide_eq_false (show ¬ (i : Int) < ((r0.length + 1 : Nat) : Int) by omega)]; conv => whnf
          refine (known1 _).mono ?_
          rintro v H' ⟨rfl, rfl⟩
          conv => whnf
      · conv => whnf
        rw [show ((0 + 0) * (0 + 1) + (k - 0) * 1).ble n = true from Nat.ble_eq_true_of_le (by omega)]
        conv => whnf
        have hr : r.length + 1 ≤ 40 := hr1
        refine ⟨len_ints _ _ _, room_small (by omega) (by decide), ?_⟩
        conv => whnf
        rw [show (k - 0) * 1 = k by omega, List.append_nil]
        obtain ⟨X, e⟩ : ∃ X, List.take k (List.drop ((0 + 0) * (0 + 1)) L) = X := ⟨_, rfl⟩
        have hX : ∀ x ∈ X, uR x := fun x hx => hu x (List.mem_of_mem_take (e ▸ hx : x ∈ List.take k L))
        have hlen : X.length = k := by
          have : (List.take k L).length = X.length := congrArg List.length e
          rw [List.length_take] at this; omega
        have hlx : (r ++ X).length = r.length + k := by rw [List.length_append]; omega
        have hLL : ∀ x ∈ w :: (r ++ X), uR x := by
          intro x hx
          rcases List.mem_cons.1 hx with rfl | hx
          · exact hr2 _ List.mem_cons_self
          · rcases List.mem_append.1 hx with hx | hx
            · exact hr2 _ (List.mem_cons_of_mem _ hx)
            · exact hX x hx
        rw [e, List.cons_append]
        refine (list1 (w :: (r ++ X)) (r.length + 1 + (k - 0)) hLL (by omega) (by omega) (p := 3) rfl rfl).mono ?_
        rintro v H' ⟨rfl, rfl⟩
        conv => whnf
        refine (backP (LL := w :: (r ++ X)) hLL (by simp; omega) _).mono ?_
        rintro v H' ⟨rfl, rfl⟩
        conv => whnf
        rw [show ((((r ++ X).length + 1 : Nat) : Int) != ((r.length + 1 + (k - 0) : Nat) : Int)) = false by simp; try omega]
        conv => whnf
        refine aw_loop dok (fun i : Nat => [(5, .v (.sl 3 0 0 (r.length + 1 + (k - 0)) 1)), (6, .v (.sl 4 0 0 ((r ++ X).length + 1) 1)), (33, i64 (((r ++ X).length + 1 : Nat) : Int)), (34, i64 i)]) (fun _ => _) (fun i => i ≤ (r ++ X).length + 1) (fun i => (r ++ X).length + 1 - i) 0 ⟨rfl, rfl, rfl, rfl, trivial⟩ rfl (Nat.zero_le _) ?_
        intro i hi
        by_cases c : i < (r ++ X).length + 1
        · conv => whnf
          rw [decide_eq_true (show (i : Int) < (((r ++ X).length + 1 : Nat) : Int) by omega)]; conv => whnf
          refine DR.std (by decide +kernel) ⟨[], ?_⟩
          conv => whnf
          rw [blt_of (show i < (r ++ X).length + 1 by omega)]; conv => whnf
          rw [show (0 + i) * 1 = i by omega, blt_of (show i < (r ++ X).length + 1 by omega)]; conv => whnf
          rw [blt_of (show i < r.length + 1 + (k - 0) by omega)]; conv => whnf
          rw [show (0 + i) * 1 = i by omega, blt_of (show i < r.length + 1 + (k + 0) by omega)]; conv => whnf
          rw [same_get]; conv => whnf
          exact ⟨i + 1, c, by show (r ++ X).length + 1 - (i + 1) < (r ++ X).length + 1 - i; omega, ⟨rfl, rfl, rfl, gK i (by omega), trivial⟩, rfl⟩
        · conv => whnf
          rw [decide_eq_false (show ¬ (i : Int) < (((r ++ X).length + 1 : Nat) : Int) by omega)]; conv => whnf
          refine (known1 _).mono ?_
          rintro v H' ⟨rfl, rfl⟩
          conv => whnf
    · conv => whnf
      refine And.intro ?_ ?_
      · conv => whnf
        refine (rawG hta 40 (by decide)).mono ?_
        rintro v H' ⟨Lr, hr1, hr2, rfl, rfl⟩
        conv => whnf
        rw [hk]
        refine ⟨by omega, trivial, by omega, by omega, ?_⟩
        rw [Int.toNat_natCast]
        rcases Lr with _ | ⟨w, r⟩
        · conv => whnf
          rw [show ((0 + 0) * (0 + 1) + (k - 0) * 1).ble n = true from Nat.ble_eq_true_of_le (by omega)]
          conv => whnf
          refine ⟨by omega, room_small (by omega) (by decide), ?_⟩
          conv => whnf
          rw [show (k - 0) * 1 = k by omega, List.append_nil]
          obtain ⟨w0, r0, e⟩ : ∃ w0 r0, List.take k (List.drop ((0 + 0) * (0 + 1)) L) = w0 :: r0 := by
            cases hq : List.take k (List.drop ((0 + 0) * (0 + 1)) L) with
            | nil =>
              have : (List.take k L).length = 0 := congrArg List.length hq
              rw [List.length_take] at this; omega
            | cons a b => exact ⟨a, b, rfl⟩
          have hLL : ∀ x ∈ w0 :: r0, uR x := fun x hx => hu x (List.mem_of_mem_take (e ▸ hx : x ∈ List.take k L))
          have hlen : r0.length + 1 = k := by
            have : (List.take k L).length = (w0 :: r0).length := congrArg List.length e
            rw [List.length_take] at this; simp at this; omega
          rw [e]
          refine (list1 (w0 :: r0) (k - 0) hLL (by omega) (by omega) (p := 2) rfl rfl).mono ?_
          rintro v H' ⟨rfl, rfl⟩
          conv => whnf
          refine (backP (LL := w0 :: r0) hLL (by simp; omega) _).mono ?_
          rintro v H' ⟨rfl, rfl⟩
          conv => whnf
          rw [show (((r0.length + 1 : Nat) : Int) != ((k - 0 : Nat) : Int)) = false by simp; try omega]
          conv => whnf
          refine aw_loop dok (fun i : Nat => [(5, .v (.sl 2 0 0 (k - 0) 1)), (6, .v (.sl 3 0 0 (r0.length + 1) 1)), (33, i64 ((r0.length + 1 : Nat) : Int)), (34, i64 i)]) (fun _ => _) (fun i => i ≤ r0.length + 1) (fun i => r0.length + 1 - i) 0 ⟨rfl, rfl, rfl, rfl, trivial⟩ rfl (Nat.zero_le _) ?_
          intro i hi
          by_cases c : i < r0.length + 1
          · conv => whnf
            rw [decide_eq_true (show (i : Int) < ((r0.length + 1 : Nat) : Int) by omega)]; conv => whnf
            refine DR.std (by decide +kernel) ⟨[], ?_⟩
            conv => whnf
            rw [blt_of (show i < r0.length + 1 by omega)]; conv => whnf
            rw [show (0 + i) * 1 = i by omega, blt_of (show i < r0.length + 1 by omega)]; conv => whnf
            rw [blt_of (show i < k - 0 by omega)]; conv => whnf
            rw [show (0 + i) * 1 = i by omega, blt_of (show i < k + 0 by omega)]; conv => whnf
            rw [same_get]; conv => whnf
            exact ⟨i + 1, c, by show r0.length + 1 - (i + 1) < r0.length + 1 - i; omega, ⟨rfl, rfl, rfl, gK i (by omega), trivial⟩, rfl⟩
          · conv => whnf
            rw [decide_eq_false (show ¬ (i : Int) < ((r0.length + 1 : Nat) : Int) by omega)]; conv => whnf
            refine (known1 _).mono ?_
            rintro v H' ⟨rfl, rfl⟩
            conv => whnf
        · conv => whnf
          rw [show ((0 + 0) * (0 + 1) + (k - 0) * 1).ble n = true from Nat.ble_eq_true_of_le (by omega)]
          conv => whnf
          have hr : r.length + 1 ≤ 40 := hr1
          refine ⟨len_ints _ _ _, room_small (by omega) (by decide), ?_⟩
          conv => whnf
          rw [show (k - 0) * 1 = k by omega, List.append_nil]
          obtain ⟨X, e⟩ : ∃ X, List.take k (List.drop ((0 + 0) * (0 + 1)) L) = X := ⟨_, rfl⟩
          have hX : ∀ x ∈ X, uR x := fun x hx => hu x (List.mem_of_mem_take (e ▸ hx : x ∈ List.take k L))
          have hlen : X.length = k := by
            have : (List.take k L).length = X.length := congrArg List.length e
            rw [List.length_take] at this; omega
          have hlx : (r ++ X).length = r.length + k := by rw [List.length_append]; omega
          have hLL : ∀ x ∈ w :: (r ++ X), uR x := by
            intro x hx
            rcases List.mem_cons.1 hx with rfl | hx
            · exact hr2 _ List.mem_cons_self
            · rcases List.mem_append.1 hx with hx | hx
              · exact hr2 _ (List.mem_cons_of_mem _ hx)
              · exact hX x hx
          rw [e, List.cons_append]
          refine (list1 (w :: (r ++ X)) (r.length + 1 + (k - 0)) hLL (by omega) (by omega) (p := 3) rfl rfl).mono ?_
          rintro v H' ⟨rfl, rfl⟩
          conv => whnf
          refine (backP (LL := w :: (r ++ X)) hLL (by simp; omega) _).mono ?_
          rintro v H' ⟨rfl, rfl⟩
          conv => whnf
          rw [show ((((r ++ X).length + 1 : Nat) : Int) != ((r.length + 1 + (k - 0) : Nat) : Int)) = false by simp; try omega]
          conv => whnf
          refine aw_loop dok (fun i : Nat => [(5, .v (.sl 3 0 0 (r.length + 1 + (k - 0)) 1)), (6, .v (.sl 4 0 0 ((r ++ X).length + 1) 1)), (33, i64 (((r ++ X).length + 1 : Nat) : Int)), (34, i64 i)]) (fun _ => _) (fun i => i ≤ (r ++ X).length + 1) (fun i => (r ++ X).length + 1 - i) 0 ⟨rfl, rfl, rfl, rfl, trivial⟩ rfl (Nat.zero_le _) ?_
          intro i hi
          by_cases c : i < (r ++ X).length + 1
          · conv => whnf
            rw [decide_eq_true (show (i : Int) < (((r ++ X).length + 1 : Nat) : Int) by omega)]; conv => whnf
            refine DR.std (by decide +kernel) ⟨[], ?_⟩
            conv => whnf
            rw [blt_of (show i < (r ++ X).length + 1 by omega)]; conv => whnf
            rw [show (0 + i) * 1 = i by omega, blt_of (show i < (r ++ X).length + 1 by omega)]; conv => whnf
            rw [blt_of (show i < r.length + 1 + (k - 0) by omega)]; conv => whnf
            rw [show (0 + i) * 1 = i by omega, blt_of (show i < r.length + 1 + (k + 0) by omega)]; conv => whnf
            rw [same_get]; conv => whnf
            exact ⟨i + 1, c, by show (r ++ X).length + 1 - (i + 1) < (r ++ X).length + 1 - i; omega, ⟨rfl, rfl, rfl, gK i (by omega), trivial⟩, rfl⟩
          · conv => whnf
            rw [decide_eq_false (show ¬ (i : Int) < (((r ++ X).length + 1 : Nat) : Int) by omega)]; conv => whnf
            refine (known1 _).mono ?_
            rintro v H' ⟨rfl, rfl⟩
            conv => whnf
      · conv => whnf
        rw [hk]
        refine ⟨by omega, trivial, by omega, by omega, ?_⟩
        rw [Int.toNat_natCast]
        conv => whnf
        refine (rawG hta 40 (by decide)).mono ?_
        rintro v H' ⟨Lr, hr1, hr2, rfl, rfl⟩
        rcases Lr with _ | ⟨w, r⟩
        · conv => whnf
          rw [show ((0 + 0) * (0 + 1) + (k - 0) * 1).ble n = true from Nat.ble_eq_true_of_le (by omega)]
          conv => whnf
          refine ⟨by omega, room_small (by omega) (by decide), ?_⟩
          conv => whnf
          rw [show (k - 0) * 1 = k by omega, List.append_nil]
          obtain ⟨w0, r0, e⟩ : ∃ w0 r0, List.take k (List.drop ((0 + 0) * (0 + 1)) L) = w0 :: r0 := by
            cases hq : List.take k (List.drop ((0 + 0) * (0 + 1)) L) with
            | nil =>
              have : (List.take k L).length = 0 := congrArg List.length hq
              rw [List.length_take] at this; omega
            | cons a b => exact ⟨a, b, rfl⟩
          have hLL : ∀ x ∈ w0 :: r0, uR x := fun x hx => hu x (List.mem_of_mem_take (e ▸ hx : x ∈ List.take k L))
          have hlen : r0.length + 1 = k := by
            have : (List.take k L).length = (w0 :: r0).length := congrArg List.length e
            rw [List.length_take] at this; simp at this; omega
          rw [e]
          refine (list1 (w0 :: r0) (k - 0) hLL (by omega) (by omega) (p := 2) rfl rfl).mono ?_
          rintro v H' ⟨rfl, rfl⟩
          conv => whnf
          refine (backP (LL := w0 :: r0) hLL (by simp; omega) _).mono ?_
          rintro v H' ⟨rfl, rfl⟩
          conv => whnf
          rw [show (((r0.length + 1 : Nat) : Int) != ((k - 0 : Nat) : Int)) = false by simp; try omega]
          conv => whnf
          refine aw_loop dok (fun i : Nat => [(5, .v (.sl 2 0 0 (k - 0) 1)), (6, .v (.sl 3 0 0 (r0.length + 1) 1)), (33, i64 ((r0.length + 1 : Nat) : Int)), (34, i64 i)]) (fun _ => _) (fun i => i ≤ r0.length + 1) (fun i => r0.length + 1 - i) 0 ⟨rfl, rfl, rfl, rfl, trivial⟩ rfl (Nat.zero_le _) ?_
          intro i hi
          by_cases c : i < r0.length + 1
          · conv => whnf
            rw [decide_eq_true (show (i : Int) < ((r0.length + 1 : Nat) : Int) by omega)]; conv => whnf
            refine DR.std (by decide +kernel) ⟨[], ?_⟩
            conv => whnf
            rw [blt_of (show i < r0.length + 1 by omega)]; conv => whnf
            rw [show (0 + i) * 1 = i by omega, blt_of (show i < r0.length + 1 by omega)]; conv => whnf
            rw [blt_of (show i < k - 0 by omega)]; conv => whnf
            rw [show (0 + i) * 1 = i by omega, blt_of (show i < k + 0 by omega)]; conv => whnf
            rw [same_get]; conv => whnf
            exact ⟨i + 1, c, by show r0.length + 1 - (i + 1) < r0.length + 1 - i; omega, ⟨rfl, rfl, rfl, gK i (by omega), trivial⟩, rfl⟩
          · conv => whnf
            rw [decide_eq_false (show ¬ (i : Int) < ((r0.length + 1 : Nat) : Int) by omega)]; conv => whnf
            refine (known1 _).mono ?_
            rintro v H' ⟨rfl, rfl⟩
            conv => whnf
        · conv => whnf
          rw [show ((0 + 0) * (0 + 1) + (k - 0) * 1).ble n = true from Nat.ble_eq_true_of_le (by omega)]
          conv => whnf
          have hr : r.length + 1 ≤ 40 := hr1
          refine ⟨len_ints _ _ _, room_small (by omega) (by decide), ?_⟩
          conv => whnf
          rw [show (k - 0) * 1 = k by omega, List.append_nil]
          obtain ⟨X, e⟩ : ∃ X, List.take k (List.drop ((0 + 0) * (0 + 1)) L) = X := ⟨_, rfl⟩
          have hX : ∀ x ∈ X, uR x := fun x hx => hu x (List.mem_of_mem_take (e ▸ hx : x ∈ List.take k L))
          have hlen : X.length = k := by
            have : (List.take k L).length = X.length := congrArg List.length e
            rw [List.length_take] at this; omega
          have hlx : (r ++ X).length = r.length + k := by rw [List.length_append]; omega
          have hLL : ∀ x ∈ w :: (r ++ X), uR x := by
            intro x hx
            rcases List.mem_cons.1 hx with rfl | hx
            · exact hr2 _ List.mem_cons_self
            · rcases List.mem_append.1 hx with hx | hx
              · exact hr2 _ (List.mem_cons_of_mem _ hx)
              · exact hX x hx
          rw [e, List.cons_append]
          refine (list1 (w :: (r ++ X)) (r.length + 1 + (k - 0)) hLL (by omega) (by omega) (p := 3) rfl rfl).mono ?_
          rintro v H' ⟨rfl, rfl⟩
          conv => whnf
          refine (backP (LL := w :: (r ++ X)) hLL (by simp; omega) _).mono ?_
          rintro v H' ⟨rfl, rfl⟩
          conv => whnf
          rw [show ((((r ++ X).length + 1 : Nat) : Int) != ((r.length + 1 + (k - 0) : Nat) : Int)) = false by simp; try omega]
          conv => whnf
          refine aw_loop dok (fun i : Nat => [(5, .v (.sl 3 0 0 (r.length + 1 + (k - 0)) 1)), (6, .v (.sl 4 0 0 ((r ++ X).length + 1) 1)), (33, i64 (((r ++ X).length + 1 : Nat) : Int)), (34, i64 i)]) (fun _ => _) (fun i => i ≤ (r ++ X).length + 1) (fun i => (r ++ X).length + 1 - i) 0 ⟨rfl, rfl, rfl, rfl, trivial⟩ rfl (Nat.zero_le _) ?_
          intro i hi
          by_cases c : i < (r ++ X).length + 1
          · conv => whnf
            rw [decide_eq_true (show (i : Int) < (((r ++ X).length + 1 : Nat) : Int) by omega)]; conv => whnf
            refine DR.std (by decide +kernel) ⟨[], ?_⟩
            conv => whnf
            rw [blt_of (show i < (r ++ X).length + 1 by omega)]; conv => whnf
            rw [show (0 + i) * 1 = i by omega, blt_of (show i < (r ++ X).length + 1 by omega)]; conv => whnf
            rw [blt_of (show i < r.length + 1 + (k - 0) by omega)]; conv => whnf
            rw [show (0 + i) * 1 = i by omega, blt_of (show i < r.length + 1 + (k + 0) by omega)]; conv => whnf
            rw [same_get]; conv => whnf
            exact ⟨i + 1, c, by show (r ++ X).length + 1 - (i + 1) < (r ++ X).length + 1 - i; omega, ⟨rfl, rfl, rfl, gK i (by omega), trivial⟩, rfl⟩
          · conv => whnf
            rw [decide_eq_false (show ¬ (i : Int) < (((r ++ X).length + 1 : Nat) : Int) by omega)]; conv => whnf
            refine (known1 _).mono ?_
            rintro v H' ⟨rfl, rfl⟩
            conv => whnf
  · conv => whnf
    refine And.intro ?_ ?_
    · conv => whnf
      refine (rawG hta 40 (by decide)).mono ?_
      rintro v H' ⟨Lr, hr1, hr2, rfl, rfl⟩
      conv => whnf
      rw [hk]
      refine ⟨by omega, trivial, by omega, by omega, ?_⟩
      rw [Int.toNat_natCast]
      rcases Lr with _ | ⟨w, r⟩
      · conv => whnf
        rw [show ((0 + 0) * (0 + 1) + (k - 0) * 1).ble n = true from Nat.ble_eq_true_of_le (by omega)]
        conv => whnf
        refine ⟨by omega, room_small (by omega) (by decide), ?_⟩
        conv => whnf
        rw [show (k - 0) * 1 = k by omega, List.append_nil]
        obtain ⟨w0, r0, e⟩ : ∃ w0 r0, List.take k (List.drop ((0 + 0) * (0 + 1)) L) = w0 :: r0 := by
          cases hq : List.take k (List.drop ((0 + 0) * (0 + 1)) L) with
          | nil =>
            have : (List.take k L).length = 0 := congrArg List.length hq
            rw [List.length_take] at this; omega
          | cons a b => exact ⟨a, b, rfl⟩
        have hLL : ∀ x ∈ w0 :: r0, uR x := fun x hx => hu x (List.mem_of_mem_take (e ▸ hx : x ∈ List.take k L))
        have hlen : r0.length + 1 = k := by
          have : (List.take k L).length = (w0 :: r0).length := congrArg List.length e
          rw [List.length_take] at this; simp at this; omega
        rw [e]
        refine (list1 (w0 :: r0) (k - 0) hLL (by omega) (by omega) (p := 2) rfl rfl).mono ?_
        rintro v H' ⟨rfl, rfl⟩
        conv => whnf
        refine (backP (LL := w0 :: r0) hLL (by simp; omega) _).mono ?_
        rintro v H' ⟨rfl, rfl⟩
        conv => whnf
        rw [show (((r0.length + 1 : Nat) : Int) != ((k - 0 : Nat) : Int)) = false by simp; try omega]
        conv => whnf
        refine aw_loop dok (fun i : Nat => [(5, .v (.sl 2 0 0 (k - 0) 1)), (6, .v (.sl 3 0 0 (r0.length + 1) 1)), (33, i64 ((r0.length + 1 : Nat) : Int)), (34, i64 i)]) (fun _ => _) (fun i => i ≤ r0.length + 1) (fun i => r0.length + 1 - i) 0 ⟨rfl, rfl, rfl, rfl, trivial⟩ rfl (Nat.zero_le _) ?_
        intro i hi
        by_cases c : i < r0.length + 1
        · conv => whnf
          rw [decide_eq_true (show (i : Int) < ((r0.length + 1 : Nat) : Int) by omega)]; conv => whnf
          refine DR.std (by decide +kernel) ⟨[], ?_⟩
          conv => whnf
          rw [blt_of (show i < r0.length + 1 by omega)]; conv => whnf
          rw [show (0 + i) * 1 = i by omega, blt_of (show i < r0.length + 1 by omega)]; conv => whnf
          rw [blt_of (show i < k - 0 by omega)]; conv => whnf
          rw [show (0 + i) * 1 = i by omega, blt_of (show i < k + 0 by omega)]; conv => whnf
          rw [same_get]; conv => whnf
          exact ⟨i + 1, c, by show r0.length + 1 - (i + 1) < r0.length + 1 - i; omega, ⟨rfl, rfl, rfl, gK i (by omega), trivial⟩, rfl⟩
        · conv => whnf
          rw [decide_eq_false (show ¬ (i : Int) < ((r0.length + 1 : Nat) : Int) by omega)]; conv => whnf
          refine (known1 _).mono ?_
          rintro v H' ⟨rfl, rfl⟩
          conv => whnf
      · conv => whnf
        rw [show ((0 + 0) * (0 + 1) + (k - 0) * 1).ble n = true from Nat.ble_eq_true_of_le (by omega)]
        conv => whnf
        have hr : r.length + 1 ≤ 40 := hr1
        refine ⟨len_ints _ _ _, room_small (by omega) (by decide), ?_⟩
        conv => whnf
        rw [show (k - 0) * 1 = k by omega, List.append_nil]
        obtain ⟨X, e⟩ : ∃ X, List.take k (List.drop ((0 + 0) * (0 + 1)) L) = X := ⟨_, rfl⟩
        have hX : ∀ x ∈ X, uR x := fun x hx => hu x (List.mem_of_mem_take (e ▸ hx : x ∈ List.take k L))
        have hlen : X.length = k := by
          have : (List.take k L).length = X.length := congrArg List.length e
          rw [List.length_take] at this; omega
        have hlx : (r ++ X).length = r.length + k := by rw [List.length_append]; omega
        have hLL : ∀ x ∈ w :: (r ++ X), uR x := by
          intro x hx
          rcases List.mem_cons.1 hx with rfl | hx
          · exact hr2 _ List.mem_cons_self
          · rcases List.mem_append.1 hx with hx | hx
            · exact hr2 _ (List.mem_cons_of_mem _ hx)
            · exact hX x hx
        rw [e, List.cons_append]
        refine (list1 (w :: (r ++ X)) (r.length + 1 + (k - 0)) hLL (by omega) (by omega) (p := 3) rfl rfl).mono ?_
        rintro v H' ⟨rfl, rfl⟩
        conv => whnf
        refine (backP (LL := w :: (r ++ X)) hLL (by simp; omega) _).mono ?_
        rintro v H' ⟨rfl, rfl⟩
        conv => whnf
        rw [show ((((r ++ X).length + 1 : Nat) : Int) != ((r.length + 1 + (k - 0) : Nat) : Int)) = false by simp; try omega]
        conv => whnf
        refine aw_loop dok (fun i : Nat => [(5, .v (.sl 3 0 0 (r.length + 1 + (k - 0)) 1)), (6, .v (.sl 4 0 0 ((r ++ X).length + 1) 1)), (33, i64 (((r ++ X).length + 1 : Nat) : Int)), (34, i64 i)]) (fun _ => _) (fun i => i ≤ (r ++ X).length + 1) (fun i => (r ++ X).length + 1 - i) 0 ⟨rfl, rfl, rfl, rfl, trivial⟩ rfl (Nat.zero_le _) ?_
        intro i hi
        by_cases c : i < (r ++ X).length + 1
        · conv => whnf
          rw [decide_eq_true (show (i : Int) < (((r ++ X).length + 1 : Nat) : Int) by omega)]; conv => whnf
          refine DR.std (by decide +kernel) ⟨[], ?_⟩
          conv => whnf
          rw [blt_of (show i < (r ++ X).length + 1 by omega)]; conv => whnf
          rw [show (0 + i) * 1 = i by omega, blt_of (show i < (r ++ X).length + 1 by omega)]; conv => whnf
          rw [blt_of (show i < r.length + 1 + (k - 0) by omega)]; conv => whnf
          rw [show (0 + i) * 1 = i by omega, blt_of (show i < r.length + 1 + (k + 0) by omega)]; conv => whnf
          rw [same_get]; conv => whnf
          exact ⟨i + 1, c, by show (r ++ X).length + 1 - (i + 1) < (r ++ X).length + 1 - i; omega, ⟨rfl, rfl, rfl, gK i (by omega), trivial⟩, rfl⟩
        · conv => whnf
          rw [decide_eq_false (show ¬ (i : Int) < (((r ++ X).length + 1 : Nat) : Int) by omega)]; conv => whnf
          refine (known1 _).mono ?_
          rintro v H' ⟨rfl, rfl⟩
          conv => whnf
    · conv => whnf
      refine And.intro ?_ ?_
      · conv => whnf
        refine (rawG hta 40 (by decide)).mono ?_
        rintro v H' ⟨Lr, hr1, hr2, rfl, rfl⟩
        conv => whnf
        rw [hk]
        refine ⟨by omega, trivial, by omega, by omega, ?_⟩
        rw [Int.toNat_natCast]
        rcases Lr with _ | ⟨w, r⟩
        · conv => whnf
          rw [show ((0 + 0) * (0 + 1) + (k - 0) * 1).ble n = true from Nat.ble_eq_true_of_le (by omega)]
          conv => whnf
          refine ⟨by omega, room_small (by omega) (by decide), ?_⟩
          conv => whnf
          rw [show (k - 0) * 1 = k by omega, List.append_nil]
          obtain ⟨w0, r0, e⟩ : ∃ w0 r0, List.take k (List.drop ((0 + 0) * (0 + 1)) L) = w0 :: r0 := by
            cases hq : List.take k (List.drop ((0 + 0) * (0 + 1)) L) with
            | nil =>
              have : (List.take k L).length = 0 := congrArg List.length hq
              rw [List.length_take] at this; omega
            | cons a b => exact ⟨a, b, rfl⟩
          have hLL : ∀ x ∈ w0 :: r0, uR x := fun x hx => hu x (List.mem_of_mem_take (e ▸ hx : x ∈ List.take k L))
          have hlen : r0.length + 1 = k := by
            have : (List.take k L).length = (w0 :: r0).length := congrArg List.length e
            rw [List.length_take] at this; simp at this; omega
          rw [e]
          refine (list1 (w0 :: r0) (k - 0) hLL (by omega) (by omega) (p := 2) rfl rfl).mono ?_
          rintro v H' ⟨rfl, rfl⟩
          conv => whnf
          refine (backP (LL := w0 :: r0) hLL (by simp; omega) _).mono ?_
          rintro v H' ⟨rfl, rfl⟩
          conv => whnf
          rw [show (((r0.length + 1 : Nat) : Int) != ((k - 0 : Nat) : Int)) = false by simp; try omega]
          conv => whnf
          refine aw_loop dok (fun i : Nat => [(5, .v (.sl 2 0 0 (k - 0) 1)), (6, .v (.sl 3 0 0 (r0.length + 1) 1)), (33, i64 ((r0.length + 1 : Nat) : Int)), (34, i64 i)]) (fun _ => _) (fun i => i ≤ r0.length + 1) (fun i => r0.length + 1 - i) 0 ⟨rfl, rfl, rfl, rfl, trivial⟩ rfl (Nat.zero_le _) ?_
          intro i hi
          by_cases c : i < r0.length + 1
          · conv => whnf
            rw [decide_eq_true (show (i : Int) < ((r0.length + 1 : Nat) : Int) by omega)]; conv => whnf
            refine DR.std (by decide +kernel) ⟨[], ?_⟩
            conv => whnf
            rw [blt_of (show i < r0.length + 1 by omega)]; conv => whnf
            rw [show (0 + i) * 1 = i by omega, blt_of (show i < r0.length + 1 by omega)]; conv => whnf
            rw [blt_of (show i < k - 0 by omega)]; conv => whnf
            rw [show (0 + i) * 1 = i by omega, blt_of (show i < k + 0 by omega)]; conv => whnf
            rw [same_get]; conv => whnf
            exact ⟨i + 1, c, by show r0.length + 1 - (i + 1) < r0.length + 1 - i; omega, ⟨rfl, rfl, rfl, gK i (by omega), trivial⟩, rfl⟩
          · conv => whnf
            rw [decide_eq_false (show ¬ (i : Int) < ((r0.length + 1 : Nat) : Int) by omega)]; conv => whnf
            refine (known1 _).mono ?_
            rintro v H' ⟨rfl, rfl⟩
            conv => whnf
        · conv => whnf
          rw [show ((0 + 0) * (0 + 1) + (k - 0) * 1).ble n = true from Nat.ble_eq_true_of_le (by omega)]
          conv => whnf
          have hr : r.length + 1 ≤ 40 := hr1
          refine ⟨len_ints _ _ _, room_small (by omega) (by decide), ?_⟩
          conv => whnf
          rw [show (k - 0) * 1 = k by omega, List.append_nil]
          obtain ⟨X, e⟩ : ∃ X, List.take k (List.drop ((0 + 0) * (0 + 1)) L) = X := ⟨_, rfl⟩
          have hX : ∀ x ∈ X, uR x := fun x hx => hu x (List.mem_of_mem_take (e ▸ hx : x ∈ List.take k L))
          have hlen : X.length = k := by
            have : (List.take k L).length = X.length := congrArg List.length e
            rw [List.length_take] at this; omega
          have hlx : (r ++ X).length = r.length + k := by rw [List.length_append]; omega
          have hLL : ∀ x ∈ w :: (r ++ X), uR x := by
            intro x hx
            rcases List.mem_cons.1 hx with rfl | hx
            · exact hr2 _ List.mem_cons_self
            · rcases List.mem_append.1 hx with hx | hx
              · exact hr2 _ (List.mem_cons_of_mem _ hx)
              · exact hX x hx
          rw [e, List.cons_append]
          refine (list1 (w :: (r ++ X)) (r.length + 1 + (k - 0)) hLL (by omega) (by omega) (p := 3) rfl rfl).mono ?_
          rintro v H' ⟨rfl, rfl⟩
          conv => whnf
          refine (backP (LL := w :: (r ++ X)) hLL (by simp; omega) _).mono ?_
          rintro v H' ⟨rfl, rfl⟩
          conv => whnf
          rw [show ((((r ++ X).length + 1 : Nat) : Int) != ((r.length + 1 + (k - 0) : Nat) : Int)) = false by simp; try omega]
          conv => whnf
          refine aw_loop dok (fun i : Nat => [(5, .v (.sl 3 0 0 (r.length + 1 + (k - 0)) 1)), (6, .v (.sl 4 0 0 ((r ++ X).length + 1) 1)), (33, i64 (((r ++ X).length + 1 : Nat) : Int)), (34, i64 i)]) (fun _ => _) (fun i => i ≤ (r ++ X).length + 1) (fun i => (r ++ X).length + 1 - i) 0 ⟨rfl, rfl, rfl, rfl, trivial⟩ rfl (Nat.zero_le _) ?_
          intro i hi
          by_cases c : i < (r ++ X).length + 1
          · conv => whnf
            rw [decide_eq_true (show (i : Int) < (((r ++ X).length + 1 : Nat) : Int) by omega)]; conv => whnf
            refine DR.std (by decide +kernel) ⟨[], ?_⟩
            conv => whnf
            rw [blt_of (show i < (r ++ X).length + 1 by omega)]; conv => whnf
            rw [show (0 + i) * 1 = i by omega, blt_of (show i < (r ++ X).length + 1 by omega)]; conv => whnf
            rw [blt_of (show i < r.length + 1 + (k - 0) by omega)]; conv => whnf
            rw [show (0 + i) * 1 = i by omega, blt_of (show i < r.length + 1 + (k + 0) by omega)]; conv => whnf
            rw [same_get]; conv => whnf
            exact ⟨i + 1, c, by show (r ++ X).length + 1 - (i + 1) < (r ++ X).length + 1 - i; omega, ⟨rfl, rfl, rfl, gK i (by omega), trivial⟩, rfl⟩
          · conv => whnf
            rw [decide_eq_false (show ¬ (i : Int) < (((r ++ X).length + 1 : Nat) : Int) by omega)]; conv => whnf
            refine (known1 _).mono ?_
            rintro v H' ⟨rfl, rfl⟩
            conv => whnf
      · conv => whnf
        rw [hk]
        refine ⟨by omega, trivial, by omega, by omega, ?_⟩
        rw [Int.toNat_natCast]
        conv => whnf
        refine (rawG hta 40 (by decide)).mono ?_
        rintro v H' ⟨Lr, hr1, hr2, rfl, rfl⟩
        rcases Lr with _ | ⟨w, r⟩
        · conv => whnf
          rw [show ((0 + 0) * (0 + 1) + (k - 0) * 1).ble n = true from Nat.ble_eq_true_of_le (by omega)]
          conv => whnf
          refine ⟨by omega, room_small (by omega) (by decide), ?_⟩
          conv => whnf
          rw [show (k - 0) * 1 = k by omega, List.append_nil]
          obtain ⟨w0, r0, e⟩ : ∃ w0 r0, List.take k (List.drop ((0 + 0) * (0 + 1)) L) = w0 :: r0 := by
            cases hq : List.take k (List.drop ((0 + 0) * (0 + 1)) L) with
            | nil =>
              have : (List.take k L).length = 0 := congrArg List.length hq
              rw [List.length_take] at this; omega
            | cons a b => exact ⟨a, b, rfl⟩
          have hLL : ∀ x ∈ w0 :: r0, uR x := fun x hx => hu x (List.mem_of_mem_take (e ▸ hx : x ∈ List.take k L))
          have hlen : r0.length + 1 = k := by
            have : (List.take k L).length = (w0 :: r0).length := congrArg List.length e
            rw [List.length_take] at this; simp at this; omega
          rw [e]
          refine (list1 (w0 :: r0) (k - 0) hLL (by omega) (by omega) (p := 2) rfl rfl).mono ?_
          rintro v H' ⟨rfl, rfl⟩
          conv => whnf
          refine (backP (LL := w0 :: r0) hLL (by simp; omega) _).mono ?_
          rintro v H' ⟨rfl, rfl⟩
          conv => whnf
          rw [show (((r0.length + 1 : Nat) : Int) != ((k - 0 : Nat) : Int)) = false by simp; try omega]
          conv => whnf
          refine aw_loop dok (fun i : Nat => [(5, .v (.sl 2 0 0 (k - 0) 1)), (6, .v (.sl 3 0 0 (r0.length + 1) 1)), (33, i64 ((r0.length + 1 : Nat) : Int)), (34, i64 i)]) (fun _ => _) (fun i => i ≤ r0.length + 1) (fun i => r0.length + 1 - i) 0 ⟨rfl, rfl, rfl, rfl, trivial⟩ rfl (Nat.zero_le _) ?_
          intro i hi
          by_cases c : i < r0.length + 1
          · conv => whnf
            rw [decide_eq_true (show (i : Int) < ((r0.length + 1 : Nat) : Int) by omega)]; conv => whnf
            refine DR.std (by decide +kernel) ⟨[], ?_⟩
            conv => whnf
            rw [blt_of (show i < r0.length + 1 by omega)]; conv => whnf
            rw [show (0 + i) * 1 = i by omega, blt_of (show i < r0.length + 1 by omega)]; conv => whnf
            rw [blt_of (show i < k - 0 by omega)]; conv => whnf
            rw [show (0 + i) * 1 = i by omega, blt_of (show i < k + 0 by omega)]; conv => whnf
            rw [same_get]; conv => whnf
            exact ⟨i + 1, c, by show r0.length + 1 - (i + 1) < r0.length + 1 - i; omega, ⟨rfl, rfl, rfl, gK i (by omega), trivial⟩, rfl⟩
          · conv => whnf
            rw [decide_eq_false (show ¬ (i : Int) < ((r0.length + 1 : Nat) : Int) by omega)]; conv => whnf
            refine (known1 _).mono ?_
            rintro v H' ⟨rfl, rfl⟩
            conv => whnf
        · conv => whnf
          rw [show ((0 + 0) * (0 + 1) + (k - 0) * 1).ble n = true from Nat.ble_eq_true_of_le (by omega)]
          conv => whnf
          have hr : r.length + 1 ≤ 40 := hr1
          refine ⟨len_ints _ _ _, room_small (by omega) (by decide), ?_⟩
          conv => whnf
          rw [show (k - 0) * 1 = k by omega, List.append_nil]
          obtain ⟨X, e⟩ : ∃ X, List.take k (List.drop ((0 + 0) * (0 + 1)) L) = X := ⟨_, rfl⟩
          have hX : ∀ x ∈ X, uR x := fun x hx => hu x (List.mem_of_mem_take (e ▸ hx : x ∈ List.take k L))
          have hlen : X.length = k := by
            have : (List.take k L).length = X.length := congrArg List.length e
            rw [List.length_take] at this; omega
          have hlx : (r ++ X).length = r.length + k := by rw [List.length_append]; omega
          have hLL : ∀ x ∈ w :: (r ++ X), uR x := by
            intro x hx
            rcases List.mem_cons.1 hx with rfl | hx
            · exact hr2 _ List.mem_cons_self
            · rcases List.mem_append.1 hx with hx | hx
              · exact hr2 _ (List.mem_cons_of_mem _ hx)
              · exact hX x hx
          rw [e, List.cons_append]
          refine (list1 (w :: (r ++ X)) (r.length + 1 + (k - 0)) hLL (by omega) (by omega) (p := 3) rfl rfl).mono ?_
          rintro v H' ⟨rfl, rfl⟩
          conv => whnf
          refine (backP (LL := w :: (r ++ X)) hLL (by simp; omega) _).mono ?_
          rintro v H' ⟨rfl, rfl⟩
          conv => whnf
          rw [show ((((r ++ X).length + 1 : Nat) : Int) != ((r.length + 1 + (k - 0) : Nat) : Int)) = false by simp; try omega]
          conv => whnf
          refine aw_loop dok (fun i : Nat => [(5, .v (.sl 3 0 0 (r.length + 1 + (k - 0)) 1)), (6, .v (.sl 4 0 0 ((r ++ X).length + 1) 1)), (33, i64 (((r ++ X).length + 1 : Nat) : Int)), (34, i64 i)]) (fun _ => _) (fun i => i ≤ (r ++ X).length + 1) (fun i => (r ++ X).length + 1 - i) 0 ⟨rfl, rfl, rfl, rfl, trivial⟩ rfl (Nat.zero_le _) ?_
          intro i hi
          by_cases c : i < (r ++ X).length + 1
          · conv => whnf
            rw [decide_eq_true (show (i : Int) < (((r ++ X).length + 1 : Nat) : Int) by omega)]; conv => whnf
            refine DR.std (by decide +kernel) ⟨[], ?_⟩
            conv => whnf
            rw [blt_of (show i < (r ++ X).length + 1 by omega)]; conv => whnf
            rw [show (0 + i) * 1 = i by omega, blt_of (show i < (r ++ X).length + 1 by omega)]; conv => whnf
            rw [blt_of (show i < r.length + 1 + (k - 0) by omega)]; conv => whnf
            rw [show (0 + i) * 1 = i by omega, blt_of (show i < r.length + 1 + (k + 0) by omega)]; conv => whnf
            rw [same_get]; conv => whnf
            exact ⟨i + 1, c, by show (r ++ X).length + 1 - (i + 1) < (r ++ X).length + 1 - i; omega, ⟨rfl, rfl, rfl, gK i (by omega), trivial⟩, rfl⟩
          · conv => whnf
            rw [decide_eq_false (show ¬ (i : Int) < (((r ++ X).length + 1 : Nat) : Int) by omega)]; conv => whnf
            refine (known1 _).mono ?_
            rintro v H' ⟨rfl, rfl⟩
            conv => whnf
end Go.Proofs.YtgglclmilocgcaaGreatDoor.Md
