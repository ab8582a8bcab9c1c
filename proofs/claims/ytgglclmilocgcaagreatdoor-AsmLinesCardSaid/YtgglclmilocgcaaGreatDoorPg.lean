/- The assembler's functions. -/
import Derived.Test.YtgglclmilocgcaaGreatDoorLi
set_option linter.unusedVariables false
set_option linter.unusedSimpArgs false
namespace Go.Proofs.YtgglclmilocgcaaGreatDoor.Md
open Go.RowKit Go.Proofs.YtgglclmilocgcaaGreatDoor.Ae Go.Proofs.YtgglclmilocgcaaGreatDoor.Bv Go.Proofs.YtgglclmilocgcaaGreatDoor
/-- A scope without jumps. -/
def scopeQ (Q : Exit → Sl → Hp → Prop) : Exit → Sl → Hp → Prop
  | .goto _, _, _ => False
  | e, s, H => Q e s H
theorem aw_scope {P : Program} {D : Tab} (hD : D.ok P) {nt : Nat} {c : Code} {Q : Exit → Sl → Hp → Prop} {s : Sl} {H : Hp} (h : aw P D nt c (scopeQ Q) s H) : AWs P nt (.scope c) Q s H := by
  refine ⟨fun R w a h1 h2 h3 h4 => wp_scope_straight (wp_mono (aw_sound hD h R w a h1 h2 h3 h4) ?_)⟩
  rintro e a' w' ⟨s', H', R', q, r⟩
  cases e <;> first | exact ⟨s', H', R', q, r⟩ | exact q.elim
/-- The same pieces, as a row. -/
abbrev prow (L : List ByteArray) : List Seg := [.recs 1 L.length (fun i => [V.str (L.getD i ByteArray.empty)])]
theorem flat_prow (L : List ByteArray) : flat (prow L) = flat (strs L) := by
  have e1 : flat (prow L) = (List.range L.length).flatMap fun i => [V.str (L.getD i ByteArray.empty)] := by simp [flat, Seg.flat]
  have e2 : ∀ L : List ByteArray, flat (strs L) = L.map V.str := by
    intro L
    induction L with
    | nil => rfl
    | cons a L ih => show V.str a :: flat (strs L) = _; rw [ih]; rfl
  have e3 : ∀ (l : List Nat) (g : Nat → V), l.flatMap (fun i => [g i]) = l.map g := fun l g => by
    induction l with
    | nil => rfl
    | cons a l ih => rw [List.flatMap_cons, ih]; rfl
  rw [e1, e2, e3]
  apply List.ext_getElem
  · simp
  · intro i h1 h2
    simp at h1
    simp [List.getD, List.getElem?_eq_getElem h1]
theorem oks_prow (L : List ByteArray) : oks (prow L) := fun s hs => by
  simp at hs; subst hs
  exact fun i _ => rfl
theorem split2 (s sep : ByteArray) (hs : s.size < 4294967281) (h1 : 1 ≤ sep.size) : AC Tryz.prog 13 [.v (.str s), .v (.str sep)] [] (fun v H' => v = .v (.sl 0 0 0 (cutB s sep).length 1) ∧ H' = [.rw (prow (cutB s sep))]) := by
  refine AC.reix rfl ((split1 s sep hs h1 []).mono ?_)
  rintro v H' ⟨rfl, rfl⟩
  exact ⟨[.rw (prow (cutB s sep))], [0], .v (.sl 0 0 0 (cutB s sep).length 1), okN_of (n0 := 0) (by decide), Nat.zero_le _, ⟨⟨_, rfl, .inr ⟨oks_prow _, (flat_prow _).symm⟩⟩, trivial⟩, rfl, rfl, rfl⟩
/-- A piece: nothing, or a word's line. -/
def pc : Option Nat → List UInt8
  | none => []
  | some w => lw w
def wordsOf (Ps : List (Option Nat)) : List Int := (Ps.filterMap id).map fun n => ((n : Nat) : Int)
theorem pc_line {w : Nat} (hw : w < 4294967296) : lineF (ba (lw w)) = ((w : Int), true) := by
  unfold lw
  split
  · assumption
  · exact line_wl w hw
theorem wordsOf_take (Ps : List (Option Nat)) (i : Nat) (h : i < Ps.length) : wordsOf (Ps.take (i + 1)) = wordsOf (Ps.take i) ++ (match Ps[i] with | none => [] | some w => [(w : Int)]) := by
  unfold wordsOf
  rw [List.take_add_one, List.getElem?_eq_getElem h, List.filterMap_append, List.map_append]
  congr 1
  cases Ps[i] <;> rfl
theorem wordsOf_len (Ps : List (Option Nat)) : (wordsOf Ps).length ≤ Ps.length := by
  unfold wordsOf
  rw [List.length_map]
  exact List.length_filterMap_le _ _
/-- The loop's state: how many pieces are behind us, which words they gave. -/
def gS (n : Nat) : Nat × List Int → Sl
  | (i, []) => [(4, .v .nilS), (10, .v (.sl 0 0 0 n 1)), (11, i64 n), (12, i64 i)]
  | (i, w :: r) => [(4, .v (.sl 1 0 0 (r.length + 1) 1)), (10, .v (.sl 0 0 0 n 1)), (11, i64 n), (12, i64 i)]
def gH (L : List ByteArray) : Nat × List Int → Hp
  | (_, []) => [.rw (prow L)]
  | (_, w :: r) => [.rw (prow L), .rw [.ints .u32 (r.length + 1) (w :: r)]]
def progV : List Int → AV
  | [] => .tup [.v .nilS, i64 0]
  | _ :: r => .tup [.v (.sl 0 0 0 (r.length + 1) 1), i64 0]
def progH : List Int → Hp
  | [] => []
  | w :: r => [.rw [.ints .u32 (r.length + 1) (w :: r)]]
theorem ba_list (l : List UInt8) : (ba l).toList = l := by rw [Lib.toList_data]
theorem nm_ne {k : Nat} (h : 1 ≤ k ∧ k ≤ 55) : nm (k : Int) ≠ [] := by
  have : ∀ j, j < 55 → nmL.getD (j + 1) [] ≠ [] := by decide
  have h2 := this (k - 1) (by omega)
  rw [show k - 1 + 1 = k by omega] at h2
  exact h2
theorem op_nil : ∀ n, n ≤ 55 → opAt (ba []) n = 0
  | 0, _ => rfl
  | n + 1, h => by
    have : ((ba (nm ((55 - n : Nat) : Int))).toList == (ba []).toList) = false := by
      rw [ba_list, ba_list]
      exact beq_false_of_ne (nm_ne (by omega))
    rw [opAt, this, if_neg (by decide)]
    exact op_nil n (by omega)
theorem line_nil : lineF (ba []) = (0, false) := by
  unfold lineF
  rw [show cutB (ba []) sp = [ba []] from by show cutB (ba []) ⟨#[32]⟩ = _; rw [cutB_eq]; rfl]
  show tryF (ba []) [(opF (ba []), 0, 0, 0, 0)] = _
  have : encT (opF (ba []), 0, 0, 0, 0) = (0, false) := by
    rw [show opF (ba []) = 0 from op_nil 55 (Nat.le_refl _)]
    exact encT_neg fun h => by have := h.1; omega
  rw [tryF, this]
  rfl
theorem lw_ne {w : Nat} (hw : w < 4294967296) : lw w ≠ [] := fun e => by
  have := pc_line hw
  rw [e, line_nil] at this
  cases this
theorem beq_ne {w : Nat} (hw : w < 4294967296) : ((ba (lw w)).toList == (⟨#[]⟩ : ByteArray).toList) = false := by
  rw [ba_list, show (⟨#[]⟩ : ByteArray).toList = [] from ba_list []]
  exact beq_false_of_ne (lw_ne hw)
theorem flat_word (w : Int) : flat [.one (.int .u32 w)] = flat [.ints .u32 1 [w]] := rfl
theorem flat_words (n : Nat) (l : List Int) (w : Int) (h : l.length = n) : flat [.ints .u32 n l, .one (.int .u32 w)] = flat [.ints .u32 (n + 1) (l ++ [w])] := by
  simp [flat, Seg.flat]
theorem len_ints (k : IntKind) (n : Nat) (l : List Int) : lenS [.ints k n l] = n * (0 + 1) := by simp [lenS]
theorem slq (a b : Nat) (h : a = b) : some (AV.v (V.sl 3 0 0 b 1)) = some (AV.v (V.sl 3 0 0 a 1)) := by rw [h]
theorem oks_ints {k : IntKind} {n : Nat} {l : List Int} (h : l.length = n) : oks [.ints k n l] := fun s hs => by
  simp at hs; subst hs; exact h
set_option maxHeartbeats 4000000 in
theorem prog0 (s : ByteArray) (hs : s.size < 1000000) (Ps : List (Option Nat)) (hn : Ps.length ≤ 1000) (hw : ∀ w, some w ∈ Ps → w < 4294967296) (hc : cutL 10 s.data.toList = Ps.map pc) : AC Tryz.prog 6 [.v (.str s)] [] (fun v H => v = progV (wordsOf Ps) ∧ H = progH (wordsOf Ps)) := by
  refine AC.reix rfl (AC.of_body dok Tryz.func6 rfl rfl (Nat.le_of_ble_eq_true rfl) ?_)
  conv => whnf
  refine aw_scope dok ?_
  conv => whnf
  refine (split2 s ⟨#[10]⟩ (by omega) (by decide)).mono ?_
  rintro v H' ⟨rfl, rfl⟩
  rw [cutB_eq, hc]
  obtain ⟨L, hL⟩ : ∃ L, (Ps.map pc).map ba = L := ⟨_, rfl⟩
  have hll : L.length = Ps.length := by rw [← hL]; simp
  rw [hL]
  conv => whnf
  refine aw_loopR dok 1 (gS L.length) (gH L) (fun x => x.1 ≤ Ps.length ∧ x.2 = wordsOf (Ps.take x.1)) (fun x => Ps.length - x.1) (0, []) ⟨rfl, rfl, rfl, rfl, trivial⟩ rfl ⟨Nat.zero_le _, rfl⟩ rfl ?_
  rintro ⟨i, ws⟩ ⟨hi, hws⟩
  dsimp only at hi hws
  have hwl : ws.length ≤ i := by rw [hws]; have := wordsOf_len (Ps.take i); rw [List.length_take] at this; omega
  by_cases c : i < Ps.length
  · have hp : L.getD i ByteArray.empty = ba (pc Ps[i]) := by rw [← hL]; simp [List.getD, List.getElem?_eq_getElem c]
    rcases ws with _ | ⟨w0, r⟩
    · conv => whnf
      rw [decide_eq_true (show (i : Int) < L.length by omega)]; conv => whnf
      rw [blt_of (show i < L.length by omega)]; conv => whnf
      rw [show (0 + i) = i by omega, blt_of (show i < L.length by omega)]; conv => whnf
      rcases hq : Ps[i] with _ | w
      · rw [hp, hq, show ((ba (pc none)).toList == (⟨#[]⟩ : ByteArray).toList) = true from beq_self_eq_true _]; conv => whnf
        exact ⟨(i + 1, []), [0], ⟨c, by rw [wordsOf_take Ps i c, ← hws, hq]; rfl⟩, by show Ps.length - (i + 1) < Ps.length - i; omega, okN_of (n0 := 1) (by decide), Nat.le_of_ble_eq_true rfl, ⟨⟨_, rfl, .inl rfl⟩, trivial⟩, ⟨rfl, rfl, rfl, gK i (by omega), trivial⟩⟩
      · have hww := hw w (by rw [← hq]; exact List.getElem_mem c)
        have hsz := lw_len w hww
        rw [hp, hq, show ((ba (pc (some w))).toList == (⟨#[]⟩ : ByteArray).toList) = false from beq_ne hww]; conv => whnf
        refine (line1 (L.getD i ByteArray.empty) (by rw [hp, hq, ba_size]; show (lw w).length ≤ 1000000; omega) _).mono ?_
        rw [hp, hq, show lineF (ba (pc (some w))) = ((w : Int), true) from pc_line hww]
        rintro v H' ⟨rfl, rfl⟩
        conv => whnf
        repeat' (first | exact Nat.le_of_ble_eq_true rfl | exact room_small (Nat.le_of_ble_eq_true rfl) (by decide) | exact ⟨(i + 1, [(w : Int)]), [0, 2], ⟨c, by rw [wordsOf_take Ps i c, ← hws, hq]; rfl⟩, by show Ps.length - (i + 1) < Ps.length - i; omega, okN_of (n0 := 1) (by decide), Nat.le_of_ble_eq_true rfl, ⟨⟨_, rfl, .inl rfl⟩, ⟨_, rfl, .inr ⟨oks_ints rfl, rfl⟩⟩, trivial⟩, ⟨rfl, rfl, rfl, gK i (by omega), trivial⟩⟩ | (refine And.intro ?_ ?_ <;> conv => whnf))
    · conv => whnf
      rw [decide_eq_true (show (i : Int) < L.length by omega)]; conv => whnf
      rw [blt_of (show i < L.length by omega)]; conv => whnf
      rw [show (0 + i) = i by omega, blt_of (show i < L.length by omega)]; conv => whnf
      have hr : r.length + 1 ≤ i := hwl
      rcases hq : Ps[i] with _ | w
      · rw [hp, hq, show ((ba (pc none)).toList == (⟨#[]⟩ : ByteArray).toList) = true from beq_self_eq_true _]; conv => whnf
        exact ⟨(i + 1, w0 :: r), [0, 1], ⟨c, by rw [wordsOf_take Ps i c, ← hws, hq]; simp⟩, by show Ps.length - (i + 1) < Ps.length - i; omega, okN_of (n0 := 1) (by decide), Nat.le_of_ble_eq_true rfl, ⟨⟨_, rfl, .inl rfl⟩, ⟨_, rfl, .inl rfl⟩, trivial⟩, ⟨rfl, rfl, rfl, gK i (by omega), trivial⟩⟩
      · have hww := hw w (by rw [← hq]; exact List.getElem_mem c)
        have hsz := lw_len w hww
        rw [hp, hq, show ((ba (pc (some w))).toList == (⟨#[]⟩ : ByteArray).toList) = false from beq_ne hww]; conv => whnf
        refine (line1 (L.getD i ByteArray.empty) (by rw [hp, hq, ba_size]; show (lw w).length ≤ 1000000; omega) _).mono ?_
        rw [hp, hq, show lineF (ba (pc (some w))) = ((w : Int), true) from pc_line hww]
        rintro v H' ⟨rfl, rfl⟩
        conv => whnf
        rw [decide_eq_false (show ¬ (((r.length + 1 : Nat) : Int) ≥ 1024) by omega)]; conv => whnf
        have hll2 : (r ++ [(w : Int)]).length + 1 = r.length + 1 + 1 := by simp
        repeat' (first | exact Nat.le_of_ble_eq_true rfl | exact len_ints _ _ _ | exact room_small (by omega) (by decide) | exact ⟨(i + 1, w0 :: (r ++ [(w : Int)])), [0, 3], ⟨c, by rw [wordsOf_take Ps i c, ← hws, hq]; rfl⟩, by show Ps.length - (i + 1) < Ps.length - i; omega, okN_of (n0 := 1) (by decide), Nat.le_of_ble_eq_true rfl, ⟨⟨_, rfl, .inl rfl⟩, ⟨_, rfl, .inr ⟨oks_ints rfl, rfl⟩⟩, trivial⟩, ⟨slq _ _ hll2, rfl, rfl, gK i (by omega), trivial⟩⟩ | (refine And.intro ?_ ?_ <;> conv => whnf))
  · have e : Ps.take i = Ps := List.take_of_length_le (by omega)
    rw [e] at hws
    rw [← hws]
    rcases ws with _ | ⟨w0, r⟩
    · conv => whnf
      rw [decide_eq_false (show ¬ (i : Int) < L.length by omega)]; conv => whnf
      exact ⟨[], [], progV [], okN_of (n0 := 0) (by decide), Nat.zero_le _, trivial, rfl, rfl, rfl⟩
    · conv => whnf
      rw [decide_eq_false (show ¬ (i : Int) < L.length by omega)]; conv => whnf
      exact ⟨progH (w0 :: r), [1], progV (w0 :: r), okN_of (n0 := 0) (by decide), Nat.zero_le _, ⟨⟨_, rfl, .inl rfl⟩, trivial⟩, rfl, rfl, rfl⟩
end Go.Proofs.YtgglclmilocgcaaGreatDoor.Md
