/- EncodeBack. -/
import Derived.Test.YtjfbpnfegeimfaaDoorLw
import Derived.Test.YtjfbpnfegeimfaaDoorTi
set_option linter.unusedVariables false
set_option linter.unusedSimpArgs false
namespace Go.Proofs.YtjfbpnfegeimfaaDoor.Md
open Go.RowKit Go.Proofs.YtjfbpnfegeimfaaDoor.Ae Go.Proofs.YtjfbpnfegeimfaaDoor.Bv Go.Proofs.YtjfbpnfegeimfaaDoor
/-- A tape's row, under any name. -/
def tapeOkQ (q : Nat) (tv : V) (b0 : Blk) : Prop := (tv = .nilS ∧ b0 = .dead) ∨ (tv = .sl q 0 0 0 1 ∧ b0 = .dead) ∨ ∃ (n : Nat) (l : List Int), tv = .sl q 0 0 n 1 ∧ b0 = .ro [.ints .i64 n l] ∧ n ≤ 9223372036854775807
theorem instQ (q : Nat) (tv : V) (b0 : Blk) (h : tapeOkQ q tv b0) (G : Hp) (p : Nat) (h0 : q ≠ p) (hp : p < G.length) (hq : q < G.length) (g0 : lk G q = some b0) (g1 : lk G p = some (.rw [.one tv, .one (.int .i64 0)])) :
    AC Tryd.prog 9 [.v (.ptr p 0 0 0)] G (fun v H => ∃ (t : T5) (k : Int), valid t ∧ v = .agg (ins t) ∧ H = G.set p (.rw [.one tv, .one (.int .i64 k)])) := by
  have hnd : [p, q].Nodup := by simp; omega
  have hlt : ∀ x ∈ [p, q], x < G.length := by intro x hx; simp at hx; omega
  rcases h with ⟨rfl, rfl⟩ | ⟨rfl, rfl⟩ | ⟨n, l, rfl, rfl, hn⟩
  · refine ((instE _ (.inl rfl)).embed [p, q] (G := G) hnd hlt ⟨g1, trivial⟩).mono ?_
    rintro v G' ⟨v0, H', ⟨rfl, rfl⟩, _, rfl, rfl⟩
    exact ⟨(1, 0, 0, 0, 0), 0, valid1, rfl, by simp [embP, Blk.ren, rensS, Seg.ren, V.ren, nthN]⟩
  · refine ((instE _ (.inr rfl)).embed [p, q] (G := G) hnd hlt ⟨g1, trivial⟩).mono ?_
    rintro v G' ⟨v0, H', ⟨rfl, rfl⟩, _, rfl, rfl⟩
    exact ⟨(1, 0, 0, 0, 0), 0, valid1, rfl, by simp [embP, Blk.ren, rensS, Seg.ren, V.ren, nthN]⟩
  · refine ((inst0 n l 0 (Nat.zero_le _) hn).embed [p, q] (G := G) hnd hlt ⟨g1, .inr g0, trivial⟩).mono ?_
    rintro v G' ⟨v0, H', ⟨t, k, hv, hk, rfl, rfl⟩, _, rfl, rfl⟩
    exact ⟨t, k, hv, rfl, by simp [embP, Blk.ren, rensS, Seg.ren, V.ren, nthN]⟩
/-- Two rows that came in, each under its name. -/
theorem rep_two {R0 R1 : Ren} {w : World} {b0 b1 : Blk} (h0 : Rep R0 [b0] w) (h1 : Rep R1 [b1] w) (n0 : ∀ l, b0 ≠ .rw l) (n1 : ∀ l, b1 ≠ .rw l)
    (e0 : ∀ l, b0.segs? = some l → ∀ R R' : Ren, ∀ m c, Holds R w l m c → Holds R' w l m c) (e1 : ∀ l, b1.segs? = some l → ∀ R R' : Ren, ∀ m c, Holds R w l m c → Holds R' w l m c) :
    Rep (fun n => if n = 0 then R0 0 else if n = 1 then R1 0 else none) [b0, b1] w := by
  refine ⟨fun x hx => ⟨(h0.tab x hx).1, fun n l c h => ?_⟩, fun n b l h hs => ?_, fun n hn => ?_, fun n l m c h => ?_, fun n n' l b l' m c c' h => ?_⟩
  · rcases n with _ | _ | n <;> simp at h
    · exact absurd h (n0 l)
    · exact absurd h (n1 l)
  · rcases n with _ | _ | n
    · simp at h; subst h
      obtain ⟨m, c, r1, r2⟩ := h0.holds 0 b0 l rfl hs
      exact ⟨m, c, r1, e0 l hs _ _ m c r2⟩
    · simp at h; subst h
      obtain ⟨m, c, r1, r2⟩ := h1.holds 0 b1 l rfl hs
      exact ⟨m, c, r1, e1 l hs _ _ m c r2⟩
    · simp at h
  · have : n ≠ 0 ∧ n ≠ 1 := by simp at hn; omega
    simp [this]
  · rcases n with _ | _ | n <;> simp at h
    · exact absurd h (n0 l)
    · exact absurd h (n1 l)
  · rcases n with _ | _ | n <;> simp at h
    · exact absurd h (n0 l)
    · exact absurd h (n1 l)
theorem rels_plain {R R' : Ren} {k : IntKind} : ∀ {l : List Int} {cs : List Value}, rels R (l.map (V.int k)) cs → rels R' (l.map (V.int k)) cs
  | [], _, h => by cases h; exact .nil
  | _ :: _, _, h => by
    cases h with
    | cons h1 h2 => exact .cons h1 (rels_plain h2)
theorem tape_moves {tv : V} {b0 : Blk} (ht : tapeOk tv b0) {w : World} : (∀ l, b0 ≠ .rw l) ∧ ∀ l, b0.segs? = some l → ∀ R R' : Ren, ∀ m c, Holds R w l m c → Holds R' w l m c := by
  rcases ht with ⟨_, rfl⟩ | ⟨_, rfl⟩ | ⟨n, l, _, rfl, _⟩
  · exact ⟨fun l h => (by cases h), fun l h => (by cases h)⟩
  · exact ⟨fun l h => (by cases h), fun l h => (by cases h)⟩
  · refine ⟨fun l h => (by cases h), fun l' h => ?_⟩
    injection h with h; subst h
    rintro R R' m c ⟨o, cs, ty, fr, pre, xs, rest, a1, a2, a3, a4, a5⟩
    refine ⟨o, cs, ty, fr, pre, xs, rest, a1, a2, a3, ?_, a5⟩
    have a4 : rels R ((l.map (V.int .i64)) ++ []) xs := a4
    show rels R' ((l.map (V.int .i64)) ++ []) xs
    rw [List.append_nil] at a4 ⊢
    exact rels_plain a4
theorem tape_at {tv : V} {b0 : Blk} (ht : tapeOk tv b0) {R : Ren} {x : Value} (hx : tv.rel R x) (q : Nat) : ∃ tq : V, tapeOkQ q tq b0 ∧ ∀ R' : Ren, R' q = R 0 → tq.rel R' x := by
  rcases ht with ⟨rfl, rfl⟩ | ⟨rfl, rfl⟩ | ⟨n, l, rfl, rfl, hn⟩
  · exact ⟨.nilS, .inl ⟨rfl, rfl⟩, fun _ _ => hx⟩
  · refine ⟨.sl q 0 0 0 1, .inr (.inl ⟨rfl, rfl⟩), fun R' e => ?_⟩
    obtain ⟨m, c, h1, h2⟩ := hx
    exact ⟨m, c, e.trans h1, h2⟩
  · refine ⟨.sl q 0 0 n 1, .inr (.inr ⟨n, l, rfl, rfl, hn⟩), fun R' e => ?_⟩
    obtain ⟨m, c, h1, h2⟩ := hx
    exact ⟨m, c, e.trans h1, h2⟩
theorem word_inj {t u : T5} (ht : valid t) (hu : valid u) (h : word t = word u) : t = u := by rw [← dec_word ht, ← dec_word hu, h]
theorem eq_words {t u : T5} (ht : valid t) (hu : valid u) : (((word t : Nat) : Int) == ((word u : Nat) : Int)) = decide (t = u) := by
  rw [Bool.eq_iff_iff]
  simp only [beq_iff_eq, decide_eq_true_eq]
  exact ⟨fun h => word_inj ht hu (by omega), fun h => by rw [h]⟩
theorem eq_texts {t u : T5} (ht : valid t) (hu : valid u) : ((⟨(txt t).toArray⟩ : ByteArray).toList == (⟨(txt u).toArray⟩ : ByteArray).toList) = decide (t = u) := by
  rw [Bool.eq_iff_iff]
  simp only [beq_iff_eq, decide_eq_true_eq]
  refine ⟨fun h => txt_inj ht hu ?_, fun h => by rw [h]⟩
  simpa [ByteArray.toList_eq] using h
theorem back0 (tv tu : V) (b0 b1 : Blk) (ht : tapeOkQ 0 tv b0) (hu : tapeOkQ 1 tu b1) : AC Tryd.prog 5 [.v tv, .v tu] [b0, b1] (fun v _ => v = bo true) := by
  refine AC.of_body dok Tryd.func5 rfl rfl (Nat.le_of_ble_eq_true rfl) ?_
  conv => whnf
  refine (instQ 0 tv b0 ht _ 2 (by decide) (Nat.le_of_ble_eq_true rfl) (Nat.le_of_ble_eq_true rfl) rfl rfl).mono ?_
  rintro v H' ⟨t, k, hv, rfl, rfl⟩
  conv => whnf
  refine (instQ 1 tu b1 hu _ 3 (by decide) (Nat.le_of_ble_eq_true rfl) (Nat.le_of_ble_eq_true rfl) rfl rfl).mono ?_
  rintro v H' ⟨u, k', hv', rfl, rfl⟩
  conv => whnf
  refine (enc1 t _).mono ?_
  rintro v H' ⟨rfl, rfl⟩
  conv => whnf
  refine (enc1 u _).mono ?_
  rintro v H' ⟨rfl, rfl⟩
  rw [encT_pos hv, encT_pos hv']
  conv => whnf
  refine (rdec1 (word t) (word_lt hv) _).mono ?_
  rintro v H' ⟨rfl, rfl⟩
  rw [dec_word hv]
  have ev : (t.1 != 0) = true := by have := hv.1; simp; omega
  conv => whnf
  have hb0 : b0 = .dead ∨ ∃ s, b0 = .ro s := by
    rcases ht with ⟨_, h⟩ | ⟨_, h⟩ | ⟨n, l, _, h, _⟩
    · exact .inl h
    · exact .inl h
    · exact .inr ⟨_, h⟩
  have hb1 : b1 = .dead ∨ ∃ s, b1 = .ro s := by
    rcases hu with ⟨_, h⟩ | ⟨_, h⟩ | ⟨n, l, _, h, _⟩
    · exact .inl h
    · exact .inl h
    · exact .inr ⟨_, h⟩
  clear ht hu
  rcases hb0 with rfl | ⟨s0, rfl⟩ <;> rcases hb1 with rfl | ⟨s1, rfl⟩
  all_goals refine DR.way [0, 1, 2, 3, 4, 5, 6, 7, 8, 9, 10, 11, 12, 13, 14, 15, 16, 17, 18, 19, 20, 21, 22, 24, 27, 28, 29, 23, 25, 26, 30, 31, 32, 33, 34, 35] (by decide +kernel) ⟨[], ?_⟩
  all_goals conv => whnf
  all_goals rw [ev]
  all_goals conv => whnf
  all_goals rw [eq5 t t, decide_eq_true rfl]
  all_goals conv => whnf
  all_goals rw [eq_words hv hv', eq5 t u, beq_self_eq_true]
  all_goals conv => whnf
  all_goals refine (text1 t _).mono ?_
  all_goals rintro v H' ⟨rfl, rfl⟩
  all_goals conv => whnf
  all_goals refine (text1 u _).mono ?_
  all_goals rintro v H' ⟨rfl, rfl⟩
  all_goals conv => whnf
  all_goals rw [eq_texts hv hv', eq5 t u, beq_self_eq_true]
  all_goals conv => whnf
  all_goals refine (known1 _).mono ?_
  all_goals rintro v H' ⟨rfl, rfl⟩
  all_goals conv => whnf
theorem walkBack {K : Type} {enc : TypeId × Value → K} {W0 : World} {base b2 b3 : Nat} {spare : Nat → Bool} {held : Bool} {x : Option Addr} {n c : Nat} {d : DataW K} {p : List MemPlace} (h1 : DataW.Trod enc Tryd.prog W0 base spare held 29 (.slice x n c) d p) (v1 : Value.okWide Tryd.prog W0 .any b2 29 (.slice x n c))
    {x' : Option Addr} {n' c' : Nat} {d' : DataW K} {p' : List MemPlace} (h2 : DataW.Trod enc Tryd.prog W0 base spare held 29 (.slice x' n' c') d' p') (v2 : Value.okWide Tryd.prog W0 .any b3 29 (.slice x' n' c')) (w : World) (gt : GTw w) (e0 : w = W0 := by rfl) :
    Calls Tryd.prog 5 #[.slice x n c, .slice x' n' c'] w fun e w' => e = .returned (.bool true) ∧ Below w.heap.size w w' := by
  subst e0
  obtain ⟨tv, b0, R, ht, hr, hx⟩ := openTape gt h1 v1
  obtain ⟨tu, b1, R1, hu, hr1, hx1⟩ := openTape gt h2 v2
  obtain ⟨m0, m1⟩ := tape_moves (w := w) ht
  obtain ⟨n0, n1⟩ := tape_moves (w := w) hu
  obtain ⟨tv', hv, rv⟩ := tape_at ht hx 0
  obtain ⟨tu', hu', ru⟩ := tape_at hu hx1 1
  refine AC.law (R := fun n => if n = 0 then R 0 else if n = 1 then R1 0 else none) (back0 tv' tu' b0 b1 hv hu') (.cons (rv _ rfl) (.cons (ru _ rfl) .nil)) (rep_two hr hr1 m0 n0 m1 n1) ?_
  intro k l hk
  rcases k with _ | _ | k <;> simp at hk
  · exact m0 l hk
  · exact n0 l hk
end Go.Proofs.YtjfbpnfegeimfaaDoor.Md
