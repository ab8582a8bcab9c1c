/- Rows of what was retired that came in; from a contract beside leavers to a good run. -/
import Derived.Test.YtpoknlbnookhjaaGl
import Derived.ChangeSlices
import Derived.ChangeArms
import Derived.ChangeShapes
import Derived.WideShapes
import Derived.ProofKit
import Derived.Deep.Slices
import Derived.Deep.Fields
import Derived.ChangeSame
import Derived.OpenShut
import Derived.SizedLaws
import Derived.Conc.LeavingOf
set_option linter.unusedVariables false
set_option linter.unusedSimpArgs false
namespace Go.Proofs.Ytpoknlbnookhjaa.Md
open Go.RowKit Go.Proofs.Ytpoknlbnookhjaa.Ae Go.Proofs.Ytpoknlbnookhjaa Go.ChangeShapes Go.WideShapes Go.Deep
theorem take_rows {α : Type} (st : Nat) (F : Nat → List α) (l : List α) (off : Nat) : ∀ (N : Nat), (∀ i, i < N → (F i).length = st) → (∀ i j, i < N → j < st → l[off + (i * st + j)]? = (F i)[j]?) → (l.drop off).take (N * st) = (List.range N).flatMap F := by
  intro N
  induction N with
  | zero => intro _ _; simp
  | succ N ih =>
    intro hl h
    rw [List.range_succ, List.flatMap_append, ← ih (fun i hi => hl i (by omega)) (fun i j hi hj => h i j (by omega) hj), Nat.succ_mul, List.take_add]
    congr 1
    simp only [List.flatMap_cons, List.flatMap_nil, List.append_nil]
    apply List.ext_getElem?
    intro j
    by_cases hj : j < st
    · rw [List.getElem?_take_of_lt hj, List.getElem?_drop, List.getElem?_drop, h N j (by omega) hj]
    · rw [List.getElem?_eq_none (by simp; omega), List.getElem?_eq_none (by rw [hl N (by omega)]; omega)]
theorem holds_recs {w : World} {b off N : Nat} {A : Nat → R7} (h : ∀ i j, i < N → j < 7 → w.cell? ⟨b, off + (i * 7 + j), none⟩ = (rv (A i))[j]?) (hn : 0 < N) (c : Nat) (hc : N * 7 ≤ c) (R : Ren) : Holds R w (seg N A) b (off, c) := by
  have h0 := h 0 0 hn (by decide)
  unfold World.cell? at h0
  split at h0
  case h_2 => cases h0
  rename_i cs ty fr hb
  have hcell : ∀ i j, i < N → j < 7 → cs.toList[off + (i * 7 + j)]? = (rv (A i))[j]? := by
    intro i j hi hj
    have := h i j hi hj
    unfold World.cell? at this
    simp only [hb] at this
    rw [Array.getElem?_toList]
    simpa using this
  have e1 := take_rows 7 (fun i => rv (A i)) cs.toList off N (fun i _ => rfl) hcell
  have hoff : off < cs.size := by
    have := hcell 0 0 hn (by decide)
    rw [Array.getElem?_toList] at this
    exact (Array.getElem?_eq_some_iff.1 (this.trans rfl)).1
  refine ⟨oks_seg N A, cs, ty, fr, cs.toList.take off, (List.range N).flatMap (fun i => rv (A i)), cs.toList.drop (off + N * 7), hb, by simp; omega, ?_, ?_, ?_⟩
  · rw [← e1, ← List.drop_drop, List.take_append_drop, List.take_append_drop]
  · exact rels_seg N A
  · rw [flat_seg, rows_len (st := 7) fun i _ => rfl]
    exact hc
theorem sevenL {α : Type} {l : List α} (h : l.length = 7) : ∃ a b c d e f g, l = [a, b, c, d, e, f, g] := by
  match l, h with
  | [a, b, c, d, e, f, g], _ => exact ⟨a, b, c, d, e, f, g, rfl⟩
instance : Inhabited R7 := ⟨(0, 0, 0, false, 0, 0, 0)⟩
/-- One row that came in: its block, what stands for it, its records, where it lies. -/
structure RowArg (W : World) (k : Blk) (u : Nat → V) (A : Nat → R7) (r : Option (Nat × (Nat × Nat))) (x : Value) (n : Nat) : Prop where
  form : ∀ p, Md.form p k (u p) n A
  holds : ∀ l, k.segs? = some l → ∃ m c, r = some (m, c) ∧ ∀ R, Holds R W l m c
  rel : ∀ (R : Ren) p, R p = r → (u p).rel R x
section
variable {K : Type} {enc : TypeId × Value → K} {W : World} {base b2 : Nat} {spare : Nat → Bool} {held : Bool}
theorem cellsU : Try.prog.cellsOf 23 = 1 := by kernel_rfl
theorem cellsI : Try.prog.cellsOf 3 = 1 := by kernel_rfl
theorem cellsB : Try.prog.cellsOf 4 = 1 := by kernel_rfl
theorem cellsR : Try.prog.cellsOf 25 = 7 := by kernel_rfl
theorem trod_ret {fuel : Nat} {cs : List Value} {x : DataW K × List MemPlace} (h : DataW.trod enc Try.prog W base spare held fuel 25 cs = some x) : ∃ r : R7, cs = rv r := by
  obtain ⟨xs, n, _, _, hl, hx, hf⟩ := DataW.trod_struct Try.underlying25 h
  rw [cellsR] at hl
  obtain ⟨a0, a1, a2, a3, a4, a5, a6, rfl⟩ := sevenL hl
  obtain ⟨y0, y1, y2, y3, y4, y5, y6, rfl⟩ := sevenL (α := DataW K × List MemPlace) (l := xs) hx
  have f0 : DataW.trod enc Try.prog W base spare held n 23 (List.take (Try.prog.cellsOf 23) (List.drop 0 [a0, a1, a2, a3, a4, a5, a6])) = some y0 := hf 0 _ rfl
  rw [cellsU] at f0
  have f1 : DataW.trod enc Try.prog W base spare held n 23 (List.take (Try.prog.cellsOf 23) (List.drop 1 [a0, a1, a2, a3, a4, a5, a6])) = some y1 := hf 1 _ rfl
  rw [cellsU] at f1
  have f2 : DataW.trod enc Try.prog W base spare held n 3 (List.take (Try.prog.cellsOf 3) (List.drop 2 [a0, a1, a2, a3, a4, a5, a6])) = some y2 := hf 2 _ rfl
  rw [cellsI] at f2
  have f3 : DataW.trod enc Try.prog W base spare held n 4 (List.take (Try.prog.cellsOf 4) (List.drop 3 [a0, a1, a2, a3, a4, a5, a6])) = some y3 := hf 3 _ rfl
  rw [cellsB] at f3
  have f4 : DataW.trod enc Try.prog W base spare held n 23 (List.take (Try.prog.cellsOf 23) (List.drop 4 [a0, a1, a2, a3, a4, a5, a6])) = some y4 := hf 4 _ rfl
  rw [cellsU] at f4
  have f5 : DataW.trod enc Try.prog W base spare held n 23 (List.take (Try.prog.cellsOf 23) (List.drop 5 [a0, a1, a2, a3, a4, a5, a6])) = some y5 := hf 5 _ rfl
  rw [cellsU] at f5
  have f6 : DataW.trod enc Try.prog W base spare held n 3 (List.take (Try.prog.cellsOf 3) (List.drop 6 [a0, a1, a2, a3, a4, a5, a6])) = some y6 := hf 6 _ rfl
  rw [cellsI] at f6
  simp only [List.drop_succ_cons, List.drop_zero, List.take_succ_cons, List.take_zero] at f0 f1 f2 f3 f4 f5 f6
  obtain ⟨n0, e0, _, w0⟩ := DataW.trod_int Try.underlying23 f0
  obtain ⟨n1, e1, _, w1⟩ := DataW.trod_int Try.underlying23 f1
  obtain ⟨n2, e2, _, w2⟩ := DataW.trod_int Try.underlying3 f2
  obtain ⟨n3, e3, _⟩ := DataW.trod_bool Try.underlying4 f3
  obtain ⟨n4, e4, _, w4⟩ := DataW.trod_int Try.underlying23 f4
  obtain ⟨n5, e5, _, w5⟩ := DataW.trod_int Try.underlying23 f5
  obtain ⟨n6, e6, _, w6⟩ := DataW.trod_int Try.underlying3 f6
  simp only [List.cons.injEq, and_true] at e0 e1 e2 e3 e4 e5 e6
  subst e0 e1 e2 e3 e4 e5 e6
  exact ⟨(n0, n1, n2, n3, n4, n5, n6), rfl⟩
/-- A row of records that came in. -/
theorem openRow {a : Option Addr} {n c : Nat} {d : DataW K} {p : List MemPlace} (h : DataW.Trod enc Try.prog W base spare held 22 (.slice a n c) d p) (hv : Value.okWide Try.prog W .any b2 22 (.slice a n c)) :
    ∃ k u A r, RowArg W k u A r (.slice a n c) n := by
  obtain ⟨fuel, hf⟩ := h
  rcases open_slice Try.underlying22 hf with ⟨hcs, _⟩ | ⟨ad, len, cap, m, n', D, Pl, hcs, hb, hl, hm, hmm, hx, hi⟩
  · simp [Value.cells] at hcs
    obtain ⟨rfl, rfl, rfl⟩ := hcs
    exact ⟨.dead, fun _ => .nilS, default, none, fun p => .inl ⟨rfl, rfl, rfl⟩, fun l h => (by cases h), fun R p _ => rfl⟩
  · simp [Value.cells] at hcs
    obtain ⟨rfl, rfl, rfl⟩ := hcs
    have hlm : n ≤ m := by rw [hmm]; split <;> omega
    have hs : ad.spot = none := by
      simp only [Value.okWide, Try.underlying22, Cell.okWide, Cell.ok] at hv
      exact hv.2.2.2.1
    obtain ⟨b, off, spot⟩ := ad
    simp only at hs
    subst hs
    by_cases h0 : n = 0
    · subst h0
      exact ⟨.dead, fun p => .sl p 0 0 0 7, default, some (b, (off, c * 7)), fun p => .inr (.inl ⟨rfl, rfl, rfl⟩), fun l h => (by cases h), fun R p hp => ⟨b, (off, c * 7), hp, .inl ⟨c, by simp, Nat.zero_le _, by simp, hm⟩⟩⟩
    · have hex : ∀ i, i < n → ∃ r : R7, ∀ j, j < 7 → W.cell? (((⟨b, off, none⟩ : Addr).add (i * 7)).add j) = (rv r)[j]? := by
        intro i hin
        obtain ⟨cs', h1, h2⟩ := hi i (by omega)
        rw [cellsR] at h1
        obtain ⟨_, hlen, hat⟩ := World.cells?_some h1
        obtain ⟨r, rfl⟩ := trod_ret h2
        exact ⟨r, hat⟩
      obtain ⟨A, hA⟩ := choose_lt (α := R7) hex
      have hadd : ∀ i j, ((⟨b, off, none⟩ : Addr).add (i * 7)).add j = ⟨b, off + (i * 7 + j), none⟩ := by
        intro i j
        rw [Addr.add_lit, Addr.add_lit, Nat.add_assoc]
      refine ⟨.ro (seg n A), fun p => .sl p 0 0 n 7, A, some (b, (off, c * 7)), fun p => .inr (.inr ⟨n, rfl, Nat.le_refl _, rfl⟩), fun l h => ?_, fun R p hp => ⟨b, (off, c * 7), hp, .inl ⟨c, by simp, hl, by simp, hm⟩⟩⟩
      injection h with h; subst h
      refine ⟨b, (off, c * 7), rfl, fun R => holds_recs (fun i j hi hj => ?_) (by omega) (c * 7) (by omega) R⟩
      have := hA i hi j hj
      rwa [hadd] at this
end
theorem form.ro {p : Nat} {k : Blk} {v : V} {n : Nat} {A : Nat → R7} (h : form p k v n A) (l : List Seg) : k ≠ .rw l := by
  rcases h with ⟨_, _, rfl⟩ | ⟨_, _, rfl⟩ | ⟨N, _, _, rfl⟩ <;> simp
theorem two_cases {k0 k1 b : Blk} {i : Nat} (h : [k0, k1][i]? = some b) : (i = 0 ∧ b = k0) ∨ (i = 1 ∧ b = k1) := by
  rcases i with _ | _ | i
  · simp at h; exact .inl ⟨rfl, h.symm⟩
  · simp at h; exact .inr ⟨rfl, h.symm⟩
  · simp at h
def ren2 (r0 r1 : Option (Nat × (Nat × Nat))) : Ren := fun i => if i = 0 then r0 else if i = 1 then r1 else none
theorem rep2 {W : World} {k0 k1 : Blk} {u0 u1 : Nat → V} {A0 A1 : Nat → R7} {r0 r1 : Option (Nat × (Nat × Nat))} {x0 x1 : Value} {n0 n1 : Nat} (h0 : RowArg W k0 u0 A0 r0 x0 n0) (h1 : RowArg W k1 u1 A1 r1 x1 n1) : Rep (ren2 r0 r1) [k0, k1] W := by
  have hro : ∀ (n : Nat) (l : List Seg), ([k0, k1] : Hp)[n]? ≠ some (Blk.rw l) := by
    intro n l hn
    rcases two_cases hn with ⟨_, e⟩ | ⟨_, e⟩
    · exact (h0.form 0).ro l e.symm
    · exact (h1.form 1).ro l e.symm
  refine ⟨fun x hx => (by cases hx), fun i b l hi hs => ?_, fun i hi => ?_, fun i l m c hi _ => absurd hi (hro i l), fun i i' l b l' m c c' hi _ _ _ _ => absurd hi (hro i l)⟩
  · rcases two_cases hi with ⟨rfl, rfl⟩ | ⟨rfl, rfl⟩
    · obtain ⟨m, c, e, hh⟩ := h0.holds l hs; exact ⟨m, c, e, hh _⟩
    · obtain ⟨m, c, e, hh⟩ := h1.holds l hs; exact ⟨m, c, e, hh _⟩
  · simp at hi
    unfold ren2
    rw [if_neg (by omega), if_neg (by omega)]
theorem ro2 {W : World} {k0 k1 : Blk} {u0 u1 : Nat → V} {A0 A1 : Nat → R7} {r0 r1 : Option (Nat × (Nat × Nat))} {x0 x1 : Value} {n0 n1 : Nat} (h0 : RowArg W k0 u0 A0 r0 x0 n0) (h1 : RowArg W k1 u1 A1 r1 x1 n1) (n : Nat) (l : List Seg) : ([k0, k1] : Hp)[n]? ≠ some (Blk.rw l) := by
  intro hn
  rcases two_cases hn with ⟨_, e⟩ | ⟨_, e⟩
  · exact (h0.form 0).ro l e.symm
  · exact (h1.form 1).ro l e.symm
end Go.Proofs.Ytpoknlbnookhjaa.Md
namespace Go.Proofs.Ytpoknlbnookhjaa.Ae
open Go.Lone Go.RowKit
open Go.Conc (G solo enter_at base ResultsC runNT_then)
theorem ACB.law {P : Program} {f : FuncId} {args : List AV} {H : Hp} (h : ACB P f args H fun v _ => v = .v (.bool true)) {R : Ren} {w : World} {xs : List Value} (ha : relA R args xs) (hr : Rep R H w) (hro : ∀ (n : Nat) (l : List Seg), H[n]? ≠ some (Blk.rw l)) :
    CallsB P f xs.toArray w fun v w' => v = .bool true ∧ Below w.heap.size w w' := by
  refine (h.run R w xs ha hr).mono ?_
  rintro x w' ⟨v, H', R', rfl, h1, h2, h3⟩
  have h1 : x = .bool true := h1
  exact ⟨h1, h3.below hro⟩
theorem stepG_over {P : Program} {f : FuncId} {fr : Frame} {w : World} {v : Value} (h : Leave P f fr v) (hi : P.inits.idxOf? f = none) : stepG P true (G fr []) w = .ended (.done v) w #[] := by
  obtain ⟨rfl, hm, hd, hk, fn, hf, hr⟩ := h
  have h1 := (hr w).1
  have h2 := (hr w).2
  simp [G, stepG, unwind, doReturn, hm, hk, hd, hf, h1, h2, seen, GStep.after, hi]
/-- FROM A CONTRACT BESIDE LEAVERS TO ONE GOOD RUN, alone at its start. -/
theorem CallsB.good {P : Program} {f : FuncId} {args : Array Value} {w : World} {R Post : Value → World → Prop} (h : CallsB P f args w R) (hi : P.inits.idxOf? f = none) (hp : ∀ v w' d, R v w' → Post v (w'.at d)) :
    ∃ M last o w' t', runNT P (M + 1) (solo (G (Frame.enter P f args .normal) []) w) #[] = (.ended o w', t') ∧ runN P M (solo (G (Frame.enter P f args .normal) []) w) = .next last ∧
      step P last = .ended o w' ∧ _root_.Go.Conc.Good P Post last o w' t' := by
  obtain ⟨N, gs', sl', T', q', g', w', a, b, ⟨fr, v, rfl, hl, hv⟩, d, e⟩ := h [] #[G (Frame.enter P f args .normal) []] none #[] (fun _ => 0) rfl (_root_.Go.Conc.leavers_one P _) (_root_.Go.Conc.past_nil.mono (Nat.zero_le _))
  obtain ⟨N2, last, o, w2, t2, c1, c2, c3, c4⟩ := _root_.Go.Conc.beside_ends (P := P) (Shun := NoShun) (B := w'.heap.size) (D := fun _ _ _ => False) (Post := Post) (n := 0) (sl := sl') (fun _ _ _ h => h.elim) b d e (fun w1 hw => by
    obtain ⟨d, rfl⟩ := hw
    exact ⟨rfl, v, #[], stepG_over hl hi, fun e he => by simp at he, hp v w' d hv⟩)
  refine ⟨N + N2, last, o, w2, t2, ?_, ?_, c3, c4⟩
  · rw [Nat.add_assoc, runNT_add]
    have a : runNT P N (solo (G (Frame.enter P f args .normal) []) w) #[] = _ := a
    rw [a]; exact c1
  · rw [runN_add]
    have a : runNT P N (solo (G (Frame.enter P f args .normal) []) w) #[] = _ := a
    rw [← runNT_fst _ _ _ #[], a]; exact c2
end Go.Proofs.Ytpoknlbnookhjaa.Ae
