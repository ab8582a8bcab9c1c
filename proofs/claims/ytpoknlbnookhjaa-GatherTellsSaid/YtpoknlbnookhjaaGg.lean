/- Loops whose rounds end with the blocks under other names; contracts over blocks cut and named otherwise; beside leavers. -/
import Derived.Test.YtpoknlbnookhjaaGf
set_option linter.unusedVariables false
set_option linter.unusedSimpArgs false
namespace Go.Proofs.Ytpoknlbnookhjaa.Ae
open Go.RowKit
open Go.Conc (G stepG_loop stepG_inLoop)
open Go.Lone
section
variable {P : Program} {D : Tab} {nt : Nat}
theorem aw_loopRB (hD : D.ok P) (hU : Und P) {α : Type} {c : Code} {Q : Exit → Sl → Hp → Prop} {s : Sl} {H : Hp} (n0 : Nat) (S : α → Sl) (HH : α → Hp) (inv : α → Prop) (mu : α → Nat) (x0 : α) (hs : subs (S x0) s) (hH : H = HH x0) (h0 : inv x0) (hn : (HH x0).length = n0)
    (round : ∀ x, inv x → awB P D nt c (roundR n0 S HH inv mu Q x) (S x) (HH x)) : AWBs P nt (.loop c) Q s H := by
  refine ⟨fun R w a h1 h2 h3 h4 b k cs hb => ?_⟩
  subst hH
  have key : ∀ n x, mu x = n → inv x → ∀ (R1 : Ren) (w1 : World) (a1 : Act), a1.tmps.size = nt → a1.defers = [] → SR R1 (S x) a1 → Rep R1 (HH x) w1 → Go R (HH x0) w R1 (HH x) w1 →
      Tends P (G (b.at a1 (.code c :: .inLoop c :: k)) cs) w1 (fun g w' => ∃ e a', Post nt Q R (HH x0) w e a' w' ∧ Arr b k cs e a' g) := by
    intro n
    induction n using Nat.strongRecOn with
    | _ n ih =>
    intro x hn' hi R1 w1 a1 g1 g2 g3 g4 g5
    refine (awB_sound hD hU (round x hi) R1 w1 a1 g1 g2 g3 g4 b (.inLoop c :: k) cs hb).bind ?_
    rintro g w' ⟨e, a', ⟨s', H', R', q, k1, k2, k3, k4, k5⟩, ha⟩
    cases e with
    | normal =>
      obtain rfl : g = _ := ha
      obtain ⟨x', σ, i1, i2, i3, i4, i5, i6⟩ := q
      refine Tends.ctl rfl (fun w => stepG_inLoop) fun d => ih (mu x') (hn' ▸ i2) x' rfl i1 (R'.via σ) (w'.at d) a' k1 k2 (fun t v hv => AV.ren_of (k3 t _ (subsR_get i6 t v hv))) (k4.reix i3.1 i5).at' (((g5.trans k5).reix (by rw [hn]; exact i3) i5 (by rw [hn]; exact i4)).trans Go.at')
    | exit id => exact Tends.here ⟨_, a', ⟨s', H', R', q, k1, k2, k3, k4, g5.trans k5⟩, Arr.pass (x := .inLoop c) rfl (by simp) ha⟩
    | ret => exact Tends.here ⟨_, a', ⟨s', H', R', q, k1, k2, k3, k4, g5.trans k5⟩, Arr.pass (x := .inLoop c) rfl (by simp) ha⟩
    | _ => exact ha.elim
  exact Tends.ctl rfl (fun w => stepG_loop) fun d => key _ x0 rfl h0 R (w.at d) a h1 h2 (fun t v hv => h3 t v (subs_get hs t v hv)) h4.at' Go.at'
/-- No block of it may be written. -/
def allRo : Hp → Prop
  | [] => True
  | .rw _ :: _ => False
  | .ro _ :: r => allRo r
  | .dead :: r => allRo r
theorem allRo_get : ∀ {H : Hp}, allRo H → ∀ (n : Nat) (l : List Seg), H[n]? ≠ some (.rw l)
  | [], _, n, l => by simp
  | .rw _ :: _, h, _, _ => h.elim
  | .ro _ :: r, h, n, l => by
    cases n with
    | zero => simp
    | succ n => simpa using allRo_get (H := r) h n l
  | .dead :: r, h, n, l => by
    cases n with
    | zero => simp
    | succ n => simpa using allRo_get (H := r) h n l
/-- These blocks are, under other names, among the other's; they hold no names. -/
def sees (G : Hp) : Hp → List Nat → Prop
  | [], [] => True
  | .dead :: K, _ :: ns => sees G K ns
  | .ro l :: K, n :: ns => (∃ b l', G[n]? = some b ∧ b.segs? = some l' ∧ flat l' = flat l) ∧ oks l ∧ (∀ σ, rensS σ l = l) ∧ sees G K ns
  | _, _ => False
theorem sees_get {G : Hp} : ∀ {K : Hp} {ns : List Nat}, sees G K ns → ns.length = K.length ∧ allRo K ∧ ∀ (i : Nat) (l : List Seg), K[i]? = some (.ro l) → ∃ n b l', ns[i]? = some n ∧ G[n]? = some b ∧ b.segs? = some l' ∧ flat l' = flat l ∧ oks l ∧ ∀ σ, rensS σ l = l
  | [], [], _ => ⟨rfl, trivial, fun i l h => by simp at h⟩
  | .dead :: K, _ :: ns, h => by
    obtain ⟨h1, h2, h3⟩ := sees_get (K := K) (ns := ns) h
    refine ⟨by simp [h1], h2, fun i l hi => ?_⟩
    cases i with
    | zero => simp at hi
    | succ i => simpa using h3 i l (by simpa using hi)
  | .ro l0 :: K, n :: ns, h => by
    obtain ⟨h1, h2, h3⟩ := sees_get (K := K) (ns := ns) h.2.2.2
    refine ⟨by simp [h1], h2, fun i l hi => ?_⟩
    cases i with
    | zero => simp at hi; subst hi; obtain ⟨b, l', e1, e2, e3⟩ := h.1; exact ⟨n, b, l', rfl, e1, e2, e3, h.2.1, h.2.2.1⟩
    | succ i => simpa using h3 i l (by simpa using hi)
  | .rw _ :: _, _ :: _, h => h.elim
  | .rw _ :: _, [], h => h.elim
  | .ro _ :: _, [], h => h.elim
  | .dead :: _, [], h => h.elim
  | [], _ :: _, h => h.elim
theorem sees_rep {R : Ren} {G K : Hp} {w : World} {ns : List Nat} (hr : Rep R G w) (h : sees G K ns) : Rep (R.via ns) K w := by
  obtain ⟨h1, h2, h3⟩ := sees_get h
  have hro := allRo_get h2
  refine ⟨fun x hx => (by cases hx), fun i b l hi hs => ?_, fun i hi => ?_, fun i l m c hi _ => absurd hi (hro i l), fun i i' l b l' m c c' hi _ _ _ _ => absurd hi (hro i l)⟩
  · cases b with
    | dead => cases hs
    | rw l2 => exact absurd hi (hro i l2)
    | ro l2 =>
      injection hs with hs; subst hs
      obtain ⟨n, b, l', e1, e2, e3, e5, e6, e4⟩ := h3 i l2 hi
      obtain ⟨m, c, r1, r2⟩ := hr.holds n b l' e2 e3
      have r2 : Holds R w l2 m c := ⟨e6, by rw [← e5]; exact r2.2⟩
      refine ⟨m, c, by simp only [Ren.via, nthN_eq, e1]; exact r1, ?_⟩
      have : Holds R w (rensS ns l2) m c := by rw [e4]; exact r2
      exact this.ren_of
  · simp only [Ren.via, nthN_eq]
    rw [List.getElem?_eq_none (by omega)]
/-- A value without a name in it. -/
def V.plain : V → Prop
  | .bool _ | .int _ _ | .str _ | .nilP | .nilS | .nilI | .nilF => True
  | _ => False
theorem V.plain_rel {v : V} (h : v.plain) {R R' : Ren} {x : Value} (hx : v.rel R x) : v.rel R' x := by
  cases v <;> first | exact h.elim | exact hx
def plainA : AV → Prop
  | .v x => x.plain
  | .tup l => ∀ y ∈ l, ∃ x, y = .v x ∧ x.plain
  | _ => False
theorem relL_plain {R R' : Ren} {l : List AV} {xs : List Value} (h : relL R l xs) : (∀ y ∈ l, ∃ x, y = .v x ∧ x.plain) → relL R' l xs := by
  induction h with
  | nil => intro _; exact .nil
  | cons a _ ih =>
    intro hl
    obtain ⟨x, rfl, hx⟩ := hl _ (List.mem_cons_self ..)
    exact .cons (V.plain_rel hx a) (ih fun y hy => hl y (List.mem_cons_of_mem _ hy))
theorem plainA_rel {v : AV} (h : plainA v) {R R' : Ren} {x : Value} (hx : v.rel R x) : v.rel R' x := by
  cases v with
  | v x => exact V.plain_rel h hx
  | tup l => obtain ⟨ys, k, e⟩ := hx; exact ⟨ys, relL_plain k h, e⟩
  | agg l => exact h.elim
  | any => exact h.elim
/-- A CONTRACT OVER THE BLOCKS THAT ONE READS, OVER ANY: what comes out has no name in it. -/
theorem ACB.view0 {f : FuncId} {args args' : List AV} {K G : Hp} {ns : List Nat} {Q : AV → Prop} (h : ACB P f args K fun v _ => plainA v ∧ Q v) (hs : sees G K ns) (ha : args' = rensA ns args) : ACB P f args' G fun v H' => Q v ∧ H' = G := by
  subst ha
  refine ⟨h.enter, fun R w xs h1 h2 => (h.run (R.via ns) w xs (relA_ren_of h1) (sees_rep h2 hs)).mono ?_⟩
  rintro x w' ⟨v, H', R', ⟨hp, q⟩, hv, hr, g⟩
  have hro := allRo_get (sees_get hs).2.1
  have hb : ∀ k, k < w.heap.size → w'.heap[k]? = w.heap[k]? := fun k hk => g.frame k hk fun n l c hn => absurd hn (hro n l)
  exact ⟨v, G, R, ⟨q, rfl⟩, plainA_rel hp hv, h2.grown hb, Go.grown g.os g.tape g.output g.size hb⟩
/-- The same where a row comes out that is new. -/
def outRow (st : Nat) (K H' : Hp) (u : V) (n : Nat) (F : Nat → List V) : Prop :=
  (u = .nilS ∧ n = 0) ∨ ∃ p, u = .sl p 0 0 n st ∧ K.length ≤ p ∧ H'[p]? = some (.rw [.recs st n F])
theorem ACB.view1 {f : FuncId} {args args' : List AV} {K G : Hp} {ns : List Nat} {st n : Nat} {F : Nat → List V} {y : V} (hF : ∀ i, ∀ v ∈ F i, v.plain) (hy : y.plain) (h : ACB P f args K fun v H' => ∃ u, v = .tup [.v u, .v y] ∧ outRow st K H' u n F) (hs : sees G K ns) (ha : args' = rensA ns args) :
    ACB P f args' G fun v H' => ∃ u b, v = .tup [.v u, .v y] ∧ H' = G ++ [b] ∧ ((u = .nilS ∧ n = 0 ∧ b = .dead) ∨ (u = .sl G.length 0 0 n st ∧ b = .rw [.recs st n F])) := by
  subst ha
  refine ⟨h.enter, fun R w xs h1 h2 => (h.run (R.via ns) w xs (relA_ren_of h1) (sees_rep h2 hs)).mono ?_⟩
  rintro x w' ⟨v, H', R', ⟨u, rfl, q⟩, hv, hr, g⟩
  have hro := allRo_get (sees_get hs).2.1
  have hb : ∀ k, k < w.heap.size → w'.heap[k]? = w.heap[k]? := fun k hk => g.frame k hk fun n l c hn => absurd hn (hro n l)
  have r0 := h2.grown hb
  have g0 : Go R G w R G w' := Go.grown g.os g.tape g.output g.size hb
  obtain ⟨ys, hl, rfl⟩ := hv
  cases hl with
  | cons hu hl =>
  cases hl with
  | cons hyv hl =>
  cases hl
  rename_i xu xy
  rcases q with ⟨rfl, rfl⟩ | ⟨p, rfl, hp, hpb⟩
  · exact ⟨.tup [.v .nilS, .v y], _, R, ⟨.nilS, .dead, rfl, rfl, .inl ⟨rfl, rfl, rfl⟩⟩, ⟨[xu, xy], .cons hu (.cons (V.plain_rel hy hyv) .nil), rfl⟩, r0.pad, g0.pad⟩
  · obtain ⟨m, c, hR, hx⟩ := hu
    obtain ⟨m', c', hR', ho, cs, ty, fr, pre, xs', rest, a1, a2, a3, a4, a5⟩ := hr.holds p _ _ hpb rfl
    rw [hR] at hR'; injection hR' with hR'; injection hR' with e1 e2; subst e1 e2
    obtain ⟨cs', ty', hh, hc2, hc1⟩ := hr.own p _ m c hpb hR
    rw [a1] at hh; injection hh with hh; injection hh with e1 e2 e3; subst e1 e2 e3
    have hnew : w.heap.size ≤ m := by
      rcases (g.own p _ m c hp hpb (by simp) hR).2 with h | ⟨n0, l0, c0, hn0, _⟩
      · exact h
      · exact absurd hn0 (hro n0 l0)
    have hlow : ¬ Md.Names R G m := by
      rintro ⟨j, b, l, c', hj, hs', hRj⟩
      obtain ⟨m2, c2, h3, h4⟩ := h2.holds j b l hj hs'
      rw [hRj] at h3; injection h3 with h3; injection h3 with e _; subst e
      have := h4.lt; omega
    have hpl : ∀ {l : List V} {zs : List Value}, (∀ v ∈ l, v.plain) → rels R' l zs → rels R l zs := by
      intro l zs hl hz
      induction hz with
      | nil => exact .nil
      | cons a _ ih => exact .cons (V.plain_rel (hl _ (List.mem_cons_self ..)) a) (ih fun v hv => hl v (List.mem_cons_of_mem _ hv))
    have hpre : pre = [] := List.length_eq_zero_iff.1 (by rw [a2, hc1])
    subst hpre
    have hrel : rels R (flat [.recs st n F]) xs' := hpl (fun v hv => by
      simp [flat, Seg.flat] at hv
      obtain ⟨i, _, hv⟩ := hv
      exact hF i v hv) a4
    have ad := r0.adopt a1 hlow (by intro x hx; cases hx) ho (by simpa using a3) hrel
    have c1 : c = (0, cs.size) := by rw [← hc1, hc2]
    subst c1
    exact ⟨.tup [.v (.sl G.length 0 0 n st), .v y], _, _, ⟨_, _, rfl, rfl, .inr ⟨rfl, rfl⟩⟩, ⟨[xu, xy], .cons ⟨m, (0, cs.size), by simp [Ren.add], hx⟩ (.cons (V.plain_rel hy hyv) .nil), rfl⟩, ad, g0.adopt hnew⟩
end
end Go.Proofs.Ytpoknlbnookhjaa.Ae
