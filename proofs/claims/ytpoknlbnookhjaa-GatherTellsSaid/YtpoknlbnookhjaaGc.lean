/- Beside goroutines that only leave: a run of goroutine 0 from here to there, on whatever tape; its rules. -/
import Derived.Test.YtpoknlbnookhjaaGa
import Derived.Conc.Token
import Derived.Deep.LoopGhost
import Derived.LoopN
set_option linter.unusedVariables false
set_option linter.unusedSimpArgs false
namespace Go.Lone
open Go.Conc
open Go.ConcN (sumTo upd sumTo_upd upd_ne upd_same)

/-- From g in world w, beside leavers: goroutine 0 comes to a state of which R holds; the others are leavers still. -/
def Tends (P : Program) (g : Goroutine) (w : World) (R : Goroutine → World → Prop) : Prop :=
  ∀ (gs : Array Goroutine) (sl : Option (Nat × Nat)) (T : Trace) (q : Nat → Nat), gs[0]? = some g → Leavers P T gs q → Past NoShun w.heap.size T →
    ∃ (N : Nat) (gs' : Array Goroutine) (sl' : Option (Nat × Nat)) (T' : Trace) (q' : Nat → Nat) (g' : Goroutine) (w' : World),
      runNT P N (crowd gs w sl) T = (.next (crowd gs' w' sl'), T') ∧ gs'[0]? = some g' ∧ R g' w' ∧ Leavers P T' gs' q' ∧ Past NoShun w'.heap.size T'
section
variable {P : Program} {g : Goroutine} {w : World} {R R' : Goroutine → World → Prop}
theorem Tends.here (h : R g w) : Tends P g w R := fun gs sl T q h0 hL hP => ⟨0, gs, sl, T, q, g, w, rfl, h0, h, hL, hP⟩
theorem Tends.mono (h : Tends P g w R) (k : ∀ g w, R g w → R' g w) : Tends P g w R' := fun gs sl T q h0 hL hP =>
  let ⟨N, gs', sl', T', q', g', w', a, b, c, d, e⟩ := h gs sl T q h0 hL hP
  ⟨N, gs', sl', T', q', g', w', a, b, k _ _ c, d, e⟩
theorem Tends.bind (h : Tends P g w R) (k : ∀ g w, R g w → Tends P g w R') : Tends P g w R' := fun gs sl T q h0 hL hP => by
  obtain ⟨N, gs', sl', T', q', g', w', a, b, c, d, e⟩ := h gs sl T q h0 hL hP
  obtain ⟨N2, gs2, sl2, T2, q2, g2, w2, a2, b2, c2, d2, e2⟩ := k g' w' c gs' sl' T' q' b d e
  exact ⟨N + N2, gs2, sl2, T2, q2, g2, w2, runNT_then a a2, b2, c2, d2, e2⟩
/-- One step of its own, whatever has been drawn ahead of it. -/
theorem Tends.step (hrun : g.status = .running) (h : ∀ d, ∃ g' w' es, stepG P true g (w.at d) = .go g' w' es ∧ w.heap.size ≤ w'.heap.size ∧ Evs w'.heap.size es ∧ Tends P g' w' R) : Tends P g w R := by
  have key : ∀ (M : Nat) (gs : Array Goroutine) (w₁ : World) (sl : Option (Nat × Nat)) (T : Trace) (q : Nat → Nat), sumTo gs.size q = M → (∃ d, w₁ = w.at d) → gs[0]? = some g → Leavers P T gs q → Past NoShun w.heap.size T →
      ∃ (N : Nat) (gs' : Array Goroutine) (sl' : Option (Nat × Nat)) (T' : Trace) (q' : Nat → Nat) (g' : Goroutine) (w' : World),
        runNT P N (crowd gs w₁ sl) T = (.next (crowd gs' w' sl'), T') ∧ gs'[0]? = some g' ∧ R g' w' ∧ Leavers P T' gs' q' ∧ Past NoShun w'.heap.size T' := by
    intro M
    induction M using Nat.strongRecOn with
    | _ M ih =>
    intro gs w₁ sl T q hM hw h0 hL hP
    obtain ⟨d0, rfl⟩ := hw
    have haw : ∀ x ∈ gs, awake x := by
      intro x hx
      obtain ⟨i, hi, rfl⟩ := Array.mem_iff_getElem.1 hx
      rcases Nat.eq_zero_or_pos i with rfl | hpos
      · have : gs[0] = g := by simpa [Array.getElem?_eq_getElem hi] using h0
        rw [this]; exact awake_of (.inl hrun)
      · exact awake_of ((hL.old i _ hpos (Array.getElem?_eq_getElem hi)).status.elim .inl fun x => .inr (.inr x))
    obtain ⟨i, x, d, sl', hi, hg, hst⟩ := crowd_pick (P := P) (w := w.at d0) (sl := sl) haw ⟨0, g, h0, hrun⟩
    have hlt0 : 0 < gs.size := (Array.getElem?_eq_some_iff.1 h0).1
    rcases Nat.eq_zero_or_pos i with rfl | hpos
    · obtain rfl : x = g := by rw [h0] at hi; exact (Option.some.inj hi).symm
      obtain ⟨g', w', es, hgo, hsz', hes, hk⟩ := h d
      have hrunT := runT_crowd_go (P := P) (sl := sl') (i := 0) hi (show stepG P (0 == 0) x ((w.at d0).at d) = _ from hgo)
      have hu : ∀ op ∈ MemOp.ofEvents 0 x.frame.fn x.frame.place es, op.g = 0 := fun op hop => by rw [ofEvents_eq] at hop; obtain ⟨e, _, rfl⟩ := Array.mem_map.1 hop; rfl
      obtain ⟨N, gs', sl'', t', q', g'', w'', hr, h0', hS, hL', hP'⟩ := hk ((gs.map (woken P x g' w')).setIfInBounds 0 g') sl' (T ++ MemOp.ofEvents 0 x.frame.fn x.frame.place es) q (by simp [hlt0])
        ⟨fun j y hj hx => by
          have hne : 0 ≠ j := by omega
          rw [Array.getElem?_setIfInBounds_ne hne, Array.getElem?_map] at hx
          obtain ⟨y', hy, rfl⟩ := Option.map_eq_some_iff.1 hx
          have hq := hL.old j y' hj hy
          rw [woken_quitsD hq, Deaf_other T (by omega) _ hu]
          exact hq, fun j hj => by
          rw [Deaf_other T (g' := 0) (by simp at hj; omega) _ hu]
          exact hL.above j (by simpa using hj)⟩
        ((hP.mono hsz').own hes)
      exact ⟨N + 1, gs', sl'', t', q', g'', w'', by simp only [runNT, hst, hrunT]; exact hr, h0', hS, hL', hP'⟩
    · have hq := hL.old i x hpos hi
      have hi0 : (i == 0) = false := by simp; omega
      have hlt : i < gs.size := (Array.getElem?_eq_some_iff.1 hi).1
      cases hqi : q i with
      | zero => rw [hqi] at hq; rw [hq.1] at hg; cases hg
      | succ k =>
        rw [hqi] at hq
        rcases hq with ⟨hf, _⟩ | ⟨_, g', es, hm, hstp, hq'⟩
        · rw [hf] at hg; cases hg
        have hrunT := runT_crowd_go (P := P) (sl := sl') (i := i) hi (by rw [hi0]; exact hstp ((w.at d0).at d))
        have hsz : ((gs.map (woken P x g' ((w.at d0).at d))).setIfInBounds i g').size = gs.size := by simp
        have hu : ∀ op ∈ MemOp.ofEvents i x.frame.fn x.frame.place es, op.g = i := fun op hop => by rw [ofEvents_eq] at hop; obtain ⟨e, _, rfl⟩ := Array.mem_map.1 hop; rfl
        have hsum : sumTo gs.size (upd q i k) + (k + 1) = sumTo gs.size q + k := by
          have := sumTo_upd q k id hlt
          simpa [hqi] using this
        obtain ⟨N, gs', sl'', t', q', g'', w'', hr, h0', hS, hL', hP'⟩ := ih (sumTo gs.size (upd q i k)) (by omega) ((gs.map (woken P x g' ((w.at d0).at d))).setIfInBounds i g') (w.at d) sl' (T ++ MemOp.ofEvents i x.frame.fn x.frame.place es) (upd q i k) (by rw [hsz]) ⟨d, rfl⟩
          (by
            have hne : i ≠ 0 := by omega
            rw [Array.getElem?_setIfInBounds_ne hne, Array.getElem?_map, h0]
            simp [woken_run hrun])
          ⟨fun j y hj hx => by
            by_cases hji : i = j
            · subst hji
              rw [Array.getElem?_setIfInBounds_self_of_lt (by simpa using hlt)] at hx
              obtain rfl := Option.some.inj hx
              rw [upd_same, Deaf_own]
              exact hq'
            · rw [Array.getElem?_setIfInBounds_ne hji, Array.getElem?_map] at hx
              obtain ⟨y', hy, rfl⟩ := Option.map_eq_some_iff.1 hx
              have hqj := hL.old j y' hj hy
              rw [woken_quitsD hqj, upd_ne q k (Ne.symm hji), Deaf_other T hji _ hu]
              exact hqj, fun j hj => by
            rw [Deaf_other T (g' := i) (by simp at hj; omega) _ hu]
            exact hL.above j (by simpa using hj)⟩
          (hP.mute (by omega) hm)
        exact ⟨N + 1, gs', sl'', t', q', g'', w'', by simp only [runNT, hst, hrunT]; exact hr, h0', hS, hL', hP'⟩
  exact fun gs sl T q h0 hL hP => key _ gs w sl T q rfl ⟨w.drawn, rfl⟩ h0 hL hP
/-- A step that is the same in every world and lists nothing. -/
theorem Tends.ctl {g' : Goroutine} (hrun : g.status = .running) (h : ∀ w, stepG P true g w = .go g' w #[]) (k : ∀ d, Tends P g' (w.at d) R) : Tends P g w R :=
  Tends.step hrun fun d => ⟨g', w.at d, #[], h _, Nat.le_refl _, fun e he => by simp at he, k d⟩
end

/-! ### the operations of a region -/
/-- An operation that ends by a value, or by nothing. -/
def vs : Next → Prop
  | .value _ => True
  | .skip => True
  | _ => False
def OpsFine (P : Program) (ops : Array Oper) : Prop := ∀ (i : Nat) (o : Oper), ops[i]? = some o → ∀ a : Act, Mild P vs (execOp a.eval o)
theorem op_cases {P : Program} {o : Oper} {a : Act} {w : World} {K : Act → World → Prop} {Q : Exit → Act → World → Prop} (hno : ∀ e a w, Q e a w → e = .normal) (hm : Mild P vs (execOp a.eval o)) (h : o.wp P a w K Q) :
    ∃ v w', ((execOp a.eval o).run P w = .ok (.value v) w' ∨ ((execOp a.eval o).run P w = .ok .skip w' ∧ v = undef)) ∧ K (a.put o.dst v) w' := by
  have hv := (hm.events (P := P) w #[] (fun e he => by simp at he)).2.2
  unfold Oper.wp at h
  generalize (execOp a.eval o).run P w = r at *
  cases r with
  | ok n w' =>
    have hv := hv n w' rfl
    cases n <;> first | exact hv.elim | skip
    · exact ⟨_, w', .inl rfl, h⟩
    · exact ⟨_, w', .inr ⟨rfl, rfl⟩, h⟩
  | halt x w' =>
    cases x <;> first | exact h.elim | skip
    · have := hno _ _ _ h
      cases this
section
variable {P : Program} {ops : Array Oper} {Q : Exit → Act → World → Prop}
theorem tp_self (w : World) : tp w w.tape w.drawn = w := rfl
theorem tp_tp (w : World) (τ τ' : Tape) (d d' : Nat) : tp (tp w τ d) τ' d' = tp w τ' d' := rfl
theorem wpOps_shift (hO : OpsFine P ops) (hst : ∀ e a w τ d, Q e a w → Q e a (tp w τ d)) (hno : ∀ e a w, Q e a w → e = .normal) : ∀ (l : List Nat) (a : Act) (w : World) (τ1 τ2 : Tape) (d1 d2 : Nat), (∀ j q, τ1 (d1 + j) q = τ2 (d2 + j) q) →
    wpOps P ops Q l a (tp w τ1 d1) → wpOps P ops Q l a (tp w τ2 d2) := by
  intro l
  induction l with
  | nil => intro a w τ1 τ2 d1 d2 ht h; exact hst .normal a (tp w τ1 d1) τ2 d2 h
  | cons i rest ih =>
    intro a w τ1 τ2 d1 d2 ht h
    cases ho : ops[i]? with
    | none =>
      simp only [wpOps, ho] at h ⊢
      exact ih _ _ _ _ _ _ ht h
    | some o =>
      simp only [wpOps, ho] at h ⊢
      split at h
      · rename_i hw
        rw [if_pos hw]
        rcases h with h | ⟨_, a0, w0, h⟩
        case inr => have := hno _ _ _ h; cases this
        obtain ⟨v, w', hr, hk⟩ := op_cases hno (hO i o ho a) h
        obtain ⟨c, e1, e2, e3⟩ := (hO i o ho a).shift (P := P) (tp w τ1 d1)
        have e3 := e3 τ2 d2 fun j q _ => (ht j q).symm
        rw [tp_tp] at e3
        have fin : resW ((execOp a.eval o).run P (tp w τ1 d1)) = w' → wpOps P ops Q rest (a.put o.dst v) (tp w' τ2 (d2 + c)) := by
          intro e
          rw [e] at e1 e2
          have : w' = tp w' τ1 (d1 + c) := by
            have e1 : w'.drawn = d1 + c := e1
            have e2 : w'.tape = τ1 := e2
            rw [← e1, ← e2]; rfl
          rw [this] at hk
          refine ih _ w' _ _ _ _ (fun j q => ?_) hk
          have := ht (c + j) q
          rw [← Nat.add_assoc, ← Nat.add_assoc] at this
          exact this
        refine .inl ?_
        unfold Oper.wp
        rw [e3]
        rcases hr with hr | ⟨hr, rfl⟩
        · rw [hr] at fin ⊢; exact fin rfl
        · rw [hr] at fin ⊢; exact fin rfl
      · rename_i hw
        rw [if_neg hw]
        exact ih _ _ _ _ _ _ ht h
theorem wpOps_fine {Q' : Exit → Act → World → Prop} (hO : OpsFine P ops) (hno : ∀ e a w, Q e a w → e = .normal) (hq : ∀ a w, Q .normal a w → Q' .normal a w) : ∀ (l : List Nat) (a : Act) (w : World), wpOps P ops Q l a w → wpOps P ops Q' l a w := by
  intro l
  induction l with
  | nil => exact fun a w h => hq a w h
  | cons i rest ih =>
    intro a w h
    cases ho : ops[i]? with
    | none =>
      simp only [wpOps, ho] at h ⊢
      exact ih _ _ h
    | some o =>
      simp only [wpOps, ho] at h ⊢
      split at h
      · rename_i hw
        rw [if_pos hw]
        rcases h with h | ⟨_, a0, w0, h⟩
        case inr => have := hno _ _ _ h; cases this
        obtain ⟨v, w', hr, hk⟩ := op_cases hno (hO i o ho a) h
        refine .inl ?_
        unfold Oper.wp
        rcases hr with hr | ⟨hr, rfl⟩
        · rw [hr]; exact ih _ _ hk
        · rw [hr]; exact ih _ _ hk
      · rename_i hw
        rw [if_neg hw]
        exact ih _ _ h
theorem stepG_noop {main : Bool} {b : Frame} {a : Act} {k : List Item} {cs : List Frame} {w : World} {i : Nat} {rest : List Nat} (ho : ops[i]? = none) : stepG P main (G (b.at a (.inRegion ops (i :: rest) :: k)) cs) w = .go (G (b.at a (.inRegion ops rest :: k)) cs) w #[] := by
  have hfin : (b.at a (.inRegion ops (i :: rest) :: k)).finish undef = b.at a (.inRegion ops rest :: k) := by rw [Frame.finish_at, ho]; rfl
  rw [← hfin]
  simp [G, stepG, stepG.exec, Frame.at, ho]
/-- One operation. -/
theorem Tends.op {R : Goroutine → World → Prop} {b : Frame} {a : Act} {k : List Item} {cs : List Frame} {w : World} {i : Nat} {rest : List Nat} {o : Oper} (ho : ops[i]? = some o) (hw : Region.wanted o (yielded ops a.tmps) = true) (hk : b.kind ≠ .early) (hm : Mild P vs (execOp a.eval o))
    (h : ∀ d, ∃ v w', ((execOp a.eval o).run P (w.at d) = .ok (.value v) w' ∨ ((execOp a.eval o).run P (w.at d) = .ok .skip w' ∧ v = undef)) ∧ (Sim (w.at d) w' → Tends P (G (b.at (a.put o.dst v) (.inRegion ops rest :: k)) cs) w' R)) :
    Tends P (G (b.at a (.inRegion ops (i :: rest) :: k)) cs) w R := by
  refine Tends.step rfl fun d => ?_
  obtain ⟨v, w', hr, hk'⟩ := h d
  obtain ⟨h1, h2, _⟩ := hm.events (P := P) (w.at d) #[] (fun e he => by simp at he)
  rcases hr with hr | ⟨hr, rfl⟩
  · rw [hr] at h1 h2
    exact ⟨_, w', _, stepG_value ho hw hk hr, h1.1, fun e he => h2 e (mem_listed he), hk' h1⟩
  · rw [hr] at h1 h2
    exact ⟨_, w', _, stepG_none ho hw hk hr, h1.1, fun e he => h2 e (mem_listed he), hk' h1⟩
theorem ops_comes (hO : OpsFine P ops) (hst : ∀ e a w τ d, Q e a w → Q e a (tp w τ d)) (hno : ∀ e a w, Q e a w → e = .normal) {b : Frame} {k : List Item} {cs : List Frame} (hk : b.kind ≠ .early) : ∀ (l : List Nat) (a : Act) (w : World), (∀ τ d, wpOps P ops Q l a (tp w τ d)) →
    Tends P (G (b.at a (.inRegion ops l :: k)) cs) w (fun g w' => ∃ a', Q .normal a' w' ∧ w'.tape = w.tape ∧ g = G (b.at a' (.inRegion ops [] :: k)) cs) := by
  intro l
  induction l with
  | nil => exact fun a w h => Tends.here ⟨a, h w.tape w.drawn, rfl, rfl⟩
  | cons i rest ih =>
    intro a w h
    cases ho : ops[i]? with
    | none =>
      refine Tends.ctl rfl (fun w => stepG_noop ho) fun d => ih a (w.at d) fun τ d' => ?_
      have := h τ d'
      simp only [wpOps, ho] at this
      exact this
    | some o =>
      cases hw : Region.wanted o (yielded ops a.tmps) with
      | false =>
        refine Tends.ctl rfl (fun w => stepG_unwanted ho hw) fun d => ih _ (w.at d) fun τ d' => ?_
        have := h τ d'
        simp only [wpOps, ho, hw] at this
        exact this
      | true =>
        have hm := hO i o ho a
        have get : ∀ τ d, o.wp P a (tp w τ d) (wpOps P ops Q rest) Q := fun τ d => by
          have := h τ d
          simp only [wpOps, ho, hw, if_true] at this
          rcases this with h | ⟨_, a0, w0, h⟩
          · exact h
          · have := hno _ _ _ h; cases this
        refine Tends.op ho hw hk hm fun d => ?_
        obtain ⟨v, w', hr, _⟩ := op_cases hno hm (get w.tape d)
        refine ⟨v, w', hr, fun hsim => Tends.mono (ih _ w' fun τ' d' => ?_) fun g w2 ⟨a', q1, q2, q3⟩ => ⟨a', q1, by obtain ⟨_, _, _, rfl⟩ := hsim; exact q2, q3⟩⟩
        obtain ⟨c, e1, e2, e3⟩ := hm.shift (P := P) (w.at d)
        let τ2 : Tape := fun m q => if m < d + c then w.tape m q else τ' (d' + (m - (d + c))) q
        have e3 := e3 τ2 d fun j q hj => by
          show (if d + j < d + c then w.tape (d + j) q else _) = w.tape (d + j) q
          rw [if_pos (by omega)]
        obtain ⟨v2, w2, hr2, hk2⟩ := op_cases hno hm (get τ2 d)
        have e3 : (execOp a.eval o).run P (tp w τ2 d) = resMap (fun x => tp x τ2 (d + c)) ((execOp a.eval o).run P (w.at d)) := e3
        have hsame : v2 = v ∧ w2 = tp w' τ2 (d + c) := by
          rcases hr with hr | ⟨hr, rfl⟩ <;> change (execOp a.eval o).run P (w.at d) = _ at hr <;> rw [hr] at e3 <;> rcases hr2 with hr2 | ⟨hr2, rfl⟩ <;> rw [hr2] at e3 <;> simp [resMap] at e3
          · exact e3
          · exact ⟨rfl, e3⟩
        obtain ⟨rfl, rfl⟩ := hsame
        refine wpOps_shift hO hst hno _ _ w' _ _ _ _ (fun j q => ?_) hk2
        show (if d + c + j < d + c then w.tape (d + c + j) q else τ' (d' + (d + c + j - (d + c))) q) = τ' (d' + j) q
        rw [if_neg (by omega), show d + c + j - (d + c) = j by omega]
end
end Go.Lone
