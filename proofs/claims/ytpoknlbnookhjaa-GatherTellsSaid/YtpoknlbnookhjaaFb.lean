/- The steps of the machine within the frame: goroutine 0's own; a sender's or a leaver's. -/
import Derived.Test.YtpoknlbnookhjaaFg
set_option linter.unusedVariables false
set_option linter.unusedSimpArgs false
namespace Go.Spring
open Go.Conc
open Go.ConcN (sumTo upd sumTo_upd upd_ne upd_same le_sumTo)

theorem evF_ops {i : Nat} {rd : Nat → Prop} {O : Nat → Own} {B : Nat} {fn : FuncId} {pos : String} {es : Array Event} (he : ∀ e ∈ es, EvF i rd O B e) :
    (∀ op ∈ MemOp.ofEvents i fn pos es, op.g = i) ∧ (∀ op ∈ MemOp.ofEvents i fn pos es, ∀ x, op.act.touch? = some x → ∃ b, locB x.loc = some b ∧ (O b = .of i ∨ (x.write = false ∧ ((i = 0 ∧ O b = .still) ∨ rd b)))) ∧
    (∀ op ∈ MemOp.ofEvents i fn pos es, op.act.low B) ∧ ∀ t : Trace, Deaf (t ++ MemOp.ofEvents i fn pos es) i = Deaf t i := by
  refine ⟨fun op hop => by obtain ⟨e, _, rfl⟩ := Go.Conc.mem_ofEvents hop; rfl, fun op hop x hx => ?_, fun op hop => ?_, fun t => ?_⟩
  · obtain ⟨e, h, rfl⟩ := Go.Conc.mem_ofEvents hop
    rcases he e h with ⟨a, wr, s, rfl, hB, ho⟩ | rfl
    · simp only [ofEvent_cell0, MemAct.touch?, Option.some.injEq] at hx
      subst hx
      exact ⟨a.block, rfl, ho⟩
    · simp [MemAct.ofEvent, MemAct.touch?] at hx
  · obtain ⟨e, h, rfl⟩ := Go.Conc.mem_ofEvents hop
    rcases he e h with ⟨a, wr, s, rfl, hB, ho⟩ | rfl
    · rw [ofEvent_cell0]; exact hB
    · trivial
  · rw [Deaf_own]
    exact deafBehind_still (fun e h => by
      rcases he e h with ⟨a, wr, s, rfl, _, _⟩ | rfl
      · exact ⟨by simp, by simp⟩
      · exact ⟨by simp, by simp⟩) _

section
variable {P : Program} {N M : Nat} {rd : Nat → Nat → Prop} {S : Nat → Option Sd} {O : Nat → Own} {T : Trace} {gs : Array Goroutine} {w : World} {q : Nat → Nat}

theorem Gd.chans {i : Nat} {rd : Nat → Prop} {w' : World} {es : Array Event} (h : Gd i rd O w w' es) : ∀ b, b < w.heap.size → O b = .chan → ext O w i b = .chan ∧ w'.heap[b]? = w.heap[b]? :=
  fun b hb ho => ⟨by rw [ext_old hb]; exact ho, h.keep b hb (by rw [ho]; simp)⟩

/-- Goroutine 0's own step. -/
theorem Frm.own (F : Frm P N M rd S O T gs w q) {a a' : Goroutine} {w' : World} {es : Array Event} (ha : gs[0]? = some a) (hd : Gd 0 (rd 0) O w w' es) :
    Frm P N M rd S (ext O w 0) (T ++ MemOp.ofEvents 0 a.frame.fn a.frame.place es) ((gs.map (woken P a a' w')).setIfInBounds 0 a') w' q ∧ ((gs.map (woken P a a' w')).setIfInBounds 0 a')[0]? = some a' := by
  have hlt : 0 < gs.size := (Array.getElem?_eq_some_iff.1 ha).1
  obtain ⟨hops, hs, hl, hdf⟩ := evF_ops (fn := a.frame.fn) (pos := a.frame.place) hd.evs
  have hD : ∀ x, x ≠ 0 → Deaf (T ++ MemOp.ofEvents 0 a.frame.fn a.frame.place es) x = Deaf T x := fun x hx => Deaf_other T (fun e => hx e.symm) _ hops
  have hrd : ∀ g b, rd g b → (ext O w 0 b).loose := fun g b h => by obtain ⟨h1, h2⟩ := F.rdO g b h; rw [ext_old h2]; exact h1
  have hw : ∀ x y, x ≠ 0 → gs[x]? = some y → woken P a a' w' y = y := fun x y hx hy => woken_of_again (Idl.again (F.idle x y hx hy) fun c vs hs' => by
    obtain ⟨h1, _, h3, k, hk⟩ := F.live x c vs hs'
    exact ⟨k, by rw [(hd.chans c h3 h1).2]; exact hk⟩)
  have e : upd q 0 (q 0) = q := by funext x; by_cases h : x = 0 <;> simp [upd, h]
  refine ⟨?_, Array.getElem?_setIfInBounds_self_of_lt (by simpa using hlt)⟩
  have := F.put (i := 0) (n' := q 0) (g' := a') (ops := MemOp.ofEvents 0 a.frame.fn a.frame.place es) (O' := ext O w 0) (w' := w') (gs' := (gs.map (woken P a a' w')).setIfInBounds 0 a') (by simp)
    (fun x hx _ => by
      rw [Array.getElem?_setIfInBounds_ne (fun e => hx e.symm), Array.getElem?_map]
      cases ey : gs[x]? with
      | none => rfl
      | some y => simp [hw x y hx ey]) (fun h => absurd rfl h) (fun x hx => hd.rl hx) hd.chans hd.size hD hlt
    (fun x c m hx => (F.shut x c m hx).2.2.2.app fun op hop hg => by rw [hops op hop] at hg; exact absurd hg.symm (F.pos x _ hx).1) ?_ hrd
  · rw [e] at this; exact this
  · refine F.flow.own0 hd.size (fun b hb => ext_old hb) (fun ⟨s, h⟩ => (F.pos 0 s h).1 rfl) hrd (.inl rfl) hops (fun op hop x hx => ?_) (hdf T) hl
    obtain ⟨b, hb, h⟩ := hs op hop x hx
    refine ⟨b, hb, ?_⟩
    rcases h with h | ⟨hw, ⟨_, h⟩ | h⟩
    · exact .inl h
    · exact .inr ⟨by rw [h]; trivial, hw⟩
    · exact (F.rd0 b h).elim

/-- What a step of another's comes to: the kinds stay and the measure falls; or a sender has closed its channel. -/
def Stepped1 (P : Program) (N M : Nat) (rd : Nat → Nat → Prop) (S : Nat → Option Sd) (O : Nat → Own) (T : Trace) (gs : Array Goroutine) (w : World) (sl : Option (Nat × Nat)) (q : Nat → Nat) (i : Nat) (a : Goroutine) : Prop :=
  ∃ gs' ops q' O' w' S' a', runT P (crowd gs w sl) i = (.next (crowd gs' w' sl), ops) ∧ gs'.size = gs.size ∧ gs'[0]? = some a' ∧ Frm P N M rd S' O' (T ++ ops) gs' w' q' ∧ Rl 0 O w O' w' ∧ (∀ x, x ≠ i → q' x = q x) ∧ (q' i = 0 → ∀ c vs, S' i = some (.live c vs) → offersAt a c false = []) ∧
    ((S' = S ∧ a' = a ∧ sumTo gs.size q' < sumTo gs.size q) ∨ ∃ c m, S i = some (.live c []) ∧ S' = upd S i (some (.shut c m)) ∧ a' = a.again w' ∧ sumTo gs.size q' + 2 ≤ sumTo gs.size q ∧ ∀ x c' vs, x ≠ i → S x = some (.live c' vs) → w'.heap[c']? = w.heap[c']?)

theorem sum_put {n k : Nat} {q : Nat → Nat} {i : Nat} (hlt : i < n) : sumTo n (upd q i k) + q i = sumTo n q + k := by
  have := sumTo_upd q k id hlt
  simpa using this

/-- A step of a leaver's. -/
theorem Frm.leaver (F : Frm P N M rd S O T gs w q) {i : Nat} {a g : Goroutine} {sl : Option (Nat × Nat)} (h0 : gs[0]? = some a) (hi : gs[i]? = some g) (hne : i ≠ 0) (hrun : g.status = .running) (hn : ∀ c vs, S i ≠ some (.live c vs))
    (hag : a.again w = a) : Stepped1 P N M rd S O T gs w sl q i a := by
  have hlt : i < gs.size := (Array.getElem?_eq_some_iff.1 hi).1
  have hlt0 : 0 < gs.size := (Array.getElem?_eq_some_iff.1 h0).1
  have hq : QuitsD P (q i) (Deaf T i) g := by
    have h := F.idle i g hne hi
    cases e : S i with
    | none => rw [e] at h; exact h
    | some s => cases s with
      | live c vs => exact absurd e (hn c vs)
      | shut c m => rw [e] at h; exact h
  have hi0 : (i == 0) = false := by simp; omega
  cases hqi : q i with
  | zero => rw [hqi] at hq; rw [hq.1] at hrun; cases hrun
  | succ k =>
    rw [hqi] at hq
    rcases hq with ⟨hf, _⟩ | ⟨_, g', es, hm, hstp, hq'⟩
    · rw [hf] at hrun; cases hrun
    have hops : ∀ op ∈ MemOp.ofEvents i g.frame.fn g.frame.place es, op.g = i := fun op hop => by obtain ⟨e, _, rfl⟩ := Go.Conc.mem_ofEvents hop; rfl
    have hmu : ∀ op ∈ MemOp.ofEvents i g.frame.fn g.frame.place es, op.act.touch? = none := fun op hop => by obtain ⟨e, he, rfl⟩ := Go.Conc.mem_ofEvents hop; exact touch_mute (hm e he)
    have hD : ∀ x, x ≠ i → Deaf (T ++ MemOp.ofEvents i g.frame.fn g.frame.place es) x = Deaf T x := fun x hx => Deaf_other T (fun e => hx e.symm) _ hops
    have hw : ∀ x y, gs[x]? = some y → woken P g g' w y = y := fun x y hy => woken_of_again (by
      by_cases hx : x = 0
      · subst hx; rw [h0] at hy; obtain rfl := Option.some.inj hy; exact hag
      · exact Idl.again (F.idle x y hx hy) fun c vs hs' => by obtain ⟨_, _, _, k, hk⟩ := F.live x c vs hs'; exact ⟨k, hk⟩)
    have harr : ∀ x, x ≠ i → ((gs.map (woken P g g' w)).setIfInBounds i g')[x]? = gs[x]? := by
      intro x hx
      rw [Array.getElem?_setIfInBounds_ne (fun e => hx e.symm), Array.getElem?_map]
      cases ey : gs[x]? with
      | none => rfl
      | some y => simp [hw x y ey]
    refine ⟨_, _, upd q i k, O, w, S, a, runT_crowd_go (sl := sl) hi (by rw [hi0]; exact hstp w), by simp, by rw [harr 0 (fun e => hne e.symm)]; exact h0, ?_, Rl.refl _ _ _, fun x hx => upd_ne q k hx, fun _ c vs h => absurd h (hn c vs), .inl ⟨rfl, rfl, by have := sum_put (k := k) (q := q) hlt; omega⟩⟩
    refine F.put (g' := g') (by simp) (fun x hx _ => harr x hx) (fun _ => ⟨Array.getElem?_setIfInBounds_self_of_lt (by simpa using hlt), ?_⟩) (fun x _ => Rl.refl _ _ _) (fun b _ ho => ⟨ho, rfl⟩) (Nat.le_refl _) hD hlt
      (fun x c m hx => (F.shut x c m hx).2.2.2.app fun op hop _ => hmu op hop) ?_ (fun g b h => (F.rdO g b h).1)
    · have : QuitsD P k (Deaf (T ++ MemOp.ofEvents i g.frame.fn g.frame.place es) i) g' := by rw [Deaf_own]; exact hq'
      cases e : S i with
      | none => exact this
      | some s => cases s with
        | live c vs => exact absurd e (hn c vs)
        | shut c m => exact this
    · refine F.flow.mute hmu (fun x hx => ?_) (fun op hop => by obtain ⟨e, he, rfl⟩ := Go.Conc.mem_ofEvents hop; exact low_mute (hm e he) _)
      refine hD x fun e => ?_
      subst e
      rcases hx with hx | ⟨c, vs, hx⟩
      · exact hne hx
      · exact hn c vs hx
end
end Go.Spring
