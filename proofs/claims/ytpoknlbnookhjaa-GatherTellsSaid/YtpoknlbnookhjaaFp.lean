/- A go statement of goroutine 0's that starts a sender; the frame's beginning and end. -/
import Derived.Test.YtpoknlbnookhjaaFt
set_option linter.unusedVariables false
set_option linter.unusedSimpArgs false
namespace Go.Spring
open Go.Conc
open Go.ConcN (sumTo upd sumTo_upd upd_ne upd_same le_sumTo)

open Classical in
/-- Block c is a channel from now on; the blocks of G are written by nobody. -/
noncomputable def give (G : Nat → Prop) (c : Nat) (O : Nat → Own) : Nat → Own := fun b => if b = c then .chan else if G b then .still else O b
theorem give_c {G : Nat → Prop} {c : Nat} {O : Nat → Own} : give G c O c = .chan := if_pos rfl
theorem give_G {G : Nat → Prop} {c b : Nat} {O : Nat → Own} (hb : b ≠ c) (h : G b) : give G c O b = .still := by unfold give; rw [if_neg hb, if_pos h]
theorem give_o {G : Nat → Prop} {c b : Nat} {O : Nat → Own} (hb : b ≠ c) (h : ¬ G b) : give G c O b = O b := by unfold give; rw [if_neg hb, if_neg h]
/-- What the sender may read. -/
def rdC (G : Nat → Prop) (c : Nat) (O : Nat → Own) (n : Nat) : Nat → Prop := fun b => b < n ∧ (b = c ∨ G b ∨ O b = .still)
open Classical in
noncomputable def rdN (rd : Nat → Nat → Prop) (j : Nat) (r : Nat → Prop) : Nat → Nat → Prop := fun g => if g = j then r else rd g
theorem rdN_j {rd : Nat → Nat → Prop} {j : Nat} {r : Nat → Prop} : rdN rd j r j = r := if_pos rfl
theorem rdN_o {rd : Nat → Nat → Prop} {j g : Nat} {r : Nat → Prop} (h : g ≠ j) : rdN rd j r g = rd g := if_neg h

/-- The others' doing, as one sees it who owns nothing yet. -/
structure Rs (O : Nat → Own) (w : World) (O₁ : Nat → Own) (w₁ : World) : Prop where
  size : w.heap.size ≤ w₁.heap.size
  own : ∀ b, b < w.heap.size → O b = .still → O₁ b = .still
  keep : ∀ b, b < w.heap.size → O b = .still → w₁.heap[b]? = w.heap[b]?
  rest : ∃ d h, w₁ = { w with heap := h, drawn := d }
theorem Rl.rs {i : Nat} {O O₁ : Nat → Own} {w w₁ : World} (h : Rl i O w O₁ w₁) : Rs O w O₁ w₁ := ⟨h.size, fun b hb => (h.own b hb).1, fun b hb e => h.keep b hb (.inl e), h.rest⟩
theorem Rs.trans {O O₁ O₂ : Nat → Own} {w w₁ w₂ : World} (h : Rs O w O₁ w₁) (k : Rs O₁ w₁ O₂ w₂) : Rs O w O₂ w₂ := by
  refine ⟨Nat.le_trans h.size k.size, fun b hb e => k.own b (Nat.lt_of_lt_of_le hb h.size) (h.own b hb e), fun b hb e => ?_, ?_⟩
  · rw [k.keep b (Nat.lt_of_lt_of_le hb h.size) (h.own b hb e), h.keep b hb e]
  · obtain ⟨d, hh, e⟩ := h.rest
    obtain ⟨d', hh', e'⟩ := k.rest
    exact ⟨d', hh', by rw [e', e]⟩

section
variable {P : Program} {N M : Nat} {rd : Nat → Nat → Prop} {S : Nat → Option Sd} {O : Nat → Own} {T : Trace} {gs : Array Goroutine} {w : World} {q : Nat → Nat}

/-- Behind the go statement. -/
theorem Frm.born (F : Frm P N M rd S O T gs w q) {a a' child : Goroutine} {c : Nat} {G r : Nat → Prop} {vs : List Value} (h0 : gs[0]? = some a) (hG : ∀ b, G b → O b = .of 0) (hOc : O c = .of 0) (hcs : c < w.heap.size)
    (hc : w.heap[c]? = some (.chan 0 #[] false 0 0 false)) (hr : ∀ b, r b → b < w.heap.size ∧ (b = c ∨ G b ∨ O b = .still)) (hrc : r c) (hF : ∀ O₁ w₁, Rl gs.size (give G c O) w O₁ w₁ → Feeds P gs.size r c N M vs N child O₁ w₁) (f f' : FuncId) (p : String) :
    Frm P N M (rdN rd gs.size r) (upd S gs.size (some (.live c vs))) (give G c O) (T ++ #[{ g := 0, fn := f, pos := p, act := .go gs.size }, { g := gs.size, fn := f', pos := p, act := .start }]) ((gs.setIfInBounds 0 a').push child) w (upd q gs.size (N + M + 2)) := by
  have hlt0 : 0 < gs.size := (Array.getElem?_eq_some_iff.1 h0).1
  obtain ⟨u, hu⟩ : ∃ u : Trace, u = #[{ g := 0, fn := f, pos := p, act := .go gs.size }, { g := gs.size, fn := f', pos := p, act := .start }] := ⟨_, rfl⟩
  have hn : ∀ op ∈ u, op.act.touch? = none := by
    intro op hop
    rw [hu] at hop
    simp only [List.mem_toArray, List.mem_cons, List.not_mem_nil, or_false] at hop
    rcases hop with rfl | rfl <;> rfl
  have hq : ∀ g, ∀ op ∈ u, ∀ d, deafStep g d op = d := by
    intro g op hop d
    rw [hu] at hop
    simp only [List.mem_toArray, List.mem_cons, List.not_mem_nil, or_false] at hop
    rcases hop with rfl | rfl <;> rfl
  have hSn : ∀ y s, S y = some s → y < gs.size := fun y s h => (F.pos y s h).2
  have hup : ∀ y, y ≠ gs.size → upd S gs.size (some (.live c vs)) y = S y := fun y hy => upd_ne S _ hy
  have hupn : upd S gs.size (some (.live c vs)) gs.size = some (.live c vs) := upd_same S _ _
  have hGc : ∀ b, O b ≠ .of 0 → b ≠ c ∧ ¬ G b := fun b hb => ⟨fun e => hb (e ▸ hOc), fun h => hb (hG b h)⟩
  have hsame : ∀ b, O b ≠ .of 0 → give G c O b = O b := fun b hb => give_o (hGc b hb).1 (hGc b hb).2
  have hrl : ∀ x, x ≠ 0 → Rl x O w (give G c O) w := fun x hx => ⟨Nat.le_refl _, fun b _ => ⟨fun e => by rw [hsame b (by rw [e]; simp)]; exact e, fun e => by rw [hsame b (by rw [e]; intro h; injection h with h; exact hx h)]; exact e⟩, fun _ _ _ => rfl, w.drawn, w.heap, rfl⟩
  have hlo : ∀ b, (O b).loose → (give G c O b).loose := fun b hb => by rw [hsame b (by intro e; rw [e] at hb; exact hb)]; exact hb
  have hro : ∀ b, r b → (give G c O b).loose := by
    intro b hb
    by_cases e : b = c
    · subst e; rw [give_c]; trivial
    · rcases (hr b hb).2 with h | h | h
      · exact absurd h e
      · rw [give_G e h]; trivial
      · exact hlo b (by rw [h]; trivial)
  have hfl := F.flow.spawn (O' := give G c O) (c := gs.size) (rd' := rdN rd gs.size r) (fun b => by
      by_cases e : b = c
      · subst e; exact .inr ⟨hOc, by rw [give_c]; trivial⟩
      · by_cases h : G b
        · exact .inr ⟨hG b h, by rw [give_G e h]; trivial⟩
        · exact .inl (give_o e h)) (fun ⟨s, h⟩ => (F.pos 0 s h).1 rfl) (.inl rfl) (F.above _ (Nat.le_refl _)) (fun h => by
      rcases h with h | ⟨c', vs', h⟩
      · omega
      · have := hSn _ _ h; omega) (fun g b hg h => by rw [rdN_o hg] at h; exact h) (fun b h => by rw [rdN_j] at h; exact hro b h) f p f'
  rw [← hu] at hfl ⊢
  have hD : ∀ y, Deaf (T ++ u) y = Deaf T y := fun y => Deaf_quiet (hq y)
  have hgs : ∀ y g, y ≠ 0 → ((gs.setIfInBounds 0 a').push child)[y]? = some g → (y = gs.size ∧ g = child) ∨ (y < gs.size ∧ gs[y]? = some g) := by
    intro y g hy hg
    rw [Array.getElem?_push] at hg
    split at hg
    · rename_i e
      exact .inl ⟨by simpa using e, (Option.some.inj hg).symm⟩
    · rw [Array.getElem?_setIfInBounds_ne (fun e => hy e.symm)] at hg
      exact .inr ⟨(Array.getElem?_eq_some_iff.1 hg).1, hg⟩
  refine ⟨fun y g hy hg => ?_, fun y s hs => ?_, fun y c' vs' hs => ?_, fun y c' m hs => ?_, fun y y' s s' h1 h2 h3 => ?_, fun y hy => ?_, ?_, fun g b h => ?_, fun b h => ?_⟩
  · rcases hgs y g hy hg with ⟨rfl, rfl⟩ | ⟨hlt, hg'⟩
    · rw [hupn, upd_same]
      refine .inl ⟨N, rfl, ?_⟩
      rw [rdN_j]; exact hF _ _ (Rl.refl _ _ _)
    · have e : y ≠ gs.size := by omega
      rw [hup y e, upd_ne q _ e]
      have h := F.idle y g hy hg'
      cases es : S y with
      | none => rw [es] at h; show QuitsD _ _ _ _; rw [hD]; exact h
      | some s =>
        rw [es] at h
        cases s with
        | live c' vs' => show Lively P y (rdN rd gs.size r y) c' N M vs' (q y) g _ w; rw [rdN_o e]; exact Lively.rely h (hrl y hy)
        | shut c' m => show QuitsD _ _ _ _; rw [hD]; exact h
  · by_cases e : y = gs.size
    · subst e; exact ⟨by omega, by simp⟩
    · rw [hup y e] at hs
      have := F.pos y s hs
      exact ⟨this.1, by simp; omega⟩
  · by_cases e : y = gs.size
    · subst e
      rw [hupn] at hs
      injection hs with hs; injection hs with h1 h2
      subst h1
      exact ⟨give_c, by rw [rdN_j]; exact hrc, hcs, 0, hc⟩
    · rw [hup y e] at hs
      obtain ⟨h1, h2, h3, h4⟩ := F.live y c' vs' hs
      exact ⟨by rw [hsame c' (by rw [h1]; simp)]; exact h1, by rw [rdN_o e]; exact h2, h3, h4⟩
  · have e : y ≠ gs.size := by rintro rfl; rw [hupn] at hs; cases hs
    rw [hup y e] at hs
    obtain ⟨h1, h3, h2, h4⟩ := F.shut y c' m hs
    exact ⟨by rw [hsame c' (by rw [h1]; simp)]; exact h1, h3, h2, h4.app fun op hop _ => hn op hop⟩
  · have hold : ∀ y s, S y = some s → s.ch ≠ c := by
      intro y s hs e
      have hch : O s.ch = .chan := by
        cases s with
        | live c' vs' => exact (F.live y c' vs' hs).1
        | shut c' m => exact (F.shut y c' m hs).1
      rw [e, hOc] at hch; cases hch
    by_cases e : y = gs.size
    · by_cases e' : y' = gs.size
      · rw [e, e']
      · rw [hup y' e'] at h2
        rw [e, hupn] at h1
        injection h1 with h1
        subst h1
        exact absurd h3.symm (hold y' s' h2)
    · rw [hup y e] at h1
      by_cases e' : y' = gs.size
      · rw [e', hupn] at h2
        injection h2 with h2
        subst h2
        exact absurd h3 (hold y s h1)
      · rw [hup y' e'] at h2
        exact F.inj y y' s s' h1 h2 h3
  · rw [hD]; exact F.above y (by simp at hy; omega)
  · refine Flow.fewer (Flow.loosen hfl ?_) ?_
    · rintro y (⟨s, h⟩ | rfl)
      · have : y ≠ gs.size := by have := hSn y s h; omega
        exact ⟨s, by rw [hup y this]; exact h⟩
      · exact ⟨_, hupn⟩
    · rintro y (h | ⟨c', vs', h⟩)
      · exact .inl (.inl h)
      · by_cases e : y = gs.size
        · exact .inr e
        · rw [hup y e] at h; exact .inl (.inr ⟨c', vs', h⟩)
  · by_cases e : g = gs.size
    · subst e; rw [rdN_j] at h; exact ⟨hro b h, (hr b h).1⟩
    · rw [rdN_o e] at h; exact ⟨hlo b (F.rdO g b h).1, (F.rdO g b h).2⟩
  · rw [rdN_o (by omega)] at h; exact F.rd0 b h

/-- A go statement of goroutine 0's, on whatever tape. -/
theorem spawn {a a' child : Goroutine} {c : Nat} {G r : Nat → Prop} {vs : List Value} {sl : Option (Nat × Nat)} (h0 : gs[0]? = some a) (F : Frm P N M rd S O T gs w q) (hrun : a.status = .running) (hgo : ∀ w₁, stepG P true a w₁ = .spawn a' child w₁ #[])
    (hG : ∀ b, G b → O b = .of 0 ∧ b < w.heap.size) (hOc : O c = .of 0) (hcs : c < w.heap.size) (hc : w.heap[c]? = some (.chan 0 #[] false 0 0 false)) (hr : ∀ b, r b → b < w.heap.size ∧ (b = c ∨ G b ∨ O b = .still)) (hrc : r c)
    (hF : ∀ O₁ w₁, Rs (give G c O) w O₁ w₁ → Feeds P gs.size r c N M vs N child O₁ w₁) :
    ∃ (K : Nat) (gs' : Array Goroutine) (O' : Nat → Own) (w' : World) (sl' : Option (Nat × Nat)) (T' : Trace) (q' : Nat → Nat) (S₁ : Nat → Option Sd),
      runNT P K (crowd gs w sl) T = (.next (crowd gs' w' sl'), T') ∧ gs'.size = gs.size + 1 ∧ gs'[0]? = some a' ∧ Rl 0 (give G c O) w O' w' ∧ Later S S₁ ∧ Frm P N M (rdN rd gs.size r) (upd S₁ gs.size (some (.live c vs))) O' T' gs' w' q' := by
  obtain ⟨K, m', T', hr', gs', O', w', sl', q', S₁, rfl, hsz, ha', hR, hL, F'⟩ := runs_until (P := P)
    (Inv := fun μ m t => (∃ gs' O' w' sl' q' S₁, m = crowd gs' w' sl' ∧ gs'.size = gs.size + 1 ∧ gs'[0]? = some a' ∧ Rl 0 (give G c O) w O' w' ∧ Later S S₁ ∧ Frm P N M (rdN rd gs.size r) (upd S₁ gs.size (some (.live c vs))) O' t gs' w' q') ∨
      ∃ gs₁ O₁ w₁ sl₁ q₁ S₁, m = crowd gs₁ w₁ sl₁ ∧ gs₁.size = gs.size ∧ gs₁[0]? = some a ∧ Frm P N M rd S₁ O₁ t gs₁ w₁ q₁ ∧ Rl 0 O w O₁ w₁ ∧ Later S S₁ ∧ μ = sumTo gs₁.size q₁ + 1)
    (Done := fun m t => ∃ gs' O' w' sl' q' S₁, m = crowd gs' w' sl' ∧ gs'.size = gs.size + 1 ∧ gs'[0]? = some a' ∧ Rl 0 (give G c O) w O' w' ∧ Later S S₁ ∧ Frm P N M (rdN rd gs.size r) (upd S₁ gs.size (some (.live c vs))) O' t gs' w' q')
    (fun μ m t hInv => by
      rcases hInv with hd | ⟨gs₁, O₁, w₁, sl₁, q₁, S₁, rfl, hsz, ha₁, F₁, hR₁, hL₁, hμ⟩
      · exact .inl hd
      refine .inr ?_
      obtain ⟨i, g, d, sl', hi, hg, hst⟩ := crowd_pick (P := P) (w := w₁) (sl := sl₁) (F₁.awake ha₁ (.inl hrun)) ⟨0, a, ha₁, hrun⟩
      have Fd := F₁.at d
      have hRd : Rl 0 O w O₁ (w₁.at d) := hR₁.trans (Rl.at _ _ _ _)
      by_cases e : i = 0
      · subst e
        obtain rfl : g = a := by rw [ha₁] at hi; exact (Option.some.inj hi).symm
        have hrt := runT_crowd_spawn (P := P) (sl := sl') hi (hgo (w₁.at d))
        have hgen : ∀ b, b < w.heap.size → (give G c O b = .still → give G c O₁ b = .still) ∧ (give G c O b = .of 0 → give G c O₁ b = .of 0) := by
          intro b hb
          by_cases e1 : b = c
          · subst e1; rw [give_c, give_c]; exact ⟨id, id⟩
          · by_cases e2 : G b
            · rw [give_G e1 e2, give_G e1 e2]; exact ⟨id, id⟩
            · rw [give_o e1 e2, give_o e1 e2]; exact hR₁.own b hb
        have hkeep : ∀ b, b < w.heap.size → give G c O b = .still ∨ give G c O b = .of 0 → (w₁.at d).heap[b]? = w.heap[b]? := by
          intro b hb h
          by_cases e1 : b = c
          · subst e1; rw [give_c] at h; rcases h with h | h <;> cases h
          · by_cases e2 : G b
            · exact hRd.keep b hb (.inr (hG b e2).1)
            · rw [give_o e1 e2] at h; exact hRd.keep b hb h
        have hR0 : Rl 0 (give G c O) w (give G c O₁) (w₁.at d) := ⟨hRd.size, hgen, hkeep, hRd.rest⟩
        have hc' : (w₁.at d).heap[c]? = some (.chan 0 #[] false 0 0 false) := by rw [hRd.keep c hcs (.inr hOc)]; exact hc
        have hops : MemOp.ofEvents 0 g.frame.fn g.frame.place #[] = #[] := by simp [MemOp.ofEvents]
        rw [hops, hsz] at hrt
        refine ⟨_, _, 0, by rw [hst]; exact hrt, by omega, .inl ⟨_, give G c O₁, w₁.at d, sl', upd q₁ gs.size (N + M + 2), S₁, rfl, by simp [hsz], ?_, hR0, hL₁, ?_⟩⟩
        · have hlt0 : 0 < gs₁.size := (Array.getElem?_eq_some_iff.1 ha₁).1
          rw [Array.getElem?_push, if_neg (by simp; omega), Array.getElem?_setIfInBounds_self_of_lt hlt0]
        · have hb := Frm.born (a' := a') Fd ha₁ (fun b h => (hR₁.own b (hG b h).2).2 (hG b h).1) ((hR₁.own c hcs).2 hOc) (Nat.lt_of_lt_of_le hcs hRd.size) hc'
            (r := r) (vs := vs) (child := child) (fun b h => ⟨Nat.lt_of_lt_of_le (hr b h).1 hRd.size, (hr b h).2.imp id fun x => x.imp id fun y => (hR₁.own b (hr b h).1).1 y⟩) hrc
            (fun O₂ w₂ h => by rw [hsz] at h ⊢; exact hF O₂ w₂ (hR0.rs.trans h.rs)) g.frame.fn child.frame.fn g.frame.place
          rw [hsz] at hb
          exact hb
      · have key : Stepped1 P N M rd S₁ O₁ t gs₁ (w₁.at d) sl' q₁ i a := by
          have hlv : (∃ c vs, S₁ i = some (.live c vs)) ∨ ∀ c vs, S₁ i ≠ some (.live c vs) := by
            by_cases h : ∃ c vs, S₁ i = some (.live c vs)
            · exact .inl h
            · exact .inr fun c vs h' => h ⟨c, vs, h'⟩
          rcases hlv with ⟨c, vs, hS⟩ | hn
          · exact Fd.sender ha₁ hi e hg hS (fun w' _ _ => again_running _ (.inl hrun)) fun _ _ _ _ _ _ _ => offersAt_of_not_blocked (by rw [hrun]; simp) _ _
          · exact Fd.leaver ha₁ hi e hg hn (again_running _ (.inl hrun))
        obtain ⟨gs', ops, q', O', w', S', a', hrt, hsz', ha', F', hrl, _, _, hcase⟩ := key
        have hr0 : Rl 0 O w O' w' := hRd.trans hrl
        rcases hcase with ⟨rfl, rfl, hlt⟩ | ⟨c, m, hS, rfl, rfl, hlt, _⟩
        · exact ⟨_, _, sumTo gs'.size q' + 1, by rw [hst]; exact hrt, by rw [hsz']; omega, .inr ⟨gs', O', w', sl', q', S', rfl, hsz'.trans hsz, ha', F', hr0, hL₁, rfl⟩⟩
        · rw [again_running _ (.inl hrun)] at ha'
          exact ⟨_, _, sumTo gs'.size q' + 1, by rw [hst]; exact hrt, by rw [hsz']; omega, .inr ⟨gs', O', w', sl', q', _, rfl, hsz'.trans hsz, ha', F', hr0, hL₁.trans (Later.upd hS), rfl⟩⟩)
    _ _ T (.inr ⟨gs, O, w, sl, q, S, rfl, rfl, h0, F, Rl.refl _ _ _, Later.refl S, rfl⟩)
  exact ⟨K, gs', O', w', sl', T', q', S₁, hr', hsz, ha', hR, hL, F'⟩

/-- The frame's beginning: all others only leave. -/
theorem Frm.begin (N M : Nat) {a : Goroutine} (h0 : gs[0]? = some a) (hL : Leavers P T gs q) (hP : Past (fun _ => False) w.heap.size T) : Frm P N M (fun _ _ => False) (fun _ => none) (fun b => if b < w.heap.size then .still else .of 0) T gs w q := by
  refine ⟨fun i g hi hg => hL.old i g (by omega) hg, fun i s h => (by cases h), fun i c vs h => (by cases h), fun i c m h => (by cases h), fun i i' s s' h => (by cases h), hL.above, ?_, fun g b h => h.elim, fun b h => h⟩
  refine Flow.fewer (Flow.loosen (Flow.ofPast (rd := fun _ _ => False) hP (fun b => ?_) (fun b h => h)) (fun g h => h.elim)) ?_
  · by_cases h : b < w.heap.size
    · exact .inl (by simp only [h, if_true]; trivial)
    · exact .inr (if_neg h)
  · rintro g (h | ⟨c, vs, h⟩)
    · exact h
    · cases h
/-- .. and its end. -/
theorem Frm.ends (F : Frm P N M rd S O T gs w q) (hS : ∀ i, S i = none) : Leavers P T gs q ∧ Past (fun _ => False) w.heap.size T := by
  refine ⟨⟨fun i g hi hg => ?_, F.above⟩, F.flow.toPast (.inl rfl) fun g ⟨s, h⟩ => by rw [hS g] at h; cases h⟩
  have h := F.idle i g (by omega) hg
  rw [hS i] at h; exact h
end
end Go.Spring
