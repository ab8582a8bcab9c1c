/- Goroutine 0's walk beside senders and leavers; what a meeting, and the receive that finds a closed channel, make of the frame. -/
import Derived.Test.YtpoknlbnookhjaaFc
set_option linter.unusedVariables false
set_option linter.unusedSimpArgs false
namespace Go.Spring
open Go.Conc
open Go.ConcN (sumTo upd sumTo_upd upd_ne upd_same le_sumTo)

/-- Some senders have closed their channels meanwhile. -/
def Later (S S' : Nat → Option Sd) : Prop := ∀ i, S' i = S i ∨ ∃ c m, S i = some (.live c []) ∧ S' i = some (.shut c m)
theorem Later.refl (S : Nat → Option Sd) : Later S S := fun i => .inl rfl
theorem Later.trans {S S₁ S₂ : Nat → Option Sd} (h : Later S S₁) (k : Later S₁ S₂) : Later S S₂ := by
  intro i
  rcases h i with e | ⟨c, m, e, e'⟩
  · rcases k i with f | ⟨c, m, f, f'⟩
    · exact .inl (f.trans e)
    · exact .inr ⟨c, m, e ▸ f, f'⟩
  · rcases k i with f | ⟨c', m', f, f'⟩
    · exact .inr ⟨c, m, e, f.trans e'⟩
    · rw [e'] at f; cases f
theorem Later.upd {S : Nat → Option Sd} {i c m : Nat} (h : S i = some (.live c [])) : Later S (upd S i (some (.shut c m))) := by
  intro x
  by_cases e : x = i
  · subst e; exact .inr ⟨c, m, h, upd_same S x _⟩
  · exact .inl (upd_ne S _ e)
theorem Later.ch {S S' : Nat → Option Sd} (h : Later S S') {i : Nat} {s : Sd} (hs : S i = some s) : ∃ s', S' i = some s' ∧ s'.ch = s.ch := by
  rcases h i with e | ⟨c, m, e, e'⟩
  · exact ⟨s, by rw [e]; exact hs, rfl⟩
  · rw [hs] at e; injection e with e; subst e; exact ⟨_, e', rfl⟩

section
variable {P : Program} {N M : Nat} {rd : Nat → Nat → Prop} {S : Nat → Option Sd} {O : Nat → Own} {T : Trace} {gs : Array Goroutine} {w : World} {q : Nat → Nat}

/-- Goroutine 0's walk, on whatever tape. -/
theorem hold {Stop : Goroutine → (Nat → Own) → World → Prop} {n : Nat} {a : Goroutine} {sl : Option (Nat × Nat)} (h0 : gs[0]? = some a) (F : Frm P N M rd S O T gs w q) (hG : GG P 0 (rd 0) Stop n a O w) :
    ∃ (K : Nat) (gs' : Array Goroutine) (a' : Goroutine) (O' : Nat → Own) (w' : World) (sl' : Option (Nat × Nat)) (T' : Trace) (q' : Nat → Nat) (S' : Nat → Option Sd),
      runNT P K (crowd gs w sl) T = (.next (crowd gs' w' sl'), T') ∧ gs'.size = gs.size ∧ gs'[0]? = some a' ∧ Stop a' O' w' ∧ Frm P N M rd S' O' T' gs' w' q' ∧ Later S S' := by
  obtain ⟨K, m', T', hr, gs', a', O', w', sl', q', S', rfl, hsz, ha', hS, F', hL⟩ := runs_until (P := P)
    (Inv := fun μ m t => ∃ gs₁ a₁ O₁ w₁ sl₁ q₁ n₁ S₁, m = crowd gs₁ w₁ sl₁ ∧ gs₁.size = gs.size ∧ gs₁[0]? = some a₁ ∧ Frm P N M rd S₁ O₁ t gs₁ w₁ q₁ ∧ GG P 0 (rd 0) Stop n₁ a₁ O₁ w₁ ∧ Later S S₁ ∧ μ = n₁ + sumTo gs₁.size q₁)
    (Done := fun m t => ∃ gs₁ a₁ O₁ w₁ sl₁ q₁ S₁, m = crowd gs₁ w₁ sl₁ ∧ gs₁.size = gs.size ∧ gs₁[0]? = some a₁ ∧ Stop a₁ O₁ w₁ ∧ Frm P N M rd S₁ O₁ t gs₁ w₁ q₁ ∧ Later S S₁)
    (fun μ m t ⟨gs₁, a₁, O₁, w₁, sl₁, q₁, n₁, S₁, hm, hsz, ha₁, F₁, hG₁, hL₁, hμ⟩ => by
      subst hm
      cases n₁ with
      | zero => exact .inl ⟨gs₁, a₁, O₁, w₁, sl₁, q₁, S₁, rfl, hsz, ha₁, hG₁ O₁ w₁ (Rl.refl _ _ _), F₁, hL₁⟩
      | succ n₁ =>
        rcases hG₁ with hstop | ⟨hrun, hstep⟩
        · exact .inl ⟨gs₁, a₁, O₁, w₁, sl₁, q₁, S₁, rfl, hsz, ha₁, hstop O₁ w₁ (Rl.refl _ _ _), F₁, hL₁⟩
        refine .inr ?_
        obtain ⟨i, g, d, sl', hi, hg, hst⟩ := crowd_pick (P := P) (w := w₁) (sl := sl₁) (F₁.awake ha₁ (.inl hrun)) ⟨0, a₁, ha₁, hrun⟩
        have Fd := F₁.at d
        by_cases e : i = 0
        · subst e
          obtain rfl : g = a₁ := by rw [ha₁] at hi; exact (Option.some.inj hi).symm
          have hs := hstep O₁ (w₁.at d) (Rl.at _ _ _ _)
          cases hgo : stepG P (0 == 0) g (w₁.at d) with
          | go a' w' es =>
            rw [hgo, goes_go] at hs
            obtain ⟨hd, hG'⟩ := hs
            obtain ⟨F', ha'⟩ := Fd.own (a' := a') hi hd
            exact ⟨_, _, n₁ + sumTo gs₁.size q₁, by rw [hst]; exact runT_crowd_go (sl := sl') hi hgo, by omega, _, a', _, w', sl', q₁, n₁, S₁, rfl, by simpa using hsz, ha', F', hG', hL₁, by simp⟩
          | _ => rw [hgo] at hs; exact hs.elim
        · have key : Stepped1 P N M rd S₁ O₁ t gs₁ (w₁.at d) sl' q₁ i a₁ := by
            have hlv : (∃ c vs, S₁ i = some (.live c vs)) ∨ ∀ c vs, S₁ i ≠ some (.live c vs) := by
              by_cases h : ∃ c vs, S₁ i = some (.live c vs)
              · exact .inl h
              · exact .inr fun c vs h' => h ⟨c, vs, h'⟩
            rcases hlv with ⟨c, vs, hS⟩ | hn
            · exact Fd.sender ha₁ hi e hg hS (fun w' _ _ => again_running _ (.inl hrun)) fun _ _ _ _ _ _ _ => offersAt_of_not_blocked (by rw [hrun]; simp) _ _
            · exact Fd.leaver ha₁ hi e hg hn (again_running _ (.inl hrun))
          obtain ⟨gs', ops, q', O', w', S', a', hrt, hsz', ha', F', hrl, _, _, hcase⟩ := key
          have hr0 : Rl 0 O₁ w₁ O' w' := (Rl.at _ _ _ _).trans hrl
          rcases hcase with ⟨rfl, rfl, hlt⟩ | ⟨c, m, hS, rfl, rfl, hlt, _⟩
          · exact ⟨_, _, (n₁ + 1) + sumTo gs'.size q', by rw [hst]; exact hrt, by rw [hsz']; omega, gs', a', O', w', sl', q', n₁ + 1, S', rfl, hsz'.trans hsz, ha', F', GG.rely (.inr ⟨hrun, hstep⟩) hr0, hL₁, rfl⟩
          · rw [again_running _ (.inl hrun)] at ha'
            exact ⟨_, _, (n₁ + 1) + sumTo gs'.size q', by rw [hst]; exact hrt, by rw [hsz']; omega, gs', a₁, O', w', sl', q', n₁ + 1, _, rfl, hsz'.trans hsz, ha', F', GG.rely (.inr ⟨hrun, hstep⟩) hr0, hL₁.trans (Later.upd hS), rfl⟩)
    _ _ T ⟨gs, a, O, w, sl, q, n, S, rfl, rfl, h0, F, hG, Later.refl S, rfl⟩
  exact ⟨K, gs', a', O', w', sl', T', q', S', hr, hsz, ha', hS, F', hL⟩

/-- Behind a meeting of goroutine 0 with sender x. -/
theorem Frm.meet (F : Frm P N M rd S O T gs w q) {x c n : Nat} {v : Value} {vs : List Value} {gs' : Array Goroutine} {g' : Goroutine} (hS : S x = some (.live c (v :: vs))) (hsz : gs'.size = gs.size) (hoth : ∀ y, y ≠ x → y ≠ 0 → gs'[y]? = gs[y]?) (hx : gs'[x]? = some g')
    (hc : w.heap[c]? = some (.chan 0 #[] false n n false)) (hF : ∀ O₁ w₁, Rl x O w O₁ w₁ → Feeds P x (rd x) c N M vs N g' O₁ w₁) (f f' : FuncId) (p p' : String) :
    Frm P N M rd (upd S x (some (.live c vs))) O (T ++ met x 0 f p f' p' c n 0) gs' (w.setChan c 0 #[] false (n + 1) (n + 1) false) (upd q x (N + M + 2)) := by
  obtain ⟨hOc, hrc, hcs, _⟩ := F.live x c _ hS
  have hrl : ∀ y, Rl y O w O (w.setChan c 0 #[] false (n + 1) (n + 1) false) := fun y => Rl.setChan hOc _ _ _ _ _ _
  have hsize : (w.setChan c 0 #[] false (n + 1) (n + 1) false).heap.size = w.heap.size := by simp [World.setChan]
  have hne' : ∀ b, b ≠ c → (w.setChan c 0 #[] false (n + 1) (n + 1) false).heap[b]? = w.heap[b]? := fun b hb => heap_setChan_ne w _ _ _ _ _ _ (fun e => hb e.symm)
  have hself : (w.setChan c 0 #[] false (n + 1) (n + 1) false).heap[c]? = some (.chan 0 #[] false (n + 1) (n + 1) false) := heap_setChan_self w hc _ _ _ _ _ _
  have hD : ∀ y, Deaf (T ++ met x 0 f p f' p' c n 0) y = Deaf T y := fun y => Deaf_quiet (met_quiet _ _ _ _ _ _ _ _ _ y)
  have hup : ∀ y, y ≠ x → upd S x (some (.live c vs)) y = S y := fun y hy => upd_ne S _ hy
  have hupx : upd S x (some (.live c vs)) x = some (.live c vs) := upd_same S x _
  have hdiff : ∀ y s, y ≠ x → S y = some s → s.ch ≠ c := fun y s hy hs e => hy (F.inj y x _ _ hs hS e)
  refine ⟨fun y g hy hg => ?_, fun y s hs => ?_, fun y c' vs' hs => ?_, fun y c' m hs => ?_, fun y y' s s' h1 h2 h3 => ?_, fun y hy => ?_, ?_, fun g b h => by rw [hsize]; exact F.rdO g b h, F.rd0⟩
  · by_cases e : y = x
    · subst e
      rw [hx] at hg
      obtain rfl := Option.some.inj hg
      rw [upd_same, hupx]
      exact .inl ⟨N, rfl, hF _ _ (hrl y)⟩
    · rw [hoth y e hy] at hg
      rw [upd_ne q _ e, hup y e]
      have h := F.idle y g hy hg
      cases es : S y with
      | none => rw [es] at h; show QuitsD _ _ _ _; rw [hD]; exact h
      | some s =>
        rw [es] at h
        cases s with
        | live c' vs' => exact Lively.rely h (hrl y)
        | shut c' m => show QuitsD _ _ _ _; rw [hD]; exact h
  · rw [hsz]
    by_cases e : y = x
    · subst e; exact F.pos y _ hS
    · rw [hup y e] at hs; exact F.pos y s hs
  · rw [hsize]
    by_cases e : y = x
    · subst e
      rw [hupx] at hs
      injection hs with hs; injection hs with h1 h2
      subst h1
      exact ⟨hOc, hrc, hcs, n + 1, hself⟩
    · rw [hup y e] at hs
      obtain ⟨h1, h2, h3, k, hk⟩ := F.live y c' vs' hs
      exact ⟨h1, h2, h3, k, by rw [hne' c' (hdiff y _ e hs)]; exact hk⟩
  · rw [hsize]
    have e : y ≠ x := by rintro rfl; rw [hupx] at hs; cases hs
    rw [hup y e] at hs
    obtain ⟨h1, h3, ⟨k, hk⟩, h4⟩ := F.shut y c' m hs
    exact ⟨h1, h3, ⟨k, by rw [hne' c' (hdiff y _ e hs)]; exact hk⟩, h4.app fun op hop _ => met_mute _ _ _ _ _ _ _ _ _ op hop⟩
  · have key : ∀ y s, upd S x (some (.live c vs)) y = some s → ∃ s', S y = some s' ∧ s'.ch = s.ch := by
      intro y s hs
      by_cases e : y = x
      · subst e; rw [hupx] at hs; injection hs with hs; subst hs; exact ⟨_, hS, rfl⟩
      · rw [hup y e] at hs; exact ⟨s, hs, rfl⟩
    obtain ⟨t1, ht1, e1⟩ := key y s h1
    obtain ⟨t2, ht2, e2⟩ := key y' s' h2
    exact F.inj y y' t1 t2 ht1 ht2 (by rw [e1, e2, h3])
  · rw [hD]; exact F.above y (by omega)
  · rw [hsize]
    refine Flow.fewer (Flow.loosen (F.flow.mute (met_mute _ _ _ _ _ _ _ _ _) (fun y _ => hD y) (fun op hop => ?_)) ?_) ?_
    · simp only [met, List.mem_toArray, List.mem_cons, List.not_mem_nil, or_false] at hop
      rcases hop with rfl | rfl | rfl | rfl <;> exact hcs
    · rintro y ⟨s, h⟩
      by_cases e : y = x
      · subst e; exact ⟨_, hupx⟩
      · exact ⟨s, by rw [hup y e]; exact h⟩
    · rintro y (h | ⟨c', vs', h⟩)
      · exact .inl h
      · by_cases e : y = x
        · subst e; exact .inr ⟨_, _, hS⟩
        · rw [hup y e] at h; exact .inr ⟨c', vs', h⟩

/-- Behind the receive that finds x's channel closed. -/
theorem Frm.found (F : Frm P N M rd S O T gs w q) {x c m : Nat} {gs' : Array Goroutine} (hS : S x = some (.shut c m)) (hsz : gs'.size = gs.size) (hoth : ∀ y, y ≠ 0 → gs'[y]? = gs[y]?) (f : FuncId) (p : String) :
    Frm P N M rd (upd S x none) O (T ++ #[{ g := 0, fn := f, pos := p, act := .recvClosed c }]) gs' w q := by
  obtain ⟨hOc, hcs, ⟨k, hk⟩, hsh⟩ := F.shut x c m hS
  obtain ⟨u, hu⟩ : ∃ u : Trace, u = #[{ g := 0, fn := f, pos := p, act := .recvClosed c }] := ⟨_, rfl⟩
  have hn : ∀ op ∈ u, op.act.touch? = none := by
    intro op hop
    rw [hu] at hop
    simp only [List.mem_toArray, List.mem_cons, List.not_mem_nil, or_false] at hop
    subst hop; rfl
  have hq : ∀ g, ∀ op ∈ u, ∀ d, deafStep g d op = d := by
    intro g op hop d
    rw [hu] at hop
    simp only [List.mem_toArray, List.mem_cons, List.not_mem_nil, or_false] at hop
    subst hop; rfl
  have hfl := F.flow.found hsh (.inl rfl) f p hcs
  rw [← hu] at hfl ⊢
  have hD : ∀ y, Deaf (T ++ u) y = Deaf T y := fun y => Deaf_quiet (hq y)
  have hup : ∀ y, y ≠ x → upd S x none y = S y := fun y hy => upd_ne S _ hy
  have hupx : upd S x none x = none := upd_same S x _
  have hsub : ∀ y s, upd S x none y = some s → y ≠ x ∧ S y = some s := by
    intro y s hs
    have e : y ≠ x := by rintro rfl; rw [hupx] at hs; cases hs
    exact ⟨e, by rw [← hup y e]; exact hs⟩
  refine ⟨fun y g hy hg => ?_, fun y s hs => ?_, fun y c' vs' hs => F.live y c' vs' (hsub y _ hs).2, fun y c' m' hs => ?_, fun y y' s s' h1 h2 h3 => F.inj y y' s s' (hsub y s h1).2 (hsub y' s' h2).2 h3, fun y hy => ?_, ?_, F.rdO, F.rd0⟩
  · rw [hoth y hy] at hg
    have h := F.idle y g hy hg
    by_cases e : y = x
    · subst e
      rw [hupx]
      rw [hS] at h
      show QuitsD _ _ _ _
      rw [hD]; exact h
    · rw [hup y e]
      cases es : S y with
      | none => rw [es] at h; show QuitsD _ _ _ _; rw [hD]; exact h
      | some s =>
        rw [es] at h
        cases s with
        | live c' vs' => exact h
        | shut c' m => show QuitsD _ _ _ _; rw [hD]; exact h
  · rw [hsz]; exact F.pos y s (hsub y s hs).2
  · obtain ⟨h1, h3, h2, h4⟩ := F.shut y c' m' (hsub y _ hs).2
    exact ⟨h1, h3, h2, h4.app fun op hop _ => hn op hop⟩
  · rw [hD]; exact F.above y (by omega)
  · refine Flow.fewer (Flow.loosen hfl ?_) ?_
    · rintro y ⟨⟨s, h⟩, e⟩
      exact ⟨s, by rw [hup y e]; exact h⟩
    · rintro y (h | ⟨c', vs', h⟩)
      · exact .inl h
      · exact .inr ⟨c', vs', (hsub y _ h).2⟩
end
end Go.Spring
