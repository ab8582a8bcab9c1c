/- A sender's step within the frame: a step of its way, the parking at its send, its close. -/
import Derived.Test.YtpoknlbnookhjaaFb
set_option linter.unusedVariables false
set_option linter.unusedSimpArgs false
namespace Go.Spring
open Go.Conc
open Go.ConcN (sumTo upd sumTo_upd upd_ne upd_same le_sumTo)

section
variable {P : Program} {N M : Nat} {rd : Nat → Nat → Prop} {S : Nat → Option Sd} {O : Nat → Own} {T : Trace} {gs : Array Goroutine} {w : World} {q : Nat → Nat}

/-- A step of a sender's way. -/
theorem Frm.walks (F : Frm P N M rd S O T gs w q) {i c k : Nat} {vs : List Value} {a g g' : Goroutine} {w' : World} {es : Array Event} {sl : Option (Nat × Nat)} (h0 : gs[0]? = some a) (hi : gs[i]? = some g) (hne : i ≠ 0) (hS : S i = some (.live c vs))
    (hgo : stepG P (i == 0) g w = .go g' w' es) (hG : Gd i (rd i) O w w' es) (hF : Feeds P i (rd i) c N M vs k g' (ext O w i) w') (hq : q i = k + 1 + M + 2) (hag : a.again w' = a) : Stepped1 P N M rd S O T gs w sl q i a := by
  have hlt : i < gs.size := (Array.getElem?_eq_some_iff.1 hi).1
  obtain ⟨hops, hs, hl, hdf⟩ := evF_ops (fn := g.frame.fn) (pos := g.frame.place) hG.evs
  have hD : ∀ x, x ≠ i → Deaf (T ++ MemOp.ofEvents i g.frame.fn g.frame.place es) x = Deaf T x := fun x hx => Deaf_other T (fun e => hx e.symm) _ hops
  have hrd : ∀ g b, rd g b → (ext O w i b).loose := fun g b h => by obtain ⟨h1, h2⟩ := F.rdO g b h; rw [ext_old h2]; exact h1
  have hw : ∀ x y, gs[x]? = some y → woken P g g' w' y = y := fun x y hy => woken_of_again (by
    by_cases hx : x = 0
    · subst hx; rw [h0] at hy; obtain rfl := Option.some.inj hy; exact hag
    · refine Idl.again (F.idle x y hx hy) fun c' vs' hs' => ?_
      obtain ⟨h1, _, h3, k, hk⟩ := F.live x c' vs' hs'
      exact ⟨k, by rw [(hG.chans c' h3 h1).2]; exact hk⟩)
  have harr : ∀ x, x ≠ i → ((gs.map (woken P g g' w')).setIfInBounds i g')[x]? = gs[x]? := by
    intro x hx
    rw [Array.getElem?_setIfInBounds_ne (fun e => hx e.symm), Array.getElem?_map]
    cases ey : gs[x]? with
    | none => rfl
    | some y => simp [hw x y ey]
  refine ⟨_, _, upd q i (k + M + 2), ext O w i, w', S, a, runT_crowd_go (sl := sl) hi hgo, by simp, by rw [harr 0 (fun e => hne e.symm)]; exact h0, ?_, hG.rl (fun e => hne e.symm), fun x hx => upd_ne q _ hx, fun h => by rw [upd_same] at h; omega, .inl ⟨rfl, rfl, by have := sum_put (k := k + M + 2) (q := q) hlt; omega⟩⟩
  refine F.put (g' := g') (by simp) (fun x hx _ => harr x hx) (fun _ => ⟨Array.getElem?_setIfInBounds_self_of_lt (by simpa using hlt), ?_⟩) (fun x hx => hG.rl hx) hG.chans hG.size hD hlt
    (fun x c m hx => (F.shut x c m hx).2.2.2.app fun op hop hg => by
      rw [hops op hop] at hg
      subst hg
      rw [hS] at hx; cases hx) ?_ hrd
  · rw [hS]; exact .inl ⟨k, rfl, hF⟩
  · refine F.flow.ownJ hG.size (fun b hb => ext_old hb) hne (.inr ⟨c, vs, hS⟩) ⟨_, hS⟩ hrd hops (fun op hop x hx => ?_) (hdf T) hl
    obtain ⟨b, hb, h⟩ := hs op hop x hx
    refine ⟨b, hb, ?_⟩
    rcases h with h | ⟨hw, ⟨h, _⟩ | h⟩
    · exact .inl h
    · exact absurd h hne
    · exact .inr ⟨h, hw⟩

/-- It comes to its send, and nobody waits there: it is parked. -/
theorem Frm.parks (F : Frm P N M rd S O T gs w q) {i c : Nat} {v z : Value} {vs : List Value} {a g g₂ : Goroutine} {sl : Option (Nat × Nat)} (h0 : gs[0]? = some a) (hi : gs[i]? = some g) (hne : i ≠ 0) (hS : S i = some (.live c (v :: vs)))
    (hst : ∀ w₁, stepG P false g w₁ = .comm g₂ #[scase c v z] true .send w₁ #[]) (hF : ∀ O₁ w₁, Rl i O w O₁ w₁ → Feeds P i (rd i) c N M vs N (Go.Conc.served g₂ undef) O₁ w₁) (hq : 0 < q i) (hoff : offersAt a c false = []) : Stepped1 P N M rd S O T gs w sl q i a := by
  have hlt : i < gs.size := (Array.getElem?_eq_some_iff.1 hi).1
  have hi0 : (i == 0) = false := by simp; omega
  obtain ⟨_, _, _, k, hc⟩ := F.live i c _ hS
  have hp : partners (gs.setIfInBounds i ph) c false = [] := partners_nil fun x y hy => by
    rcases getElem?_stand gs i x y hy with ⟨_, rfl⟩ | ⟨hx, hy'⟩
    · exact offersAt_ph _ _
    · by_cases hx0 : x = 0
      · subst hx0; rw [h0] at hy'; obtain rfl := Option.some.inj hy'; exact hoff
      · have h := F.idle x y hx0 hy'
        cases e : S x with
        | none => rw [e] at h; exact offersAt_of_not_blocked (fun hb => by rcases QuitsD.status h with z | z <;> rw [z] at hb <;> cases hb) c false
        | some s =>
          rw [e] at h
          cases s with
          | live c' vs' =>
            rcases h with ⟨k', hn, h⟩ | ⟨hn, v', vs'', g', z', h1, h2, h3⟩
            · exact offersAt_of_not_blocked (fun hb => by rw [h.running] at hb; cases hb) c false
            · rw [h2]; exact offersAt_parked_send' _ _ _ _ _ _
          | shut c' m => exact offersAt_of_not_blocked (fun hb => by rcases QuitsD.status h with z | z <;> rw [z] at hb <;> cases hb) c false
  have hw : ∀ cc ∈ #[scase c v z], NoWays w (gs.setIfInBounds i ph) cc := by
    intro cc hcc
    simp only [List.mem_toArray, List.mem_cons, List.not_mem_nil, or_false] at hcc
    subst hcc
    exact ways_send_none hc (Nat.le_refl _) hp
  have hops : MemOp.ofEvents i g.frame.fn g.frame.place #[] = #[] := by simp [MemOp.ofEvents]
  have hrun := crowd_waits (sl := sl) hi (by rw [hi0]; exact hst w) hw
  rw [hops] at hrun
  refine ⟨_, _, upd q i 0, O, w, S, a, hrun, by simp, by rw [Array.getElem?_setIfInBounds_ne hne]; exact h0, ?_, Rl.refl _ _ _, fun x hx => upd_ne q _ hx, fun _ c' vs' h => by rw [hS] at h; injection h with h; injection h with h1 h2; rw [← h1]; exact hoff, .inl ⟨rfl, rfl, by have := sum_put (k := 0) (q := q) hlt; omega⟩⟩
  refine F.put (g' := parked g₂ #[scase c v z] .send) (by simp) (fun x hx _ => Array.getElem?_setIfInBounds_ne (fun e => hx e.symm)) (fun _ => ⟨Array.getElem?_setIfInBounds_self_of_lt hlt, ?_⟩) (fun x _ => Rl.refl _ _ _) (fun b _ ho => ⟨ho, rfl⟩) (Nat.le_refl _)
    (fun x _ => by rw [Array.append_empty]) hlt (fun x c m hx => by rw [Array.append_empty]; exact (F.shut x c m hx).2.2.2) (by rw [Array.append_empty]; exact F.flow) (fun g b h => (F.rdO g b h).1)
  rw [hS]; exact .inr ⟨rfl, v, vs, g₂, z, rfl, rfl, hF⟩

theorem Frm.closes (F : Frm P N M rd S O T gs w q) {i c k : Nat} {a g : Goroutine} {sl : Option (Nat × Nat)} (h0 : gs[0]? = some a) (hi : gs[i]? = some g) (hne : i ≠ 0) (hS : S i = some (.live c []))
    (hC : CloseAt P c M g O w) (hq : q i = k + M + 2) : Stepped1 P N M rd S O T gs w sl q i a := by
  have hlt : i < gs.size := (Array.getElem?_eq_some_iff.1 hi).1
  have hi0 : (i == 0) = false := by simp; omega
  obtain ⟨hrun, hmw, g', hg', hQ, hst⟩ := hC
  obtain ⟨hOc, hrc, hcs, n, hc⟩ := F.live i c _ hS
  obtain ⟨w', ew⟩ : ∃ w', w' = w.setChan c 0 #[] true n n false := ⟨_, rfl⟩
  have hgo := hst w n hc
  rw [← ew] at hgo
  have hrl : ∀ x, Rl x O w O w' := fun x => by rw [ew]; exact Rl.setChan hOc _ _ _ _ _ _
  have hsize : w'.heap.size = w.heap.size := by rw [ew]; simp [World.setChan]
  have hne' : ∀ b, b ≠ c → w'.heap[b]? = w.heap[b]? := fun b hb => by rw [ew]; exact heap_setChan_ne w _ _ _ _ _ _ (fun e => hb e.symm)
  have hself : w'.heap[c]? = some (.chan 0 #[] true n n false) := by rw [ew]; exact heap_setChan_self w hc _ _ _ _ _ _
  obtain ⟨ops, eo⟩ : ∃ ops, ops = MemOp.ofEvents i g.frame.fn g.frame.place (closeEvents c) := ⟨_, rfl⟩
  have eo' : ops = #[{ g := i, fn := g.frame.fn, pos := g.frame.place, act := .access ⟨.obj c, false, true⟩ }, { g := i, fn := g.frame.fn, pos := g.frame.place, act := .close c }] := by rw [eo, closeOps]
  have hops : ∀ op ∈ ops, op.g = i := fun op hop => by rw [eo] at hop; obtain ⟨e, _, rfl⟩ := Go.Conc.mem_ofEvents hop; rfl
  have hD : ∀ x, x ≠ i → Deaf (T ++ ops) x = Deaf T x := fun x hx => Deaf_other T (fun e => hx e.symm) _ hops
  have hdq : ∀ op ∈ ops, ∀ d, deafStep i d op = d := by
    intro op hop d
    rw [eo'] at hop
    simp only [List.mem_toArray, List.mem_cons, List.not_mem_nil, or_false] at hop
    rcases hop with rfl | rfl <;> rfl
  have hDi : Deaf (T ++ ops) i = Deaf T i := Deaf_quiet hdq
  have hDi0 : Deaf T i = 0 := F.flow.hears i (.inr ⟨c, [], hS⟩)
  have e1 : (T ++ ops)[T.size + 1]? = some { g := i, fn := g.frame.fn, pos := g.frame.place, act := .close c } := by rw [at_new, eo']; rfl
  have hliv : ∀ x c' vs, x ≠ i → S x = some (.live c' vs) → c' ≠ c := fun x c' vs hx hs e => hx (F.inj x i _ _ hs hS e)
  have hw : ∀ x y, x ≠ 0 → x ≠ i → gs[x]? = some y → woken P g g' w' y = y := fun x y hx hxi hy => woken_of_again (by
    refine Idl.again (F.idle x y hx hy) fun c' vs' hs' => ?_
    obtain ⟨_, _, _, k, hk⟩ := F.live x c' vs' hs'
    exact ⟨k, by rw [hne' c' (hliv x c' vs' hxi hs')]; exact hk⟩)
  have hwa : woken P g g' w' a = a.again w' := by simp [woken, hmw, hg']
  have harr : ∀ x, x ≠ i → x ≠ 0 → ((gs.map (woken P g g' w')).setIfInBounds i g')[x]? = gs[x]? := by
    intro x hx hx0
    rw [Array.getElem?_setIfInBounds_ne (fun e => hx e.symm), Array.getElem?_map]
    cases ey : gs[x]? with
    | none => rfl
    | some y => simp [hw x y hx0 hx ey]
  have hup : ∀ x, x ≠ i → upd S i (some (.shut c (T.size + 1))) x = S x := fun x hx => upd_ne S _ hx
  have hupi : upd S i (some (.shut c (T.size + 1))) i = some (.shut c (T.size + 1)) := upd_same S i _
  have hmem : ∀ g, MemF (upd S i (some (.shut c (T.size + 1)))) g → MemF S g := by
    rintro x (h | ⟨c', vs, h⟩)
    · exact .inl h
    · by_cases e : x = i
      · subst e; rw [hupi] at h; cases h
      · rw [hup x e] at h; exact .inr ⟨c', vs, h⟩
  have hloo : ∀ g, LooF S g → LooF (upd S i (some (.shut c (T.size + 1)))) g := by
    rintro x ⟨s, h⟩
    by_cases e : x = i
    · subst e; exact ⟨_, hupi⟩
    · exact ⟨s, by rw [hup x e]; exact h⟩
  refine ⟨_, ops, upd q i M, O, w', upd S i (some (.shut c (T.size + 1))), a.again w', by rw [eo]; exact runT_crowd_go (sl := sl) hi (by rw [hi0]; exact hgo), by simp, ?_, ?_, hrl 0, fun x hx => upd_ne q _ hx, fun _ c' vs' h => (by rw [hupi] at h; cases h),
    .inr ⟨c, T.size + 1, hS, rfl, rfl, by have := sum_put (k := M) (q := q) hlt; omega, fun x c' vs hx hs => hne' c' (hliv x c' vs hx hs)⟩⟩
  · rw [Array.getElem?_setIfInBounds_ne hne, Array.getElem?_map, h0]; simp [hwa]
  refine ⟨fun x y hx hy => ?_, fun x s hs => ?_, fun x c' vs hs => ?_, fun x c' m hs => ?_, fun x x' s s' h1 h2 h3 => ?_, fun x hx => ?_, ?_, fun g b h => by rw [hsize]; exact F.rdO g b h, F.rd0⟩
  · by_cases e : x = i
    · subst e
      rw [Array.getElem?_setIfInBounds_self_of_lt (by simpa using hlt)] at hy
      obtain rfl := Option.some.inj hy
      rw [upd_same, hupi]
      show QuitsD P M (Deaf (T ++ ops) x) g'
      rw [hDi, hDi0]; exact hQ
    · rw [harr x e hx] at hy
      rw [upd_ne q M e, hup x e]
      have h := F.idle x y hx hy
      cases es : S x with
      | none => rw [es] at h; show QuitsD _ _ _ _; rw [hD x e]; exact h
      | some s =>
        rw [es] at h
        cases s with
        | live c vs => exact Lively.rely h (hrl x)
        | shut c m => show QuitsD _ _ _ _; rw [hD x e]; exact h
  · have hs' : LooF S x := by
      by_cases e : x = i
      · subst e; exact ⟨_, hS⟩
      · rw [hup x e] at hs; exact ⟨s, hs⟩
    obtain ⟨s', hs'⟩ := hs'
    have := F.pos x s' hs'
    exact ⟨this.1, by simpa using this.2⟩
  · by_cases e : x = i
    · subst e; rw [hupi] at hs; cases hs
    · rw [hup x e] at hs
      obtain ⟨h1, h2, h3, k, hk⟩ := F.live x c' vs hs
      exact ⟨h1, h2, by rw [hsize]; exact h3, k, by rw [hne' c' (hliv x c' vs e hs)]; exact hk⟩
  · by_cases e : x = i
    · subst e
      rw [hupi] at hs
      obtain ⟨rfl, rfl⟩ : c = c' ∧ T.size + 1 = m := by injection hs with hs; injection hs with h1 h2; exact ⟨h1, h2⟩
      refine ⟨hOc, by rw [hsize]; exact hcs, ⟨n, hself⟩, ⟨act?_of e1, ⟨x, g?_of e1, by rw [deaf_quiet hdq 1 (by rw [eo']; simp)]; exact hDi0⟩, fun j t ht hg => ?_⟩⟩
      obtain ⟨y, hy, hyt⟩ := touch_of ht
      have hyg : y.g = x := by rw [g?_of hy] at hg; exact Option.some.inj hg
      rcases Nat.lt_trichotomy j (T.size + 1) with hlt' | heq | hgt
      · exact .inr (hb_po hlt' hy e1 hyg)
      · exact .inl heq
      · have := lt_size_of_getElem? hy
        rw [eo'] at this
        simp at this
        omega
    · rw [hup x e] at hs
      obtain ⟨h1, h3, ⟨k, hk⟩, h4⟩ := F.shut x c' m hs
      have hcc : c' ≠ c := fun ec => e (F.inj x i _ _ hs hS ec)
      exact ⟨h1, by rw [hsize]; exact h3, ⟨k, by rw [hne' c' hcc]; exact hk⟩, h4.app fun op hop hg => by rw [hops op hop] at hg; exact absurd hg.symm e⟩
  · have key : ∀ y s, upd S i (some (.shut c (T.size + 1))) y = some s → ∃ s', S y = some s' ∧ s'.ch = s.ch := by
      intro y s hs
      by_cases e : y = i
      · subst e; rw [hupi] at hs; injection hs with hs; subst hs; exact ⟨_, hS, rfl⟩
      · rw [hup y e] at hs; exact ⟨s, hs, rfl⟩
    obtain ⟨t1, ht1, e1'⟩ := key x s h1
    obtain ⟨t2, ht2, e2'⟩ := key x' s' h2
    exact F.inj x x' t1 t2 ht1 ht2 (by rw [e1', e2', h3])
  · have hx' : gs.size ≤ x := by simpa using hx
    rw [hD x (by omega)]; exact F.above x hx'
  · rw [hsize]
    refine Flow.fewer (Flow.loosen (F.flow.ownJ (Nat.le_refl _) (fun _ _ => rfl) hne (.inr ⟨c, [], hS⟩) ⟨_, hS⟩ (fun g b h => (F.rdO g b h).1) hops (fun op hop x hx => ?_) hDi (fun op hop => ?_)) hloo) hmem
    · rw [eo'] at hop
      simp only [List.mem_toArray, List.mem_cons, List.not_mem_nil, or_false] at hop
      rcases hop with rfl | rfl
      · simp only [MemAct.touch?, Option.some.injEq] at hx
        subst hx
        exact ⟨c, rfl, .inr ⟨hrc, rfl⟩⟩
      · simp [MemAct.touch?] at hx
    · rw [eo'] at hop
      simp only [List.mem_toArray, List.mem_cons, List.not_mem_nil, or_false] at hop
      rcases hop with rfl | rfl <;> exact hcs

/-- A step of a sender's. -/
theorem Frm.sender (F : Frm P N M rd S O T gs w q) {i c : Nat} {vs : List Value} {a g : Goroutine} {sl : Option (Nat × Nat)} (h0 : gs[0]? = some a) (hi : gs[i]? = some g) (hne : i ≠ 0) (hrun : g.status = .running) (hS : S i = some (.live c vs))
    (hag : ∀ w', (∀ x c vs, S x = some (.live c vs) → w'.heap[c]? = w.heap[c]?) → (∀ x c m, S x = some (.shut c m) → w'.heap[c]? = w.heap[c]?) → a.again w' = a)
    (hoff : ∀ v vs' g₂ z, vs = v :: vs' → (∀ w₁, stepG P false g w₁ = .comm g₂ #[scase c v z] true .send w₁ #[]) → (∀ O₁ w₁, Rl i O w O₁ w₁ → Feeds P i (rd i) c N M vs' N (Go.Conc.served g₂ undef) O₁ w₁) → offersAt a c false = []) : Stepped1 P N M rd S O T gs w sl q i a := by
  have hi0 : (i == 0) = false := by simp; omega
  have hL := F.idle i g hne hi
  rw [hS] at hL
  have hagG : ∀ {w' : World} {es : Array Event}, Gd i (rd i) O w w' es → a.again w' = a := fun hG => hag _ (fun x c vs hs => by
      obtain ⟨h1, _, h3, _⟩ := F.live x c vs hs
      exact (hG.chans c h3 h1).2) (fun x c m hs => by
      obtain ⟨h1, h3, _⟩ := F.shut x c m hs
      exact (hG.chans c h3 h1).2)
  rcases hL with ⟨k, hqi, hF⟩ | ⟨_, v, vs', g₂, z, _, h2, _⟩
  · cases vs with
    | nil =>
      have hcase : CloseAt P c M g O w ∨ ∃ k', k = k' + 1 ∧ ∀ O₁ w₁, Rl i O w O₁ w₁ → (stepG P (i == 0) g w₁).goes fun g' w' es => Gd i (rd i) O₁ w₁ w' es ∧ GG P i (rd i) (CloseAt P c M) k' g' (ext O₁ w₁ i) w' := by
        cases k with
        | zero => exact .inl (hF O w (Rl.refl _ _ _))
        | succ k' => exact hF.elim (fun h => .inl (h O w (Rl.refl _ _ _))) fun h => .inr ⟨k', rfl, h.2⟩
      rcases hcase with hC | ⟨k', rfl, hst⟩
      · exact F.closes h0 hi hne hS hC hqi
      · have hs := hst O w (Rl.refl _ _ _)
        cases hgo : stepG P (i == 0) g w with
        | go g' w' es =>
          rw [hgo, goes_go] at hs
          exact F.walks h0 hi hne hS hgo hs.1 hs.2 hqi (hagG hs.1)
        | _ => rw [hgo] at hs; exact hs.elim
    | cons v vs' =>
      have hcase : SendAt P i c v (fun g O w => Feeds P i (rd i) c N M vs' N g O w) g O w ∨ ∃ k', k = k' + 1 ∧ ∀ O₁ w₁, Rl i O w O₁ w₁ → (stepG P (i == 0) g w₁).goes fun g' w' es => Gd i (rd i) O₁ w₁ w' es ∧ GG P i (rd i) (SendAt P i c v (fun g O w => Feeds P i (rd i) c N M vs' N g O w)) k' g' (ext O₁ w₁ i) w' := by
        cases k with
        | zero => exact .inl (hF O w (Rl.refl _ _ _))
        | succ k' => exact hF.elim (fun h => .inl (h O w (Rl.refl _ _ _))) fun h => .inr ⟨k', rfl, h.2⟩
      rcases hcase with ⟨_, g₂, z, hst, hA⟩ | ⟨k', rfl, hst⟩
      · exact F.parks h0 hi hne hS hst hA (by omega) (hoff v vs' g₂ z rfl hst hA)
      · have hs := hst O w (Rl.refl _ _ _)
        cases hgo : stepG P (i == 0) g w with
        | go g' w' es =>
          rw [hgo, goes_go] at hs
          exact F.walks h0 hi hne hS hgo hs.1 hs.2 hqi (hagG hs.1)
        | _ => rw [hgo] at hs; exact hs.elim
  · rw [h2] at hrun; cases hrun
end
end Go.Spring
