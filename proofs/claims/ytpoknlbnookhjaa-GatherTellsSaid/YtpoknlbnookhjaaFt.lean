/- A select of goroutine 0's over the senders' channels: on whatever tape it is served by one of them. -/
import Derived.Test.YtpoknlbnookhjaaFw
set_option linter.unusedVariables false
set_option linter.unusedSimpArgs false
namespace Go.Spring
open Go.Conc
open Go.ConcN (sumTo upd sumTo_upd upd_ne upd_same le_sumTo)

def ncase (z : Value) : CommCase := { chan := .chan none, send := none, zero := z }
/-- Goroutine 0 stands at a select. -/
def SelAt (P : Program) (cases : Array CommCase) (g g₂ : Goroutine) : Prop :=
  g.status = .running ∧ g.frame = g₂.frame ∧ g.callers = g₂.callers ∧ g.dying = g₂.dying ∧ ∀ w, stepG P true g w = .comm g₂ cases true .select w #[]
theorem SelAt.tries {P : Program} {cases : Array CommCase} {g g₂ : Goroutine} (h : SelAt P cases g g₂) : SelAt P cases { parked g₂ cases .select with status := .running } g₂ :=
  ⟨rfl, rfl, rfl, rfl, fun w => by rw [← h.2.2.2.2 w]; exact stepG_same h.2.1.symm h.2.2.1.symm h.2.2.2.1.symm w⟩

section
variable {P : Program} {N M : Nat} {rd : Nat → Nat → Prop} {S : Nat → Option Sd} {O : Nat → Own} {T : Trace} {gs : Array Goroutine} {w : World} {q : Nat → Nat}

/-- Who offers a send on a sender's channel: that sender alone, where it is parked. -/
theorem Frm.offers (F : Frm P N M rd S O T gs w q) {x c : Nat} {s : Sd} (hS : S x = some s) (hc : s.ch = c) {y : Nat} {g : Goroutine} (hy0 : y ≠ 0) (hyx : y ≠ x) (hy : gs[y]? = some g) : offersAt g c true = [] := by
  have h := F.idle y g hy0 hy
  cases e : S y with
  | none => rw [e] at h; exact offersAt_of_not_blocked (fun hb => by rcases QuitsD.status h with z | z <;> rw [z] at hb <;> cases hb) c true
  | some t =>
    rw [e] at h
    cases t with
    | live c' vs' =>
      rcases h with ⟨k', hn, h⟩ | ⟨hn, v', vs'', g', z', h1, h2, h3⟩
      · exact offersAt_of_not_blocked (fun hb => by rw [h.running] at hb; cases hb) c true
      · rw [h2, offersAt_parked_send, if_neg]
        intro ec
        exact hyx (F.inj y x _ _ e hS (by rw [hc]; exact ec))
    | shut c' m => exact offersAt_of_not_blocked (fun hb => by rcases QuitsD.status h with z | z <;> rw [z] at hb <;> cases hb) c true

/-- What a case on a sender's channel can do, goroutine 0 standing aside. -/
theorem Frm.way (F : Frm P N M rd S O T gs w q) {x : Nat} {s : Sd} (hS : S x = some s) (z : Value) :
    (∃ c vs, s = .live c vs ∧ NoWays w (gs.setIfInBounds 0 ph) (rcase c z) ∧ 0 < q x) ∨
    (∃ c v vs gj zj n, s = .live c (v :: vs) ∧ Met gs 0 w c x gj v zj n ∧ ∀ O₁ w₁, Rl x O w O₁ w₁ → Feeds P x (rd x) c N M vs N (Go.Conc.served gj undef) O₁ w₁) ∨
    (∃ c m n, s = .shut c m ∧ Shut gs 0 w c n) := by
  obtain ⟨hx0, hxl⟩ := F.pos x s hS
  obtain ⟨g, hg⟩ : ∃ g, gs[x]? = some g := ⟨gs[x], Array.getElem?_eq_getElem hxl⟩
  have h := F.idle x g hx0 hg
  have hoth : ∀ y gy, y ≠ x → (gs.setIfInBounds 0 ph)[y]? = some gy → offersAt gy s.ch true = [] := by
    intro y gy hyx hy
    rcases getElem?_stand gs 0 y gy hy with ⟨_, rfl⟩ | ⟨hy0, hy'⟩
    · exact offersAt_ph _ _
    · exact F.offers hS rfl hy0 hyx hy'
  have hgx : (gs.setIfInBounds 0 ph)[x]? = some g := stand_get hx0 hg
  rw [hS] at h
  cases s with
  | live c vs =>
    obtain ⟨_, _, _, n, hc⟩ := F.live x c vs hS
    rcases h with ⟨k', hn, h⟩ | ⟨hn, v, vs', g₂, zj, rfl, rfl, h3⟩
    · refine .inl ⟨c, vs, rfl, ways_recv_none hc (partners_nil fun y gy hy => ?_), by omega⟩
      by_cases e : y = x
      · subst e
        rw [hgx] at hy
        obtain rfl := Option.some.inj hy
        exact offersAt_of_not_blocked (fun hb => by rw [h.running] at hb; cases hb) c true
      · exact hoth y gy e hy
    · refine .inr (.inl ⟨c, v, vs', g₂, zj, n, rfl, ⟨hx0, hg, ?_, hc⟩, h3⟩)
      rw [partners_one (r := c) hgx fun y gy hyx hy => hoth y gy hyx hy]
      simp [offersAt_parked_send]
  | shut c m =>
    obtain ⟨_, _, ⟨n, hc⟩, _⟩ := F.shut x c m hS
    refine .inr (.inr ⟨c, m, n, rfl, hc, partners_nil fun y gy hy => ?_⟩)
    by_cases e : y = x
    · subst e
      rw [hgx] at hy
      obtain rfl := Option.some.inj hy
      exact offersAt_of_not_blocked (fun hb => by rcases QuitsD.status h with z | z <;> rw [z] at hb <;> cases hb) c true
    · exact hoth y gy e hy

/-- Where goroutine 0 has been served. -/
def Taken (P : Program) (N M : Nat) (rd : Nat → Nat → Prop) (S : Nat → Option Sd) (O : Nat → Own) (w : World) (size : Nat) (cases : Array CommCase) (g₂ : Goroutine) (m : Machine) (t : Trace) : Prop :=
  ∃ (gs' : Array Goroutine) (O' : Nat → Own) (w' : World) (sl' : Option (Nat × Nat)) (q' : Nat → Nat) (S₁ S' : Nat → Option Sd) (k c x : Nat) (z : Value), m = crowd gs' w' sl' ∧ gs'.size = size ∧ cases[k]? = some (rcase c z) ∧ Rl 0 O w O' w' ∧ Later S S₁ ∧ Frm P N M rd S' O' t gs' w' q' ∧
    ((∃ v vs, S x = some (.live c (v :: vs)) ∧ S' = upd S₁ x (some (.live c vs)) ∧ gs'[0]? = some (Go.Conc.served g₂ (commResult cases .select (k : Int) v true))) ∨
     ((∃ s, S x = some s ∧ s.ch = c ∧ ((∃ m, s = .shut c m) ∨ s = .live c [])) ∧ S' = upd S₁ x none ∧ gs'[0]? = some (Go.Conc.served g₂ (commResult cases .select (k : Int) z false))))

theorem Later.live {S S₁ : Nat → Option Sd} (h : Later S S₁) {x c : Nat} {v : Value} {vs : List Value} (hs : S₁ x = some (.live c (v :: vs))) : S x = some (.live c (v :: vs)) := by
  rcases h x with e | ⟨_, _, _, e⟩
  · rw [← e]; exact hs
  · rw [hs] at e; cases e
theorem Later.shut {S S₁ : Nat → Option Sd} (h : Later S S₁) {x c m : Nat} (hs : S₁ x = some (.shut c m)) (hch : ∀ s, S x = some s → True) : ∃ s, S x = some s ∧ s.ch = c ∧ ((∃ m, s = .shut c m) ∨ s = .live c []) := by
  rcases h x with e | ⟨c', m', e, e'⟩
  · exact ⟨_, by rw [← e]; exact hs, rfl, .inl ⟨m, rfl⟩⟩
  · rw [hs] at e'
    injection e' with e'
    injection e' with h1 h2
    subst h1
    exact ⟨_, e, rfl, .inr rfl⟩

/-- Some case's channel is closed. -/
def anyShut (w : World) (cs : Array CommCase) : Prop := ∃ cc ∈ cs, ∃ c cap buf s r tm, cc.chan = .chan (some c) ∧ w.heap[c]? = some (.chan cap buf true s r tm)
theorem again_cases {g : Goroutine} {cs : Array CommCase} {sh : CommShape} {w : World} :
    (anyShut w cs → (parked g cs sh).again w = { parked g cs sh with status := .running }) ∧ (¬ anyShut w cs → (parked g cs sh).again w = parked g cs sh) := by
  constructor
  · rintro ⟨cc, hm, c, cap, buf, s, r, tm, e, hc⟩
    obtain ⟨k, hlt, ek⟩ := Array.mem_iff_getElem.1 hm
    have : ∃ x, ∃ (_ : x < cs.size), (match cs[x].chan with | .chan (some r) => (w.heap[r]? matches some (.chan _ _ true ..)) | _ => false) = true := ⟨k, hlt, by rw [ek]; simp [e, hc]⟩
    simp [Goroutine.again, parked]
    exact this
  · intro h
    simp [Goroutine.again, parked]
    intro k hk
    cases e : cs[k].chan with
    | chan o =>
      cases o with
      | none => rfl
      | some c =>
        cases e' : w.heap[c]? with
        | none => simp [e']
        | some o =>
          cases o with
          | chan cap buf cl s r tm =>
            cases cl with
            | false => simp [e']
            | true => exact absurd ⟨cs[k], Array.getElem_mem hk, c, cap, buf, s, r, tm, e, e'⟩ h
          | _ => simp [e']
    | _ => rfl
theorem again_or {g : Goroutine} {cs : Array CommCase} {sh : CommShape} {w : World} :
    (parked g cs sh).again w = { parked g cs sh with status := .running } ∨ ((parked g cs sh).again w = parked g cs sh ∧ ∀ c z k, rcase c z ∈ cs → w.heap[c]? ≠ some (.chan 0 #[] true k k false)) := by
  by_cases h : anyShut w cs
  · exact .inl (again_cases.1 h)
  · exact .inr ⟨again_cases.2 h, fun c z k hm hc => h ⟨_, hm, c, _, _, _, _, _, rfl, hc⟩⟩
theorem again_calm {g : Goroutine} {cs : Array CommCase} {sh : CommShape} {w : World} (h : ∀ cc ∈ cs, (∃ z, cc = ncase z) ∨ ∃ c z k, cc = rcase c z ∧ w.heap[c]? = some (.chan 0 #[] false k k false)) : (parked g cs sh).again w = parked g cs sh := by
  refine again_cases.2 ?_
  rintro ⟨cc, hm, c, cap, buf, s, r, tm, e, hc⟩
  rcases h cc hm with ⟨z, rfl⟩ | ⟨c', z, k, rfl, hc'⟩
  · simp [ncase] at e
  · simp only [rcase, Value.chan.injEq, Option.some.injEq] at e
    subst e
    rw [hc'] at hc; injection hc with hc; injection hc with _ _ hc; cases hc

theorem take {a g₂ : Goroutine} {cases : Array CommCase} {sl : Option (Nat × Nat)} (h0 : gs[0]? = some a) (F : Frm P N M rd S O T gs w q) (hA : SelAt P cases a g₂)
    (hcs : ∀ cc ∈ cases, (∃ z, cc = ncase z) ∨ ∃ c z x s, cc = rcase c z ∧ S x = some s ∧ s.ch = c) (hone : ∃ c z x s, rcase c z ∈ cases ∧ S x = some s ∧ s.ch = c)
    (hap : ∀ (k m c : Nat) (z z' : Value), cases[k]? = some (rcase c z) → cases[m]? = some (rcase c z') → k = m) :
    ∃ K m' T', runNT P K (crowd gs w sl) T = (.next m', T') ∧ Taken P N M rd S O w gs.size cases g₂ m' T' := by
  refine runs_until (P := P)
    (Inv := fun μ m t => Taken P N M rd S O w gs.size cases g₂ m t ∨ ∃ gs₁ O₁ w₁ sl₁ q₁ S₁ a₁, ∃ pk : Bool, m = crowd gs₁ w₁ sl₁ ∧ gs₁.size = gs.size ∧ gs₁[0]? = some a₁ ∧ Frm P N M rd S₁ O₁ t gs₁ w₁ q₁ ∧ Later S S₁ ∧ Rl 0 O w O₁ w₁ ∧
      (if pk then a₁ = parked g₂ cases .select ∧ (∀ c z x s, rcase c z ∈ cases → S₁ x = some s → s.ch = c → 0 < q₁ x ∧ ∃ vs, s = .live c vs) else SelAt P cases a₁ g₂) ∧ μ = sumTo gs₁.size q₁ + (if pk then 0 else 1))
    (fun μ m t hInv => ?_) _ _ T (.inr ⟨gs, O, w, sl, q, S, a, false, rfl, rfl, h0, F, Later.refl S, Rl.refl _ _ _, hA, rfl⟩)
  rcases hInv with hdone | ⟨gs₁, O₁, w₁, sl₁, q₁, S₁, a₁, pk, rfl, hsz, ha₁, F₁, hL₁, hR₁, hpk, hμ⟩
  · exact .inl hdone
  refine .inr ?_
  have hcs₁ : ∀ cc ∈ cases, (∃ z, cc = ncase z) ∨ ∃ c z x s, cc = rcase c z ∧ S₁ x = some s ∧ s.ch = c := by
    intro cc hcc
    rcases hcs cc hcc with h | ⟨c, z, x, s, e, hs, hch⟩
    · exact .inl h
    · obtain ⟨s', hs', e'⟩ := hL₁.ch hs
      exact .inr ⟨c, z, x, s', e, hs', e'.trans hch⟩
  obtain ⟨c0, z0, x0, s0, hm0, hs0, hch0⟩ : ∃ c z x s, rcase c z ∈ cases ∧ S₁ x = some s ∧ s.ch = c := by
    obtain ⟨c, z, x, s, hm, hs, hch⟩ := hone
    obtain ⟨s', hs', e'⟩ := hL₁.ch hs
    exact ⟨c, z, x, s', hm, hs', e'.trans hch⟩
  have hst : a₁.status = .running ∨ a₁.status = .blocked := by
    cases pk with
    | false => exact .inl hpk.1
    | true => exact .inr (by rw [if_pos rfl] at hpk; rw [hpk.1]; rfl)
  have hsome : ∃ (i : Nat) (g : Goroutine), gs₁[i]? = some g ∧ g.status = .running := by
    cases pk with
    | false => exact ⟨0, a₁, ha₁, hpk.1⟩
    | true =>
      rw [if_pos rfl] at hpk
      obtain ⟨hq0, vs0, rfl⟩ := hpk.2 c0 z0 x0 s0 hm0 hs0 hch0
      obtain ⟨hx0, hxl⟩ := F₁.pos x0 _ hs0
      have h := F₁.idle x0 _ hx0 (Array.getElem?_eq_getElem hxl)
      rw [hs0] at h
      exact ⟨x0, _, Array.getElem?_eq_getElem hxl, (Lively.status h).elim (·.1) (fun z => by omega)⟩
  obtain ⟨i, g, d, sl', hi, hg, hstp⟩ := crowd_pick (P := P) (w := w₁) (sl := sl₁) (F₁.awake ha₁ hst) hsome
  have Fd := F₁.at d
  have hRd : Rl 0 O w O₁ (w₁.at d) := hR₁.trans (Rl.at _ _ _ _)
  have hlt0 : 0 < gs₁.size := (Array.getElem?_eq_some_iff.1 ha₁).1
  by_cases ei : i = 0
  · subst ei
    obtain rfl : g = a₁ := by rw [ha₁] at hi; exact (Option.some.inj hi).symm
    cases pk with
    | true => rw [if_pos rfl] at hpk; rw [hpk.1] at hg; cases hg
    | false =>
      have hSel : SelAt P cases g g₂ := hpk
      have hcomm : stepG P (0 == 0) g (w₁.at d) = .comm g₂ cases true .select (w₁.at d) #[] := hSel.2.2.2.2 _
      have hops : MemOp.ofEvents 0 g.frame.fn g.frame.place #[] = #[] := by simp [MemOp.ofEvents]
      by_cases hne : ∃ cc ∈ cases, ¬ NoWays (w₁.at d) (gs₁.setIfInBounds 0 ph) cc
      · -- it is served
        obtain ⟨k, c, z, d', hk, hres⟩ := crowd_sel (sl := sl') hi hcomm (fun cc hcc => by
          rcases hcs₁ cc hcc with ⟨z, rfl⟩ | ⟨c, z, x, s, rfl, hs, hch⟩
          · exact .inl (ways_nil _)
          · rcases Fd.way hs z with ⟨c', vs, rfl, hn, _⟩ | ⟨c', v, vs, gj, zj, n, rfl, hM, _⟩ | ⟨c', m, n, rfl, hSh⟩
            · obtain rfl : c' = c := hch
              exact .inl hn
            · obtain rfl : c' = c := hch
              exact .inr ⟨c', z, rfl, .inl ⟨x, gj, v, zj, n, hM⟩⟩
            · obtain rfl : c' = c := hch
              exact .inr ⟨c', z, rfl, .inr ⟨n, hSh⟩⟩) hne
        have hmem : rcase c z ∈ cases := Array.mem_of_getElem? hk
        obtain ⟨x, s, hs, hch⟩ : ∃ x s, S₁ x = some s ∧ s.ch = c := by
          rcases hcs₁ _ hmem with ⟨z', e⟩ | ⟨c', z', x, s, e, hs, hch⟩
          · simp [ncase, rcase] at e
          · simp only [rcase, CommCase.mk.injEq, Value.chan.injEq, Option.some.injEq] at e
            exact ⟨x, s, hs, hch.trans e.1.symm⟩
        have hpos : 0 < μ := by simp at hμ; omega
        rcases hres with ⟨j, gj, v, zj, n, hM, hrun⟩ | ⟨n, hSh, hrun⟩
        · -- a meeting
          rw [hops] at hrun
          rcases Fd.way hs z with ⟨c', vs, rfl, hn, _⟩ | ⟨c', v', vs, gj', zj', n', rfl, hM', hF⟩ | ⟨c', m, n', rfl, hSh'⟩
          · obtain rfl : c' = c := hch
            have := hM.ways (z := z)
            rw [hn.2] at this; cases this
          · obtain rfl : c' = c := hch
            have e1 := hM.2.2.1.symm.trans hM'.2.2.1
            obtain rfl : j = x := by simpa using e1
            have e2 := hM.2.1.symm.trans hM'.2.1
            obtain rfl : v = v' := by
              have := congrArg Goroutine.offers (Option.some.inj e2)
              simp [parked, scase] at this
              exact this.1
            have hsv : Go.Conc.served gj undef = Go.Conc.served gj' undef := by
              have e3 := Option.some.inj e2
              have f1 := congrArg Goroutine.frame e3
              have f2 := congrArg Goroutine.callers e3
              have f3 := congrArg Goroutine.dying e3
              simp only [parked] at f1 f2 f3
              simp only [Go.Conc.served, f1, f2, f3]
            have hjl : j < gs₁.size := (Fd.pos j _ hs).2
            have hgs0 : ((gs₁.setIfInBounds j (Go.Conc.served gj undef)).setIfInBounds 0 (g₂.finishComm P cases .select (k : Int) v true))[0]? = some (Go.Conc.served g₂ (commResult cases .select (k : Int) v true)) := by
              rw [Array.getElem?_setIfInBounds_self_of_lt (by simpa using hlt0)]; rfl
            refine ⟨_, _, 0, by rw [hstp]; exact hrun, hpos, .inl ⟨_, O₁, _, sl', upd q₁ j (N + M + 2), S₁, _, k, c', j, z, rfl, by simpa using hsz, hk, ?_, hL₁, ?_, .inl ⟨v, vs, hL₁.live hs, rfl, hgs0⟩⟩⟩
            · exact (hRd.trans (Rl.at 0 O₁ (w₁.at d) d')).trans (Rl.setChan (Fd.live j _ _ hs).1 _ _ _ _ _ _)
            · rw [Array.empty_append]
              refine Frm.meet (Fd.at d') hs (by simp) (fun y hyj hy0 => ?_) (g' := Go.Conc.served gj undef) ?_ hM.2.2.2 ?_ _ _ _ _
              · rw [Array.getElem?_setIfInBounds_ne (fun e => hy0 e.symm), Array.getElem?_setIfInBounds_ne (fun e => hyj e.symm)]
              · rw [Array.getElem?_setIfInBounds_ne (fun e => hM.1 e.symm), Array.getElem?_setIfInBounds_self_of_lt hjl]
              · rw [hsv]; exact fun O₂ w₂ h => hF O₂ w₂ ((Rl.at _ _ _ _).trans h)
          · obtain rfl : c' = c := hch
            have := hM.ways (z := z)
            rw [hSh'.ways] at this; cases this
        · -- it finds the channel closed
          rw [hops] at hrun
          rcases Fd.way hs z with ⟨c', vs, rfl, hn, _⟩ | ⟨c', v', vs, gj', zj', n', rfl, hM', hF⟩ | ⟨c', m, n', rfl, hSh'⟩
          · obtain rfl : c' = c := hch
            have := hSh.ways (z := z)
            rw [hn.2] at this; cases this
          · obtain rfl : c' = c := hch
            have := hSh.ways (z := z)
            rw [hM'.ways] at this; cases this
          · obtain rfl : c' = c := hch
            have hgs0 : (gs₁.setIfInBounds 0 (g₂.finishComm P cases .select (k : Int) z false))[0]? = some (Go.Conc.served g₂ (commResult cases .select (k : Int) z false)) := by
              rw [Array.getElem?_setIfInBounds_self_of_lt hlt0]; rfl
            refine ⟨_, _, 0, by rw [hstp]; exact hrun, hpos, .inl ⟨_, O₁, _, sl', q₁, S₁, _, k, c', x, z, rfl, by simpa using hsz, hk, hRd.trans (Rl.at 0 O₁ (w₁.at d) d'), hL₁, ?_, .inr ⟨hL₁.shut hs fun _ _ => trivial, rfl, hgs0⟩⟩⟩
            rw [Array.empty_append]
            exact Frm.found (Fd.at d') hs (by simp) (fun y hy0 => Array.getElem?_setIfInBounds_ne (fun e => hy0 e.symm)) _ _
      · -- nobody is there: it is parked
        have hno : ∀ cc ∈ cases, NoWays (w₁.at d) (gs₁.setIfInBounds 0 ph) cc := fun cc hcc => Classical.byContradiction fun h => hne ⟨cc, hcc, h⟩
        have hrun := crowd_waits (sl := sl') hi hcomm hno
        rw [hops] at hrun
        refine ⟨_, _, sumTo gs₁.size q₁ + 0, by rw [hstp]; exact hrun, by simp at hμ; omega, .inr ⟨_, O₁, w₁.at d, sl', q₁, S₁, parked g₂ cases .select, true, rfl, by simpa using hsz, Array.getElem?_setIfInBounds_self_of_lt hlt0, ?_, hL₁, hRd, ?_, by simp⟩⟩
        · rw [Array.append_empty]
          have hu : upd q₁ 0 (q₁ 0) = q₁ := by funext y; by_cases h : y = 0 <;> simp [upd, h]
          have := Fd.put (i := 0) (n' := q₁ 0) (g' := g) (ops := #[]) (O' := O₁) (w' := w₁.at d) (gs' := gs₁.setIfInBounds 0 (parked g₂ cases .select)) (by simp) (fun y hy0 _ => Array.getElem?_setIfInBounds_ne (fun e => hy0 e.symm)) (fun h => absurd rfl h) (fun _ _ => Rl.refl _ _ _) (fun b _ ho => ⟨ho, rfl⟩) (Nat.le_refl _)
            (fun y _ => by rw [Array.append_empty]) hlt0 (fun y c m h => by rw [Array.append_empty]; exact (Fd.shut y c m h).2.2.2) (by rw [Array.append_empty]; exact Fd.flow) (fun g b h => (Fd.rdO g b h).1)
          rw [hu, Array.append_empty] at this
          exact this
        · rw [if_pos rfl]
          refine ⟨rfl, fun c z x s hm hs hch => ?_⟩
          have hn := hno _ hm
          rcases Fd.way hs z with ⟨c', vs, rfl, _, hq⟩ | ⟨c', v, vs, gj, zj, n, rfl, hM, _⟩ | ⟨c', m, n, rfl, hSh⟩
          · obtain rfl : c' = c := hch
            exact ⟨hq, vs, rfl⟩
          · obtain rfl : c' = c := hch
            have := hM.ways (z := z)
            rw [hn.2] at this; cases this
          · obtain rfl : c' = c := hch
            have := hSh.ways (z := z)
            rw [hn.2] at this; cases this
  · -- another's step
    have hi0 : (i == 0) = false := by simp; omega
    have hag : ∀ w', (∀ x c vs, S₁ x = some (.live c vs) → w'.heap[c]? = (w₁.at d).heap[c]?) → a₁.again w' = a₁ := by
      intro w' h
      cases pk with
      | false => exact again_running _ (.inl hpk.1)
      | true =>
        rw [if_pos rfl] at hpk
        rw [hpk.1]
        refine again_calm fun cc hcc => ?_
        rcases hcs₁ cc hcc with hz | ⟨c, z, x, s, rfl, hs, hch⟩
        · exact .inl hz
        · obtain ⟨_, vs, rfl⟩ := hpk.2 c z x s hcc hs hch
          obtain ⟨_, _, _, k, hk⟩ := Fd.live x c vs hs
          exact .inr ⟨c, z, k, rfl, by rw [h x c vs hs]; exact hk⟩
    have hoffP : ∀ c, (∀ (k : Nat) z, cases[k]? ≠ some (rcase c z)) → offersAt (parked g₂ cases .select) c false = [] := by
      intro c hno
      refine offersAt_parked_off (fun cc hcc e => ?_) _
      rcases hcs₁ cc hcc with ⟨z, rfl⟩ | ⟨c', z, x, s, rfl, _, _⟩
      · simp [ncase] at e
      · simp only [rcase, Value.chan.injEq, Option.some.injEq] at e
        subst e
        obtain ⟨k, hk, ek⟩ := Array.mem_iff_getElem.1 hcc
        exact hno k z (by rw [Array.getElem?_eq_getElem hk, ek])
    have hoffA : ∀ (k c : Nat) z, cases[k]? = some (rcase c z) → offersAt (parked g₂ cases .select) c false = [k] := by
      intro k c z hk
      refine offersAt_parked_at hk fun m cc hm hcc e => ?_
      rcases hcs₁ cc (Array.mem_of_getElem? hcc) with ⟨z', rfl⟩ | ⟨c', z', x, s, rfl, _, _⟩
      · simp [ncase] at e
      · simp only [rcase, Value.chan.injEq, Option.some.injEq] at e
        subst e
        exact hm (hap m k _ _ _ hcc hk)
    by_cases hmeet : pk = true ∧ ∃ (k c : Nat) (z v : Value) (vs' : List Value) (g₂' : Goroutine) (z' : Value), S₁ i = some (.live c (v :: vs')) ∧ cases[k]? = some (rcase c z) ∧ (∀ w₁, stepG P false g w₁ = .comm g₂' #[scase c v z'] true .send w₁ #[]) ∧ ∀ O₂ w₂, Rl i O₁ (w₁.at d) O₂ w₂ → Feeds P i (rd i) c N M vs' N (Go.Conc.served g₂' undef) O₂ w₂
    · -- it comes to its send, and goroutine 0 waits there
      obtain ⟨rfl, k, c, z, v, vs', g₂', z', hs, hk, hsend, hF⟩ := hmeet
      rw [if_pos rfl] at hpk
      obtain ⟨rfl, hpk2⟩ := hpk
      obtain ⟨_, _, _, n, hc⟩ := Fd.live i c _ hs
      have hp : partners (gs₁.setIfInBounds i ph) c false = [(0, k)] := by
        rw [partners_one (stand_get (Ne.symm ei) ha₁) fun x y hx0 hy => ?_, hoffA k c z hk]
        · rfl
        · rcases getElem?_stand gs₁ i x y hy with ⟨_, rfl⟩ | ⟨_, hy'⟩
          · exact offersAt_ph _ _
          · have h := Fd.idle x y hx0 hy'
            cases e : S₁ x with
            | none => rw [e] at h; exact offersAt_of_not_blocked (fun hb => by rcases QuitsD.status h with z | z <;> rw [z] at hb <;> cases hb) c false
            | some s =>
              rw [e] at h
              cases s with
              | live c' vs'' =>
                rcases h with ⟨k', hn, h⟩ | ⟨hn, v', vs'', g', z', h1, h2, h3⟩
                · exact offersAt_of_not_blocked (fun hb => by rw [h.running] at hb; cases hb) c false
                · rw [h2]; exact offersAt_parked_send' _ _ _ _ _ _
              | shut c' m => exact offersAt_of_not_blocked (fun hb => by rcases QuitsD.status h with z | z <;> rw [z] at hb <;> cases hb) c false
      have hrun := crowd_send_meets_sel (sl := sl') hi (by rw [hi0]; exact hsend (w₁.at d)) hc (Ne.symm ei) ha₁ hk hp
      have hops : MemOp.ofEvents i g.frame.fn g.frame.place #[] = #[] := by simp [MemOp.ofEvents]
      rw [hops] at hrun
      have hil : i < gs₁.size := (Fd.pos i _ hs).2
      have hq0 : 0 < q₁ i := (hpk2 c z i _ (Array.mem_of_getElem? hk) hs rfl).1
      refine ⟨_, _, 0, by rw [hstp]; exact hrun, by have := le_sumTo (f := q₁) hil; omega, .inl ⟨_, O₁, _, sl', upd q₁ i (N + M + 2), S₁, _, k, c, i, z, rfl, by simpa using hsz, hk, hRd.trans (Rl.setChan (Fd.live i _ _ hs).1 _ _ _ _ _ _), hL₁, ?_, .inl ⟨v, vs', hL₁.live hs, rfl, ?_⟩⟩⟩
      · rw [Array.empty_append]
        refine Frm.meet Fd hs (by simp) (fun y hyj hy0 => ?_) (g' := Go.Conc.served g₂' undef) ?_ hc hF _ _ _ _
        · rw [Array.getElem?_setIfInBounds_ne (fun e => hyj e.symm), Array.getElem?_setIfInBounds_ne (fun e => hy0 e.symm)]
        · rw [Array.getElem?_setIfInBounds_self_of_lt (by simpa using hil), finishComm_send]
      · rw [Array.getElem?_setIfInBounds_ne ei, Array.getElem?_setIfInBounds_self_of_lt hlt0]; rfl
    · have key : Stepped1 P N M rd S₁ O₁ t gs₁ (w₁.at d) sl' q₁ i a₁ := by
        have hlv : (∃ c vs, S₁ i = some (.live c vs)) ∨ ∀ c vs, S₁ i ≠ some (.live c vs) := by
          by_cases h : ∃ c vs, S₁ i = some (.live c vs)
          · exact .inl h
          · exact .inr fun c vs h' => h ⟨c, vs, h'⟩
        rcases hlv with ⟨c, vs, hS⟩ | hn
        · refine Fd.sender ha₁ hi ei hg hS (fun w' h _ => hag w' h) fun v vs' g₂' z' hvs hsend hF => ?_
          cases pk with
          | false => exact offersAt_of_not_blocked (by have := hpk.1; rw [this]; simp) _ _
          | true =>
            rw [if_pos rfl] at hpk
            rw [hpk.1]
            refine hoffP c fun k z hk => hmeet ⟨rfl, k, c, z, v, vs', g₂', z', by rw [hS, hvs], hk, hsend, hF⟩
        · exact Fd.leaver ha₁ hi ei hg hn (hag _ fun _ _ _ _ => rfl)
      obtain ⟨gs', ops, q', O', w', S', a', hrt, hsz', ha', F', hrl, hqo, hqi, hcase⟩ := key
      have hR' : Rl 0 O w O' w' := hRd.trans hrl
      rcases hcase with ⟨rfl, rfl, hlt⟩ | ⟨c, m, hS, rfl, rfl, hlt, _⟩
      · refine ⟨_, _, sumTo gs'.size q' + (if pk then 0 else 1), by rw [hstp]; exact hrt, by rw [hsz']; omega, .inr ⟨gs', O', w', sl', q', S', a', pk, rfl, hsz'.trans hsz, ha', F', hL₁, hR', ?_, rfl⟩⟩
        cases pk with
        | false => exact hpk
        | true =>
          rw [if_pos rfl] at hpk ⊢
          refine ⟨hpk.1, fun c z x s hm hs hch => ?_⟩
          obtain ⟨h1, vs, rfl⟩ := hpk.2 c z x s hm hs hch
          refine ⟨?_, vs, rfl⟩
          by_cases ex : x = i
          · subst ex
            refine Nat.pos_of_ne_zero fun hz => ?_
            have := hqi hz c vs hs
            obtain ⟨k, hk, ek⟩ := Array.mem_iff_getElem.1 hm
            rw [hpk.1, hoffA k c z (by rw [Array.getElem?_eq_getElem hk, ek])] at this
            cases this
          · rw [hqo x ex]; exact h1
      · have hL' := hL₁.trans (Later.upd (m := m) hS)
        cases pk with
        | false =>
          rw [again_running _ (.inl hpk.1)] at ha'
          exact ⟨_, _, sumTo gs'.size q' + 1, by rw [hstp]; exact hrt, by rw [hsz']; simp at hμ; omega, .inr ⟨gs', O', w', sl', q', _, a₁, false, rfl, hsz'.trans hsz, ha', F', hL', hR', hpk, rfl⟩⟩
        | true =>
          rw [if_pos rfl] at hpk
          obtain ⟨rfl, hpk2⟩ := hpk
          rcases again_or (g := g₂) (cs := cases) (sh := .select) (w := w') with e | ⟨e, hnc⟩
          · rw [e] at ha'
            exact ⟨_, _, sumTo gs'.size q' + 1, by rw [hstp]; exact hrt, by rw [hsz']; simp at hμ; omega, .inr ⟨gs', O', w', sl', q', _, _, false, rfl, hsz'.trans hsz, ha', F', hL', hR', hA.tries, rfl⟩⟩
          · rw [e] at ha'
            refine ⟨_, _, sumTo gs'.size q' + 0, by rw [hstp]; exact hrt, by rw [hsz']; simp at hμ; omega, .inr ⟨gs', O', w', sl', q', _, _, true, rfl, hsz'.trans hsz, ha', F', hL', hR', ?_, rfl⟩⟩
            rw [if_pos rfl]
            refine ⟨rfl, fun c' z x s hm hs hch => ?_⟩
            by_cases ex : x = i
            · subst ex
              rw [upd_same] at hs
              injection hs with hs
              subst hs
              obtain rfl : c = c' := hch
              obtain ⟨_, _, ⟨k, hk⟩, _⟩ := F'.shut x c m (upd_same _ _ _)
              exact absurd hk (hnc c z k hm)
            · rw [upd_ne _ _ ex] at hs
              rw [hqo x ex]
              exact hpk2 c' z x s hm hs hch
end
end Go.Spring
