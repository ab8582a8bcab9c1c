/- What one operation may list and turn, whatever it is offered; its answers hang on the tape alone, where it draws. -/
import Derived.Conc.Beside
import Derived.Orders
set_option linter.unusedVariables false
set_option linter.unusedSimpArgs false
namespace Go.Lone
open Go.Conc

/-- An entry that says no word of the library's but 'no room', and asks nothing of the world outside; what it ends with meets ok. -/
def Mild {α : Type} (P : Program) (ok : α → Prop) : Sem α → Prop
  | .pure a => ok a
  | .load _ _ k => ∀ v, Mild P ok (k v)
  | .store _ _ _ k => Mild P ok k
  | .new _ k => ∀ r, Mild P ok (k r)
  | .shape _ k => ∀ x, Mild P ok (k x)
  | .freeze _ _ k => Mild P ok k
  | .frozen _ k => ∀ x, Mild P ok (k x)
  | .getObj _ k => ∀ x, Mild P ok (k x)
  | .setObj _ _ k => Mild P ok k
  | .choose _ k => ∀ n, Mild P ok (k n)
  | .sys _ _ => False
  | .program k => Mild P ok (k P)
  | .mark m k => m = .noRoom ∧ Mild P ok k
  | .halt _ => True
theorem Mild.mono {α : Type} {P : Program} {ok ok' : α → Prop} (h : ∀ a, ok a → ok' a) : ∀ {s : Sem α}, Mild P ok s → Mild P ok' s := by
  intro s
  induction s with
  | pure a => exact h a
  | load m a k ih => exact fun q v => ih v (q v)
  | store m a v k ih => exact fun q => ih q
  | new o k ih => exact fun q r => ih r (q r)
  | shape r k ih => exact fun q x => ih x (q x)
  | freeze a n k ih => exact fun q => ih q
  | frozen a k ih => exact fun q x => ih x (q x)
  | getObj r k ih => exact fun q x => ih x (q x)
  | setObj r o k ih => exact fun q => ih q
  | choose q k ih => exact fun q x => ih x (q x)
  | sys c k ih => exact fun q => q
  | program k ih => exact fun q => ih P q
  | mark m k ih => exact fun q => ⟨q.1, ih q.2⟩
  | halt x => exact fun _ => trivial
theorem Mild.bindP {α β : Type} {P : Program} {okA : α → Prop} {ok : β → Prop} {f : α → Sem β} (hf : ∀ a, okA a → Mild P ok (f a)) : ∀ {s : Sem α}, Mild P okA s → Mild P ok (s.bind f) := by
  intro s
  induction s with
  | pure a => exact fun q => hf a q
  | load m a k ih => exact fun q v => ih v (q v)
  | store m a v k ih => exact fun q => ih q
  | new o k ih => exact fun q r => ih r (q r)
  | shape r k ih => exact fun q x => ih x (q x)
  | freeze a n k ih => exact fun q => ih q
  | frozen a k ih => exact fun q x => ih x (q x)
  | getObj r k ih => exact fun q x => ih x (q x)
  | setObj r o k ih => exact fun q => ih q
  | choose q k ih => exact fun q x => ih x (q x)
  | sys c k ih => exact fun q => q.elim
  | program k ih => exact fun q => ih P q
  | mark m k ih => exact fun q => ⟨q.1, ih q.2⟩
  | halt x => exact fun _ => trivial
abbrev Any {α : Type} : α → Prop := fun _ => True
theorem Mild.bind {α β : Type} {P : Program} {ok : β → Prop} {s : Sem α} {f : α → Sem β} (h : Mild P Any s) (hf : ∀ a, Mild P ok (f a)) : Mild P ok (s >>= f) := Mild.bindP (fun a _ => hf a) h
theorem Mild.ret {α : Type} {P : Program} {ok : α → Prop} {a : α} (h : ok a) : Mild P ok (Pure.pure a : Sem α) := h
theorem Mild.ret' {α : Type} {P : Program} {a : α} : Mild P Any (Pure.pure a : Sem α) := trivial

def resW {α : Type} : Result α → World
  | .ok _ w => w
  | .halt _ w => w
/-- The world behind is the world ahead but for its memory and the count of draws; no block goes. -/
def Sim (w w' : World) : Prop := w.heap.size ≤ w'.heap.size ∧ ∃ d h, w' = { w with heap := h, drawn := d }
theorem Sim.refl (w : World) : Sim w w := ⟨Nat.le_refl _, w.drawn, w.heap, rfl⟩
theorem Sim.trans {a b c : World} (h : Sim a b) (k : Sim b c) : Sim a c := by
  obtain ⟨h1, d, hp, rfl⟩ := h
  obtain ⟨k1, d', hp', rfl⟩ := k
  exact ⟨Nat.le_trans h1 k1, d', hp', rfl⟩
theorem Sim.heap {w : World} {h : Array Obj} (e : w.heap.size ≤ h.size) : Sim w { w with heap := h } := ⟨e, w.drawn, h, rfl⟩

abbrev NoShun : Loc → Prop := fun _ => False
abbrev Evs (B : Nat) (es : Array Event) : Prop := ∀ e ∈ es, EvL NoShun B e
theorem Evs.mono {B B' : Nat} {es : Array Event} (h : Evs B es) (hB : B ≤ B') : Evs B' es := fun e he => ⟨(h e he).1, (h e he).2.1, (h e he).2.2.1, MemAct.low_mono hB (h e he).2.2.2⟩
theorem Evs.push {B : Nat} {es : Array Event} {e : Event} (h : Evs B es) (he : EvL NoShun B e) : Evs B (es.push e) := fun x hx => by
  rcases Array.mem_push.1 hx with hx | rfl
  · exact h x hx
  · exact he
theorem Evs.app {B : Nat} {es fs : Array Event} (h : Evs B es) (he : Evs B fs) : Evs B (es ++ fs) := fun x hx => by
  rcases Array.mem_append.1 hx with hx | hx
  · exact h x hx
  · exact he x hx
theorem evL_c {B : Nat} (a : Addr) (wr s : Bool) (hB : a.block < B) : EvL NoShun B ⟨.cell a, wr, s⟩ := by
  refine ⟨fun _ _ hs => hs.elim, by simp, by simp, ?_⟩
  rw [ofEvent_cell0]; exact hB
theorem evL_o {B : Nat} (r : Nat) (wr s : Bool) (hB : r < B) : EvL NoShun B ⟨.obj r, wr, s⟩ := by
  refine ⟨fun _ _ hs => hs.elim, by simp, by simp, ?_⟩
  cases wr <;> cases s <;> exact hB
theorem evL_n {B : Nat} : EvL NoShun B ⟨.mark .noRoom, false, true⟩ := ⟨fun _ _ hs => hs.elim, by simp, by simp, trivial⟩
theorem cell_lt {w : World} {a : Addr} {v : Value} (h : w.cell? a = some v) : a.block < w.heap.size := by
  unfold World.cell? at h
  rcases Nat.lt_or_ge a.block w.heap.size with hb | hb
  · exact hb
  · simp only [Array.getElem?_eq_none hb] at h
    cases h
theorem seen_lt {p : Program} {w : World} {a k : Addr} {u : TypeId} {t : Bool} {x} (h : w.seen p a u k t = .ok x) : a.block < w.heap.size := by
  unfold World.seen at h
  rcases Nat.lt_or_ge a.block w.heap.size with hb | hb
  · exact hb
  · exfalso
    simp only [Array.getElem?_eq_none hb, bind, Except.bind, throw, throwThe, MonadExceptOf.throw, pure, Except.pure] at h
    repeat' (split at h)
    all_goals cases h
theorem viewLoad_low {p : Program} {w : World} {a k : Addr} {u : TypeId} {t : Bool} {v : Value} {l : List Addr} (h : w.viewLoad p a u k t = .ok (v, l)) : ∀ x ∈ l, x.block < w.heap.size := by
  unfold World.viewLoad at h
  simp only [bind, Except.bind] at h
  split at h
  · cases h
  · rename_i y hy
    have hlt := seen_lt hy
    simp only [throw, throwThe, MonadExceptOf.throw, pure, Except.pure] at h
    split at h
    · cases h
      intro x hx
      obtain ⟨z, _, rfl⟩ := List.mem_map.1 hx
      exact hlt
    · cases h
theorem viewStore_low {p : Program} {w w' : World} {a k : Addr} {u : TypeId} {t : Bool} {v : Value} {l : List Addr} (h : w.viewStore p a u k v t = .ok (w', l)) : (∀ x ∈ l, x.block < w.heap.size) ∧ ∃ o, w' = { w with heap := w.heap.setIfInBounds a.block o } := by
  unfold World.viewStore at h
  simp only [bind, Except.bind, throw, throwThe, MonadExceptOf.throw, pure, Except.pure] at h
  cases hs : w.seen p a u k t with
  | error e => 
    simp only [hs] at h
    repeat' (split at h)
    all_goals cases h
  | ok y =>
    have hlt := seen_lt hs
    simp only [hs] at h
    repeat' (split at h)
    all_goals try cases h
    all_goals
      refine ⟨fun x hx => ?_, _, rfl⟩
      obtain ⟨z, _, rfl⟩ := List.mem_map.1 hx
      exact hlt
theorem farLoad_low {p : Program} {w : World} {a : Addr} {t : Bool} {v : Value} {l : List Addr} (h : w.farLoad p a t = .ok (v, l)) : ∀ x ∈ l, x.block < w.heap.size := by
  unfold World.farLoad at h
  split at h
  · split at h
    · rename_i r hr; cases h; exact viewLoad_low hr
    · cases h
  · cases h
theorem farStore_low {p : Program} {w w' : World} {a : Addr} {v : Value} {t : Bool} {l : List Addr} (h : w.farStore p a v t = .ok (w', l)) : (∀ x ∈ l, x.block < w.heap.size) ∧ ∃ b o, w' = { w with heap := w.heap.setIfInBounds b o } := by
  unfold World.farStore at h
  split at h
  · split at h
    · rename_i r hr; cases h; obtain ⟨h1, o, h2⟩ := viewStore_low hr; exact ⟨h1, _, o, h2⟩
    · cases h
  · cases h
theorem setCell_sim {w : World} {a : Addr} {v : Value} : ∃ h, w.setCell a v = { w with heap := h } ∧ h.size = w.heap.size := by
  unfold World.setCell
  exact ⟨_, rfl, by simp⟩
theorem freeze_sim {w : World} {a : Addr} {n : Nat} : ∃ h, w.freeze a n = { w with heap := h } ∧ h.size = w.heap.size := by
  unfold World.freeze
  split
  · exact ⟨_, rfl, rfl⟩
  · exact ⟨_, rfl, by simp⟩
/-- WHAT IT LISTS. -/
theorem Mild.events {α : Type} {P : Program} {ok : α → Prop} : ∀ {s : Sem α}, Mild P ok s → ∀ (w : World) (es : Array Event), Evs w.heap.size es → Sim w (resW (s.run P w)) ∧ Evs (resW (s.run P w)).heap.size (s.events P w es) ∧ ∀ a w', s.run P w = .ok a w' → ok a := by
  intro s
  induction s with
  | pure a => exact fun q w es h => ⟨Sim.refl w, h, fun b w' e => by cases e; exact q⟩
  | load m a k ih =>
    intro q w es h
    unfold Sem.events
    simp only [Sem.run, Sem.runT]
    split
    · rename_i v hv
      exact ih v (q v) w _ (h.push (evL_c a false _ (cell_lt hv)))
    · cases hf : w.farLoad P a (m == .atomic) with
      | ok r =>
        obtain ⟨v, l⟩ := r
        refine ih v (q v) w _ (h.app fun e he => ?_)
        obtain ⟨x, hx, rfl⟩ := Array.mem_map.1 he
        exact evL_c x false _ (farLoad_low hf x (by simpa using hx))
      | error x => exact ⟨Sim.refl w, h, fun b w' e => by cases e⟩
  | store m a v k ih =>
    intro q w es h
    unfold Sem.events
    cases v with
    | agg c => exact ⟨Sim.refl w, h, fun b w' e => by cases e⟩
    | tuple c => exact ⟨Sim.refl w, h, fun b w' e => by cases e⟩
    | _ =>
      simp only [Sem.run, Sem.runT]
      split
      · rename_i v hv
        split
        · exact ⟨Sim.refl w, h, fun b w' e => by cases e⟩
        · obtain ⟨hp, e1, e2⟩ := setCell_sim (w := w) (a := a) (v := _)
          rw [e1]
          have h' : Evs hp.size es := by rw [e2]; exact h
          obtain ⟨g1, g2, g3⟩ := ih q { w with heap := hp } _ (h'.push (evL_c a true (m == .atomic) (by rw [e2]; exact cell_lt hv)))
          exact ⟨(Sim.heap (by rw [e2]; exact Nat.le_refl _)).trans g1, g2, g3⟩
      · split
        · rename_i w' l hf
          obtain ⟨hl, b, o, rfl⟩ := farStore_low hf
          have e2 : (w.heap.setIfInBounds b o).size = w.heap.size := by simp
          have h' : Evs (w.heap.setIfInBounds b o).size es := by rw [e2]; exact h
          obtain ⟨g1, g2, g3⟩ := ih q { w with heap := w.heap.setIfInBounds b o } _ (h'.app (fs := l.toArray.map (⟨.cell ·, true, m == .atomic⟩)) fun e he => by
            obtain ⟨x, hx, rfl⟩ := Array.mem_map.1 he
            exact evL_c x true _ (by rw [e2]; exact hl x (by simpa using hx)))
          exact ⟨(Sim.heap (by rw [e2]; exact Nat.le_refl _)).trans g1, g2, g3⟩
        · exact ⟨Sim.refl w, h, fun b w' e => by cases e⟩
  | new o k ih =>
    intro q w es h
    have h' : Evs (w.heap.push o).size es := h.mono (by simp)
    obtain ⟨g1, g2, g3⟩ := ih w.heap.size (q _) { w with heap := w.heap.push o } _ h'
    exact ⟨(Sim.heap (by simp)).trans g1, g2, g3⟩
  | shape r k ih => exact fun q w es h => ih _ (q _) w es h
  | freeze a n k ih =>
    intro q w es h
    unfold Sem.events
    simp only [Sem.run, Sem.runT]
    obtain ⟨hp, e1, e2⟩ := freeze_sim (w := w) (a := a) (n := n)
    rw [e1]
    have h' : Evs hp.size es := by rw [e2]; exact h
    obtain ⟨g1, g2, g3⟩ := ih q { w with heap := hp } _ h'
    exact ⟨(Sim.heap (by rw [e2]; exact Nat.le_refl _)).trans g1, g2, g3⟩
  | frozen a k ih => exact fun q w es h => ih _ (q _) w es h
  | getObj r k ih =>
    intro q w es h
    unfold Sem.events
    simp only [Sem.run, Sem.runT]
    split
    · exact ⟨Sim.refl w, h, fun b w' e => by cases e⟩
    · rename_i o ho
      refine ih _ (q _) w _ (h.push (evL_o r false _ ?_))
      exact (Array.getElem?_eq_some_iff.1 (by assumption)).1
    · exact ⟨Sim.refl w, h, fun b w' e => by cases e⟩
  | setObj r o k ih =>
    intro q w es h
    unfold Sem.events
    simp only [Sem.run, Sem.runT]
    split
    · exact ⟨Sim.refl w, h, fun b w' e => by cases e⟩
    · rename_i o' ho' ho
      have hlt := (Array.getElem?_eq_some_iff.1 ho).1
      have e2 : (w.heap.setIfInBounds r o).size = w.heap.size := by simp
      have h' : Evs (w.heap.setIfInBounds r o).size es := by rw [e2]; exact h
      obtain ⟨g1, g2, g3⟩ := ih q { w with heap := w.heap.setIfInBounds r o } _ (h'.push (evL_o r true o.isChan (by rw [e2]; exact hlt)))
      exact ⟨(Sim.heap (by rw [e2]; exact Nat.le_refl _)).trans g1, g2, g3⟩
    · exact ⟨Sim.refl w, h, fun b w' e => by cases e⟩
  | choose c k ih =>
    intro q w es h
    unfold Sem.events
    simp only [Sem.run, Sem.runT]
    split
    · exact ih _ (q _) w es h
    · obtain ⟨g1, g2, g3⟩ := ih _ (q _) { w with drawn := w.drawn + 1 } es h
      exact ⟨Sim.trans ⟨Nat.le_refl _, _, _, rfl⟩ g1, g2, g3⟩
  | sys c k ih => exact fun q => q.elim
  | program k ih => exact fun q w es h => ih P q w es h
  | mark m k ih =>
    intro q w es h
    obtain ⟨rfl, q⟩ := q
    exact ih q w _ (h.push evL_n)
  | halt x => exact fun _ w es h => ⟨Sim.refl w, h, fun b w' e => by cases e⟩
/-- The same world on another tape, after so many draws. -/
def tp (w : World) (τ : Tape) (d : Nat) : World := { w with tape := τ, drawn := d }
def resMap {α : Type} (f : World → World) : Result α → Result α
  | .ok a w => .ok a (f w)
  | .halt h w => .halt h (f w)
theorem viewStore_tp {p : Program} {w : World} {a b : Addr} {u : TypeId} {v : Value} {t : Bool} (τ : Tape) (d : Nat) : (tp w τ d).viewStore p b u a v t = (w.viewStore p b u a v t).map fun x => (tp x.1 τ d, x.2) := by
  have hs : (tp w τ d).seen p b u a t = w.seen p b u a t := rfl
  unfold World.viewStore
  rw [hs]
  generalize w.seen p b u a t = y
  simp only [bind, Except.bind, throw, throwThe, MonadExceptOf.throw, pure, Except.pure]
  cases tight p p.depth u with
  | false => rfl
  | true =>
    cases y with
    | error e => rfl
    | ok y =>
      obtain ⟨c, e, fr, first, like, cells⟩ := y
      cases v.bytes? with
      | none => rfl
      | some bytes =>
        simp only [Bool.not_true, Bool.false_eq_true, if_false]
        split
        · rfl
        · generalize (List.foldlM _ _ _ : Except String (Array Value)) = z
          cases z <;> rfl
theorem farStore_tp {p : Program} {w : World} {a : Addr} {v : Value} {t : Bool} (τ : Tape) (d : Nat) : (tp w τ d).farStore p a v t = (w.farStore p a v t).map fun x => (tp x.1 τ d, x.2) := by
  unfold World.farStore
  have hh : (tp w τ d).heap = w.heap := rfl
  simp only [hh]
  split
  · rename_i b u _
    rw [viewStore_tp]
    cases w.viewStore p b u a v t <;> rfl
  · rfl
/-- WHAT IT DRAWS IS ALL THAT IT ASKS OF THE TAPE. -/
theorem Mild.shift {α : Type} {P : Program} {ok : α → Prop} : ∀ {s : Sem α}, Mild P ok s → ∀ w : World, ∃ c, (resW (s.run P w)).drawn = w.drawn + c ∧ (resW (s.run P w)).tape = w.tape ∧
    ∀ (τ : Tape) (d : Nat), (∀ j q, j < c → τ (d + j) q = w.tape (w.drawn + j) q) → s.run P (tp w τ d) = resMap (fun x => tp x τ (d + c)) (s.run P w) := by
  intro s
  induction s with
  | pure a => exact fun q w => ⟨0, rfl, rfl, fun τ d h => rfl⟩
  | load m a k ih =>
    intro q w
    have hc : ∀ τ d, (tp w τ d).cell? a = w.cell? a := fun _ _ => rfl
    simp only [Sem.run, hc]
    split
    · rename_i v hv
      exact ih v (q v) w
    · have hf : ∀ τ d, (tp w τ d).farLoad P a (m == .atomic) = w.farLoad P a (m == .atomic) := fun _ _ => rfl
      simp only [hf]
      split
      · exact ih _ (q _) w
      · exact ⟨0, rfl, rfl, fun τ d h => rfl⟩
  | store m a v k ih =>
    intro q w
    have h0 : ∀ x : Halt, ∃ c, (resW (.halt x w : Result α)).drawn = w.drawn + c ∧ (resW (.halt x w : Result α)).tape = w.tape ∧ ∀ (τ : Tape) (d : Nat), (∀ j q, j < c → τ (d + j) q = w.tape (w.drawn + j) q) → (.halt x (tp w τ d) : Result α) = resMap (fun x => tp x τ (d + c)) (.halt x w : Result α) := fun x => ⟨0, rfl, rfl, fun _ _ _ => rfl⟩
    have gen : ∀ v, (∀ w, (Sem.store m a v k).run P w = match w.cell? a with
        | some _ => if w.frozen? a then .halt (.unsupported (.unsafePointer "a write to bytes that a string shares")) w else k.run P (w.setCell a v)
        | none => match w.farStore P a v (m == .atomic) with
          | .ok (w, _) => k.run P w
          | .error h => .halt h w) → ∃ c, (resW ((Sem.store m a v k).run P w)).drawn = w.drawn + c ∧ (resW ((Sem.store m a v k).run P w)).tape = w.tape ∧
            ∀ (τ : Tape) (d : Nat), (∀ j q, j < c → τ (d + j) q = w.tape (w.drawn + j) q) → (Sem.store m a v k).run P (tp w τ d) = resMap (fun x => tp x τ (d + c)) ((Sem.store m a v k).run P w) := by
      intro v hr
      have hc : ∀ τ d, (tp w τ d).cell? a = w.cell? a := fun _ _ => rfl
      have hz : ∀ τ d, (tp w τ d).frozen? a = w.frozen? a := fun _ _ => rfl
      simp only [hr, hc, hz]
      split
      · split
        · exact h0 _
        · have hs : ∀ τ d, (tp w τ d).setCell a v = tp (w.setCell a v) τ d := fun τ d => rfl
          obtain ⟨c, h1, h2, h3⟩ := ih q (w.setCell a v)
          obtain ⟨hp, e1, _⟩ := setCell_sim (w := w) (a := a) (v := v)
          refine ⟨c, h1.trans (by rw [e1]), h2.trans (by rw [e1]), fun τ d h => ?_⟩
          rw [hs]
          exact h3 τ d (by rw [e1]; exact h)
      · simp only [farStore_tp]
        cases hw : w.farStore P a v (m == .atomic) with
        | error x => exact h0 _
        | ok r =>
          obtain ⟨w', l⟩ := r
          obtain ⟨_, b, o, rfl⟩ := farStore_low hw
          obtain ⟨c, h1, h2, h3⟩ := ih q { w with heap := w.heap.setIfInBounds b o }
          exact ⟨c, h1, h2, fun τ d h => h3 τ d h⟩
    cases v with
    | agg c => exact h0 _
    | tuple c => exact h0 _
    | _ => exact gen _ fun w => rfl
  | new o k ih =>
    intro q w
    obtain ⟨c, h1, h2, h3⟩ := ih w.heap.size (q _) { w with heap := w.heap.push o }
    exact ⟨c, h1, h2, fun τ d h => h3 τ d h⟩
  | shape r k ih => exact fun q w => ih _ (q _) w
  | freeze a n k ih =>
    intro q w
    have hs : ∀ τ d, (tp w τ d).freeze a n = tp (w.freeze a n) τ d := fun τ d => by unfold World.freeze; split <;> rfl
    simp only [Sem.run, hs]
    obtain ⟨c, h1, h2, h3⟩ := ih q (w.freeze a n)
    obtain ⟨hp, e1, _⟩ := freeze_sim (w := w) (a := a) (n := n)
    exact ⟨c, h1.trans (by rw [e1]), h2.trans (by rw [e1]), fun τ d h => h3 τ d (by rw [e1]; exact h)⟩
  | frozen a k ih => exact fun q w => ih _ (q _) w
  | getObj r k ih =>
    intro q w
    simp only [Sem.run]
    have hh : ∀ τ d, (tp w τ d).heap = w.heap := fun _ _ => rfl
    simp only [hh]
    split
    · exact ⟨0, rfl, rfl, fun _ _ _ => rfl⟩
    · exact ih _ (q _) w
    · exact ⟨0, rfl, rfl, fun _ _ _ => rfl⟩
  | setObj r o k ih =>
    intro q w
    simp only [Sem.run]
    have hh : ∀ τ d, (tp w τ d).heap = w.heap := fun _ _ => rfl
    simp only [hh]
    split
    · exact ⟨0, rfl, rfl, fun _ _ _ => rfl⟩
    · obtain ⟨c, h1, h2, h3⟩ := ih q { w with heap := w.heap.setIfInBounds r o }
      exact ⟨c, h1, h2, fun τ d h => h3 τ d h⟩
    · exact ⟨0, rfl, rfl, fun _ _ _ => rfl⟩
  | choose c k ih =>
    intro q w
    simp only [Sem.run]
    split
    · exact ih _ (q _) w
    · obtain ⟨n, h1, h2, h3⟩ := ih (c.cut (w.tape w.drawn c)) (q _) { w with drawn := w.drawn + 1 }
      refine ⟨n + 1, by rw [h1]; simp; omega, h2, fun τ d h => ?_⟩
      have e0 : (tp w τ d).tape (tp w τ d).drawn c = w.tape w.drawn c := h 0 c (by omega)
      rw [e0]
      have := h3 τ (d + 1) fun j q hj => by
        have := h (j + 1) q (by omega)
        rw [show d + 1 + j = d + (j + 1) by omega, this]
        simp only [show w.drawn + (j + 1) = w.drawn + 1 + j by omega]
      rw [show d + (n + 1) = d + 1 + n by omega]
      exact this
  | sys c k ih => exact fun q => q.elim
  | program k ih => exact fun q w => ih P q w
  | mark m k ih => exact fun q w => ih q.2 w
  | halt x => exact fun _ w => ⟨0, rfl, rfl, fun _ _ _ => rfl⟩
end Go.Lone
