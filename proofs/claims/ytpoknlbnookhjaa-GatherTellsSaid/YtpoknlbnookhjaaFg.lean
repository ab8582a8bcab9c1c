/- A machine in which goroutine 0 gathers from senders that run beside it, each over an unbuffered channel of its own, each of which ends by closing it; all others only leave. Who owns which block; one goroutine's walk beside the others; the frame. -/
import Derived.Test.YtpoknlbnookhjaaFs
set_option linter.unusedVariables false
set_option linter.unusedSimpArgs false
namespace Go.Spring
open Go.Conc
open Go.ConcN (sumTo upd sumTo_upd upd_ne upd_same le_sumTo)

/-- The others' doing, as goroutine i sees it: what nobody writes, and what is its own, stays. -/
structure Rl (i : Nat) (O : Nat → Own) (w : World) (O₁ : Nat → Own) (w₁ : World) : Prop where
  size : w.heap.size ≤ w₁.heap.size
  own : ∀ b, b < w.heap.size → (O b = .still → O₁ b = .still) ∧ (O b = .of i → O₁ b = .of i)
  keep : ∀ b, b < w.heap.size → O b = .still ∨ O b = .of i → w₁.heap[b]? = w.heap[b]?
  rest : ∃ d h, w₁ = { w with heap := h, drawn := d }
theorem Rl.refl (i : Nat) (O : Nat → Own) (w : World) : Rl i O w O w := ⟨Nat.le_refl _, fun b _ => ⟨id, id⟩, fun _ _ _ => rfl, w.drawn, w.heap, rfl⟩
theorem Rl.trans {i : Nat} {O O₁ O₂ : Nat → Own} {w w₁ w₂ : World} (h : Rl i O w O₁ w₁) (k : Rl i O₁ w₁ O₂ w₂) : Rl i O w O₂ w₂ := by
  refine ⟨Nat.le_trans h.size k.size, fun b hb => ?_, fun b hb ho => ?_, ?_⟩
  · have hb' := Nat.lt_of_lt_of_le hb h.size
    exact ⟨fun e => (k.own b hb').1 ((h.own b hb).1 e), fun e => (k.own b hb').2 ((h.own b hb).2 e)⟩
  · have hb' := Nat.lt_of_lt_of_le hb h.size
    rw [k.keep b hb' (ho.imp (h.own b hb).1 (h.own b hb).2), h.keep b hb ho]
  · obtain ⟨d, hh, e⟩ := h.rest
    obtain ⟨d', hh', e'⟩ := k.rest
    exact ⟨d', hh', by rw [e', e]⟩
theorem Rl.at (i : Nat) (O : Nat → Own) (w : World) (d : Nat) : Rl i O w O (w.at d) := ⟨Nat.le_refl _, fun b _ => ⟨id, id⟩, fun _ _ _ => rfl, d, w.heap, rfl⟩
theorem Rl.setChan {i : Nat} {O : Nat → Own} {w : World} {c : Nat} (hc : O c = .chan) (cap : Nat) (buf : Array Value) (cl : Bool) (s r : Nat) (tm : Bool) : Rl i O w O (w.setChan c cap buf cl s r tm) := by
  refine ⟨by simp [World.setChan], fun b _ => ⟨id, id⟩, fun b _ ho => ?_, w.drawn, _, rfl⟩
  have : c ≠ b := by
    rintro rfl
    rw [hc] at ho
    rcases ho with h | h <;> cases h
  exact heap_setChan_ne w _ _ _ _ _ _ this

/-- What is new is the maker's. -/
def ext (O : Nat → Own) (w : World) (i : Nat) : Nat → Own := fun b => if b < w.heap.size then O b else .of i
theorem ext_old {O : Nat → Own} {w : World} {i b : Nat} (h : b < w.heap.size) : ext O w i b = O b := if_pos h
theorem ext_new {O : Nat → Own} {w : World} {i b : Nat} (h : w.heap.size ≤ b) : ext O w i b = .of i := if_neg (by omega)

/-- What a step lists: plain or atomic touches of cells: of its own blocks, or reads of such as nobody writes. -/
def EvF (i : Nat) (rd : Nat → Prop) (O : Nat → Own) (B : Nat) (e : Event) : Prop :=
  (∃ a wr s, e = ⟨.cell a, wr, s⟩ ∧ a.block < B ∧ (O a.block = .of i ∨ (wr = false ∧ ((i = 0 ∧ O a.block = .still) ∨ rd a.block)))) ∨ e = ⟨.mark .noRoom, false, true⟩
/-- What a step of goroutine i's does. -/
structure Gd (i : Nat) (rd : Nat → Prop) (O : Nat → Own) (w w' : World) (es : Array Event) : Prop where
  size : w.heap.size ≤ w'.heap.size
  keep : ∀ b, b < w.heap.size → O b ≠ .of i → w'.heap[b]? = w.heap[b]?
  rest : ∃ d h, w' = { w with heap := h, drawn := d }
  evs : ∀ e ∈ es, EvF i rd (ext O w i) w'.heap.size e
theorem Gd.rl {i j : Nat} {rd : Nat → Prop} {O : Nat → Own} {w w' : World} {es : Array Event} (h : Gd j rd O w w' es) (hij : i ≠ j) : Rl i O w (ext O w j) w' := by
  refine ⟨h.size, fun b hb => by rw [ext_old hb]; exact ⟨id, id⟩, fun b hb ho => h.keep b hb fun e => ?_, h.rest⟩
  rw [e] at ho
  rcases ho with h | h
  · cases h
  · injection h with h; exact hij h.symm

/-- Goroutine i is at most n own steps from a stop, whatever the others do within what they may. -/
def GG (P : Program) (i : Nat) (rd : Nat → Prop) (Stop : Goroutine → (Nat → Own) → World → Prop) : Nat → Goroutine → (Nat → Own) → World → Prop
  | 0, g, O, w => ∀ O₁ w₁, Rl i O w O₁ w₁ → Stop g O₁ w₁
  | n + 1, g, O, w => (∀ O₁ w₁, Rl i O w O₁ w₁ → Stop g O₁ w₁) ∨ (g.status = .running ∧ ∀ O₁ w₁, Rl i O w O₁ w₁ → (stepG P (i == 0) g w₁).goes fun g' w' es => Gd i rd O₁ w₁ w' es ∧ GG P i rd Stop n g' (ext O₁ w₁ i) w')
section
variable {P : Program} {i : Nat} {rd : Nat → Prop} {Stop : Goroutine → (Nat → Own) → World → Prop}
theorem GG.stop {n : Nat} {g : Goroutine} {O : Nat → Own} {w : World} (h : ∀ O₁ w₁, Rl i O w O₁ w₁ → Stop g O₁ w₁) : GG P i rd Stop n g O w := by
  cases n with
  | zero => exact h
  | succ n => exact .inl h
theorem GG.step {n : Nat} {g : Goroutine} {O : Nat → Own} {w : World} (hs : g.status = .running)
    (h : ∀ O₁ w₁, Rl i O w O₁ w₁ → (stepG P (i == 0) g w₁).goes fun g' w' es => Gd i rd O₁ w₁ w' es ∧ GG P i rd Stop n g' (ext O₁ w₁ i) w') : GG P i rd Stop (n + 1) g O w := .inr ⟨hs, h⟩
theorem GG.rely {n : Nat} {g : Goroutine} {O O₁ : Nat → Own} {w w₁ : World} (h : GG P i rd Stop n g O w) (hr : Rl i O w O₁ w₁) : GG P i rd Stop n g O₁ w₁ := by
  cases n with
  | zero => exact fun O₂ w₂ h₂ => h O₂ w₂ (hr.trans h₂)
  | succ n =>
    rcases h with h | ⟨hs, h⟩
    · exact .inl fun O₂ w₂ h₂ => h O₂ w₂ (hr.trans h₂)
    · exact .inr ⟨hs, fun O₂ w₂ h₂ => h O₂ w₂ (hr.trans h₂)⟩
theorem GG.running (hS : ∀ g O w, Stop g O w → g.status = .running) {n : Nat} {g : Goroutine} {O : Nat → Own} {w : World} (h : GG P i rd Stop n g O w) : g.status = .running := by
  cases n with
  | zero => exact hS g O w (h O w (Rl.refl _ _ _))
  | succ n => exact h.elim (fun x => hS g O w (x O w (Rl.refl _ _ _))) (·.1)
theorem GG.mono {Stop' : Goroutine → (Nat → Own) → World → Prop} (hS : ∀ g O w, Stop g O w → Stop' g O w) : ∀ {n : Nat} {g : Goroutine} {O : Nat → Own} {w : World}, GG P i rd Stop n g O w → GG P i rd Stop' n g O w
  | 0, g, O, w, h => fun O₁ w₁ h₁ => hS _ _ _ (h O₁ w₁ h₁)
  | n + 1, g, O, w, h => by
    rcases h with h | ⟨hs, h⟩
    · exact .inl fun O₁ w₁ h₁ => hS _ _ _ (h O₁ w₁ h₁)
    · refine .inr ⟨hs, fun O₁ w₁ h₁ => ?_⟩
      have := h O₁ w₁ h₁
      revert this
      cases stepG P (i == 0) g w₁ <;> simp only [GStep.goes, imp_self]
      exact fun ⟨d, x⟩ => ⟨d, GG.mono hS x⟩
end

/-- It stands at a send of v on channel c. -/
def SendAt (P : Program) (j c : Nat) (v : Value) (After : Goroutine → (Nat → Own) → World → Prop) (g : Goroutine) (O : Nat → Own) (w : World) : Prop :=
  g.status = .running ∧ ∃ g₂ z, (∀ w₁, stepG P false g w₁ = .comm g₂ #[scase c v z] true .send w₁ #[]) ∧ ∀ O₁ w₁, Rl j O w O₁ w₁ → After (Go.Conc.served g₂ undef) O₁ w₁
/-- It stands at the close of channel c; behind it it only leaves. -/
def CloseAt (P : Program) (c M : Nat) (g : Goroutine) (_ : Nat → Own) (_ : World) : Prop :=
  g.status = .running ∧ mayWake P g = true ∧ ∃ g', g'.status = .running ∧ QuitsD P M 0 g' ∧ ∀ w₁ k, w₁.heap[c]? = some (.chan 0 #[] false k k false) → stepG P false g w₁ = .go g' (w₁.setChan c 0 #[] true k k false) (closeEvents c)
/-- It sends these values on channel c, closes it, and leaves. -/
def Feeds (P : Program) (j : Nat) (rd : Nat → Prop) (c N M : Nat) : List Value → Nat → Goroutine → (Nat → Own) → World → Prop
  | [], n, g, O, w => GG P j rd (CloseAt P c M) n g O w
  | v :: vs, n, g, O, w => GG P j rd (SendAt P j c v (fun g O w => Feeds P j rd c N M vs N g O w)) n g O w
section
variable {P : Program} {j : Nat} {rd : Nat → Prop} {c N M : Nat}
theorem Feeds.rely {vs : List Value} {n : Nat} {g : Goroutine} {O O₁ : Nat → Own} {w w₁ : World} (h : Feeds P j rd c N M vs n g O w) (hr : Rl j O w O₁ w₁) : Feeds P j rd c N M vs n g O₁ w₁ := by
  cases vs <;> exact GG.rely h hr
theorem Feeds.running {vs : List Value} {n : Nat} {g : Goroutine} {O : Nat → Own} {w : World} (h : Feeds P j rd c N M vs n g O w) : g.status = .running := by
  cases vs <;> exact GG.running (fun _ _ _ h => h.1) h
end
/-- It is on its way to its next send or to its close; or it is parked at its send. -/
def Lively (P : Program) (j : Nat) (rd : Nat → Prop) (c N M : Nat) (vs : List Value) (n : Nat) (g : Goroutine) (O : Nat → Own) (w : World) : Prop :=
  (∃ k, n = k + M + 2 ∧ Feeds P j rd c N M vs k g O w) ∨ (n = 0 ∧ ∃ v vs' g₂ z, vs = v :: vs' ∧ g = parked g₂ #[scase c v z] .send ∧ ∀ O₁ w₁, Rl j O w O₁ w₁ → Feeds P j rd c N M vs' N (Go.Conc.served g₂ undef) O₁ w₁)
section
variable {P : Program} {j : Nat} {rd : Nat → Prop} {c N M : Nat} {vs : List Value} {n : Nat} {g : Goroutine} {O O₁ : Nat → Own} {w w₁ : World}
theorem Lively.rely (h : Lively P j rd c N M vs n g O w) (hr : Rl j O w O₁ w₁) : Lively P j rd c N M vs n g O₁ w₁ := by
  rcases h with ⟨k, hn, h⟩ | ⟨hn, v, vs', g₂, z, h1, h2, h3⟩
  · exact .inl ⟨k, hn, h.rely hr⟩
  · exact .inr ⟨hn, v, vs', g₂, z, h1, h2, fun O₂ w₂ h₂ => h3 O₂ w₂ (hr.trans h₂)⟩
theorem Lively.status (h : Lively P j rd c N M vs n g O w) : (g.status = .running ∧ 0 < n) ∨ (g.status = .blocked ∧ n = 0) := by
  rcases h with ⟨k, hn, h⟩ | ⟨hn, v, vs', g₂, z, h1, h2, h3⟩
  · exact .inl ⟨h.running, by omega⟩
  · exact .inr ⟨by rw [h2]; rfl, hn⟩
theorem Lively.again (h : Lively P j rd c N M vs n g O w) {w' : World} {k : Nat} (hc : w'.heap[c]? = some (.chan 0 #[] false k k false)) : g.again w' = g := by
  rcases h with ⟨k, hn, h⟩ | ⟨hn, v, vs', g₂, z, h1, h2, h3⟩
  · exact again_running _ (.inl h.running)
  · rw [h2]; exact again_send_open hc
end

/-- What a goroutine other than 0 is, if it does not only leave from the beginning: a sender (what is still to be sent, over which channel); one that has closed its channel, by operation m, unnoticed. -/
inductive Sd where
  | live (c : Nat) (vs : List Value)
  | shut (c m : Nat)
def Sd.ch : Sd → Nat
  | .live c _ => c
  | .shut c _ => c
abbrev MemF (S : Nat → Option Sd) (g : Nat) : Prop := g = 0 ∨ ∃ c vs, S g = some (.live c vs)
abbrev LooF (S : Nat → Option Sd) (g : Nat) : Prop := ∃ s, S g = some s
/-- What is known of a goroutine's record. -/
def Idl (P : Program) (N M : Nat) (rd : Nat → Nat → Prop) (O : Nat → Own) (T : Trace) (w : World) (i n : Nat) (g : Goroutine) : Option Sd → Prop
  | some (.live c vs) => Lively P i (rd i) c N M vs n g O w
  | _ => QuitsD P n (Deaf T i) g

structure Frm (P : Program) (N M : Nat) (rd : Nat → Nat → Prop) (S : Nat → Option Sd) (O : Nat → Own) (T : Trace) (gs : Array Goroutine) (w : World) (q : Nat → Nat) : Prop where
  idle : ∀ i g, i ≠ 0 → gs[i]? = some g → Idl P N M rd O T w i (q i) g (S i)
  pos : ∀ i s, S i = some s → i ≠ 0 ∧ i < gs.size
  live : ∀ i c vs, S i = some (.live c vs) → O c = .chan ∧ rd i c ∧ c < w.heap.size ∧ ∃ k, w.heap[c]? = some (.chan 0 #[] false k k false)
  shut : ∀ i c m, S i = some (.shut c m) → O c = .chan ∧ c < w.heap.size ∧ (∃ k, w.heap[c]? = some (.chan 0 #[] true k k false)) ∧ ShutBy T i c m
  inj : ∀ i i' s s', S i = some s → S i' = some s' → s.ch = s'.ch → i = i'
  above : ∀ j, gs.size ≤ j → Deaf T j = 0
  flow : Flow rd O (MemF S) (LooF S) w.heap.size T
  rdO : ∀ g b, rd g b → (O b).loose ∧ b < w.heap.size
  rd0 : ∀ b, ¬ rd 0 b

section
variable {P : Program} {N M : Nat} {rd : Nat → Nat → Prop} {S : Nat → Option Sd} {O O' : Nat → Own} {T : Trace} {gs gs' : Array Goroutine} {w w' : World} {q : Nat → Nat}

theorem Idl.status {i n : Nat} {g : Goroutine} {s : Option Sd} (h : Idl P N M rd O T w i n g s) : g.status = .running ∨ g.status = .blocked ∨ g.status = .finished := by
  unfold Idl at h
  split at h
  · exact (Lively.status h).elim (fun x => .inl x.1) fun x => .inr (.inl x.1)
  · exact (QuitsD.status h).elim .inl fun x => .inr (.inr x)
/-- Nobody but goroutine 0 is let try again while the channels of the living stay open. -/
theorem Idl.again {i n : Nat} {g : Goroutine} (h : Idl P N M rd O T w i n g (S i)) (hc : ∀ c vs, S i = some (.live c vs) → ∃ k, w'.heap[c]? = some (.chan 0 #[] false k k false)) : g.again w' = g := by
  cases e : S i with
  | none => rw [e] at h; exact again_running _ (QuitsD.status h)
  | some s =>
    rw [e] at h
    cases s with
    | live c vs =>
      obtain ⟨k, hk⟩ := hc c vs e
      exact Lively.again h hk
    | shut c m => exact again_running _ (QuitsD.status h)
theorem Frm.awake (F : Frm P N M rd S O T gs w q) {a : Goroutine} (h0 : gs[0]? = some a) (hs : a.status = .running ∨ a.status = .blocked) : ∀ g ∈ gs, awake g := by
  intro g hg
  obtain ⟨i, hi, rfl⟩ := Array.mem_iff_getElem.1 hg
  by_cases e : i = 0
  · subst e
    have : gs[0] = a := by simpa [Array.getElem?_eq_getElem hi] using h0
    rw [this]; exact awake_of (hs.elim .inl fun x => .inr (.inl x))
  · exact awake_of (F.idle i _ e (Array.getElem?_eq_getElem hi)).status

/-- One goroutine's record is laid anew, the world turned by it; what kind everybody is stays. -/
theorem Frm.put (F : Frm P N M rd S O T gs w q) {i n' : Nat} {g' : Goroutine} {ops : Array MemOp} (hsz : gs'.size = gs.size) (hoth : ∀ x, x ≠ i → x ≠ 0 → gs'[x]? = gs[x]?) (hself : i ≠ 0 → gs'[i]? = some g' ∧ Idl P N M rd O' (T ++ ops) w' i n' g' (S i))
    (hrl : ∀ x, x ≠ i → Rl x O w O' w') (hch : ∀ b, b < w.heap.size → O b = .chan → O' b = .chan ∧ w'.heap[b]? = w.heap[b]?) (hle : w.heap.size ≤ w'.heap.size) (hD : ∀ x, x ≠ i → Deaf (T ++ ops) x = Deaf T x) (hD0 : i < gs.size)
    (hsh : ∀ x c m, S x = some (.shut c m) → ShutBy (T ++ ops) x c m) (hfl : Flow rd O' (MemF S) (LooF S) w'.heap.size (T ++ ops)) (hrd : ∀ g b, rd g b → (O' b).loose) :
    Frm P N M rd S O' (T ++ ops) gs' w' (upd q i n') := by
  refine ⟨fun x y hx hy => ?_, fun x s hs => by rw [hsz]; exact F.pos x s hs, fun x c vs hs => ?_, fun x c m hs => ?_, F.inj, fun x hx => ?_, hfl, fun g b h => ⟨hrd g b h, Nat.lt_of_lt_of_le (F.rdO g b h).2 hle⟩, F.rd0⟩
  · by_cases e : x = i
    · subst e
      obtain ⟨h1, h2⟩ := hself hx
      rw [h1] at hy
      obtain rfl := Option.some.inj hy
      rw [upd_same]; exact h2
    · rw [hoth x e hx] at hy
      rw [upd_ne q n' e]
      have h := F.idle x y hx hy
      cases es : S x with
      | none => rw [es] at h; show QuitsD _ _ _ _; rw [hD x e]; exact h
      | some s =>
        rw [es] at h
        cases s with
        | live c vs => exact Lively.rely h (hrl x e)
        | shut c m => show QuitsD _ _ _ _; rw [hD x e]; exact h
  · obtain ⟨h1, h2, h3, k, hk⟩ := F.live x c vs hs
    obtain ⟨h4, h5⟩ := hch c h3 h1
    exact ⟨h4, h2, Nat.lt_of_lt_of_le h3 hle, k, by rw [h5]; exact hk⟩
  · obtain ⟨h1, h3, ⟨k, hk⟩, _⟩ := F.shut x c m hs
    obtain ⟨h4, h5⟩ := hch c h3 h1
    exact ⟨h4, Nat.lt_of_lt_of_le h3 hle, ⟨k, by rw [h5]; exact hk⟩, hsh x c m hs⟩
  · rw [hD x (by omega)]; exact F.above x (by omega)

theorem Frm.at (F : Frm P N M rd S O T gs w q) (d : Nat) : Frm P N M rd S O T gs (w.at d) q := by
  refine ⟨fun i g hi hg => ?_, F.pos, F.live, F.shut, F.inj, F.above, F.flow, F.rdO, F.rd0⟩
  have h := F.idle i g hi hg
  cases es : S i with
  | none => rw [es] at h; exact h
  | some s =>
    rw [es] at h
    cases s with
    | live c vs => exact Lively.rely h (Rl.at _ _ _ _)
    | shut c m => exact h
end
end Go.Spring
