/- What is held of the trace while goroutine 0 gathers from senders that run beside it: who owns which block, who knows which touch. -/
import Derived.Conc.Token
set_option linter.unusedVariables false
set_option linter.unusedSimpArgs false
namespace Go.Spring
open Go.Conc

/-- Whose a block is: nobody writes it; a channel; one goroutine's own. -/
inductive Own where
  | still
  | chan
  | of (g : Nat)
def Own.loose : Own → Prop
  | .of _ => False
  | _ => True
/-- The block that a place lies in. -/
def locB : Loc → Option Nat
  | .cell a => some a.block
  | .obj r => some r
  | _ => none
theorem low_block {B b : Nat} {l : Loc} (h : l.low B) (hb : locB l = some b) : b < B := by
  cases l <;> simp [locB] at hb
  · subst hb; exact h
  · subst hb; exact h
theorem low_touch {B b : Nat} {x : MemAct} {a : Touch} (h : x.low B) (ha : x.touch? = some a) (hb : locB a.loc = some b) : b < B := by
  cases x with
  | access e =>
    simp only [MemAct.touch?, Option.some.injEq] at ha
    subst ha
    exact low_block (l := e.loc) h hb
  | mark m => cases m <;> simp [MemAct.touch?] at ha <;> (try subst ha; simp [locB] at hb; subst hb; exact h)
  | _ => simp [MemAct.touch?] at ha

structure Flow (rd : Nat → Nat → Prop) (O : Nat → Own) (Mem Loose : Nat → Prop) (B : Nat) (t : Trace) : Prop where
  clean : ∀ said, ¬ Race said t
  known : ∀ i a, touchAt t i = some a → a.loc.isMemory = true → Knows t 0 i ∨ ∃ g b, t.g? i = some g ∧ Loose g ∧ locB a.loc = some b ∧ ((a.write = false ∧ (O b).loose) ∨ O b = .of g)
  owned : ∀ i a b g, touchAt t i = some a → locB a.loc = some b → O b = .of g → g ≠ 0 → t.g? i = some g
  wrote : ∀ i a b, touchAt t i = some a → a.write = true → locB a.loc = some b → ∀ g, Mem g → rd g b → Knows t g i
  hears : ∀ g, Mem g → Deaf t g = 0
  seen : ∀ op ∈ t, op.act.low B

section
variable {rd : Nat → Nat → Prop} {O O' : Nat → Own} {Mem Loose : Nat → Prop} {B B' : Nat} {t u : Trace}

theorem touch_lt (H : ∀ op ∈ t, op.act.low B) {i b : Nat} {a : Touch} (ha : touchAt t i = some a) (hb : locB a.loc = some b) : b < B := by
  obtain ⟨x, hx, hxa⟩ := touch_of ha
  exact low_touch (H x (mem_of_getElem? hx)) hxa hb

theorem Flow.old_known (H : Flow rd O Mem Loose B t) (hO : ∀ b, b < B → O' b = O b) {i : Nat} {a : Touch} {x : MemOp} (hx' : t[i]? = some x) (hxa : x.act.touch? = some a) (hm : a.loc.isMemory = true) :
    Knows (t ++ u) 0 i ∨ ∃ g b, (t ++ u).g? i = some g ∧ Loose g ∧ locB a.loc = some b ∧ ((a.write = false ∧ (O' b).loose) ∨ O' b = .of g) := by
  have ha : touchAt t i = some a := by rw [touchAt_of hx']; exact hxa
  rcases H.known i a ha hm with hk | ⟨g, b, hg, hl, hb, h⟩
  · exact .inl (hk.app u)
  · refine .inr ⟨g, b, by rw [g?_old (lt_size_of_getElem? hx')]; exact hg, hl, hb, ?_⟩
    rw [hO b (touch_lt H.seen ha hb)]; exact h

/-- Goroutine 0's own operations. -/
theorem Flow.own0 (H : Flow rd O Mem Loose B t) (hB : B ≤ B') (hO : ∀ b, b < B → O' b = O b) (h0 : ¬ Loose 0) (hrd : ∀ g b, rd g b → (O' b).loose) (hM : Mem 0)
    (hu : ∀ op ∈ u, op.g = 0) (hs : ∀ op ∈ u, ∀ x, op.act.touch? = some x → ∃ b, locB x.loc = some b ∧ (O' b = .of 0 ∨ ((O' b).loose ∧ x.write = false))) (hd : Deaf (t ++ u) 0 = Deaf t 0) (hl : ∀ op ∈ u, op.act.low B') :
    Flow rd O' Mem Loose B' (t ++ u) := by
  refine ⟨fun said => noRace_append (H.clean said) hu fun i a ha op hop x hx hc => ?_, fun i a ha hm => ?_, fun i a b g ha hb ho hg => ?_, fun i a b ha hw hb g hg hr => ?_, fun g hg => ?_, seen_app (fun op hop => MemAct.low_mono hB (H.seen op hop)) hl⟩
  · rcases H.known i a ha hc.2.1 with hk | ⟨g, b, hg, hL, hb, h⟩
    · exact hk
    · exfalso
      obtain ⟨b', hb', h'⟩ := hs op hop x hx
      rw [← hc.1, hb] at hb'
      obtain rfl := Option.some.inj hb'
      rw [hO b (touch_lt H.seen ha hb)] at h'
      rcases h with ⟨hw, hl'⟩ | h
      · rcases h' with h' | ⟨_, h'⟩
        · rw [h'] at hl'; exact hl'
        · rcases hc.2.2.1 with z | z
          · rw [hw] at z; cases z
          · rw [h'] at z; cases z
      · rcases h' with h' | ⟨h', _⟩
        · rw [h] at h'; injection h' with h'; subst h'; exact h0 hL
        · rw [h] at h'; exact h'
  · obtain ⟨x, hx, hxa⟩ := touch_of ha
    rcases getElem?_append_cases hx with ⟨_, hx'⟩ | ⟨_, hxu⟩
    · exact H.old_known hO hx' hxa hm
    · have := knows_own hx
      rw [hu x hxu] at this
      exact .inl this
  · obtain ⟨x, hx, hxa⟩ := touch_of ha
    rcases getElem?_append_cases hx with ⟨hi, hx'⟩ | ⟨_, hxu⟩
    · have ha' : touchAt t i = some a := by rw [touchAt_of hx']; exact hxa
      rw [hO b (touch_lt H.seen ha' hb)] at ho
      rw [g?_old hi]
      exact H.owned i a b g ha' hb ho hg
    · exfalso
      obtain ⟨b', hb', h'⟩ := hs x hxu a hxa
      rw [hb] at hb'
      obtain rfl := Option.some.inj hb'
      rcases h' with h' | ⟨h', _⟩
      · rw [ho] at h'; injection h' with h'; exact hg h'
      · rw [ho] at h'; exact h'
  · obtain ⟨x, hx, hxa⟩ := touch_of ha
    rcases getElem?_append_cases hx with ⟨hi, hx'⟩ | ⟨_, hxu⟩
    · exact (H.wrote i a b (by rw [touchAt_of hx']; exact hxa) hw hb g hg hr).app u
    · exfalso
      obtain ⟨b', hb', h'⟩ := hs x hxu a hxa
      rw [hb] at hb'
      obtain rfl := Option.some.inj hb'
      have hlo := hrd g b hr
      rcases h' with h' | ⟨_, h'⟩
      · rw [h'] at hlo; exact hlo
      · rw [hw] at h'; cases h'
  · by_cases e : g = 0
    · subst e; exact hd.trans (H.hears 0 hg)
    · exact (Deaf_other t (fun x => e x.symm) u hu).trans (H.hears g hg)

/-- A sender's own operations. -/
theorem Flow.ownJ (H : Flow rd O Mem Loose B t) (hB : B ≤ B') (hO : ∀ b, b < B → O' b = O b) {j : Nat} (hj : j ≠ 0) (hMj : Mem j) (hLj : Loose j) (hrd : ∀ g b, rd g b → (O' b).loose)
    (hu : ∀ op ∈ u, op.g = j) (hs : ∀ op ∈ u, ∀ x, op.act.touch? = some x → ∃ b, locB x.loc = some b ∧ (O' b = .of j ∨ (rd j b ∧ x.write = false))) (hd : Deaf (t ++ u) j = Deaf t j) (hl : ∀ op ∈ u, op.act.low B') :
    Flow rd O' Mem Loose B' (t ++ u) := by
  refine ⟨fun said => noRace_append (H.clean said) hu fun i a ha op hop x hx hc => ?_, fun i a ha hm => ?_, fun i a b g ha hb ho hg => ?_, fun i a b ha hw hb g hg hr => ?_, fun g hg => ?_, seen_app (fun op hop => MemAct.low_mono hB (H.seen op hop)) hl⟩
  · obtain ⟨b, hb, h'⟩ := hs op hop x hx
    rw [← hc.1] at hb
    rcases h' with h' | ⟨hr, hw⟩
    · rw [hO b (touch_lt H.seen ha hb)] at h'
      have hg := H.owned i a b j ha hb h' hj
      obtain ⟨y, hy, _⟩ := touch_of ha
      have := knows_own hy
      rw [g?_of hy] at hg
      rw [Option.some.inj hg] at this
      exact this
    · rcases hc.2.2.1 with z | z
      · exact H.wrote i a b ha z hb j hMj hr
      · rw [hw] at z; cases z
  · obtain ⟨x, hx, hxa⟩ := touch_of ha
    rcases getElem?_append_cases hx with ⟨_, hx'⟩ | ⟨_, hxu⟩
    · exact H.old_known hO hx' hxa hm
    · obtain ⟨b, hb, h'⟩ := hs x hxu a hxa
      refine .inr ⟨j, b, by rw [g?_of hx, hu x hxu], hLj, hb, ?_⟩
      rcases h' with h' | ⟨hr, hw⟩
      · exact .inr h'
      · exact .inl ⟨hw, hrd j b hr⟩
  · obtain ⟨x, hx, hxa⟩ := touch_of ha
    rcases getElem?_append_cases hx with ⟨hi, hx'⟩ | ⟨_, hxu⟩
    · have ha' : touchAt t i = some a := by rw [touchAt_of hx']; exact hxa
      rw [hO b (touch_lt H.seen ha' hb)] at ho
      rw [g?_old hi]
      exact H.owned i a b g ha' hb ho hg
    · obtain ⟨b', hb', h'⟩ := hs x hxu a hxa
      rw [hb] at hb'
      obtain rfl := Option.some.inj hb'
      rcases h' with h' | ⟨hr, _⟩
      · rw [ho] at h'; injection h' with h'
        rw [g?_of hx, hu x hxu, h']
      · have := hrd j b hr
        rw [ho] at this; exact this.elim
  · obtain ⟨x, hx, hxa⟩ := touch_of ha
    rcases getElem?_append_cases hx with ⟨hi, hx'⟩ | ⟨_, hxu⟩
    · exact (H.wrote i a b (by rw [touchAt_of hx']; exact hxa) hw hb g hg hr).app u
    · exfalso
      obtain ⟨b', hb', h'⟩ := hs x hxu a hxa
      rw [hb] at hb'
      obtain rfl := Option.some.inj hb'
      have hlo := hrd g b hr
      rcases h' with h' | ⟨_, h'⟩
      · rw [h'] at hlo; exact hlo
      · rw [hw] at h'; cases h'
  · by_cases e : g = j
    · subst e; exact hd.trans (H.hears g hg)
    · exact (Deaf_other t (fun x => e x.symm) u hu).trans (H.hears g hg)

/-- Operations that touch nothing, whoever makes them. -/
theorem Flow.mute (H : Flow rd O Mem Loose B t) (hn : ∀ op ∈ u, op.act.touch? = none) (hd : ∀ g, Mem g → Deaf (t ++ u) g = Deaf t g) (hl : ∀ op ∈ u, op.act.low B) : Flow rd O Mem Loose B (t ++ u) := by
  refine ⟨fun said => noRace_appendMute (H.clean said) hn, fun i a ha hm => ?_, fun i a b g ha hb ho hg => ?_, fun i a b ha hw hb g hg hr => ?_, fun g hg => (hd g hg).trans (H.hears g hg), seen_app H.seen hl⟩
  all_goals
    obtain ⟨x, hx, hxa⟩ := touch_of ha
    rcases getElem?_append_cases hx with ⟨hi, hx'⟩ | ⟨_, hxu⟩
  · exact H.old_known (fun _ _ => rfl) hx' hxa hm
  · rw [hn x hxu] at hxa; cases hxa
  · rw [g?_old hi]; exact H.owned i a b g (by rw [touchAt_of hx']; exact hxa) hb ho hg
  · rw [hn x hxu] at hxa; cases hxa
  · exact (H.wrote i a b (by rw [touchAt_of hx']; exact hxa) hw hb g hg hr).app u
  · rw [hn x hxu] at hxa; cases hxa

theorem Flow.fewer {Mem' : Nat → Prop} (H : Flow rd O Mem Loose B t) (h : ∀ g, Mem' g → Mem g) : Flow rd O Mem' Loose B t := ⟨H.clean, H.known, H.owned, fun i a b ha hw hb g hg hr => H.wrote i a b ha hw hb g (h g hg) hr, fun g hg => H.hears g (h g hg), H.seen⟩
theorem Flow.loosen {Loose' : Nat → Prop} (H : Flow rd O Mem Loose B t) (h : ∀ g, Loose g → Loose' g) : Flow rd O Mem Loose' B t :=
  ⟨H.clean, fun i a ha hm => (H.known i a ha hm).imp id fun ⟨g, b, h1, h2, h3⟩ => ⟨g, b, h1, h g h2, h3⟩, H.owned, H.wrote, H.hears, H.seen⟩

/-- Operation m is goroutine j's close of channel c, heard; all that j ever touched is before it. -/
structure ShutBy (t : Trace) (j c m : Nat) : Prop where
  act : t.act? m = some (.close c)
  heard : t.heard m
  all : ∀ i a, touchAt t i = some a → t.g? i = some j → Before t i m
theorem ShutBy.app {j c m : Nat} (H : ShutBy t j c m) (hu : ∀ op ∈ u, op.g = j → op.act.touch? = none) : ShutBy (t ++ u) j c m := by
  obtain ⟨z, hz, _⟩ := Option.map_eq_some_iff.1 (show (t[m]?).map (·.act) = some (.close c) from H.act)
  have hlt := lt_size_of_getElem? hz
  refine ⟨by simpa [Trace.act?, getElem?_append_old hlt] using H.act, ?_, fun i a ha hg => ?_⟩
  · exact (heard_old hlt).2 H.heard
  · obtain ⟨x, hx, hxa⟩ := touch_of ha
    rcases getElem?_append_cases hx with ⟨hi, hx'⟩ | ⟨_, hxu⟩
    · exact (H.all i a (by rw [touchAt_of hx']; exact hxa) (by rw [← g?_old (u := u) hi]; exact hg)).app u
    · rw [g?_of hx] at hg
      rw [hu x hxu (Option.some.inj hg)] at hxa; cases hxa

/-- The receive that finds the channel closed: goroutine 0 knows all that the sender touched. -/
theorem Flow.found {j c m : Nat} (H : Flow rd O Mem Loose B t) (C : ShutBy t j c m) (hM : Mem 0) (f : FuncId) (p : String) (hc : c < B) :
    Flow rd O Mem (fun g => Loose g ∧ g ≠ j) B (t ++ #[{ g := 0, fn := f, pos := p, act := .recvClosed c }]) := by
  generalize hu : (#[{ g := 0, fn := f, pos := p, act := .recvClosed c }] : Trace) = u
  obtain ⟨z, hz, _⟩ := Option.map_eq_some_iff.1 (show (t[m]?).map (·.act) = some (.close c) from C.act)
  have hlt := lt_size_of_getElem? hz
  have hn : ∀ op ∈ u, op.act.touch? = none := by
    intro op hop
    subst hu
    simp only [List.mem_toArray, List.mem_cons, List.not_mem_nil, or_false] at hop
    subst hop; rfl
  have hq : ∀ g, ∀ op ∈ u, ∀ d, deafStep g d op = d := by
    intro g op hop d
    subst hu
    simp only [List.mem_toArray, List.mem_cons, List.not_mem_nil, or_false] at hop
    subst hop; rfl
  have e0 : (t ++ u)[t.size]? = some { g := 0, fn := f, pos := p, act := .recvClosed c } := by subst hu; simp
  have hhm' : (t ++ u).heard m := (heard_old hlt).2 C.heard
  have edge : HappensBefore (t ++ u) m t.size :=
    Relation.TransGen.single (.inr ⟨.closed (by simpa [Trace.act?, getElem?_append_old hlt] using C.act) (act?_of e0), hhm', ⟨0, g?_of e0, by rw [deaf_old (Nat.le_refl _)]; exact H.hears 0 hM⟩⟩)
  have G := H.mute (u := u) hn (fun g _ => Deaf_quiet (hq g)) (by
    intro op hop
    subst hu
    simp only [List.mem_toArray, List.mem_cons, List.not_mem_nil, or_false] at hop
    subst hop; exact hc)
  refine ⟨G.clean, fun i a ha hm => ?_, G.owned, G.wrote, G.hears, G.seen⟩
  rcases G.known i a ha hm with hk | ⟨g, b, hg, hl, hb⟩
  · exact .inl hk
  · by_cases e : g = j
    · subst e
      obtain ⟨x, hx, hxa⟩ := touch_of ha
      rcases getElem?_append_cases hx with ⟨hi, hx'⟩ | ⟨_, hxu⟩
      · have := C.all i a (by rw [touchAt_of hx']; exact hxa) (by rw [← g?_old (u := u) hi]; exact hg)
        exact .inl ⟨t.size, _, e0, rfl, .inr ((this.app u).hb edge)⟩
      · rw [hn x hxu] at hxa; cases hxa
    · exact .inr ⟨g, b, hg, ⟨hl, e⟩, hb⟩

/-- A go statement of goroutine 0's: some of its blocks are given away (nobody writes them any more; or they are channels); the child may read all that nobody writes now. -/
theorem Flow.spawn (H : Flow rd O Mem Loose B t) (hO : ∀ b, O' b = O b ∨ (O b = .of 0 ∧ (O' b).loose)) (h0 : ¬ Loose 0) (hM : Mem 0) {c : Nat} (hc0 : Deaf t c = 0) (hcM : ¬ Mem c)
    {rd' : Nat → Nat → Prop} (hrd : ∀ g b, g ≠ c → rd' g b → rd g b) (hrc : ∀ b, rd' c b → (O' b).loose) (f : FuncId) (p : String) (fc : FuncId) :
    Flow rd' O' (fun g => Mem g ∨ g = c) (fun g => Loose g ∨ g = c) B (t ++ #[{ g := 0, fn := f, pos := p, act := .go c }, { g := c, fn := fc, pos := p, act := .start }]) := by
  generalize hu : (#[{ g := 0, fn := f, pos := p, act := .go c }, { g := c, fn := fc, pos := p, act := .start }] : Trace) = u
  have hn : ∀ op ∈ u, op.act.touch? = none := by
    intro op hop
    subst hu
    simp only [List.mem_toArray, List.mem_cons, List.not_mem_nil, or_false] at hop
    rcases hop with rfl | rfl <;> rfl
  have hq : ∀ g, ∀ op ∈ u, ∀ d, deafStep g d op = d := by
    intro g op hop d
    subst hu
    simp only [List.mem_toArray, List.mem_cons, List.not_mem_nil, or_false] at hop
    rcases hop with rfl | rfl <;> rfl
  have e0 : (t ++ u)[t.size]? = some { g := 0, fn := f, pos := p, act := .go c } := by subst hu; simp
  have e1 : (t ++ u)[t.size + 1]? = some { g := c, fn := fc, pos := p, act := .start } := by subst hu; simp
  have edge : HappensBefore (t ++ u) t.size (t.size + 1) :=
    Relation.TransGen.single (.inr ⟨.spawn (act?_of e0) (act?_of e1) (g?_of e1), ⟨0, g?_of e0, by rw [deaf_old (Nat.le_refl _)]; exact H.hears 0 hM⟩, ⟨c, g?_of e1, by rw [deaf_quiet (hq c) 1 (by subst hu; simp)]; exact hc0⟩⟩)
  have G := H.mute (u := u) hn (fun g _ => Deaf_quiet (hq g)) (by
    intro op hop
    subst hu
    simp only [List.mem_toArray, List.mem_cons, List.not_mem_nil, or_false] at hop
    rcases hop with rfl | rfl <;> trivial)
  refine ⟨G.clean, fun i a ha hm => ?_, fun i a b g ha hb ho hg => ?_, fun i a b ha hw hb g hg hr => ?_, fun g hg => (Deaf_quiet (hq g)).trans (hg.elim (H.hears g) fun e => e ▸ hc0), G.seen⟩
  · rcases G.known i a ha hm with hk | ⟨g, b, hg, hl, hb, h⟩
    · exact .inl hk
    · refine .inr ⟨g, b, hg, .inl hl, hb, ?_⟩
      rcases hO b with e | ⟨e, e'⟩
      · rw [e]; exact h
      · rcases h with ⟨hw, h⟩ | h
        · exact .inl ⟨hw, e'⟩
        · rw [e] at h; injection h with h; subst h; exact (h0 hl).elim
  · refine G.owned i a b g ha hb ?_ hg
    rcases hO b with e | ⟨_, e'⟩
    · rw [← e]; exact ho
    · rw [ho] at e'; exact e'.elim
  · by_cases e : g = c
    · subst e
      obtain ⟨x, hx, hxa⟩ := touch_of ha
      rcases getElem?_append_cases hx with ⟨hi, hx'⟩ | ⟨_, hxu⟩
      · have hlo := hrc b hr
        have ha' : touchAt t i = some a := by rw [touchAt_of hx']; exact hxa
        have hmem : a.loc.isMemory = true := by
          cases hl : a.loc <;> rw [hl] at hb <;> simp [locB] at hb <;> rfl
        have hk : Knows t 0 i := by
          rcases H.known i a ha' hmem with hk | ⟨g', b', hg', hl', hb', h'⟩
          · exact hk
          · rw [hb] at hb'
            obtain rfl := Option.some.inj hb'
            rcases h' with ⟨hw', _⟩ | h'
            · rw [hw] at hw'; cases hw'
            · rcases hO b with e | ⟨e, _⟩
              · rw [e, h'] at hlo; exact hlo.elim
              · rw [e] at h'; injection h' with h'; subst h'; exact (h0 hl').elim
        exact ⟨t.size + 1, _, e1, rfl, .inr ((hk.hb_new (Nat.le_refl _) e0 rfl).trans edge)⟩
      · rw [hn x hxu] at hxa; cases hxa
    · rcases hg with hg | hg
      · exact G.wrote i a b ha hw hb g hg (hrd g b e hr)
      · exact absurd hg e

/-- From the frame between calls. -/
theorem Flow.ofPast (H : Past (fun _ => False) B t) (hO : ∀ b, (O b).loose ∨ O b = .of 0) (hrd : ∀ b, ¬ rd 0 b) : Flow rd O (fun g => g = 0) (fun _ => False) B t :=
  ⟨H.clean, fun i a ha hm => (H.known i a ha hm).imp id fun x => x.1.elim, fun i a b g _ _ ho hg => by
    rcases hO b with h | h
    · rw [ho] at h; exact h.elim
    · rw [ho] at h; injection h with h; exact (hg h).elim, fun i a b _ _ _ g hg hr => by subst hg; exact (hrd b hr).elim, fun _ hg => hg ▸ H.hears, H.seen⟩
/-- To it: nobody is loose. -/
theorem Flow.toPast (H : Flow rd O Mem Loose B t) (h0 : Mem 0) (hL : ∀ g, ¬ Loose g) : Past (fun _ => False) B t := by
  have hk : ∀ i a, touchAt t i = some a → a.loc.isMemory = true → Knows t 0 i := fun i a ha hm => (H.known i a ha hm).elim id fun ⟨g, _, _, hl, _⟩ => absurd hl (hL g)
  refine ⟨H.clean, fun i a ha hm => .inl (hk i a ha hm), fun i g hg hne ⟨x, hx, hm, _⟩ => ?_, H.hears 0 h0, H.seen⟩
  obtain ⟨q, z, hq, hz, hb⟩ := hk i x hx hm
  rcases hb with rfl | hb
  · rw [g?_of hq, hz] at hg
    exact absurd (Option.some.inj hg).symm hne
  · exact ⟨q, by rw [g?_of hq, hz], hb⟩
end
end Go.Spring
