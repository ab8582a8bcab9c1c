/- Words for a walk beside others: a step of control; an operation; what one knows, carried along. -/
import Derived.Test.YtpoknlbnookhjaaFp
import Derived.Conc.TokenWalk
import Derived.Conc.AppendEvents3
import Derived.Laws.Cells
import Derived.Laws.Rows
import Derived.Laws.Tables
set_option linter.unusedVariables false
set_option linter.unusedSimpArgs false
namespace Go.Spring
open Go.Conc

/-- What stays true beside the others, and behind a step of one's own that only adds blocks. -/
structure Stab (i : Nat) (K : (Nat → Own) → World → Prop) : Prop where
  rely : ∀ O w O₁ w₁, K O w → Rl i O w O₁ w₁ → K O₁ w₁
theorem gd_none {i : Nat} {rd : Nat → Prop} {O : Nat → Own} (w : World) : Gd i rd O w w #[] := ⟨Nat.le_refl _, fun _ _ _ => rfl, ⟨w.drawn, w.heap, rfl⟩, by simp⟩
/-- One's own view behind one's own step that turned no older block of one's own. -/
theorem ext_rl {i : Nat} {O : Nat → Own} {w w' : World} (hs : w.heap.size ≤ w'.heap.size) (hk : ∀ b, b < w.heap.size → O b = .still ∨ O b = .of i → w'.heap[b]? = w.heap[b]?) (hr : ∃ d h, w' = { w with heap := h, drawn := d }) : Rl i O w (ext O w i) w' :=
  ⟨hs, fun b hb => by rw [ext_old hb]; exact ⟨id, id⟩, hk, hr⟩
theorem ext_same (i : Nat) (O : Nat → Own) (w : World) : Rl i O w (ext O w i) w := ext_rl (Nat.le_refl _) (fun _ _ _ => rfl) ⟨w.drawn, w.heap, rfl⟩

section
variable {P : Program} {i : Nat} {rd : Nat → Prop} {Stop : Goroutine → (Nat → Own) → World → Prop} {K : (Nat → Own) → World → Prop} {n : Nat} {g g' : Goroutine} {O : Nat → Own} {w : World}

/-- A step that is the same in every world and lists nothing. -/
theorem GG.ctl (hS : Stab i K) (hs : g.status = .running) (hst : ∀ w, stepG P (i == 0) g w = .go g' w #[]) (hK : K O w) (next : ∀ O w, K O w → GG P i rd Stop n g' O w) : GG P i rd Stop (n + 1) g O w := by
  refine GG.step hs fun O₁ w₁ h₁ => ?_
  rw [hst w₁]
  exact ⟨gd_none _, next _ _ (hS.rely _ _ _ _ (hS.rely _ _ _ _ hK h₁) (ext_same _ _ _))⟩

variable {b : Frame} {a : Act} {kk : List Item} {cs : List Frame} {ops : Array Oper} {m : Nat} {rest : List Nat} {o : Oper}
/-- An operation. -/
theorem GG.op (hS : Stab i K) (ho : ops[m]? = some o) (hw : Region.wanted o (yielded ops a.tmps) = true) (hk : b.kind ≠ .early) (hK : K O w)
    (h : ∀ O w, K O w → ∃ v w', (execOp a.eval o).run P w = .ok (.value v) w' ∧ Gd i rd O w w' (listed P b.fn a o w) ∧ GG P i rd Stop n (G (b.at (a.put o.dst v) (.inRegion ops rest :: kk)) cs) (ext O w i) w') :
    GG P i rd Stop (n + 1) (G (b.at a (.inRegion ops (m :: rest) :: kk)) cs) O w := by
  refine GG.step rfl fun O₁ w₁ h₁ => ?_
  obtain ⟨v, w', hr, hd, hg⟩ := h _ _ (hS.rely _ _ _ _ hK h₁)
  rw [stepG_value ho hw hk hr]
  exact ⟨hd, hg⟩
theorem GG.opN (hS : Stab i K) (ho : ops[m]? = some o) (hw : Region.wanted o (yielded ops a.tmps) = true) (hk : b.kind ≠ .early) (hK : K O w)
    (h : ∀ O w, K O w → ∃ w', (execOp a.eval o).run P w = .ok .skip w' ∧ Gd i rd O w w' (listed P b.fn a o w) ∧ GG P i rd Stop n (G (b.at (a.put o.dst undef) (.inRegion ops rest :: kk)) cs) (ext O w i) w') :
    GG P i rd Stop (n + 1) (G (b.at a (.inRegion ops (m :: rest) :: kk)) cs) O w := by
  refine GG.step rfl fun O₁ w₁ h₁ => ?_
  obtain ⟨w', hr, hd, hg⟩ := h _ _ (hS.rely _ _ _ _ hK h₁)
  rw [stepG_none ho hw hk hr]
  exact ⟨hd, hg⟩
/-- An operation that touches no memory. -/
theorem GG.pure (hS : Stab i K) {v : Value} (ho : ops[m]? = some o) (hw : Region.wanted o (yielded ops a.tmps) = true) (hk : b.kind ≠ .early) (hr : ∀ w, (execOp a.eval o).run P w = .ok (.value v) w) (he : ∀ w, (execOp a.eval o).events P w #[] = #[]) (hK : K O w)
    (next : ∀ O w, K O w → GG P i rd Stop n (G (b.at (a.put o.dst v) (.inRegion ops rest :: kk)) cs) O w) : GG P i rd Stop (n + 1) (G (b.at a (.inRegion ops (m :: rest) :: kk)) cs) O w :=
  GG.op hS ho hw hk hK fun O w hK => ⟨v, w, hr w, by rw [listed_none (he w)]; exact gd_none _, next _ _ (hS.rely _ _ _ _ hK (ext_same _ _ _))⟩
/-- An operation that only reads: a value; each entry a read of a cell of its own, or of such as nobody writes. -/
theorem GG.read (hS : Stab i K) {v : Value} (ho : ops[m]? = some o) (hw : Region.wanted o (yielded ops a.tmps) = true) (hk : b.kind ≠ .early) (hK : K O w)
    (h : ∀ O w, K O w → (execOp a.eval o).run P w = .ok (.value v) w ∧ ∀ e ∈ (execOp a.eval o).events P w #[], ∃ ad, e.loc = .cell ad ∧ e.write = false ∧ ad.block < w.heap.size ∧ (O ad.block = .of i ∨ (i = 0 ∧ O ad.block = .still) ∨ rd ad.block))
    (next : ∀ O w, K O w → GG P i rd Stop n (G (b.at (a.put o.dst v) (.inRegion ops rest :: kk)) cs) O w) : GG P i rd Stop (n + 1) (G (b.at a (.inRegion ops (m :: rest) :: kk)) cs) O w :=
  GG.op hS ho hw hk hK fun O w hK => by
    obtain ⟨hr, he⟩ := h O w hK
    refine ⟨v, w, hr, ⟨Nat.le_refl _, fun _ _ _ => rfl, ⟨w.drawn, w.heap, rfl⟩, fun e hm => ?_⟩, next _ _ (hS.rely _ _ _ _ hK (ext_same _ _ _))⟩
    obtain ⟨ad, h1, h2, h3, h4⟩ := he e (mem_listed hm)
    refine .inl ⟨ad, false, e.sync, ?_, h3, ?_⟩
    · obtain ⟨l, wr, s⟩ := e
      simp only at h1 h2
      rw [h1, h2]
    · rw [ext_old h3]
      rcases h4 with h | h
      · exact .inl h
      · exact .inr ⟨rfl, h⟩
end

/-! ### rows of cells -/
theorem add0 (b o j : Nat) : (⟨b, o, none⟩ : Addr).add j = ⟨b, o + j, none⟩ := by
  unfold Addr.add
  split <;> simp_all
/-- These values lie at that place. -/
def At (w : World) (b o : Nat) (vs : List Value) : Prop := ∀ j v, vs[j]? = some v → w.cell? ⟨b, o + j, none⟩ = some v
theorem At.lt {w : World} {b o : Nat} {vs : List Value} (h : At w b o vs) (hn : vs ≠ []) : b < w.heap.size := by
  obtain ⟨v, l, rfl⟩ := List.exists_cons_of_ne_nil hn
  have := h 0 v rfl
  unfold World.cell? at this
  rcases Nat.lt_or_ge b w.heap.size with hb | hb
  · exact hb
  · simp only [Array.getElem?_eq_none hb] at this
    cases this
theorem cell_heap {w w' : World} {b o : Nat} (h : w'.heap[b]? = w.heap[b]?) : w'.cell? ⟨b, o, none⟩ = w.cell? ⟨b, o, none⟩ := by
  unfold World.cell?
  simp only [h]
theorem frozen_heap {w w' : World} {b o : Nat} (h : w'.heap[b]? = w.heap[b]?) : w'.frozen? ⟨b, o, none⟩ = w.frozen? ⟨b, o, none⟩ := by
  unfold World.frozen?
  simp only [h]
theorem At.heap {w w' : World} {b o : Nat} {vs : List Value} (h : At w b o vs) (e : w'.heap[b]? = w.heap[b]?) : At w' b o vs := fun j v hv => by rw [cell_heap e]; exact h j v hv

section
variable {P : Program}
theorem run_loadAgg {t : TypeId} {w : World} {b o : Nat} {vs : List Value} (hagg : (isAgg t).run P w = .ok true w) (hi : (P.info? t).map (·.size) = some vs.length) (h : At w b o vs) :
    (Instr.loadAt t (.pointer (some ⟨b, o, none⟩))).run P w = .ok (.agg vs.toArray) w := by
  have hl : (loadCells ⟨b, o, none⟩ vs.length).run P w = .ok vs.toArray w := run_loadCells_list (P := P) w ⟨b, o, none⟩ vs (fun j v hv => by rw [add0]; exact h j v hv)
  cases hq : P.info? t with
  | none => simp [hq] at hi
  | some ii =>
    have hs : ii.size = vs.length := by simpa [hq] using hi
    simp [Instr.loadAt, Instr.sureAddr, loadVar, Sem.run_bind, hagg, sizeOf, typeInfo, hq, hs, hl]
theorem ev_quiet_isAgg {t : TypeId} {w : World} {es : Array Event} : (isAgg t).events P w es = es := by
  unfold isAgg
  simp [underlying, Sem.events_bind]
  cases P.underlying t <;> simp
  rename_i d
  cases d <;> simp
theorem ev_typeInfo {t : TypeId} {ii : TypeInfo} (h : P.info? t = some ii) {w : World} {es : Array Event} : (typeInfo t).events P w es = es := by
  unfold typeInfo
  simp [h]
theorem run_typeInfo {t : TypeId} {ii : TypeInfo} (h : P.info? t = some ii) {w : World} : (typeInfo t).run P w = .ok ii w := by
  unfold typeInfo
  simp [h]
theorem ev_loadAgg {t : TypeId} {w : World} {b o : Nat} {vs : List Value} (hagg : (isAgg t).run P w = .ok true w) (hi : (P.info? t).map (·.size) = some vs.length) (h : At w b o vs) :
    ∀ e ∈ (Instr.loadAt t (.pointer (some ⟨b, o, none⟩))).events P w #[], e.readsIn (· = b) := by
  intro e he
  cases hq : P.info? t with
  | none => simp [hq] at hi
  | some ii =>
    have hs : ii.size = vs.length := by simpa [hq] using hi
    have key : (Instr.loadAt t (.pointer (some ⟨b, o, none⟩))).events P w #[] = (loadCells ⟨b, o, none⟩ vs.length).events P w #[] := by
      have hl : (loadCells ⟨b, o, none⟩ vs.length).run P w = .ok vs.toArray w := run_loadCells_list (P := P) w ⟨b, o, none⟩ vs (fun j v hv => by rw [add0]; exact h j v hv)
      simp [Instr.loadAt, Instr.sureAddr, loadVar, Sem.events_bind, hagg, ev_quiet_isAgg, sizeOf, ev_typeInfo hq, run_typeInfo hq, hs, hl]
    rw [key] at he
    rcases events_loadCellsFrom_at ⟨b, o, none⟩ (· = b) rfl vs.length 0 #[] w #[] (fun j hj => by rw [add0]; rw [Nat.zero_add, h j vs[j] (List.getElem?_eq_getElem hj)]; rfl) e he with h' | h'
    · simp at h'
    · exact h'
theorem run_load1 {t : TypeId} {w : World} {b o : Nat} {v : Value} (hagg : (isAgg t).run P w = .ok false w) (h : w.cell? ⟨b, o, none⟩ = some v) : (Instr.loadAt t (.pointer (some ⟨b, o, none⟩))).run P w = .ok v w := by
  simp [Instr.loadAt, Instr.sureAddr, loadVar, Sem.run_bind, hagg, h]
theorem ev_load1 {t : TypeId} {w : World} {b o : Nat} {v : Value} (hagg : (isAgg t).run P w = .ok false w) (h : w.cell? ⟨b, o, none⟩ = some v) :
    ∀ e ∈ (Instr.loadAt t (.pointer (some ⟨b, o, none⟩))).events P w #[], e.readsIn (· = b) := by
  intro e he
  have key : (Instr.loadAt t (.pointer (some ⟨b, o, none⟩))).events P w #[] = (load ⟨b, o, none⟩).events P w #[] := by
    simp [Instr.loadAt, Instr.sureAddr, loadVar, Sem.events_bind, hagg, ev_quiet_isAgg]
  rw [key] at he
  rcases events_load_at w _ _ _ h e he with h' | ⟨h1, h2⟩
  · simp at h'
  · exact ⟨_, h1, h2, rfl⟩
theorem run_alloc {t : TypeId} {w : World} {z : Value} {ii : TypeInfo} (h : P.info? t = some ii) (hz : ii.zero = some z) : (Instr.alloc t true (.tuple #[])).run P w = .ok (.pointer (some ⟨w.heap.size, 0, none⟩)) (w.alloc (.cells z.cells t)) := by
  simp [Instr.alloc, zeroValue, Sem.run_bind, run_typeInfo h, hz, newVar, newRow]
theorem ev_alloc {t : TypeId} {w : World} {z : Value} {ii : TypeInfo} (h : P.info? t = some ii) (hz : ii.zero = some z) : (Instr.alloc t true (.tuple #[])).events P w #[] = #[] := by
  simp [Instr.alloc, zeroValue, Sem.events_bind, run_typeInfo h, ev_typeInfo h, hz, newVar, newRow]
theorem run_storeAgg {t ty : TypeId} {w : World} {b : Nat} {old cells : Array Value} {v : Value} (hg : w.heap[b]? = some (.cells old ty (0, 0))) (hi : (P.info? t).map (·.size) = some cells.size) (ho : old.size = cells.size) (h1 : cells.all (·.oneCell') = true) :
    (Instr.storeAt t (.pointer (some ⟨b, 0, none⟩)) (.agg cells)).run P w = .ok () (w.setRow b cells) := by
  simp only [Instr.storeAt, Instr.sureAddr, Sem.run_bind, Sem.run_pure, Result.andThen]
  exact run_storeVar_row w b ty t old cells hg hi ho h1
theorem ev_storeAgg {t ty : TypeId} {w : World} {b : Nat} {old cells : Array Value} (hg : w.heap[b]? = some (.cells old ty (0, 0))) (hi : (P.info? t).map (·.size) = some cells.size) (ho : old.size = cells.size) (h1 : cells.all (·.oneCell') = true) :
    ∀ e ∈ (Instr.storeAt t (.pointer (some ⟨b, 0, none⟩)) (.agg cells)).events P w #[], ∃ ad, e.loc = .cell ad ∧ ad.block = b := by
  intro e he
  cases hq : P.info? t with
  | none => simp [hq] at hi
  | some ii =>
    have hs : ii.size = cells.size := by simpa [hq] using hi
    have key : (Instr.storeAt t (.pointer (some ⟨b, 0, none⟩)) (.agg cells)).events P w #[] = (storeCells ⟨b, 0, none⟩ cells.toList 0).events P w #[] := by
      simp [Instr.storeAt, Instr.sureAddr, storeVar, Sem.events_bind, sizeOf, ev_typeInfo hq, run_typeInfo hq, hs, Value.cells]
    rw [key] at he
    rcases events_storeCells_at b 0 ty cells.toList 0 old w #[] hg (by simp; omega) (fun v hv => (Array.all_eq_true_iff_forall_mem.1 h1) v (by simpa using hv)) e he with h' | h'
    · simp at h'
    · exact h'
end

/-- Blocks that goroutine i may read. -/
def May (i : Nat) (rd : Nat → Prop) (O : Nat → Own) (b : Nat) : Prop := O b = .of i ∨ (i = 0 ∧ O b = .still) ∨ rd b
section
variable {P : Program} {i : Nat} {rd : Nat → Prop} {Stop : Goroutine → (Nat → Own) → World → Prop} {K : (Nat → Own) → World → Prop} {n : Nat} {O : Nat → Own} {w : World}
variable {b : Frame} {a : Act} {kk : List Item} {cs : List Frame} {ops : Array Oper} {m : Nat} {rest : List Nat} {o : Oper}

theorem GG.loadA {t : TypeId} {x : Operand} {b0 off : Nat} {vs : List Value} (hS : Stab i K) (ho : ops[m]? = some o) (hop : o.op = .load t x) (hx : a.eval x = .pointer (some ⟨b0, off, none⟩)) (hw : Region.wanted o (yielded ops a.tmps) = true) (hk : b.kind ≠ .early)
    (hagg : ∀ w, (isAgg t).run P w = .ok true w) (hi : (P.info? t).map (·.size) = some vs.length) (hK : K O w) (hat : ∀ O w, K O w → At w b0 off vs ∧ b0 < w.heap.size ∧ May i rd O b0)
    (next : ∀ O w, K O w → GG P i rd Stop n (G (b.at (a.put o.dst (.agg vs.toArray)) (.inRegion ops rest :: kk)) cs) O w) : GG P i rd Stop (n + 1) (G (b.at a (.inRegion ops (m :: rest) :: kk)) cs) O w := by
  refine GG.read hS ho hw hk hK (fun O w hK => ?_) next
  obtain ⟨h1, h2, h3⟩ := hat O w hK
  have e1 := run_loadAgg (hagg w) hi h1
  have e2 := ev_loadAgg (hagg w) hi h1
  refine ⟨by unfold execOp; simp only [hop, hx]; simp [e1], fun e he => ?_⟩
  have : e ∈ (Instr.loadAt t (.pointer (some ⟨b0, off, none⟩))).events P w #[] := by
    unfold execOp at he; simp only [hop, hx] at he; simpa using he
  obtain ⟨ad, g1, g2, g3⟩ := e2 e this
  exact ⟨ad, g1, g2, by rw [g3]; exact h2, by rw [g3]; exact h3⟩
theorem GG.load1 {t : TypeId} {x : Operand} {b0 off : Nat} {v : Value} (hS : Stab i K) (ho : ops[m]? = some o) (hop : o.op = .load t x) (hx : a.eval x = .pointer (some ⟨b0, off, none⟩)) (hw : Region.wanted o (yielded ops a.tmps) = true) (hk : b.kind ≠ .early)
    (hagg : ∀ w, (isAgg t).run P w = .ok false w) (hK : K O w) (hat : ∀ O w, K O w → w.cell? ⟨b0, off, none⟩ = some v ∧ b0 < w.heap.size ∧ May i rd O b0)
    (next : ∀ O w, K O w → GG P i rd Stop n (G (b.at (a.put o.dst v) (.inRegion ops rest :: kk)) cs) O w) : GG P i rd Stop (n + 1) (G (b.at a (.inRegion ops (m :: rest) :: kk)) cs) O w := by
  refine GG.read hS ho hw hk hK (fun O w hK => ?_) next
  obtain ⟨h1, h2, h3⟩ := hat O w hK
  have e1 := run_load1 (hagg w) h1
  have e2 := ev_load1 (hagg w) h1
  refine ⟨by unfold execOp; simp only [hop, hx]; simp [e1], fun e he => ?_⟩
  have : e ∈ (Instr.loadAt t (.pointer (some ⟨b0, off, none⟩))).events P w #[] := by
    unfold execOp at he; simp only [hop, hx] at he; simpa using he
  obtain ⟨ad, g1, g2, g3⟩ := e2 e this
  exact ⟨ad, g1, g2, by rw [g3]; exact h2, by rw [g3]; exact h3⟩
theorem heap_alloc_old {w : World} {o : Obj} {c : Nat} (h : c < w.heap.size) : (w.alloc o).heap[c]? = w.heap[c]? := by
  show (w.heap.push o)[c]? = _
  simp [Array.getElem?_push, Nat.ne_of_lt h]
theorem size_alloc (w : World) (o : Obj) : (w.alloc o).heap.size = w.heap.size + 1 := by show (w.heap.push o).size = _; simp
theorem alloc_gd {w : World} (o : Obj) : Gd i rd O w (w.alloc o) #[] := ⟨by rw [size_alloc]; omega, fun c hc _ => heap_alloc_old hc, ⟨w.drawn, _, rfl⟩, by simp⟩
theorem alloc_rl {w : World} (o : Obj) : Rl i O w (ext O w i) (w.alloc o) := ext_rl (by rw [size_alloc]; omega) (fun c hc _ => heap_alloc_old hc) ⟨w.drawn, _, rfl⟩
/-- A new variable: it lies in the block that is made now. -/
theorem GG.alloc {t : TypeId} {z : Value} {ii : TypeInfo} (hS : Stab i K) (ho : ops[m]? = some o) (hop : o.op = .alloc t) (hw : Region.wanted o (yielded ops a.tmps) = true) (hk : b.kind ≠ .early) (hi : P.info? t = some ii) (hz : ii.zero = some z) (hK : K O w)
    (next : ∀ O w, K O w → GG P i rd Stop n (G (b.at (a.put o.dst (.pointer (some ⟨w.heap.size, 0, none⟩))) (.inRegion ops rest :: kk)) cs) (ext O w i) (w.alloc (.cells z.cells t))) : GG P i rd Stop (n + 1) (G (b.at a (.inRegion ops (m :: rest) :: kk)) cs) O w :=
  GG.op hS ho hw hk hK fun O w hK => by
    refine ⟨_, _, (by unfold execOp; simp only [hop]; simp [run_alloc hi hz] : (execOp a.eval o).run P w = .ok (.value (.pointer (some ⟨w.heap.size, 0, none⟩))) (w.alloc (.cells z.cells t))), ?_, next O w hK⟩
    rw [listed_none (by unfold execOp; simp only [hop]; simp [ev_alloc hi hz])]
    exact alloc_gd _
/-- A whole row into a block of one's own. -/
theorem GG.storeA {t ty : TypeId} {x y : Operand} {b0 : Nat} {old cells : Array Value} (hS : Stab i K) (ho : ops[m]? = some o) (hop : o.op = .store t x y) (hx : a.eval x = .pointer (some ⟨b0, 0, none⟩)) (hy : a.eval y = .agg cells) (hw : Region.wanted o (yielded ops a.tmps) = true) (hk : b.kind ≠ .early)
    (hi : (P.info? t).map (·.size) = some cells.size) (hsz : old.size = cells.size) (h1 : cells.all (·.oneCell') = true) (hK : K O w) (hat : ∀ O w, K O w → w.heap[b0]? = some (.cells old ty (0, 0)) ∧ O b0 = .of i)
    (next : ∀ O w, K O w → GG P i rd Stop n (G (b.at (a.put o.dst undef) (.inRegion ops rest :: kk)) cs) (ext O w i) (w.setRow b0 cells)) : GG P i rd Stop (n + 1) (G (b.at a (.inRegion ops (m :: rest) :: kk)) cs) O w :=
  GG.opN hS ho hw hk hK fun O w hK => by
    obtain ⟨hg, hO⟩ := hat O w hK
    have hlt : b0 < w.heap.size := (Array.getElem?_eq_some_iff.1 hg).1
    have hh : (w.setRow b0 cells).heap.size = w.heap.size := by simp [World.setRow]
    refine ⟨_, (by unfold execOp; simp only [hop, hx, hy]; simp [run_storeAgg (v := .agg cells) hg hi hsz h1] : (execOp a.eval o).run P w = .ok .skip (w.setRow b0 cells)), ⟨by rw [hh]; exact Nat.le_refl _, fun c hc hne => ?_, ⟨w.drawn, _, rfl⟩, fun e he => ?_⟩, next O w hK⟩
    · have : b0 ≠ c := by rintro rfl; exact hne hO
      simp [World.setRow, Array.getElem?_modify, this]
    · have : e ∈ (Instr.storeAt t (.pointer (some ⟨b0, 0, none⟩)) (.agg cells)).events P w #[] := by
        have he := mem_listed he
        unfold execOp at he; simp only [hop, hx, hy] at he; simpa using he
      obtain ⟨ad, g1, g2⟩ := ev_storeAgg hg hi hsz h1 e this
      obtain ⟨l, wr, s⟩ := e
      simp only at g1
      refine .inl ⟨ad, wr, s, by rw [g1], by rw [hh, g2]; exact hlt, .inl ?_⟩
      rw [g2, ext_old hlt]; exact hO
end
/-- A block of one's own holds this. -/
structure Blk (i b : Nat) (o : Obj) (O : Nat → Own) (w : World) : Prop where
  own : O b = .of i
  row : w.heap[b]? = some o
theorem Blk.lt {i b : Nat} {o : Obj} {O : Nat → Own} {w : World} (h : Blk i b o O w) : b < w.heap.size := (Array.getElem?_eq_some_iff.1 h.row).1
theorem Blk.stab {i b : Nat} {o : Obj} : Stab i (Blk i b o) :=
  ⟨fun O w O₁ w₁ h hr => ⟨(hr.own b h.lt).2 h.own, by rw [hr.keep b h.lt (.inr h.own)]; exact h.row⟩⟩
theorem heapLast (w : World) (o : Obj) : (w.alloc o).heap[w.heap.size]? = some o := by
  show (w.heap.push o)[w.heap.size]? = _
  simp
theorem Blk.new {i : Nat} {o : Obj} {O : Nat → Own} {w : World} : Blk i w.heap.size o (ext O w i) (w.alloc o) := ⟨ext_new (Nat.le_refl _), heapLast w o⟩
theorem Stab.and {i : Nat} {K K' : (Nat → Own) → World → Prop} (h : Stab i K) (h' : Stab i K') : Stab i (fun O w => K O w ∧ K' O w) :=
  ⟨fun O w O₁ w₁ ⟨a, b⟩ hr => ⟨h.rely _ _ _ _ a hr, h'.rely _ _ _ _ b hr⟩⟩
/-- What has become of an earlier world. -/
theorem Stab.since {i : Nat} (O0 : Nat → Own) (w0 : World) : Stab i (Rl i O0 w0) := ⟨fun O w O₁ w₁ h hr => h.trans hr⟩

section
variable {P : Program} {i : Nat} {rd : Nat → Prop} {Stop : Goroutine → (Nat → Own) → World → Prop} {K : (Nat → Own) → World → Prop} {n : Nat} {O : Nat → Own} {w : World}
variable {b : Frame} {a : Act} {kk : List Item} {cs : List Frame} {ops : Array Oper} {m : Nat} {rest : List Nat} {o : Oper}
/-- An operation that makes one block; what was known is kept as 'since then'. -/
theorem GG.new {o' : Obj} {V : Nat → Value} (hS : Stab i K) (ho : ops[m]? = some o) (hw : Region.wanted o (yielded ops a.tmps) = true) (hk : b.kind ≠ .early) (hr : ∀ w, (execOp a.eval o).run P w = .ok (.value (V w.heap.size)) (w.alloc o')) (he : ∀ w, (execOp a.eval o).events P w #[] = #[]) (hK : K O w)
    (next : ∀ O0 w0, K O0 w0 → ∀ O w, Rl i O0 w0 O w ∧ Blk i w0.heap.size o' O w → GG P i rd Stop n (G (b.at (a.put o.dst (V w0.heap.size)) (.inRegion ops rest :: kk)) cs) O w) : GG P i rd Stop (n + 1) (G (b.at a (.inRegion ops (m :: rest) :: kk)) cs) O w :=
  GG.op hS ho hw hk hK fun O w hK => ⟨_, _, hr w, by rw [listed_none (he w)]; exact alloc_gd _, next O w hK _ _ ⟨alloc_rl _, Blk.new⟩⟩
theorem storeAt_cells {t : TypeId} {p v : Value} {cells : Array Value} (hv : v.cells = cells) : Instr.storeAt t p v = Instr.storeAt t p (.agg cells) := by
  unfold Instr.storeAt storeVar
  simp only [hv, show (Value.agg cells).cells = cells from rfl]
/-- A value into a whole block that one has made since then. -/
theorem GG.storeV {t ty : TypeId} {x y : Operand} {b0 : Nat} {old cells : Array Value} {v : Value} {O0 : Nat → Own} {w0 : World} (hb : w0.heap.size ≤ b0) (ho : ops[m]? = some o) (hop : o.op = .store t x y) (hx : a.eval x = .pointer (some ⟨b0, 0, none⟩)) (hy : a.eval y = v) (hv : v.cells = cells) (hw : Region.wanted o (yielded ops a.tmps) = true) (hk : b.kind ≠ .early)
    (hi : (P.info? t).map (·.size) = some cells.size) (hsz : old.size = cells.size) (h1 : cells.all (·.oneCell') = true) (hK : Rl i O0 w0 O w ∧ Blk i b0 (.cells old ty (0, 0)) O w)
    (next : ∀ O w, Rl i O0 w0 O w ∧ Blk i b0 (.cells cells ty (0, 0)) O w → GG P i rd Stop n (G (b.at (a.put o.dst undef) (.inRegion ops rest :: kk)) cs) O w) : GG P i rd Stop (n + 1) (G (b.at a (.inRegion ops (m :: rest) :: kk)) cs) O w :=
  GG.opN (Stab.and (Stab.since O0 w0) Blk.stab) ho hw hk hK fun O w ⟨hR, hB⟩ => by
    have hlt := hB.lt
    have hh : (w.setRow b0 cells).heap.size = w.heap.size := by simp [World.setRow]
    have hne' : ∀ c, b0 ≠ c → (w.setRow b0 cells).heap[c]? = w.heap[c]? := fun c hc => by simp [World.setRow, Array.getElem?_modify, hc]
    refine ⟨_, (by unfold execOp; simp only [hop, hx, hy]; rw [storeAt_cells hv]; simp [run_storeAgg (v := .agg cells) hB.row hi hsz h1] : (execOp a.eval o).run P w = .ok .skip (w.setRow b0 cells)), ⟨by rw [hh]; exact Nat.le_refl _, fun c hc hne => ?_, ⟨w.drawn, _, rfl⟩, fun e he => ?_⟩, next _ _ ⟨?_, ?_⟩⟩
    · exact hne' c (by rintro rfl; exact hne hB.own)
    · have : e ∈ (Instr.storeAt t (.pointer (some ⟨b0, 0, none⟩)) (.agg cells)).events P w #[] := by
        have he := mem_listed he
        unfold execOp at he; simp only [hop, hx, hy] at he; rw [storeAt_cells hv] at he; simpa using he
      obtain ⟨ad, g1, g2⟩ := ev_storeAgg hB.row hi hsz h1 e this
      obtain ⟨l, wr, s⟩ := e
      simp only at g1
      refine .inl ⟨ad, wr, s, by rw [g1], by rw [hh, g2]; exact hlt, .inl ?_⟩
      rw [g2, ext_old hlt]; exact hB.own
    · obtain ⟨d, h, e⟩ := hR.rest
      exact ⟨by rw [hh]; exact hR.size, fun c hc => by rw [ext_old (Nat.lt_of_lt_of_le hc hR.size)]; exact hR.own c hc, fun c hc ho => by rw [hne' c (by omega)]; exact hR.keep c hc ho, d, _, by rw [World.setRow, e]⟩
    · exact ⟨by rw [ext_old hlt]; exact hB.own, setRow_heap w b0 _ _ ty (0, 0) hB.row⟩
end
end Go.Spring
