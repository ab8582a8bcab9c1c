/- The sender's walk: it sends the row's elements, one by one, closes its channel, and leaves. -/
import Derived.Test.YtpoknlbnookhjaaFy
import Derived.Test.YtpoknlbnookhjaaProg
import Derived.Conc.TokenWords
import Derived.KernelRfl
set_option linter.unusedVariables false
set_option linter.unusedSimpArgs false
namespace Go.Proofs.Ytpoknlbnookhjaa.Gt
open Go.Conc Go.RowKit Go.Spring Go.Proofs

noncomputable def bot : Frame := { (default : Frame) with fn := Try.prog.funcs.size, defers := [], mode := .panicking [goexitEntry] }
noncomputable def body13 : Code := Try.f13.body.getD .skip
def b13 : Frame := baseD 13
def call13 (rB kB : Nat) : Deferred := { target := .fn (.func 13) #[.pointer (some ⟨rB, 0, none⟩), .pointer (some ⟨kB, 0, none⟩)], args := #[] }
theorem loud13 : (Try.prog.funcs[b13.fn]?).any (·.norace) = false := by kernel_rfl
noncomputable def LB : Code := match Try.f13.body with | some (.seq (.seq _ (.block _ (.loop c))) _) => c | _ => .skip
noncomputable def R5 : Code := match Try.f13.body with | some (.seq _ c) => c | _ => .skip
theorem born13 (rB kB : Nat) (w : World) : stepG Try.prog false (born Try.prog (call13 rB kB)) w =
    .go (G (b13.at ⟨#[.pointer (some ⟨rB, 0, none⟩), .pointer (some ⟨kB, 0, none⟩), undef, undef, undef, undef, undef, undef, undef, undef, undef, undef, undef, undef], []⟩ [.code body13]) [bot]) w #[] := by
  simp [born, call13, stepG, unwind, callDeferred, invoke, callFunc, Try.func13, Try.f13, seen, GStep.after, G, Frame.enter, Frame.at, b13, baseD, bot, body13]

theorem agg25 (w : World) : (isAgg 25).run Try.prog w = .ok true w := by
  unfold isAgg
  rw [Sem.run_bind, run_underlying Try.underlying25 w]
  rfl
theorem agg22 (w : World) : (isAgg 22).run Try.prog w = .ok false w := by
  unfold isAgg
  rw [Sem.run_bind, run_underlying Try.underlying22 w]
  rfl
theorem agg41 (w : World) : (isAgg 41).run Try.prog w = .ok false w := by
  unfold isAgg
  rw [Sem.run_bind, run_underlying Try.underlying41 w]
  rfl
theorem size25 : (Try.prog.info? 25).map (·.size) = some 7 := by kernel_rfl
def z25 : Value := .agg #[.int .u32 0, .int .u32 0, .int .i64 0, .bool false, .int .u32 0, .int .u32 0, .int .i64 0]
theorem info25 : ∃ ii, Try.prog.info? 25 = some ii ∧ ii.zero = some z25 := by
  have h : (Try.prog.info? 25).map (·.zero) = some (some z25) := by kernel_rfl
  cases e : Try.prog.info? 25 with
  | none => rw [e] at h; cases h
  | some ii => rw [e] at h; exact ⟨ii, rfl, by simpa using h⟩
theorem sendAt_of {P : Program} {b : Frame} {a : Act} {kk : List Item} {cs : List Frame} {ops : Array Oper} {i : Nat} {rest : List Nat} {o : Oper} {j c : Nat} {v z' : Value} {After : Goroutine → (Nat → Own) → World → Prop} {O : Nat → Own} {w : World}
    (ho : ops[i]? = some o) (hw : Region.wanted o (yielded ops a.tmps) = true) (hk : b.kind ≠ .early) (hr : ∀ w, (execOp a.eval o).run P w = .ok (.comm #[scase c v z'] true .send) w) (he : ∀ w, (execOp a.eval o).events P w #[] = #[])
    (h : ∀ O₁ w₁, Rl j O w O₁ w₁ → After (Go.Conc.served (G (b.at a (.inRegion ops (i :: rest) :: kk)) cs) undef) O₁ w₁) : SendAt P j c v After (G (b.at a (.inRegion ops (i :: rest) :: kk)) cs) O w :=
  ⟨rfl, _, z', fun w => by rw [stepG_comm ho hw hk (hr w), listed_none (he w)], h⟩
theorem GG.more {P : Program} {i : Nat} {rd : Nat → Prop} {Stop : Goroutine → (Nat → Own) → World → Prop} : ∀ {n : Nat} {g : Goroutine} {O : Nat → Own} {w : World}, GG P i rd Stop n g O w → GG P i rd Stop (n + 1) g O w
  | 0, g, O, w, h => .inl h
  | n + 1, g, O, w, h => by
    rcases h with h | ⟨hs, h⟩
    · exact .inl h
    · refine .inr ⟨hs, fun O₁ w₁ h₁ => ?_⟩
      have := h O₁ w₁ h₁
      revert this
      cases stepG P (i == 0) g w₁ <;> simp only [GStep.goes, imp_self]
      exact fun ⟨d, x⟩ => ⟨d, GG.more x⟩
theorem GG.le {P : Program} {i : Nat} {rd : Nat → Prop} {Stop : Goroutine → (Nat → Own) → World → Prop} {n m : Nat} {g : Goroutine} {O : Nat → Own} {w : World} (h : GG P i rd Stop n g O w) (hl : n ≤ m) : GG P i rd Stop m g O w := by
  obtain ⟨k, rfl⟩ := Nat.le.dest hl
  induction k with
  | zero => exact h
  | succ k ih => exact GG.more (ih (by omega))
/-- The stop of whoever still has these to send. -/
def StopF (P : Program) (j : Nat) (rd : Nat → Prop) (c N M : Nat) : List Value → Goroutine → (Nat → Own) → World → Prop
  | [] => CloseAt P c M
  | v :: vs => SendAt P j c v (fun g O w => Feeds P j rd c N M vs N g O w)
theorem feeds_eq {P : Program} {j : Nat} {rd : Nat → Prop} {c N M : Nat} (vs : List Value) (n : Nat) (g : Goroutine) (O : Nat → Own) (w : World) : Feeds P j rd c N M vs n g O w = GG P j rd (StopF P j rd c N M vs) n g O w := by cases vs <;> rfl

/-- What the sender leans on: the two variables that it captured, and the row's elements. -/
structure KJ (j rB kB c : Nat) (s : Option Addr) (len cap : Nat) (f : Nat → List Value) (rd : Nat → Prop) (O : Nat → Own) (w : World) : Prop where
  r : w.cell? ⟨rB, 0, none⟩ = some (.slice s len cap)
  rO : O rB = .still ∧ rB < w.heap.size ∧ rd rB
  k : w.cell? ⟨kB, 0, none⟩ = some (.chan (some c))
  kO : O kB = .still ∧ kB < w.heap.size ∧ rd kB
  el : ∀ i, i < len → ∃ ab ao, s = some ⟨ab, ao, none⟩ ∧ At w ab (ao + i * 7) (f i) ∧ O ab = .still ∧ ab < w.heap.size ∧ rd ab
section
variable {j rB kB c : Nat} {s : Option Addr} {len cap : Nat} {f : Nat → List Value} {rd : Nat → Prop}
theorem KJ.stab : Stab j (KJ j rB kB c s len cap f rd) := by
  refine ⟨fun O w O₁ w₁ h hr => ?_⟩
  have e1 := hr.keep rB h.rO.2.1 (.inl h.rO.1)
  have e2 := hr.keep kB h.kO.2.1 (.inl h.kO.1)
  refine ⟨by rw [cell_heap e1]; exact h.r, ⟨(hr.own _ h.rO.2.1).1 h.rO.1, Nat.lt_of_lt_of_le h.rO.2.1 hr.size, h.rO.2.2⟩, by rw [cell_heap e2]; exact h.k, ⟨(hr.own _ h.kO.2.1).1 h.kO.1, Nat.lt_of_lt_of_le h.kO.2.1 hr.size, h.kO.2.2⟩, fun i hi => ?_⟩
  obtain ⟨ab, ao, h1, h2, h3, h4, h5⟩ := h.el i hi
  exact ⟨ab, ao, h1, h2.heap (hr.keep ab h4 (.inl h3)), (hr.own ab h4).1 h3, Nat.lt_of_lt_of_le h4 hr.size, h5⟩
theorem KJ.still {O O₁ : Nat → Own} {w w₁ : World} (h : KJ j rB kB c s len cap f rd O w) (hs : w₁.heap.size = w.heap.size) (ho : ∀ b, b < w.heap.size → O b = .still → O₁ b = .still) (hk : ∀ b, b < w.heap.size → O b = .still → w₁.heap[b]? = w.heap[b]?) : KJ j rB kB c s len cap f rd O₁ w₁ := by
  have e1 := hk rB h.rO.2.1 h.rO.1
  have e2 := hk kB h.kO.2.1 h.kO.1
  refine ⟨by rw [cell_heap e1]; exact h.r, ⟨ho _ h.rO.2.1 h.rO.1, by rw [hs]; exact h.rO.2.1, h.rO.2.2⟩, by rw [cell_heap e2]; exact h.k, ⟨ho _ h.kO.2.1 h.kO.1, by rw [hs]; exact h.kO.2.1, h.kO.2.2⟩, fun i hi => ?_⟩
  obtain ⟨ab, ao, h1, h2, h3, h4, h5⟩ := h.el i hi
  exact ⟨ab, ao, h1, h2.heap (hk ab h4 h3), ho ab h4 h3, by rw [hs]; exact h4, h5⟩
/-- .. and its own variable, in block b3, holds these cells. -/
structure KO (j b3 : Nat) (cs : Array Value) (O : Nat → Own) (w : World) : Prop where
  own : O b3 = .of j
  row : w.heap[b3]? = some (.cells cs 25 (0, 0))
theorem KO.stab {b3 : Nat} {cs : Array Value} : Stab j (KO j b3 cs) := by
  refine ⟨fun O w O₁ w₁ h hr => ?_⟩
  have hlt : b3 < w.heap.size := (Array.getElem?_eq_some_iff.1 h.row).1
  exact ⟨(hr.own b3 hlt).2 h.own, by rw [hr.keep b3 hlt (.inr h.own)]; exact h.row⟩
theorem KO.at {b3 : Nat} {cs : Array Value} {O : Nat → Own} {w : World} (h : KO j b3 cs O w) : At w b3 0 cs.toList := by
  intro i v hv
  unfold World.cell?
  simp only [h.row, Nat.zero_add]
  simpa using hv

/-- What is still to be sent. -/
def vsFrom (f : Nat → List Value) (len i : Nat) : List Value := (List.range' i (len - i)).map fun k => .agg (f k).toArray
theorem vsFrom_cons {i : Nat} (h : i < len) : vsFrom f len i = .agg (f i).toArray :: vsFrom f len (i + 1) := by
  unfold vsFrom
  rw [show len - i = (len - (i + 1)) + 1 by omega, List.range'_succ]
  rfl
theorem vsFrom_nil {i : Nat} (h : len ≤ i) : vsFrom f len i = [] := by
  unfold vsFrom
  rw [show len - i = 0 by omega]
  rfl

/-- The sender at its loop's head. -/
noncomputable def RL (rB kB : Nat) (s : Option Addr) (len cap i : Nat) (j2 j3 j7 j8 j9 j10 j11 j12 j13 : Value) : Goroutine :=
  G (b13.at ⟨#[.pointer (some ⟨rB, 0, none⟩), .pointer (some ⟨kB, 0, none⟩), j2, j3, .slice s len cap, .int .i64 len, .int .i64 i, j7, j8, j9, j10, j11, j12, j13], []⟩ [.code LB, .inLoop LB, .inBlock 0, .code R5]) [bot]

theorem quits13 (T : Array Value) : QuitsD Try.prog 2 0 (G { b13.at ⟨T, []⟩ [] with mode := .returning } [bot]) := by
  refine QuitsD.ctl (g' := G bot []) rfl (fun w => ?_) ?_
  · simp [G, stepG, unwind, doReturn, results, Frame.at, b13, baseD, bot, Try.func13, Try.f13, seen, GStep.after, goexitEntry]
  refine QuitsD.ctl (g' := { G bot [] with status := .finished }) rfl (fun w => ?_) ⟨rfl, rfl⟩
  simp [G, stepG, unwind, bot, goexitEntry, Frame.catches]
  rfl

set_option maxRecDepth 100000 in
theorem at_head (hj : j ≠ 0) (hlen : len < 1000000) (hf : ∀ k, k < len → (f k).length = 7 ∧ ∀ v ∈ f k, v.oneCell' = true) : ∀ (n i : Nat), n = len - i → i ≤ len → ∀ (j2 j3 j7 j8 j9 j10 j11 j12 j13 : Value) (O : Nat → Own) (w : World),
    KJ j rB kB c s len cap f rd O w → Feeds Try.prog j rd c 40 4 (vsFrom f len i) 20 (RL rB kB s len cap i j2 j3 j7 j8 j9 j10 j11 j12 j13) O w
  | 0, i, hn, hi, j2, j3, j7, j8, j9, j10, j11, j12, j13, O, w, hK => by
    rw [vsFrom_nil (by omega)]
    show GG _ _ _ _ _ _ _ _
    have hS := KJ.stab (j := j) (rB := rB) (kB := kB) (c := c) (s := s) (len := len) (cap := cap) (f := f) (rd := rd)
    have hj0 : (j == 0) = false := by simpa using hj
    have hlt : ((i : Int) < (len : Int)) = False := by simp; omega
    unfold RL
    refine GG.ctl hS rfl (fun w => stepG_seq) hK fun O w hK => ?_
    refine GG.ctl hS rfl (fun w => stepG_region) hK fun O w hK => ?_
    refine GG.pure hS (v := .bool false) rfl rfl (by decide) (fun w => by simp [go_sem, execOp, Act.eval, hlt]) (fun w => by simp [go_sem, execOp, Act.eval, hlt]) hK fun O w hK => ?_
    walk_nrm
    refine GG.ctl hS rfl (fun w => stepG_region_end) hK fun O w hK => ?_
    refine GG.ctl hS rfl (fun w => stepG_seq) hK fun O w hK => ?_
    refine GG.ctl hS rfl (fun w => stepG_cond (t := false) rfl) hK fun O w hK => ?_
    refine GG.ctl hS rfl (fun w => stepG_exit rfl) hK fun O w hK => ?_
    refine GG.ctl hS rfl (fun w => stepG_region) hK fun O w hK => ?_
    refine GG.load1 hS (v := .chan (some c)) (b0 := kB) (off := 0) rfl rfl rfl rfl (by decide) agg41 hK (fun O w hK => ⟨hK.k, hK.kO.2.1, .inr (.inr hK.kO.2.2)⟩) fun O w hK => ?_
    walk_nrm
    refine GG.stop fun O₁ w₁ h₁ => ⟨rfl, rfl, _, rfl, ?_, fun w₁ k hc => stepG_close (main := false) rfl rfl (by decide) rfl rfl hc loud13⟩
    refine QuitsD.ctl rfl (fun w => stepG_region_end) ?_
    refine QuitsD.ctl rfl (fun w => stepG_end) ?_
    exact quits13 _
  | n + 1, i, hn, hi, j2, j3, j7, j8, j9, j10, j11, j12, j13, O, w, hK => by
    rw [vsFrom_cons (by omega)]
    show GG _ _ _ _ _ _ _ _
    obtain ⟨ab, ao, es, _⟩ := hK.el i (by omega)
    have hS := KJ.stab (j := j) (rB := rB) (kB := kB) (c := c) (s := s) (len := len) (cap := cap) (f := f) (rd := rd)
    have hj0 : (j == 0) = false := by simpa using hj
    have hlt : ((i : Int) < (len : Int)) = True := by simp; omega
    have ewrap : IntKind.i64.wrap ((i : Int) + 1) = ((i + 1 : Nat) : Int) := by rw [IntKind.wrap_i64]; omega
    obtain ⟨hl7, h1c⟩ := hf i (by omega)
    unfold RL
    refine GG.ctl hS rfl (fun w => stepG_seq) hK fun O w hK => ?_
    refine GG.ctl hS rfl (fun w => stepG_region) hK fun O w hK => ?_
    refine GG.pure hS (v := .bool true) rfl rfl (by decide) (fun w => by simp [go_sem, execOp, Act.eval, hlt]) (fun w => by simp [go_sem, execOp, Act.eval, hlt]) hK fun O w hK => ?_
    walk_nrm
    refine GG.ctl hS rfl (fun w => stepG_region_end) hK fun O w hK => ?_
    refine GG.ctl hS rfl (fun w => stepG_seq) hK fun O w hK => ?_
    refine GG.ctl hS rfl (fun w => stepG_cond (t := true) rfl) hK fun O w hK => ?_
    refine GG.ctl hS rfl (fun w => stepG_skip) hK fun O w hK => ?_
    refine GG.ctl hS rfl (fun w => stepG_seq) hK fun O w hK => ?_
    refine GG.ctl hS rfl (fun w => stepG_block) hK fun O w hK => ?_
    refine GG.ctl hS rfl (fun w => stepG_seq) hK fun O w hK => ?_
    refine GG.ctl hS rfl (fun w => stepG_region) hK fun O w hK => ?_
    refine GG.pure hS (v := .pointer (some ⟨ab, ao + i * 7, none⟩)) rfl rfl (by decide) (fun w => by simp [go_sem, execOp, Act.eval, hlt, es]) (fun w => by simp [go_sem, execOp, Act.eval, hlt, es]) hK fun O w hK => ?_
    walk_nrm
    refine GG.loadA hS (t := 25) (x := .tmp 8) (b0 := ab) (off := ao + i * 7) (vs := f i) rfl rfl rfl rfl (by decide) agg25 (by rw [hl7]; exact size25) hK (fun O w hK => ?_) fun O w hK => ?_
    · obtain ⟨ab', ao', e, h2, h3, h4, h5⟩ := hK.el i (by omega)
      rw [es] at e
      simp only [Option.some.injEq, Addr.mk.injEq, and_true] at e
      obtain ⟨rfl, rfl⟩ := e
      exact ⟨h2, h4, .inr (.inr h5)⟩
    walk_nrm
    obtain ⟨ii, hi1, hi2⟩ := info25
    refine GG.alloc hS (t := 25) rfl rfl rfl (by decide) hi1 hi2 hK fun O w hK => ?_
    walk_nrm
    obtain ⟨b3, eb3⟩ : ∃ b3, b3 = w.heap.size := ⟨_, rfl⟩
    have hO : KO j b3 z25.cells (ext O w j) (w.alloc (.cells z25.cells 25)) := ⟨by rw [eb3]; exact ext_new (Nat.le_refl _), by rw [eb3]; exact heapLast w _⟩
    replace hK := hS.rely _ _ _ _ hK (alloc_rl (i := j) (O := O) (w := w) (.cells z25.cells 25))
    rw [← eb3]
    generalize ext O w j = O at hK hO ⊢
    generalize w.alloc (.cells z25.cells 25) = w at hK hO ⊢
    have hSO := Stab.and hS (KO.stab (j := j) (b3 := b3) (cs := z25.cells))
    have hKO := And.intro hK hO
    refine GG.storeA hSO (t := 25) (ty := 25) (x := .tmp 3) (y := .tmp 9) (b0 := b3) (old := z25.cells) (cells := (f i).toArray) rfl rfl rfl rfl rfl (by decide) (by rw [List.size_toArray, hl7]; exact size25) (by show 7 = _; rw [List.size_toArray, hl7]) (by rw [Array.all_eq_true_iff_forall_mem]; intro v hv; exact h1c v (by simpa using hv)) hKO (fun O w hK => ⟨hK.2.row, hK.2.own⟩) fun O w hK => ?_
    have hlt3 : b3 < w.heap.size := (Array.getElem?_eq_some_iff.1 hK.2.row).1
    have hO : KO j b3 (f i).toArray (ext O w j) (w.setRow b3 (f i).toArray) := ⟨by rw [ext_old hlt3]; exact hK.2.own, setRow_heap w b3 _ _ 25 (0, 0) hK.2.row⟩
    have hK1 : KJ j rB kB c s len cap f rd (ext O w j) (w.setRow b3 (f i).toArray) := by
      refine KJ.still hK.1 (by simp [World.setRow]) (fun b hb ho => by rw [ext_old hb]; exact ho) fun b hb ho => ?_
      have : b3 ≠ b := by rintro rfl; rw [hK.2.own] at ho; cases ho
      simp [World.setRow, Array.getElem?_modify, this]
    replace hK := And.intro hK1 hO
    generalize ext O w j = O at hK ⊢
    generalize w.setRow b3 (f i).toArray = w at hK ⊢
    clear hO hK1 hlt3 hKO
    have hSO := Stab.and hS (KO.stab (j := j) (b3 := b3) (cs := (f i).toArray))
    walk_nrm
    refine GG.ctl hSO rfl (fun w => stepG_region_end) hK fun O w hK => ?_
    refine GG.ctl hSO rfl (fun w => stepG_region) hK fun O w hK => ?_
    refine GG.load1 hSO (v := .chan (some c)) (b0 := kB) (off := 0) rfl rfl rfl rfl (by decide) agg41 hK (fun O w hK => ⟨hK.1.k, hK.1.kO.2.1, .inr (.inr hK.1.kO.2.2)⟩) fun O w hK => ?_
    walk_nrm
    refine GG.loadA hSO (t := 25) (x := .tmp 3) (b0 := b3) (off := 0) (vs := f i) rfl rfl rfl rfl (by decide) agg25 (by rw [hl7]; exact size25) hK (fun O w hK => ⟨by have := hK.2.at; simpa using this, (Array.getElem?_eq_some_iff.1 hK.2.row).1, .inl hK.2.own⟩) fun O w hK => ?_
    walk_nrm
    refine GG.stop fun O₁ w₁ h₁ => sendAt_of (z' := .tuple #[]) rfl rfl (by decide) (fun w => by simp [execOp, scase, Act.eval]) (fun w => by simp [go_sem, execOp, Act.eval]) fun O₂ w₂ h₂ => ?_
    replace hK := hS.rely _ _ _ _ hK.1 (h₁.trans h₂)
    generalize O₂ = O at hK ⊢
    generalize w₂ = w at hK ⊢
    rw [served_fr, Frame.finish_at, feeds_eq]
    walk_nrm
    refine GG.ctl hS rfl (fun w => stepG_region_end) hK fun O w hK => ?_
    refine GG.ctl hS rfl (fun w => stepG_inBlock) hK fun O w hK => ?_
    refine GG.ctl hS rfl (fun w => stepG_region) hK fun O w hK => ?_
    refine GG.pure hS (v := .int .i64 ((i + 1 : Nat) : Int)) rfl rfl (by decide) (fun w => by simp [go_sem, execOp, Act.eval, ewrap]) (fun w => by simp [go_sem, execOp, Act.eval, ewrap]) hK fun O w hK => ?_
    walk_nrm
    refine GG.pure hS (v := .int .i64 ((i + 1 : Nat) : Int)) rfl rfl (by decide) (fun w => by simp [go_sem, execOp, Act.eval]) (fun w => by simp [go_sem, execOp, Act.eval]) hK fun O w hK => ?_
    walk_nrm
    refine GG.ctl hS rfl (fun w => stepG_region_end) hK fun O w hK => ?_
    refine GG.ctl hS rfl (fun w => stepG_inLoop) hK fun O w hK => ?_
    have := at_head hj hlen hf n (i + 1) (by omega) (by omega) j2 (.pointer (some ⟨b3, 0, none⟩)) (.bool true) (.pointer (some ⟨ab, ao + i * 7, none⟩)) (.agg (f i).toArray) (.chan (some c)) (.agg (f i).toArray) (.int .i64 ((i + 1 : Nat) : Int)) j13 O w hK
    rw [feeds_eq] at this
    exact GG.le this (by omega)

set_option maxRecDepth 100000 in
/-- From its birth. -/
theorem at_birth (hj : j ≠ 0) (hlen : len < 1000000) (hf : ∀ k, k < len → (f k).length = 7 ∧ ∀ v ∈ f k, v.oneCell' = true) (O : Nat → Own) (w : World) (hK : KJ j rB kB c s len cap f rd O w) : Feeds Try.prog j rd c 40 4 (vsFrom f len 0) 40 (born Try.prog (call13 rB kB)) O w := by
  rw [feeds_eq]
  have hS := KJ.stab (j := j) (rB := rB) (kB := kB) (c := c) (s := s) (len := len) (cap := cap) (f := f) (rd := rd)
  have hj0 : (j == 0) = false := by simpa using hj
  refine GG.ctl hS rfl (fun w => by rw [hj0]; exact born13 rB kB w) hK fun O w hK => ?_
  refine GG.ctl hS rfl (fun w => stepG_seq) hK fun O w hK => ?_
  refine GG.ctl hS rfl (fun w => stepG_seq) hK fun O w hK => ?_
  refine GG.ctl hS rfl (fun w => stepG_region) hK fun O w hK => ?_
  refine GG.load1 hS (t := 22) (v := .slice s len cap) (b0 := rB) (off := 0) rfl rfl rfl rfl (by decide) agg22 hK (fun O w hK => ⟨hK.r, hK.rO.2.1, .inr (.inr hK.rO.2.2)⟩) fun O w hK => ?_
  walk_nrm
  refine GG.pure hS (v := .int .i64 len) rfl rfl (by decide) (fun w => by simp [go_sem, execOp, Act.eval]) (fun w => by simp [go_sem, execOp, Act.eval]) hK fun O w hK => ?_
  walk_nrm
  refine GG.pure hS (v := .int .i64 ((0 : Nat) : Int)) rfl rfl (by decide) (fun w => by simp [go_sem, execOp, Act.eval]) (fun w => by simp [go_sem, execOp, Act.eval]) hK fun O w hK => ?_
  walk_nrm
  refine GG.ctl hS rfl (fun w => stepG_region_end) hK fun O w hK => ?_
  refine GG.ctl hS rfl (fun w => stepG_block) hK fun O w hK => ?_
  refine GG.ctl hS rfl (fun w => stepG_loop) hK fun O w hK => ?_
  have := at_head hj hlen hf len 0 (by omega) (by omega) undef undef undef undef undef undef undef undef undef O w hK
  rw [feeds_eq] at this
  exact GG.le this (by omega)
end
end Go.Proofs.Ytpoknlbnookhjaa.Gt
