/- Goroutine 0 starts a sender: the walk of 'send'. -/
import Derived.Test.YtpoknlbnookhjaaFx
set_option linter.unusedVariables false
set_option linter.unusedSimpArgs false
namespace Go.Proofs.Ytpoknlbnookhjaa.Gt
open Go.Conc Go.RowKit Go.Spring Go.Proofs

section
variable {P : Program} {i : Nat} {rd : Nat → Prop} {Stop : Goroutine → (Nat → Own) → World → Prop} {K : (Nat → Own) → World → Prop} {n : Nat} {O : Nat → Own} {w : World}
variable {b : Frame} {a : Act} {kk : List Item} {cs : List Frame} {ops : Array Oper} {m : Nat} {rest : List Nat} {o : Oper}
/-- A call of a Go function. -/
theorem stepG_callF {main : Bool} {o : Oper} {f : FuncId} {fn : Func} {c : Code} {args : Array Operand} {ats : Array TypeId} (ho : ops[m]? = some o) (hw : Region.wanted o (yielded ops a.tmps) = true) (hk : b.kind ≠ .early) (hop : o.op = .call { callee := .value (.func f), args, argTypes := ats })
    (hf : P.funcs[f]? = some fn) (hname : (fn.name == "runtime.NumGoroutine") = false) (hb : fn.body = some c) (w : World) :
    stepG P main (G (b.at a (.inRegion ops (m :: rest) :: kk)) cs) w = .go (G ((base f).at { tmps := args.map a.eval ++ Array.replicate (fn.ntmps - (args.map a.eval).size) undef, defers := [] } [.code c]) (b.at a (.inRegion ops (m :: rest) :: kk) :: cs)) w #[] := by
  have := goes_call (P := P) (main := main) (b := b) (a := a) (k := kk) (cs := cs) (w := w) (rest := rest) (K := fun g' w' es => g' = _ ∧ w' = w ∧ es = #[]) ho hw hk hop hf hname hb ⟨rfl, rfl, rfl⟩
  revert this
  cases stepG P main (G (b.at a (.inRegion ops (m :: rest) :: kk)) cs) w <;> simp only [GStep.goes, false_implies]
  rintro ⟨rfl, rfl, rfl⟩; rfl
end

noncomputable def body12 : Code := Try.f12.body.getD .skip
theorem run_box {t : TypeId} {v : Value} {w : World} : (Instr.box t v).run Try.prog w = .ok (.pointer (some ⟨w.heap.size, 0, none⟩)) (w.alloc (.cells v.cells t)) := by
  simp [Instr.box, newVar, newRow]
theorem info41 : ∃ ii, Try.prog.info? 41 = some ii ∧ ii.zero = some (.chan none) := by
  have h : (Try.prog.info? 41).map (·.zero) = some (some (.chan none)) := by kernel_rfl
  cases e : Try.prog.info? 41 with
  | none => rw [e] at h; cases h
  | some ii => rw [e] at h; exact ⟨ii, rfl, by simpa using h⟩
theorem size41 : (Try.prog.info? 41).map (·.size) = some 1 := by kernel_rfl
theorem chan41 (w : World) : (Instr.makeChan 41 (.int .i64 0)).run Try.prog w = .ok (.chan (some w.heap.size)) (w.alloc (.chan 0 #[] false 0 0 false)) := by
  obtain ⟨ii, h1, _⟩ := info25
  unfold Instr.makeChan
  simp [asInt, asIntOf, Sem.run_bind, run_underlying Try.underlying41 w, run_typeInfo h1, IntKind.max, IntKind.bits, IntKind.signed]
theorem chan41e (w : World) : (Instr.makeChan 41 (.int .i64 0)).events Try.prog w #[] = #[] := by
  obtain ⟨ii, h1, _⟩ := info25
  unfold Instr.makeChan
  simp [asInt, asIntOf, Sem.events_bind, run_underlying Try.underlying41 w, run_typeInfo h1, ev_typeInfo h1, underlying, Try.underlying41, IntKind.max, IntKind.bits, IntKind.signed]

/-- Goroutine 0 stands at the go statement that starts a sender. -/
def GoAt (K : (Nat → Own) → World → Prop) (s : Option Addr) (len cap : Nat) (After : Nat → Nat → Goroutine → Prop) (g : Goroutine) (O : Nat → Own) (w : World) : Prop :=
  g.status = .running ∧ ∃ a' rB c kB, (∀ w₁, stepG Try.prog true g w₁ = .spawn a' (born Try.prog (call13 rB kB)) w₁ #[]) ∧ After c kB a' ∧ K O w ∧ Blk 0 rB (.cells #[.slice s len cap] 22 (0, 0)) O w ∧ Blk 0 c (.chan 0 #[] false 0 0 false) O w ∧ Blk 0 kB (.cells #[.chan (some c)] 41 (0, 0)) O w
/-- .. behind it. -/
noncomputable def G12 (rB c kB : Nat) (s : Option Addr) (len cap : Nat) (cs : List Frame) : Goroutine :=
  G ((base 12).at ⟨#[.slice s len cap, .pointer (some ⟨rB, 0, none⟩), .chan none, .pointer (some ⟨kB, 0, none⟩), .chan (some c), .func (.func 13) #[] #[.pointer (some ⟨rB, 0, none⟩), .pointer (some ⟨kB, 0, none⟩)], undef], []⟩ (match Try.f12.body with | some (.seq _ (.seq _ (.seq (.region _ o2 _) c3))) => [.inRegion o2 [], .code c3] | _ => [])) cs

set_option maxRecDepth 100000 in
theorem send_go {K : (Nat → Own) → World → Prop} (hS : Stab 0 K) (s : Option Addr) (len cap : Nat) (cs : List Frame) (O : Nat → Own) (w : World) (hK : K O w) :
    GG Try.prog 0 (fun _ => False) (GoAt K s len cap fun c kB g => ∃ rB, g = G12 rB c kB s len cap cs) 30 (G ((base 12).at ⟨#[.slice s len cap, undef, undef, undef, undef, undef, undef], []⟩ [.code body12]) cs) O w := by
  refine GG.ctl hS rfl (fun w => stepG_seq) hK fun O w hK => ?_
  refine GG.ctl hS rfl (fun w => stepG_region) hK fun O w hK => ?_
  refine GG.new hS (V := fun N => .pointer (some ⟨N, 0, none⟩)) (o' := .cells #[.slice s len cap] 22) rfl rfl (by decide) (fun w => by unfold execOp; simp [Act.eval, run_box, Value.cells]) (fun w => by unfold execOp; simp [Act.eval, Instr.box, newVar, newRow]) hK fun O0 w0 hK0 O w hK => ?_
  walk_nrm
  obtain ⟨rB, erB⟩ : ∃ N, N = w0.heap.size := ⟨_, rfl⟩
  rw [← erB] at hK ⊢
  replace hK := And.intro (hS.rely _ _ _ _ hK0 hK.1) hK.2
  have hS := Stab.and hS (Blk.stab (i := 0) (b := rB) (o := .cells #[.slice s len cap] 22))
  clear hK0
  refine GG.pure hS (v := .chan none) rfl rfl (by decide) (fun w => by simp [go_sem, execOp, Act.eval]) (fun w => by simp [go_sem, execOp, Act.eval]) hK fun O w hK => ?_
  walk_nrm
  refine GG.ctl hS rfl (fun w => stepG_region_end) hK fun O w hK => ?_
  refine GG.ctl hS rfl (fun w => stepG_seq) hK fun O w hK => ?_
  refine GG.ctl hS rfl (fun w => stepG_region) hK fun O w hK => ?_
  refine GG.new hS (V := fun N => .chan (some N)) (o' := .chan 0 #[] false 0 0 false) rfl rfl (by decide) (fun w => by unfold execOp; simp [Act.eval, chan41]) (fun w => by unfold execOp; simp [Act.eval, chan41e]) hK fun O0 w0 hK0 O w hK => ?_
  walk_nrm
  obtain ⟨c, ec⟩ : ∃ N, N = w0.heap.size := ⟨_, rfl⟩
  rw [← ec] at hK ⊢
  replace hK := And.intro (hS.rely _ _ _ _ hK0 hK.1) hK.2
  have hS := Stab.and hS (Blk.stab (i := 0) (b := c) (o := .chan 0 #[] false 0 0 false))
  clear hK0
  obtain ⟨ii, hi1, hi2⟩ := info41
  refine GG.new hS (V := fun N => .pointer (some ⟨N, 0, none⟩)) (o' := .cells #[.chan none] 41) rfl rfl (by decide) (fun w => by unfold execOp; simp [Act.eval, run_alloc hi1 hi2, Value.cells]) (fun w => by unfold execOp; simp [Act.eval, ev_alloc hi1 hi2]) hK fun O0 w0 hK0 O w hK => ?_
  walk_nrm
  obtain ⟨kB, ekB⟩ : ∃ N, N = w0.heap.size := ⟨_, rfl⟩
  rw [← ekB] at hK ⊢
  refine GG.storeV (by omega) (t := 41) (ty := 41) (x := .tmp 3) (y := .tmp 4) (b0 := kB) (old := #[.chan none]) (cells := #[.chan (some c)]) (v := .chan (some c)) rfl rfl rfl rfl rfl rfl (by decide) size41 rfl (by simp [Value.oneCell']) hK fun O w hK => ?_
  walk_nrm
  replace hK := And.intro (hS.rely _ _ _ _ hK0 hK.1) hK.2
  have hS := Stab.and hS (Blk.stab (i := 0) (b := kB) (o := .cells #[.chan (some c)] 41))
  clear hK0
  refine GG.ctl hS rfl (fun w => stepG_region_end) hK fun O w hK => ?_
  refine GG.ctl hS rfl (fun w => stepG_seq) hK fun O w hK => ?_
  refine GG.ctl hS rfl (fun w => stepG_region) hK fun O w hK => ?_
  refine GG.pure hS (v := .func (.func 13) #[] #[.pointer (some ⟨rB, 0, none⟩), .pointer (some ⟨kB, 0, none⟩)]) rfl rfl (by decide) (fun w => by simp [go_sem, execOp, Act.eval, Instr.makeFunc]) (fun w => by simp [go_sem, execOp, Act.eval, Instr.makeFunc]) hK fun O w hK => ?_
  walk_nrm
  refine GG.stop fun O₁ w₁ h₁ => ?_
  obtain ⟨⟨⟨hK0, hr⟩, hc⟩, hk⟩ := hS.rely _ _ _ _ hK h₁
  refine ⟨rfl, G12 rB c kB s len cap cs, rB, c, kB, fun w => ?_, ⟨rB, rfl⟩, hK0, hr, hc, hk⟩
  rw [stepG_spawn (d := call13 rB kB) (w' := w) (f := .func 13) (c := #[.pointer (some ⟨rB, 0, none⟩), .pointer (some ⟨kB, 0, none⟩)]) rfl rfl (by decide) (by simp [go_sem, execOp, call13, Deferred.ofValue, Act.eval]) rfl, listed_none (by simp [go_sem, execOp, Deferred.ofValue, Act.eval])]
  rfl

/-- What goroutine 0 knows behind the go statement: the captured variable holds the channel, and nobody writes it. -/
structure Kv (kB c : Nat) (O : Nat → Own) (w : World) : Prop where
  own : O kB = .still
  lt : kB < w.heap.size
  cell : w.cell? ⟨kB, 0, none⟩ = some (.chan (some c))
theorem Kv.stab {i kB c : Nat} : Stab i (Kv kB c) := ⟨fun O w O₁ w₁ h hr => ⟨(hr.own kB h.lt).1 h.own, Nat.lt_of_lt_of_le h.lt hr.size, by rw [cell_heap (hr.keep kB h.lt (.inl h.own))]; exact h.cell⟩⟩
set_option maxRecDepth 100000 in
/-- Behind the go statement it goes back to its caller with the channel. -/
theorem send_back {K : (Nat → Own) → World → Prop} {Stop : Goroutine → (Nat → Own) → World → Prop} {n : Nat} (hS : Stab 0 K) (rB c kB : Nat) (s : Option Addr) (len cap : Nat) (fr : Frame) (cs : List Frame) (O : Nat → Own) (w : World) (hK : K O w ∧ Kv kB c O w)
    (next : ∀ O w, K O w → GG Try.prog 0 (fun _ => False) Stop n (G (fr.finish (.chan (some c))) cs) O w) :
    GG Try.prog 0 (fun _ => False) Stop (n + 8) (G12 rB c kB s len cap (fr :: cs)) O w := by
  have hS := Stab.and hS (Kv.stab (i := 0) (kB := kB) (c := c))
  unfold G12
  refine GG.ctl hS rfl (fun w => stepG_region_end) hK fun O w hK => ?_
  refine GG.ctl hS rfl (fun w => stepG_seq) hK fun O w hK => ?_
  refine GG.ctl hS rfl (fun w => stepG_region) hK fun O w hK => ?_
  refine GG.load1 hS (t := 41) (v := .chan (some c)) (b0 := kB) (off := 0) rfl rfl rfl rfl (by decide) agg41 hK (fun O w hK => ⟨hK.2.cell, hK.2.lt, .inr (.inl ⟨rfl, hK.2.own⟩)⟩) fun O w hK => ?_
  walk_nrm
  refine GG.pure hS (v := .chan (some c)) rfl rfl (by decide) (fun w => by simp [go_sem, execOp, Act.eval]) (fun w => by simp [go_sem, execOp, Act.eval]) hK fun O w hK => ?_
  walk_nrm
  refine GG.ctl hS rfl (fun w => stepG_region_end) hK fun O w hK => ?_
  refine GG.ctl hS rfl (fun w => stepG_ret') hK fun O w hK => ?_
  refine GG.ctl hS (g' := G (fr.finish (.chan (some c))) cs) rfl (fun w => ?_) hK fun O w hK => next O w hK.1
  exact stepG_leave rfl rfl Try.func12 (by rw [results_tmp (t := 2) rfl]; rfl) (events_results_tmp (t := 2) rfl _ _)
end Go.Proofs.Ytpoknlbnookhjaa.Gt
