/- The walk of streams' select: the case that was taken, to the loop's head again. -/
import Derived.Test.YtpoknlbnookhjaaFv
set_option linter.unusedVariables false
set_option linter.unusedSimpArgs false
namespace Go.Proofs.Ytpoknlbnookhjaa.Gt
open Go.Conc Go.RowKit Go.Spring Go.Proofs

theorem buildS {va : List Value} (hl : va.length = 7) (w : World) : (Instr.buildSlice 22 1 #[(0, .agg va.toArray)]).run Try.prog w = .ok (.slice (some ⟨w.heap.size, 0, none⟩) 1 1) (w.alloc (.cells va.toArray 25)) ∧ (Instr.buildSlice 22 1 #[(0, .agg va.toArray)]).events Try.prog w #[] = #[] := by
  obtain ⟨ii, hi, hz, hsize, hby⟩ := info25'
  match va, hl with
  | [a0, a1, a2, a3, a4, a5, a6], _ =>
    constructor
    · unfold Instr.buildSlice
      simp [Sem.run_bind, run_underlying Try.underlying22 w, sizeOf, run_typeInfo hi, hsize, zero25, z25, Value.cells, Instr.fill, newRow, show Array.range 7 = #[0, 1, 2, 3, 4, 5, 6] from by decide]
    · unfold Instr.buildSlice
      simp [Sem.events_bind, run_underlying Try.underlying22 w, und_ev Try.underlying22, sizeOf, run_typeInfo hi, ev_typeInfo hi, hsize, zero25, zero25e, z25, Value.cells, Instr.fill, newRow]
theorem fin_served (fr : Frame) (cs : List Frame) (v : Value) : Go.Conc.served (G fr cs) v = G (fr.finish v) cs := rfl

set_option maxRecDepth 100000 in
theorem case0_ok {KB : (Nat → Own) → World → Prop} {Stop : Goroutine → (Nat → Own) → World → Prop} {n : Nat} (hB : Quiet KB) {vx vy : Value} {nx ny : Nat} {xs ys va : List Value} (hl : va.length = 7) (h1c : ∀ u ∈ va, u.oneCell' = true) (hn : nx ≤ 1000000) (po qo : Option Nat) (J : Nat → Value) (cs : List Frame) (O : Nat → Own) (w : World) (hK : KM KB vx nx xs vy ny ys O w)
    (next : ∀ v' J O w, KM KB v' (nx + 1) (xs ++ va) vy ny ys O w → GG Try.prog 0 (fun _ => False) Stop n (GZ v' vy po qo J cs) O w) : GG Try.prog 0 (fun _ => False) Stop (n + 40) (Go.Conc.served (GS vx vy po qo J cs) (.tuple #[.int .i64 0, .bool true, (.agg va.toArray), z25])) O w := by
  have hS := KM.stab (vx := vx) (nx := nx) (xs := xs) (vy := vy) (ny := ny) (ys := ys) hB
  unfold GS O11
  rw [fin_served, Frame.finish_at]
  walk_nrm
  refine GG.pure hS (v := .int .i64 0) rfl rfl (by decide) (fun w => by simp [go_sem, execOp, Act.eval]) (fun w => by simp [go_sem, execOp, Act.eval]) hK fun O w hK => ?_
  walk_nrm
  refine GG.pure hS (v := .bool true) rfl rfl (by decide) (fun w => by simp [go_sem, execOp, Act.eval]) (fun w => by simp [go_sem, execOp, Act.eval]) hK fun O w hK => ?_
  walk_nrm
  refine GG.pure hS (v := .bool false) rfl rfl (by decide) (fun w => by simp [go_sem, execOp, Act.eval]) (fun w => by simp [go_sem, execOp, Act.eval]) hK fun O w hK => ?_
  walk_nrm
  refine GG.ctl hS rfl (fun w => stepG_region_end) hK fun O w hK => ?_
  refine GG.ctl hS rfl (fun w => stepG_block) hK fun O w hK => ?_
  refine GG.ctl hS rfl (fun w => stepG_cond (t := true) rfl) hK fun O w hK => ?_
  refine GG.ctl hS rfl (fun w => stepG_seq) hK fun O w hK => ?_
  refine GG.ctl hS rfl (fun w => stepG_region) hK fun O w hK => ?_
  refine GG.pure hS (v := .agg va.toArray) rfl rfl (by decide) (fun w => by simp [go_sem, execOp, Act.eval]) (fun w => by simp [go_sem, execOp, Act.eval]) hK fun O w hK => ?_
  walk_nrm
  refine GG.pure hS (v := .bool true) rfl rfl (by decide) (fun w => by simp [go_sem, execOp, Act.eval]) (fun w => by simp [go_sem, execOp, Act.eval]) hK fun O w hK => ?_
  walk_nrm
  obtain ⟨ii, hi1, hi2⟩ := info25
  refine GG.new hS (V := fun N => .pointer (some ⟨N, 0, none⟩)) (o' := .cells z25.cells 25) rfl rfl (by decide) (fun w => by unfold execOp; simp [Act.eval, run_alloc hi1 hi2]) (fun w => by unfold execOp; simp [Act.eval, ev_alloc hi1 hi2]) hK fun O0 w0 hK0 O w hK => ?_
  walk_nrm
  obtain ⟨b8, eb8⟩ : ∃ N, N = w0.heap.size := ⟨_, rfl⟩
  rw [← eb8] at hK ⊢
  refine GG.storeV (by omega) (t := 25) (ty := 25) (x := .tmp 8) (y := .tmp 22) (b0 := b8) (old := z25.cells) (cells := va.toArray) (v := .agg va.toArray) rfl rfl rfl rfl rfl rfl (by decide) (by rw [List.size_toArray, hl]; exact size25) (by show 7 = _; rw [List.size_toArray, hl]) (by rw [Array.all_eq_true_iff_forall_mem]; intro v hv; exact h1c v (by simpa using hv)) hK fun O w hK => ?_
  walk_nrm
  replace hK := And.intro (hS.rely _ _ _ _ hK0 hK.1) hK.2
  have hS := Stab.and hS (Blk.stab (i := 0) (b := b8) (o := .cells va.toArray 25))
  clear hK0
  refine GG.pure hS (v := .bool true) rfl rfl (by decide) (fun w => by simp [go_sem, execOp, Act.eval]) (fun w => by simp [go_sem, execOp, Act.eval]) hK fun O w hK => ?_
  walk_nrm
  refine GG.ctl hS rfl (fun w => stepG_region_end) hK fun O w hK => ?_
  refine GG.ctl hS rfl (fun w => stepG_seq) hK fun O w hK => ?_
  refine GG.ctl hS rfl (fun w => stepG_seq) hK fun O w hK => ?_
  refine GG.ctl hS rfl (fun w => stepG_region) hK fun O w hK => ?_
  refine GG.pure hS (v := .bool true) rfl rfl (by decide) (fun w => by simp [go_sem, execOp, Act.eval]) (fun w => by simp [go_sem, execOp, Act.eval]) hK fun O w hK => ?_
  walk_nrm
  refine GG.pure hS (v := .bool false) rfl rfl (by decide) (fun w => by simp [go_sem, execOp, Act.eval]) (fun w => by simp [go_sem, execOp, Act.eval]) hK fun O w hK => ?_
  walk_nrm
  refine GG.ctl hS rfl (fun w => stepG_region_end) hK fun O w hK => ?_
  refine GG.ctl hS rfl (fun w => stepG_cond (t := false) rfl) hK fun O w hK => ?_
  refine GG.ctl hS rfl (fun w => stepG_skip) hK fun O w hK => ?_
  refine GG.ctl hS rfl (fun w => stepG_region) hK fun O w hK => ?_
  refine GG.pure hS (v := vx) rfl rfl (by decide) (fun w => by simp [go_sem, execOp, Act.eval]) (fun w => by simp [go_sem, execOp, Act.eval]) hK fun O w hK => ?_
  walk_nrm
  refine GG.loadA hS (t := 25) (x := .tmp 8) (b0 := b8) (off := 0) (vs := va) rfl rfl rfl rfl (by decide) agg25 (by rw [hl]; exact size25) hK (fun O w hK => ⟨fun i v hv => by unfold World.cell?; simp only [hK.2.row, Nat.zero_add]; simpa using hv, hK.2.lt, .inl hK.2.own⟩) fun O w hK => ?_
  walk_nrm
  refine GG.new hS (V := fun N => .slice (some ⟨N, 0, none⟩) 1 1) (o' := .cells va.toArray 25) rfl rfl (by decide) (fun w => by unfold execOp; simp [Act.eval, (buildS hl _).1]) (fun w => by unfold execOp; simp [Act.eval, (buildS hl _).2]) hK fun O0 w0 hK0 O w hK => ?_
  walk_nrm
  obtain ⟨b9, eb9⟩ : ∃ N, N = w0.heap.size := ⟨_, rfl⟩
  rw [← eb9] at hK ⊢
  replace hK := And.intro (hS.rely _ _ _ _ hK0 hK.1) hK.2
  have hS := Stab.and hS (Blk.stab (i := 0) (b := b9) (o := .cells va.toArray 25))
  clear hK0
  refine GG.append (s := .tmp 26) (x := .tmp 28) (N := b9) hB rfl rfl rfl rfl rfl rfl (by decide) hl h1c hn ⟨hK.1.1, hK.2⟩ fun v' O w hK => ?_
  walk_nrm
  clear hS
  have hS := KM.stab (vx := v') (nx := nx + 1) (xs := xs ++ va) (vy := vy) (ny := ny) (ys := ys) hB
  refine GG.pure hS (v := v') rfl rfl (by decide) (fun w => by simp [go_sem, execOp, Act.eval]) (fun w => by simp [go_sem, execOp, Act.eval]) hK fun O w hK => ?_
  walk_nrm
  refine GG.ctl hS rfl (fun w => stepG_region_end) hK fun O w hK => ?_
  refine GG.ctl hS rfl (fun w => stepG_inBlock) hK fun O w hK => ?_
  exact GG.le (next v' (fun k => [J 0, J 1, J 2, J 3, v', vy, .chan po, .chan qo, .pointer (some ⟨b8, 0, none⟩), .bool true, J 10, J 11, J 12, J 13, J 14, J 15, .chan po, .chan qo, .tuple #[.int .i64 0, .bool true, (.agg va.toArray), z25], .int .i64 0, .bool true, .bool false, .agg va.toArray, .bool true, .bool true, .bool false, vx, .agg va.toArray, .slice (some ⟨b9, 0, none⟩) 1 1, v', J 30, J 31, J 32, J 33, J 34, J 35, J 36, J 37, J 38, J 39, J 40, J 41, J 42, J 43, J 44, J 45].getD k undef) O w hK) (by omega)

set_option maxRecDepth 100000 in
theorem case0_no {KB : (Nat → Own) → World → Prop} {Stop : Goroutine → (Nat → Own) → World → Prop} {n : Nat} (hB : Quiet KB) {vx vy : Value} {nx ny : Nat} {xs ys va : List Value} (hl : va.length = 7) (h1c : ∀ u ∈ va, u.oneCell' = true) (hn : nx ≤ 1000000) (po qo : Option Nat) (J : Nat → Value) (cs : List Frame) (O : Nat → Own) (w : World) (hK : KM KB vx nx xs vy ny ys O w)
    (next : ∀ J O w, KM KB vx nx xs vy ny ys O w → GG Try.prog 0 (fun _ => False) Stop n (GZ vx vy none qo J cs) O w) : GG Try.prog 0 (fun _ => False) Stop (n + 40) (Go.Conc.served (GS vx vy po qo J cs) (.tuple #[.int .i64 0, .bool false, (.agg va.toArray), z25])) O w := by
  have hS := KM.stab (vx := vx) (nx := nx) (xs := xs) (vy := vy) (ny := ny) (ys := ys) hB
  unfold GS O11
  rw [fin_served, Frame.finish_at]
  walk_nrm
  refine GG.pure hS (v := .int .i64 0) rfl rfl (by decide) (fun w => by simp [go_sem, execOp, Act.eval]) (fun w => by simp [go_sem, execOp, Act.eval]) hK fun O w hK => ?_
  walk_nrm
  refine GG.pure hS (v := .bool true) rfl rfl (by decide) (fun w => by simp [go_sem, execOp, Act.eval]) (fun w => by simp [go_sem, execOp, Act.eval]) hK fun O w hK => ?_
  walk_nrm
  refine GG.pure hS (v := .bool false) rfl rfl (by decide) (fun w => by simp [go_sem, execOp, Act.eval]) (fun w => by simp [go_sem, execOp, Act.eval]) hK fun O w hK => ?_
  walk_nrm
  refine GG.ctl hS rfl (fun w => stepG_region_end) hK fun O w hK => ?_
  refine GG.ctl hS rfl (fun w => stepG_block) hK fun O w hK => ?_
  refine GG.ctl hS rfl (fun w => stepG_cond (t := true) rfl) hK fun O w hK => ?_
  refine GG.ctl hS rfl (fun w => stepG_seq) hK fun O w hK => ?_
  refine GG.ctl hS rfl (fun w => stepG_region) hK fun O w hK => ?_
  refine GG.pure hS (v := .agg va.toArray) rfl rfl (by decide) (fun w => by simp [go_sem, execOp, Act.eval]) (fun w => by simp [go_sem, execOp, Act.eval]) hK fun O w hK => ?_
  walk_nrm
  refine GG.pure hS (v := .bool false) rfl rfl (by decide) (fun w => by simp [go_sem, execOp, Act.eval]) (fun w => by simp [go_sem, execOp, Act.eval]) hK fun O w hK => ?_
  walk_nrm
  obtain ⟨ii, hi1, hi2⟩ := info25
  refine GG.new hS (V := fun N => .pointer (some ⟨N, 0, none⟩)) (o' := .cells z25.cells 25) rfl rfl (by decide) (fun w => by unfold execOp; simp [Act.eval, run_alloc hi1 hi2]) (fun w => by unfold execOp; simp [Act.eval, ev_alloc hi1 hi2]) hK fun O0 w0 hK0 O w hK => ?_
  walk_nrm
  obtain ⟨b8, eb8⟩ : ∃ N, N = w0.heap.size := ⟨_, rfl⟩
  rw [← eb8] at hK ⊢
  refine GG.storeV (by omega) (t := 25) (ty := 25) (x := .tmp 8) (y := .tmp 22) (b0 := b8) (old := z25.cells) (cells := va.toArray) (v := .agg va.toArray) rfl rfl rfl rfl rfl rfl (by decide) (by rw [List.size_toArray, hl]; exact size25) (by show 7 = _; rw [List.size_toArray, hl]) (by rw [Array.all_eq_true_iff_forall_mem]; intro v hv; exact h1c v (by simpa using hv)) hK fun O w hK => ?_
  walk_nrm
  replace hK := And.intro (hS.rely _ _ _ _ hK0 hK.1) hK.2
  have hS := Stab.and hS (Blk.stab (i := 0) (b := b8) (o := .cells va.toArray 25))
  clear hK0
  refine GG.pure hS (v := .bool false) rfl rfl (by decide) (fun w => by simp [go_sem, execOp, Act.eval]) (fun w => by simp [go_sem, execOp, Act.eval]) hK fun O w hK => ?_
  walk_nrm
  refine GG.ctl hS rfl (fun w => stepG_region_end) hK fun O w hK => ?_
  refine GG.ctl hS rfl (fun w => stepG_seq) hK fun O w hK => ?_
  refine GG.ctl hS rfl (fun w => stepG_seq) hK fun O w hK => ?_
  refine GG.ctl hS rfl (fun w => stepG_region) hK fun O w hK => ?_
  refine GG.pure hS (v := .bool false) rfl rfl (by decide) (fun w => by simp [go_sem, execOp, Act.eval]) (fun w => by simp [go_sem, execOp, Act.eval]) hK fun O w hK => ?_
  walk_nrm
  refine GG.pure hS (v := .bool true) rfl rfl (by decide) (fun w => by simp [go_sem, execOp, Act.eval]) (fun w => by simp [go_sem, execOp, Act.eval]) hK fun O w hK => ?_
  walk_nrm
  refine GG.ctl hS rfl (fun w => stepG_region_end) hK fun O w hK => ?_
  refine GG.ctl hS rfl (fun w => stepG_cond (t := true) rfl) hK fun O w hK => ?_
  refine GG.ctl hS rfl (fun w => stepG_seq) hK fun O w hK => ?_
  refine GG.ctl hS rfl (fun w => stepG_region) hK fun O w hK => ?_
  refine GG.pure hS (v := .chan none) rfl rfl (by decide) (fun w => by simp [go_sem, execOp, Act.eval]) (fun w => by simp [go_sem, execOp, Act.eval]) hK fun O w hK => ?_
  walk_nrm
  refine GG.ctl hS rfl (fun w => stepG_region_end) hK fun O w hK => ?_
  refine GG.ctl hS rfl (fun w => stepG_exit rfl) hK fun O w hK => ?_
  exact GG.le (next (fun k => [J 0, J 1, J 2, J 3, vx, vy, .chan none, .chan qo, .pointer (some ⟨b8, 0, none⟩), .bool false, J 10, J 11, J 12, J 13, J 14, J 15, .chan po, .chan qo, .tuple #[.int .i64 0, .bool false, (.agg va.toArray), z25], .int .i64 0, .bool true, .bool false, .agg va.toArray, .bool false, .bool false, .bool true, J 26, J 27, J 28, J 29, J 30, J 31, J 32, J 33, J 34, J 35, J 36, J 37, J 38, J 39, J 40, J 41, J 42, J 43, J 44, J 45].getD k undef) O w hK.1) (by omega)

set_option maxRecDepth 100000 in
theorem case1_ok {KB : (Nat → Own) → World → Prop} {Stop : Goroutine → (Nat → Own) → World → Prop} {n : Nat} (hB : Quiet KB) {vx vy : Value} {nx ny : Nat} {xs ys va : List Value} (hl : va.length = 7) (h1c : ∀ u ∈ va, u.oneCell' = true) (hn : ny ≤ 1000000) (po qo : Option Nat) (J : Nat → Value) (cs : List Frame) (O : Nat → Own) (w : World) (hK : KM KB vx nx xs vy ny ys O w)
    (next : ∀ v' J O w, KM KB vx nx xs v' (ny + 1) (ys ++ va) O w → GG Try.prog 0 (fun _ => False) Stop n (GZ vx v' po qo J cs) O w) : GG Try.prog 0 (fun _ => False) Stop (n + 40) (Go.Conc.served (GS vx vy po qo J cs) (.tuple #[.int .i64 1, .bool true, z25, (.agg va.toArray)])) O w := by
  have hS := KM.stab (vx := vx) (nx := nx) (xs := xs) (vy := vy) (ny := ny) (ys := ys) hB
  unfold GS O11
  rw [fin_served, Frame.finish_at]
  walk_nrm
  refine GG.pure hS (v := .int .i64 1) rfl rfl (by decide) (fun w => by simp [go_sem, execOp, Act.eval]) (fun w => by simp [go_sem, execOp, Act.eval]) hK fun O w hK => ?_
  walk_nrm
  refine GG.pure hS (v := .bool false) rfl rfl (by decide) (fun w => by simp [go_sem, execOp, Act.eval]) (fun w => by simp [go_sem, execOp, Act.eval]) hK fun O w hK => ?_
  walk_nrm
  refine GG.pure hS (v := .bool true) rfl rfl (by decide) (fun w => by simp [go_sem, execOp, Act.eval]) (fun w => by simp [go_sem, execOp, Act.eval]) hK fun O w hK => ?_
  walk_nrm
  refine GG.ctl hS rfl (fun w => stepG_region_end) hK fun O w hK => ?_
  refine GG.ctl hS rfl (fun w => stepG_block) hK fun O w hK => ?_
  refine GG.ctl hS rfl (fun w => stepG_cond (t := false) rfl) hK fun O w hK => ?_
  refine GG.ctl hS rfl (fun w => stepG_cond (t := true) rfl) hK fun O w hK => ?_
  refine GG.ctl hS rfl (fun w => stepG_seq) hK fun O w hK => ?_
  refine GG.ctl hS rfl (fun w => stepG_region) hK fun O w hK => ?_
  refine GG.pure hS (v := .agg va.toArray) rfl rfl (by decide) (fun w => by simp [go_sem, execOp, Act.eval]) (fun w => by simp [go_sem, execOp, Act.eval]) hK fun O w hK => ?_
  walk_nrm
  refine GG.pure hS (v := .bool true) rfl rfl (by decide) (fun w => by simp [go_sem, execOp, Act.eval]) (fun w => by simp [go_sem, execOp, Act.eval]) hK fun O w hK => ?_
  walk_nrm
  obtain ⟨ii, hi1, hi2⟩ := info25
  refine GG.new hS (V := fun N => .pointer (some ⟨N, 0, none⟩)) (o' := .cells z25.cells 25) rfl rfl (by decide) (fun w => by unfold execOp; simp [Act.eval, run_alloc hi1 hi2]) (fun w => by unfold execOp; simp [Act.eval, ev_alloc hi1 hi2]) hK fun O0 w0 hK0 O w hK => ?_
  walk_nrm
  obtain ⟨b8, eb8⟩ : ∃ N, N = w0.heap.size := ⟨_, rfl⟩
  rw [← eb8] at hK ⊢
  refine GG.storeV (by omega) (t := 25) (ty := 25) (x := .tmp 10) (y := .tmp 30) (b0 := b8) (old := z25.cells) (cells := va.toArray) (v := .agg va.toArray) rfl rfl rfl rfl rfl rfl (by decide) (by rw [List.size_toArray, hl]; exact size25) (by show 7 = _; rw [List.size_toArray, hl]) (by rw [Array.all_eq_true_iff_forall_mem]; intro v hv; exact h1c v (by simpa using hv)) hK fun O w hK => ?_
  walk_nrm
  replace hK := And.intro (hS.rely _ _ _ _ hK0 hK.1) hK.2
  have hS := Stab.and hS (Blk.stab (i := 0) (b := b8) (o := .cells va.toArray 25))
  clear hK0
  refine GG.pure hS (v := .bool true) rfl rfl (by decide) (fun w => by simp [go_sem, execOp, Act.eval]) (fun w => by simp [go_sem, execOp, Act.eval]) hK fun O w hK => ?_
  walk_nrm
  refine GG.ctl hS rfl (fun w => stepG_region_end) hK fun O w hK => ?_
  refine GG.ctl hS rfl (fun w => stepG_seq) hK fun O w hK => ?_
  refine GG.ctl hS rfl (fun w => stepG_seq) hK fun O w hK => ?_
  refine GG.ctl hS rfl (fun w => stepG_region) hK fun O w hK => ?_
  refine GG.pure hS (v := .bool true) rfl rfl (by decide) (fun w => by simp [go_sem, execOp, Act.eval]) (fun w => by simp [go_sem, execOp, Act.eval]) hK fun O w hK => ?_
  walk_nrm
  refine GG.pure hS (v := .bool false) rfl rfl (by decide) (fun w => by simp [go_sem, execOp, Act.eval]) (fun w => by simp [go_sem, execOp, Act.eval]) hK fun O w hK => ?_
  walk_nrm
  refine GG.ctl hS rfl (fun w => stepG_region_end) hK fun O w hK => ?_
  refine GG.ctl hS rfl (fun w => stepG_cond (t := false) rfl) hK fun O w hK => ?_
  refine GG.ctl hS rfl (fun w => stepG_skip) hK fun O w hK => ?_
  refine GG.ctl hS rfl (fun w => stepG_region) hK fun O w hK => ?_
  refine GG.pure hS (v := vy) rfl rfl (by decide) (fun w => by simp [go_sem, execOp, Act.eval]) (fun w => by simp [go_sem, execOp, Act.eval]) hK fun O w hK => ?_
  walk_nrm
  refine GG.loadA hS (t := 25) (x := .tmp 10) (b0 := b8) (off := 0) (vs := va) rfl rfl rfl rfl (by decide) agg25 (by rw [hl]; exact size25) hK (fun O w hK => ⟨fun i v hv => by unfold World.cell?; simp only [hK.2.row, Nat.zero_add]; simpa using hv, hK.2.lt, .inl hK.2.own⟩) fun O w hK => ?_
  walk_nrm
  refine GG.new hS (V := fun N => .slice (some ⟨N, 0, none⟩) 1 1) (o' := .cells va.toArray 25) rfl rfl (by decide) (fun w => by unfold execOp; simp [Act.eval, (buildS hl _).1]) (fun w => by unfold execOp; simp [Act.eval, (buildS hl _).2]) hK fun O0 w0 hK0 O w hK => ?_
  walk_nrm
  obtain ⟨b9, eb9⟩ : ∃ N, N = w0.heap.size := ⟨_, rfl⟩
  rw [← eb9] at hK ⊢
  replace hK := And.intro (hS.rely _ _ _ _ hK0 hK.1) hK.2
  have hS := Stab.and hS (Blk.stab (i := 0) (b := b9) (o := .cells va.toArray 25))
  clear hK0
  refine GG.append (s := .tmp 34) (x := .tmp 36) (N := b9) hB rfl rfl rfl rfl rfl rfl (by decide) hl h1c hn ⟨hK.1.1.swap, hK.2⟩ fun v' O w hK => ?_
  replace hK := hK.swap
  walk_nrm
  clear hS
  have hS := KM.stab (vx := vx) (nx := nx) (xs := xs) (vy := v') (ny := ny + 1) (ys := ys ++ va) hB
  refine GG.pure hS (v := v') rfl rfl (by decide) (fun w => by simp [go_sem, execOp, Act.eval]) (fun w => by simp [go_sem, execOp, Act.eval]) hK fun O w hK => ?_
  walk_nrm
  refine GG.ctl hS rfl (fun w => stepG_region_end) hK fun O w hK => ?_
  refine GG.ctl hS rfl (fun w => stepG_inBlock) hK fun O w hK => ?_
  exact GG.le (next v' (fun k => [J 0, J 1, J 2, J 3, vx, v', .chan po, .chan qo, J 8, J 9, .pointer (some ⟨b8, 0, none⟩), .bool true, J 12, J 13, J 14, J 15, .chan po, .chan qo, .tuple #[.int .i64 1, .bool true, z25, (.agg va.toArray)], .int .i64 1, .bool false, .bool true, J 22, J 23, J 24, J 25, J 26, J 27, J 28, J 29, .agg va.toArray, .bool true, .bool true, .bool false, vy, .agg va.toArray, .slice (some ⟨b9, 0, none⟩) 1 1, v', J 38, J 39, J 40, J 41, J 42, J 43, J 44, J 45].getD k undef) O w hK) (by omega)

set_option maxRecDepth 100000 in
theorem case1_no {KB : (Nat → Own) → World → Prop} {Stop : Goroutine → (Nat → Own) → World → Prop} {n : Nat} (hB : Quiet KB) {vx vy : Value} {nx ny : Nat} {xs ys va : List Value} (hl : va.length = 7) (h1c : ∀ u ∈ va, u.oneCell' = true) (hn : ny ≤ 1000000) (po qo : Option Nat) (J : Nat → Value) (cs : List Frame) (O : Nat → Own) (w : World) (hK : KM KB vx nx xs vy ny ys O w)
    (next : ∀ J O w, KM KB vx nx xs vy ny ys O w → GG Try.prog 0 (fun _ => False) Stop n (GZ vx vy po none J cs) O w) : GG Try.prog 0 (fun _ => False) Stop (n + 40) (Go.Conc.served (GS vx vy po qo J cs) (.tuple #[.int .i64 1, .bool false, z25, (.agg va.toArray)])) O w := by
  have hS := KM.stab (vx := vx) (nx := nx) (xs := xs) (vy := vy) (ny := ny) (ys := ys) hB
  unfold GS O11
  rw [fin_served, Frame.finish_at]
  walk_nrm
  refine GG.pure hS (v := .int .i64 1) rfl rfl (by decide) (fun w => by simp [go_sem, execOp, Act.eval]) (fun w => by simp [go_sem, execOp, Act.eval]) hK fun O w hK => ?_
  walk_nrm
  refine GG.pure hS (v := .bool false) rfl rfl (by decide) (fun w => by simp [go_sem, execOp, Act.eval]) (fun w => by simp [go_sem, execOp, Act.eval]) hK fun O w hK => ?_
  walk_nrm
  refine GG.pure hS (v := .bool true) rfl rfl (by decide) (fun w => by simp [go_sem, execOp, Act.eval]) (fun w => by simp [go_sem, execOp, Act.eval]) hK fun O w hK => ?_
  walk_nrm
  refine GG.ctl hS rfl (fun w => stepG_region_end) hK fun O w hK => ?_
  refine GG.ctl hS rfl (fun w => stepG_block) hK fun O w hK => ?_
  refine GG.ctl hS rfl (fun w => stepG_cond (t := false) rfl) hK fun O w hK => ?_
  refine GG.ctl hS rfl (fun w => stepG_cond (t := true) rfl) hK fun O w hK => ?_
  refine GG.ctl hS rfl (fun w => stepG_seq) hK fun O w hK => ?_
  refine GG.ctl hS rfl (fun w => stepG_region) hK fun O w hK => ?_
  refine GG.pure hS (v := .agg va.toArray) rfl rfl (by decide) (fun w => by simp [go_sem, execOp, Act.eval]) (fun w => by simp [go_sem, execOp, Act.eval]) hK fun O w hK => ?_
  walk_nrm
  refine GG.pure hS (v := .bool false) rfl rfl (by decide) (fun w => by simp [go_sem, execOp, Act.eval]) (fun w => by simp [go_sem, execOp, Act.eval]) hK fun O w hK => ?_
  walk_nrm
  obtain ⟨ii, hi1, hi2⟩ := info25
  refine GG.new hS (V := fun N => .pointer (some ⟨N, 0, none⟩)) (o' := .cells z25.cells 25) rfl rfl (by decide) (fun w => by unfold execOp; simp [Act.eval, run_alloc hi1 hi2]) (fun w => by unfold execOp; simp [Act.eval, ev_alloc hi1 hi2]) hK fun O0 w0 hK0 O w hK => ?_
  walk_nrm
  obtain ⟨b8, eb8⟩ : ∃ N, N = w0.heap.size := ⟨_, rfl⟩
  rw [← eb8] at hK ⊢
  refine GG.storeV (by omega) (t := 25) (ty := 25) (x := .tmp 10) (y := .tmp 30) (b0 := b8) (old := z25.cells) (cells := va.toArray) (v := .agg va.toArray) rfl rfl rfl rfl rfl rfl (by decide) (by rw [List.size_toArray, hl]; exact size25) (by show 7 = _; rw [List.size_toArray, hl]) (by rw [Array.all_eq_true_iff_forall_mem]; intro v hv; exact h1c v (by simpa using hv)) hK fun O w hK => ?_
  walk_nrm
  replace hK := And.intro (hS.rely _ _ _ _ hK0 hK.1) hK.2
  have hS := Stab.and hS (Blk.stab (i := 0) (b := b8) (o := .cells va.toArray 25))
  clear hK0
  refine GG.pure hS (v := .bool false) rfl rfl (by decide) (fun w => by simp [go_sem, execOp, Act.eval]) (fun w => by simp [go_sem, execOp, Act.eval]) hK fun O w hK => ?_
  walk_nrm
  refine GG.ctl hS rfl (fun w => stepG_region_end) hK fun O w hK => ?_
  refine GG.ctl hS rfl (fun w => stepG_seq) hK fun O w hK => ?_
  refine GG.ctl hS rfl (fun w => stepG_seq) hK fun O w hK => ?_
  refine GG.ctl hS rfl (fun w => stepG_region) hK fun O w hK => ?_
  refine GG.pure hS (v := .bool false) rfl rfl (by decide) (fun w => by simp [go_sem, execOp, Act.eval]) (fun w => by simp [go_sem, execOp, Act.eval]) hK fun O w hK => ?_
  walk_nrm
  refine GG.pure hS (v := .bool true) rfl rfl (by decide) (fun w => by simp [go_sem, execOp, Act.eval]) (fun w => by simp [go_sem, execOp, Act.eval]) hK fun O w hK => ?_
  walk_nrm
  refine GG.ctl hS rfl (fun w => stepG_region_end) hK fun O w hK => ?_
  refine GG.ctl hS rfl (fun w => stepG_cond (t := true) rfl) hK fun O w hK => ?_
  refine GG.ctl hS rfl (fun w => stepG_seq) hK fun O w hK => ?_
  refine GG.ctl hS rfl (fun w => stepG_region) hK fun O w hK => ?_
  refine GG.pure hS (v := .chan none) rfl rfl (by decide) (fun w => by simp [go_sem, execOp, Act.eval]) (fun w => by simp [go_sem, execOp, Act.eval]) hK fun O w hK => ?_
  walk_nrm
  refine GG.ctl hS rfl (fun w => stepG_region_end) hK fun O w hK => ?_
  refine GG.ctl hS rfl (fun w => stepG_exit rfl) hK fun O w hK => ?_
  exact GG.le (next (fun k => [J 0, J 1, J 2, J 3, vx, vy, .chan po, .chan none, J 8, J 9, .pointer (some ⟨b8, 0, none⟩), .bool false, J 12, J 13, J 14, J 15, .chan po, .chan qo, .tuple #[.int .i64 1, .bool false, z25, (.agg va.toArray)], .int .i64 1, .bool false, .bool true, J 22, J 23, J 24, J 25, J 26, J 27, J 28, J 29, .agg va.toArray, .bool false, .bool false, .bool true, J 34, J 35, J 36, J 37, J 38, J 39, J 40, J 41, J 42, J 43, J 44, J 45].getD k undef) O w hK.1) (by omega)
end Go.Proofs.Ytpoknlbnookhjaa.Gt
