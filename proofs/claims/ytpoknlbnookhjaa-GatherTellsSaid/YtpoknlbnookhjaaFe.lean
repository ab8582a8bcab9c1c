/- The walk of streams: its beginning, its end. -/
import Derived.Test.YtpoknlbnookhjaaFk
set_option linter.unusedVariables false
set_option linter.unusedSimpArgs false
namespace Go.Proofs.Ytpoknlbnookhjaa.Gt
open Go.Conc Go.RowKit Go.Spring Go.Proofs

/-- The world since streams was entered: what was there is written by nobody. -/
structure KE (W0 : World) (O : Nat → Own) (w : World) : Prop where
  size : W0.heap.size ≤ w.heap.size
  low : ∀ b, b < W0.heap.size → O b = .still ∧ w.heap[b]? = W0.heap[b]?
  rest : ∃ d h, w = { W0 with heap := h, drawn := d }
theorem KE.quiet (W0 : World) : Quiet (KE W0) := by
  refine ⟨fun O w O₁ w₁ h r => ⟨Nat.le_trans h.size r.size, fun b hb => ?_, ?_⟩⟩
  · obtain ⟨h1, h2⟩ := h.low b hb
    have hb' := Nat.lt_of_lt_of_le hb h.size
    exact ⟨r.own b hb' h1, by rw [r.keep b hb' h1]; exact h2⟩
  · obtain ⟨d, hh, e⟩ := h.rest
    obtain ⟨d', hh', e'⟩ := r.rest
    exact ⟨d', hh', by rw [e', e]⟩
def R11 : Array Oper := #[{ dst := some 12, op := Op.move (Operand.tmp 0), type := 22, pos := "gather.go:23", after := #[], guard := none }, { dst := some 13, op := Op.call { callee := Callee.value (Operand.func 12), args := #[Operand.tmp 12], argTypes := #[22] }, type := 38, pos := "gather.go:23", after := #[{ on := 0, ground := Ground.data }], guard := none }, { dst := some 14, op := Op.move (Operand.tmp 1), type := 22, pos := "gather.go:23", after := #[], guard := none }, { dst := some 15, op := Op.call { callee := Callee.value (Operand.func 12), args := #[Operand.tmp 14], argTypes := #[22] }, type := 38, pos := "gather.go:23", after := #[{ on := 2, ground := Ground.data }, { on := 1, ground := Ground.chain }], guard := none }, { dst := some 6, op := Op.assign (Operand.tmp 13), type := 38, pos := "gather.go:23", after := #[{ on := 1, ground := Ground.data }, { on := 3, ground := Ground.chain }, { on := 0, ground := Ground.phase }, { on := 1, ground := Ground.phase }, { on := 2, ground := Ground.textOnly Departure.lateStores }, { on := 3, ground := Ground.textOnly Departure.lateStoresUnsure }], guard := none }, { dst := some 7, op := Op.assign (Operand.tmp 15), type := 38, pos := "gather.go:23", after := #[{ on := 3, ground := Ground.data }, { on := 4, ground := Ground.chain }, { on := 0, ground := Ground.phase }, { on := 1, ground := Ground.phase }, { on := 2, ground := Ground.phase }, { on := 3, ground := Ground.phase }, { on := 4, ground := Ground.phase }], guard := none }]
noncomputable def D11 : Code := match Try.f11.body with | some (.seq _ (.scope (.seq _ d))) => d | _ => .skip

section
variable (sa sb : Option Addr) (la ca lb cb : Nat)
/-- streams at its entry; waiting for the first channel; for the second. -/
noncomputable def GE (cs : List Frame) : Goroutine := G ((base 11).at ⟨#[.slice sa la ca, .slice sb lb cb, undef, undef, undef, undef, undef, undef, undef, undef, undef, undef, undef, undef, undef, undef, undef, undef, undef, undef, undef, undef, undef, undef, undef, undef, undef, undef, undef, undef, undef, undef, undef, undef, undef, undef, undef, undef, undef, undef, undef, undef, undef, undef, undef, undef], []⟩ [.code body11]) cs
noncomputable def fr1 : Frame := (base 11).at ⟨#[.slice sa la ca, .slice sb lb cb, undef, undef, .slice none 0 0, .slice none 0 0, undef, undef, undef, undef, undef, undef, .slice sa la ca, undef, undef, undef, undef, undef, undef, undef, undef, undef, undef, undef, undef, undef, undef, undef, undef, undef, undef, undef, undef, undef, undef, undef, undef, undef, undef, undef, undef, undef, undef, undef, undef, undef], []⟩ [.inRegion R11 [1, 2, 3, 4, 5], .code D11, .inScope S11]
noncomputable def fr2 (cA : Nat) : Frame := (base 11).at ⟨#[.slice sa la ca, .slice sb lb cb, undef, undef, .slice none 0 0, .slice none 0 0, undef, undef, undef, undef, undef, undef, .slice sa la ca, .chan (some cA), .slice sb lb cb, undef, undef, undef, undef, undef, undef, undef, undef, undef, undef, undef, undef, undef, undef, undef, undef, undef, undef, undef, undef, undef, undef, undef, undef, undef, undef, undef, undef, undef, undef, undef], []⟩ [.inRegion R11 [3, 4, 5], .code D11, .inScope S11]

set_option maxRecDepth 100000 in
theorem enter1 {K : (Nat → Own) → World → Prop} (hS : Stab 0 K) (cs : List Frame) (O : Nat → Own) (w : World) (hK : K O w) : GG Try.prog 0 (fun _ => False) (GoAt K sa la ca fun c kB g => ∃ rB, g = G12 rB c kB sa la ca (fr1 sa sb la ca lb cb :: cs)) 50 (GE sa sb la ca lb cb cs) O w := by
  unfold GE
  refine GG.ctl hS rfl (fun w => stepG_seq) hK fun O w hK => ?_
  refine GG.ctl hS rfl (fun w => stepG_region) hK fun O w hK => ?_
  refine GG.pure hS (v := .slice none 0 0) rfl rfl (by decide) (fun w => by simp [go_sem, execOp, Act.eval]) (fun w => by simp [go_sem, execOp, Act.eval]) hK fun O w hK => ?_
  walk_nrm
  refine GG.pure hS (v := .slice none 0 0) rfl rfl (by decide) (fun w => by simp [go_sem, execOp, Act.eval]) (fun w => by simp [go_sem, execOp, Act.eval]) hK fun O w hK => ?_
  walk_nrm
  refine GG.ctl hS rfl (fun w => stepG_region_end) hK fun O w hK => ?_
  refine GG.ctl hS rfl (fun w => stepG_scope) hK fun O w hK => ?_
  refine GG.ctl hS rfl (fun w => stepG_seq) hK fun O w hK => ?_
  refine GG.ctl hS rfl (fun w => stepG_region) hK fun O w hK => ?_
  refine GG.pure hS (v := .slice sa la ca) rfl rfl (by decide) (fun w => by simp [go_sem, execOp, Act.eval]) (fun w => by simp [go_sem, execOp, Act.eval]) hK fun O w hK => ?_
  walk_nrm
  refine GG.ctl hS rfl (fun w => stepG_callF rfl rfl (by decide) rfl Try.func12 (by decide) rfl w) hK fun O w hK => ?_
  refine GG.le (n := 30) ?_ (Nat.le_of_ble_eq_true rfl)
  walk_nrmf Try.f12
  exact send_go hS sa la ca (fr1 sa sb la ca lb cb :: cs) O w hK

set_option maxRecDepth 100000 in
theorem enter2 {K : (Nat → Own) → World → Prop} (hS : Stab 0 K) (cs : List Frame) (O : Nat → Own) (w : World) (rB cA kA : Nat) (hK : K O w ∧ Kv kA cA O w) : GG Try.prog 0 (fun _ => False) (GoAt K sb lb cb fun c kB g => ∃ rB, g = G12 rB c kB sb lb cb (fr2 sa sb la ca lb cb cA :: cs)) 50 (G12 rB cA kA sa la ca (fr1 sa sb la ca lb cb :: cs)) O w := by
  refine GG.le (send_back (n := 40) hS rB cA kA sa la ca (fr1 sa sb la ca lb cb) cs O w hK fun O w hK => ?_) (by omega)
  unfold fr1 R11
  rw [Frame.finish_at]
  walk_nrm
  refine GG.pure hS (v := .slice sb lb cb) rfl rfl (by decide) (fun w => by simp [go_sem, execOp, Act.eval]) (fun w => by simp [go_sem, execOp, Act.eval]) hK fun O w hK => ?_
  walk_nrm
  refine GG.ctl hS rfl (fun w => stepG_callF rfl rfl (by decide) rfl Try.func12 (by decide) rfl w) hK fun O w hK => ?_
  refine GG.le (n := 30) ?_ (Nat.le_of_ble_eq_true rfl)
  walk_nrmf Try.f12
  exact send_go hS sb lb cb (fr2 sa sb la ca lb cb cA :: cs) O w hK

set_option maxRecDepth 100000 in
theorem enter3 {K : (Nat → Own) → World → Prop} (hS : Stab 0 K) (cs : List Frame) (O : Nat → Own) (w : World) (rB cA cB kB : Nat) (hK : K O w ∧ Kv kB cB O w) : GG Try.prog 0 (fun _ => False) (fun g O w => ∃ J, g = GH (.slice none 0 0) (.slice none 0 0) (some cA) (some cB) J cs ∧ K O w) 50 (G12 rB cB kB sb lb cb (fr2 sa sb la ca lb cb cA :: cs)) O w := by
  refine GG.le (send_back (n := 40) hS rB cB kB sb lb cb (fr2 sa sb la ca lb cb cA) cs O w hK fun O w hK => ?_) (by omega)
  unfold fr2 R11
  rw [Frame.finish_at]
  walk_nrm
  refine GG.pure hS (v := .chan (some cA)) rfl rfl (by decide) (fun w => by simp [go_sem, execOp, Act.eval]) (fun w => by simp [go_sem, execOp, Act.eval]) hK fun O w hK => ?_
  walk_nrm
  refine GG.pure hS (v := .chan (some cB)) rfl rfl (by decide) (fun w => by simp [go_sem, execOp, Act.eval]) (fun w => by simp [go_sem, execOp, Act.eval]) hK fun O w hK => ?_
  walk_nrm
  refine GG.ctl hS rfl (fun w => stepG_region_end) hK fun O w hK => ?_
  refine GG.ctl hS rfl (fun w => stepG_seq) hK fun O w hK => ?_
  refine GG.ctl hS rfl (fun w => stepG_label) hK fun O w hK => ?_
  refine GG.ctl hS rfl (fun w => stepG_seq) hK fun O w hK => ?_
  refine GG.ctl hS rfl (fun w => stepG_block) hK fun O w hK => ?_
  refine GG.ctl hS rfl (fun w => stepG_loop) hK fun O w hK => ?_
  exact GG.stop fun O₁ w₁ h₁ => ⟨(fun k => [.slice sa la ca, .slice sb lb cb, undef, undef, .slice none 0 0, .slice none 0 0, .chan (some cA), .chan (some cB), undef, undef, undef, undef, .slice sa la ca, .chan (some cA), .slice sb lb cb, .chan (some cB), undef, undef, undef, undef, undef, undef, undef, undef, undef, undef, undef, undef, undef, undef, undef, undef, undef, undef, undef, undef, undef, undef, undef, undef, undef, undef, undef, undef, undef, undef].getD k undef), rfl, hS.rely _ _ _ _ hK h₁⟩

set_option maxRecDepth 100000 in
theorem leave11 {K : (Nat → Own) → World → Prop} (hS : Stab 0 K) (cs : List Frame) (O : Nat → Own) (w : World) (vx vy : Value) (J : Nat → Value) (hK : K O w) : GG Try.prog 0 (fun _ => False) (fun g O w => ∃ fr, g = G fr cs ∧ fr.fn = 11 ∧ fr.leaving Try.prog w (.returned (.tuple #[vx, vy])) ∧ K O w) 20 (GY vx vy J cs) O w := by
  unfold GY MT
  refine GG.ctl hS rfl (fun w => stepG_seq) hK fun O w hK => ?_
  refine GG.ctl hS rfl (fun w => stepG_region) hK fun O w hK => ?_
  refine GG.pure hS (v := vx) rfl rfl (by decide) (fun w => by simp [go_sem, execOp, Act.eval]) (fun w => by simp [go_sem, execOp, Act.eval]) hK fun O w hK => ?_
  walk_nrm
  refine GG.pure hS (v := vy) rfl rfl (by decide) (fun w => by simp [go_sem, execOp, Act.eval]) (fun w => by simp [go_sem, execOp, Act.eval]) hK fun O w hK => ?_
  walk_nrm
  refine GG.pure hS (v := vx) rfl rfl (by decide) (fun w => by simp [go_sem, execOp, Act.eval]) (fun w => by simp [go_sem, execOp, Act.eval]) hK fun O w hK => ?_
  walk_nrm
  refine GG.pure hS (v := vy) rfl rfl (by decide) (fun w => by simp [go_sem, execOp, Act.eval]) (fun w => by simp [go_sem, execOp, Act.eval]) hK fun O w hK => ?_
  walk_nrm
  refine GG.ctl hS rfl (fun w => stepG_region_end) hK fun O w hK => ?_
  refine GG.ctl hS rfl (fun w => stepG_ret') hK fun O w hK => ?_
  exact GG.stop fun O₁ w₁ h₁ => ⟨_, rfl, rfl, ⟨rfl, rfl, rfl, Try.f11, Try.func11, by rw [results_tmp2 (t := 4) (u := 5) rfl]; rfl⟩, hS.rely _ _ _ _ hK h₁⟩
end
end Go.Proofs.Ytpoknlbnookhjaa.Gt
