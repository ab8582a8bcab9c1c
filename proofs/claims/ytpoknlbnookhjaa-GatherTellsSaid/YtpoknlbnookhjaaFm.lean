/- Goroutine 0 gathers: the walk of 'streams'. -/
import Derived.Test.YtpoknlbnookhjaaFz
set_option linter.unusedVariables false
set_option linter.unusedSimpArgs false
namespace Go.Proofs.Ytpoknlbnookhjaa.Gt
open Go.Conc Go.RowKit Go.Spring Go.Proofs

noncomputable def body11 : Code := Try.f11.body.getD .skip
noncomputable def X11 : Code := match Try.f11.body with | some (.seq _ (.scope (.seq _ (.seq _ (.seq (.block _ (.loop x)) _))))) => x | _ => .skip
noncomputable def Y11 : Code := match Try.f11.body with | some (.seq _ (.scope (.seq _ (.seq _ (.seq _ y))))) => y | _ => .skip
noncomputable def S11 : Code := match Try.f11.body with | some (.seq _ (.scope x)) => x | _ => .skip
noncomputable def B11 : Code := match X11 with | .block _ (.seq (.seq _ (.seq _ b)) _) => b | _ => .skip
noncomputable def Z11 : Code := match X11 with | .block _ (.seq _ z) => z | _ => .skip
def O11 : Array Oper := #[{ dst := some 18, op := Op.select #[{ chan := Operand.tmp 16, send := none, elem := 25 }, { chan := Operand.tmp 17, send := none, elem := 25 }] true, type := 0, pos := "gather.go:26", after := #[], guard := none }, { dst := some 19, op := Op.extract (Operand.tmp 18) 0, type := 3, pos := "gather.go:26", after := #[{ on := 0, ground := Ground.data }], guard := none }, { dst := some 20, op := Op.binOp BinOp.eql 3 (Operand.tmp 19) (Operand.const (Value.int IntKind.i64 0)) 3, type := 4, pos := "gather.go:26", after := #[{ on := 1, ground := Ground.data }], guard := none }, { dst := some 21, op := Op.binOp BinOp.eql 3 (Operand.tmp 19) (Operand.const (Value.int IntKind.i64 1)) 3, type := 4, pos := "gather.go:26", after := #[{ on := 1, ground := Ground.data }], guard := none }]
noncomputable abbrev tail11 : List Item := [.inBlock 1, .inLoop X11, .inBlock 0, .code Y11, .inScope S11]
/-- streams' temporaries: the rows gathered so far, the channels that are left. -/
def MT (vx vy : Value) (po qo : Option Nat) (J : Nat → Value) : Array Value := #[J 0, J 1, J 2, J 3, vx, vy, .chan po, .chan qo, J 8, J 9, J 10, J 11, J 12, J 13, J 14, J 15, J 16, J 17, J 18, J 19, J 20, J 21, J 22, J 23, J 24, J 25, J 26, J 27, J 28, J 29, J 30, J 31, J 32, J 33, J 34, J 35, J 36, J 37, J 38, J 39, J 40, J 41, J 42, J 43, J 44, J 45]
/-- At the loop's head. -/
noncomputable def GH (vx vy : Value) (po qo : Option Nat) (J : Nat → Value) (cs : List Frame) : Goroutine := G ((base 11).at ⟨MT vx vy po qo J, []⟩ [.code X11, .inLoop X11, .inBlock 0, .code Y11, .inScope S11]) cs
/-- At the select. -/
noncomputable def GS (vx vy : Value) (po qo : Option Nat) (J : Nat → Value) (cs : List Frame) : Goroutine := G ((base 11).at ⟨#[J 0, J 1, J 2, J 3, vx, vy, .chan po, .chan qo, J 8, J 9, J 10, J 11, J 12, J 13, J 14, J 15, .chan po, .chan qo, J 18, J 19, J 20, J 21, J 22, J 23, J 24, J 25, J 26, J 27, J 28, J 29, J 30, J 31, J 32, J 33, J 34, J 35, J 36, J 37, J 38, J 39, J 40, J 41, J 42, J 43, J 44, J 45], []⟩ (.inRegion O11 [0, 1, 2, 3] :: .code B11 :: .code Z11 :: tail11)) cs
/-- Behind the case's body. -/
noncomputable def GZ (vx vy : Value) (po qo : Option Nat) (J : Nat → Value) (cs : List Frame) : Goroutine := G ((base 11).at ⟨MT vx vy po qo J, []⟩ (.code Z11 :: tail11)) cs
/-- Behind the loop. -/
noncomputable def GY (vx vy : Value) (J : Nat → Value) (cs : List Frame) : Goroutine := G ((base 11).at ⟨MT vx vy none none J, []⟩ [.code Y11, .inScope S11]) cs
theorem stepG_scope {P : Program} {main : Bool} {b : Frame} {a : Act} {k : List Item} {cs : List Frame} {w : World} {c : Code} : stepG P main (G (b.at a (.code (.scope c) :: k)) cs) w = .go (G (b.at a (.code c :: .inScope c :: k)) cs) w := by simp [G, stepG, stepG.exec, Frame.at]
theorem stepG_inScope {P : Program} {main : Bool} {b : Frame} {a : Act} {k : List Item} {cs : List Frame} {w : World} {c : Code} : stepG P main (G (b.at a (.inScope c :: k)) cs) w = .go (G (b.at a k) cs) w := by simp [G, stepG, stepG.exec, Frame.at]
theorem chanEq (a b : Option Nat) (w : World) : (binOp .eql 38 (.chan a) (.chan b)).run Try.prog w = .ok (.bool (a == b)) w := by
  unfold binOp Op.equal
  simp only [Sem.run_bind]
  rw [show Op.maxDepth = 9999 + 1 from rfl]
  unfold Op.equalIn
  simp [Sem.run_bind, run_underlying Try.underlying38 w]
theorem und_ev {t : TypeId} {d : TypeDesc} (h : Try.prog.underlying t = some d) (w : World) (es : Array Event) : (underlying t).events Try.prog w es = es := by
  unfold underlying
  simp [h]
theorem chanEqE (a b : Option Nat) (w : World) : (binOp .eql 38 (.chan a) (.chan b)).events Try.prog w #[] = #[] := by
  unfold binOp Op.equal
  simp only [Sem.events_bind]
  rw [show Op.maxDepth = 9999 + 1 from rfl]
  unfold Op.equalIn
  simp [Sem.events_bind, run_underlying Try.underlying38 w, und_ev Try.underlying38]
def ccase (o : Option Nat) : CommCase := { chan := .chan o, send := none, zero := z25 }
theorem zero25 (w : World) : (zeroValue 25).run Try.prog w = .ok z25 w := by
  obtain ⟨ii, h1, h2⟩ := info25
  unfold zeroValue
  simp [run_typeInfo h1, h2]
theorem zero25e (w : World) (es : Array Event) : (zeroValue 25).events Try.prog w es = es := by
  obtain ⟨ii, h1, h2⟩ := info25
  unfold zeroValue
  simp [run_typeInfo h1, ev_typeInfo h1, h2]

set_option maxRecDepth 100000 in
theorem to_sel {K : (Nat → Own) → World → Prop} {Stop : Goroutine → (Nat → Own) → World → Prop} {n : Nat} (hS : Stab 0 K) (vx vy : Value) (po qo : Option Nat) (J : Nat → Value) (cs : List Frame) (O : Nat → Own) (w : World) (hK : K O w)
    (next : ∀ O w, K O w → GG Try.prog 0 (fun _ => False) Stop n (GS vx vy po qo J cs) O w) : GG Try.prog 0 (fun _ => False) Stop (n + 12) (GH vx vy po qo J cs) O w := by
  unfold GH MT
  refine GG.ctl hS rfl (fun w => stepG_block) hK fun O w hK => ?_
  refine GG.ctl hS rfl (fun w => stepG_seq) hK fun O w hK => ?_
  refine GG.ctl hS rfl (fun w => stepG_seq) hK fun O w hK => ?_
  refine GG.ctl hS rfl (fun w => stepG_seq) hK fun O w hK => ?_
  refine GG.ctl hS rfl (fun w => stepG_region) hK fun O w hK => ?_
  refine GG.pure hS (v := .chan po) rfl rfl (by decide) (fun w => by simp [go_sem, execOp, Act.eval]) (fun w => by simp [go_sem, execOp, Act.eval]) hK fun O w hK => ?_
  walk_nrm
  refine GG.ctl hS rfl (fun w => stepG_region_end) hK fun O w hK => ?_
  refine GG.ctl hS rfl (fun w => stepG_region) hK fun O w hK => ?_
  refine GG.pure hS (v := .chan qo) rfl rfl (by decide) (fun w => by simp [go_sem, execOp, Act.eval]) (fun w => by simp [go_sem, execOp, Act.eval]) hK fun O w hK => ?_
  walk_nrm
  refine GG.ctl hS rfl (fun w => stepG_region_end) hK fun O w hK => ?_
  refine GG.ctl hS rfl (fun w => stepG_seq) hK fun O w hK => ?_
  refine GG.ctl hS rfl (fun w => stepG_region) hK fun O w hK => ?_
  exact next O w hK

set_option maxRecDepth 100000 in
theorem sel_at (vx vy : Value) (po qo : Option Nat) (J : Nat → Value) (cs : List Frame) : SelAt Try.prog #[ccase po, ccase qo] (GS vx vy po qo J cs) (GS vx vy po qo J cs) := by
  refine ⟨rfl, rfl, rfl, rfl, fun w => ?_⟩
  unfold GS
  rw [stepG_comm (o := { dst := some 18, op := Op.select #[{ chan := Operand.tmp 16, send := none, elem := 25 }, { chan := Operand.tmp 17, send := none, elem := 25 }] true, type := 0, pos := "gather.go:26", after := #[], guard := none }) (cases := #[ccase po, ccase qo]) (blocking := true) (shape := .select) (w' := w) rfl rfl (by decide) (by
    unfold execOp
    simp [Act.eval, zero25, ccase, Array.mapM_eq_foldlM]
    try rfl) , listed_none (by
    unfold execOp
    simp [Act.eval, zero25, zero25e, ccase, Array.mapM_eq_foldlM])]

set_option maxRecDepth 100000 in
theorem z_ss {K : (Nat → Own) → World → Prop} {Stop : Goroutine → (Nat → Own) → World → Prop} {n : Nat} (hS : Stab 0 K) (vx vy : Value) (p q : Nat) (J : Nat → Value) (cs : List Frame) (O : Nat → Own) (w : World) (hK : K O w)
    (next : ∀ J O w, K O w → GG Try.prog 0 (fun _ => False) Stop n (GH vx vy (some p) (some q) J cs) O w) : GG Try.prog 0 (fun _ => False) Stop (n + 13) (GZ vx vy (some p) (some q) J cs) O w := by
  unfold GZ MT
  refine GG.ctl hS rfl (fun w => stepG_seq) hK fun O w hK => ?_
  refine GG.ctl hS rfl (fun w => stepG_region) hK fun O w hK => ?_
  refine GG.pure hS (v := .chan (some p)) rfl rfl (by decide) (fun w => by simp [go_sem, execOp, Act.eval]) (fun w => by simp [go_sem, execOp, Act.eval]) hK fun O w hK => ?_
  walk_nrm
  refine GG.pure hS (v := .bool false) rfl rfl (by decide) (fun w => by simp [go_sem, execOp, Act.eval, chanEq, chanEqE]) (fun w => by simp [go_sem, execOp, Act.eval, chanEq, chanEqE]) hK fun O w hK => ?_
  walk_nrm
  refine GG.pure hS (v := .bool false) rfl rfl (by decide) (fun w => by simp [go_sem, execOp, Act.eval]) (fun w => by simp [go_sem, execOp, Act.eval]) hK fun O w hK => ?_
  walk_nrm
  refine GG.ctl hS rfl (fun w => stepG_unwanted rfl rfl) hK fun O w hK => ?_
  walk_nrm
  refine GG.ctl hS rfl (fun w => stepG_unwanted rfl rfl) hK fun O w hK => ?_
  walk_nrm
  refine GG.pure hS (v := .bool false) rfl rfl (by decide) (fun w => by simp [go_sem, execOp, Act.eval]) (fun w => by simp [go_sem, execOp, Act.eval]) hK fun O w hK => ?_
  walk_nrm
  refine GG.ctl hS rfl (fun w => stepG_region_end) hK fun O w hK => ?_
  refine GG.ctl hS rfl (fun w => stepG_cond (t := false) rfl) hK fun O w hK => ?_
  refine GG.ctl hS rfl (fun w => stepG_skip) hK fun O w hK => ?_
  refine GG.ctl hS rfl (fun w => stepG_inBlock) hK fun O w hK => ?_
  refine GG.ctl hS rfl (fun w => stepG_inLoop) hK fun O w hK => ?_
  exact GG.le (next (fun k => [J 0, J 1, J 2, J 3, vx, vy, .chan (some p), .chan (some q), J 8, J 9, J 10, J 11, J 12, J 13, J 14, J 15, J 16, J 17, J 18, J 19, J 20, J 21, J 22, J 23, J 24, J 25, J 26, J 27, J 28, J 29, J 30, J 31, J 32, J 33, J 34, J 35, J 36, J 37, .chan (some p), .bool false, .bool false, undef, undef, .bool false, J 44, J 45].getD k undef) O w hK) (by omega)

set_option maxRecDepth 100000 in
theorem z_sn {K : (Nat → Own) → World → Prop} {Stop : Goroutine → (Nat → Own) → World → Prop} {n : Nat} (hS : Stab 0 K) (vx vy : Value) (p : Nat) (J : Nat → Value) (cs : List Frame) (O : Nat → Own) (w : World) (hK : K O w)
    (next : ∀ J O w, K O w → GG Try.prog 0 (fun _ => False) Stop n (GH vx vy (some p) none J cs) O w) : GG Try.prog 0 (fun _ => False) Stop (n + 13) (GZ vx vy (some p) none J cs) O w := by
  unfold GZ MT
  refine GG.ctl hS rfl (fun w => stepG_seq) hK fun O w hK => ?_
  refine GG.ctl hS rfl (fun w => stepG_region) hK fun O w hK => ?_
  refine GG.pure hS (v := .chan (some p)) rfl rfl (by decide) (fun w => by simp [go_sem, execOp, Act.eval]) (fun w => by simp [go_sem, execOp, Act.eval]) hK fun O w hK => ?_
  walk_nrm
  refine GG.pure hS (v := .bool false) rfl rfl (by decide) (fun w => by simp [go_sem, execOp, Act.eval, chanEq, chanEqE]) (fun w => by simp [go_sem, execOp, Act.eval, chanEq, chanEqE]) hK fun O w hK => ?_
  walk_nrm
  refine GG.pure hS (v := .bool false) rfl rfl (by decide) (fun w => by simp [go_sem, execOp, Act.eval]) (fun w => by simp [go_sem, execOp, Act.eval]) hK fun O w hK => ?_
  walk_nrm
  refine GG.ctl hS rfl (fun w => stepG_unwanted rfl rfl) hK fun O w hK => ?_
  walk_nrm
  refine GG.ctl hS rfl (fun w => stepG_unwanted rfl rfl) hK fun O w hK => ?_
  walk_nrm
  refine GG.pure hS (v := .bool false) rfl rfl (by decide) (fun w => by simp [go_sem, execOp, Act.eval]) (fun w => by simp [go_sem, execOp, Act.eval]) hK fun O w hK => ?_
  walk_nrm
  refine GG.ctl hS rfl (fun w => stepG_region_end) hK fun O w hK => ?_
  refine GG.ctl hS rfl (fun w => stepG_cond (t := false) rfl) hK fun O w hK => ?_
  refine GG.ctl hS rfl (fun w => stepG_skip) hK fun O w hK => ?_
  refine GG.ctl hS rfl (fun w => stepG_inBlock) hK fun O w hK => ?_
  refine GG.ctl hS rfl (fun w => stepG_inLoop) hK fun O w hK => ?_
  exact GG.le (next (fun k => [J 0, J 1, J 2, J 3, vx, vy, .chan (some p), .chan none, J 8, J 9, J 10, J 11, J 12, J 13, J 14, J 15, J 16, J 17, J 18, J 19, J 20, J 21, J 22, J 23, J 24, J 25, J 26, J 27, J 28, J 29, J 30, J 31, J 32, J 33, J 34, J 35, J 36, J 37, .chan (some p), .bool false, .bool false, undef, undef, .bool false, J 44, J 45].getD k undef) O w hK) (by omega)

set_option maxRecDepth 100000 in
theorem z_ns {K : (Nat → Own) → World → Prop} {Stop : Goroutine → (Nat → Own) → World → Prop} {n : Nat} (hS : Stab 0 K) (vx vy : Value) (q : Nat) (J : Nat → Value) (cs : List Frame) (O : Nat → Own) (w : World) (hK : K O w)
    (next : ∀ J O w, K O w → GG Try.prog 0 (fun _ => False) Stop n (GH vx vy none (some q) J cs) O w) : GG Try.prog 0 (fun _ => False) Stop (n + 13) (GZ vx vy none (some q) J cs) O w := by
  unfold GZ MT
  refine GG.ctl hS rfl (fun w => stepG_seq) hK fun O w hK => ?_
  refine GG.ctl hS rfl (fun w => stepG_region) hK fun O w hK => ?_
  refine GG.pure hS (v := .chan none) rfl rfl (by decide) (fun w => by simp [go_sem, execOp, Act.eval]) (fun w => by simp [go_sem, execOp, Act.eval]) hK fun O w hK => ?_
  walk_nrm
  refine GG.pure hS (v := .bool true) rfl rfl (by decide) (fun w => by simp [go_sem, execOp, Act.eval, chanEq, chanEqE]) (fun w => by simp [go_sem, execOp, Act.eval, chanEq, chanEqE]) hK fun O w hK => ?_
  walk_nrm
  refine GG.pure hS (v := .bool true) rfl rfl (by decide) (fun w => by simp [go_sem, execOp, Act.eval]) (fun w => by simp [go_sem, execOp, Act.eval]) hK fun O w hK => ?_
  walk_nrm
  refine GG.pure hS (v := .chan (some q)) rfl rfl (by decide) (fun w => by simp [go_sem, execOp, Act.eval]) (fun w => by simp [go_sem, execOp, Act.eval]) hK fun O w hK => ?_
  walk_nrm
  refine GG.pure hS (v := .bool false) rfl rfl (by decide) (fun w => by simp [go_sem, execOp, Act.eval, chanEq, chanEqE]) (fun w => by simp [go_sem, execOp, Act.eval, chanEq, chanEqE]) hK fun O w hK => ?_
  walk_nrm
  refine GG.pure hS (v := .bool false) rfl rfl (by decide) (fun w => by simp [go_sem, execOp, Act.eval]) (fun w => by simp [go_sem, execOp, Act.eval]) hK fun O w hK => ?_
  walk_nrm
  refine GG.ctl hS rfl (fun w => stepG_region_end) hK fun O w hK => ?_
  refine GG.ctl hS rfl (fun w => stepG_cond (t := false) rfl) hK fun O w hK => ?_
  refine GG.ctl hS rfl (fun w => stepG_skip) hK fun O w hK => ?_
  refine GG.ctl hS rfl (fun w => stepG_inBlock) hK fun O w hK => ?_
  refine GG.ctl hS rfl (fun w => stepG_inLoop) hK fun O w hK => ?_
  exact GG.le (next (fun k => [J 0, J 1, J 2, J 3, vx, vy, .chan none, .chan (some q), J 8, J 9, J 10, J 11, J 12, J 13, J 14, J 15, J 16, J 17, J 18, J 19, J 20, J 21, J 22, J 23, J 24, J 25, J 26, J 27, J 28, J 29, J 30, J 31, J 32, J 33, J 34, J 35, J 36, J 37, .chan none, .bool true, .bool true, .chan (some q), .bool false, .bool false, J 44, J 45].getD k undef) O w hK) (by omega)

set_option maxRecDepth 100000 in
theorem z_nn {K : (Nat → Own) → World → Prop} {Stop : Goroutine → (Nat → Own) → World → Prop} {n : Nat} (hS : Stab 0 K) (vx vy : Value) (J : Nat → Value) (cs : List Frame) (O : Nat → Own) (w : World) (hK : K O w)
    (next : ∀ J O w, K O w → GG Try.prog 0 (fun _ => False) Stop n (GY vx vy J cs) O w) : GG Try.prog 0 (fun _ => False) Stop (n + 13) (GZ vx vy none none J cs) O w := by
  unfold GZ MT
  refine GG.ctl hS rfl (fun w => stepG_seq) hK fun O w hK => ?_
  refine GG.ctl hS rfl (fun w => stepG_region) hK fun O w hK => ?_
  refine GG.pure hS (v := .chan none) rfl rfl (by decide) (fun w => by simp [go_sem, execOp, Act.eval]) (fun w => by simp [go_sem, execOp, Act.eval]) hK fun O w hK => ?_
  walk_nrm
  refine GG.pure hS (v := .bool true) rfl rfl (by decide) (fun w => by simp [go_sem, execOp, Act.eval, chanEq, chanEqE]) (fun w => by simp [go_sem, execOp, Act.eval, chanEq, chanEqE]) hK fun O w hK => ?_
  walk_nrm
  refine GG.pure hS (v := .bool true) rfl rfl (by decide) (fun w => by simp [go_sem, execOp, Act.eval]) (fun w => by simp [go_sem, execOp, Act.eval]) hK fun O w hK => ?_
  walk_nrm
  refine GG.pure hS (v := .chan none) rfl rfl (by decide) (fun w => by simp [go_sem, execOp, Act.eval]) (fun w => by simp [go_sem, execOp, Act.eval]) hK fun O w hK => ?_
  walk_nrm
  refine GG.pure hS (v := .bool true) rfl rfl (by decide) (fun w => by simp [go_sem, execOp, Act.eval, chanEq, chanEqE]) (fun w => by simp [go_sem, execOp, Act.eval, chanEq, chanEqE]) hK fun O w hK => ?_
  walk_nrm
  refine GG.pure hS (v := .bool true) rfl rfl (by decide) (fun w => by simp [go_sem, execOp, Act.eval]) (fun w => by simp [go_sem, execOp, Act.eval]) hK fun O w hK => ?_
  walk_nrm
  refine GG.ctl hS rfl (fun w => stepG_region_end) hK fun O w hK => ?_
  refine GG.ctl hS rfl (fun w => stepG_cond (t := true) rfl) hK fun O w hK => ?_
  refine GG.ctl hS rfl (fun w => stepG_exit rfl) hK fun O w hK => ?_
  exact GG.le (next (fun k => [J 0, J 1, J 2, J 3, vx, vy, .chan none, .chan none, J 8, J 9, J 10, J 11, J 12, J 13, J 14, J 15, J 16, J 17, J 18, J 19, J 20, J 21, J 22, J 23, J 24, J 25, J 26, J 27, J 28, J 29, J 30, J 31, J 32, J 33, J 34, J 35, J 36, J 37, .chan none, .bool true, .bool true, .chan none, .bool true, .bool true, J 44, J 45].getD k undef) O w hK) (by omega)
end Go.Proofs.Ytpoknlbnookhjaa.Gt
