/- The operations that the laws meet: each is mild. -/
import Derived.Test.YtpoknlbnookhjaaGa
set_option linter.unusedVariables false
set_option linter.unusedSimpArgs false
namespace Go.Lone
open Go.Conc
class MC {α : Type} (P : Program) (s : Sem α) : Prop where
  out : Mild P Any s
section
variable {P : Program} {α β : Type}
theorem MC.bind (s : Sem α) (f : α → Sem β) (h : MC P s) (k : ∀ a, MC P (f a)) : MC P (s >>= f) := ⟨Mild.bind h.out fun a => (k a).out⟩
instance (a : α) : MC P (Pure.pure a : Sem α) := ⟨trivial⟩
instance (s : String) : MC P (stuck s : Sem α) := ⟨trivial⟩
instance (u : Unsupported) : MC P (unsupported u : Sem α) := ⟨trivial⟩
instance (v : Value) : MC P (goPanic v : Sem α) := ⟨trivial⟩
instance (q : Question) : MC P (choose q) := ⟨fun _ => trivial⟩
instance (r : Nat) : MC P (shape r) := ⟨fun _ => trivial⟩
instance (a : Addr) : MC P (frozen a) := ⟨fun _ => trivial⟩
instance (r : Nat) : MC P (getObj r) := ⟨fun _ => trivial⟩
instance (o : Obj) : MC P (newObj o) := ⟨fun _ => trivial⟩
instance (a : Addr) : MC P (load a) := ⟨fun _ => trivial⟩
instance (a : Addr) (v : Value) : MC P (store a v) := ⟨trivial⟩
instance : MC P program := ⟨trivial⟩
instance : MC P (mark .noRoom) := ⟨⟨rfl, trivial⟩⟩
instance (f : α → β) (s : Sem α) [h : MC P s] : MC P (f <$> s) := MC.bind s _ h fun a => ⟨trivial⟩
instance (s : Sem α) (f : α → Sem β) [h : MC P s] [k : ∀ a, MC P (f a)] : MC P (s >>= f) := MC.bind s f h k
instance (c : Prop) [Decidable c] (s t : Sem α) [h : MC P s] [k : MC P t] : MC P (if c then s else t) := by split <;> infer_instance
theorem MC.ite (c : Prop) [Decidable c] (s t : Sem α) (h : MC P s) (k : MC P t) : MC P (if c then s else t) := by split <;> assumption
theorem MC.forIn' {γ : Type} (l : List γ) (b : β) (f : γ → β → Sem (ForInStep β)) (h : ∀ a b, MC P (f a b)) : MC P (forIn l b f) := by
  induction l generalizing b with
  | nil => exact ⟨trivial⟩
  | cons x l ih =>
    rw [List.forIn_cons]
    refine MC.bind _ _ (h x b) fun s => ?_
    cases s with
    | done b => exact ⟨trivial⟩
    | yield b => exact ih b
theorem MC.mapM' {γ : Type} (l : List γ) (f : γ → Sem β) (h : ∀ a, MC P (f a)) : MC P (l.mapM f) := by
  induction l with
  | nil => exact ⟨trivial⟩
  | cons x l ih =>
    rw [List.mapM_cons]
    exact MC.bind _ _ (h x) fun y => MC.bind _ _ ih fun _ => ⟨trivial⟩
instance {γ : Type} (l : List γ) (b : β) (f : γ → β → Sem (ForInStep β)) [h : ∀ a b, MC P (f a b)] : MC P (forIn l b f) := MC.forIn' l b f h
instance {γ : Type} (l : Array γ) (b : β) (f : γ → β → Sem (ForInStep β)) [h : ∀ a b, MC P (f a b)] : MC P (forIn l b f) := by rw [← Array.forIn_toList]; exact MC.forIn' _ b f h
theorem MC.forInA {γ : Type} (l : Array γ) (b : β) (f : γ → β → Sem (ForInStep β)) (h : ∀ a b, MC P (f a b)) : MC P (forIn l b f) := by rw [← Array.forIn_toList]; exact MC.forIn' _ b f h
theorem MC.forInR (l : Std.Legacy.Range) (b : β) (f : Nat → β → Sem (ForInStep β)) (h : ∀ a b, MC P (f a b)) : MC P (forIn l b f) := by rw [Std.Legacy.Range.forIn_eq_forIn_range']; exact MC.forIn' _ b f h
theorem MC.mapMA {γ : Type} (l : Array γ) (f : γ → Sem β) (h : ∀ a, MC P (f a)) : MC P (l.mapM f) := by
  rw [Array.mapM_eq_mapM_toList]
  have := MC.mapM' l.toList f h
  infer_instance
end
section
variable {P : Program}
instance (b : Nat) : MC P (askRoom b) := by unfold askRoom; infer_instance
instance (r : Nat) : MC P (viewAt r) := by unfold viewAt; repeat' (first | infer_instance | refine MC.bind _ _ ?_ (fun _ => ?_) | split | intro _ | dsimp only)
instance (r : Nat) : MC P (numberAt r) := by unfold numberAt; repeat' (first | infer_instance | refine MC.bind _ _ ?_ (fun _ => ?_) | split | intro _ | dsimp only)
instance (a : Addr) (l : Bool) : MC P (asNumber a l) := by unfold asNumber; repeat' (first | infer_instance | refine MC.bind _ _ ?_ (fun _ => ?_) | split | intro _ | dsimp only)
instance (a : Addr) : MC P (behindNumber a) := by unfold behindNumber; repeat' (first | infer_instance | refine MC.bind _ _ ?_ (fun _ => ?_) | split | intro _ | dsimp only)
instance (a : Addr) : MC P (noView a) := by unfold noView; repeat' (first | infer_instance | refine MC.bind _ _ ?_ (fun _ => ?_) | split | intro _ | dsimp only)
instance (a : Addr) : MC P (stringish a) := by unfold stringish; repeat' (first | infer_instance | refine MC.bind _ _ ?_ (fun _ => ?_) | split | intro _ | dsimp only)
instance (a b : Addr) : MC P (mayBeOne a b) := by unfold mayBeOne; repeat' (first | infer_instance | refine MC.bind _ _ ?_ (fun _ => ?_) | split | intro _ | dsimp only)
instance (a b : Addr) : MC P (sameAddr a b) := by unfold sameAddr; repeat' (first | infer_instance | refine MC.bind _ _ ?_ (fun _ => ?_) | split | intro _ | dsimp only)
instance (a b : Option Addr) : MC P (samePointer a b) := by unfold samePointer; repeat' (first | infer_instance | refine MC.bind _ _ ?_ (fun _ => ?_) | split | intro _ | dsimp only)
instance (t : TypeId) : MC P (typeInfo t) := by unfold typeInfo; repeat' (first | infer_instance | refine MC.bind _ _ ?_ (fun _ => ?_) | split | intro _ | dsimp only)
instance (t : TypeId) : MC P (underlying t) := by unfold underlying; repeat' (first | infer_instance | refine MC.bind _ _ ?_ (fun _ => ?_) | split | intro _ | dsimp only)
instance (t : TypeId) : MC P (typeStr t) := by unfold typeStr; repeat' (first | infer_instance | refine MC.bind _ _ ?_ (fun _ => ?_) | split | intro _ | dsimp only)
instance (t : TypeId) : MC P (zeroValue t) := by unfold zeroValue; repeat' (first | infer_instance | refine MC.bind _ _ ?_ (fun _ => ?_) | split | intro _ | dsimp only)
instance (t : TypeId) : MC P (sizeOf t) := by unfold sizeOf; repeat' (first | infer_instance | refine MC.bind _ _ ?_ (fun _ => ?_) | split | intro _ | dsimp only)
instance (t : TypeId) : MC P (isAgg t) := by unfold isAgg; repeat' (first | infer_instance | refine MC.bind _ _ ?_ (fun _ => ?_) | split | intro _ | dsimp only)
instance (a : Addr) (i n : Nat) (l : Array Value) : MC P (loadCellsFrom a i n l) := by
  induction n generalizing i l with
  | zero => unfold loadCellsFrom; infer_instance
  | succ n ih => unfold loadCellsFrom; exact MC.bind _ _ inferInstance fun _ => ih _ _
instance (a : Addr) (n : Nat) : MC P (loadCells a n) := by unfold loadCells; infer_instance
instance (a : Addr) (l : List Value) (i : Nat) : MC P (storeCells a l i) := by
  induction l generalizing i with
  | nil => unfold storeCells; infer_instance
  | cons v l ih => unfold storeCells; exact MC.bind _ _ inferInstance fun _ => ih _
instance (t : TypeId) (a : Addr) : MC P (loadVar t a) := by unfold loadVar; repeat' (first | infer_instance | refine MC.bind _ _ ?_ (fun _ => ?_) | split | intro _ | dsimp only)
instance (t : TypeId) (a : Addr) (v : Value) : MC P (storeVar t a v) := by unfold storeVar; repeat' (first | infer_instance | refine MC.bind _ _ ?_ (fun _ => ?_) | split | intro _ | dsimp only)
instance (t : TypeId) (l : Array Value) : MC P (newRow t l) := by unfold newRow; repeat' (first | infer_instance | refine MC.bind _ _ ?_ (fun _ => ?_) | split | intro _ | dsimp only)
instance (t : TypeId) (v : Value) : MC P (newVar t v) := by unfold newVar; repeat' (first | infer_instance | refine MC.bind _ _ ?_ (fun _ => ?_) | split | intro _ | dsimp only)
instance (t : TypeId) : MC P (elemOf t) := by unfold elemOf; repeat' (first | infer_instance | refine MC.bind _ _ ?_ (fun _ => ?_) | split | intro _ | dsimp only)
instance (t : TypeId) (l : Array Value) (o : Nat) : MC P (part t l o) := by unfold part; repeat' (first | infer_instance | refine MC.bind _ _ ?_ (fun _ => ?_) | split | intro _ | dsimp only)
instance {α : Type} (e : RuntimeError) : MC P (runtimePanic e : Sem α) := by unfold runtimePanic; repeat' (first | infer_instance | refine MC.bind _ _ ?_ (fun _ => ?_) | split | intro _ | dsimp only)
instance {α : Type} (k : IntKind) (x y : Int) (c : BoundsCode) : MC P (boundsPanic k x y c : Sem α) := by unfold boundsPanic; repeat' (first | infer_instance | refine MC.bind _ _ ?_ (fun _ => ?_) | split | intro _ | dsimp only)
instance (v : Value) : MC P (asIntOf v) := by unfold asIntOf; repeat' (first | infer_instance | refine MC.bind _ _ ?_ (fun _ => ?_) | split | intro _ | dsimp only)
instance (v : Value) : MC P (asInt v) := by unfold asInt; repeat' (first | infer_instance | refine MC.bind _ _ ?_ (fun _ => ?_) | split | intro _ | dsimp only)
instance (v : Value) : MC P (asBool v) := by unfold asBool; repeat' (first | infer_instance | refine MC.bind _ _ ?_ (fun _ => ?_) | split | intro _ | dsimp only)
instance (v : Value) : MC P (asAddr v) := by unfold asAddr; repeat' (first | infer_instance | refine MC.bind _ _ ?_ (fun _ => ?_) | split | intro _ | dsimp only)
instance (v : Value) : MC P (Instr.sureAddr v) := by unfold Instr.sureAddr; repeat' (first | infer_instance | refine MC.bind _ _ ?_ (fun _ => ?_) | split | intro _ | dsimp only)
instance (a : Addr) : MC P (byteOf a) := by unfold byteOf; repeat' (first | infer_instance | refine MC.bind _ _ ?_ (fun _ => ?_) | split | intro _ | dsimp only)
instance (a : Addr) (b c : Nat) : MC P (partAt a b c) := by unfold partAt; repeat' (first | infer_instance | refine MC.bind _ _ ?_ (fun _ => ?_) | split | intro _ | dsimp only)
instance (a : Addr) (f : Field) : MC P (fieldPlace a f) := by unfold fieldPlace; repeat' (first | infer_instance | refine MC.bind _ _ ?_ (fun _ => ?_) | split | intro _ | dsimp only)
instance (op : BinOp) (k : IntKind) (x y : Int) : MC P (Op.intArith op k x y) := by unfold Op.intArith; repeat' (first | infer_instance | refine MC.bind _ _ ?_ (fun _ => ?_) | split | intro _ | dsimp only)
instance (op : BinOp) (k : IntKind) (x y : Int) : MC P (Op.intBits op k x y) := by unfold Op.intBits; repeat' (first | infer_instance | refine MC.bind _ _ ?_ (fun _ => ?_) | split | intro _ | dsimp only)
instance (op : BinOp) (x y : Int) : MC P (Op.intCmp op x y) := by unfold Op.intCmp; repeat' (first | infer_instance | refine MC.bind _ _ ?_ (fun _ => ?_) | split | intro _ | dsimp only)
instance (op : BinOp) (k : IntKind) (x y : Int) : MC P (Op.intDiv op k x y) := by unfold Op.intDiv; repeat' (first | infer_instance | refine MC.bind _ _ ?_ (fun _ => ?_) | split | intro _ | dsimp only)
instance (op : BinOp) (k l : IntKind) (x y : Int) : MC P (Op.shift op k x l y) := by unfold Op.shift; repeat' (first | infer_instance | refine MC.bind _ _ ?_ (fun _ => ?_) | split | intro _ | dsimp only)
instance (op : BinOp) (x y : ByteArray) : MC P (Op.stringOp op x y) := by unfold Op.stringOp; repeat' (first | infer_instance | refine MC.bind _ _ ?_ (fun _ => ?_) | split | intro _ | dsimp only)
instance (op : UnOp) (x : Value) : MC P (Op.unary op x) := by unfold Op.unary; repeat' (first | infer_instance | refine MC.bind _ _ ?_ (fun _ => ?_) | split | intro _ | dsimp only)
instance (op : BinOp) (k : FloatKind) (x y : Nat) : MC P (Op.floatArith op k x y) := by unfold Op.floatArith; repeat' (first | infer_instance | refine MC.bind _ _ ?_ (fun _ => ?_) | split | intro _ | dsimp only)
instance (op : BinOp) (k : FloatKind) (x y : Nat) : MC P (Op.floatCmp op k x y) := by unfold Op.floatCmp; repeat' (first | infer_instance | refine MC.bind _ _ ?_ (fun _ => ?_) | split | intro _ | dsimp only)
instance (src : FloatKind) (x : Nat) (dst : FloatKind) : MC P (Conv.floatToFloat src x dst) := by unfold Conv.floatToFloat; repeat' (first | infer_instance | refine MC.bind _ _ ?_ (fun _ => ?_) | split | intro _ | dsimp only)
instance (src : FloatKind) (x : Nat) (dst : IntKind) : MC P (Conv.floatToInt src x dst) := by unfold Conv.floatToInt; repeat' (first | infer_instance | refine MC.bind _ _ ?_ (fun _ => ?_) | split | intro _ | dsimp only)
instance (k : IntKind) (x : Int) : MC P (Conv.intToInt k x) := by unfold Conv.intToInt; repeat' (first | infer_instance | refine MC.bind _ _ ?_ (fun _ => ?_) | split | intro _ | dsimp only)
instance (op : BinOp) (k : FloatKind) (x y : Nat) : MC P (Op.Complex.arith op k x y) := by unfold Op.Complex.arith; repeat' (first | infer_instance | refine MC.bind _ _ ?_ (fun _ => ?_) | split | intro _ | dsimp only)
instance (op : BinOp) (k : FloatKind) (x y : Nat) : MC P (Op.Complex.cmp op k x y) := by unfold Op.Complex.cmp; repeat' (first | infer_instance | refine MC.bind _ _ ?_ (fun _ => ?_) | split | intro _ | dsimp only)
instance (k : FloatKind) (x : Nat) (l : FloatKind) : MC P (Op.Complex.conv k x l) := by unfold Op.Complex.conv; repeat' (first | infer_instance | refine MC.bind _ _ ?_ (fun _ => ?_) | split | intro _ | dsimp only)
instance (x y : Nat) : MC P (Op.Complex.add x y) := by unfold Op.Complex.add; repeat' (first | infer_instance | refine MC.bind _ _ ?_ (fun _ => ?_) | split | intro _ | dsimp only)
instance (x y : Nat) : MC P (Op.Complex.sub x y) := by unfold Op.Complex.sub; repeat' (first | infer_instance | refine MC.bind _ _ ?_ (fun _ => ?_) | split | intro _ | dsimp only)
instance (x y : Nat) : MC P (Op.Complex.mul x y) := by unfold Op.Complex.mul; repeat' (first | infer_instance | refine MC.bind _ _ ?_ (fun _ => ?_) | split | intro _ | dsimp only)
instance (x y : Nat) : MC P (Op.Complex.quo x y) := by unfold Op.Complex.quo; repeat' (first | infer_instance | refine MC.bind _ _ ?_ (fun _ => ?_) | split | intro _ | dsimp only)
instance (a b c d : Nat) : MC P (Op.Complex.product a b c d) := by unfold Op.Complex.product; repeat' (first | infer_instance | refine MC.bind _ _ ?_ (fun _ => ?_) | split | intro _ | dsimp only)
instance (s a b c d : Nat) : MC P (Op.Complex.corrected s a b c d) := by unfold Op.Complex.corrected; repeat' (first | infer_instance | refine MC.bind _ _ ?_ (fun _ => ?_) | split | intro _ | dsimp only)
instance (a b c d : Nat) : MC P (Op.Complex.quotient a b c d) := by unfold Op.Complex.quotient; repeat' (first | infer_instance | refine MC.bind _ _ ?_ (fun _ => ?_) | split | intro _ | dsimp only)
instance (op : BinOp) (k : FloatKind) (a b c d : Nat) : MC P (Op.complexOp op k a b c d) := by unfold Op.complexOp; repeat' (first | infer_instance | refine MC.bind _ _ ?_ (fun _ => ?_) | split | intro _ | dsimp only)
instance (a b : Addr) : MC P (Op.twoPlaces a b) := by unfold Op.twoPlaces; repeat' (first | infer_instance | refine MC.bind _ _ ?_ (fun _ => ?_) | split | intro _ | dsimp only)
instance (k : IntKind) (a b : Addr) : MC P (Op.addrSub k a b) := by unfold Op.addrSub; repeat' (first | infer_instance | refine MC.bind _ _ ?_ (fun _ => ?_) | split | intro _ | dsimp only)
instance (op : BinOp) (a b : Addr) : MC P (Op.addrCmp op a b) := by unfold Op.addrCmp; repeat' (first | infer_instance | refine MC.bind _ _ ?_ (fun _ => ?_) | split | intro _ | dsimp only)
instance (k : IntKind) (a : Addr) (n : Int) : MC P (Op.addrMod k a n) := by unfold Op.addrMod; repeat' (first | infer_instance | refine MC.bind _ _ ?_ (fun _ => ?_) | split | intro _ | dsimp only)
instance (t : Array TypeId) (u : TypeId) (args : Array Value) : MC P (Builtin.unsafeAdd_ t u args) := by
  have hp : ∀ (ptr : Option Addr) (x : Value), MC P (Builtin.unsafeAdd_ t u #[.pointer ptr, x]) := fun ptr x => by
    unfold Builtin.unsafeAdd_
    repeat' (first | infer_instance | refine MC.bind _ _ ?_ (fun _ => ?_) | split | intro _ | dsimp only)
  obtain ⟨l⟩ := args
  rcases l with _ | ⟨a, _ | ⟨b, _ | ⟨c, l⟩⟩⟩
  · exact (inferInstance : MC P (stuck _ : Sem Value))
  · exact (inferInstance : MC P (stuck _ : Sem Value))
  · cases a <;> first | exact hp _ _ | exact (inferInstance : MC P (stuck _ : Sem Value))
  · exact (inferInstance : MC P (stuck _ : Sem Value))
instance (t : TypeId) (x y : Value) : MC P (movedNumber t x y) := by unfold movedNumber; repeat' (first | infer_instance | refine MC.bind _ _ ?_ (fun _ => ?_) | split | intro _ | dsimp only)
instance (t : TypeId) (x y : Value) : MC P (movedPointer t x y) := by unfold movedPointer; repeat' (first | infer_instance | refine MC.bind _ _ ?_ (fun _ => ?_) | split | intro _ | dsimp only)
instance (n : Nat) (t : TypeId) (x y : Value) : MC P (Op.equalIn n t x y) := by
  induction n generalizing t x y with
  | zero => unfold Op.equalIn; infer_instance
  | succ n ih =>
    have : ∀ t x y, MC P (Op.equalIn n t x y) := ih
    unfold Op.equalIn
    repeat' (first | infer_instance | refine MC.bind _ _ ?_ (fun _ => ?_) | refine MC.forInA _ _ _ (fun _ _ => ?_) | refine MC.forInR _ _ _ (fun _ _ => ?_) | split | intro _ | dsimp only)
instance (t : TypeId) (x y : Value) : MC P (Op.equal t x y) := by unfold Op.equal; infer_instance
instance (n : Nat) (t : TypeId) (x y : Value) : MC P (Op.eqGuardIn n t x y) := by
  induction n generalizing t x y with
  | zero => unfold Op.eqGuardIn; infer_instance
  | succ n ih =>
    have : ∀ t x y, MC P (Op.eqGuardIn n t x y) := ih
    unfold Op.eqGuardIn
    repeat' (first | infer_instance | refine MC.bind _ _ ?_ (fun _ => ?_) | refine MC.forInA _ _ _ (fun _ _ => ?_) | refine MC.forInR _ _ _ (fun _ _ => ?_) | split | intro _ | dsimp only)
instance (op : BinOp) (t : TypeId) (x y : Operand) (a b : Value) : MC P (eqGuard op t x y a b) := by unfold eqGuard; repeat' (first | infer_instance | refine MC.bind _ _ ?_ (fun _ => ?_) | split | intro _ | dsimp only)
instance (op : BinOp) (t : TypeId) (x y : Value) : MC P (binOp op t x y) := by unfold binOp; repeat' (first | infer_instance | refine MC.bind _ _ ?_ (fun _ => ?_) | split | intro _ | dsimp only)
instance (t : TypeId) (v : Value) : MC P (Instr.loadAt t v) := by unfold Instr.loadAt; repeat' (first | infer_instance | refine MC.bind _ _ ?_ (fun _ => ?_) | split | intro _ | dsimp only)
instance (t : TypeId) (v x : Value) : MC P (Instr.storeAt t v x) := by unfold Instr.storeAt; repeat' (first | infer_instance | refine MC.bind _ _ ?_ (fun _ => ?_) | split | intro _ | dsimp only)
instance (t : TypeId) (v : Value) (n : Nat) : MC P (Instr.fieldAt t v n) := by unfold Instr.fieldAt; repeat' (first | infer_instance | refine MC.bind _ _ ?_ (fun _ => ?_) | split | intro _ | dsimp only)
instance (t : TypeId) (v x : Value) : MC P (Instr.indexAt t v x) := by unfold Instr.indexAt; repeat' (first | infer_instance | refine MC.bind _ _ ?_ (fun _ => ?_) | split | intro _ | dsimp only)
instance (v : Value) (n : Nat) (c : BoundsCode) : MC P (Instr.sliceBound v n c) := by unfold Instr.sliceBound; repeat' (first | infer_instance | refine MC.bind _ _ ?_ (fun _ => ?_) | split | intro _ | dsimp only)
instance (b : Bool) (n m : Nat) (x y z : Option Value) : MC P (Instr.sliceBounds b n m x y z) := by unfold Instr.sliceBounds; repeat' (first | infer_instance | refine MC.bind _ _ ?_ (fun _ => ?_) | split | intro _ | dsimp only)
instance (t : TypeId) (v : Value) (x y z : Option Value) : MC P (Instr.slice t v x y z) := by unfold Instr.slice; repeat' (first | infer_instance | refine MC.bind _ _ ?_ (fun _ => ?_) | split | intro _ | dsimp only)
instance (t : TypeId) (v : Value) (x y z : Option Value) : MC P (Instr.sliceAt t v x y z) := by unfold Instr.sliceAt; repeat' (first | infer_instance | refine MC.bind _ _ ?_ (fun _ => ?_) | split | intro _ | dsimp only)
instance (t : TypeId) (b : Bool) (v : Value) : MC P (Instr.alloc t b v) := by unfold Instr.alloc; repeat' (first | infer_instance | refine MC.bind _ _ ?_ (fun _ => ?_) | split | intro _ | dsimp only)
instance (t : TypeId) (v : Value) : MC P (Instr.box t v) := by unfold Instr.box; repeat' (first | infer_instance | refine MC.bind _ _ ?_ (fun _ => ?_) | split | intro _ | dsimp only)
instance (t : TypeId) (l : Array (Nat × Value)) : MC P (Instr.build t l) := by
  unfold Instr.build
  repeat' (first | infer_instance | refine MC.bind _ _ ?_ (fun _ => ?_) | refine MC.mapMA _ _ (fun _ => ?_) | split | intro _ | dsimp only)
instance (t : TypeId) (n : Nat) (l : Array (Nat × Value)) : MC P (Instr.buildSlice t n l) := by unfold Instr.buildSlice; repeat' (first | infer_instance | refine MC.bind _ _ ?_ (fun _ => ?_) | split | intro _ | dsimp only)
instance (t : TypeId) (l c : Value) : MC P (Instr.makeSlice t l c) := by unfold Instr.makeSlice; repeat' (first | infer_instance | refine MC.bind _ _ ?_ (fun _ => ?_) | split | intro _ | dsimp only)
instance (v : Value) (n : Nat) : MC P (Instr.extract v n) := by unfold Instr.extract; repeat' (first | infer_instance | refine MC.bind _ _ ?_ (fun _ => ?_) | split | intro _ | dsimp only)
instance (a : Addr) (n : Nat) : MC P (Builtin.holdsCells a n) := by unfold Builtin.holdsCells; repeat' (first | infer_instance | refine MC.bind _ _ ?_ (fun _ => ?_) | split | intro _ | dsimp only)
instance (a b c : Nat) (d : Option Addr) (e : Value) : MC P (Builtin.mayShare a b c d e) := by unfold Builtin.mayShare; repeat' (first | infer_instance | refine MC.bind _ _ ?_ (fun _ => ?_) | split | intro _ | dsimp only)
instance (v : Value) : MC P (Builtin.lenOf v) := by unfold Builtin.lenOf; repeat' (first | infer_instance | refine MC.bind _ _ ?_ (fun _ => ?_) | split | intro _ | dsimp only)
instance (a b : Nat) (v : Value) : MC P (Builtin.firstCells a b v) := by unfold Builtin.firstCells; repeat' (first | infer_instance | refine MC.bind _ _ ?_ (fun _ => ?_) | split | intro _ | dsimp only)
set_option maxHeartbeats 4000000 in
instance (ts : Array TypeId) (t : TypeId) (l : Array Value) : MC P (Builtin.append_ ts t l) := by
  unfold Builtin.append_
  repeat' (first | refine MC.bind _ _ ?_ (fun _ => ?_) | refine MC.ite _ _ _ ?_ ?_ | infer_instance | dsimp only | split | intro _)
instance (ts : Array TypeId) (t : TypeId) (l : Array Value) : MC P (Builtin.len_ ts t l) := by unfold Builtin.len_; repeat' (first | infer_instance | refine MC.bind _ _ ?_ (fun _ => ?_) | split | intro _ | dsimp only)
instance (x y : Value) : MC P (Builtin.min2 x y) := by unfold Builtin.min2; repeat' (first | infer_instance | refine MC.bind _ _ ?_ (fun _ => ?_) | split | intro _ | dsimp only)
theorem MC.foldlM' {β γ : Type} (l : List γ) (f : β → γ → Sem β) (h : ∀ a b, MC P (f a b)) : ∀ b, MC P (l.foldlM f b) := by
  induction l with
  | nil => exact fun b => ⟨trivial⟩
  | cons x l ih => intro b; rw [List.foldlM_cons]; exact MC.bind _ _ (h b x) ih
instance (ts : Array TypeId) (t : TypeId) (l : Array Value) : MC P (Builtin.min_ ts t l) := by
  unfold Builtin.min_
  split
  · infer_instance
  · exact MC.foldlM' _ _ (fun _ _ => inferInstance) _
theorem vsV (s : Sem Value) [h : MC P s] : Mild P (fun n : Next => match n with | .value _ => True | .skip => True | _ => False) (do pure (.value (← s))) := Mild.bind h.out fun _ => trivial
theorem vsU (s : Sem Unit) [h : MC P s] : Mild P (fun n : Next => match n with | .value _ => True | .skip => True | _ => False) (do s; pure .skip) := Mild.bind h.out fun _ => trivial
end
end Go.Lone
