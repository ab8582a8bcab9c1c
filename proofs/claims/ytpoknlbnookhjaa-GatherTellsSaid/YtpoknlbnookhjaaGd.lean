/- The engine, beside goroutines that only leave. -/
import Derived.Test.YtpoknlbnookhjaaGb
import Derived.Test.YtpoknlbnookhjaaGc
import Derived.Test.YtpoknlbnookhjaaAe
import Derived.Conc.CompanyCalls
import Derived.Conc.CompanyDraw
set_option linter.unusedVariables false
set_option linter.unusedSimpArgs false
namespace Go.Proofs.Ytpoknlbnookhjaa.Ae
open Go.RowKit
open Go.Conc (G stepG_skip stepG_label stepG_exit stepG_seq stepG_cond stepG_block stepG_inBlock stepG_loop stepG_inLoop stepG_region stepG_region_end stepG_end stepG_ret' stepG_unwanted stepG_enter run_call_body events_call_body ResultsC enter_at base mem_listed seen_none)
open Go.Lone

/-! ### which operations are mild -/
def fineOp : Op → Bool
  | .move _ | .assign _ | .pick _ _ _ | .extract _ _ | .alloc _ | .box _ _ | .build _ _ | .buildSlice _ _ _ | .load _ _ | .store _ _ _ | .indexAddr _ _ _ | .fieldAddr _ _ _ | .slice _ _ _ _ _ | .makeSlice _ _ _ | .binOp _ _ _ _ _ | .unOp _ _ _ => true
  | .convert a b _ => a == 3 && b == 23
  | .call c => match c.callee with
    | .builtin .len => true
    | .builtin .min => true
    | .builtin .append => true
    | _ => false
  | _ => false
def callOf : Op → Option (FuncId × Array Operand)
  | .call c => match c.callee with
    | .value (.func f) => some (f, c.args)
    | _ => none
  | _ => none
theorem vsV {P : Program} (s : Sem Value) [h : MC P s] : Mild P vs (do pure (.value (← s))) := Mild.bind h.out fun _ => trivial
theorem vsU {P : Program} (s : Sem Unit) [h : MC P s] : Mild P vs (do s; pure .skip) := Mild.bind h.out fun _ => trivial
/-- What of the types' table the operations hang on. -/
structure Und (P : Program) : Prop where
  t3 : P.underlying 3 = some (.int .i64)
  t23 : P.underlying 23 = some (.int .u32)
theorem und_bind {P : Program} {α : Type} {ok : α → Prop} {t : TypeId} {d : TypeDesc} (h : P.underlying t = some d) {f : TypeDesc → Sem α} (k : Mild P ok (f d)) : Mild P ok (underlying t >>= f) := by
  show Mild P ok ((match P.underlying t with
    | some d => (pure d : Sem TypeDesc)
    | none => stuck "no such type").bind f)
  rw [h]
  exact k
theorem conv_mild {P : Program} (x : Value) (h : Und P) : MC P (convert 3 23 x) := by
  constructor
  unfold convert
  refine und_bind h.t3 (und_bind h.t23 ?_)
  cases x <;> first | exact trivial | skip
  · rename_i k n; exact (inferInstance : MC P (Conv.floatToInt k n .u32)).out
  · rename_i k; cases k <;> exact trivial
theorem fine_sound {P : Program} (hU : Und P) {o : Oper} (h : fineOp o.op = true) (ρ : Operand → Value) : Mild P vs (execOp ρ o) := by
  obtain ⟨dst, op, ty, pos, af, gd⟩ := o
  cases op <;> simp only [fineOp, Bool.false_eq_true] at h
  case move x => exact trivial
  case assign x => exact trivial
  case pick c a b => exact Mild.bind (inferInstance : MC P (asBool _)).out fun _ => trivial
  case alloc => exact vsV _
  case box => exact vsV _
  case build => exact vsV _
  case buildSlice => exact vsV _
  case load => exact vsV _
  case store => exact vsU _
  case binOp => exact vsV _
  case unOp => exact vsV _
  case convert a b x =>
    simp only [Bool.and_eq_true, beq_iff_eq] at h
    obtain ⟨rfl, rfl⟩ := h
    have := conv_mild (ρ x) hU
    exact vsV _
  case makeSlice => exact vsV _
  case slice => exact vsV _
  case fieldAddr => exact vsV _
  case indexAddr => exact vsV _
  case extract => exact vsV _
  case call c =>
    obtain ⟨f, args, ts⟩ := c
    cases f with
    | builtin b => cases b <;> first | exact vsV _ | exact absurd h (by simp)
    | _ => simp at h

/-! ### contracts beside leavers -/
/-- On its way out, with this value, whatever the world. -/
def Leave (P : Program) (f : FuncId) (fr : Frame) (v : Value) : Prop :=
  fr.fn = f ∧ fr.mode = .returning ∧ fr.defers = [] ∧ fr.kind = .normal ∧ ∃ fn, P.funcs[f]? = some fn ∧ ResultsC P fn fr.tmps v
theorem stepG_back {P : Program} {main : Bool} {f : FuncId} {fr c : Frame} {cs : List Frame} {w : World} {v : Value} (h : Leave P f fr v) : stepG P main (G fr (c :: cs)) w = .go (G (c.finish v) cs) w #[] := by
  obtain ⟨rfl, hm, hd, hk, fn, hf, hr⟩ := h
  have h1 := (hr w).1
  have h2 := (hr w).2
  simp [G, stepG, unwind, doReturn, hm, hk, hd, hf, h1, h2, seen, GStep.after]
def CallsB (P : Program) (f : FuncId) (args : Array Value) (w : World) (R : Value → World → Prop) : Prop :=
  ∀ cs, Tends P (G (Frame.enter P f args .normal) cs) w (fun g w' => ∃ fr v, g = G fr cs ∧ Leave P f fr v ∧ R v w')
theorem CallsB.mono {P : Program} {f : FuncId} {args : Array Value} {w : World} {R R' : Value → World → Prop} (h : CallsB P f args w R) (k : ∀ v w, R v w → R' v w) : CallsB P f args w R' :=
  fun cs => (h cs).mono fun g w' ⟨fr, v, h1, h2, h3⟩ => ⟨fr, v, h1, h2, k _ _ h3⟩
/-- A call's contract, over named blocks, beside leavers. -/
structure ACB (P : Program) (f : FuncId) (args : List AV) (H : Hp) (Q : AV → Hp → Prop) : Prop where
  enter : CanEnter P f
  run : ∀ (R : Ren) (w : World) (as : List Value), relA R args as → Rep R H w →
    CallsB P f as.toArray w fun x w' => ∃ v H' R', Q v H' ∧ AV.rel R' v x ∧ Rep R' H' w' ∧ Go R H w R' H' w'
theorem ACB.mono {P : Program} {f : FuncId} {args : List AV} {H : Hp} {Q Q' : AV → Hp → Prop} (h : ACB P f args H Q) (k : ∀ v H', Q v H' → Q' v H') : ACB P f args H Q' :=
  ⟨h.enter, fun R w as h1 h2 => (h.run R w as h1 h2).mono fun x w' ⟨v, H', R', q, r⟩ => ⟨v, H', R', k _ _ q, r⟩⟩

/-! ### code -/
def Arr (b : Frame) (k : List Item) (cs : List Frame) : Exit → Act → Goroutine → Prop
  | .normal, a, g => g = G (b.at a k) cs
  | .exit id, a, g => ∀ k', exitTo id k = some k' → g = G (b.at a k') cs
  | .ret, a, g => ∃ todo, g = G { b.at a todo with mode := .returning } cs
  | _, _, _ => False
def AWB (P : Program) (nt : Nat) (c : Code) (Q : Exit → Sl → Hp → Prop) (s : Sl) (H : Hp) : Prop :=
  ∀ (R : Ren) (w : World) (a : Act), a.tmps.size = nt → a.defers = [] → SR R s a → Rep R H w → ∀ (b : Frame) (k : List Item) (cs : List Frame), b.kind = .normal →
    Tends P (G (b.at a (.code c :: k)) cs) w (fun g w' => ∃ e a', Post nt Q R H w e a' w' ∧ Arr b k cs e a' g)
theorem Rep.at' {R : Ren} {H : Hp} {w : World} {d : Nat} (h : Rep R H w) : Rep R H (w.at d) := h.drew
theorem Go.at' {R : Ren} {H : Hp} {w : World} {d : Nat} : Go R H w R H (w.at d) := Go.drew
section
variable {P : Program} {nt : Nat} {Q : Exit → Sl → Hp → Prop} {s : Sl} {H : Hp}
theorem AWB.mono {c : Code} {Q' : Exit → Sl → Hp → Prop} (h : AWB P nt c Q s H) (k : ∀ e s H, Q e s H → Q' e s H) : AWB P nt c Q' s H :=
  fun R w a h1 h2 h3 h4 b kk cs hb => (h R w a h1 h2 h3 h4 b kk cs hb).mono fun g w' ⟨e, a', ⟨s', H', R', q, r⟩, ha⟩ => ⟨e, a', ⟨s', H', R', k _ _ _ q, r⟩, ha⟩
theorem AWB_skip (h : Q .normal s H) : AWB P nt .skip Q s H := fun R w a h1 h2 h3 h4 b k cs hb =>
  Tends.ctl rfl (fun w => stepG_skip) fun d => Tends.here ⟨.normal, a, ⟨s, H, R, h, h1, h2, h3, h4.at', Go.at'⟩, rfl⟩
theorem AWB_label {l : Nat} (h : Q .normal s H) : AWB P nt (.label l) Q s H := fun R w a h1 h2 h3 h4 b k cs hb =>
  Tends.ctl rfl (fun w => stepG_label) fun d => Tends.here ⟨.normal, a, ⟨s, H, R, h, h1, h2, h3, h4.at', Go.at'⟩, rfl⟩
theorem AWB_ret (h : Q .ret s H) : AWB P nt .ret Q s H := fun R w a h1 h2 h3 h4 b k cs hb =>
  Tends.ctl rfl (fun w => stepG_ret') fun d => Tends.here ⟨.ret, a, ⟨s, H, R, h, h1, h2, h3, h4.at', Go.at'⟩, _, rfl⟩
theorem AWB_exit {id : Nat} (h : Q (.exit id) s H) : AWB P nt (.exit id) Q s H := fun R w a h1 h2 h3 h4 b k cs hb => by
  cases he : exitTo id k with
  | none => exact Tends.here ⟨.exit id, a, ⟨s, H, R, h, h1, h2, h3, h4, Go.refl _ _ _⟩, fun k' hk => by rw [he] at hk; cases hk⟩
  | some k' => exact Tends.ctl rfl (fun w => stepG_exit he) fun d => Tends.here ⟨.exit id, a, ⟨s, H, R, h, h1, h2, h3, h4.at', Go.at'⟩, fun k'' hk => by rw [he] at hk; cases hk; rfl⟩
theorem Arr.pass {b : Frame} {x : Item} {k : List Item} {cs : List Frame} {e : Exit} {a : Act} {g : Goroutine} (hx : x.plain = true) (he : e ≠ .normal) (h : Arr b (x :: k) cs e a g) : Arr b k cs e a g := by
  cases e with
  | normal => exact absurd rfl he
  | exit id => exact fun k' hk => h k' (by cases x <;> simp_all [exitTo, Item.plain])
  | ret => exact h
  | goto l => exact h.elim
  | panic ch => exact h.elim
  | outgrown => exact h.elim
theorem AWB_seq {x y : Code} (h : AWB P nt x (thenQ (AWB P nt y Q) Q) s H) : AWB P nt (.seq x y) Q s H := fun R w a h1 h2 h3 h4 b k cs hb => by
  refine Tends.ctl rfl (fun w => stepG_seq) fun d => (h R (w.at d) a h1 h2 h3 h4.at' b (.code y :: k) cs hb).bind ?_
  rintro g w' ⟨e, a', ⟨s', H', R', q, g1, g2, g3, g4, g5⟩, ha⟩
  cases e with
  | normal =>
    obtain rfl : g = _ := ha
    exact (q R' w' a' g1 g2 g3 g4 b k cs hb).mono fun g w'' ⟨e, a'', hp, ha⟩ => ⟨e, a'', Post.trans (Go.at'.trans g5) hp, ha⟩
  | exit id => exact Tends.here ⟨_, a', ⟨s', H', R', q, g1, g2, g3, g4, Go.at'.trans g5⟩, Arr.pass (x := .code y) rfl (by simp) ha⟩
  | ret => exact Tends.here ⟨_, a', ⟨s', H', R', q, g1, g2, g3, g4, Go.at'.trans g5⟩, Arr.pass (x := .code y) rfl (by simp) ha⟩
  | _ => exact ha.elim
theorem AWB_block {id : Nat} {c : Code} (h : AWB P nt c (blockQ id Q) s H) : AWB P nt (.block id c) Q s H := fun R w a h1 h2 h3 h4 b k cs hb => by
  refine Tends.ctl rfl (fun w => stepG_block) fun d => (h R (w.at d) a h1 h2 h3 h4.at' b (.inBlock id :: k) cs hb).bind ?_
  rintro g w' ⟨e, a', ⟨s', H', R', q, g1, g2, g3, g4, g5⟩, ha⟩
  cases e with
  | normal =>
    obtain rfl : g = _ := ha
    exact Tends.ctl rfl (fun w => stepG_inBlock) fun d => Tends.here ⟨.normal, a', ⟨s', H', R', q, g1, g2, g3, g4.at', (Go.at'.trans g5).trans Go.at'⟩, rfl⟩
  | exit j =>
    simp only [blockQ] at q
    split at q
    · rename_i e
      have e := Nat.eq_of_beq_eq_true e
      subst e
      exact Tends.here ⟨.normal, a', ⟨s', H', R', q, g1, g2, g3, g4, Go.at'.trans g5⟩, ha k (by simp [exitTo])⟩
    · rename_i e
      have e : j ≠ id := Nat.ne_of_beq_eq_false e
      have this : (id == j) = false := by simp; exact fun h => e h.symm
      exact Tends.here ⟨.exit j, a', ⟨s', H', R', q, g1, g2, g3, g4, Go.at'.trans g5⟩, fun k' hk => ha k' (by simp [exitTo, this, hk])⟩
  | ret => exact Tends.here ⟨.ret, a', ⟨s', H', R', q, g1, g2, g3, g4, Go.at'.trans g5⟩, ha⟩
  | _ => exact ha.elim
theorem AWB_loop {α : Type} {c : Code} (S : α → Sl) (HH : α → Hp) (inv : α → Prop) (mu : α → Nat) (x0 : α) (hs : subs (S x0) s) (hH : H = HH x0) (h0 : inv x0)
    (round : ∀ x, inv x → AWB P nt c (roundQ S HH inv mu Q x) (S x) (HH x)) : AWB P nt (.loop c) Q s H := fun R w a h1 h2 h3 h4 b k cs hb => by
  subst hH
  have key : ∀ n x, mu x = n → inv x → ∀ (R : Ren) (w : World) (a : Act), a.tmps.size = nt → a.defers = [] → SR R (S x) a → Rep R (HH x) w →
      Tends P (G (b.at a (.code c :: .inLoop c :: k)) cs) w (fun g w' => ∃ e a', Post nt Q R (HH x) w e a' w' ∧ Arr b k cs e a' g) := by
    intro n
    induction n using Nat.strongRecOn with
    | _ n ih =>
    intro x hn hi R w a h1 h2 h3 h4
    refine (round x hi R w a h1 h2 h3 h4 b (.inLoop c :: k) cs hb).bind ?_
    rintro g w' ⟨e, a', ⟨s', H', R', q, g1, g2, g3, g4, g5⟩, ha⟩
    cases e with
    | normal =>
      obtain rfl : g = _ := ha
      obtain ⟨x', i1, i2, i3, rfl⟩ := q
      refine Tends.ctl rfl (fun w => stepG_inLoop) fun d => (ih (mu x') (hn ▸ i2) x' rfl i1 R' (w'.at d) a' g1 g2 (fun t v hv => g3 t v (subs_get i3 t v hv)) g4.at').mono ?_
      exact fun g w'' ⟨e, a'', hp, ha⟩ => ⟨e, a'', Post.trans (g5.trans Go.at') hp, ha⟩
    | exit id => exact Tends.here ⟨_, a', ⟨s', H', R', q, g1, g2, g3, g4, g5⟩, Arr.pass (x := .inLoop c) rfl (by simp) ha⟩
    | ret => exact Tends.here ⟨_, a', ⟨s', H', R', q, g1, g2, g3, g4, g5⟩, Arr.pass (x := .inLoop c) rfl (by simp) ha⟩
    | _ => exact ha.elim
  exact Tends.ctl rfl (fun w => stepG_loop) fun d => (key _ x0 rfl h0 R (w.at d) a h1 h2 (fun t v hv => h3 t v (subs_get hs t v hv)) h4.at').mono fun g w'' ⟨e, a'', hp, ha⟩ => ⟨e, a'', Post.trans Go.at' hp, ha⟩
end

/-! ### operations -/
section
variable {P : Program} {D : Tab} {nt : Nat} {s : Sl} {H : Hp} {k : Sl → Hp → Prop}
def aopB (P : Program) (D : Tab) (nt : Nat) (o : Oper) (s : Sl) (H : Hp) (k : Sl → Hp → Prop) : Prop :=
  match callOf o.op with
  | some (f, args) => evs args.toList s fun vs => ACB P f vs H (fun v H' => kput o.dst nt v s H' k)
  | none => match fineOp o.op with
    | true => aop P D nt o s H k
    | false => False
theorem callOf_eq {op : Op} {f : FuncId} {args : Array Operand} (h : callOf op = some (f, args)) : ∃ ts, op = .call ⟨.value (.func f), args, ts⟩ := by
  cases op <;> simp only [callOf, reduceCtorEq] at h
  rename_i c
  obtain ⟨cl, as, ts⟩ := c
  cases cl with
  | value x =>
    cases x <;> simp only [reduceCtorEq, Option.some.injEq, Prod.mk.injEq] at h
    obtain ⟨rfl, rfl⟩ := h
    exact ⟨ts, rfl⟩
  | _ => simp at h
theorem aopB_sound (hD : D.ok P) (hU : Und P) {o : Oper} (h : aopB P D nt o s H k) {all : Array Oper} {i : Nat} {rest : List Nat} (ho : all[i]? = some o) {R : Ren} {w : World} {a : Act} (hw : Region.wanted o (yielded all a.tmps) = true)
    (h1 : a.tmps.size = nt) (h2 : a.defers = []) (h3 : SR R s a) (h4 : Rep R H w) {b : Frame} {kk : List Item} {cs : List Frame} (hb : b.kind = .normal) :
    Tends P (G (b.at a (.inRegion all (i :: rest) :: kk)) cs) w (fun g w' => ∃ a', PostO nt k R H w a' w' ∧ g = G (b.at a' (.inRegion all rest :: kk)) cs) := by
  have hk : b.kind ≠ .early := by rw [hb]; simp
  unfold aopB at h
  split at h
  · rename_i f args hc
    obtain ⟨ts, hop⟩ := callOf_eq hc
    obtain ⟨vs, hk', hr⟩ := evs_sound h
    obtain ⟨fn, hf, hname, hbody⟩ := hk'.enter
    refine Tends.step rfl fun d => ⟨_, w.at d, _, stepG_enter ho hw hk (run_call_body hop hf hname hbody), Nat.le_refl _, fun e he => ?_, ?_⟩
    · have := mem_listed he
      rw [events_call_body hop hf hname hbody] at this
      simp at this
    · have hcall := hk'.run R (w.at d) _ (hr R a h3) h4.at' (b.at a (.inRegion all (i :: rest) :: kk) :: cs)
      rw [map_arr] at hcall
      refine hcall.bind ?_
      rintro g w' ⟨fr, x, rfl, hl, v, H', R', q, g1, g2, g3⟩
      refine Tends.ctl rfl (fun w => stepG_back hl) fun d' => Tends.here ⟨a.put o.dst x, ?_, by rw [Frame.finish_at, ho]; rfl⟩
      exact PostO.of_put q h1 h2 (h3.mono ((Go.at'.trans g3).mono h4)) g1 g2.at' ((Go.at'.trans g3).trans Go.at')
  · split at h
    · rename_i hc hfine
      have hm := fine_sound hU hfine a.eval
      refine Tends.op ho hw hk hm fun d => ?_
      have := (aop_sound hD h).run R (w.at d) a h1 h2 h3 h4.at'
      obtain ⟨v, w', hr, hp⟩ := op_cases (fun _ _ _ h => h.elim) hm this
      exact ⟨v, w', hr, fun _ => Tends.here ⟨_, PostO.trans Go.at' hp, rfl⟩⟩
    · exact h.elim
def aopsB (P : Program) (D : Tab) (nt : Nat) (all : List Oper) : List Oper → Sl → Hp → (Sl → Hp → Prop) → Prop
  | [], s, H, k => k s H
  | o :: r, s, H, k => aguard all o s (aopB P D nt o s H (fun s' H' => aopsB P D nt all r s' H' k)) (kput o.dst nt .any s H (fun s' H' => aopsB P D nt all r s' H' k))
theorem aopsB_sound (hD : D.ok P) (hU : Und P) {all : Array Oper} {b : Frame} {kk : List Item} {cs : List Frame} (hb : b.kind = .normal) : ∀ {l : List Oper} {i : Nat} {s : Sl} {H : Hp}, aopsB P D nt all.toList l s H k → all.toList.drop i = l →
    ∀ (R : Ren) (w : World) (a : Act), a.tmps.size = nt → a.defers = [] → SR R s a → Rep R H w →
      Tends P (G (b.at a (.inRegion all ((List.range all.size).drop i) :: kk)) cs) w (fun g w' => ∃ a', PostO nt k R H w a' w' ∧ g = G (b.at a' (.inRegion all [] :: kk)) cs) := by
  intro l
  induction l with
  | nil =>
    intro i s H h hd R w a h1 h2 h3 h4
    have : all.size ≤ i := by
      have := congrArg List.length hd
      simp at this; omega
    rw [List.drop_of_length_le (by simpa using this)]
    exact Tends.here ⟨a, ⟨s, H, R, h, h1, h2, h3, h4, Go.refl _ _ _⟩, rfl⟩
  | cons o r ih =>
    intro i s H h hd R w a h1 h2 h3 h4
    have hlt : i < all.size := by
      have := congrArg List.length hd
      simp at this; omega
    have ho : all[i]? = some o := by
      have := congrArg (·[0]?) hd
      simpa using this
    have hr : all.toList.drop (i + 1) = r := by
      have := congrArg (List.drop 1) hd
      simpa [List.drop_drop] using this
    rw [List.drop_eq_getElem_cons (by simpa using hlt), List.getElem_range]
    simp only [aopsB] at h
    rcases aguard_sound h h3 with ⟨hw, hy⟩ | ⟨hw, hn⟩
    · refine (aopB_sound hD hU hy ho hw h1 h2 h3 h4 hb).bind ?_
      rintro g w' ⟨a', ⟨s', H', R', q, g1, g2, g3, g4, g5⟩, rfl⟩
      exact (ih q hr R' w' a' g1 g2 g3 g4).mono fun g w'' ⟨a'', hp, hg⟩ => ⟨a'', hp.trans g5, hg⟩
    · refine Tends.ctl rfl (fun w => stepG_unwanted ho hw) fun d => ?_
      obtain ⟨s', H', R', q, g1, g2, g3, g4, g5⟩ := PostO.of_put (R := R) (R' := R) (x := undef) (w := w) (w' := w.at d) (H := H) hn h1 h2 h3 rfl h4.at' Go.at'
      exact (ih q hr R' (w.at d) _ g1 g2 g3 g4).mono fun g w'' ⟨a'', hp, hg⟩ => ⟨a'', hp.trans g5, hg⟩

/-! ### regions that draw their order -/
def fineOps (ops : List Oper) : Bool := ops.all fun o => fineOp o.op
theorem fineOps_sound (hU : Und P) {ops : Array Oper} (h : fineOps ops.toList = true) : OpsFine P ops := fun i o ho a => by
  refine fine_sound hU ?_ _
  unfold fineOps at h
  rw [List.all_eq_true] at h
  exact h o (by rw [Array.mem_toList_iff]; exact Array.mem_of_getElem? ho)
structure DRB (P : Program) (D : Tab) (nt : Nat) (ops : Array Oper) (Q : Exit → Sl → Hp → Prop) (s : Sl) (H : Hp) : Prop where
  go : ∃ p, okDraw ops p = true ∧ fineOps ops.toList = true ∧ adraw P D nt ops p s H (Q .normal)
theorem DRB.std {ops : Array Oper} {Q : Exit → Sl → Hp → Prop} (h : okDraw ops (wayT ops) = true) (f : fineOps ops.toList = true) (g : adraw P D nt ops (wayT ops) s H (Q .normal)) : DRB P D nt ops Q s H := ⟨_, h, f, g⟩
theorem DRB.way {ops : Array Oper} {Q : Exit → Sl → Hp → Prop} (l : List Nat) (h : okDraw ops (wayL ops.toList l) = true) (f : fineOps ops.toList = true) (g : adraw P D nt ops (wayL ops.toList l) s H (Q .normal)) : DRB P D nt ops Q s H := ⟨_, h, f, g⟩
/-- What holds behind, on whatever tape. -/
def PostT (nt : Nat) (k : Sl → Hp → Prop) (R : Ren) (H : Hp) (w : World) : Exit → Act → World → Prop := fun e a' w' => e = .normal ∧ PostO nt k R H (tp w w'.tape w.drawn) a' w'
theorem Rep.tp' {R : Ren} {H : Hp} {w : World} {τ : Tape} {d : Nat} (h : Rep R H w) : Rep R H (tp w τ d) := ⟨h.tab, fun j b l hj hs => h.holds j b l hj hs, h.dom, fun j l m c hj hR => h.own j l m c hj hR, h.inj⟩
theorem Go.tp2 {R R' : Ren} {H H' : Hp} {w w' : World} {τ : Tape} {d d' : Nat} (h : Go R H w R' H' w') : Go R H (tp w τ d) R' H' (tp w' τ d') :=
  ⟨h.len, h.ext, h.os, rfl, h.output, h.size, h.frame, h.flag, h.own⟩
theorem adraw_soundB (hD : D.ok P) (hU : Und P) {id : Nat} {ops : Array Oper} {p : Pl} (hok : okDraw ops p = true) (hfine : fineOps ops.toList = true) {Q : Exit → Sl → Hp → Prop} (h : adraw P D nt ops p s H (Q .normal)) : AWB P nt (.region id ops true) Q s H := by
  simp only [okDraw, Bool.and_eq_true, decide_eq_true_eq] at hok
  obtain ⟨⟨c1, c2⟩, c3⟩ := hok
  obtain ⟨wl, h⟩ := h
  have h := fz_sound h
  intro R w a h1 h2 h3 h4 b kk cs hb
  have hk : b.kind ≠ .early := by rw [hb]; simp
  have hO := fineOps_sound hU hfine
  refine Tends.step rfl fun d => ⟨_, { w.at d with drawn := d + 1 }, #[], Go.Conc.stepG_region_draw, Nat.le_refl _, fun e he => by simp at he, ?_⟩
  have hrun : ∀ (t : Nat) (τ : Tape) (d' : Nat), wpOps P ops (PostT nt (Q .normal) R H w) (Region.schedule (P.follows .mixedOrders) ops t) a (tp (w.at (d + 1)) τ d') := by
    intro t τ d'
    have hf : Rep R (fzH wl 0 H) (tp w τ d') := h4.fz.tp'
    have := ago_sound hD c1 hf _ _ none c2 ops.size R (fzH wl 0 H) (tp w τ d') a s c3 (Go.refl _ _ _) hf h3 h1 h2 h
    have := wpAny_sound (md := .any) ops.size t _ a _ (wpAny_of_held _ _ _ _ this)
    simp only [Region.schedule, hD.mixed, Bool.true_or, if_true]
    refine wpOps_fine hO (fun e a w h => by cases e <;> first | rfl | exact h.elim) ?_ _ _ _ this
    rintro a' w' ⟨s', H', R', q, g1, g2, g3, g4, g5⟩
    have q := th_sound q
    obtain ⟨t1, t2⟩ := thaw h4.tp' g5 g4
    refine ⟨rfl, s', _, R', q, g1, g2, g3, t1, ?_⟩
    have e : w'.tape = τ := t2.tape
    rw [e]
    exact ⟨t2.len, t2.ext, t2.os, e, t2.output, t2.size, t2.frame, t2.flag, t2.own⟩
  refine (ops_comes hO (Q := PostT nt (Q .normal) R H w) ?_ (fun e a w h => h.1) hk _ a (w.at (d + 1)) fun τ d' => hrun _ τ d').bind ?_
  · rintro e a' w' τ d' ⟨rfl, s', H', R', q, g1, g2, g3, g4, g5⟩
    exact ⟨rfl, s', H', R', q, g1, g2, g3, g4.tp', ⟨g5.len, g5.ext, g5.os, rfl, g5.output, g5.size, g5.frame, g5.flag, g5.own⟩⟩
  · rintro g w' ⟨a', ⟨_, s', H', R', q, g1, g2, g3, g4, g5⟩, ht, rfl⟩
    have ht : w'.tape = w.tape := ht
    rw [ht] at g5
    exact Tends.ctl rfl (fun w => stepG_region_end) fun d' => Tends.here ⟨.normal, a', ⟨s', H', R', q, g1, g2, g3, g4.at', Go.trans g5 Go.at'⟩, rfl⟩
end
end Go.Proofs.Ytpoknlbnookhjaa.Ae
