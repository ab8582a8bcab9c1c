/- The interpreter, beside goroutines that only leave. -/
import Derived.Test.YtpoknlbnookhjaaGd
set_option linter.unusedVariables false
set_option linter.unusedSimpArgs false
namespace Go.Proofs.Ytpoknlbnookhjaa.Ae
open Go.RowKit
open Go.Conc (G stepG_cond stepG_region stepG_region_end stepG_end ResultsC enter_at base resultsC_tmp resultsC_tmp2)
open Go.Lone
structure AWBs (P : Program) (nt : Nat) (c : Code) (Q : Exit → Sl → Hp → Prop) (s : Sl) (H : Hp) : Prop where
  run : AWB P nt c Q s H
/-- An operation that cuts a row with its capacity: the region that holds one is walked by hand. -/
def cuts3 : List Oper → Bool
  | [] => false
  | o :: r => match o.op with
    | .slice _ _ _ _ (some _) => true
    | _ => cuts3 r
def awB (P : Program) (D : Tab) (nt : Nat) : Code → (Exit → Sl → Hp → Prop) → Sl → Hp → Prop
  | .skip, Q, s, H => Q .normal s H
  | .region id ops dr, Q, s, H => match dr with
    | false => match cuts3 ops.toList with
      | false => aopsB P D nt ops.toList ops.toList s H (Q .normal)
      | true => AWBs P nt (.region id ops false) Q s H
    | true => DRB P D nt ops Q s H
  | .seq a b, Q, s, H => awB P D nt a (thenQ (awB P D nt b Q) Q) s H
  | .cond c a b, Q, s, H => match ev s c with
    | some (.v (.bool t)) => cb t (awB P D nt a Q s H) (awB P D nt b Q s H)
    | _ => False
  | .block id c, Q, s, H => awB P D nt c (blockQ id Q) s H
  | .exit id, Q, s, H => Q (.exit id) s H
  | .label _, Q, s, H => Q .normal s H
  | .ret, Q, s, H => Q .ret s H
  | .loop c, Q, s, H => AWBs P nt (.loop c) Q s H
  | c, Q, s, H => AWBs P nt c Q s H
section
variable {P : Program} {D : Tab} {nt : Nat}
theorem awB_sound (hD : D.ok P) (hU : Und P) : ∀ {c : Code} {Q : Exit → Sl → Hp → Prop} {s : Sl} {H : Hp}, awB P D nt c Q s H → AWB P nt c Q s H := by
  intro c
  induction c with
  | skip => intro Q s H h; exact AWB_skip h
  | region id ops dr =>
    intro Q s H h
    cases dr with
    | false =>
      simp only [awB] at h
      split at h
      rotate_left
      · exact h.run
      intro R w a h1 h2 h3 h4 b k cs hb
      refine Tends.ctl rfl (fun w => stepG_region) fun d => ?_
      have := aopsB_sound hD hU hb (kk := k) (cs := cs) (i := 0) h rfl R (w.at d) a h1 h2 h3 h4.at'
      rw [List.drop_zero] at this
      refine this.bind ?_
      rintro g w' ⟨a', ⟨s', H', R', q, g1, g2, g3, g4, g5⟩, rfl⟩
      exact Tends.ctl rfl (fun w => stepG_region_end) fun d' => Tends.here ⟨.normal, a', ⟨s', H', R', q, g1, g2, g3, g4.at', (Go.at'.trans g5).trans Go.at'⟩, rfl⟩
    | true => obtain ⟨p, h1, h2, h3⟩ := h.go; exact adraw_soundB hD hU h1 h2 h3
  | seq a b iha ihb => intro Q s H h; exact AWB_seq ((iha h).mono (thenQ_mono fun s H h => ihb h))
  | cond c a b iha ihb =>
    intro Q s H h
    simp only [awB] at h
    split at h
    · rename_i t e
      unfold cb at h
      split at h
      · intro R w a' h1 h2 h3 h4 fr k cs hb
        have hc : a'.eval c = .bool true := ev_rel h3 e
        exact Tends.ctl rfl (fun w => stepG_cond hc) fun d => (iha h R (w.at d) a' h1 h2 h3 h4.at' fr k cs hb).mono fun g w'' ⟨e, a'', hp, ha⟩ => ⟨e, a'', Post.trans Go.at' hp, ha⟩
      · intro R w a' h1 h2 h3 h4 fr k cs hb
        have hc : a'.eval c = .bool false := ev_rel h3 e
        exact Tends.ctl rfl (fun w => stepG_cond hc) fun d => (ihb h R (w.at d) a' h1 h2 h3 h4.at' fr k cs hb).mono fun g w'' ⟨e, a'', hp, ha⟩ => ⟨e, a'', Post.trans Go.at' hp, ha⟩
    · exact h.elim
  | block id c ih => intro Q s H h; exact AWB_block (ih h)
  | loop c ih => intro Q s H h; exact h.run
  | exit id => intro Q s H h; exact AWB_exit h
  | label l => intro Q s H h; exact AWB_label h
  | ret => intro Q s H h; exact AWB_ret h
  | goto l => intro Q s H h; exact h.run
  | scope c ih => intro Q s H h; exact h.run
  | rangeFunc f ps a b => intro Q s H h; exact h.run
  | refuse y => intro Q s H h; exact h.run
theorem aw_loopB (hD : D.ok P) (hU : Und P) {α : Type} {c : Code} {Q : Exit → Sl → Hp → Prop} {s : Sl} {H : Hp} (S : α → Sl) (HH : α → Hp) (inv : α → Prop) (mu : α → Nat) (x0 : α) (hs : subs (S x0) s) (hH : H = HH x0) (h0 : inv x0)
    (round : ∀ x, inv x → awB P D nt c (roundQ S HH inv mu Q x) (S x) (HH x)) : AWBs P nt (.loop c) Q s H :=
  ⟨AWB_loop S HH inv mu x0 hs hH h0 fun x hx => awB_sound hD hU (round x hx)⟩
/-- Results that lie in slots. -/
def resT (rs : Array ResultVar) : Bool :=
  match rs.toList with
  | [.tmp _] => true
  | [.tmp _, .tmp _] => true
  | _ => false
theorem resT_sound {fn : Func} (h : resT fn.results = true) (tmps : Array Value) : ∃ v, ResultsC P fn tmps v := by
  obtain ⟨rs⟩ : ∃ rs, fn.results = ⟨rs⟩ := ⟨fn.results.toList, rfl⟩
  rename_i hr
  rw [hr] at h
  unfold resT at h
  split at h
  · rename_i t e
    have e : rs = [.tmp t] := e
    subst e
    exact ⟨_, resultsC_tmp hr tmps⟩
  · rename_i t u e
    have e : rs = [.tmp t, .tmp u] := e
    subst e
    exact ⟨_, resultsC_tmp2 hr tmps⟩
  · cases h
theorem ACB.of_body (hD : D.ok P) (hU : Und P) {f : FuncId} {fn : Func} {c : Code} {args : List AV} {H : Hp} {Q : AV → Hp → Prop} (hf : P.funcs[f]? = some fn) (hb : fn.body = some c) (hname : (fn.name == "runtime.NumGoroutine") = false) (hn : args.length ≤ fn.ntmps) (hres : resT fn.results = true)
    (h : awB P D fn.ntmps c (bodyQ D fn.results.toList Q) (argSl 0 args) H) : ACB P f args H Q := by
  refine ⟨⟨fn, hf, hname, by rw [hb]; rfl⟩, fun R w as ha hr cs => ?_⟩
  have hl := relA_len ha
  rw [enter_at as.toArray hf hb]
  have hSR : SR R (argSl 0 args) { tmps := as.toArray ++ Array.replicate (fn.ntmps - as.toArray.size) undef, defers := [] } := fun t v hv => by
    obtain ⟨_, x, h1, h2⟩ := argSl_get ha hv
    have hlt := (List.getElem?_eq_some_iff.1 h1).1
    have : (as.toArray ++ Array.replicate (fn.ntmps - as.toArray.size) undef).getD t undef = x := by
      rw [Array.getD_eq_getD_getElem?, Array.getElem?_append_left (by simpa using hlt)]
      simp at h1 ⊢
      rw [h1]; rfl
    rw [this]; exact h2
  refine (awB_sound hD hU h R w _ (by simp; omega) rfl hSR hr (base f) [] cs rfl).bind ?_
  rintro g w' ⟨e, a', ⟨s', H', R', q, g1, g2, g3, g4, g5⟩, ha'⟩
  obtain ⟨y, hy⟩ := resT_sound (P := P) hres a'.tmps
  have fin : resK D fn.results.toList s' H' (fun v => Q v H') → ∃ v1 H'' R'', Q v1 H'' ∧ AV.rel R'' v1 y ∧ Rep R'' H'' w' ∧ Go R H w R'' H'' w' := by
    intro q
    obtain ⟨v, x, hk, hx, hv⟩ := resK_sound hD g3 g4 q
    rw [(hy w').1] at hx
    injection hx with hx _
    subst hx
    exact ⟨v, H', R', hk, hv, g4, g5⟩
  have out : ∀ todo, Leave P f { (base f).at a' todo with mode := .returning } y := fun todo => ⟨rfl, rfl, g2, rfl, fn, hf, hy⟩
  cases e with
  | normal =>
    obtain rfl : g = _ := ha'
    obtain ⟨v1, H'', R'', z1, z2, z3, z4⟩ := fin q
    exact Tends.ctl rfl (fun w => stepG_end) fun d => Tends.here ⟨_, y, rfl, out _, v1, H'', R'', z1, z2, z3.at', z4.trans Go.at'⟩
  | ret =>
    obtain ⟨todo, rfl⟩ := ha'
    exact Tends.here ⟨_, y, rfl, out _, fin q⟩
  | exit id => exact q.elim
  | goto l => exact ha'.elim
  | panic ch => exact ha'.elim
  | outgrown => exact ha'.elim
end
end Go.Proofs.Ytpoknlbnookhjaa.Ae
