/- The abstract machine, second part. -/
import Derived.Test.YtpoknlbnookhjaaAa
set_option linter.unusedVariables false
set_option linter.unusedSimpArgs false
namespace Go.Proofs.Ytpoknlbnookhjaa.Ae
open Go.RowKit
section
variable {P : Program} {T : TT} {nt : Nat} {o : Oper} {s : Sl} {H : Hp} {k : Sl → Hp → Prop}
def bst (T : TT) (l : List (Nat × TypeId)) (s : Sl) : List (Nat × Operand) → List Seg → (List Seg → Prop) → Prop
  | [], m, k => k m
  | (f, x) :: r, m, k => match nth l f with
    | some (off, u) => match T u with
      | some du => match ev s x with
        | some (.v y) => match du.size with
          | 1 => wr y m off 0 0 (fun m' => bst T l s r m' k)
          | _ => False
        | some (.agg q) => match Nat.beq (lenS q) du.size with
          | true => wrA q du.size m off 0 0 (fun m' => bst T l s r m' k)
          | false => False
        | _ => False
      | none => False
    | none => False
theorem rels_spl {R : Ren} {L L' M : List V} {o : Nat} {ys xs : List Value} (h : Spl L L' M o) (hr : rels R L ys) (hx : rels R M xs) : rels R L' (setL ys o xs) := by
  obtain ⟨A, B, C, rfl, rfl, rfl, hB⟩ := h
  obtain ⟨y1, y2, rfl, r1, r2⟩ := rels_split hr
  obtain ⟨y3, y4, rfl, r3, r4⟩ := rels_split r2
  rw [rels_len r1, setL_spl _ _ _ _ (by rw [← rels_len r3, hB, rels_len hx])]
  exact rels_append r1 (rels_append hx r4)
theorem run_fillS {places : Array (Nat × Nat)} {l : List (Nat × TypeId)} (hT : TOK P T) (hp : ∀ f off u du, nth l f = some (off, u) → T u = some du → places[f]? = some (off, du.size)) {a : Act} {R : Ren} (h3 : SR R s a) : ∀ {ps : List (Nat × Operand)} {m : List Seg} {k : List Seg → Prop}, bst T l s ps m k → oks m →
    ∃ m', k m' ∧ oks m' ∧ ∀ cells : Array Value, rels R (flat m) cells.toList → ∃ out : Array Value, Instr.fill (places[·]?) cells (ps.map fun p => (p.1, a.eval p.2)) = some out ∧ rels R (flat m') out.toList := by
  intro ps
  induction ps with
  | nil => intro m k h ho; exact ⟨m, h, ho, fun cells hc => ⟨cells, rfl, hc⟩⟩
  | cons p ps ih =>
    obtain ⟨f, x⟩ := p
    intro m k h ho
    have step : ∀ {off : Nat} {u : TypeId} {du : TyD} {q m1 : List Seg} {v : AV}, nth l f = some (off, u) → T u = some du → ev s x = some v → segsOf v = some q → (flat q).length = du.size → Spl (flat m) (flat m1) (flat q) off → oks m1 → bst T l s ps m1 k →
        ∃ m', k m' ∧ oks m' ∧ ∀ cells : Array Value, rels R (flat m) cells.toList → ∃ out : Array Value, Instr.fill (places[·]?) cells (((f, x) :: ps).map fun p => (p.1, a.eval p.2)) = some out ∧ rels R (flat m') out.toList := by
      intro off u du q m1 v hn hdu e hq hlen hs ho1 hb
      obtain ⟨ok, hrel⟩ := segsOf_rel hq (ev_rel h3 e)
      have hxl : (a.eval x).cells.size = du.size := by rw [← hlen, rels_len hrel]; simp
      obtain ⟨m', hk, ok', hf⟩ := ih hb ho1
      refine ⟨m', hk, ok', fun cells hc => ?_⟩
      have hsz : off + du.size ≤ cells.size := by
        obtain ⟨A, B, C, hm, _, hA, hB⟩ := hs
        have := rels_len hc
        rw [hm] at this
        simp at this; omega
      obtain ⟨out, ho, hout⟩ := hf (((a.eval x).cells.zipIdx.foldl (fun cs (c, q) => cs.setIfInBounds (off + q) c) cells)) (by
        have := foldl_setL off (a.eval x).cells.toList 0 cells
        rw [← Array.foldl_toList, Array.toList_zipIdx, this, Nat.add_zero]
        exact rels_spl hs hc hrel)
      refine ⟨out, ?_, hout⟩
      simp only [List.map_cons, Instr.fill, hp f off u du hn hdu]
      rw [if_neg (by rw [hxl]; simp; omega)]
      exact ho
    simp only [bst] at h
    split at h
    · rename_i off u hn
      split at h
      · rename_i du hdu
        split at h
        · rename_i y e
          split at h
          · rename_i hs1
            obtain ⟨m1, o1, hb, hf, hlt⟩ := wr_sound h ho
            exact step hn hdu e rfl (by rw [hs1]; rfl) (spl_set (by simpa using hf) (by simpa using hlt)) o1 hb
          · exact h.elim
        · rename_i q e
          split at h
          · rename_i hsz
            have hsz := Nat.eq_of_beq_eq_true hsz
            obtain ⟨om, _⟩ : AV.rel R (.agg q) (a.eval x) := ev_rel h3 e
            have hlen := (lenS_eq om).trans hsz
            obtain ⟨m1, hb, o1, hs⟩ := wrA_sound om hlen h ho
            exact step hn hdu e rfl hlen (by simpa using hs) o1 hb
          · exact h.elim
        · exact h.elim
      · exact h.elim
    · exact h.elim
def aBuild (T : TT) (t : TypeId) (ps : Array (Nat × Operand)) (s : Sl) (kv : AV → Prop) : Prop :=
  match T t with
  | some d => match d.kind with
    | .struct l => bst T l s ps.toList d.zero (fun m => kv (.agg m))
    | .array n e => match T e with
      | some de => match ps.toList with
        | [] => kv (.agg d.zero)
        | p :: r => match Nat.beq (List.length (p :: r)) n with
          | true => match Nat.beq (lenS d.zero) (n * de.size) with
            | true => gath de.size s 0 (p :: r) (fun m => whole T e m (fun m' => kv (.agg m')))
            | false => False
          | false => False
      | none => False
    | _ => False
  | none => False
theorem run_mapM {α β : Type} {g : α → Sem β} {h : α → β} {w : World} (hg : ∀ x, (g x).run P w = .ok (h x) w) : ∀ l : List α, (l.mapM g).run P w = .ok (l.map h) w
  | [] => by simp
  | x :: r => by
    rw [List.mapM_cons, Sem.run_bind, hg, Result.andThen_ok, Sem.run_bind, run_mapM hg r, Result.andThen_ok]
    simp
theorem run_mapM_in {α β : Type} {g : α → Sem β} {h : α → β} {w : World} : ∀ l : List α, (∀ x ∈ l, (g x).run P w = .ok (h x) w) → (l.mapM g).run P w = .ok (l.map h) w
  | [], _ => by simp
  | x :: r, hg => by
    rw [List.mapM_cons, Sem.run_bind, hg x (List.mem_cons_self ..), Result.andThen_ok, Sem.run_bind, run_mapM_in r (fun y hy => hg y (List.mem_cons_of_mem _ hy)), Result.andThen_ok]
    simp
/-- All of a struct's types are known. -/
def allT (T : TT) : List (Nat × TypeId) → Bool
  | [] => true
  | (_, u) :: r => match T u with
    | some _ => allT T r
    | none => false
theorem allT_mem {T : TT} : ∀ {l : List (Nat × TypeId)}, allT T l = true → ∀ p ∈ l, ∃ d, T p.2 = some d
  | [], _, p, hp => by cases hp
  | (i, u) :: r, h, p, hp => by
    simp only [allT] at h
    split at h
    · rename_i d hd
      rcases List.mem_cons.1 hp with rfl | hp
      · exact ⟨d, hd⟩
      · exact allT_mem h p hp
    · cases h
/-- What an operation that looks at no memory comes to. -/
def PS (P : Program) (o : Oper) (s : Sl) (kv : AV → Prop) : Prop := ∀ (R : Ren) (a : Act), SR R s a → ∃ v x, kv v ∧ AV.rel R v x ∧ ∀ w, (execOp a.eval o).run P w = .ok (.value x) w
theorem PS.of {kv : AV → Prop} (h : SOK s → ∃ v, kv v ∧ AP P o s v) : PS P o s kv := fun R a h3 => by
  obtain ⟨v, hk, hv⟩ := h h3.ok
  obtain ⟨x, h1, h2⟩ := hv.run R a h3
  exact ⟨v, x, hk, h1, h2⟩
theorem places_run {w : World} {d : TyD} {t : TypeId} {l : List (Nat × TypeId)} (hT : TOK P T) (hD : d.is P t) (hk : d.kind = .struct l) (hall : allT T l = true) : ∃ (fs : Array Field) (places : Array (Nat × Nat)), P.underlying t = some (.struct fs) ∧
    (∀ w : World, (fs.mapM fun f => do pure (f.offset, ← sizeOf f.type) : Sem (Array (Nat × Nat))).run P w = .ok places w) ∧ ∀ f off u du, nth l f = some (off, u) → T u = some du → places[f]? = some (off, du.size) := by
  have := hD.kind
  rw [hk] at this
  obtain ⟨fs, h1, h2⟩ := this
  have hsz : ∀ f ∈ fs.toList, ∃ du, T f.type = some du := by
    intro f hf
    exact allT_mem hall (f.offset, f.type) (by rw [← h2]; exact List.mem_map_of_mem hf)
  refine ⟨fs, (fs.toList.map fun f => (f.offset, ((T f.type).map (·.size)).getD 0)).toArray, h1, fun w => ?_, fun f off u du hn hdu => ?_⟩
  · rw [Array.mapM_eq_mapM_toList]
    rw [Sem.run_map, run_mapM_in (h := fun f : Field => (f.offset, ((T f.type).map (·.size)).getD 0)) fs.toList ?_]
    · rfl
    · intro f hf
      obtain ⟨du, hdu⟩ := hsz f hf
      rw [Sem.run_bind, run_sizeOf (hT _ _ hdu), Result.andThen_ok, hdu]; rfl
  · rw [nth_eq, ← h2, List.getElem?_map] at hn
    cases e : fs.toList[f]? with
    | none => rw [e] at hn; cases hn
    | some fd =>
      rw [e] at hn
      injection hn with hn; injection hn with e1 e2
      rw [List.getElem?_toArray, List.getElem?_map, e, Option.map_some, e1, e2, hdu]
      rfl
theorem aBuild_sound (hT : TOK P T) (hall : ∀ t d l, T t = some d → d.kind = .struct l → allT T l = true) {t : TypeId} {ps : Array (Nat × Operand)} (ho : o.op = .build t ps) {kv : AV → Prop} (h : aBuild T t ps s kv) : PS P o s kv := by
  intro R a h3
  unfold aBuild at h
  have hmap : (ps.map fun p => (p.1, a.eval p.2)).toList = ps.toList.map fun p => (p.1, a.eval p.2) := by simp
  split at h
  · rename_i d hd
    have hD := hT t d hd
    split at h
    · rename_i l hl
      obtain ⟨m, hk, om, hf⟩ := run_fillS (P := P) (places := (places_run (w := default) hT hD hl (hall t d l hd hl)).choose_spec.choose) hT (places_run (w := default) hT hD hl (hall t d l hd hl)).choose_spec.choose_spec.2.2 h3 h hD.ok
      obtain ⟨hu, hpl, _⟩ := (places_run (w := default) hT hD hl (hall t d l hd hl)).choose_spec.choose_spec
      obtain ⟨i, hi, _, _, z, hz, hr⟩ := hD.info
      obtain ⟨out, ho1, ho2⟩ := hf z.cells (none_rels hr)
      refine ⟨_, .agg out, hk, ⟨om, out.toList, ho2, by simp⟩, fun w => ?_⟩
      have hzr : (zeroValue t).run P w = .ok z w := by simp [zeroValue, typeInfo, hi, hz]
      simp only [execOp, ho, Instr.build, Sem.run_bind]
      rw [hzr, Result.andThen_ok, run_underlying hu, Result.andThen_ok]
      simp only [Sem.run_bind]
      rw [hpl, Result.andThen_ok, hmap, ho1]; rfl
    · rename_i n e he
      have hk := hD.kind
      rw [he] at hk; simp only [TK.is] at hk
      split at h
      · rename_i de hde
        obtain ⟨i, hi, hisz, _, z, hz, hr⟩ := hD.info
        have hzr : ∀ w, (zeroValue t).run P w = .ok z w := fun w => by simp [zeroValue, typeInfo, hi, hz]
        split at h
        · rename_i hps
          refine ⟨_, .agg z.cells, h, ⟨hD.ok, z.cells.toList, none_rels hr, by simp⟩, fun w => ?_⟩
          simp only [execOp, ho, Instr.build, Sem.run_bind, hzr, Result.andThen_ok, run_underlying hk, run_sizeOf (hT e de hde)]
          rw [hmap, hps]; rfl
        · rename_i p r hps
          split at h
          · rename_i hn
            split at h
            · rename_i hsz
              have hn := Nat.eq_of_beq_eq_true hn
              have hsz := Nat.eq_of_beq_eq_true hsz
              have hzl : z.cells.toList.length = (p :: r).length * de.size := by rw [← rels_len hr, lenS_eq hD.ok, hsz, hn]
              obtain ⟨m, ys, hw, om, hrel, _, hf⟩ := run_fill (place := fun i => some (i * de.size, de.size)) (fun _ => rfl) h3 (done := []) (rest := z.cells.toList) h (by simp) hzl
              obtain ⟨m', hk2, om', hfl⟩ := whole_sound hw om
              obtain ⟨out, ho1, ho2⟩ := hf z.cells (by simp)
              refine ⟨_, .agg out, hk2, ⟨om', out.toList, by rw [hfl, ho2]; exact hrel, by simp⟩, fun w => ?_⟩
              simp only [execOp, ho, Instr.build, Sem.run_bind, hzr, Result.andThen_ok, run_underlying hk, run_sizeOf (hT e de hde)]
              rw [hmap, hps, ho1]; rfl
            · exact h.elim
          · exact h.elim
      · exact h.elim
    · exact h.elim
  · exact h.elim
end
section
variable {P : Program} {T : TT} {nt : Nat} {o : Oper} {s : Sl} {H : Hp} {k : Sl → Hp → Prop}
/-- A piece of an array that lies in memory: a slice. -/
def aSliceA (T : TT) (t : TypeId) (x : Operand) (lo hi mx : Option Operand) (s : Sl) (H : Hp) (kv : AV → Prop) : Prop :=
  match mx with
  | some _ => False
  | none => match T t with
    | some d => match d.kind with
      | .array n e => match T e with
        | some de => match ev s x with
          | some (.v (.ptr p b i0 st)) => match st with
            | 0 => segs? false H p fun l => bnd hi s n fun h ph => bnd lo s 0 fun l0 pl => ph ∧ pl ∧ l0 ≤ h ∧ h ≤ n ∧ n ≤ 16777216 ∧ b + n * de.size ≤ lenS l ∧ kv (.v (.sl p b l0 (h - l0) de.size))
            | _ => False
          | _ => False
        | none => False
      | _ => False
    | none => False
theorem aSliceA_sound {d : Bool} (hT : TOK P T) {t : TypeId} {x : Operand} {lo hi mx : Option Operand} (ho : o.op = .slice t x lo hi mx) {kv : AV → Prop} (h : aSliceA T t x lo hi mx s H kv) : RS P d o s H kv := by
  intro R w a h3 h4
  unfold aSliceA at h
  split at h
  · exact h.elim
  · split at h
    · rename_i dt hd
      have hk := (hT t dt hd).kind
      split at h
      · rename_i n e he
        rw [he] at hk; simp only [TK.is] at hk
        split at h
        · rename_i de hde
          have hD := hT e de hde
          split at h
          · rename_i p b i0 st e2
            split at h
            · obtain ⟨bl, l, hb, hs, hkk, _⟩ := segs_sound h
              obtain ⟨hh, ll, ph, pl, h, hbd⟩ := bnd_det (P := P) hkk
              obtain ⟨ph, pl, h1, h2, h6, h5, h⟩ := h
              obtain ⟨m, c, hR, hl⟩ := h4.holds p bl l hb hs
              obtain ⟨m', c', hR', hx⟩ : V.rel R (.ptr p b i0 0) (a.eval x) := ev_rel h3 e2
              rw [hR] at hR'; injection hR' with hR'; injection hR' with e1 e3; subst e1 e3
              have hc := hl.size
              rw [lenS_eq hl.1] at hc
              refine ⟨_, .slice (some (if n = ll then ⟨m, c.1 + b, none⟩ else ⟨m, c.1 + b + ll * de.size, none⟩)) (hh - ll) (n - ll), h, ⟨m, c, hR, ?_⟩, fun w' _ => ?_⟩
              · split
                · refine .inr ⟨by omega, c.1 + b, by rw [show hh - ll = 0 by omega, show n - ll = 0 by omega]⟩
                · refine .inl ⟨n - ll, by rw [Nat.add_assoc], by omega, ?_, ?_⟩
                  · have : n * de.size = (n - ll) * de.size + ll * de.size := by rw [← Nat.add_mul]; congr 1; omega
                    omega
                  · unfold maxLen; omega
              · simp only [execOp, ho, Instr.sliceAt, Sem.run_bind, run_underlying hk, Result.andThen_ok, hx, Instr.sureAddr, Sem.run_pure, Option.map_none]
                rw [hbd R a false n h3 ph pl h1 (by omega)]
                simp only [Result.andThen_ok, Sem.run_bind, run_sizeOf hD, Sem.run_pure, Nat.mul_zero, Nat.add_zero, Addr.add_eq]
            · exact h.elim
          · exact h.elim
        · exact h.elim
      · exact h.elim
    · exact h.elim
def aToArr (T : TT) (t : TypeId) (x : Operand) (s : Sl) (kv : AV → Prop) : Prop :=
  match T t with
  | some d => match d.kind with
    | .array n _ => match ev s x with
      | some (.v (.sl p b i len es)) => 0 < n ∧ n ≤ len ∧ kv (.v (.ptr p b i es))
      | _ => False
    | _ => False
  | none => False
theorem aToArr_sound (hT : TOK P T) {t : TypeId} {x : Operand} (ho : o.op = .sliceToArrayPointer t x) {kv : AV → Prop} (h : aToArr T t x s kv) : PS P o s kv := by
  intro R a h3
  unfold aToArr at h
  split at h
  · rename_i d hd
    have hk := (hT t d hd).kind
    split at h
    · rename_i n e he
      rw [he] at hk; simp only [TK.is] at hk
      split at h
      · rename_i p b i len es e2
        obtain ⟨h1, h2, h⟩ := h
        obtain ⟨m, c, hR, hx⟩ : V.rel R (.sl p b i len es) (a.eval x) := ev_rel h3 e2
        rcases hx with ⟨cap, hx, _⟩ | ⟨h0, _⟩
        · refine ⟨_, _, h, ⟨m, c, hR, rfl⟩, fun w => ?_⟩
          simp only [execOp, ho, Instr.arrayAt, Sem.run_bind, run_underlying hk, Result.andThen_ok, hx]
          rw [if_neg (by omega)]; rfl
        · omega
      · exact h.elim
    · exact h.elim
  · exact h.elim
/-- A new row of a slice. -/
def aNewSl (nt : Nat) (dst : Option Tmp) (l : List Seg) (n es : Nat) (s : Sl) (H : Hp) (k : Sl → Hp → Prop) : Prop :=
  push H 0 (.rw l) fun nm H' => kput dst nt (.v (.sl nm 0 0 n es)) s H' k
theorem newSl_core {l : List Seg} {e : TypeId} {n es : Nat} (hk : aNewSl nt o.dst l n es s H k) {R : Ren} {w : World} {a : Act} (h1 : a.tmps.size = nt) (h2 : a.defers = []) (h3 : SR R s a) (h4 : Rep R H w) {cs : Array Value} (hx : (execOp a.eval o).run P w = .ok (.value (.slice (some ⟨w.heap.size, 0, none⟩) n n)) (w.alloc (.cells cs e)))
    (hl : oks l) (hr : rels R (flat l) cs.toList) (hn : n * es ≤ cs.size) (hm : n ≤ maxLen) : o.wp P a w (fun a' w' => PostO nt k R H w a' w') (fun _ _ _ => False) := by
  have hk := push_sound hk
  obtain ⟨g1, g2⟩ := Rep.new (ty := e) h4 hl hr
  unfold Oper.wp
  rw [hx]
  exact PostO.of_put hk h1 h2 (h3.mono (g2.mono h4)) ⟨w.heap.size, (0, cs.size), by simp [Ren.add], .inl ⟨n, by simp, Nat.le_refl _, by simpa using hn, hm⟩⟩ g1 g2
def aBuildSl (T : TT) (nt : Nat) (dst : Option Tmp) (t : TypeId) (n : Nat) (ps : Array (Nat × Operand)) (s : Sl) (H : Hp) (k : Sl → Hp → Prop) : Prop :=
  match T t with
  | some d => match d.kind with
    | .slice e => match T e with
      | some de => match de.size with
        | 0 => False
        | sz + 1 => match Nat.ble (n * (sz + 1)) 16777216 with
          | true => match Nat.beq ps.toList.length n with
            | true => gath (sz + 1) s 0 ps.toList (fun m => whole T e m (fun m' => aNewSl nt dst m' n (sz + 1) s H k))
            | false => False
          | false => False
      | none => False
    | _ => False
  | none => False
theorem aBuildSl_sound (hT : TOK P T) {t : TypeId} {n : Nat} {ps : Array (Nat × Operand)} (ho : o.op = .buildSlice t n ps) (h : aBuildSl T nt o.dst t n ps s H k) : AO P nt o s H k := by
  refine ⟨fun R w a h1 h2 h3 h4 => ?_⟩
  unfold aBuildSl at h
  split at h
  · rename_i d hd
    have hk := (hT t d hd).kind
    split at h
    · rename_i e he
      rw [he] at hk; simp only [TK.is] at hk
      split at h
      · rename_i de hde
        have hD := hT e de hde
        split at h
        · exact h.elim
        · rename_i sz hsz
          split at h
          · rename_i hle
            have hle := Nat.le_of_ble_eq_true hle
            split at h
            · rename_i hn
              have hn := Nat.eq_of_beq_eq_true hn
              obtain ⟨z, hz, hzr⟩ := run_zero (w := w) hD
              let zero : Array Value := if n * (sz + 1) = 0 then #[] else z.cells
              let cells : Array Value := (Array.range (n * (sz + 1))).map (zero[· % zero.size]!)
              have hcl : cells.toList.length = ps.toList.length * (sz + 1) := by rw [hn]; simp [cells]
              obtain ⟨m, ys, hw, om, hrel, hyl, hf⟩ := run_fill (place := fun i => some (i * (sz + 1), sz + 1)) (fun _ => rfl) h3 (done := []) (rest := cells.toList) h (by simp) hcl
              obtain ⟨m', hk2, om', hfl⟩ := whole_sound hw om
              obtain ⟨out, ho1, ho2⟩ := hf cells (by simp)
              have hmap : (ps.map fun p => (p.1, a.eval p.2)).toList = ps.toList.map fun p => (p.1, a.eval p.2) := by simp
              have hout : out.size = n * (sz + 1) := by
                have := congrArg List.length ho2
                simp only [List.nil_append, hyl, hn] at this
                simpa using this
              refine newSl_core (e := e) hk2 h1 h2 h3 h4 (cs := out) ?_ om' (by rw [hfl, ho2]; exact hrel) (by omega) (by unfold maxLen; have : n ≤ n * (sz + 1) := Nat.le_mul_of_pos_right _ (by omega); omega)
              simp only [execOp, ho, Instr.buildSlice, Sem.run_bind, run_underlying hk, Result.andThen_ok, run_sizeOf hD, hsz]
              rw [if_neg (by simpa using hle)]
              by_cases hz0 : n * (sz + 1) = 0
              · have hc : cells = (Array.range (n * (sz + 1))).map ((#[] : Array Value)[· % (#[] : Array Value).size]!) := by
                  simp only [cells, zero]; rw [if_pos hz0]
                rw [if_pos hz0, Sem.run_bind, Sem.run_pure, Result.andThen_ok, hmap]
                rw [hc] at ho1
                rw [ho1]; rfl
              · have hc : cells = (Array.range (n * (sz + 1))).map (z.cells[· % z.cells.size]!) := by
                  simp only [cells, zero]; rw [if_neg hz0]
                rw [if_neg hz0, Sem.run_bind, hz, Result.andThen_ok, Sem.run_bind, Sem.run_pure, Result.andThen_ok, hmap]
                rw [hc] at ho1
                rw [ho1]; rfl
            · exact h.elim
          · exact h.elim
      · exact h.elim
    · exact h.elim
  · exact h.elim
end
section
variable {P : Program} {T : TT} {nt : Nat} {o : Oper} {s : Sl} {H : Hp} {k : Sl → Hp → Prop}
/-- Rows of zeros, as long as one likes. -/
def zeros (d : TyD) (n : Nat) (k : List Seg → Prop) : Prop :=
  match d.kind with
  | .int kd => match d.zero with
    | [.one (.int kd' 0)] => keq kd' kd (k [.ints kd n (List.replicate n 0)])
    | _ => False
  | .string => match d.zero with
    | [.one (.str b)] => b.size = 0 ∧ k [.recs 1 n (fun _ => [.str b])]
    | _ => False
  | _ => False
def aMkSl (T : TT) (nt : Nat) (dst : Option Tmp) (t : TypeId) (x y : Operand) (s : Sl) (H : Hp) (k : Sl → Hp → Prop) : Prop :=
  match T t with
  | some d => match d.kind with
    | .slice e => match T e with
      | some de => match ev s x, ev s y with
        | some (.v (.int .i64 n)), some (.v (.int .i64 n')) => match Nat.beq de.size 1 with
          | true => n = n' ∧ 0 ≤ n ∧ n ≤ 16777216 ∧ (de.bytes : Int) ≤ 1024 ∧ zeros de n.toNat (fun m => aNewSl nt dst m n.toNat 1 s H k)
          | false => n = n' ∧ 0 ≤ n ∧ n ≤ 16777216 ∧ (de.bytes : Int) ≤ 1024 ∧ 0 < de.size ∧ aNewSl nt dst [.recs de.size n.toNat (fun _ => flat de.zero)] n.toNat de.size s H k
        | _, _ => False
      | none => False
    | _ => False
  | none => False
theorem rels_same {R : Ren} {v : V} {x : Value} (h : v.rel R x) : ∀ n, rels R (List.replicate n v) (List.replicate n x)
  | 0 => .nil
  | n + 1 => .cons h (rels_same h n)
theorem range_rows {α : Type} [Inhabited α] (l : Array α) (n : Nat) : (List.range (n * l.size)).map (fun j => l[j % l.size]!) = (List.range n).flatMap (fun _ => l.toList) := by
  induction n with
  | zero => simp
  | succ n ih =>
    rw [Nat.succ_mul, List.range_add, List.map_append, ih, List.range_succ, List.flatMap_append]
    congr 1
    simp only [List.flatMap_cons, List.flatMap_nil, List.append_nil, List.map_map]
    apply List.ext_getElem
    · simp
    · intro j h1 h2
      simp at h1 h2
      simp [Nat.mod_eq_of_lt h1, h1]
theorem rels_rows {R : Ren} {l : List V} {xs : List Value} (h : rels R l xs) (n : Nat) : rels R ((List.range n).flatMap fun _ => l) ((List.range n).flatMap fun _ => xs) := by
  induction List.range n with
  | nil => exact .nil
  | cons a t ih => simp only [List.flatMap_cons]; exact rels_append h ih
theorem aMkSl_sound (hT : TOK P T) {t : TypeId} {x y : Operand} (ho : o.op = .makeSlice t x y) (h : aMkSl T nt o.dst t x y s H k) : AO P nt o s H k := by
  refine ⟨fun R w a h1 h2 h3 h4 => ?_⟩
  unfold aMkSl at h
  split at h
  · rename_i d hd
    have hk := (hT t d hd).kind
    split at h
    · rename_i e he
      rw [he] at hk; simp only [TK.is] at hk
      split at h
      · rename_i de hde
        have hD := hT e de hde
        split at h
        · rename_i n n' e1 e2
          split at h
          · rename_i hsz
            have hsz := Nat.eq_of_beq_eq_true hsz
            obtain ⟨rfl, n0, n1, nb, hz⟩ := h
            obtain ⟨i, hi, his, hib, z, hzv, hzr⟩ := hD.info
            have hx : a.eval x = .int .i64 n := ev_rel h3 e1
            have hy : a.eval y = .int .i64 n := ev_rel h3 e2
            have hz1 : z.cells.size = 1 ∧ ∃ (v : V) (m : List Seg), aNewSl nt o.dst m n.toNat 1 s H k ∧ oks m ∧ flat m = List.replicate n.toNat v ∧ rels R [v] z.cells.toList := by
              unfold zeros at hz
              split at hz
              · split at hz
                · rename_i kd _ _ kd' hzz
                  obtain ⟨rfl, hz⟩ := keq_sound hz
                  rw [hzz] at hzr
                  have hl := rels_len hzr
                  refine ⟨by simpa [flat, Seg.flat] using hl.symm, .int kd' 0, _, hz, oks_cons (s := .ints kd' _ _) (by simp [Seg.ok]) oks_nil, by simp [flat, Seg.flat], none_rels (by simpa [flat, Seg.flat] using hzr)⟩
                · exact hz.elim
              · split at hz
                · rename_i b hzz
                  obtain ⟨_, hz⟩ := hz
                  rw [hzz] at hzr
                  have hl := rels_len hzr
                  refine ⟨by simpa [flat, Seg.flat] using hl.symm, .str b, _, hz, oks_cons (s := .recs 1 _ _) (by intro i _; rfl) oks_nil, ?_, none_rels (by simpa [flat, Seg.flat] using hzr)⟩
                  simp only [flat_cons, Seg.flat]
                  rw [show flat [] = [] from rfl, List.append_nil]
                  generalize n.toNat = q
                  induction q with
                  | zero => rfl
                  | succ q ih => rw [List.range_succ, List.flatMap_append, ih, List.replicate_succ']; rfl
                · exact hz.elim
              · exact hz.elim
            obtain ⟨hz1, v, m, hnew, om, hfm, hv⟩ := hz1
            have hw : IntKind.i64.wrap n = n := by rw [IntWalk.i64_in n (by omega)]
            obtain ⟨zc, hzc⟩ : ∃ zc, z.cells = #[zc] := by
              match h0 : z.cells, hz1 with
              | ⟨[zc]⟩, _ => exact ⟨zc, rfl⟩
            have hv1 : v.rel R zc := by
              rw [hzc] at hv
              cases hv with
              | cons q _ => exact q
            let cells : Array Value := (Array.range n.toNat).map (fun j => z.cells[j % z.cells.size]!)
            have hcells : cells.toList = List.replicate n.toNat zc := by
              apply List.ext_getElem?
              intro j
              simp only [cells, hzc]
              simp
              by_cases hj : j < n.toNat
              · simp [hj, Nat.mod_one]
              · simp [hj]
            refine newSl_core (e := e) hnew h1 h2 h3 h4 (cs := cells) ?_ om (by rw [hfm, hcells]; exact rels_same hv1 _) (by simp [cells]) (by unfold maxLen; omega)
            have hb : i.bytes = de.bytes := hib
            simp only [execOp, ho, Instr.makeSlice, Sem.run_bind, run_underlying hk, Result.andThen_ok, hx, hy, asInt, run_asIntOf, Sem.run_pure, typeInfo, hi, run_program, hb, hw]
            have hbn : (de.bytes : Int) * n ≤ 1024 * 16777216 := Int.mul_le_mul nb n1 n0 (by omega)
            have c1 : (decide (n < 0) || decide ((de.bytes : Int) * n > 2 ^ 48) || decide (n < 0) || decide (n > n)) = false := by
              simp; refine ⟨⟨by omega, by omega⟩, by omega⟩
            rw [if_neg (by simpa using c1)]
            simp only [Sem.run_bind, run_askRoom, Result.andThen_ok, run_sizeOf hD, hsz, Nat.mul_one]
            have hzr2 : (zeroValue e).run P w = .ok z w := by simp [zeroValue, typeInfo, hi, hzv]
            by_cases h0 : n.toNat = 0
            · rw [if_pos h0, Sem.run_bind, Sem.run_pure, Result.andThen_ok]
              have : (Array.range n.toNat).map (fun j => (#[] : Array Value)[j % (#[] : Array Value).size]!) = cells := by
                simp only [cells, h0]; simp
              rw [this]; rfl
            · rw [if_neg h0, Sem.run_bind, hzr2, Result.andThen_ok, Sem.run_bind, Sem.run_pure, Result.andThen_ok]
              rfl
          · obtain ⟨rfl, n0, n1, nb, hpos, hnew⟩ := h
            obtain ⟨i, hi, his, hib, z, hzv, hzr⟩ := hD.info
            have hx : a.eval x = .int .i64 n := ev_rel h3 e1
            have hy : a.eval y = .int .i64 n := ev_rel h3 e2
            have hlz : z.cells.size = de.size := by
              have := rels_len hzr
              rw [hD.len] at this
              simpa using this.symm
            have hw : IntKind.i64.wrap n = n := by rw [IntWalk.i64_in n (by omega)]
            let cells : Array Value := (Array.range (n.toNat * de.size)).map (fun j => z.cells[j % z.cells.size]!)
            have hcells : cells.toList = (List.range n.toNat).flatMap (fun _ => z.cells.toList) := by
              simp only [cells, Array.toList_map, Array.toList_range]
              rw [← hlz]
              exact range_rows z.cells n.toNat
            have hfl : flat [.recs de.size n.toNat (fun _ => flat de.zero)] = (List.range n.toNat).flatMap (fun _ => flat de.zero) := by simp [flat, Seg.flat]
            refine newSl_core (e := e) hnew h1 h2 h3 h4 (cs := cells) ?_ (oks_cons (fun _ _ => hD.len) oks_nil) (by rw [hfl, hcells]; exact rels_rows (none_rels hzr) _) (by simp [cells]) (by unfold maxLen; omega)
            have hb : i.bytes = de.bytes := hib
            simp only [execOp, ho, Instr.makeSlice, Sem.run_bind, run_underlying hk, Result.andThen_ok, hx, hy, asInt, run_asIntOf, Sem.run_pure, typeInfo, hi, run_program, hb, hw]
            have hbn : (de.bytes : Int) * n ≤ 1024 * 16777216 := Int.mul_le_mul nb n1 n0 (by omega)
            have c1 : (decide (n < 0) || decide ((de.bytes : Int) * n > 2 ^ 48) || decide (n < 0) || decide (n > n)) = false := by
              simp; refine ⟨⟨by omega, by omega⟩, by omega⟩
            rw [if_neg (by simpa using c1)]
            simp only [Sem.run_bind, run_askRoom, Result.andThen_ok, run_sizeOf hD]
            have hzr2 : (zeroValue e).run P w = .ok z w := by simp [zeroValue, typeInfo, hi, hzv]
            by_cases h0 : n.toNat * de.size = 0
            · rw [if_pos h0, Sem.run_bind, Sem.run_pure, Result.andThen_ok]
              have : (Array.range (n.toNat * de.size)).map (fun j => (#[] : Array Value)[j % (#[] : Array Value).size]!) = cells := by
                simp only [cells, h0]; simp
              rw [this]; rfl
            · rw [if_neg h0, Sem.run_bind, hzr2, Result.andThen_ok, Sem.run_bind, Sem.run_pure, Result.andThen_ok]
              rfl
        · exact h.elim
      · exact h.elim
    · exact h.elim
  · exact h.elim
/-- The cells of a slice that is read. -/
theorem run_firstCells {R : Ren} {w : World} {m o' : Nat} {c : Nat × Nat} {l : List Seg} (hl : Holds R w l m c) {M : List V} {sz n len cap : Nat} (hm : Mid (flat l) M o' (n * sz)) : ∃ cs, rels R M cs ∧ ∀ w' : World, w'.heap = w.heap → (Builtin.firstCells sz n (.slice (some ⟨m, c.1 + o', none⟩) len cap)).run P w' = .ok cs.toArray w' := by
  obtain ⟨y, r3, hcell⟩ := hl.2.mid hm
  have hy : y.length = n * sz := by rw [← rels_len r3, hm.1]
  refine ⟨y, r3, fun w' hw' => ?_⟩
  simp only [Builtin.firstCells, loadCells]
  rw [run_loadCells (n * sz) 0 #[] y hy (by simpa using hcell w' (by rw [hw']))]
  simp
/-- So many elements of a row, from one on. -/
def rdRow (len : Nat) (l : List Seg) (b i es : Nat) (k : List Seg → Prop) : Prop :=
  match l, b with
  | [.recs s n f], 0 => match Nat.beq es s with
    | true => leK (i + len) n (k [.recs s len (fun j => f (i + j))])
    | false => rdA (len * es) l b i es k
  | _, _ => rdA (len * es) l b i es k
theorem rows_len {st n : Nat} {f : Nat → List V} (h : ∀ i, i < n → (f i).length = st) : ((List.range n).flatMap f).length = n * st := by
  have : ∀ (l : List Nat), (∀ i ∈ l, i < n) → (l.flatMap f).length = l.length * st := by
    intro l
    induction l with
    | nil => intro _; simp
    | cons a l ih =>
      intro hl
      rw [List.flatMap_cons, List.length_append, ih fun i hi => hl i (List.mem_cons_of_mem _ hi), h a (hl a (List.mem_cons_self ..)), List.length_cons, Nat.add_mul]
      omega
  rw [this _ fun i hi => List.mem_range.1 hi, List.length_range]
theorem rdRow_sound {len : Nat} {l : List Seg} {b i es : Nat} {k : List Seg → Prop} (h : rdRow len l b i es k) (hok : oks l) : ∃ m, k m ∧ oks m ∧ Mid (flat l) (flat m) (b + i * es) (len * es) := by
  unfold rdRow at h
  split at h
  · rename_i s n f
    split at h
    · rename_i e
      have e := Nat.eq_of_beq_eq_true e
      subst e
      rw [leK_eq] at h
      obtain ⟨h1, h2⟩ := h
      have hf : ∀ j, j < n → (f j).length = es := hok (.recs es n f) (List.mem_singleton_self _)
      refine ⟨_, h2, oks_cons (s := .recs es len _) (fun j hj => hf (i + j) (by omega)) oks_nil, ?_⟩
      have e1 : flat [.recs es n f] = (List.range n).flatMap f := by simp [flat, Seg.flat]
      have e2 : flat [.recs es len (fun j => f (i + j))] = (List.range len).flatMap (fun j => f (i + j)) := by simp [flat, Seg.flat]
      rw [e1, e2]
      refine ⟨rows_len fun j hj => hf (i + j) (by omega), (List.range i).flatMap f, (List.range (n - i - len)).flatMap (fun j => f (i + len + j)), ?_, ?_⟩
      · obtain ⟨q, rfl⟩ : ∃ q, n = i + (len + q) := ⟨n - i - len, by omega⟩
        rw [List.range_add, List.flatMap_append, List.range_add, List.map_append, List.flatMap_append]
        simp only [List.flatMap_map, show i + (len + q) - i - len = q by omega, List.map_map]
        congr 3
        funext j
        simp [Nat.add_assoc]
      · rw [rows_len fun j hj => hf j (by omega)]; omega
    · exact rdA_sound h hok
  · exact rdA_sound h hok
/-- What a slice holds. -/
def slc (H : Hp) (v : V) (sz : Nat) (k : Nat → List Seg → Prop) : Prop :=
  match v with
  | .nilS => k 0 []
  | .sl p b i len es => match Nat.beq es sz with
    | true => match lk H p with
      | some .dead => match len with
        | 0 => k 0 []
        | _ + 1 => False
      | _ => segs? false H p fun l => rdRow len l b i es fun m => k len m
    | false => False
  | _ => False
theorem slc_sound {v : V} {sz : Nat} {k : Nat → List Seg → Prop} (h : slc H v sz k) {R : Ren} {w : World} {x : Value} (h4 : Rep R H w) (hx : v.rel R x) :
    ∃ len m cs, k len m ∧ oks m ∧ (flat m).length = len * sz ∧ rels R (flat m) cs ∧ (∀ w' : World, w'.heap = w.heap → (Builtin.firstCells sz len x).run P w' = .ok cs.toArray w') ∧ ∃ b c, x = .slice b len c := by
  unfold slc at h
  split at h
  · have hx : x = .slice none 0 0 := hx
    exact ⟨0, [], [], h, oks_nil, by simp [flat], .nil, fun w' _ => by subst hx; rfl, none, 0, hx⟩
  · rename_i p b i len es
    split at h
    · rename_i hes
      have hes := Nat.eq_of_beq_eq_true hes
      subst hes
      by_cases hdead : lk H p = some .dead
      · rw [hdead] at h
        cases len with
        | zero =>
          obtain ⟨m', c', hR', hx⟩ := hx
          rcases hx with ⟨cap, hx, _⟩ | ⟨_, off, hx⟩
          · exact ⟨0, [], [], h, oks_nil, by simp [flat], .nil, fun w' _ => by rw [hx]; simp [Builtin.firstCells, loadCells, loadCellsFrom], _, _, hx⟩
          · exact ⟨0, [], [], h, oks_nil, by simp [flat], .nil, fun w' _ => by rw [hx]; simp [Builtin.firstCells, loadCells, loadCellsFrom], _, _, hx⟩
        | succ n => exact h.elim
      have h : segs? false H p fun l => rdRow len l b i es fun m => k len m := by
        cases hl : lk H p with
        | none => rw [hl] at h; exact h
        | some bb =>
          rw [hl] at h
          cases bb with
          | dead => exact absurd hl hdead
          | _ => exact h
      obtain ⟨bl, l, hb, hs, hk, _⟩ := segs_sound h
      obtain ⟨m, c, hR, hl⟩ := h4.holds p bl l hb hs
      obtain ⟨M, hkk, oM, hm⟩ := rdRow_sound hk hl.1
      obtain ⟨m', c', hR', hx⟩ := hx
      rw [hR] at hR'; injection hR' with hR'; injection hR' with e1 e2; subst e1 e2
      rcases hx with ⟨cap, hx, _⟩ | ⟨h0, off, hx⟩
      · obtain ⟨cs, hr, hrun⟩ := run_firstCells (P := P) hl (n := len) (len := len) (cap := cap) hm
        exact ⟨len, M, cs, hkk, oM, hm.1, hr, fun w' hw' => by rw [hx]; exact hrun w' hw', _, _, hx⟩
      · subst h0
        have h0 := hm.1
        rw [Nat.zero_mul] at h0
        refine ⟨0, M, [], hkk, oM, by rw [h0]; simp, by rw [List.length_eq_zero_iff.1 h0]; exact .nil, fun w' _ => ?_, some ⟨m, off, none⟩, 0, hx⟩
        rw [hx]
        simp [Builtin.firstCells, loadCells, loadCellsFrom]
    · exact h.elim
  · exact h.elim
end
section
variable {P : Program} {T : TT} {nt : Nat} {o : Oper} {s : Sl} {H : Hp} {k : Sl → Hp → Prop}
theorem run_store_raw {m : Nat} {ty : TypeId} : ∀ (xs : List Value) (o i : Nat) (w : World) (cs : Array Value), w.heap[m]? = some (.cells cs ty (0, 0)) → o + i + xs.length ≤ cs.size → (∀ x ∈ xs, x.oneCell' = true) →
    (storeCells ⟨m, o, none⟩ xs i).run P w = .ok () (wputs w m (o + i) xs) ∧ ∃ cs' : Array Value, (wputs w m (o + i) xs).heap[m]? = some (.cells cs' ty (0, 0)) ∧ cs'.size = cs.size ∧ cs'.toList = setL cs.toList (o + i) xs
  | [], o, i, w, cs, hb, _, _ => ⟨by simp [storeCells, wputs], cs, hb, rfl, rfl⟩
  | x :: r, o, i, w, cs, hb, hl, h1 => by
    simp at hl
    have hc : w.cell? ⟨m, o + i, none⟩ = some (cs[o + i]'(by omega)) := by simp [World.cell?, hb]
    have hf : w.frozen? ⟨m, o + i, none⟩ = false := by simp [World.frozen?, hb]
    have hb2 : (w.setCell ⟨m, o + i, none⟩ x).heap[m]? = some (.cells (cs.setIfInBounds (o + i) x) ty (0, 0)) := by simp [World.setCell, Array.getElem?_modify, hb]
    obtain ⟨g1, cs', g2, g3, g4⟩ := run_store_raw r o (i + 1) (w.setCell ⟨m, o + i, none⟩ x) _ hb2 (by simp; omega) (fun y hy => h1 y (List.mem_cons_of_mem _ hy))
    refine ⟨?_, cs', ?_, by simpa using g3, ?_⟩
    · simp only [storeCells, Addr.add_eq]
      rw [Sem.run_bind, run_store_cell hc hf (h1 x (List.mem_cons_self ..)), Result.andThen_ok, g1]
      simp [wputs, Nat.add_assoc]
    · simpa [wputs, Nat.add_assoc] using g2
    · rw [g4]; simp [setL, Nat.add_assoc]
theorem rels_ones {R : Ren} {L : List V} {xs : List Value} (h : rels R L xs) : ∀ x ∈ xs, x.oneCell' = true := by
  induction h with
  | nil => intro x hx; cases hx
  | cons a _ ih =>
    intro x hx
    rcases List.mem_cons.1 hx with rfl | hx
    · exact V.rel_one a
    · exact ih x hx
theorem Rep.drew {R : Ren} {w : World} {n : Nat} (h : Rep R H w) : Rep R H { w with drawn := n } := ⟨h.tab, fun j b l hj hs => h.holds j b l hj hs, h.dom, fun j l m c hj hR => h.own j l m c hj hR, h.inj⟩
theorem Rep.kill {R : Ren} {w : World} {p : Nat} (h : Rep R H w) : Rep R (H.set p .dead) w where
  tab x hx := by
    obtain ⟨h1, h2⟩ := h.tab x hx
    refine ⟨h1, fun j lj cj hj hRj => ?_⟩
    by_cases e : j = p
    · subst e
      have hlt : j < H.length := by have := (List.getElem?_eq_some_iff.1 hj).1; simpa using this
      rw [List.getElem?_set_self hlt] at hj
      injection hj with hj; cases hj
    · rw [List.getElem?_set_ne (Ne.symm e)] at hj
      exact h2 j lj cj hj hRj
  holds j b l hj hs := by
    by_cases e : j = p
    · subst e
      have hlt : j < H.length := by have := (List.getElem?_eq_some_iff.1 hj).1; simpa using this
      rw [List.getElem?_set_self hlt] at hj
      injection hj with hj; subst hj; cases hs
    · rw [List.getElem?_set_ne (Ne.symm e)] at hj
      exact h.holds j b l hj hs
  dom j hj := h.dom j (by simpa using hj)
  own j l m c hj hR := by
    by_cases e : j = p
    · subst e
      have hlt : j < H.length := by have := (List.getElem?_eq_some_iff.1 hj).1; simpa using this
      rw [List.getElem?_set_self hlt] at hj
      injection hj with hj; cases hj
    · rw [List.getElem?_set_ne (Ne.symm e)] at hj
      exact h.own j l m c hj hR
  inj j j' l b l' m c c' hj hj' hs h1 h2 := by
    have live : ∀ (j : Nat) (b : Blk) (lj : List Seg), (H.set p .dead)[j]? = some b → b.segs? = some lj → H[j]? = some b := by
      intro j b lj hj hs
      by_cases e : j = p
      · subst e
        have hlt : j < H.length := by have := (List.getElem?_eq_some_iff.1 hj).1; simpa using this
        rw [List.getElem?_set_self hlt] at hj
        injection hj with hj; subst hj; cases hs
      · rwa [List.getElem?_set_ne (Ne.symm e)] at hj
    exact h.inj j j' l b l' m c c' (live j _ l hj rfl) (live j' b l' hj' hs) hs h1 h2
theorem Go.kill {R : Ren} {w : World} {p : Nat} : Go R H w R (H.set p .dead) w where
  len := by simp
  ext _ _ := rfl
  os := rfl
  tape := rfl
  output := rfl
  size := Nat.le_refl _
  frame _ _ _ := rfl
  flag j b hj hb := by
    by_cases e : j = p
    · subst e
      rw [List.getElem?_set_self hj] at hb
      injection hb with hb; exact .inl hb.symm
    · rw [List.getElem?_set_ne (Ne.symm e)] at hb
      by_cases e2 : b = .dead
      · exact .inl e2
      · exact .inr ⟨b, hb, rfl, e2⟩
  own j b m c hj hb _ _ := by
    have := (List.getElem?_eq_some_iff.1 hb).1
    simp at this; omega
theorem Go.drew {R : Ren} {w : World} {n : Nat} : Go R H w R H { w with drawn := n } where
  len := Nat.le_refl _
  ext _ _ := rfl
  os := rfl
  tape := rfl
  output := rfl
  size := Nat.le_refl _
  frame _ _ _ := rfl
  flag j b _ hb := by
    by_cases e2 : b = .dead
    · exact .inl e2
    · exact .inr ⟨b, hb, rfl, e2⟩
  own j b m c hj hb _ _ := by
    have := (List.getElem?_eq_some_iff.1 hb).1
    omega
/-- The block of one name, written, under another name; the first is forgotten. -/
theorem Rep.take {R : Ren} {w w' : World} {p m : Nat} {c : Nat × Nat} {l l' : List Seg} (h : Rep R H w) (hn : H[p]? = some (.rw l)) (hR : R p = some (m, c)) (hos : w'.os = w.os) (ht : w'.tape = w.tape) (hout : w'.output = w.output) (hs : w'.heap.size = w.heap.size)
    (hl : Holds R w' l' m c) (how : Own w' m c) (hk : ∀ k, k ≠ m → w'.heap[k]? = w.heap[k]?) :
    Rep (R.add H.length (m, c)) (H.set p .dead ++ [.rw l']) w' ∧ Go R H w (R.add H.length (m, c)) (H.set p .dead ++ [.rw l']) w' := by
  have hm : ∀ n x, R n = some x → R.add H.length (m, c) n = some x := by
    intro n x hx
    unfold Ren.add
    split
    · rename_i e; subst e; rw [h.dom _ (Nat.le_refl _)] at hx; cases hx
    · exact hx
  have hold : ∀ j, j < H.length → R.add H.length (m, c) j = R j := fun j hj => by unfold Ren.add; rw [if_neg (by omega)]
  have hlen : (H.set p .dead).length = H.length := by simp
  have hdead : ∀ j b lj, (H.set p .dead)[j]? = some b → b.segs? = some lj → j ≠ p ∧ H[j]? = some b := by
    intro j b lj hj hs
    by_cases e : j = p
    · subst e
      rw [List.getElem?_set_self (List.getElem?_eq_some_iff.1 hn).1] at hj
      injection hj with hj; subst hj; cases hs
    · rw [List.getElem?_set_ne (Ne.symm e)] at hj; exact ⟨e, hj⟩
  have hne : ∀ j b lj mj cj, (H.set p .dead)[j]? = some b → b.segs? = some lj → R j = some (mj, cj) → mj ≠ m := by
    rintro j b lj mj cj hj hs hRj rfl
    obtain ⟨e, hj⟩ := hdead j b lj hj hs
    exact e (h.inj p j l b lj mj c cj hn hj hs hR hRj).symm
  have hlast : R.add H.length (m, c) H.length = some (m, c) := by simp [Ren.add]
  have ht' : GTok (R.add H.length (m, c)) (H.set p .dead ++ [.rw l']) w' := by
    intro x hx
    obtain ⟨⟨cz, ty, fr, h1, hz⟩, h2⟩ := h.tab x hx
    have hm : x.1 ≠ m := fun e => h2 p l c hn (by rw [hR, e])
    refine ⟨⟨cz, ty, fr, by rw [hk _ hm]; exact h1, hz⟩, fun j lj cj hj hRj => ?_⟩
    rcases getElem?_append_len hj with ⟨hlt, hj⟩ | ⟨rfl, e⟩
    · rw [hlen] at hlt
      rw [hold _ hlt] at hRj
      obtain ⟨_, hj'⟩ := hdead j _ lj hj rfl
      exact h2 j lj cj hj' hRj
    · rw [hlen, hlast] at hRj; injection hRj with hRj; injection hRj with e1 e2; exact hm e1.symm
  refine ⟨⟨ht', fun j b lj hj hs => ?_, fun j hj => ?_, fun j lj mj cj hj hRj => ?_, fun j j' lj b lj' mj cj cj' hj hj' hs h1 h2 => ?_⟩, ⟨by simp, fun j hj => hold j hj, hos, ht, hout, by omega, fun k _ hk2 => hk k (fun e => by subst e; exact hk2 p l c hn hR), fun j b hlt hj => ?_, fun j b mj cj hlt hj hd hRj => ?_⟩⟩
  · rcases getElem?_append_len hj with ⟨hlt, hj⟩ | ⟨rfl, rfl⟩
    · obtain ⟨e, hj'⟩ := hdead j b lj hj hs
      obtain ⟨mj, cj, g1, g2⟩ := h.holds j b lj hj' hs
      exact ⟨mj, cj, hm _ _ g1, (g2.mono hm).kept (hk mj (hne j b lj mj cj hj hs g1))⟩
    · injection hs with hs; subst hs
      rw [hlen]
      exact ⟨m, c, hlast, hl.mono hm⟩
  · unfold Ren.add
    simp at hj
    rw [if_neg (by omega)]; exact h.dom j (by omega)
  · rcases getElem?_append_len hj with ⟨hlt, hj⟩ | ⟨rfl, e⟩
    · rw [hlen] at hlt
      rw [hold _ hlt] at hRj
      obtain ⟨_, hj'⟩ := hdead j _ lj hj rfl
      exact (h.own j lj mj cj hj' hRj).kept (hk mj (hne j _ lj mj cj hj rfl hRj))
    · rw [hlen] at hRj
      rw [hlast] at hRj; injection hRj with hRj; injection hRj with e1 e2; subst e1 e2
      exact how
  · rcases getElem?_append_len hj with ⟨hlt, hj⟩ | ⟨rfl, e⟩
    · rcases getElem?_append_len hj' with ⟨hlt', hj'⟩ | ⟨rfl, e'⟩
      · rw [hlen] at hlt hlt'
        rw [hold _ hlt] at h1
        rw [hold _ hlt'] at h2
        exact h.inj j j' lj b lj' mj cj cj' (hdead j _ lj hj rfl).2 (hdead j' b lj' hj' hs).2 hs h1 h2
      · rw [hlen] at hlt h2
        rw [hold _ hlt] at h1
        rw [hlast] at h2; injection h2 with h2; injection h2 with h2 _; subst h2
        exact absurd rfl (hne j _ lj m cj hj rfl h1)
    · rcases getElem?_append_len hj' with ⟨hlt', hj'⟩ | ⟨rfl, e'⟩
      · rw [hlen] at hlt' h1
        rw [hold _ hlt'] at h2
        rw [hlast] at h1; injection h1 with h1; injection h1 with h1 _; subst h1
        exact absurd rfl (hne j' b lj' m cj' hj' hs h2)
      · rfl
  · rcases getElem?_append_len hj with ⟨hlt', hj⟩ | ⟨e, _⟩
    · by_cases e : j = p
      · subst e
        rw [List.getElem?_set_self hlt] at hj
        injection hj with hj; exact .inl hj.symm
      · rw [List.getElem?_set_ne (Ne.symm e)] at hj
        by_cases e2 : b = .dead
        · exact .inl e2
        · exact .inr ⟨b, hj, rfl, e2⟩
    · rw [hlen] at e; omega
  · rcases getElem?_append_len hj with ⟨hlt', hj⟩ | ⟨e, eb⟩
    · rw [hlen] at hlt'; omega
    · rw [hlen] at e; subst e
      rw [hlast] at hRj; injection hRj with hRj; injection hRj with e1 _; subst e1
      exact ⟨by rw [eb]; rfl, .inr ⟨p, l, c, hn, hR⟩⟩
end
section
variable {P : Program} {T : TT} {nt : Nat} {o : Oper} {s : Sl} {H : Hp} {k : Sl → Hp → Prop}
/-- So many elements of so many bytes find room. -/
def roomOk (n b : Nat) : Prop := (n ≤ 16777216 ∧ (b : Int) ≤ 1024) ∨ (n ≤ 140737488355328 ∧ n * b ≤ 140737488355328)
theorem room_small {n b : Nat} (h1 : n ≤ 16777216) (h2 : (b : Int) ≤ 1024) : roomOk n b := .inl ⟨h1, h2⟩
theorem room_big {n b : Nat} (h1 : n ≤ 140737488355328) (h2 : n * b ≤ 140737488355328) : roomOk n b := .inr ⟨h1, h2⟩
def aAppend (T : TT) (nt : Nat) (dst : Option Tmp) (t t2 : TypeId) (x y : Operand) (s : Sl) (H : Hp) (k : Sl → Hp → Prop) : Prop :=
  match T t, T t2 with
  | some d, some d2 => match d.kind, d2.kind with
    | .slice e, .slice _ => match T e with
      | some de => match de.size with
        | 0 => False
        | sz + 1 => match ev s x, ev s y with
          | some (.v .nilS), some (.v vy) => slc H vy (sz + 1) fun n2 m2 => 0 < n2 ∧ roomOk n2 de.bytes ∧ whole T e m2 fun m' => push H 0 (.rw m') fun nm H' => kput dst nt (.v (.sl nm 0 0 n2 (sz + 1))) s H' k
          | some (.v (.sl p b i len es)), some (.v vy) => match b, i with
            | 0, 0 => match Nat.beq es (sz + 1) with
              | true => match lk H p with
                | some (.rw l) => slc H vy (sz + 1) fun n2 m2 => lenS l = len * (sz + 1) ∧ roomOk (len + n2) de.bytes ∧ app l m2 fun lm => whole T e lm fun m' => upH H p .dead fun H1 => push H1 0 (.rw m') fun nm H' => kput dst nt (.v (.sl nm 0 0 (len + n2) (sz + 1))) s H' k
                | _ => False
              | false => False
            | _, _ => False
          | _, _ => False
      | none => False
    | _, _ => False
  | _, _ => False
theorem cap_le (need : Nat) (t : Nat) (h : need ≤ 140737488355328) : need ≤ need + t % (2 ^ 63 - need) ∧ need + t % (2 ^ 63 - need) ≤ maxLen := by
  unfold maxLen
  have : t % (2 ^ 63 - need) < 2 ^ 63 - need := Nat.mod_lt _ (by omega)
  omega
theorem next_le (need c : Nat) (h : need ≤ 16777216) (hc : c < need) : Builtin.nextslicecap need c ≤ 100000000 := by
  unfold Builtin.nextslicecap
  split
  · omega
  · split
    · omega
    · have : ∀ (r c : Nat), c ≤ 33554432 + 0 → Builtin.growBy need r c ≤ 33554432 * 2 ^ 0 + 50000000 := by
        intro r
        induction r with
        | zero => intro c hc; simp only [Builtin.growBy]; omega
        | succ r ih =>
          intro c hc
          simp only [Builtin.growBy]
          split
          · omega
          · exact ih _ (by omega)
      have := this 4 c (by omega)
      omega
/-- The last of an append that makes a new row. -/
theorem append_new {a : Act} {x y : Value} {t t2 e e2 : TypeId} {de : TyD} {sz len n2 : Nat} {base yb : Option Addr} {cap yc : Nat} {w : World} {xs ys : List Value} (hts : P.underlying t = some (.slice e)) (hts2 : P.underlying t2 = some (.slice e2)) (hD : de.is P e) (hsz : de.size = sz + 1) (hroom : roomOk (len + n2) de.bytes)
    (hx : x = .slice base len cap) (hy : y = .slice yb n2 yc) (hneed : ¬ len + n2 ≤ cap)
    (hold : ∀ d : Nat, (Builtin.firstCells (sz + 1) len x).run P { w with drawn := d } = .ok xs.toArray { w with drawn := d }) (hnew : ∀ d : Nat, (Builtin.firstCells (sz + 1) n2 y).run P { w with drawn := d } = .ok ys.toArray { w with drawn := d }) (hxs : xs.length = len * (sz + 1)) (hys : ys.length = n2 * (sz + 1)) {ty : TypeId} :
    ∃ (c : Nat) (rest : List Value), (Builtin.append_ #[t, t2] ty #[x, y]).run P w = .ok (.slice (some ⟨w.heap.size, 0, none⟩) (len + n2) c) (({ w with drawn := w.drawn + 1 } : World).alloc (.cells (xs ++ ys ++ rest).toArray e)) ∧ len + n2 ≤ c ∧ c ≤ maxLen ∧ c * (sz + 1) = (xs ++ ys ++ rest).length := by
  have hlim : len + n2 ≤ 140737488355328 := by rcases hroom with h | h <;> omega
  obtain ⟨i, hi, his, hib, z, hzv, hzr⟩ := hD.info
  have hz : ∀ w : World, (zeroValue e).run P w = .ok z w := fun w => by simp [zeroValue, typeInfo, hi, hzv]
  have hti : ∀ w : World, (typeInfo e).run P w = .ok i w := fun w => by simp [typeInfo, hi]
  let c := (Question.appendCap (len + n2) cap e).cut (w.tape w.drawn (.appendCap (len + n2) cap e))
  have hc : len + n2 ≤ c ∧ c ≤ maxLen := cap_le _ _ hlim
  let rest := (Builtin.zeroCells z.cells (c - (len + n2))).toList
  have hzs : z.cells.size = sz + 1 := by
    have := rels_len hzr
    rw [hD.len, hsz] at this
    simpa using this.symm
  refine ⟨c, rest, ?_, hc.1, hc.2, ?_⟩
  · subst hx; subst hy
    unfold Builtin.append_
    simp only [List.getElem?_toArray, List.getElem?_cons_zero, List.getElem?_cons_succ]
    rw [Sem.run_bind, run_underlying hts, Result.andThen_ok]
    simp only []
    rw [Sem.run_bind, run_sizeOf hD, Result.andThen_ok, hsz]
    simp only [Sem.run_bind, run_underlying hts2, Result.andThen_ok, Sem.run_pure, Bool.false_eq_true, if_false, Builtin.lenOf, Bool.not_false, if_true]
    rw [if_neg hneed]
    have hmax : ¬ ((len + n2 : Nat) : Int) > IntKind.i64.max := by
      have : IntKind.i64.max = 9223372036854775807 := by decide
      rw [this]; omega
    have hbig : ¬ Builtin.nextslicecap (len + n2) cap * i.bytes > 2 ^ 48 := by
      rcases hroom with ⟨h1, h2⟩ | ⟨h1, h2⟩
      · have hnc := next_le (len + n2) cap h1 (by omega)
        have hbb : i.bytes ≤ 1024 := by rw [hib]; omega
        have := Nat.mul_le_mul hnc hbb
        omega
      · have hnc := Go.Room.nextslicecap_le' (show cap < len + n2 by omega)
        have := Nat.mul_le_mul_right i.bytes hnc
        rw [hib] at this ⊢
        rw [Nat.mul_assoc] at this
        omega
    rw [Sem.run_bind, hti, Result.andThen_ok, if_neg (fun h => hmax h.1), Sem.run_bind, hti, Result.andThen_ok, if_neg hbig, Sem.run_bind, run_choose]
    rw [show (Question.appendCap (len + n2) cap e).forced = false from rfl]
    simp only [Bool.false_eq_true, if_false, Result.andThen_ok]
    rw [Sem.run_bind, hti, Result.andThen_ok, Sem.run_bind, run_askRoom, Result.andThen_ok, Sem.run_bind, hold, Result.andThen_ok, Sem.run_bind, hnew, Result.andThen_ok, Sem.run_bind, hz, Result.andThen_ok, Sem.run_bind]
    have : (xs ++ ys ++ rest).toArray = xs.toArray ++ ys.toArray ++ Builtin.zeroCells z.cells (c - (len + n2)) := by
      simp [rest]
    rw [this]
    rfl
  · have : rest.length = (c - (len + n2)) * (sz + 1) := by
      simp [rest, Builtin.zeroCells, hzs]
    rw [List.length_append, List.length_append, hxs, hys, this, ← Nat.add_mul, ← Nat.add_mul]
    congr 1; omega
theorem append_old {x y : Value} {t t2 e e2 : TypeId} {de : TyD} {sz len n2 : Nat} {base yb : Option Addr} {cap yc : Nat} {w : World} {ys : List Value} (hts : P.underlying t = some (.slice e)) (hts2 : P.underlying t2 = some (.slice e2)) (hD : de.is P e) (hsz : de.size = sz + 1)
    (hx : x = .slice base len cap) (hy : y = .slice yb n2 yc) (hneed : len + n2 ≤ cap) (hnew : (Builtin.firstCells (sz + 1) n2 y).run P w = .ok ys.toArray w) {ty : TypeId} {w' : World}
    (hst : (match base with | some a => storeCells (a.add (len * (sz + 1))) ys | none => pure () : Sem Unit).run P w = .ok () w') :
    (Builtin.append_ #[t, t2] ty #[x, y]).run P w = .ok (.slice base (len + n2) cap) w' := by
  subst hx; subst hy
  unfold Builtin.append_
  simp only [List.getElem?_toArray, List.getElem?_cons_zero, List.getElem?_cons_succ]
  rw [Sem.run_bind, run_underlying hts, Result.andThen_ok]
  simp only []
  rw [Sem.run_bind, run_sizeOf hD, Result.andThen_ok, hsz]
  simp only [Sem.run_bind, run_underlying hts2, Result.andThen_ok, Sem.run_pure, Bool.false_eq_true, if_false, Builtin.lenOf, Bool.not_false, if_true]
  rw [if_pos hneed, Sem.run_bind, hnew, Result.andThen_ok]
  cases base with
  | none => simp only at hst ⊢; injection hst with _ hst; subst hst; rfl
  | some a => simp only at hst ⊢; rw [Sem.run_bind, hst]; rfl
theorem run_app {a : Act} {w w' : World} {x y : Operand} {t t2 : TypeId} {v : Value} (ho : o.op = .call ⟨.builtin .append, #[x, y], #[t, t2]⟩) (h : (Builtin.append_ #[t, t2] o.type #[a.eval x, a.eval y]).run P w = .ok v w') : (execOp a.eval o).run P w = .ok (.value v) w' := by
  rw [run_bi ho]
  simp only [builtin, List.map_toArray, List.map_cons, List.map_nil]
  rw [Sem.run_bind, h]; rfl
theorem setL_end {xs ys zs : List Value} : ∀ {rest : List Value}, ys.length ≤ rest.length → ∃ rest', setL (xs ++ rest) xs.length ys = xs ++ ys ++ rest' := by
  intro rest h
  refine ⟨rest.drop ys.length, ?_⟩
  have := setL_spl ys xs (rest.take ys.length) (rest.drop ys.length) (by simp; omega)
  rw [List.take_append_drop] at this
  rw [this]; simp
theorem aAppend_sound (hT : TOK P T) {t t2 : TypeId} {x y : Operand} (ho : o.op = .call ⟨.builtin .append, #[x, y], #[t, t2]⟩) (h : aAppend T nt o.dst t t2 x y s H k) : AO P nt o s H k := by
  refine ⟨fun R w a h1 h2 h3 h4 => ?_⟩
  unfold aAppend at h
  split at h
  · rename_i d d2 hd hd2
    have hk := (hT t d hd).kind
    have hk2 := (hT t2 d2 hd2).kind
    split at h
    · rename_i e e2 he he2
      rw [he] at hk; simp only [TK.is] at hk
      rw [he2] at hk2; simp only [TK.is] at hk2
      split at h
      · rename_i de hde
        have hD := hT e de hde
        split at h
        · exact h.elim
        · rename_i sz hsz
          split at h
          · rename_i vy e3 e4
            have hx : a.eval x = .slice none 0 0 := ev_rel h3 e3
            obtain ⟨n2, m2, ys, ⟨q0, q1, hw⟩, om, hml, hr, hrun, yb, yc, hy⟩ := slc_sound (P := P) h h4 (ev_rel h3 e4)
            obtain ⟨m', hp, om', hfl⟩ := whole_sound hw om
            have hp := push_sound hp
            have hysl : ys.length = n2 * (sz + 1) := by rw [← rels_len hr]; exact hml
            obtain ⟨c, rest, g1, g2, g3, g4⟩ := append_new (P := P) (w := w) (ty := o.type) (a := a) (xs := []) (ys := ys) hk hk2 hD hsz (by rw [Nat.zero_add]; exact q1) hx hy (by omega) (fun _ => by rw [hx]; rfl) (fun d => hrun _ rfl) (by simp) hysl
            have h4' : Rep R H { w with drawn := w.drawn + 1 } := h4.drew
            obtain ⟨r1, r2⟩ := h4'.newP (ty := e) (cs := ([] ++ ys ++ rest).toArray) (xs := ys) (rest := rest) om' (by simp) (by rw [hfl]; exact hr)
            unfold Oper.wp
            rw [run_app (a := a) ho g1]
            refine PostO.of_put hp h1 h2 (h3.mono (r2.mono h4')) ⟨w.heap.size, _, by simp [Ren.add]; rfl, .inl ⟨c, by simp, by omega, ?_, g3⟩⟩ r1 (Go.drew.trans r2)
            simp only [List.nil_append, List.length_append, List.append_assoc] at g4 ⊢; simp; omega
          · rename_i p b i len es vy e3 e4
            split at h
            · split at h
              · rename_i hes
                have hes := Nat.eq_of_beq_eq_true hes
                subst hes
                split at h
                · rename_i l hl
                  rw [lk_eq] at hl
                  obtain ⟨n2, m2, ys, ⟨q0, q1, hw⟩, om, hml, hr, hrun, yb, yc, hy⟩ := slc_sound (P := P) h h4 (ev_rel h3 e4)
                  obtain ⟨m, c, hR, hH⟩ := h4.holds p _ l hl rfl
                  have how := h4.own p l m c hl hR
                  have hc0 : c.1 = 0 := by obtain ⟨_, _, _, _, h0⟩ := how; exact h0
                  obtain ⟨m', hp, om', hfl⟩ := whole_sound (app_sound hw) (oks_append hH.1 om)
                  have hp := push_sound (upH_sound hp)
                  have hysl : ys.length = n2 * (sz + 1) := by rw [← rels_len hr]; exact hml
                  have hll : (flat l).length = len * (sz + 1) := (lenS_eq hH.1).trans q0
                  obtain ⟨m1, c1, hR1, hx⟩ : V.rel R (.sl p 0 0 len (sz + 1)) (a.eval x) := ev_rel h3 e3
                  rw [hR] at hR1; injection hR1 with hR1; injection hR1 with e5 e6; subst e5 e6
                  obtain ⟨xs, hxr, hxrun⟩ := run_firstCells (P := P) hH (M := flat l) (n := len) (sz := sz + 1) (o' := 0) (len := len) (cap := 0) ⟨hll, [], [], by simp, rfl⟩
                  rw [hc0] at hxrun
                  have hxsl : xs.length = len * (sz + 1) := by rw [← rels_len hxr]; exact hll
                  have hlen2 : (H.set p .dead).length = H.length := by simp
                  rw [hlen2] at hp
                  have key : ∀ {xb : Option Addr} {cap : Nat}, a.eval x = .slice xb len cap → (∀ d : Nat, (Builtin.firstCells (sz + 1) len (a.eval x)).run P { w with drawn := d } = .ok xs.toArray { w with drawn := d }) → ¬ len + n2 ≤ cap → o.wp P a w (fun a' w' => PostO nt k R H w a' w') (fun _ _ _ => False) := by
                    intro xb cap hx hold hn
                    obtain ⟨c2, rest, g1, g2, g3, g4⟩ := append_new (P := P) (w := w) (ty := o.type) (a := a) (xs := xs) (ys := ys) hk hk2 hD hsz q1 hx hy hn hold (fun d => hrun _ rfl) hxsl hysl
                    have h4' : Rep R (H.set p .dead) { w with drawn := w.drawn + 1 } := h4.kill.drew
                    obtain ⟨r1, r2⟩ := h4'.newP (ty := e) (cs := (xs ++ ys ++ rest).toArray) (xs := xs ++ ys) (rest := rest) om' (by simp) (by rw [hfl, flat_append]; exact rels_append hxr hr)
                    unfold Oper.wp
                    rw [run_app (a := a) ho g1]
                    rw [hlen2] at r1 r2
                    refine PostO.of_put hp h1 h2 (h3.mono ((Go.kill.trans (Go.drew.trans r2)).mono h4)) ⟨w.heap.size, _, by simp [Ren.add]; rfl, .inl ⟨c2, by simp, by omega, ?_, g3⟩⟩ r1 (Go.kill.trans (Go.drew.trans r2))
                    simp only [List.length_append, List.append_assoc] at g4 ⊢; simp; omega
                  rcases hx with ⟨cap, hx, b1, b2, b3⟩ | ⟨h0, off, hx⟩
                  · by_cases hn : len + n2 ≤ cap
                    · obtain ⟨_, cs0, ty0, fr, pre, zs, rest, hb0, hpre, hcs, hzr, hzle⟩ := hH
                      obtain ⟨cs, ty, hb, hc, _⟩ := how
                      have hpre := List.length_eq_zero_iff.1 (hpre.trans hc0)
                      subst hpre
                      rw [hb] at hb0; injection hb0 with hb0; injection hb0 with q3 q4 q5; subst q3 q4 q5
                      rw [List.nil_append] at hcs
                      have hzl : zs.length = len * (sz + 1) := by rw [← rels_len hzr]; exact hll
                      have hcap : (len + n2) * (sz + 1) ≤ cap * (sz + 1) := Nat.mul_le_mul_right _ hn
                      rw [Nat.add_mul] at hcap
                      obtain ⟨s1, cs', s2, s3, s4⟩ := run_store_raw (P := P) ys (len * (sz + 1)) 0 w cs hb (by rw [hysl, hc]; omega) (rels_ones hr)
                      obtain ⟨o1, o2, o3, o4, o5⟩ := puts_same m ys (len * (sz + 1)) w
                      rw [Nat.add_zero] at s1 s2 s4
                      obtain ⟨rest', hre⟩ := setL_end (xs := zs) (ys := ys) (zs := []) (rest := rest) (by
                        have := congrArg List.length hcs
                        simp at this; omega)
                      have hholds : Holds R (wputs w m (len * (sz + 1)) ys) m' m c := ⟨om', cs', ty, (0, 0), [], zs ++ ys, rest', s2, hc0.symm, by rw [s4, hcs, ← hzl, hre]; simp, by rw [hfl, flat_append]; exact rels_append hzr hr, by rw [hfl, flat_append, List.length_append, hll, hml]; omega⟩
                      have how2 : Own (wputs w m (len * (sz + 1)) ys) m c := ⟨cs', ty, s2, by rw [s3, hc], hc0⟩
                      obtain ⟨r1, r2⟩ := h4.take (w' := wputs w m (len * (sz + 1)) ys) hl hR o1 o2 o3 o4 hholds how2 o5
                      have g1 := append_old (P := P) (w := w) (ty := o.type) (w' := wputs w m (len * (sz + 1)) ys) hk hk2 hD hsz hx hy hn (hrun w rfl) (by simpa [Addr.add_eq, hc0] using s1)
                      unfold Oper.wp
                      rw [run_app (a := a) ho g1]
                      exact PostO.of_put hp h1 h2 (h3.mono (r2.mono h4)) ⟨m, c, by simp [Ren.add], .inl ⟨cap, by simp, hn, by simpa using b2, b3⟩⟩ r1 r2
                    · exact key hx (fun d => by rw [hx]; exact (by simpa [Builtin.firstCells, hc0] using hxrun { w with drawn := d } rfl)) hn
                  · subst h0
                    have hxs0 : xs = [] := List.length_eq_zero_iff.1 (by simpa using hxsl)
                    by_cases hn : 0 + n2 ≤ 0
                    · obtain rfl : n2 = 0 := by omega
                      have hys0 : ys = [] := List.length_eq_zero_iff.1 (by simpa using hysl)
                      subst hys0 hxs0
                      have hholds : Holds R w m' m c := by
                        obtain ⟨_, cs, ty, fr, pre, zs, rest, hb, hc, hcs, hzr, hzle⟩ := hH
                        exact ⟨om', cs, ty, fr, pre, zs, rest, hb, hc, hcs, by rw [hfl, flat_append]; have := rels_append hzr hr; simpa using this, by rw [hfl, flat_append, List.length_append, hml]; omega⟩
                      obtain ⟨r1, r2⟩ := h4.take (w' := w) hl hR rfl rfl rfl rfl hholds how (fun _ _ => rfl)
                      have g1 := append_old (P := P) (w := w) (ty := o.type) (w' := w) hk hk2 hD hsz hx hy hn (hrun w rfl) (by simp [storeCells])
                      unfold Oper.wp
                      rw [run_app (a := a) ho g1]
                      exact PostO.of_put hp h1 h2 (h3.mono (r2.mono h4)) ⟨m, c, by simp [Ren.add], .inr ⟨rfl, off, rfl⟩⟩ r1 r2
                    · exact key hx (fun d => by rw [hx, hxs0]; simp [Builtin.firstCells, loadCells, loadCellsFrom]) hn
                · exact h.elim
              · exact h.elim
            · exact h.elim
          · exact h.elim
      · exact h.elim
    · exact h.elim
  · exact h.elim
/-- Nothing, behind nothing, is nothing. -/
def aAppendZ (T : TT) (nt : Nat) (dst : Option Tmp) (t t2 : TypeId) (x y : Operand) (s : Sl) (H : Hp) (k : Sl → Hp → Prop) : Prop :=
  match ev s x, ev s y with
  | some (.v .nilS), some (.v .nilS) => match T t, T t2 with
    | some d, some d2 => match d.kind, d2.kind with
      | .slice e, .slice _ => match T e with
        | some de => match de.size with
          | 0 => False
          | _ + 1 => kput dst nt (.v .nilS) s H k
        | none => False
      | _, _ => False
    | _, _ => False
  | some (.v .nilS), some (.v (.sl q b i l2 es)) => match lk H q with
    | some .dead => match l2, T t, T t2 with
      | 0, some d, some d2 => match d.kind, d2.kind with
        | .slice e, .slice _ => match T e with
          | some de => match de.size with
            | 0 => False
            | _ + 1 => kput dst nt (.v .nilS) s H k
          | none => False
        | _, _ => False
      | _, _, _ => False
    | _ => aAppend T nt dst t t2 x y s H k
  | _, _ => aAppend T nt dst t t2 x y s H k
theorem append_zero (hT : TOK P T) {t t2 : TypeId} {x y : Operand} (ho : o.op = .call ⟨.builtin .append, #[x, y], #[t, t2]⟩) {d d2 de : TyD} {e e2 : TypeId} {n : Nat} (hd : T t = some d) (hd2 : T t2 = some d2) (he : d.kind = .slice e) (he2 : d2.kind = .slice e2) (hde : T e = some de) (hsz : de.size = n + 1)
    (hx : ev s x = some (.v .nilS)) (hy : ∀ (R : Ren) (a : Act), SR R s a → ∃ yb yc, a.eval y = .slice yb 0 yc) (h : kput o.dst nt (.v .nilS) s H k) : AO P nt o s H k := by
  refine ⟨fun R w a h1 h2 h3 h4 => ?_⟩
  have hk := (hT t d hd).kind
  have hk2 := (hT t2 d2 hd2).kind
  rw [he] at hk; simp only [TK.is] at hk
  rw [he2] at hk2; simp only [TK.is] at hk2
  have hD := hT e de hde
  have hx : a.eval x = .slice none 0 0 := ev_rel h3 hx
  obtain ⟨yb, yc, hy⟩ := hy R a h3
  have g1 := append_old (P := P) (w := w) (ty := o.type) (ys := []) (w' := w) hk hk2 hD hsz hx hy (Nat.le_refl 0) (by rw [hy]; cases yb <;> simp [Builtin.firstCells, loadCells, loadCellsFrom]) rfl
  unfold Oper.wp
  rw [run_app (a := a) ho g1]
  exact PostO.of_put h h1 h2 h3 rfl h4 (Go.refl _ _ _)
theorem aAppendZ_sound (hT : TOK P T) {t t2 : TypeId} {x y : Operand} (ho : o.op = .call ⟨.builtin .append, #[x, y], #[t, t2]⟩) (h : aAppendZ T nt o.dst t t2 x y s H k) : AO P nt o s H k := by
  unfold aAppendZ at h
  split at h
  · rename_i e1 e2
    split at h
    · rename_i d d2 hd hd2
      split at h
      · rename_i e e2' he he2
        split at h
        · rename_i de hde
          split at h
          · exact h.elim
          · rename_i n hn
            exact append_zero hT ho hd hd2 he he2 hde hn e1 (fun R a h3 => ⟨none, 0, ev_rel h3 e2⟩) h
        · exact h.elim
      · exact h.elim
    · exact h.elim
  · rename_i q b i l2 es e1 e2
    split at h
    · split at h
      · rename_i d d2 hd hd2
        split at h
        · rename_i e e2' he he2
          split at h
          · rename_i de hde
            split at h
            · exact h.elim
            · rename_i n hn
              refine append_zero hT ho hd hd2 he he2 hde hn e1 (fun R a h3 => ?_) h
              obtain ⟨m, c, _, hx⟩ := ev_rel h3 e2
              rcases hx with ⟨cap, hx, _⟩ | ⟨_, off, hx⟩
              · exact ⟨_, _, hx⟩
              · exact ⟨_, _, hx⟩
          · exact h.elim
        · exact h.elim
      · exact h.elim
    · exact aAppend_sound hT ho h
  · exact aAppend_sound hT ho h
end
section
variable {P : Program} {T : TT} {nt : Nat} {o : Oper} {s : Sl} {H : Hp} {k : Sl → Hp → Prop}
theorem slc_first {v : V} {sz : Nat} {k : Nat → List Seg → Prop} (h : slc H v sz k) {R : Ren} {w : World} {x : Value} (h4 : Rep R H w) (hx : v.rel R x) :
    ∃ len m cs, k len m ∧ oks m ∧ (flat m).length = len * sz ∧ rels R (flat m) cs ∧ (∀ n, n ≤ len → (Builtin.firstCells sz n x).run P w = .ok (cs.take (n * sz)).toArray w) ∧ ∃ b c, x = .slice b len c := by
  unfold slc at h
  split at h
  · have hx : x = .slice none 0 0 := hx
    exact ⟨0, [], [], h, oks_nil, by simp [flat], .nil, fun n hn => by subst hx; simp [Builtin.firstCells], none, 0, hx⟩
  · rename_i p b i len es
    split at h
    · rename_i hes
      have hes := Nat.eq_of_beq_eq_true hes
      subst hes
      by_cases hdead : lk H p = some .dead
      · rw [hdead] at h
        cases len with
        | zero =>
          obtain ⟨m', c', hR', hx⟩ := hx
          rcases hx with ⟨cap, hx, _⟩ | ⟨_, off, hx⟩
          · exact ⟨0, [], [], h, oks_nil, by simp [flat], .nil, fun n hn => by obtain rfl := Nat.le_zero.1 hn; rw [hx]; simp [Builtin.firstCells, loadCells, loadCellsFrom], _, _, hx⟩
          · exact ⟨0, [], [], h, oks_nil, by simp [flat], .nil, fun n hn => by obtain rfl := Nat.le_zero.1 hn; rw [hx]; simp [Builtin.firstCells, loadCells, loadCellsFrom], _, _, hx⟩
        | succ n => exact h.elim
      have h : segs? false H p fun l => rdRow len l b i es fun m => k len m := by
        cases hl : lk H p with
        | none => rw [hl] at h; exact h
        | some bb =>
          rw [hl] at h
          cases bb with
          | dead => exact absurd hl hdead
          | _ => exact h
      obtain ⟨bl, l, hb, hs, hk, _⟩ := segs_sound h
      obtain ⟨m, c, hR, hl⟩ := h4.holds p bl l hb hs
      obtain ⟨M, hkk, oM, hm⟩ := rdRow_sound hk hl.1
      obtain ⟨m', c', hR', hx⟩ := hx
      rw [hR] at hR'; injection hR' with hR'; injection hR' with e1 e2; subst e1 e2
      rcases hx with ⟨cap, hx, _⟩ | ⟨h0, off, hx⟩
      · obtain ⟨y, hr, hcell⟩ := hl.2.mid hm
        have hyl : y.length = len * es := by rw [← rels_len hr, hm.1]
        refine ⟨len, M, y, hkk, oM, hm.1, hr, fun n hn => ?_, _, _, hx⟩
        have hle : n * es ≤ len * es := Nat.mul_le_mul_right _ hn
        rw [hx]
        simp only [Builtin.firstCells, loadCells]
        rw [run_loadCells (n * es) 0 #[] (y.take (n * es)) (by rw [List.length_take]; omega) (fun j x hj => ?_)]
        · simp
        · rw [Nat.add_zero]
          refine hcell w rfl j x ?_
          rw [List.getElem?_take] at hj
          split at hj
          · exact hj
          · cases hj
      · subst h0
        have h0 := hm.1
        rw [Nat.zero_mul] at h0
        refine ⟨0, M, [], hkk, oM, by rw [h0]; simp, by rw [List.length_eq_zero_iff.1 h0]; exact .nil, fun n hn => ?_, some ⟨m, off, none⟩, 0, hx⟩
        obtain rfl : n = 0 := by omega
        rw [hx]
        simp [Builtin.firstCells, loadCells, loadCellsFrom]
    · exact h.elim
  · exact h.elim
/-- Numbers that are copied from one slice to another. -/
def aCopy (T : TT) (nt : Nat) (dst : Option Tmp) (t : TypeId) (x y : Operand) (s : Sl) (H : Hp) (k : Sl → Hp → Prop) : Prop :=
  match T t with
  | some d => match d.kind with
    | .slice e => match T e with
      | some de => match Nat.beq de.size 1 with
        | true => match numK T 3 e with
          | some kd => match ev s x, ev s y with
            | some (.v (.sl p b i len es)), some (.v vy) => match Nat.beq es 1 with
              | true => match lk H p with
                | some (.rw l) => slc H vy 1 fun n2 m2 => mrg kd m2 fun c l2 => wrA [.ints kd (min n2 len) (l2.take (min n2 len))] (min n2 len) l b i es fun l' => upH H p (.rw l') fun H' => kput dst nt (.v (.int .i64 (min n2 len : Nat))) s H' k
                | _ => False
              | false => False
            | _, _ => False
          | none => False
        | false => False
      | none => False
    | _ => False
  | none => False
theorem aCopy_sound (hT : TOK P T) {t : TypeId} {x y : Operand} {ts : Array TypeId} (ho : o.op = .call ⟨.builtin .copy, #[x, y], ts⟩) (hts : ts[0]? = some t) (h : aCopy T nt o.dst t x y s H k) : AO P nt o s H k := by
  refine ⟨fun R w a h1 h2 h3 h4 => ?_⟩
  unfold aCopy at h
  split at h
  · rename_i d hd
    have hk := (hT t d hd).kind
    split at h
    · rename_i e he
      rw [he] at hk; simp only [TK.is] at hk
      split at h
      · rename_i de hde
        have hD := hT e de hde
        split at h
        · rename_i hsz
          have hsz := Nat.eq_of_beq_eq_true hsz
          split at h
          · rename_i kd _
            split at h
            · rename_i p b i len es vy e3 e4
              split at h
              · rename_i hes
                have hes := Nat.eq_of_beq_eq_true hes
                split at h
                · rename_i l hl
                  rw [lk_eq] at hl
                  obtain ⟨n2, m2, ys, hw, om, hml, hr, hrun, yb, yc, hy⟩ := slc_first (P := P) h h4 (ev_rel h3 e4)
                  obtain ⟨c2, l2, hw, hl2, hf2⟩ := mrg_sound hw om
                  obtain ⟨m, c, hR, hH⟩ := h4.holds p _ l hl rfl
                  have how := h4.own p l m c hl hR
                  have hc0 : c.1 = 0 := by obtain ⟨_, _, _, _, h0⟩ := how; exact h0
                  have hl2n : l2.length = n2 := by
                    have := hml
                    rw [hf2] at this; simpa using this
                  have oks1 : oks [Seg.ints kd (min n2 len) (l2.take (min n2 len))] := oks_cons (s := .ints kd _ _) (by simp [Seg.ok]; omega) oks_nil
                  have hfl : flat [Seg.ints kd (min n2 len) (l2.take (min n2 len))] = (flat m2).take (min n2 len) := by
                    rw [hf2, ← List.map_take, flat_cons]; simp [Seg.flat, flat]
                  obtain ⟨l', hp, ol', hs⟩ := wrA_sound oks1 (by rw [lenS_eq oks1]; simp [lenS]) hw hH.1
                  have hp := upH_sound hp
                  obtain ⟨m1, c1, hR1, hx⟩ : V.rel R (.sl p b i len es) (a.eval x) := ev_rel h3 e3
                  rw [hR] at hR1; injection hR1 with hR1; injection hR1 with e5 e6; subst e5 e6
                  have hcs := hrun (min n2 len) (by omega)
                  rw [Nat.mul_one] at hcs
                  have hrel : rels R (flat [Seg.ints kd (min n2 len) (l2.take (min n2 len))]) (ys.take (min n2 len)) := by
                    rw [hfl]
                    have h0 : rels R ((flat m2).take (min n2 len) ++ (flat m2).drop (min n2 len)) ys := by rw [List.take_append_drop]; exact hr
                    obtain ⟨q1, q2, hq, r1, _⟩ := rels_split h0
                    have : q1 = ys.take (min n2 len) := by
                      have hl1 := rels_len r1
                      rw [List.length_take, hml, Nat.mul_one] at hl1
                      rw [hq, List.take_left' (by omega)]
                    rw [← this]; exact r1
                  obtain ⟨A, B, C, hfA, hfL, hAl, hBl⟩ := hs
                  obtain ⟨_, hHF⟩ := hH
                  rw [hfA] at hHF
                  have hst := run_storeCells (P := P) hrel (b + i * es) 0 hHF how hBl (by omega)
                  have hHF2 := HoldsF.puts hrel hHF how hBl
                  rw [hAl] at hHF2
                  obtain ⟨o1, o2, o3, o4, o5⟩ := puts_same m (ys.take (min n2 len)) (b + i * es) w
                  have hrep := Rep.upd h4 hl hR ⟨ol', by rw [hfL]; exact hHF2.1⟩ hHF2.2 o5
                  have hgo := Go.upd (l' := l') hl hR o1 o2 o3 o4 o5
                  have fin : ∀ {cap : Nat} {ad : Addr}, a.eval x = .slice (some ad) len cap → (storeCells ad (ys.take (min n2 len))).run P w = .ok () (wputs w m (b + i * es) (ys.take (min n2 len))) → o.wp P a w (fun a' w' => PostO nt k R H w a' w') (fun _ _ _ => False) := by
                    intro cap ad hx hst
                    have g1 : (execOp a.eval o).run P w = .ok (.value (.int .i64 (min n2 len : Nat))) (wputs w m (b + i * es) (ys.take (min n2 len))) := by
                      rw [run_bi ho]
                      simp only [builtin, List.map_toArray, List.map_cons, List.map_nil, Builtin.copy_, hts, List.getElem?_toArray, List.getElem?_cons_zero, List.getElem?_cons_succ, Sem.run_bind, run_underlying hk, Result.andThen_ok, hx]
                      have hlo : (Builtin.lenOf (a.eval y)).run P w = .ok n2 w := by rw [hy]; rfl
                      have hmin : Nat.min n2 len = min n2 len := rfl
                      simp only [Sem.run_bind, hlo, Result.andThen_ok, run_sizeOf hD, hsz, hmin, hcs]
                      rw [hst]; rfl
                    unfold Oper.wp
                    rw [g1]
                    exact PostO.of_put hp h1 h2 (h3.mono (hgo.mono h4)) rfl hrep hgo
                  rcases hx with ⟨cap, hx, _⟩ | ⟨h0, off, hx⟩
                  · exact fin hx (by simpa [hc0] using hst)
                  · subst h0
                    refine fin hx ?_
                    simp [storeCells, wputs]
                · exact h.elim
              · exact h.elim
            · exact h.elim
          · exact h.elim
        · exact h.elim
      · exact h.elim
    · exact h.elim
  · exact h.elim
end
section
variable {P : Program} {T : TT} {nt : Nat} {o : Oper} {s : Sl} {H : Hp} {k : Sl → Hp → Prop}
/-- A row of numbers that is cleared. -/
def aClear (T : TT) (nt : Nat) (dst : Option Tmp) (t : TypeId) (x : Operand) (s : Sl) (H : Hp) (k : Sl → Hp → Prop) : Prop :=
  match T t with
  | some d => match d.kind with
    | .slice e => match T e with
      | some de => match Nat.beq de.size 1 with
        | true => match de.zero with
          | [.one (.int kd 0)] => match ev s x with
            | some (.v (.sl p b i len es)) => match Nat.beq es 1 with
              | true => match lk H p with
                | some (.rw l) => wrA [.ints kd len (List.replicate len 0)] len l b i es fun l' => upH H p (.rw l') fun H' => kput dst nt (.tup []) s H' k
                | _ => False
              | false => False
            | _ => False
          | _ => False
        | false => False
      | none => False
    | _ => False
  | none => False
theorem aClear_sound (hT : TOK P T) {t : TypeId} {x : Operand} {ts : Array TypeId} (ho : o.op = .call ⟨.builtin .clear, #[x], ts⟩) (hts : ts[0]? = some t) (h : aClear T nt o.dst t x s H k) : AO P nt o s H k := by
  refine ⟨fun R w a h1 h2 h3 h4 => ?_⟩
  unfold aClear at h
  split at h
  · rename_i d hd
    have hk := (hT t d hd).kind
    split at h
    · rename_i e he
      rw [he] at hk; simp only [TK.is] at hk
      split at h
      · rename_i de hde
        have hD := hT e de hde
        split at h
        · rename_i hsz
          have hsz := Nat.eq_of_beq_eq_true hsz
          split at h
          · rename_i kd hz0
            split at h
            · rename_i p b i len es e3
              split at h
              · rename_i hes
                have hes := Nat.eq_of_beq_eq_true hes
                split at h
                · rename_i l hl
                  rw [lk_eq] at hl
                  obtain ⟨m, c, hR, hH⟩ := h4.holds p _ l hl rfl
                  have how := h4.own p l m c hl hR
                  have hc0 : c.1 = 0 := by obtain ⟨_, _, _, _, h0⟩ := how; exact h0
                  have oks1 : oks [Seg.ints kd len (List.replicate len 0)] := oks_cons (s := .ints kd _ _) (by simp [Seg.ok]) oks_nil
                  obtain ⟨l', hp, ol', hs⟩ := wrA_sound oks1 (by rw [lenS_eq oks1]; simp [lenS]) h hH.1
                  have hp := upH_sound hp
                  obtain ⟨m1, c1, hR1, hx⟩ : V.rel R (.sl p b i len es) (a.eval x) := ev_rel h3 e3
                  rw [hR] at hR1; injection hR1 with hR1; injection hR1 with e5 e6; subst e5 e6
                  obtain ⟨z, hz, hzr⟩ := run_zero (w := w) hD
                  rw [hz0] at hzr
                  have hzc : z.cells = #[.int kd 0] := by
                    have h0 : rels (fun _ => none) [V.int kd 0] z.cells.toList := by simpa [flat, Seg.flat] using hzr
                    cases hq : z.cells.toList with
                    | nil => rw [hq] at h0; cases h0
                    | cons q r =>
                      rw [hq] at h0
                      cases h0 with
                      | cons g1 g2 =>
                        cases g2
                        have : q = .int kd 0 := g1
                        subst this
                        exact Array.toList_inj.1 hq
                  have hzeros : (Builtin.zeroCells z.cells len).toList = List.replicate len (Value.int kd 0) := by
                    apply List.ext_getElem?
                    intro j
                    simp [Builtin.zeroCells, hzc]
                    by_cases hj : j < len
                    · simp [hj, Nat.mod_one]
                    · simp [hj]
                  have hrel : rels R (flat [Seg.ints kd len (List.replicate len 0)]) (Builtin.zeroCells z.cells len).toList := by
                    rw [hzeros, flat_cons]
                    simp only [Seg.flat, List.map_replicate]
                    rw [show flat [] = [] from rfl, List.append_nil]
                    exact rels_same (v := .int kd 0) (x := .int kd 0) rfl _
                  obtain ⟨A, B, C, hfA, hfL, hAl, hBl⟩ := hs
                  obtain ⟨_, hHF⟩ := hH
                  rw [hfA] at hHF
                  have hst := run_storeCells (P := P) hrel (b + i * es) 0 hHF how hBl (by omega)
                  have hHF2 := HoldsF.puts hrel hHF how hBl
                  rw [hAl] at hHF2
                  obtain ⟨o1, o2, o3, o4, o5⟩ := puts_same m (Builtin.zeroCells z.cells len).toList (b + i * es) w
                  have hrep := Rep.upd h4 hl hR ⟨ol', by rw [hfL]; exact hHF2.1⟩ hHF2.2 o5
                  have hgo := Go.upd (l' := l') hl hR o1 o2 o3 o4 o5
                  have g1 : (execOp a.eval o).run P w = .ok (.value (.tuple #[])) (wputs w m (b + i * es) (Builtin.zeroCells z.cells len).toList) := by
                    rw [run_bi ho]
                    rcases hx with ⟨cap, hx, _⟩ | ⟨h0, off, hx⟩
                    · cases len with
                      | zero =>
                        simp only [builtin, List.map_toArray, List.map_cons, List.map_nil, Builtin.clear_, hts, List.getElem?_toArray, List.getElem?_cons_zero, Sem.run_bind, run_underlying hk, Result.andThen_ok, hx]
                        simp [Builtin.zeroCells, wputs]
                      | succ q =>
                        simp only [builtin, List.map_toArray, List.map_cons, List.map_nil, Builtin.clear_, hts, List.getElem?_toArray, List.getElem?_cons_zero, Sem.run_bind, run_underlying hk, Result.andThen_ok, hx, hz]
                        simp only [Nat.add_zero] at hst
                        rw [hc0, Nat.zero_add, hst]; rfl
                    · subst h0
                      simp only [builtin, List.map_toArray, List.map_cons, List.map_nil, Builtin.clear_, hts, List.getElem?_toArray, List.getElem?_cons_zero, Sem.run_bind, run_underlying hk, Result.andThen_ok, hx]
                      simp [Builtin.zeroCells, wputs]
                  unfold Oper.wp
                  rw [g1]
                  exact PostO.of_put hp h1 h2 (h3.mono (hgo.mono h4)) ⟨[], .nil, rfl⟩ hrep hgo
                · exact h.elim
              · exact h.elim
            · exact h.elim
          · exact h.elim
        · exact h.elim
      · exact h.elim
    · exact h.elim
  · exact h.elim
end
/-- The tables of a program. -/
structure Tab where
  T : TT
  E : EE
  M : MM
structure Tab.ok (P : Program) (D : Tab) : Prop where
  T : TOK P D.T
  E : EOK P D.E
  M : MOK P D.M
  all : ∀ t d l, D.T t = some d → d.kind = .struct l → allT D.T l = true
  mixed : P.follows .mixedOrders = true
def kindOf (T : TT) (t : TypeId) : Option TK :=
  match T t with
  | some d => some d.kind
  | none => none
/-- An operation that writes nothing; d: its order is drawn. -/
def aval (D : Tab) (d : Bool) (o : Op) (s : Sl) (H : Hp) (kv : AV → Prop) : Prop :=
  match o with
  | .move x => aMove x s kv
  | .assign x => aMove x s kv
  | .pick c x y => aPick c x y s kv
  | .binOp op t x y _ => aBinN D.T D.E op t x y s kv
  | .unOp op _ x => aUn op x s kv
  | .convert a b x => aConv D.T a b x s kv
  | .fieldAddr t x f => aFieldAddr D.T t x f s kv
  | .field t x f => aField D.T t x f s kv
  | .index t x i => aIndex D.T t x i s kv
  | .indexAddr t x i => aIndexAddr D.T t x i s kv
  | .extract x i => aExtract x i s kv
  | .slice t x lo hi mx => match kindOf D.T t with
    | some (.array _ _) => aSliceA D.T t x lo hi mx s H kv
    | _ => aSlice D.T t x lo hi mx s kv
  | .makeInterface t x => aMkIface D.T t x s kv
  | .nilCheck x => aNilCheck x s kv
  | .build t ps => aBuild D.T t ps s kv
  | .sliceToArrayPointer t x => aToArr D.T t x s kv
  | .load t x => aload d D.T t x s H kv
  | .call c => match c.callee, c.args.toList, c.argTypes.toList with
    | .builtin .len, [x], t :: _ => aLen D.T t x s kv
    | .builtin .max, [x, y], _ => aMinMax true x y s kv
    | .builtin .min, [x, y], _ => aMinMax false x y s kv
    | _, _, _ => False
  | _ => False
/-- Does an operation write nothing? -/
def isVal : Op → Bool
  | .move _ | .assign _ | .pick _ _ _ | .binOp _ _ _ _ _ | .unOp _ _ _ | .convert _ _ _ | .fieldAddr _ _ _ | .field _ _ _ | .index _ _ _ | .indexAddr _ _ _ | .extract _ _ | .slice _ _ _ _ _ | .makeInterface _ _ | .nilCheck _ | .build _ _ | .sliceToArrayPointer _ _ | .load _ _ => true
  | .call c => match c.callee with
    | .builtin .len => true
    | .builtin .max => true
    | .builtin .min => true
    | _ => false
  | _ => false
section
variable {P : Program} {D : Tab} {nt : Nat} {o : Oper} {s : Sl} {H : Hp}
theorem RS.of {d : Bool} {kv : AV → Prop} (h : PS P o s kv) : RS P d o s H kv := fun R w a h3 h4 => by
  obtain ⟨v, x, h1, h2, h3⟩ := h R a h3
  exact ⟨v, x, h1, h2, fun w' _ => h3 w'⟩
theorem RS.of1 {d : Bool} {kv : AV → Prop} (h : ∃ v, kv v ∧ AP P o s v) : RS P d o s H kv := .of (.of fun _ => h)
theorem call_eta {c : Call} {xs : List Operand} {ts : List TypeId} {f : Callee} (h1 : c.callee = f) (h2 : c.args.toList = xs) (h3 : c.argTypes.toList = ts) : c = ⟨f, xs.toArray, ts.toArray⟩ := by
  cases c; simp at h1 h2 h3; subst h1 h2 h3; simp
theorem aval_sound (hD : D.ok P) {d : Bool} {kv : AV → Prop} (h : aval D d o.op s H kv) : RS P d o s H kv := by
  unfold aval at h
  split at h
  case h_1 x ho => exact .of1 (aMove_sound (.inl ho) h)
  case h_2 x ho => exact .of1 (aMove_sound (.inr ho) h)
  case h_3 c x y ho => exact .of1 (aPick_sound ho h)
  case h_4 op t x y u ho => exact .of1 (aBinN_sound hD.T hD.E ho h)
  case h_5 op t x ho => exact .of1 (aUn_sound ho h)
  case h_6 a b x ho => exact .of1 (aConv_sound hD.T ho h)
  case h_7 t x f ho => exact .of1 (aFieldAddr_sound hD.T ho h)
  case h_8 t x f ho => exact .of (.of fun ok => aField_sound hD.T ho h ok)
  case h_9 t x i ho => exact .of (.of fun ok => aIndex_sound hD.T ho h ok)
  case h_10 t x i ho => exact .of1 (aIndexAddr_sound hD.T ho h)
  case h_11 x i ho => exact .of1 (aExtract_sound ho h)
  case h_12 t x lo hi mx ho =>
    split at h
    · exact aSliceA_sound hD.T ho h
    · exact .of1 (aSlice_sound hD.T ho h)
  case h_13 t x ho => exact .of1 (aMkIface_sound hD.T ho h)
  case h_14 x ho => exact .of1 (aNilCheck_sound ho h)
  case h_15 t ps ho => exact .of (aBuild_sound hD.T hD.all ho h)
  case h_16 t x ho => exact .of (aToArr_sound hD.T ho h)
  case h_17 t x ho => exact aload_sound hD.T ho h
  case h_18 c ho =>
    split at h
    · rename_i x t ts e1 e2 e3
      rw [call_eta e1 e2 e3] at ho
      exact .of1 (aLen_sound hD.T ho (by simp) h)
    · rename_i x y e1 e2
      rw [call_eta e1 e2 rfl] at ho
      exact .of1 (aMax_sound ho h)
    · rename_i x y e1 e2
      rw [call_eta e1 e2 rfl] at ho
      exact .of1 (aMin_sound ho h)
    · exact h.elim
  · exact h.elim
end
section
variable {P : Program} {D : Tab} {nt : Nat} {o : Oper} {s : Sl} {H : Hp} {k : Sl → Hp → Prop}
/-- An operation that writes, makes, or calls. -/
def aeff (P : Program) (D : Tab) (nt : Nat) (o : Oper) (s : Sl) (H : Hp) (k : Sl → Hp → Prop) : Prop :=
  match o.op with
  | .alloc t => aAlloc D.T nt o.dst t s H k
  | .box _ x => aBox nt o.dst x s H k
  | .store t x y => aStore D.T o.dst t x y s H k
  | .buildSlice t n ps => aBuildSl D.T nt o.dst t n ps s H k
  | .makeSlice t x y => aMkSl D.T nt o.dst t x y s H k
  | .call c => match c.callee with
    | .value f => aCall P nt o.dst f c.args s H k
    | .invoke f n => aInvoke P D.M nt o.dst f n c.args s H k
    | .builtin .append => match c.args.toList, c.argTypes.toList with
      | [x, y], [t, t2] => aAppendZ D.T nt o.dst t t2 x y s H k
      | _, _ => AO P nt o s H k
    | .builtin .copy => match c.args.toList, c.argTypes.toList with
      | [x, y], t :: _ => aCopy D.T nt o.dst t x y s H k
      | _, _ => AO P nt o s H k
    | .builtin .clear => match c.args.toList, c.argTypes.toList with
      | [x], t :: _ => aClear D.T nt o.dst t x s H k
      | _, _ => AO P nt o s H k
    | _ => AO P nt o s H k
  | _ => AO P nt o s H k
theorem aeff_sound (hD : D.ok P) (h : aeff P D nt o s H k) : AO P nt o s H k := by
  unfold aeff at h
  split at h
  case h_1 t ho => exact aAlloc_sound hD.T ho h
  case h_2 t x ho => exact aBox_sound ho h
  case h_3 t x y ho => exact aStore_sound hD.T ho h
  case h_4 t n ps ho => exact aBuildSl_sound hD.T ho h
  case h_5 t x y ho => exact aMkSl_sound hD.T ho h
  case h_6 c ho =>
    obtain ⟨f, args, ts⟩ := c
    split at h
    · rename_i f e; simp only at e; subst e; exact aCall_sound ho h
    · rename_i f n e; simp only at e; subst e; exact aInvoke_sound hD.M ho h
    · rename_i e; simp only at e; subst e
      split at h
      · rename_i x y t t2 e2 e3
        rw [call_eta rfl e2 e3] at ho
        exact aAppendZ_sound hD.T ho h
      · exact h
    · rename_i e; simp only at e; subst e
      split at h
      · rename_i x y t ts' e2 e3
        rw [call_eta rfl e2 e3] at ho
        exact aCopy_sound hD.T ho (by simp) h
      · exact h
    · rename_i e; simp only at e; subst e
      split at h
      · rename_i x t ts' e2 e3
        rw [call_eta rfl e2 e3] at ho
        exact aClear_sound hD.T ho (by simp) h
      · exact h
    · exact h
  · exact h
def aop (P : Program) (D : Tab) (nt : Nat) (o : Oper) (s : Sl) (H : Hp) (k : Sl → Hp → Prop) : Prop :=
  match isVal o.op with
  | true => aval D false o.op s H (fun v => kput o.dst nt v s H k)
  | false => aeff P D nt o s H k
theorem aop_sound (hD : D.ok P) (h : aop P D nt o s H k) : AO P nt o s H k := by
  unfold aop at h
  split at h
  · refine ⟨fun R w a h1 h2 h3 h4 => ?_⟩
    obtain ⟨v, x, hk, hv, hx⟩ := aval_sound hD h R w a h3 h4
    unfold Oper.wp
    rw [hx w (.inl rfl)]
    exact PostO.of_put hk h1 h2 h3 hv h4 (Go.refl _ _ _)
  · exact aeff_sound hD h
def nthO : List Oper → Nat → Option Oper
  | [], _ => none
  | x :: _, 0 => some x
  | _ :: r, n + 1 => nthO r n
theorem nthO_eq : ∀ (l : List Oper) (n : Nat), nthO l n = l[n]?
  | [], n => by simp [nthO]
  | b :: r, 0 => by simp [nthO]
  | b :: r, n + 1 => by simp [nthO, nthO_eq r n]
def aguard (all : List Oper) (o : Oper) (s : Sl) (yes no : Prop) : Prop :=
  match o.guard with
  | none => yes
  | some (j, want) => match nthO all j with
    | some p => match p.dst with
      | some t => match get s t with
        | some (.v (.bool b)) => match want with
          | true => cb b yes no
          | false => cb b no yes
        | some .any => no
        | _ => False
      | none => False
    | none => False
theorem aguard_sound {all : Array Oper} {yes no : Prop} (h : aguard all.toList o s yes no) {R : Ren} {a : Act} (h3 : SR R s a) : (Region.wanted o (yielded all a.tmps) = true ∧ yes) ∨ (Region.wanted o (yielded all a.tmps) = false ∧ no) := by
  unfold aguard at h
  split at h
  · rename_i e; exact .inl ⟨by simp [Region.wanted, e], h⟩
  · rename_i j want e
    split at h
    · rename_i p hp
      rw [nthO_eq, Array.getElem?_toList] at hp
      split at h
      · rename_i t ht
        split at h
        · rename_i b hb
          have hv : a.tmps.getD t undef = .bool b := h3 t _ hb
          have hy : yielded all a.tmps j = some b := by
            unfold yielded
            have : a.tmps[t]? = some (.bool b) := by
              rw [Array.getD_eq_getD_getElem?] at hv
              cases hq : a.tmps[t]? with
              | none => rw [hq] at hv; simp [undef] at hv
              | some q => rw [hq] at hv; simp at hv; rw [hv]
            simp [hp, ht, this]
          cases want <;> cases b
          · exact .inl ⟨by simp [Region.wanted, e, hy], h⟩
          · exact .inr ⟨by simp [Region.wanted, e, hy], h⟩
          · exact .inr ⟨by simp [Region.wanted, e, hy], h⟩
          · exact .inl ⟨by simp [Region.wanted, e, hy], h⟩
        · rename_i hb
          have hv : a.tmps.getD t undef = undef := h3 t _ hb
          have hy : yielded all a.tmps j = none := by
            unfold yielded
            cases hq : a.tmps[t]? with
            | none => simp [hp, ht, hq]
            | some q =>
              rw [Array.getD_eq_getD_getElem?, hq] at hv
              simp only [Option.getD_some] at hv
              simp [hp, ht, hq, hv, undef]
          exact .inr ⟨by simp [Region.wanted, e, hy], h⟩
        · exact h.elim
      · exact h.elim
    · exact h.elim
def aops (P : Program) (D : Tab) (nt : Nat) (all : List Oper) : List Oper → Sl → Hp → (Sl → Hp → Prop) → Prop
  | [], s, H, k => k s H
  | o :: r, s, H, k => aguard all o s (aop P D nt o s H (fun s' H' => aops P D nt all r s' H' k)) (kput o.dst nt .any s H (fun s' H' => aops P D nt all r s' H' k))
theorem Oper.wp_imp {P : Program} {o : Oper} {a : Act} {w : World} {K K' : Act → World → Prop} {Q : Exit → Act → World → Prop} (hh : o.wp P a w K (fun _ _ _ => False)) (h : ∀ a w, K a w → K' a w) : o.wp P a w K' Q := by
  unfold Oper.wp at *
  generalize (execOp a.eval o).run P w = r at *
  cases r with
  | ok n w' =>
    cases n <;> simp only [Oper.upon] at hh ⊢ <;>
      first
        | exact h _ _ hh
        | exact Calls.mono hh (fun e w'' he => by cases e <;> first | exact h _ _ he | (obtain ⟨_, _, hf⟩ := he; exact hf.elim) | exact he.elim)
        | exact Rows.mono hh (fun _ _ he => h _ _ he)
  | halt x w' => cases x <;> simp only [Oper.upon] at hh ⊢ <;> exact hh.elim
theorem PostO.trans {R R1 : Ren} {H1 : Hp} {w w1 : World} (g : Go R H w R1 H1 w1) {a' : Act} {w' : World} (h : PostO nt k R1 H1 w1 a' w') : PostO nt k R H w a' w' := by
  obtain ⟨s', H', R', q, h1, h2, h3, h4, h5⟩ := h
  exact ⟨s', H', R', q, h1, h2, h3, h4, g.trans h5⟩
theorem aops_sound (hD : D.ok P) {all : Array Oper} {Q : Exit → Act → World → Prop} : ∀ {l : List Oper} {i : Nat} {s : Sl} {H : Hp}, aops P D nt all.toList l s H k → all.toList.drop i = l →
    ∀ (R : Ren) (w : World) (a : Act), a.tmps.size = nt → a.defers = [] → SR R s a → Rep R H w → (∀ a' w', PostO nt k R H w a' w' → Q .normal a' w') → wpOps P all Q ((List.range all.size).drop i) a w := by
  intro l
  induction l with
  | nil =>
    intro i s H h hd R w a h1 h2 h3 h4 hQ
    have : all.size ≤ i := by
      have := congrArg List.length hd
      simp at this; omega
    rw [List.drop_of_length_le (by simpa using this)]
    exact hQ a w ⟨s, H, R, h, h1, h2, h3, h4, Go.refl _ _ _⟩
  | cons o r ih =>
    intro i s H h hd R w a h1 h2 h3 h4 hQ
    have hlt : i < all.size := by
      have := congrArg List.length hd
      simp at this; omega
    have ho : all[i]? = some o := by
      have := congrArg (·[0]?) hd
      simpa using this
    have hr : all.toList.drop (i + 1) = r := by
      have := congrArg (List.drop 1) hd
      simpa [List.drop_drop] using this
    rw [List.drop_eq_getElem_cons (by simpa using hlt), List.getElem_range]
    simp only [wpOps, ho]
    simp only [aops] at h
    rcases aguard_sound h h3 with ⟨hw, hy⟩ | ⟨hw, hn⟩
    · rw [if_pos hw]
      refine .inl (Oper.wp_imp ((aop_sound hD hy).run R w a h1 h2 h3 h4) ?_)
      rintro a' w' ⟨s', H', R', q, g1, g2, g3, g4, g5⟩
      exact ih q hr R' w' a' g1 g2 g3 g4 fun a'' w'' hp => hQ _ _ (hp.trans g5)
    · rw [if_neg (by rw [hw]; simp)]
      obtain ⟨s', H', R', q, g1, g2, g3, g4, g5⟩ := PostO.of_put (R := R) (R' := R) (x := undef) (w := w) (w' := w) (H := H) hn h1 h2 h3 rfl h4 (Go.refl _ _ _)
      exact ih q hr R' w _ g1 g2 g3 g4 fun a'' w'' hp => hQ _ _ (hp.trans g5)
end
/-- How a region that draws its order is gone through: take an operation first; or whichever comes up. -/
inductive Pl where
  | done
  | take (i : Nat) (p : Pl)
  | nil
  | alt (i : Nat) (p q : Pl)
def Pl.depth : Pl → Nat
  | .done => 0
  | .take _ p => p.depth + 1
  | .nil => 0
  | .alt _ p q => max (p.depth + 1) q.depth
def isValAt (ops : Array Oper) (i : Nat) : Bool :=
  match ops[i]? with
  | some o => isVal o.op
  | none => false
/-- Is it a way through? -/
def chk (ops : Array Oper) : Pl → Array Bool → Option (List Nat) → Bool
  | .done, l, none => (Region.ready .any ops l).isEmpty
  | .take i p, l, none => (Region.ready .any ops l).contains i && Region.free .any ops l i && isValAt ops i && chk ops p (l.setIfInBounds i true) none
  | .alt i p q, l, none => match Region.ready .any ops l with
    | [] => false
    | j :: r => i == j && chk ops p (l.setIfInBounds i true) none && chk ops q l (some r)
  | .nil, _, some [] => true
  | .alt i p q, l, some (j :: r) => i == j && chk ops p (l.setIfInBounds i true) none && chk ops q l (some r)
  | _, _, _ => false
/-- A way by a row of places: an operation that writes nothing is taken, another one comes up alone. -/
def wayL (ops : List Oper) : List Nat → Pl
  | [] => .done
  | i :: l => match nthO ops i with
    | some o => match isVal o.op with
      | true => .take i (wayL ops l)
      | false => .alt i (wayL ops l) .nil
    | none => .done
/-- In the order of the text. -/
def upto : Nat → Nat → List Nat
  | 0, _ => []
  | n + 1, i => i :: upto n (i + 1)
def lenO : List Oper → Nat
  | [] => 0
  | _ :: r => lenO r + 1
def wayT (ops : Array Oper) : Pl := wayL ops.toList (upto (lenO ops.toList) 0)
section
variable {P : Program} {D : Tab} {nt : Nat}
def andQ (a : Prop) (q : Pl) (b : Prop) : Prop :=
  match q with
  | .nil => a
  | _ => a ∧ b
/-- Along a way. -/
def ago (P : Program) (D : Tab) (nt : Nat) (ops : List Oper) : Pl → Sl → Hp → (Sl → Hp → Prop) → Prop
  | .done, s, H, k => k s H
  | .take i p, s, H, k => match nthO ops i with
    | some o => aguard ops o s (aval D true o.op s H (fun v => kput o.dst nt v s H (fun s' H' => ago P D nt ops p s' H' k))) (kput o.dst nt .any s H (fun s' H' => ago P D nt ops p s' H' k))
    | none => False
  | .nil, _, _, _ => True
  | .alt i p q, s, H, k => andQ (match nthO ops i with
    | some o => aguard ops o s (aop P D nt o s H (fun s' H' => ago P D nt ops p s' H' k)) (kput o.dst nt .any s H (fun s' H' => ago P D nt ops p s' H' k))
    | none => False) q (ago P D nt ops q s H k)
theorem andQ_elim {a : Prop} {ops : List Oper} {q : Pl} {s : Sl} {H : Hp} {k : Sl → Hp → Prop} (h : andQ a q (ago P D nt ops q s H k)) : a ∧ ago P D nt ops q s H k := by
  cases q with
  | nil => exact ⟨h, trivial⟩
  | _ => exact h
def Qn (nt : Nat) (k : Sl → Hp → Prop) (R : Ren) (H : Hp) (w : World) : Exit → Act → World → Prop
  | .normal, a, w' => PostO nt k R H w a w'
  | _, _, _ => False
theorem Same.of_go {R0 R : Ren} {H0 H : Hp} {w0 w : World} (h0 : Rep R0 H0 w0) (g : Go R0 H0 w0 R H w) : Same R0 H0 w0 w := by
  intro n l m c hn hR
  obtain ⟨m', c', hR', hh⟩ := h0.holds n _ l hn rfl
  rw [hR] at hR'; injection hR' with hR'; injection hR' with e1 e2; subst e1 e2
  refine g.frame m hh.lt fun n' l' c' hn' hR' => ?_
  have := h0.inj n' n l' _ l m c' c hn' hn rfl hR' hR
  subst this
  rw [hn] at hn'; injection hn' with hn'; cases hn'
theorem Same.step {R0 R : Ren} {H0 H : Hp} {w0 w w' : World} (h0 : Rep R0 H0 w0) (g : Go R0 H0 w0 R H w) (hw' : Same R0 H0 w0 w') : Same R H w w' := by
  intro n l m c hn hR
  have hw := Same.of_go h0 g
  rcases Nat.lt_or_ge n H0.length with hlt | hge
  · rcases g.flag n _ hlt hn with e | ⟨b0, hb, e, hd⟩
    · cases e
    · cases b0 with
      | dead => exact absurd rfl hd
      | rw l0 => cases e
      | ro l0 =>
        rw [g.ext n hlt] at hR
        rw [hw' n l0 m c hb hR, hw n l0 m c hb hR]
  · obtain ⟨e, _⟩ := g.own n _ m c hge hn (by simp) hR
    cases e
theorem ago_sound (hD : D.ok P) {ops : Array Oper} (hs : Region.noSelect ops = true) {k : Sl → Hp → Prop} {R0 : Ren} {H0 : Hp} {w0 : World} (h0 : Rep R0 H0 w0) : ∀ (p : Pl) (listed : Array Bool) (rs : Option (List Nat)), chk ops p listed rs = true →
    ∀ (fuel : Nat) (R : Ren) (H : Hp) (w : World) (a : Act) (s : Sl), p.depth ≤ fuel → Go R0 H0 w0 R H w → Rep R H w → SR R s a → a.tmps.size = nt → a.defers = [] → ago P D nt ops.toList p s H k →
      match rs with
      | none => wpAnyH P .any ops (Qn nt k R0 H0 w0) (Same R0 H0 w0) fuel listed a w
      | some l => ∀ i ∈ l, wpOp P ops (Qn nt k R0 H0 w0) i (fun a' w' => Same R0 H0 w0 w' ∧ wpAnyH P .any ops (Qn nt k R0 H0 w0) (Same R0 H0 w0) (fuel - 1) (listed.setIfInBounds i true) a' w') a w := by
  intro p
  induction p with
  | done =>
    intro listed rs hc fuel R H w a s hf g h4 h3 h1 h2 h
    cases rs with
    | none =>
      simp only [chk, List.isEmpty_iff] at hc
      exact wpAnyH_done hc ⟨s, H, R, h, h1, h2, h3, h4, g⟩ fuel
    | some l => simp [chk] at hc
  | take i p ih =>
    intro listed rs hc fuel R H w a s hf g h4 h3 h1 h2 h
    cases rs with
    | some l => simp [chk] at hc
    | none =>
      simp only [chk, Bool.and_eq_true] at hc
      obtain ⟨⟨⟨c1, c2⟩, c3⟩, c4⟩ := hc
      simp only [Pl.depth] at hf
      obtain ⟨fuel, rfl⟩ : ∃ f, fuel = f + 1 := ⟨fuel - 1, by omega⟩
      simp only [ago] at h
      split at h
      · rename_i o ho
        rw [nthO_eq, Array.getElem?_toList] at ho
        have hSw := Same.of_go h0 g
        have hQ : ∀ (v : Value) c a w, Qn nt k R0 H0 w0 (.panic c) (a.put o.dst v) w → Qn nt k R0 H0 w0 (.panic c) a w := fun _ _ _ _ h => h.elim
        rcases aguard_sound h h3 with ⟨hw, hy⟩ | ⟨hw, hn⟩
        · obtain ⟨v, x, hk, hv, hx⟩ := aval_sound hD hy R w a h3 h4
          refine wpAnyH_take ho hs c2 c1 (hQ x) (.inl ⟨hw, fun w' hw' => hx w' (.inr ⟨rfl, Same.step h0 g hw'⟩)⟩) hSw ?_
          obtain ⟨s', H', R', q, g1, g2, g3, g4, g5⟩ := PostO.of_put hk h1 h2 h3 hv h4 (Go.refl R H w)
          exact ih _ none c4 fuel R' H' w _ s' (by omega) (g.trans g5) g4 g3 g1 g2 q
        · refine wpAnyH_take ho hs c2 c1 (hQ undef) (.inr ⟨hw, rfl⟩) hSw ?_
          obtain ⟨s', H', R', q, g1, g2, g3, g4, g5⟩ := PostO.of_put (x := undef) hn h1 h2 h3 rfl h4 (Go.refl R H w)
          exact ih _ none c4 fuel R' H' w _ s' (by omega) (g.trans g5) g4 g3 g1 g2 q
      · exact h.elim
  | nil =>
    intro listed rs hc fuel R H w a s hf g h4 h3 h1 h2 h
    cases rs with
    | none => simp [chk] at hc
    | some l => cases l with
      | nil => intro i hi; cases hi
      | cons j r => simp [chk] at hc
  | alt i p q ihp ihq =>
    intro listed rs hc fuel R H w a s hf g h4 h3 h1 h2 h
    simp only [Pl.depth] at hf
    obtain ⟨fuel, rfl⟩ : ∃ f, fuel = f + 1 := ⟨fuel - 1, by omega⟩
    simp only [ago] at h
    obtain ⟨hp, hq⟩ := andQ_elim h
    split at hp
    case h_2 => exact hp.elim
    rename_i o ho
    rw [nthO_eq, Array.getElem?_toList] at ho
    have key : ∀ c1 : chk ops p (listed.setIfInBounds i true) none = true, wpOp P ops (Qn nt k R0 H0 w0) i (fun a' w' => Same R0 H0 w0 w' ∧ wpAnyH P .any ops (Qn nt k R0 H0 w0) (Same R0 H0 w0) fuel (listed.setIfInBounds i true) a' w') a w := by
      intro c1
      unfold wpOp
      simp only [ho]
      rcases aguard_sound hp h3 with ⟨hw, hy⟩ | ⟨hw, hn⟩
      · rw [if_pos hw]
        refine .inl (Oper.wp_imp ((aop_sound hD hy).run R w a h1 h2 h3 h4) ?_)
        rintro a' w' ⟨s', H', R', q', g1, g2, g3, g4, g5⟩
        exact ⟨Same.of_go h0 (g.trans g5), ihp _ none c1 fuel R' H' w' a' s' (by omega) (g.trans g5) g4 g3 g1 g2 q'⟩
      · rw [if_neg (by rw [hw]; simp)]
        obtain ⟨s', H', R', q', g1, g2, g3, g4, g5⟩ := PostO.of_put (x := undef) hn h1 h2 h3 rfl h4 (Go.refl R H w)
        exact ⟨Same.of_go h0 g, ihp _ none c1 fuel R' H' w _ s' (by omega) (g.trans g5) g4 g3 g1 g2 q'⟩
    cases rs with
    | none =>
      simp only [chk] at hc
      split at hc
      · cases hc
      · rename_i j r hr
        simp only [Bool.and_eq_true, beq_iff_eq] at hc
        obtain ⟨⟨rfl, c1⟩, c2⟩ := hc
        refine wpAnyH_all hr (by simp) ?_
        intro i' hi'
        rcases List.mem_cons.1 hi' with rfl | hi'
        · exact key c1
        · exact ihq listed (some r) c2 (fuel + 1) R H w a s (by omega) g h4 h3 h1 h2 hq i' hi'
    | some l =>
      cases l with
      | nil => simp [chk] at hc
      | cons j r =>
        simp only [chk, Bool.and_eq_true, beq_iff_eq] at hc
        obtain ⟨⟨rfl, c1⟩, c2⟩ := hc
        intro i' hi'
        rcases List.mem_cons.1 hi' with rfl | hi'
        · exact key c1
        · exact ihq listed (some r) c2 (fuel + 1) R H w a s (by omega) g h4 h3 h1 h2 hq i' hi'
end
def memN : List Nat → Nat → Bool
  | [], _ => false
  | x :: r, i => match Nat.beq x i with
    | true => true
    | false => memN r i
/-- All but these may be read alone. -/
def fzH (wl : List Nat) : Nat → Hp → Hp
  | _, [] => []
  | i, .rw l :: r => (match memN wl i with
    | true => .rw l
    | false => .ro l) :: fzH wl (i + 1) r
  | i, b :: r => b :: fzH wl (i + 1) r
def fz (wl : List Nat) : Nat → Hp → (Hp → Prop) → Prop
  | _, [], k => k []
  | i, .rw l :: r, k => match memN wl i with
    | true => fz wl (i + 1) r (fun r' => k (.rw l :: r'))
    | false => fz wl (i + 1) r (fun r' => k (.ro l :: r'))
  | i, .ro l :: r, k => fz wl (i + 1) r (fun r' => k (.ro l :: r'))
  | i, .dead :: r, k => fz wl (i + 1) r (fun r' => k (.dead :: r'))
theorem fz_sound {wl : List Nat} : ∀ {H : Hp} {i : Nat} {k : Hp → Prop}, fz wl i H k → k (fzH wl i H)
  | [], _, _, h => h
  | .rw l :: r, i, k, h => by
    simp only [fz] at h
    simp only [fzH]
    split at h
    · exact fz_sound (k := fun r' => k (.rw l :: r')) h
    · exact fz_sound (k := fun r' => k (.ro l :: r')) h
  | .ro l :: r, i, k, h => fz_sound (H := r) (k := fun r' => k (.ro l :: r')) h
  | .dead :: r, i, k, h => fz_sound (H := r) (k := fun r' => k (.dead :: r')) h
theorem fzH_len {wl : List Nat} : ∀ {H : Hp} {i : Nat}, (fzH wl i H).length = H.length
  | [], _ => rfl
  | .rw l :: r, i => by simp [fzH, fzH_len (H := r)]
  | .ro l :: r, i => by simp [fzH, fzH_len (H := r)]
  | .dead :: r, i => by simp [fzH, fzH_len (H := r)]
theorem fzH_get {wl : List Nat} : ∀ {H : Hp} {i n : Nat} {b : Blk}, (fzH wl i H)[n]? = some b → ∃ b0, H[n]? = some b0 ∧ b.segs? = b0.segs? ∧ (b.isRw = true → b0 = b)
  | [], i, n, b, h => by simp [fzH] at h
  | x :: r, i, n, b, h => by
    have hr : ∀ {m : Nat}, (fzH wl (i + 1) r)[m]? = some b → ∃ b0, (x :: r)[m + 1]? = some b0 ∧ b.segs? = b0.segs? ∧ (b.isRw = true → b0 = b) := fun h => by
      obtain ⟨b0, h1, h2⟩ := fzH_get h
      exact ⟨b0, by simpa using h1, h2⟩
    cases n with
    | succ n =>
      cases x <;> (simp only [fzH, List.getElem?_cons_succ] at h; exact hr h)
    | zero =>
      refine ⟨x, rfl, ?_⟩
      cases x with
      | dead => simp only [fzH, List.getElem?_cons_zero] at h; injection h with h; subst h; exact ⟨rfl, fun h => by cases h⟩
      | ro l => simp only [fzH, List.getElem?_cons_zero] at h; injection h with h; subst h; exact ⟨rfl, fun h => by cases h⟩
      | rw l =>
        simp only [fzH, List.getElem?_cons_zero] at h
        injection h with h
        split at h <;> (subst h; first | exact ⟨rfl, fun _ => rfl⟩ | exact ⟨rfl, fun h => by cases h⟩)
theorem fzH_of {wl : List Nat} : ∀ {H : Hp} {i n : Nat} {b0 : Blk}, H[n]? = some b0 → ∃ b, (fzH wl i H)[n]? = some b ∧ b.segs? = b0.segs? := by
  intro H i n b0 h
  have hlt := (List.getElem?_eq_some_iff.1 h).1
  have : n < (fzH wl i H).length := by rw [fzH_len]; exact hlt
  obtain ⟨b1, g1, g2, _⟩ := fzH_get (List.getElem?_eq_getElem this)
  rw [h] at g1; injection g1 with g1; subst g1
  exact ⟨_, List.getElem?_eq_getElem this, g2⟩
theorem Rep.fz {R : Ren} {H : Hp} {w : World} {wl : List Nat} (h : Rep R H w) : Rep R (fzH wl 0 H) w where
  tab x hx := by
    obtain ⟨h1, h2⟩ := h.tab x hx
    refine ⟨h1, fun n l c hn hR => ?_⟩
    obtain ⟨b0, g1, _, g3⟩ := fzH_get hn
    have := g3 rfl; subst this
    exact h2 n l c g1 hR
  holds n b l hn hs := by
    obtain ⟨b0, g1, g2, _⟩ := fzH_get hn
    exact h.holds n b0 l g1 (g2 ▸ hs)
  dom n hn := h.dom n (by rwa [fzH_len] at hn)
  own n l m c hn hR := by
    obtain ⟨b0, g1, _, g3⟩ := fzH_get hn
    have := g3 rfl; subst this
    exact h.own n l m c g1 hR
  inj n n' l b l' m c c' hn hn' hs h1 h2 := by
    obtain ⟨b0, g1, _, g3⟩ := fzH_get hn
    have := g3 rfl; subst this
    obtain ⟨b1, q1, q2, _⟩ := fzH_get hn'
    exact h.inj n n' l b1 l' m c c' g1 q1 (q2 ▸ hs) h1 h2
/-- What might be written may be written again. -/
def thH : Hp → Hp → Hp
  | [], r => r
  | .rw _ :: a, .ro l :: r => .rw l :: thH a r
  | _ :: a, b :: r => b :: thH a r
  | _ :: _, [] => []
def th : Hp → Hp → (Hp → Prop) → Prop
  | [], r, k => k r
  | .rw _ :: a, .ro l :: r, k => th a r (fun r' => k (.rw l :: r'))
  | _ :: a, b :: r, k => th a r (fun r' => k (b :: r'))
  | _ :: _, [], k => k []
theorem th_sound : ∀ {H H' : Hp} {k : Hp → Prop}, th H H' k → k (thH H H')
  | [], r, k, h => by cases r <;> exact h
  | .rw _ :: a, .ro l :: r, k, h => th_sound (H := a) (H' := r) (k := fun r' => k (.rw l :: r')) h
  | .rw _ :: a, .rw l :: r, k, h => th_sound (H := a) (H' := r) (k := fun r' => k (.rw l :: r')) h
  | .rw _ :: a, .dead :: r, k, h => th_sound (H := a) (H' := r) (k := fun r' => k (.dead :: r')) h
  | .ro _ :: a, b :: r, k, h => th_sound (H := a) (H' := r) (k := fun r' => k (b :: r')) h
  | .dead :: a, b :: r, k, h => th_sound (H := a) (H' := r) (k := fun r' => k (b :: r')) h
  | .rw _ :: _, [], _, h => h
  | .ro _ :: _, [], _, h => h
  | .dead :: _, [], _, h => h
theorem thH_nil (r : Hp) : thH [] r = r := by cases r <;> rfl
theorem thH_len : ∀ {H H' : Hp}, (thH H H').length = H'.length
  | [], r => by rw [thH_nil]
  | .rw _ :: a, .ro l :: r => by simp [thH, thH_len (H := a)]
  | .rw _ :: a, .rw l :: r => by simp [thH, thH_len (H := a)]
  | .rw _ :: a, .dead :: r => by simp [thH, thH_len (H := a)]
  | .ro _ :: a, b :: r => by simp [thH, thH_len (H := a)]
  | .dead :: a, b :: r => by simp [thH, thH_len (H := a)]
  | .rw _ :: _, [] => rfl
  | .ro _ :: _, [] => rfl
  | .dead :: _, [] => rfl
/-- Each block of the one is the other's, or may be written again. -/
theorem thH_get : ∀ {H H' : Hp} {n : Nat} {b : Blk}, (thH H H')[n]? = some b → H'[n]? = some b ∨ ∃ l l0, H'[n]? = some (.ro l) ∧ b = .rw l ∧ H[n]? = some (.rw l0)
  | [], r, n, b, h => by rw [thH_nil] at h; exact .inl h
  | x :: a, [], n, b, h => by cases x <;> simp [thH] at h
  | x :: a, y :: r, 0, b, h => by
    cases x with
    | dead => simp [thH] at h; subst h; exact .inl rfl
    | ro l => simp [thH] at h; subst h; exact .inl rfl
    | rw l =>
      cases y with
      | dead => simp [thH] at h; subst h; exact .inl rfl
      | rw l2 => simp [thH] at h; subst h; exact .inl rfl
      | ro l2 => simp [thH] at h; subst h; exact .inr ⟨l2, l, rfl, rfl, rfl⟩
  | x :: a, y :: r, n + 1, b, h => by
    have : (thH a r)[n]? = some b := by
      cases x with
      | dead => simpa [thH] using h
      | ro l => simpa [thH] using h
      | rw l => cases y <;> simpa [thH] using h
    rcases thH_get this with h | ⟨l, l0, h1, h2, h3⟩
    · exact .inl (by simpa using h)
    · exact .inr ⟨l, l0, by simpa using h1, h2, by simpa using h3⟩
theorem thaw {R R' : Ren} {H H' : Hp} {w w' : World} {wl : List Nat} (h0 : Rep R H w) (g : Go R (fzH wl 0 H) w R' H' w') (h : Rep R' H' w') : Rep R' (thH H H') w' ∧ Go R H w R' (thH H H') w' := by
  have hlen : (fzH wl 0 H).length = H.length := fzH_len
  have old : ∀ {n l m c}, (fzH wl 0 H)[n]? = some (.rw l) → R n = some (m, c) → H[n]? = some (.rw l) := by
    intro n l m c hn _
    obtain ⟨b0, g1, _, g3⟩ := fzH_get hn
    rw [g3 rfl] at g1; exact g1
  have live : ∀ {n : Nat} {b : Blk} {l : List Seg}, (thH H H')[n]? = some b → b.segs? = some l → ∃ b' : Blk, H'[n]? = some b' ∧ b'.segs? = some l := by
    intro n b l hn hs
    rcases thH_get hn with h1 | ⟨l1, l0, h1, rfl, _⟩
    · exact ⟨b, h1, hs⟩
    · exact ⟨_, h1, hs⟩
  have ht : GTok R' (thH H H') w' := by
    intro x hx
    obtain ⟨h1, h2⟩ := h.tab x hx
    refine ⟨h1, fun n l c hn hR => ?_⟩
    rcases thH_get hn with g1 | ⟨l1, l0, g1, e, g2⟩
    · exact h2 n l c g1 hR
    · have hnl : n < H.length := (List.getElem?_eq_some_iff.1 g2).1
      have hRn : R n = some (x.1, c) := by rw [← g.ext n (by rwa [hlen])]; exact hR
      exact (h0.tab x hx).2 n l0 c g2 hRn
  refine ⟨⟨ht, fun n b l hn hs => ?_, fun n hn => h.dom n (by rwa [thH_len] at hn), fun n l m c hn hR => ?_, fun n n' l b l' m c c' hn hn' hs h1 h2 => ?_⟩, ⟨by rw [thH_len, ← hlen]; exact g.len, fun n hn => g.ext n (by rwa [hlen]), g.os, g.tape, g.output, g.size, fun k hk hk2 => g.frame k hk fun n l c hn hR => hk2 n l c (old hn hR) hR, fun n b hn hb => ?_, fun n b m c hn hb hd hR => ?_⟩⟩
  · obtain ⟨b', h1, h2⟩ := live hn hs
    exact h.holds n b' l h1 h2
  · rcases thH_get hn with g1 | ⟨l1, l0, g1, e, g2⟩
    · exact h.own n l m c g1 hR
    · have hnl : n < H.length := (List.getElem?_eq_some_iff.1 g2).1
      have hRn : R n = some (m, c) := by rw [← g.ext n (by rwa [hlen])]; exact hR
      have how := h0.own n l0 m c g2 hRn
      have hlt2 : m < w.heap.size := by
        obtain ⟨cz, tz, hz, _⟩ := how
        exact (Array.getElem?_eq_some_iff.1 hz).1
      refine how.kept (g.frame m hlt2 fun n0 l2 c0 e3 e4 => ?_)
      have := h0.inj n0 n l2 _ l0 m c0 c (old e3 e4) g2 rfl e4 hRn
      subst this
      rcases g.flag n0 _ (by rwa [hlen]) g1 with e' | ⟨b0, e5, e6, _⟩
      · cases e'
      · rw [e3] at e5; injection e5 with e5; subst e5; cases e6
  · obtain ⟨b', q1, q2⟩ := live hn' hs
    rcases thH_get hn with g1 | ⟨l1, l0, g1, e, g2⟩
    · exact h.inj n n' l b' l' m c c' g1 q1 q2 h1 h2
    · have hnl : n < H.length := (List.getElem?_eq_some_iff.1 g2).1
      have hRn : R n = some (m, c) := by rw [← g.ext n (by rwa [hlen])]; exact h1
      rcases Nat.lt_or_ge n' H.length with hlt | hge
      · have hRn' : R n' = some (m, c') := by rw [← g.ext n' (by rwa [hlen])]; exact h2
        rcases g.flag n' b' (by rwa [hlen]) q1 with e' | ⟨b0, e1, _, e2⟩
        · subst e'; cases q2
        · obtain ⟨b1, e3, e4, _⟩ := fzH_get e1
          cases hb0 : b0.segs? with
          | none => cases b0 <;> first | exact absurd rfl e2 | cases hb0
          | some l2 => exact h0.inj n n' l0 b1 l2 m c c' g2 e3 (by rw [← e4, hb0]) hRn hRn'
      · obtain ⟨_, q3⟩ := g.own n' b' m c' (by rwa [hlen]) q1 (by intro e'; subst e'; cases q2) h2
        obtain ⟨m', c2, hR', hh⟩ := h0.holds n _ l0 g2 rfl
        rw [hRn] at hR'; injection hR' with hR'; injection hR' with e1 _; subst e1
        rcases q3 with q3 | ⟨n0, l2, c0, e3, e4⟩
        · have := hh.lt; omega
        · have := h0.inj n0 n l2 _ l0 m c0 c (old e3 e4) g2 rfl e4 hRn
          subst this
          rcases g.flag n0 _ (by rwa [hlen]) g1 with e' | ⟨b0, e5, e6, _⟩
          · cases e'
          · rw [e3] at e5; injection e5 with e5; subst e5; cases e6
  · rcases thH_get hb with h1 | ⟨l1, l0, h1, rfl, h3⟩
    · rcases g.flag n b (by rwa [hlen]) h1 with e | ⟨b0, e1, e2, e3⟩
      · exact .inl e
      · obtain ⟨b1, e4, e5, e6⟩ := fzH_get e1
        cases b with
        | dead => exact .inl rfl
        | rw l => rw [e6 (by rw [← e2]; rfl)] at e4; exact .inr ⟨b0, e4, e2, e3⟩
        | ro l =>
          cases b1 with
          | dead => cases b0 <;> first | exact absurd rfl e3 | cases e5
          | ro l2 => exact .inr ⟨_, e4, rfl, by simp⟩
          | rw l2 =>
            exfalso
            have : (thH H H')[n]? = some (.rw l) := by
              have gen : ∀ {A B : Hp} {n : Nat} {l l2 : List Seg}, A[n]? = some (.rw l2) → B[n]? = some (.ro l) → (thH A B)[n]? = some (.rw l) := by
                intro A
                induction A with
                | nil => intro B n l l2 h; simp at h
                | cons x A ih =>
                  intro B n l l2 h h'
                  cases B with
                  | nil => simp at h'
                  | cons y B =>
                    cases n with
                    | zero => simp at h h'; subst h h'; simp [thH]
                    | succ n =>
                      have := ih (n := n) (by simpa using h) (by simpa using h')
                      cases x with
                      | dead => simpa [thH] using this
                      | ro q => simpa [thH] using this
                      | rw q => cases y <;> simpa [thH] using this
              exact gen e4 h1
            rw [this] at hb; injection hb with hb; cases hb
    · exact .inr ⟨_, h3, rfl, by simp⟩
  · rcases thH_get hb with h1 | ⟨l1, l0, h1, rfl, h3⟩
    · obtain ⟨q1, q2⟩ := g.own n b m c (by rwa [hlen]) h1 hd hR
      refine ⟨q1, ?_⟩
      rcases q2 with q2 | ⟨n0, l2, c0, e3, e4⟩
      · exact .inl q2
      · exact .inr ⟨n0, l2, c0, old e3 e4, e4⟩
    · have := (List.getElem?_eq_some_iff.1 h3).1; omega
/-- A region that draws its order: wl are those that it writes. -/
def adraw (P : Program) (D : Tab) (nt : Nat) (ops : Array Oper) (p : Pl) (s : Sl) (H : Hp) (k : Sl → Hp → Prop) : Prop :=
  ∃ wl : List Nat, fz wl 0 H fun Hf => ago P D nt ops.toList p s Hf fun s' H' => th H H' (k s')
def okDraw (ops : Array Oper) (p : Pl) : Bool :=
  Region.noSelect ops && chk ops p (Array.replicate ops.size false) none && decide (p.depth ≤ ops.size)
theorem adraw_sound {P : Program} {D : Tab} {nt : Nat} (hD : D.ok P) {id : Nat} {ops : Array Oper} {p : Pl} (hok : okDraw ops p = true) {s : Sl} {H : Hp} {Q : Exit → Sl → Hp → Prop} (h : adraw P D nt ops p s H (Q .normal)) : AW P nt (.region id ops true) Q s H := by
  simp only [okDraw, Bool.and_eq_true, decide_eq_true_eq] at hok
  obtain ⟨⟨c1, c2⟩, c3⟩ := hok
  obtain ⟨wl, h⟩ := h
  have h := fz_sound h
  intro R w a h1 h2 h3 h4
  have hf : Rep R (fzH wl 0 H) { w with drawn := w.drawn + 1 } := h4.fz.drew
  have := ago_sound hD c1 hf _ _ none c2 ops.size R (fzH wl 0 H) { w with drawn := w.drawn + 1 } a s c3 (Go.refl _ _ _) hf h3 h1 h2 h
  refine wp_mono (wp_region_held hD.mixed this) ?_
  intro e a' w' hq
  cases e with
  | normal =>
    obtain ⟨s', H', R', q, g1, g2, g3, g4, g5⟩ := hq
    have q := th_sound q
    obtain ⟨t1, t2⟩ := thaw h4 (Go.drew.trans g5) g4
    exact ⟨s', _, R', q, g1, g2, g3, t1, t2⟩
  | _ => exact hq.elim
/-- What is still to be shown of a piece of code. -/
structure AWs (P : Program) (nt : Nat) (c : Code) (Q : Exit → Sl → Hp → Prop) (s : Sl) (H : Hp) : Prop where
  run : AW P nt c Q s H
/-- What is still to be shown of a region that draws its order. -/
structure DR (P : Program) (D : Tab) (nt : Nat) (ops : Array Oper) (Q : Exit → Sl → Hp → Prop) (s : Sl) (H : Hp) : Prop where
  go : ∃ p, okDraw ops p = true ∧ adraw P D nt ops p s H (Q .normal)
theorem DR.std {P : Program} {D : Tab} {nt : Nat} {ops : Array Oper} {Q : Exit → Sl → Hp → Prop} {s : Sl} {H : Hp} (h : okDraw ops (wayT ops) = true) (g : adraw P D nt ops (wayT ops) s H (Q .normal)) : DR P D nt ops Q s H := ⟨_, h, g⟩
theorem DR.way {P : Program} {D : Tab} {nt : Nat} {ops : Array Oper} {Q : Exit → Sl → Hp → Prop} {s : Sl} {H : Hp} (l : List Nat) (h : okDraw ops (wayL ops.toList l) = true) (g : adraw P D nt ops (wayL ops.toList l) s H (Q .normal)) : DR P D nt ops Q s H := ⟨_, h, g⟩
def aw (P : Program) (D : Tab) (nt : Nat) : Code → (Exit → Sl → Hp → Prop) → Sl → Hp → Prop
  | .skip, Q, s, H => Q .normal s H
  | .region _ ops dr, Q, s, H => match dr with
    | false => aops P D nt ops.toList ops.toList s H (Q .normal)
    | true => DR P D nt ops Q s H
  | .seq a b, Q, s, H => aw P D nt a (thenQ (aw P D nt b Q) Q) s H
  | .cond c a b, Q, s, H => match ev s c with
    | some (.v (.bool t)) => cb t (aw P D nt a Q s H) (aw P D nt b Q s H)
    | _ => False
  | .block id c, Q, s, H => aw P D nt c (blockQ id Q) s H
  | .exit id, Q, s, H => Q (.exit id) s H
  | .label _, Q, s, H => Q .normal s H
  | .ret, Q, s, H => Q .ret s H
  | .loop c, Q, s, H => AWs P nt (.loop c) Q s H
  | c, Q, s, H => AWs P nt c Q s H
section
variable {P : Program} {D : Tab} {nt : Nat}
theorem thenQ_mono {K K' : Sl → Hp → Prop} {Q : Exit → Sl → Hp → Prop} (h : ∀ s H, K s H → K' s H) : ∀ e s H, thenQ K Q e s H → thenQ K' Q e s H := by
  intro e s H q
  cases e <;> first | exact h _ _ q | exact q
theorem aw_sound (hD : D.ok P) : ∀ {c : Code} {Q : Exit → Sl → Hp → Prop} {s : Sl} {H : Hp}, aw P D nt c Q s H → AW P nt c Q s H := by
  intro c
  induction c with
  | skip => intro Q s H h; exact AW_skip h
  | region id ops dr =>
    intro Q s H h
    cases dr with
    | false =>
      intro R w a h1 h2 h3 h4
      refine wp_region ?_
      have := aops_sound hD (Q := fun e a' w' => Post nt Q R H w e a' w') (i := 0) h rfl R w a h1 h2 h3 h4 (fun a' w' ⟨s', H', R', q, r⟩ => ⟨s', H', R', q, r⟩)
      simpa using this
    | true => obtain ⟨p, h1, h2⟩ := h.go; exact adraw_sound hD h1 h2
  | seq a b iha ihb => intro Q s H h; exact AW_seq ((iha h).mono (thenQ_mono fun s H h => ihb h))
  | cond c a b iha ihb =>
    intro Q s H h
    simp only [aw] at h
    split at h
    · rename_i t e
      unfold cb at h
      split at h
      · intro R w a' h1 h2 h3 h4
        have hc : a'.eval c = .bool true := ev_rel h3 e
        exact wp_cond_true hc (iha h R w a' h1 h2 h3 h4)
      · intro R w a' h1 h2 h3 h4
        have hc : a'.eval c = .bool false := ev_rel h3 e
        exact wp_cond_false hc (ihb h R w a' h1 h2 h3 h4)
    · exact h.elim
  | block id c ih => intro Q s H h; exact AW_block (ih h)
  | loop c ih => intro Q s H h; exact h.run
  | exit id => intro Q s H h; exact AW_exit h
  | label l => intro Q s H h; exact AW_label h
  | ret => intro Q s H h; exact AW_ret h
  | goto l => intro Q s H h; exact h.run
  | scope c ih => intro Q s H h; exact h.run
  | rangeFunc f ps a b => intro Q s H h; exact h.run
  | refuse y => intro Q s H h; exact h.run
/-- A function's results. -/
def res1 (D : Tab) (r : ResultVar) (s : Sl) (H : Hp) (k : AV → Prop) : Prop :=
  match r with
  | .tmp t => match get s t with
    | some v => k v
    | none => False
  | .cell t ty => aload false D.T ty (.tmp t) s H k
def resA (D : Tab) : List ResultVar → Sl → Hp → (List AV → Prop) → Prop
  | [], _, _, k => k []
  | r :: rs, s, H, k => res1 D r s H fun v => match v with
    | .v v => resA D rs s H (fun l => k (.v v :: l))
    | .agg v => resA D rs s H (fun l => k (.agg v :: l))
    | _ => False
def resK (D : Tab) (rs : List ResultVar) (s : Sl) (H : Hp) (k : AV → Prop) : Prop :=
  match rs with
  | [r] => res1 D r s H k
  | rs => resA D rs s H fun l => k (.tup l)
def resRun (a : Act) (r : ResultVar) : Sem Value :=
  match r with
  | .tmp t => pure (a.tmps.getD t undef)
  | .cell b t => do loadVar t (← asAddr (a.tmps.getD b undef))
theorem res1_sound (hD : D.ok P) {s : Sl} {H : Hp} {R : Ren} {w : World} {a : Act} (h3 : SR R s a) (h4 : Rep R H w) {r : ResultVar} {k : AV → Prop} (h : res1 D r s H k) : ∃ v x, k v ∧ (resRun a r).run P w = .ok x w ∧ AV.rel R v x := by
  unfold res1 at h
  split at h
  · rename_i t
    split at h
    · rename_i v e
      exact ⟨v, _, h, rfl, h3 t v e⟩
    · exact h.elim
  · rename_i t ty
    let o : Oper := ⟨none, .load ty (.tmp t), 0, "", #[], none⟩
    obtain ⟨v, x, hk, hv, hx⟩ := aload_sound (P := P) (o := o) hD.T rfl h R w a h3 h4
    refine ⟨v, x, hk, ?_, hv⟩
    have hx := hx w (.inl rfl)
    simp only [execOp, o, Sem.run_bind, Instr.loadAt] at hx
    simp only [resRun, Sem.run_bind]
    have e : a.eval (.tmp t) = a.tmps.getD t undef := rfl
    rw [e] at hx
    generalize a.tmps.getD t undef = q at hx
    cases q with
    | pointer b =>
      cases b with
      | some b =>
        simp only [Instr.sureAddr, asAddr, Sem.run_pure, Result.andThen_ok] at hx ⊢
        cases hq : (loadVar ty b).run P w with
        | ok y w' =>
          rw [hq] at hx
          simp only [Result.andThen_ok] at hx
          injection hx with h1 h2
          injection h1 with h1
          rw [h1, h2]
        | halt y w' => rw [hq] at hx; simp at hx
      | none => simp [Instr.sureAddr] at hx
    | _ => simp [Instr.sureAddr] at hx
theorem resA_sound (hD : D.ok P) {s : Sl} {H : Hp} {R : Ren} {w : World} {a : Act} (h3 : SR R s a) (h4 : Rep R H w) : ∀ {rs : List ResultVar} {k : List AV → Prop}, resA D rs s H k →
    ∃ vs xs, k vs ∧ (rs.mapM (resRun a)).run P w = .ok xs w ∧ relL R vs xs ∧ xs.length = rs.length
  | [], k, h => ⟨[], [], h, by simp, .nil, rfl⟩
  | r :: rs, k, h => by
    obtain ⟨v, x, h, hx, hv⟩ := res1_sound hD h3 h4 h
    have key : ∀ {v : AV} {k' : List AV → Prop}, rel1 R v x → (∀ l, k' l → k (v :: l)) → resA D rs s H k' → ∃ vs xs, k vs ∧ ((r :: rs).mapM (resRun a)).run P w = .ok xs w ∧ relL R vs xs ∧ xs.length = (r :: rs).length := by
      intro v k' hv hk h
      obtain ⟨vs, xs, h, hxs, hr, hl⟩ := resA_sound hD h3 h4 h
      refine ⟨v :: vs, x :: xs, hk _ h, ?_, .cons hv hr, by simp [hl]⟩
      rw [List.mapM_cons, Sem.run_bind, hx, Result.andThen_ok, Sem.run_bind, hxs]; rfl
    split at h
    · rename_i v; exact key (v := .v v) (k' := fun l => k (.v v :: l)) hv (fun _ h => h) h
    · rename_i v; exact key (v := .agg v) (k' := fun l => k (.agg v :: l)) hv (fun _ h => h) h
    · exact h.elim
theorem resK_sound (hD : D.ok P) {s : Sl} {H : Hp} {R : Ren} {w : World} {a : Act} (h3 : SR R s a) (h4 : Rep R H w) {fn : Func} {k : AV → Prop} (h : resK D fn.results.toList s H k) :
    ∃ v x, k v ∧ (results fn a.tmps).run P w = .ok x w ∧ AV.rel R v x := by
  have hrun : ∀ {xs : List Value}, (fn.results.toList.mapM (resRun a)).run P w = .ok xs w → (results fn a.tmps).run P w = .ok (if h : xs.toArray.size = 1 then xs.toArray[0] else .tuple xs.toArray) w := by
    intro xs hx
    unfold results
    have : (fn.results.mapM (resRun a)).run P w = .ok xs.toArray w := by
      rw [Array.mapM_eq_mapM_toList, Sem.run_map, hx]; rfl
    rw [Sem.run_bind]
    erw [this]
    rfl
  unfold resK at h
  split at h
  · rename_i r hr
    obtain ⟨v, x, hk, hx, hv⟩ := res1_sound hD h3 h4 h
    refine ⟨v, x, hk, ?_, hv⟩
    have := hrun (xs := [x]) (by rw [hr, List.mapM_cons, Sem.run_bind, hx, Result.andThen_ok, Sem.run_bind]; simp)
    simpa using this
  · rename_i hne
    obtain ⟨vs, xs, hk, hx, hr, hl⟩ := resA_sound hD h3 h4 h
    refine ⟨_, .tuple xs.toArray, hk, ?_, ⟨xs, hr, rfl⟩⟩
    rw [hrun hx, dif_neg]
    intro h1
    have := hl
    have h1' : xs.length = 1 := by simpa using h1
    match hq : fn.results.toList with
    | [] => rw [hq] at this; rw [h1'] at this; cases this
    | [r] => exact hne r hq
    | r1 :: r2 :: rs => rw [hq] at this; rw [h1'] at this; simp at this
end
def argSl : Nat → List AV → Sl
  | _, [] => []
  | i, v :: r => (i, v) :: argSl (i + 1) r
theorem argSl_get {R : Ren} : ∀ {args : List AV} {as : List Value}, relA R args as → ∀ {i t : Nat} {v : AV}, get (argSl i args) t = some v → i ≤ t ∧ ∃ x, as[t - i]? = some x ∧ AV.rel R v x := by
  intro args as h
  induction h with
  | nil => intro i t v h; simp [argSl, get] at h
  | cons a _ ih =>
    intro i t v h
    simp only [argSl, get] at h
    split at h
    · rename_i e
      have e := Nat.eq_of_beq_eq_true e
      subst e; injection h with h; subst h
      exact ⟨Nat.le_refl _, _, by simp, a⟩
    · obtain ⟨h1, x, h2, h3⟩ := ih h
      exact ⟨by omega, x, by rw [show t - i = (t - (i + 1)) + 1 by omega]; simpa using h2, h3⟩
theorem relA_len {R : Ren} {args : List AV} {as : List Value} (h : relA R args as) : args.length = as.length := by
  induction h with
  | nil => rfl
  | cons _ _ ih => simp [ih]
/-- What a body comes to. -/
def bodyQ (D : Tab) (rs : List ResultVar) (Q : AV → Hp → Prop) : Exit → Sl → Hp → Prop
  | .normal, s, H => resK D rs s H (fun v => Q v H)
  | .ret, s, H => resK D rs s H (fun v => Q v H)
  | _, _, _ => False
theorem AC.of_body {P : Program} {D : Tab} (hD : D.ok P) {f : FuncId} {fn : Func} {c : Code} {args : List AV} {H : Hp} {Q : AV → Hp → Prop} (hf : P.funcs[f]? = some fn) (hb : fn.body = some c) (hname : (fn.name == "runtime.NumGoroutine") = false) (hn : args.length ≤ fn.ntmps)
    (h : aw P D fn.ntmps c (bodyQ D fn.results.toList Q) (argSl 0 args) H) : AC P f args H Q := by
  refine ⟨⟨fn, hf, hname, by rw [hb]; rfl⟩, fun R w as ha hr => ?_⟩
  refine calls_of_wp hf hb ?_
  have hl := relA_len ha
  refine wp_mono (aw_sound hD h R w _ (by simp; omega) rfl (fun t v hv => ?_) hr) ?_
  · obtain ⟨_, x, h1, h2⟩ := argSl_get ha hv
    have hlt := (List.getElem?_eq_some_iff.1 h1).1
    have : (as.toArray ++ Array.replicate (fn.ntmps - as.toArray.size) undef).getD t undef = x := by
      rw [Array.getD_eq_getD_getElem?, Array.getElem?_append_left (by simpa using hlt)]
      simp at h1 ⊢
      rw [h1]; rfl
    rw [this]; exact h2
  · rintro e a' w' ⟨s', H', R', q, g1, g2, g3, g4, g5⟩
    have fin : resK D fn.results.toList s' H' (fun v => Q v H') → a'.defers = [] ∧ ∃ v, (results fn a'.tmps).run P w' = .ok v w' ∧ ∃ v1 x H'' R'', Q v1 H'' ∧ Ending.returned v = .returned x ∧ AV.rel R'' v1 x ∧ Rep R'' H'' w' ∧ Go R H w R'' H'' w' := by
      intro q
      obtain ⟨v, x, hk, hx, hv⟩ := resK_sound hD g3 g4 q
      exact ⟨g2, x, hx, v, x, H', R', hk, rfl, hv, g4, g5⟩
    cases e with
    | normal => exact fin q
    | ret => exact fin q
    | _ => exact q.elim
/-- A loop, by aw: what holds ahead of each round, by a name x; each round lowers a measure. -/
theorem aw_loop {P : Program} {D : Tab} (hD : D.ok P) {nt : Nat} {α : Type} {c : Code} {Q : Exit → Sl → Hp → Prop} {s : Sl} {H : Hp} (S : α → Sl) (HH : α → Hp) (inv : α → Prop) (mu : α → Nat) (x0 : α) (hs : subs (S x0) s) (hH : H = HH x0) (h0 : inv x0)
    (round : ∀ x, inv x → aw P D nt c (roundQ S HH inv mu Q x) (S x) (HH x)) : AWs P nt (.loop c) Q s H :=
  ⟨AW_loop S HH inv mu x0 hs hH h0 fun x hx => aw_sound hD (round x hx)⟩
/-- Names below n alone. -/
def V.inR (n : Nat) : V → Prop
  | .ptr m _ _ _ => m < n
  | .sl m _ _ _ _ => m < n
  | .if1 _ x => x.inR n
  | .if2 _ x y => x.inR n ∧ y.inR n
  | .fn1 _ x => x.inR n
  | _ => True
def Seg.inR (n : Nat) : Seg → Prop
  | .one v => v.inR n
  | .ints _ _ _ => True
  | .recs _ c f => ∀ i, i < c → ∀ v ∈ f i, v.inR n
def segsIn (n : Nat) : List Seg → Prop
  | [] => True
  | s :: r => s.inR n ∧ segsIn n r
def AV.in1 (n : Nat) : AV → Prop
  | .v x => x.inR n
  | .agg l => segsIn n l
  | .tup _ => True
  | .any => True
def avsIn (n : Nat) : List AV → Prop
  | [] => True
  | v :: r => v.in1 n ∧ avsIn n r
def AV.inR (n : Nat) : AV → Prop
  | .v x => x.inR n
  | .agg l => segsIn n l
  | .tup l => avsIn n l
  | .any => True
def hpIn (n : Nat) : Hp → Prop
  | [] => True
  | .dead :: r => hpIn n r
  | .rw l :: r => segsIn n l ∧ hpIn n r
  | .ro l :: r => segsIn n l ∧ hpIn n r
def Ren.cut (R : Ren) (n : Nat) : Ren := fun m => if m < n then R m else none
theorem V.rel_cut {R : Ren} {n : Nat} : ∀ {v : V} {x : Value}, v.inR n → v.rel R x → v.rel (R.cut n) x
  | .bool _, _, _, e | .int _ _, _, _, e | .str _, _, _, e | .nilP, _, _, e | .nilS, _, _, e | .nilI, _, _, e | .nilF, _, _, e | .fn0 _, _, _, e => e
  | .bad, _, _, e => e
  | .ptr m _ _ _, _, h, ⟨b, c, h1, h2⟩ => ⟨b, c, by simp [Ren.cut, show m < n from h, h1], h2⟩
  | .sl m _ _ _ _, _, h, ⟨b, c, h1, h2⟩ => ⟨b, c, by simp [Ren.cut, show m < n from h, h1], h2⟩
  | .if1 _ _, _, h, ⟨y, h1, h2⟩ => ⟨y, V.rel_cut h h1, h2⟩
  | .if2 _ _ _, _, h, ⟨y, z, h1, h2, h3⟩ => ⟨y, z, V.rel_cut h.1 h1, V.rel_cut h.2 h2, h3⟩
  | .fn1 _ _, _, h, ⟨y, h1, h2⟩ => ⟨y, V.rel_cut h h1, h2⟩
theorem rels_cut {R : Ren} {n : Nat} {l : List V} {xs : List Value} (h : rels R l xs) : (∀ v ∈ l, v.inR n) → rels (R.cut n) l xs := by
  induction h with
  | nil => intro _; exact .nil
  | cons a _ ih => intro hl; exact .cons (V.rel_cut (hl _ (List.mem_cons_self ..)) a) (ih fun v hv => hl v (List.mem_cons_of_mem _ hv))
theorem segsIn_mem {n : Nat} : ∀ {l : List Seg}, segsIn n l → ∀ v ∈ flat l, v.inR n
  | [], _, v, hv => by simp [flat] at hv
  | s :: r, ⟨h1, h2⟩, v, hv => by
    rw [flat_cons, List.mem_append] at hv
    rcases hv with hv | hv
    · cases s with
      | one x => simp [Seg.flat] at hv; subst hv; exact h1
      | ints k c l => simp [Seg.flat] at hv; obtain ⟨q, _, rfl⟩ := hv; trivial
      | recs st c f =>
        simp [Seg.flat] at hv
        obtain ⟨i, hi, hv⟩ := hv
        exact h1 i hi v hv
    · exact segsIn_mem h2 v hv
theorem rel1_cut {R : Ren} {n : Nat} : ∀ {v : AV} {x : Value}, v.in1 n → rel1 R v x → rel1 (R.cut n) v x
  | .v _, _, h, e => V.rel_cut (by simpa [AV.in1] using h) e
  | .agg _, _, h, ⟨o, cs, k, e⟩ => ⟨o, cs, rels_cut k (segsIn_mem (by simpa [AV.in1] using h)), e⟩
  | .any, _, _, e => e
theorem relL_cut {R : Ren} {n : Nat} {l : List AV} {xs : List Value} (h : relL R l xs) : avsIn n l → relL (R.cut n) l xs := by
  induction h with
  | nil => intro _; exact .nil
  | cons a _ ih => intro hl; simp only [avsIn] at hl; exact .cons (rel1_cut hl.1 a) (ih hl.2)
theorem AV.rel_cut {R : Ren} {n : Nat} : ∀ {v : AV} {x : Value}, v.inR n → v.rel R x → v.rel (R.cut n) x
  | .v _, _, h, e => V.rel_cut (by simpa [AV.inR] using h) e
  | .agg _, _, h, ⟨o, cs, k, e⟩ => ⟨o, cs, rels_cut k (segsIn_mem (by simpa [AV.inR] using h)), e⟩
  | .tup _, _, h, ⟨ys, k, e⟩ => ⟨ys, relL_cut k (by simpa [AV.inR] using h), e⟩
  | .any, _, _, e => e
theorem hpIn_get {n : Nat} : ∀ {H : Hp}, hpIn n H → ∀ {i : Nat} {b : Blk} {l : List Seg}, H[i]? = some b → b.segs? = some l → segsIn n l
  | [], _, i, b, l, h, _ => by simp at h
  | x :: r, hh, i, b, l, h, hs => by
    cases i with
    | zero =>
      simp at h; subst h
      cases x with
      | dead => cases hs
      | rw q => injection hs with hs; subst hs; exact hh.1
      | ro q => injection hs with hs; subst hs; exact hh.1
    | succ i =>
      have hr : hpIn n r := by cases x <;> first | exact hh | exact hh.2
      exact hpIn_get hr (by simpa using h) hs
/-- What a function made is let go. -/
theorem AC.clean {P : Program} {f : FuncId} {args : List AV} {H : Hp} {Q : AV → Hp → Prop} {n : Nat} (hn : H.length = n) (h : AC P f args H fun v H' => v.inR n ∧ hpIn n (H'.take n) ∧ Q v (H'.take n)) : AC P f args H Q := by
  subst hn
  refine ⟨h.enter, fun R w as h1 h2 => (h.run R w as h1 h2).mono ?_⟩
  rintro e w' ⟨v, x, H', R', ⟨q1, q2, q3⟩, rfl, hv, hr, g⟩
  have hlen : (H'.take H.length).length = H.length := by have := g.len; simp; omega
  have hget : ∀ {i : Nat} {b : Blk}, (H'.take H.length)[i]? = some b → i < H.length ∧ H'[i]? = some b := by
    intro i b hi
    have := (List.getElem?_eq_some_iff.1 hi).1
    rw [hlen] at this
    rw [List.getElem?_take, if_pos this] at hi
    exact ⟨this, hi⟩
  have ht : GTok (R'.cut H.length) (H'.take H.length) w' := by
    intro x hx
    obtain ⟨h1, h2⟩ := hr.tab x hx
    refine ⟨h1, fun i l c hi hR => ?_⟩
    obtain ⟨hlt, hi⟩ := hget hi
    simp only [Ren.cut, hlt, if_true] at hR
    exact h2 i l c hi hR
  refine ⟨v, x, H'.take H.length, R'.cut H.length, q3, rfl, AV.rel_cut q1 hv, ⟨ht, fun i b l hi hs => ?_, fun i hi => ?_, fun i l m c hi hR => ?_, fun i i' l b l' m c c' hi hi' hs h1 h2 => ?_⟩, ⟨by rw [hlen]; exact Nat.le_refl _, fun i hi => ?_, g.os, g.tape, g.output, g.size, g.frame, fun i b hi hb => g.flag i b hi (hget hb).2, fun i b m c hi hb _ _ => ?_⟩⟩
  · obtain ⟨hlt, hi'⟩ := hget hi
    obtain ⟨m, c, h1, o, cs, ty, fr, pre, xs, rest, a1, a2, a3, a4, a5⟩ := hr.holds i b l hi' hs
    exact ⟨m, c, by simp [Ren.cut, hlt, h1], o, cs, ty, fr, pre, xs, rest, a1, a2, a3, rels_cut a4 (segsIn_mem (hpIn_get q2 hi hs)), a5⟩
  · rw [hlen] at hi
    simp [Ren.cut]; omega
  · obtain ⟨hlt, hi⟩ := hget hi
    simp only [Ren.cut, hlt, if_true] at hR
    exact hr.own i l m c hi hR
  · obtain ⟨hlt, hi⟩ := hget hi
    obtain ⟨hlt', hi'⟩ := hget hi'
    simp only [Ren.cut, hlt, hlt', if_true] at h1 h2
    exact hr.inj i i' l b l' m c c' hi hi' hs h1 h2
  · rw [← g.ext i hi]; simp [Ren.cut, hi]
  · have := (hget hb).1; omega
/-- Other names. -/
def nthN : List Nat → Nat → Option Nat
  | [], _ => none
  | x :: _, 0 => some x
  | _ :: r, n + 1 => nthN r n
theorem nthN_eq : ∀ (l : List Nat) (n : Nat), nthN l n = l[n]?
  | [], n => by simp [nthN]
  | b :: r, 0 => by simp [nthN]
  | b :: r, n + 1 => by simp [nthN, nthN_eq r n]
def V.ren (σ : List Nat) : V → V
  | .ptr n b i st => match nthN σ n with
    | some m => .ptr m b i st
    | none => .bad
  | .sl n b i len es => match nthN σ n with
    | some m => .sl m b i len es
    | none => .bad
  | .if1 t x => .if1 t (x.ren σ)
  | .if2 t x y => .if2 t (x.ren σ) (y.ren σ)
  | .fn1 f x => .fn1 f (x.ren σ)
  | v => v
def Seg.ren (σ : List Nat) : Seg → Seg
  | .one v => .one (v.ren σ)
  | .ints k n l => .ints k n l
  | .recs st n f => .recs st n (fun i => (f i).map (V.ren σ))
def rensS (σ : List Nat) : List Seg → List Seg
  | [] => []
  | s :: r => s.ren σ :: rensS σ r
def AV.ren1 (σ : List Nat) : AV → AV
  | .v x => .v (x.ren σ)
  | .agg l => .agg (rensS σ l)
  | .tup l => .tup l
  | .any => .any
def rens1 (σ : List Nat) : List AV → List AV
  | [] => []
  | v :: r => v.ren1 σ :: rens1 σ r
def AV.ren (σ : List Nat) : AV → AV
  | .v x => .v (x.ren σ)
  | .agg l => .agg (rensS σ l)
  | .tup l => .tup (rens1 σ l)
  | .any => .any
def rensA (σ : List Nat) : List AV → List AV
  | [] => []
  | v :: r => v.ren σ :: rensA σ r
def Ren.via (R : Ren) (σ : List Nat) : Ren := fun n => match nthN σ n with
  | some m => R m
  | none => none
theorem V.ren_of {R : Ren} {σ : List Nat} : ∀ {v : V} {x : Value}, (v.ren σ).rel R x → v.rel (R.via σ) x
  | .bool _, _, e | .int _ _, _, e | .str _, _, e | .nilP, _, e | .nilS, _, e | .nilI, _, e | .nilF, _, e | .fn0 _, _, e => e
  | .bad, _, e => e
  | .ptr n _ _ _, _, e => by
    simp only [V.ren] at e
    split at e
    · rename_i m hm
      obtain ⟨b, c, h1, h2⟩ := e
      exact ⟨b, c, by simp only [Ren.via, hm]; exact h1, h2⟩
    · exact e.elim
  | .sl n _ _ _ _, _, e => by
    simp only [V.ren] at e
    split at e
    · rename_i m hm
      obtain ⟨b, c, h1, h2⟩ := e
      exact ⟨b, c, by simp only [Ren.via, hm]; exact h1, h2⟩
    · exact e.elim
  | .if1 _ _, _, ⟨y, h1, h2⟩ => ⟨y, V.ren_of h1, h2⟩
  | .if2 _ _ _, _, ⟨y, z, h1, h2, h3⟩ => ⟨y, z, V.ren_of h1, V.ren_of h2, h3⟩
  | .fn1 _ _, _, ⟨y, h1, h2⟩ => ⟨y, V.ren_of h1, h2⟩
theorem V.ren_to {R : Ren} {σ : List Nat} : ∀ {v : V} {x : Value}, v.rel (R.via σ) x → (v.ren σ).rel R x
  | .bool _, _, e | .int _ _, _, e | .str _, _, e | .nilP, _, e | .nilS, _, e | .nilI, _, e | .nilF, _, e | .fn0 _, _, e => e
  | .bad, _, e => e
  | .ptr n _ _ _, _, ⟨b, c, h1, h2⟩ => by
    simp only [Ren.via] at h1
    split at h1
    · rename_i m hm
      simp only [V.ren, hm]
      exact ⟨b, c, h1, h2⟩
    · cases h1
  | .sl n _ _ _ _, _, ⟨b, c, h1, h2⟩ => by
    simp only [Ren.via] at h1
    split at h1
    · rename_i m hm
      simp only [V.ren, hm]
      exact ⟨b, c, h1, h2⟩
    · cases h1
  | .if1 _ _, _, ⟨y, h1, h2⟩ => ⟨y, V.ren_to h1, h2⟩
  | .if2 _ _ _, _, ⟨y, z, h1, h2, h3⟩ => ⟨y, z, V.ren_to h1, V.ren_to h2, h3⟩
  | .fn1 _ _, _, ⟨y, h1, h2⟩ => ⟨y, V.ren_to h1, h2⟩
theorem flat_ren (σ : List Nat) : ∀ l : List Seg, flat (rensS σ l) = (flat l).map (V.ren σ)
  | [] => rfl
  | s :: r => by
    rw [rensS, flat_cons, flat_cons, flat_ren σ r, List.map_append]
    congr 1
    cases s with
    | one v => rfl
    | ints k n l => simp [Seg.ren, Seg.flat, V.ren]
    | recs st n f => simp [Seg.ren, Seg.flat, List.map_flatMap]
theorem oks_ren {σ : List Nat} : ∀ {l : List Seg}, oks (rensS σ l) ↔ oks l
  | [] => Iff.rfl
  | s :: r => by
    have ih := oks_ren (σ := σ) (l := r)
    have hs : (s.ren σ).ok ↔ s.ok := by
      cases s with
      | one v => exact Iff.rfl
      | ints k n l => exact Iff.rfl
      | recs st n f => simp [Seg.ren, Seg.ok]
    constructor
    · intro h
      exact oks_cons (hs.1 (h _ (List.mem_cons_self ..))) (ih.1 fun x hx => h x (List.mem_cons_of_mem _ hx))
    · intro h
      exact oks_cons (hs.2 (h _ (List.mem_cons_self ..))) (ih.2 fun x hx => h x (List.mem_cons_of_mem _ hx))
theorem rels_ren_of {R : Ren} {σ : List Nat} : ∀ {l : List V} {xs : List Value}, rels R (l.map (V.ren σ)) xs → rels (R.via σ) l xs
  | [], _, h => by cases h; exact .nil
  | v :: l, _, h => by cases h with | cons a b => exact .cons (V.ren_of a) (rels_ren_of b)
theorem rels_ren_to {R : Ren} {σ : List Nat} {l : List V} {xs : List Value} (h : rels (R.via σ) l xs) : rels R (l.map (V.ren σ)) xs := by
  induction h with
  | nil => exact .nil
  | cons a _ ih => exact .cons (V.ren_to a) ih
theorem rel1_ren_of {R : Ren} {σ : List Nat} : ∀ {v : AV} {x : Value}, rel1 R (v.ren1 σ) x → rel1 (R.via σ) v x
  | .v _, _, e => V.ren_of e
  | .agg l, _, ⟨o, cs, k, e⟩ => ⟨oks_ren.1 o, cs, rels_ren_of (by rwa [flat_ren] at k), e⟩
  | .tup _, _, e => e
  | .any, _, e => e
theorem rel1_ren_to {R : Ren} {σ : List Nat} : ∀ {v : AV} {x : Value}, rel1 (R.via σ) v x → rel1 R (v.ren1 σ) x
  | .v _, _, e => V.ren_to e
  | .agg l, _, ⟨o, cs, k, e⟩ => ⟨oks_ren.2 o, cs, by rw [flat_ren]; exact rels_ren_to k, e⟩
  | .tup _, _, e => e
  | .any, _, e => e
theorem relL_ren_of {R : Ren} {σ : List Nat} : ∀ {l : List AV} {xs : List Value}, relL R (rens1 σ l) xs → relL (R.via σ) l xs
  | [], _, h => by cases h; exact .nil
  | v :: l, _, h => by simp only [rens1] at h; cases h with | cons a b => exact .cons (rel1_ren_of a) (relL_ren_of b)
theorem relL_ren_to {R : Ren} {σ : List Nat} {l : List AV} {xs : List Value} (h : relL (R.via σ) l xs) : relL R (rens1 σ l) xs := by
  induction h with
  | nil => exact .nil
  | cons a _ ih => exact .cons (rel1_ren_to a) ih
theorem AV.ren_of {R : Ren} {σ : List Nat} : ∀ {v : AV} {x : Value}, AV.rel R (v.ren σ) x → AV.rel (R.via σ) v x
  | .v _, _, e => V.ren_of e
  | .agg l, _, e => rel1_ren_of (v := .agg l) e
  | .tup _, _, ⟨ys, k, e⟩ => ⟨ys, relL_ren_of k, e⟩
  | .any, _, e => e
theorem AV.ren_to {R : Ren} {σ : List Nat} : ∀ {v : AV} {x : Value}, AV.rel (R.via σ) v x → AV.rel R (v.ren σ) x
  | .v _, _, e => V.ren_to e
  | .agg l, _, e => rel1_ren_to (v := .agg l) e
  | .tup _, _, ⟨ys, k, e⟩ => ⟨ys, relL_ren_to k, e⟩
  | .any, _, e => e
theorem relA_ren_of {R : Ren} {σ : List Nat} : ∀ {l : List AV} {xs : List Value}, relA R (rensA σ l) xs → relA (R.via σ) l xs
  | [], _, h => by cases h; exact .nil
  | v :: l, _, h => by simp only [rensA] at h; cases h with | cons a b => exact .cons (AV.ren_of a) (relA_ren_of b)
/-- The blocks of the one are, under other names, among the other's. -/
def fits (σ : List Nat) (G : Hp) : Hp → List Nat → Prop
  | [], [] => True
  | .dead :: H, _ :: ns => fits σ G H ns
  | .rw l :: H, n :: ns => lk G n = some (.rw (rensS σ l)) ∧ fits σ G H ns
  | .ro l :: H, n :: ns => (lk G n = some (.rw (rensS σ l)) ∨ lk G n = some (.ro (rensS σ l))) ∧ fits σ G H ns
  | _, _ => False
def Blk.ren (σ : List Nat) : Blk → Blk
  | .dead => .dead
  | .rw l => .rw (rensS σ l)
  | .ro l => .ro (rensS σ l)
/-- What became of the blocks, there. -/
def embP (σ : List Nat) : Hp → Hp → List Nat → Hp → Hp
  | .rw _ :: H, b :: H', n :: ns, G => embP σ H H' ns (G.set n (b.ren σ))
  | .ro _ :: H, _ :: H', _ :: ns, G => embP σ H H' ns G
  | .dead :: H, _ :: H', _ :: ns, G => embP σ H H' ns G
  | [], H', [], G => G ++ H'.map (Blk.ren σ)
  | _, _, _, G => G
theorem embP_spec {σ : List Nat} : ∀ {H H' : Hp} {ns : List Nat} {G : Hp}, H.length ≤ H'.length → ns.length = H.length → ns.Nodup → (∀ n ∈ ns, n < G.length) →
    (embP σ H H' ns G).length = G.length + (H'.length - H.length) ∧
    (∀ (i : Nat) (l : List Seg) (n : Nat), H[i]? = some (.rw l) → ns[i]? = some n → (embP σ H H' ns G)[n]? = (H'[i]?).map (Blk.ren σ)) ∧
    (∀ (n : Nat), n < G.length → (∀ (i : Nat) (l : List Seg), H[i]? = some (.rw l) → ns[i]? ≠ some n) → (embP σ H H' ns G)[n]? = G[n]?) ∧
    (∀ k, (embP σ H H' ns G)[G.length + k]? = (H'[H.length + k]?).map (Blk.ren σ))
  | [], H', ns, G, h1, h2, h3, h4 => by
    obtain rfl := List.length_eq_zero_iff.1 h2
    refine ⟨by simp [embP], by simp, fun n hn _ => by simp only [embP]; rw [List.getElem?_append_left hn], fun k => ?_⟩
    simp only [embP]
    rw [List.getElem?_append_right (by omega)]
    simp
  | x :: H, [], ns, G, h1, h2, h3, h4 => by simp at h1
  | x :: H, b :: H', [], G, h1, h2, h3, h4 => by simp at h2
  | x :: H, b :: H', m :: ns, G, h1, h2, h3, h4 => by
    have a1 : H.length ≤ H'.length := by simpa using h1
    have a2 : ns.length = H.length := by simpa using h2
    have a3 := List.nodup_cons.1 h3
    cases x with
    | rw l0 =>
      obtain ⟨e1, e2, e3, e4⟩ := embP_spec (σ := σ) (H := H) (H' := H') (ns := ns) (G := G.set m (b.ren σ)) a1 a2 a3.2 (fun n hn => by simpa using h4 n (List.mem_cons_of_mem _ hn))
      have hm := h4 m (List.mem_cons_self ..)
      refine ⟨by simp only [embP]; rw [e1]; simp, fun i l n hi hn => ?_, fun n hn hu => ?_, fun k => ?_⟩
      · cases i with
        | zero =>
          simp at hn; subst hn
          simp only [embP]
          rw [e3 m (by simpa using hm) (fun i l _ hq => a3.1 (List.mem_of_getElem? hq))]
          simp [hm]
        | succ i => simp only [embP]; simpa using e2 i l n (by simpa using hi) (by simpa using hn)
      · simp only [embP]
        rw [e3 n (by simpa using hn) (fun i l hi hq => hu (i + 1) l (by simpa using hi) (by simpa using hq))]
        rw [List.getElem?_set_ne]
        intro e
        exact hu 0 l0 rfl (by simp [e])
      · have := e4 k
        simp only [List.length_set] at this
        simp only [embP]
        rw [this, List.length_cons, show H.length + 1 + k = (H.length + k) + 1 by omega]; simp
    | ro l0 =>
      obtain ⟨e1, e2, e3, e4⟩ := embP_spec (σ := σ) (H := H) (H' := H') (ns := ns) (G := G) a1 a2 a3.2 (fun n hn => h4 n (List.mem_cons_of_mem _ hn))
      refine ⟨by simp only [embP]; rw [e1]; simp, fun i l n hi hn => ?_, fun n hn hu => ?_, fun k => ?_⟩
      · cases i with
        | zero => simp at hi
        | succ i => simp only [embP]; simpa using e2 i l n (by simpa using hi) (by simpa using hn)
      · simp only [embP]
        exact e3 n hn (fun i l hi hq => hu (i + 1) l (by simpa using hi) (by simpa using hq))
      · simp only [embP]
        rw [e4 k, List.length_cons, show H.length + 1 + k = (H.length + k) + 1 by omega]; simp
    | dead =>
      obtain ⟨e1, e2, e3, e4⟩ := embP_spec (σ := σ) (H := H) (H' := H') (ns := ns) (G := G) a1 a2 a3.2 (fun n hn => h4 n (List.mem_cons_of_mem _ hn))
      refine ⟨by simp only [embP]; rw [e1]; simp, fun i l n hi hn => ?_, fun n hn hu => ?_, fun k => ?_⟩
      · cases i with
        | zero => simp at hi
        | succ i => simp only [embP]; simpa using e2 i l n (by simpa using hi) (by simpa using hn)
      · simp only [embP]
        exact e3 n hn (fun i l hi hq => hu (i + 1) l (by simpa using hi) (by simpa using hq))
      · simp only [embP]
        rw [e4 k, List.length_cons, show H.length + 1 + k = (H.length + k) + 1 by omega]; simp
theorem fits_get {σ : List Nat} {G : Hp} : ∀ {H : Hp} {ns : List Nat}, fits σ G H ns → ns.length = H.length ∧ ∀ (i : Nat) (b : Blk) (l : List Seg), H[i]? = some b → b.segs? = some l → ∃ n b', ns[i]? = some n ∧ G[n]? = some b' ∧ b'.segs? = some (rensS σ l) ∧ (b.isRw = true → b' = .rw (rensS σ l))
  | [], [], _ => ⟨rfl, fun i b l h => by simp at h⟩
  | [], _ :: _, h => h.elim
  | .dead :: H, [], h => h.elim
  | .rw _ :: H, [], h => h.elim
  | .ro _ :: H, [], h => h.elim
  | .dead :: H, n :: ns, h => by
    obtain ⟨h1, h2⟩ := fits_get (H := H) (ns := ns) h
    refine ⟨by simp [h1], fun i b l hi hs => ?_⟩
    cases i with
    | zero => simp at hi; subst hi; cases hs
    | succ i => simpa using h2 i b l (by simpa using hi) hs
  | .rw q :: H, n :: ns, h => by
    obtain ⟨h1, h2⟩ := fits_get (H := H) (ns := ns) h.2
    refine ⟨by simp [h1], fun i b l hi hs => ?_⟩
    cases i with
    | zero =>
      simp at hi; subst hi; injection hs with hs; subst hs
      exact ⟨n, _, rfl, by rw [← lk_eq]; exact h.1, rfl, fun _ => rfl⟩
    | succ i => simpa using h2 i b l (by simpa using hi) hs
  | .ro q :: H, n :: ns, h => by
    obtain ⟨h1, h2⟩ := fits_get (H := H) (ns := ns) h.2
    refine ⟨by simp [h1], fun i b l hi hs => ?_⟩
    cases i with
    | zero =>
      simp at hi; subst hi; injection hs with hs; subst hs
      rcases h.1 with h | h
      · exact ⟨n, _, rfl, by rw [← lk_eq]; exact h, rfl, fun h => by cases h⟩
      · exact ⟨n, _, rfl, by rw [← lk_eq]; exact h, rfl, fun h => by cases h⟩
    | succ i => simpa using h2 i b l (by simpa using hi) hs
theorem Holds.ren_of {R : Ren} {σ : List Nat} {w : World} {l : List Seg} {m : Nat} {c : Nat × Nat} (h : Holds R w (rensS σ l) m c) : Holds (R.via σ) w l m c := by
  obtain ⟨o, cs, ty, fr, pre, xs, rest, a1, a2, a3, a4, a5⟩ := h
  rw [flat_ren] at a4 a5
  exact ⟨oks_ren.1 o, cs, ty, fr, pre, xs, rest, a1, a2, a3, rels_ren_of a4, by simpa using a5⟩
theorem Holds.ren_to {R : Ren} {σ : List Nat} {w : World} {l : List Seg} {m : Nat} {c : Nat × Nat} (h : Holds (R.via σ) w l m c) : Holds R w (rensS σ l) m c := by
  obtain ⟨o, cs, ty, fr, pre, xs, rest, a1, a2, a3, a4, a5⟩ := h
  exact ⟨oks_ren.2 o, cs, ty, fr, pre, xs, rest, a1, a2, a3, by rw [flat_ren]; exact rels_ren_to a4, by rw [flat_ren]; simpa using a5⟩
theorem Blk.ren_rw {σ : List Nat} {b : Blk} {l : List Seg} (h : b.ren σ = .rw l) : ∃ l0, b = .rw l0 ∧ l = rensS σ l0 := by
  cases b with
  | rw l0 => injection h with h; exact ⟨l0, rfl, h.symm⟩
  | dead => cases h
  | ro l0 => cases h
theorem Blk.ren_live {σ : List Nat} {b : Blk} {l : List Seg} (h : (b.ren σ).segs? = some l) : ∃ l0, b.segs? = some l0 ∧ l = rensS σ l0 := by
  cases b with
  | dead => cases h
  | rw l0 => injection h with h; exact ⟨l0, rfl, h.symm⟩
  | ro l0 => injection h with h; exact ⟨l0, rfl, h.symm⟩
theorem Blk.ren_dead {σ : List Nat} {b : Blk} (h : b.ren σ ≠ .dead) : b ≠ .dead := fun e => h (by rw [e]; rfl)
theorem Blk.ren_isRw {σ : List Nat} {b : Blk} : (b.ren σ).isRw = b.isRw := by cases b <;> rfl
/-- A contract, where there are more blocks, under other names. -/
theorem AC.embed {P : Program} {f : FuncId} {args : List AV} {H : Hp} {Q : AV → Hp → Prop} (h : AC P f args H Q) (ns : List Nat) {G : Hp} (hns : ns.Nodup) (hlt : ∀ n ∈ ns, n < G.length) (hf : fits ns G H ns) :
    AC P f (rensA ns args) G fun v G' => ∃ v0 H', Q v0 H' ∧ H.length ≤ H'.length ∧ v = v0.ren (ns ++ List.range' G.length (H'.length - H.length)) ∧ G' = embP (ns ++ List.range' G.length (H'.length - H.length)) H H' ns G := by
  refine ⟨h.enter, fun R w as ha hr => ?_⟩
  obtain ⟨hnl, hfit⟩ := fits_get hf
  have hrH : Rep (R.via ns) H w := by
    have ht : GTok (R.via ns) H w := by
      intro x hx
      obtain ⟨h1, h2⟩ := hr.tab x hx
      refine ⟨h1, fun i l c hi hR => ?_⟩
      obtain ⟨n, b', e1, e2, e3, e6⟩ := hfit i _ l hi rfl
      simp only [Ren.via, nthN_eq, e1] at hR
      rw [e6 rfl] at e2
      exact h2 n _ c e2 hR
    refine ⟨ht, fun i b l hi hs => ?_, fun i hi => ?_, fun i l m c hi hR => ?_, fun i i' l b l' m c c' hi hi' hs h1 h2 => ?_⟩
    · obtain ⟨n, b', e1, e2, e3, _⟩ := hfit i b l hi hs
      obtain ⟨m, c, e4, e5⟩ := hr.holds n b' _ e2 e3
      exact ⟨m, c, by simp only [Ren.via, nthN_eq, e1]; exact e4, e5.ren_of⟩
    · simp only [Ren.via, nthN_eq]
      rw [List.getElem?_eq_none (by omega)]
    · obtain ⟨n, b', e1, e2, e3, e6⟩ := hfit i _ l hi rfl
      simp only [Ren.via, nthN_eq, e1] at hR
      rw [e6 rfl] at e2
      exact hr.own n _ m c e2 hR
    · obtain ⟨n, b1, e1, e2, e3, e6⟩ := hfit i _ l hi rfl
      obtain ⟨n', b2, e1', e2', e3', _⟩ := hfit i' b l' hi' hs
      simp only [Ren.via, nthN_eq, e1] at h1
      simp only [Ren.via, nthN_eq, e1'] at h2
      rw [e6 rfl] at e2
      have := hr.inj n n' _ b2 _ m c c' e2 e2' e3' h1 h2
      subst this
      exact (List.getElem?_inj (List.getElem?_eq_some_iff.1 e1).1 hns).1 (e1.trans e1'.symm)
  refine (h.run (R.via ns) w as (relA_ren_of ha) hrH).mono ?_
  rintro e w' ⟨v, x, H', R1, q, rfl, hv, hr1, g⟩
  generalize hσ : ns ++ List.range' G.length (H'.length - H.length) = σ
  obtain ⟨p1, p2, p3, p4⟩ := embP_spec (σ := σ) (G := G) g.len hnl hns hlt
  generalize hG : embP σ H H' ns G = G' at p1 p2 p3 p4
  let R' : Ren := fun n => if n < G.length then R n else R1 (H.length + (n - G.length))
  have hσl : ∀ i, i < H.length → nthN σ i = ns[i]? := by
    intro i hi
    rw [nthN_eq, ← hσ, List.getElem?_append_left (by omega)]
  have hσr : ∀ i, H.length ≤ i → i < H'.length → nthN σ i = some (G.length + (i - H.length)) := by
    intro i hi hi2
    rw [nthN_eq, ← hσ, List.getElem?_append_right (by omega), hnl, List.getElem?_range' (by omega)]
    simp
  have hvia : R'.via σ = R1 := by
    funext i
    rcases Nat.lt_or_ge i H.length with hi | hi
    · have e := g.ext i hi
      rw [e]
      simp only [Ren.via]
      rw [hσl i hi, nthN_eq]
      have hin : ns[i]? = some ns[i] := List.getElem?_eq_getElem (by omega)
      rw [hin]
      simp only [R']
      rw [if_pos (hlt _ (List.getElem_mem ..))]
    · rcases Nat.lt_or_ge i H'.length with hi2 | hi2
      · simp only [Ren.via]
        rw [hσr i hi hi2]
        simp only [R']
        rw [if_neg (by omega)]
        congr 1; omega
      · rw [hr1.dom i hi2]
        simp only [Ren.via, nthN_eq]
        rw [List.getElem?_eq_none (by rw [← hσ]; simp; have := g.len; omega)]
  have hmono : ∀ n x, R n = some x → R' n = some x := by
    intro n x hx
    simp only [R']
    split
    · exact hx
    · rename_i hn; rw [hr.dom n (by omega)] at hx; cases hx
  -- touched names
  have touched : ∀ n, (∃ (i : Nat) (l : List Seg), H[i]? = some (.rw l) ∧ ns[i]? = some n) ∨ (∀ (i : Nat) (l : List Seg), H[i]? = some (.rw l) → ns[i]? ≠ some n) := by
    intro n
    by_cases ht : ∃ (i : Nat) (l : List Seg), H[i]? = some (.rw l) ∧ ns[i]? = some n
    · exact .inl ht
    · exact .inr fun i l h1 h2 => ht ⟨i, l, h1, h2⟩
  have rwG : ∀ {i : Nat} {l : List Seg} {m : Nat} {c : Nat × Nat}, H[i]? = some (.rw l) → (R.via ns) i = some (m, c) → ∃ n, ns[i]? = some n ∧ G[n]? = some (.rw (rensS ns l)) ∧ R n = some (m, c) := by
    intro i l m c hi hR
    obtain ⟨n, b', e1, e2, e3, e6⟩ := hfit i _ l hi rfl
    simp only [Ren.via, nthN_eq, e1] at hR
    exact ⟨n, e1, by rw [e6 rfl] at e2; exact e2, hR⟩
  -- what G' is made of
  have cases' : ∀ {n : Nat} {b : Blk}, G'[n]? = some b → (∃ (i : Nat) (b0 : Blk), H'[i]? = some b0 ∧ b = b0.ren σ ∧ R' n = R1 i ∧ ((i < H.length ∧ n < G.length ∧ ns[i]? = some n ∧ ∃ l : List Seg, H[i]? = some (.rw l)) ∨ (H.length ≤ i ∧ n = G.length + (i - H.length)))) ∨
      (n < G.length ∧ G[n]? = some b ∧ R' n = R n ∧ ∀ (i : Nat) (l : List Seg), H[i]? = some (.rw l) → ns[i]? ≠ some n) := by
    intro n b hb
    rcases Nat.lt_or_ge n G.length with hn | hn
    · have hRn : R' n = R n := by simp only [R']; rw [if_pos hn]
      rcases touched n with ⟨i, l, h1, h2⟩ | hu
      · have := p2 i l n h1 h2
        rw [hb] at this
        have hil : i < H.length := (List.getElem?_eq_some_iff.1 h1).1
        cases e : H'[i]? with
        | none => rw [e] at this; cases this
        | some b0 =>
          rw [e] at this; injection this with this
          refine .inl ⟨i, b0, e, this, ?_, .inl ⟨hil, hn, h2, l, h1⟩⟩
          rw [hRn, g.ext i hil]
          simp only [Ren.via, nthN_eq, h2]
      · have := p3 n hn hu
        rw [hb] at this
        exact .inr ⟨hn, this.symm, hRn, hu⟩
    · have := p4 (n - G.length)
      rw [show G.length + (n - G.length) = n by omega, hb] at this
      cases e : H'[H.length + (n - G.length)]? with
      | none => rw [e] at this; cases this
      | some b0 =>
        rw [e] at this; injection this with this
        refine .inl ⟨_, b0, e, this, ?_, .inr ⟨by omega, by omega⟩⟩
        simp only [R']; rw [if_neg (by omega)]
  have still : ∀ {n : Nat} {b : Blk} {l : List Seg} {m : Nat} {c : Nat × Nat}, G[n]? = some b → b.segs? = some l → R n = some (m, c) → (∀ (i : Nat) (l : List Seg), H[i]? = some (.rw l) → ns[i]? ≠ some n) → m < w.heap.size → w'.heap[m]? = w.heap[m]? := by
    intro n b l m c hb hs hR hu hm
    refine g.frame m hm fun j lj cj hj hRj => ?_
    obtain ⟨nj, e1, e2, e3⟩ := rwG hj hRj
    have := hr.inj nj n _ b l m cj c e2 hb hs e3 hR
    subst this
    exact hu j lj hj e1
  have oldblk : ∀ {n : Nat} {b : Blk} {l : List Seg} {m : Nat} {c : Nat × Nat}, G[n]? = some b → b.segs? = some l → R n = some (m, c) → m < w.heap.size := by
    intro n b l m c hb hs hR
    obtain ⟨m', c', e1, e2⟩ := hr.holds n b l hb hs
    rw [hR] at e1; injection e1 with e1; injection e1 with e1 e3; subst e1
    exact e2.lt
  have ownOld : ∀ {i : Nat} {b : Blk} {m : Nat} {c : Nat × Nat}, H.length ≤ i → H'[i]? = some b → b ≠ .dead → R1 i = some (m, c) → w.heap.size ≤ m ∨ ∃ (n : Nat) (l : List Seg) (c0 : Nat × Nat), G[n]? = some (.rw l) ∧ R n = some (m, c0) ∧ ∃ (j : Nat) (lj : List Seg), H[j]? = some (.rw lj) ∧ ns[j]? = some n := by
    intro i b m c hi hb hd hR
    rcases (g.own i b m c hi hb hd hR).2 with h1 | ⟨j, lj, cj, h1, h2⟩
    · exact .inl h1
    · obtain ⟨n, e1, e2, e3⟩ := rwG h1 h2
      exact .inr ⟨n, _, cj, e2, e3, j, lj, h1, e1⟩
  refine ⟨_, x, G', R', ⟨v, H', q, g.len, by rw [hσ], by rw [hσ, hG]⟩, rfl, AV.ren_to (by rw [hvia]; exact hv), ?_, ?_⟩
  · have ht : GTok R' G' w' := by
      intro x hx
      obtain ⟨a1, a2⟩ := hr1.tab x hx
      refine ⟨a1, fun n l c hb hR => ?_⟩
      rcases cases' hb with ⟨i, b0, e1, e5, e2, _⟩ | ⟨e1, e2, e3, e4⟩
      · obtain ⟨l0, rfl, rfl⟩ := Blk.ren_rw e5.symm
        exact a2 i l0 c e1 (by rw [← e2]; exact hR)
      · exact (hr.tab x hx).2 n l c e2 (by rw [← e3]; exact hR)
    refine ⟨ht, fun n b l hb hs => ?_, fun n hn => ?_, fun n l m c hb hR => ?_, fun n n' l b l' m c c' hb hb' hs h1 h2 => ?_⟩
    · rcases cases' hb with ⟨i, b0, e1, rfl, e2, _⟩ | ⟨e1, e2, e3, e4⟩
      · obtain ⟨l0, s1, rfl⟩ := Blk.ren_live hs
        obtain ⟨m, c, r1, r2⟩ := hr1.holds i b0 l0 e1 s1
        exact ⟨m, c, e2.trans r1, Holds.ren_to (by rw [hvia]; exact r2)⟩
      · obtain ⟨m, c, r1, r2⟩ := hr.holds n b l e2 hs
        exact ⟨m, c, e3.trans r1, (r2.mono hmono).kept (still e2 hs r1 e4 r2.lt)⟩
    · simp only [R']
      have := g.len
      rw [if_neg (by omega), hr1.dom _ (by omega)]
    · rcases cases' hb with ⟨i, b0, e1, e5, e2, _⟩ | ⟨e1, e2, e3, e4⟩
      · obtain ⟨l0, rfl, rfl⟩ := Blk.ren_rw e5.symm
        exact hr1.own i l0 m c e1 (by rw [← e2]; exact hR)
      · have hRn : R n = some (m, c) := by rw [← e3]; exact hR
        exact (hr.own n l m c e2 hRn).kept (still e2 rfl hRn e4 (oldblk e2 rfl hRn))
    · rcases cases' hb with ⟨i, b0, e1, e5, e2, e6⟩ | ⟨e1, e2, e3, e4⟩
      · obtain ⟨l0, rfl, rfl⟩ := Blk.ren_rw e5.symm
        have q1 : R1 i = some (m, c) := by rw [← e2]; exact h1
        rcases cases' hb' with ⟨i', b0', e1', rfl, e2', e6'⟩ | ⟨e1', e2', e3', e4'⟩
        · obtain ⟨l0', s1, rfl⟩ := Blk.ren_live hs
          have q2 : R1 i' = some (m, c') := by rw [← e2']; exact h2
          have := hr1.inj i i' l0 b0' l0' m c c' e1 e1' s1 q1 q2
          subst this
          rcases e6 with ⟨a1, a2, a3, _⟩ | ⟨a1, a2⟩
          · rcases e6' with ⟨b1, b2, b3, _⟩ | ⟨b1, b2⟩
            · rw [a3] at b3; injection b3
            · omega
          · rcases e6' with ⟨b1, b2, b3, _⟩ | ⟨b1, b2⟩
            · omega
            · omega
        · exfalso
          have q2 : R n' = some (m, c') := by rw [← e3']; exact h2
          rcases e6 with ⟨a1, a2, a3, l1, a4⟩ | ⟨a1, a2⟩
          · have q3 : (R.via ns) i = some (m, c) := by rw [← g.ext i a1]; exact q1
            obtain ⟨nj, d1, d2, d3⟩ := rwG a4 q3
            have := hr.inj nj n' _ b l' m c c' d2 e2' hs d3 q2
            subst this
            exact e4' i l1 a4 d1
          · rcases ownOld a1 e1 (by simp) q1 with o1 | ⟨nj, lj, cj, d1, d2, j, lj', d3, d4⟩
            · have := oldblk e2' hs q2; omega
            · have := hr.inj nj n' _ b l' m cj c' d1 e2' hs d2 q2
              subst this
              exact e4' j lj' d3 d4
      · have q1 : R n = some (m, c) := by rw [← e3]; exact h1
        rcases cases' hb' with ⟨i', b0', e1', rfl, e2', e6'⟩ | ⟨e1', e2', e3', e4'⟩
        · obtain ⟨l0', s1, rfl⟩ := Blk.ren_live hs
          have q2 : R1 i' = some (m, c') := by rw [← e2']; exact h2
          rcases e6' with ⟨a1, a2, a3, l1, a4⟩ | ⟨a1, a2⟩
          · exfalso
            have q3 : (R.via ns) i' = some (m, c') := by rw [← g.ext i' a1]; exact q2
            obtain ⟨nj, d1, d2, d3⟩ := rwG a4 q3
            have := hr.inj nj n _ _ l m c' c d2 e2 rfl d3 q1
            subst this
            exact e4 i' l1 a4 d1
          · exfalso
            rcases ownOld a1 e1' (by intro e; subst e; cases s1) q2 with o1 | ⟨nj, lj, cj, d1, d2, j, lj', d3, d4⟩
            · have := oldblk e2 rfl q1; omega
            · have := hr.inj nj n _ _ l m cj c d1 e2 rfl d2 q1
              subst this
              exact e4 j lj' d3 d4
        · exact hr.inj n n' l b l' m c c' e2 e2' hs q1 (by rw [← e3']; exact h2)
  · refine ⟨by rw [p1]; omega, fun n hn => by simp only [R']; rw [if_pos hn], g.os, g.tape, g.output, g.size, fun k hk hk2 => ?_, fun n b hn hb => ?_, fun n b m c hn hb hd hR => ?_⟩
    · refine g.frame k hk fun j lj cj hj hRj => ?_
      obtain ⟨nj, e1, e2, e3⟩ := rwG hj hRj
      exact hk2 nj _ cj e2 e3
    · rcases cases' hb with ⟨i, b0, e1, rfl, e2, e6⟩ | ⟨e1, e2, e3, e4⟩
      · rcases e6 with ⟨a1, a2, a3, l1, a4⟩ | ⟨a1, a2⟩
        · obtain ⟨n2, b', f1, f2, f3, f4⟩ := hfit i _ l1 a4 rfl
          rw [a3] at f1; injection f1 with f1; subst f1
          rw [f4 rfl] at f2
          rcases g.flag i b0 a1 e1 with rfl | ⟨b1, h1, h2, _⟩
          · exact .inl rfl
          · rw [a4] at h1; injection h1 with h1; subst h1
            exact .inr ⟨_, f2, by rw [Blk.ren_isRw]; exact h2, by simp⟩
        · omega
      · by_cases e : b = .dead
        · exact .inl e
        · exact .inr ⟨b, e2, rfl, e⟩
    · rcases cases' hb with ⟨i, b0, e1, rfl, e2, e6⟩ | ⟨e1, e2, e3, e4⟩
      · rcases e6 with ⟨a1, a2, a3, l1, a4⟩ | ⟨a1, a2⟩
        · omega
        · have q1 : R1 i = some (m, c) := by rw [← e2]; exact hR
          refine ⟨by rw [Blk.ren_isRw]; exact (g.own i b0 m c a1 e1 (Blk.ren_dead hd) q1).1, ?_⟩
          rcases ownOld a1 e1 (Blk.ren_dead hd) q1 with o1 | ⟨nj, lj, cj, d1, d2, _⟩
          · exact .inl o1
          · exact .inr ⟨nj, lj, cj, d1, d2⟩
      · omega
/-! Contracts at any blocks; a law's entry. -/
/-- A contract that names no block, among any blocks. -/
theorem AC.anyH {P : Program} {f : FuncId} {args : List AV} {r : AV} (h : AC P f args [] fun v H => v = r ∧ H = []) (ha : rensA [] args = args) (hr : r.ren [] = r) (G : Hp) : AC P f args G fun v H => v = r ∧ H = G := by
  have := h.embed [] (G := G) (by simp) (by simp) trivial
  rw [ha] at this
  refine this.mono ?_
  rintro v G' ⟨v0, H', ⟨rfl, rfl⟩, _, rfl, rfl⟩
  refine ⟨by simpa using hr, by simp [embP]⟩
theorem Go.below {R R' : Ren} {H H' : Hp} {w w' : World} (g : Go R H w R' H' w') (hro : ∀ (n : Nat) (l : List Seg), H[n]? ≠ some (Blk.rw l)) : Below w.heap.size w w' :=
  ⟨g.os, g.tape, g.output, g.size, fun k hk => g.frame k hk fun n l c h _ => hro n l h⟩
def GTw (w : World) : Prop := ∀ x ∈ GT, ∃ cs ty fr, w.heap[x.1]? = some (.cells cs ty fr) ∧ x.2 cs
theorem Rep.none (w : World) (ht : GTw w) : Rep (fun _ => Option.none) [] w :=
  ⟨fun x hx => ⟨ht x hx, fun n l c h => by simp at h⟩, fun n b l h => by simp at h, fun _ _ => rfl, fun n l m c h => by simp at h, fun n n' l b l' m c c' h => by simp at h⟩
/-- A law: it says true, and what was there stays. -/
theorem AC.law {P : Program} {f : FuncId} {args : List AV} {H : Hp} (h : AC P f args H fun v _ => v = .v (.bool true)) {R : Ren} {w : World} {as : List Value} (ha : relA R args as) (hr : Rep R H w) (hro : ∀ (n : Nat) (l : List Seg), H[n]? ≠ some (Blk.rw l)) :
    Calls P f as.toArray w fun e w' => e = .returned (.bool true) ∧ Below w.heap.size w w' := by
  refine (h.run R w as ha hr).mono ?_
  rintro e w' ⟨v, x, H', R', rfl, rfl, h1, h2, h3⟩
  refine ⟨?_, h3.below hro⟩
  have h1 : x = .bool true := h1
  rw [h1]
/-- What a plain function's contract is when its result is a value or a struct of numbers. -/
theorem AC.law0 {P : Program} {f : FuncId} {args : List AV} (h : AC P f args [] fun v _ => v = .v (.bool true)) {as : List Value} (ha : relA (fun _ => Option.none) args as) (w : World) (ht : GTw w := by intro x hx; cases hx) :
    Calls P f as.toArray w fun e w' => e = .returned (.bool true) ∧ Below w.heap.size w w' :=
  h.law ha (Rep.none w ht) (fun n l h => by simp at h)
/-! A loop of few rounds, round by round. -/
def awR (P : Program) (D : Tab) (nt : Nat) (c : Code) (Q : Exit → Sl → Hp → Prop) : Nat → Sl → Hp → Prop
  | 0, _, _ => False
  | n + 1, s, H => aw P D nt c (thenQ (awR P D nt c Q n) Q) s H
theorem rounds_mono {P : Program} {c : Code} {Q Q' : Exit → Act → World → Prop} (h : ∀ e a w, Q e a w → Q' e a w) : ∀ n a w, Code.rounds P c Q n a w → Code.rounds P c Q' n a w := by
  intro n
  induction n with
  | zero => intro a w h'; exact h'
  | succ n ih =>
    intro a w h'
    refine wp_mono h' fun e a' w' q => ?_
    cases e with
    | normal => exact ih _ _ q
    | _ => exact h _ _ _ q
theorem awR_sound {P : Program} {D : Tab} (hD : D.ok P) {nt : Nat} {c : Code} {Q : Exit → Sl → Hp → Prop} : ∀ (n : Nat) (s : Sl) (H : Hp), awR P D nt c Q n s H →
    ∀ (R : Ren) (w : World) (a : Act), a.tmps.size = nt → a.defers = [] → SR R s a → Rep R H w → Code.rounds P c (Post nt Q R H w) n a w := by
  intro n
  induction n with
  | zero => intro s H h; exact h.elim
  | succ n ih =>
    intro s H h R w a h1 h2 h3 h4
    refine wp_mono (aw_sound hD h R w a h1 h2 h3 h4) ?_
    rintro e a' w' ⟨s', H', R', q, g1, g2, g3, g4, g5⟩
    cases e with
    | normal => exact rounds_mono (fun e a w hp => hp.trans g5) n _ _ (ih s' H' q R' w' a' g1 g2 g3 g4)
    | _ => exact ⟨s', H', R', q, g1, g2, g3, g4, g5⟩
theorem aw_rounds {P : Program} {D : Tab} (hD : D.ok P) {nt : Nat} {c : Code} {Q : Exit → Sl → Hp → Prop} {s : Sl} {H : Hp} (n : Nat) (h : awR P D nt c Q n s H) : AWs P nt (.loop c) Q s H :=
  ⟨fun R w a h1 h2 h3 h4 => wp_loop_rounds n (awR_sound hD n s H h R w a h1 h2 h3 h4)⟩
/-! Values that name no block. -/
def V.free : V → Bool
  | .ptr _ _ _ _ => false
  | .sl _ _ _ _ _ => false
  | .if1 _ x => x.free
  | .if2 _ x y => match x.free with
    | true => y.free
    | false => false
  | .fn1 _ x => x.free
  | _ => true
def freeS : List Seg → Bool
  | [] => true
  | .one v :: r => match v.free with
    | true => freeS r
    | false => false
  | .ints _ _ _ :: r => freeS r
  | .recs _ _ _ :: _ => false
theorem V.in_of_free {n : Nat} : ∀ {v : V}, v.free = true → v.inR n
  | .bool _, _ | .int _ _, _ | .str _, _ | .nilP, _ | .nilS, _ | .nilI, _ | .nilF, _ | .fn0 _, _ | .bad, _ => trivial
  | .ptr _ _ _ _, h => by cases h
  | .sl _ _ _ _ _, h => by cases h
  | .if1 _ x, h => V.in_of_free (v := x) h
  | .fn1 _ x, h => V.in_of_free (v := x) h
  | .if2 _ x y, h => by
    simp only [V.free] at h
    split at h
    · rename_i e; exact ⟨V.in_of_free e, V.in_of_free h⟩
    · cases h
theorem freeS_in {n : Nat} : ∀ {l : List Seg}, freeS l = true → segsIn n l
  | [], _ => trivial
  | .one v :: r, h => by
    simp only [freeS] at h
    split at h
    · rename_i e; exact ⟨V.in_of_free e, freeS_in h⟩
    · cases h
  | .ints _ _ _ :: r, h => ⟨trivial, freeS_in (l := r) h⟩
  | .recs _ _ _ :: _, h => by cases h
/-- A struct that names no block. -/
theorem in_agg {n : Nat} {l : List Seg} (h : freeS l = true) : (AV.agg l).inR n := freeS_in h
/-! A loop whose rounds make blocks that nobody keeps. -/
theorem cutH {R R' : Ren} {H H' : Hp} {w w' : World} (hr : Rep R' H' w') (g : Go R H w R' H' w') (q2 : hpIn H.length (H'.take H.length)) : Rep (R'.cut H.length) (H'.take H.length) w' ∧ Go R H w (R'.cut H.length) (H'.take H.length) w' := by
  have hlen : (H'.take H.length).length = H.length := by have := g.len; simp; omega
  have hget : ∀ {i : Nat} {b : Blk}, (H'.take H.length)[i]? = some b → i < H.length ∧ H'[i]? = some b := by
    intro i b hi
    have := (List.getElem?_eq_some_iff.1 hi).1
    rw [hlen] at this
    rw [List.getElem?_take, if_pos this] at hi
    exact ⟨this, hi⟩
  have ht : GTok (R'.cut H.length) (H'.take H.length) w' := by
    intro x hx
    obtain ⟨h1, h2⟩ := hr.tab x hx
    refine ⟨h1, fun i l c hi hR => ?_⟩
    obtain ⟨hlt, hi⟩ := hget hi
    simp only [Ren.cut, hlt, if_true] at hR
    exact h2 i l c hi hR
  refine ⟨⟨ht, fun i b l hi hs => ?_, fun i hi => ?_, fun i l m c hi hR => ?_, fun i i' l b l' m c c' hi hi' hs h1 h2 => ?_⟩, ⟨by rw [hlen]; exact Nat.le_refl _, fun i hi => ?_, g.os, g.tape, g.output, g.size, g.frame, fun i b hi hb => g.flag i b hi (hget hb).2, fun i b m c hi hb _ _ => ?_⟩⟩
  · obtain ⟨hlt, hi'⟩ := hget hi
    obtain ⟨m, c, h1, o, cs, ty, fr, pre, xs, rest, a1, a2, a3, a4, a5⟩ := hr.holds i b l hi' hs
    exact ⟨m, c, by simp [Ren.cut, hlt, h1], o, cs, ty, fr, pre, xs, rest, a1, a2, a3, rels_cut a4 (segsIn_mem (hpIn_get q2 hi hs)), a5⟩
  · rw [hlen] at hi
    simp [Ren.cut]; omega
  · obtain ⟨hlt, hi⟩ := hget hi
    simp only [Ren.cut, hlt, if_true] at hR
    exact hr.own i l m c hi hR
  · obtain ⟨hlt, hi⟩ := hget hi
    obtain ⟨hlt', hi'⟩ := hget hi'
    simp only [Ren.cut, hlt, hlt', if_true] at h1 h2
    exact hr.inj i i' l b l' m c c' hi hi' hs h1 h2
  · rw [← g.ext i hi]; simp [Ren.cut, hi]
  · have := (hget hb).1; omega
def slIn (n : Nat) : Sl → Prop
  | [] => True
  | (_, v) :: r => v.inR n ∧ slIn n r
theorem slIn_get {n : Nat} : ∀ {s : Sl}, slIn n s → ∀ t v, get s t = some v → v.inR n
  | [], _, t, v, h => by simp [get] at h
  | (j, u) :: r, hs, t, v, h => by
    simp only [get] at h
    split at h
    · injection h with h; subst h; exact hs.1
    · exact slIn_get hs.2 t v h
def roundC {α : Type} (n : Nat) (S : α → Sl) (HH : α → Hp) (inv : α → Prop) (mu : α → Nat) (Q : Exit → Sl → Hp → Prop) (x : α) : Exit → Sl → Hp → Prop
  | .normal, s, H => ∃ x', inv x' ∧ mu x' < mu x ∧ subs (S x') s ∧ slIn n (S x') ∧ hpIn n (H.take n) ∧ H.take n = HH x'
  | e, s, H => Q e s H
theorem aw_loopC {P : Program} {D : Tab} (hD : D.ok P) {nt : Nat} {α : Type} {c : Code} {Q : Exit → Sl → Hp → Prop} {s : Sl} {H : Hp} (n : Nat) (S : α → Sl) (HH : α → Hp) (inv : α → Prop) (mu : α → Nat) (x0 : α) (hs : subs (S x0) s) (hH : H = HH x0) (h0 : inv x0) (hn : ∀ x, (HH x).length = n)
    (round : ∀ x, inv x → aw P D nt c (roundC n S HH inv mu Q x) (S x) (HH x)) : AWs P nt (.loop c) Q s H := by
  refine ⟨fun R w a h1 h2 h3 h4 => ?_⟩
  subst hH
  refine wp_loop_ghost (fun k a1 w1 => ∃ x R1, mu x = k ∧ inv x ∧ a1.tmps.size = nt ∧ a1.defers = [] ∧ SR R1 (S x) a1 ∧ Rep R1 (HH x) w1 ∧ Go R (HH x0) w R1 (HH x) w1) (mu x0)
    ⟨x0, R, rfl, h0, h1, h2, fun t v hv => h3 t v (subs_get hs t v hv), h4, Go.refl _ _ _⟩ ?_
  rintro k a1 w1 ⟨x, R1, rfl, hi, g1, g2, g3, g4, g5⟩
  refine wp_mono (aw_sound hD (round x hi) R1 w1 a1 g1 g2 g3 g4) ?_
  rintro e a2 w2 ⟨s2, H2, R2, q, k1, k2, k3, k4, k5⟩
  cases e with
  | normal =>
    obtain ⟨x', i1, i2, i3, i4, i5, i6⟩ := q
    have hx := hn x
    obtain ⟨c1, c2⟩ := cutH k4 k5 (by rw [hx]; exact i5)
    rw [hx, i6] at c1 c2
    exact ⟨mu x', i2, x', R2.cut n, rfl, i1, k1, k2, fun t v hv => AV.rel_cut (slIn_get i4 t v hv) (k3 t v (subs_get i3 t v hv)), c1, g5.trans c2⟩
  | _ => exact ⟨s2, H2, R2, q, k1, k2, k3, k4, g5.trans k5⟩
/-! A call whose contract speaks of a world that has grown. -/
theorem Rep.grown {R : Ren} {H : Hp} {w w' : World} (h : Rep R H w) (hb : ∀ k, k < w.heap.size → w'.heap[k]? = w.heap[k]?) : Rep R H w' where
  tab x hx := by
    obtain ⟨⟨cz, ty, fr, h1, hz⟩, h2⟩ := h.tab x hx
    exact ⟨⟨cz, ty, fr, by rw [hb _ (Array.getElem?_eq_some_iff.1 h1).1]; exact h1, hz⟩, h2⟩
  holds n b l hn hs := by
    obtain ⟨m, c, h1, h2⟩ := h.holds n b l hn hs
    exact ⟨m, c, h1, h2.kept (hb m h2.lt)⟩
  dom := h.dom
  own n l m c hn hR := by
    have ho := h.own n l m c hn hR
    obtain ⟨cz, tz, hz, _⟩ := ho
    exact Own.kept ⟨cz, tz, hz, ‹_›⟩ (hb m (Array.getElem?_eq_some_iff.1 hz).1)
  inj := h.inj
theorem Go.grown {R : Ren} {H : Hp} {w w' : World} (ho : w'.os = w.os) (ht : w'.tape = w.tape) (hu : w'.output = w.output) (hs : w.heap.size ≤ w'.heap.size) (hb : ∀ k, k < w.heap.size → w'.heap[k]? = w.heap[k]?) : Go R H w R H w' :=
  ⟨Nat.le_refl _, fun _ _ => rfl, ho, ht, hu, hs, fun k hk _ => hb k hk, (Go.refl R H w).flag, (Go.refl R H w).own⟩
/-- A contract of the shelf: a plain result, the world grown. -/
theorem AC.of_grown {P : Program} {f : FuncId} {args : List AV} {r : V} {rx : Value} (he : CanEnter P f) (hr : ∀ R, r.rel R rx)
    (h : ∀ (R : Ren) (H : Hp) (w : World) (as : List Value), relA R args as → Rep R H w → Calls P f as.toArray w fun e w' => e = .returned rx ∧ w'.os = w.os ∧ w'.tape = w.tape ∧ w'.output = w.output ∧ w.heap.size ≤ w'.heap.size ∧ ∀ k, k < w.heap.size → w'.heap[k]? = w.heap[k]?) (H : Hp) :
    AC P f args H fun v H' => v = .v r ∧ H' = H := by
  refine ⟨he, fun R w as ha hrp => (h R H w as ha hrp).mono ?_⟩
  rintro e w' ⟨rfl, h1, h2, h3, h4, h5⟩
  exact ⟨_, _, H, R, ⟨rfl, rfl⟩, rfl, hr R, hrp.grown h5, Go.grown h1 h2 h3 h4 h5⟩
/-! A loop whose rounds end with the blocks under other names. -/
/-- The block of name n is what is wanted, under the names σ. -/
def fitB (σ : List Nat) (G : Hp) (n : Nat) : Blk → Prop
  | .dead => True
  | .rw l => ∃ l', lk G n = some (.rw l') ∧ (l' = rensS σ l ∨ (oks l ∧ flat l' = flat (rensS σ l)))
  | .ro l => ∃ l', lk G n = some (.ro l') ∧ (l' = rensS σ l ∨ (oks l ∧ flat l' = flat (rensS σ l)))
def fitL (σ : List Nat) (G : Hp) : Hp → List Nat → Prop
  | [], [] => True
  | b :: K, n :: ns => fitB σ G n b ∧ fitL σ G K ns
  | _, _ => False
theorem fitL_get {σ : List Nat} {G : Hp} : ∀ {K : Hp} {ns : List Nat}, fitL σ G K ns → ns.length = K.length ∧ ∀ (i : Nat) (b : Blk), K[i]? = some b → ∃ n, ns[i]? = some n ∧ fitB σ G n b
  | [], [], _ => ⟨rfl, fun i b h => by simp at h⟩
  | b :: K, n :: ns, h => by
    obtain ⟨h1, h2⟩ := fitL_get h.2
    refine ⟨by simp [h1], fun i c hc => ?_⟩
    cases i with
    | zero => simp at hc; subst hc; exact ⟨n, rfl, h.1⟩
    | succ i => simpa using h2 i c (by simpa using hc)
  | [], _ :: _, h => h.elim
  | _ :: _, [], h => h.elim
theorem Holds.flat_to {R : Ren} {w : World} {l l' : List Seg} {m : Nat} {c : Nat × Nat} (h : Holds R w l' m c) (ho : oks l) (hf : flat l' = flat l) : Holds R w l m c := by
  obtain ⟨_, h2⟩ := h
  exact ⟨ho, by rw [← hf]; exact h2⟩
theorem fit_holds {σ : List Nat} {R : Ren} {w : World} {l l' : List Seg} {m : Nat} {c : Nat × Nat} (h : Holds R w l' m c) (e : l' = rensS σ l ∨ (oks l ∧ flat l' = flat (rensS σ l))) : Holds (R.via σ) w l m c := by
  rcases e with rfl | ⟨e1, e2⟩
  · exact h.ren_of
  · exact (h.flat_to (oks_ren.2 e1) e2).ren_of
theorem Rep.reix {R : Ren} {H K : Hp} {w : World} {σ : List Nat} (hr : Rep R H w) (hσ : σ.Nodup) (hf : fitL σ H K σ) : Rep (R.via σ) K w := by
  obtain ⟨hl, hg⟩ := fitL_get hf
  have live : ∀ (i : Nat) (b : Blk) (l : List Seg), K[i]? = some b → b.segs? = some l → ∃ n b' l', σ[i]? = some n ∧ H[n]? = some b' ∧ b'.segs? = some l' ∧ b'.isRw = b.isRw ∧ (l' = rensS σ l ∨ (oks l ∧ flat l' = flat (rensS σ l))) := by
    intro i b l hi hs
    obtain ⟨n, h1, h2⟩ := hg i b hi
    cases b with
    | dead => cases hs
    | rw l0 =>
      injection hs with hs; subst hs
      obtain ⟨l', h3, h4⟩ := h2
      exact ⟨n, .rw l', l', h1, by rw [← lk_eq]; exact h3, rfl, rfl, h4⟩
    | ro l0 =>
      injection hs with hs; subst hs
      obtain ⟨l', h3, h4⟩ := h2
      exact ⟨n, .ro l', l', h1, by rw [← lk_eq]; exact h3, rfl, rfl, h4⟩
  have via : ∀ {i n : Nat}, σ[i]? = some n → (R.via σ) i = R n := by
    intro i n h
    simp only [Ren.via, nthN_eq, h]
  refine ⟨fun x hx => ?_, fun i b l hi hs => ?_, fun i hi => ?_, fun i l m c hi hR => ?_, fun i i' l b l' m c c' hi hi' hs h1 h2 => ?_⟩
  · obtain ⟨h1, h2⟩ := hr.tab x hx
    refine ⟨h1, fun i l c hi hR => ?_⟩
    obtain ⟨n, b', l', e1, e2, e3, e4, e5⟩ := live i _ l hi rfl
    rw [via e1] at hR
    obtain ⟨l2, rfl⟩ := Blk.rw_of (b := b') (by rw [e4]; rfl)
    exact h2 n l2 c e2 hR
  · obtain ⟨n, b', l', e1, e2, e3, e4, e5⟩ := live i b l hi hs
    obtain ⟨m, c, r1, r2⟩ := hr.holds n b' l' e2 e3
    exact ⟨m, c, by rw [via e1]; exact r1, fit_holds r2 e5⟩
  · simp only [Ren.via, nthN_eq]
    rw [List.getElem?_eq_none (by omega)]
  · obtain ⟨n, b', l', e1, e2, e3, e4, e5⟩ := live i _ l hi rfl
    rw [via e1] at hR
    obtain ⟨l2, rfl⟩ := Blk.rw_of (b := b') (by rw [e4]; rfl)
    exact hr.own n l2 m c e2 hR
  · obtain ⟨n, b1, l1, e1, e2, e3, e4, e5⟩ := live i _ l hi rfl
    obtain ⟨n', b2, l2, f1, f2, f3, f4, f5⟩ := live i' b l' hi' hs
    rw [via e1] at h1
    rw [via f1] at h2
    obtain ⟨l3, rfl⟩ := Blk.rw_of (b := b1) (by rw [e4]; rfl)
    have := hr.inj n n' l3 b2 l2 m c c' e2 f2 f3 h1 h2
    subst this
    exact (List.getElem?_inj (List.getElem?_eq_some_iff.1 e1).1 hσ).1 (e1.trans f1.symm)
/-- The first names stay, the others lie behind. -/
def okN (n0 : Nat) (σ : List Nat) : Prop := σ.Nodup ∧ (∀ i, i < n0 → σ[i]? = some i) ∧ ∀ (i n : Nat), n0 ≤ i → σ[i]? = some n → n0 ≤ n
theorem Go.reix {R0 R : Ren} {H0 H K : Hp} {w0 w : World} {σ : List Nat} (g : Go R0 H0 w0 R H w) (hk : okN H0.length σ) (hf : fitL σ H K σ) (hlen : H0.length ≤ K.length) : Go R0 H0 w0 (R.via σ) K w := by
  obtain ⟨hl, hg⟩ := fitL_get hf
  have via : ∀ {i n : Nat}, σ[i]? = some n → (R.via σ) i = R n := by
    intro i n h
    simp only [Ren.via, nthN_eq, h]
  refine ⟨hlen, fun n hn => ?_, g.os, g.tape, g.output, g.size, g.frame, fun n b hn hb => ?_, fun n b m c hn hb hd hR => ?_⟩
  · rw [via (hk.2.1 n hn)]; exact g.ext n hn
  · obtain ⟨n', h1, h2⟩ := hg n b hb
    rw [hk.2.1 n hn] at h1; injection h1 with h1; subst h1
    cases b with
    | dead => exact .inl rfl
    | rw l =>
      obtain ⟨l', h3, _⟩ := h2
      rcases g.flag n _ hn (by rw [← lk_eq]; exact h3) with e | ⟨b0, e1, e2, e3⟩
      · cases e
      · exact .inr ⟨b0, e1, e2, e3⟩
    | ro l =>
      obtain ⟨l', h3, _⟩ := h2
      rcases g.flag n _ hn (by rw [← lk_eq]; exact h3) with e | ⟨b0, e1, e2, e3⟩
      · cases e
      · exact .inr ⟨b0, e1, e2, e3⟩
  · obtain ⟨n', h1, h2⟩ := hg n b hb
    have hn' := hk.2.2 n n' hn h1
    rw [via h1] at hR
    cases b with
    | dead => exact absurd rfl hd
    | rw l =>
      obtain ⟨l', h3, _⟩ := h2
      exact ⟨rfl, (g.own n' _ m c hn' (by rw [← lk_eq]; exact h3) (by simp) hR).2⟩
    | ro l =>
      obtain ⟨l', h3, _⟩ := h2
      exact absurd (g.own n' _ m c hn' (by rw [← lk_eq]; exact h3) (by simp) hR).1 (by simp [Blk.isRw])
/-- These slots hold what is wanted, under the names σ. -/
def subsR (σ : List Nat) : Sl → Sl → Prop
  | [], _ => True
  | (t, v) :: r, s => get s t = some (v.ren σ) ∧ subsR σ r s
theorem subsR_get {σ : List Nat} : ∀ {r s : Sl}, subsR σ r s → ∀ t v, get r t = some v → get s t = some (v.ren σ)
  | [], _, _, _, _, h => by simp [get] at h
  | (j, u) :: r, s, ⟨h1, h2⟩, t, v, h => by
    simp only [get] at h
    split at h
    · rename_i e
      have e := Nat.eq_of_beq_eq_true e
      subst e; injection h with h; subst h; exact h1
    · exact subsR_get h2 t v h
def roundR {α : Type} (n0 : Nat) (S : α → Sl) (HH : α → Hp) (inv : α → Prop) (mu : α → Nat) (Q : Exit → Sl → Hp → Prop) (x : α) : Exit → Sl → Hp → Prop
  | .normal, s, H => ∃ (x' : α) (σ : List Nat), inv x' ∧ mu x' < mu x ∧ okN n0 σ ∧ n0 ≤ (HH x').length ∧ fitL σ H (HH x') σ ∧ subsR σ (S x') s
  | e, s, H => Q e s H
theorem aw_loopR {P : Program} {D : Tab} (hD : D.ok P) {nt : Nat} {α : Type} {c : Code} {Q : Exit → Sl → Hp → Prop} {s : Sl} {H : Hp} (n0 : Nat) (S : α → Sl) (HH : α → Hp) (inv : α → Prop) (mu : α → Nat) (x0 : α) (hs : subs (S x0) s) (hH : H = HH x0) (h0 : inv x0) (hn : (HH x0).length = n0)
    (round : ∀ x, inv x → aw P D nt c (roundR n0 S HH inv mu Q x) (S x) (HH x)) : AWs P nt (.loop c) Q s H := by
  refine ⟨fun R w a h1 h2 h3 h4 => ?_⟩
  subst hH
  refine wp_loop_ghost (fun k a1 w1 => ∃ x R1, mu x = k ∧ inv x ∧ a1.tmps.size = nt ∧ a1.defers = [] ∧ SR R1 (S x) a1 ∧ Rep R1 (HH x) w1 ∧ Go R (HH x0) w R1 (HH x) w1) (mu x0)
    ⟨x0, R, rfl, h0, h1, h2, fun t v hv => h3 t v (subs_get hs t v hv), h4, Go.refl _ _ _⟩ ?_
  rintro k a1 w1 ⟨x, R1, rfl, hi, g1, g2, g3, g4, g5⟩
  refine wp_mono (aw_sound hD (round x hi) R1 w1 a1 g1 g2 g3 g4) ?_
  rintro e a2 w2 ⟨s2, H2, R2, q, k1, k2, k3, k4, k5⟩
  cases e with
  | normal =>
    obtain ⟨x', σ, i1, i2, i3, i4, i5, i6⟩ := q
    exact ⟨mu x', i2, x', R2.via σ, rfl, i1, k1, k2, fun t v hv => AV.ren_of (k3 t _ (subsR_get i6 t v hv)), k4.reix i3.1 i5, (g5.trans k5).reix (by rw [hn]; exact i3) i5 (by rw [hn]; exact i4)⟩
  | _ => exact ⟨s2, H2, R2, q, k1, k2, k3, k4, g5.trans k5⟩
def okB (n0 : Nat) (σ : List Nat) : Bool := decide σ.Nodup && (decide (σ.take n0 = List.range n0) && (σ.drop n0).all fun n => Nat.ble n0 n)
theorem okN_of {n0 : Nat} {σ : List Nat} (h : okB n0 σ = true) : okN n0 σ := by
  unfold okB at h
  simp only [Bool.and_eq_true, decide_eq_true_eq, List.all_eq_true] at h
  obtain ⟨h1, h2, h3⟩ := h
  refine ⟨h1, fun i hi => ?_, fun i n hi hn => ?_⟩
  · have : (σ.take n0)[i]? = σ[i]? := by rw [List.getElem?_take, if_pos hi]
    rw [← this, h2]; simp [hi]
  · have : (σ.drop n0)[i - n0]? = some n := by rw [List.getElem?_drop, show n0 + (i - n0) = i by omega]; exact hn
    exact Nat.le_of_ble_eq_true (h3 n (List.mem_of_getElem? this))
/-- A contract whose last blocks are wanted under other names. -/
theorem AC.reix {P : Program} {f : FuncId} {args : List AV} {H : Hp} {Q : AV → Hp → Prop} {n0 : Nat} (hn : H.length = n0) (h : AC P f args H fun v H' => ∃ (K : Hp) (σ : List Nat) (v' : AV), okN n0 σ ∧ n0 ≤ K.length ∧ fitL σ H' K σ ∧ v = v'.ren σ ∧ Q v' K) : AC P f args H Q := by
  subst hn
  refine ⟨h.enter, fun R w vs h1 h2 => (h.run R w vs h1 h2).mono ?_⟩
  rintro e w' ⟨v, x, H', R', ⟨K, σ, v', i1, i2, i3, rfl, q⟩, e1, hv, hr, g⟩
  exact ⟨v', x, K, R'.via σ, q, e1, AV.ren_of hv, hr.reix i1.1 i3, g.reix i1 i3 i2⟩
end Go.Proofs.Ytpoknlbnookhjaa.Ae
