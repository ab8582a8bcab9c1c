/- Goroutine 0's rows: an append beside the others. -/
import Derived.Test.YtpoknlbnookhjaaFm
import Derived.Laws.AppendOwn
set_option linter.unusedVariables false
set_option linter.unusedSimpArgs false
namespace Go.Proofs.Ytpoknlbnookhjaa.Gt
open Go.Conc Go.RowKit Go.Spring Go.Proofs

theorem info25' : ∃ ii, Try.prog.info? 25 = some ii ∧ ii.zero = some z25 ∧ ii.size = 7 ∧ ii.bytes = 40 := by
  have h : (Try.prog.info? 25).map (fun i => (i.zero, i.size, i.bytes)) = some (some z25, 7, 40) := by kernel_rfl
  cases e : Try.prog.info? 25 with
  | none => rw [e] at h; cases h
  | some ii =>
    rw [e] at h
    simp only [Option.map_some, Option.some.injEq, Prod.mk.injEq] at h
    exact ⟨ii, rfl, h⟩

/-- A row of records that goroutine 0 has gathered. -/
structure RowK (v : Value) (n : Nat) (xs : List Value) (O : Nat → Own) (w : World) : Prop where
  row : w.ownsRow 0 25 7 v n xs
  own : ∀ g, v.ownBlock = some g → O g = .of 0
theorem RowK.stab {v : Value} {n : Nat} {xs : List Value} : Stab 0 (RowK v n xs) := by
  refine ⟨fun O w O₁ w₁ h hr => ?_⟩
  have hl := h.row.lt
  refine ⟨⟨h.row.1, ?_⟩, fun g hg => (hr.own g (hl g hg).2).2 (h.own g hg)⟩
  rcases h.row.2 with hn | ⟨g, cap, cur, rfl, hb, hgg, rest⟩
  · exact .inl hn
  · refine .inr ⟨g, cap, cur, rfl, hb, ?_, rest⟩
    have := h.own g rfl
    rw [hr.keep g (Array.getElem?_eq_some_iff.1 hgg).1 (.inr this)]; exact hgg

/-- What an append of one record yields, and where. -/
theorem append_where {w : World} {v : Value} {n : Nat} {xs va : List Value} {N : Nat} (hown : w.ownsRow 0 25 7 v n xs) (hl : va.length = 7) (hat : At w N 0 va) (h1 : ∀ u ∈ va, u.oneCell' = true) (hn : n ≤ 1000000) :
    ∃ v' w', (Builtin.append_ #[22, 22] 22 #[v, .slice (some ⟨N, 0, none⟩) 1 1]).run Try.prog w = .ok v' w' ∧ w'.ownsRow 0 25 7 v' (n + 1) (xs ++ va) ∧ w.grownBy w' v.ownBlock ∧ (v'.ownBlock = v.ownBlock ∨ ∃ g, w.heap.size ≤ g ∧ v'.ownBlock = some g) ∧
      ∀ ev ∈ (Builtin.append_ #[22, 22] 22 #[v, .slice (some ⟨N, 0, none⟩) 1 1]).events Try.prog w #[], (∃ ad, ev.loc = .cell ad ∧ ((ev.write = false ∧ ad.block = N) ∨ some ad.block = v.ownBlock)) ∨ ∃ m, ev = ⟨.mark m, false, true⟩ ∧ Conc.Neutral m := by
  obtain ⟨ii, hi, hz, hsize, hby⟩ := info25'
  have hnews : ∀ (j : Nat) u, va[j]? = some u → w.cell? ((⟨N, 0, none⟩ : Addr).add j) = some u := fun j u hu => by rw [add0]; exact hat j u hu
  have h63 : n + 1 ≤ maxLen := by simp only [maxLen]; omega
  obtain ⟨v', w', hr, hrow, hgrow, hnil⟩ := run_append_own (P := Try.prog) w 0 22 22 25 ii z25 7 40 Try.underlying22 hi hz hsize hby rfl (by decide) v n xs hown ⟨N, 0, none⟩ 1 1 va (by rw [hl]) hnews h1 h63 (by omega) (Nat.zero_le _)
  refine ⟨v', w', hr, hrow, hgrow, ?_, events_append_where w 0 22 22 25 ii z25 7 40 Try.underlying22 hi hz hsize hby v n xs hown ⟨N, 0, none⟩ 1 1 va (by rw [hl]) hnews h1 h63 (by omega)⟩
  rcases hown.2 with ⟨rfl, rfl⟩ | ⟨g, cap, cur, rfl, hbg, hg, hnc, hcm, hcs, htake⟩
  · have hr2 := run_append_nil (P := Try.prog) w 22 22 25 ii z25 Try.underlying22 hi hz ⟨N, 0, none⟩ 1 1 va (by rw [hl, hsize]) hnews (by decide) (by decide) (by rw [hby]; decide)
    rw [hr] at hr2
    injection hr2 with e1 e2
    exact .inr ⟨w.heap.size, Nat.le_refl _, by rw [e1]; rfl⟩
  · by_cases hroom : n + 1 ≤ cap
    · have hr2 := run_append_room (P := Try.prog) w 22 22 25 ii Try.underlying22 hi g n cap cur hg ⟨N, 0, none⟩ 1 1 va (by rw [hl, hsize]) hnews h1 hroom (by rw [hl, hcs, hsize]; omega)
      rw [hr] at hr2
      injection hr2 with e1 e2
      exact .inl (by rw [e1]; rfl)
    · have holds : ∀ j u, xs[j]? = some u → w.cell? ((⟨g, 0, none⟩ : Addr).add j) = some u := hown.cells (g := g) rfl
      have hr2 := run_append_grow (P := Try.prog) w 22 22 25 ii z25 Try.underlying22 hi hz ⟨g, 0, none⟩ n cap xs (by rw [hsize]; exact hown.1) holds ⟨N, 0, none⟩ 1 1 va (by rw [hl, hsize]) hnews (by omega) (by omega) (growslice_fits (by omega) (by rw [hby]; omega))
      rw [hr] at hr2
      injection hr2 with e1 e2
      exact .inr ⟨w.heap.size, Nat.le_refl _, by rw [e1]; rfl⟩

/-- What depends on such blocks alone as nobody writes. -/
structure Quiet (K : (Nat → Own) → World → Prop) : Prop where
  rely : ∀ O w O₁ w₁, K O w → Rs O w O₁ w₁ → K O₁ w₁
theorem Quiet.stab {K : (Nat → Own) → World → Prop} (h : Quiet K) (i : Nat) : Stab i K := ⟨fun O w O₁ w₁ k r => h.rely _ _ _ _ k r.rs⟩
theorem Gd.rs {i : Nat} {rd : Nat → Prop} {O : Nat → Own} {w w' : World} {es : Array Event} (h : Gd i rd O w w' es) : Rs O w (ext O w i) w' :=
  ⟨h.size, fun b hb e => by rw [ext_old hb]; exact e, fun b hb e => h.keep b hb (by rw [e]; simp), h.rest⟩

/-- What goroutine 0 knows: what is still; its two rows, apart. -/
structure KM (KB : (Nat → Own) → World → Prop) (vx : Value) (nx : Nat) (xs : List Value) (vy : Value) (ny : Nat) (ys : List Value) (O : Nat → Own) (w : World) : Prop where
  base : KB O w
  x : RowK vx nx xs O w
  y : RowK vy ny ys O w
  apart : ∀ g, vx.ownBlock = some g → vy.ownBlock ≠ some g
theorem KM.stab {KB : (Nat → Own) → World → Prop} (hB : Quiet KB) {vx : Value} {nx : Nat} {xs : List Value} {vy : Value} {ny : Nat} {ys : List Value} : Stab 0 (KM KB vx nx xs vy ny ys) :=
  ⟨fun O w O₁ w₁ h r => ⟨hB.rely _ _ _ _ h.base r.rs, RowK.stab.rely _ _ _ _ h.x r, RowK.stab.rely _ _ _ _ h.y r, h.apart⟩⟩
theorem KM.swap {KB : (Nat → Own) → World → Prop} {vx : Value} {nx : Nat} {xs : List Value} {vy : Value} {ny : Nat} {ys : List Value} {O : Nat → Own} {w : World} (h : KM KB vx nx xs vy ny ys O w) : KM KB vy ny ys vx nx xs O w :=
  ⟨h.base, h.y, h.x, fun g hg e => h.apart g e hg⟩

section
variable {rd : Nat → Prop} {Stop : Goroutine → (Nat → Own) → World → Prop} {KB : (Nat → Own) → World → Prop} {n : Nat} {O : Nat → Own} {w : World}
variable {b : Frame} {a : Act} {kk : List Item} {cs : List Frame} {ops : Array Oper} {m : Nat} {rest : List Nat} {o : Oper}
/-- An append of one record to the row x. -/
theorem GG.append {s x : Operand} {vx : Value} {nx : Nat} {xs : List Value} {vy : Value} {ny : Nat} {ys va : List Value} {N : Nat} (hB : Quiet KB) (ho : ops[m]? = some o) (hop : o.op = .call { callee := .builtin .append, args := #[s, x], argTypes := #[22, 22] }) (hty : o.type = 22)
    (hs : a.eval s = vx) (hx : a.eval x = .slice (some ⟨N, 0, none⟩) 1 1) (hw : Region.wanted o (yielded ops a.tmps) = true) (hk : b.kind ≠ .early) (hl : va.length = 7) (h1 : ∀ u ∈ va, u.oneCell' = true) (hn : nx ≤ 1000000)
    (hK : KM KB vx nx xs vy ny ys O w ∧ Blk 0 N (.cells va.toArray 25 (0, 0)) O w)
    (next : ∀ v' O w, KM KB v' (nx + 1) (xs ++ va) vy ny ys O w → GG Try.prog 0 rd Stop n (G (b.at (a.put o.dst v') (.inRegion ops rest :: kk)) cs) O w) : GG Try.prog 0 rd Stop (n + 1) (G (b.at a (.inRegion ops (m :: rest) :: kk)) cs) O w := by
  refine GG.op (Stab.and (KM.stab hB) Blk.stab) ho hw hk hK fun O w ⟨hM, hN⟩ => ?_
  have hat : At w N 0 va := by
    intro i v hv
    unfold World.cell?
    simp only [hN.row, Nat.zero_add]
    simpa using hv
  obtain ⟨v', w', hr, hrow, hgrow, hblk, hev⟩ := append_where hM.x.row hl hat h1 hn
  have hxl := hM.x.row.lt
  have hgd : Gd 0 rd O w w' (listed Try.prog b.fn a o w) := by
    refine ⟨hgrow.size, fun c hc hne => hgrow.block c hc fun e => hne (hM.x.own c e.symm), ⟨w'.drawn, w'.heap, ?_⟩, fun e he => ?_⟩
    · have h1 := hgrow.os; have h2 := hgrow.tape; have h3 := hgrow.output
      cases w'; cases w; simp only at h1 h2 h3; subst h1; subst h2; subst h3; rfl
    · have he' : e ∈ (Builtin.append_ #[22, 22] 22 #[vx, .slice (some ⟨N, 0, none⟩) 1 1]).events Try.prog w #[] := by
        have he := mem_listed he
        unfold execOp at he
        simp only [hop, hty] at he
        simpa [resolve, invoke, builtin, hs, hx] using he
      rcases hev e he' with ⟨ad, g1, g2⟩ | ⟨mm, rfl, rfl⟩
      · obtain ⟨l, wr, sy⟩ := e
        simp only at g1 g2
        have hlt : ad.block < w.heap.size := by
          rcases g2 with ⟨_, g2⟩ | g2
          · rw [g2]; exact hN.lt
          · exact (hxl _ g2.symm).2
        refine .inl ⟨ad, wr, sy, by rw [g1], Nat.lt_of_lt_of_le hlt hgrow.size, .inl ?_⟩
        rw [ext_old hlt]
        rcases g2 with ⟨_, g2⟩ | g2
        · rw [g2]; exact hN.own
        · exact hM.x.own _ g2.symm
      · exact .inr rfl
  refine ⟨v', w', by unfold execOp; simp only [hop, hty]; simp [resolve, invoke, builtin, hs, hx, hr], hgd, next v' _ _ ?_⟩
  have hyl := hM.y.row.lt
  refine ⟨hB.rely _ _ _ _ hM.base (Gd.rs hgd), ⟨hrow, fun g hg => ?_⟩, ⟨?_, fun g hg => by rw [ext_old (hyl g hg).2]; exact hM.y.own g hg⟩, fun g hg e => ?_⟩
  · rcases hblk with e | ⟨g', hg', e⟩
    · rw [e] at hg
      rw [ext_old (hxl g hg).2]; exact hM.x.own g hg
    · rw [e] at hg
      obtain rfl := Option.some.inj hg
      exact ext_new hg'
  · refine hM.y.row.kept hgrow ?_
    cases e : vy.ownBlock with
    | none => exact .inl rfl
    | some g =>
      refine .inr fun h => hM.apart g ?_ e
      exact h.symm
  · rcases hblk with e' | ⟨g', hg', e'⟩
    · rw [e'] at hg; exact hM.apart g hg e
    · rw [e'] at hg
      obtain rfl := Option.some.inj hg
      have := (hyl _ e).2
      omega
end
end Go.Proofs.Ytpoknlbnookhjaa.Gt
