/- slices.Delete of the first of a row, over a block of any kind. -/
import Derived.Test.YtfkjjaimilkfcaaAp
import Derived.Test.YtfkjjaimilkfcaaTb
import Derived.WalkKit
import Derived.Lib.Hide
import Derived.Below
import Derived.RegionTactic
import Derived.BigRegion
import Derived.OwnWalk
import Derived.Deep.RegionLaw
import Derived.StillTailTactics
import Derived.Laws.IdiomCopy
set_option linter.unusedVariables false
set_option linter.unusedSimpArgs false
namespace Go.Proofs.Ytfkjjaimilkfcaa.Md
open Go.RowKit Go.Proofs.Ytfkjjaimilkfcaa.Ae Go.Proofs.Ytfkjjaimilkfcaa.Ap Go.Proofs.Ytfkjjaimilkfcaa
def zeroR : Value := .agg #[.int .u32 0, .int .u32 0, .int .i64 0, .bool false, .int .u32 0, .int .u32 0, .int .i64 0]
theorem info28' : (Try.prog.info? 28).map (fun i => (i.zero, i.size)) = some (some zeroR, 7) := by kernel_rfl
theorem info28 : ∃ i, Try.prog.info? 28 = some i ∧ i.size = 7 ∧ i.zero = some zeroR := by
  have h := info28'
  cases e : Try.prog.info? 28 with
  | none => rw [e] at h; cases h
  | some i =>
    rw [e] at h
    simp only [Option.map, Option.some.injEq, Prod.mk.injEq] at h
    exact ⟨i, rfl, h.2, h.1⟩
theorem zero28 (w : World) : (zeroValue 28).run Try.prog w = .ok zeroR w := by
  obtain ⟨i, hi, _, hz⟩ := info28
  simp [zeroValue, typeInfo, hi, hz]
/-- A block's cells: its first are these. -/
structure Row (w : World) (g : Nat) (ty : TypeId) (sz : Nat) (xs : List Value) : Prop where
  here : ∃ cs : Array Value, w.heap[g]? = some (.cells cs ty (0, 0)) ∧ cs.size = sz ∧ cs.toList.take xs.length = xs
theorem puts_sets : ∀ (xs : List Value) (o : Nat) (w : World) (b : Nat), w.setCells b o xs = wputs w b o xs
  | [], _, _, _ => rfl
  | x :: r, o, w, b => by simp only [World.setCells, wputs]; exact puts_sets r (o + 1) _ b
theorem Row.isS {w : World} {g : Nat} {ty : TypeId} {sz : Nat} {xs : List Value} (h : Row w g ty sz xs) (j : Nat) (hj : j < sz) : (w.cell? ⟨g, j, none⟩).isSome = true ∧ w.frozen? ⟨g, j, none⟩ = false := by
  obtain ⟨cs, h1, h2, _⟩ := h.here
  exact ⟨by simp [World.cell?, h1, h2, hj], by simp [World.frozen?, h1]⟩
theorem Row.cellAt {w : World} {g : Nat} {ty : TypeId} {sz : Nat} {xs : List Value} (h : Row w g ty sz xs) (j : Nat) (u : Value) (hu : xs[j]? = some u) : w.cell? ⟨g, j, none⟩ = some u := by
  obtain ⟨cs, h1, h2, h3⟩ := h.here
  have hj : j < xs.length := (List.getElem?_eq_some_iff.1 hu).1
  rw [← h3, List.getElem?_take_of_lt hj, Array.getElem?_toList] at hu
  simp [World.cell?, h1, hu]
theorem Row.drew {w : World} {g : Nat} {ty : TypeId} {sz : Nat} {xs : List Value} (h : Row w g ty sz xs) : Row w.drew g ty sz xs := ⟨h.here⟩
/-- Cells that are put at a place. -/
theorem Row.put {w : World} {g : Nat} {ty : TypeId} {sz : Nat} {xs : List Value} (h : Row w g ty sz xs) (o : Nat) (ys : List Value) (hl : o + ys.length ≤ sz) (h1 : ∀ u ∈ ys, u.oneCell' = true) :
    ∃ cs cs' : Array Value, w.heap[g]? = some (.cells cs ty (0, 0)) ∧ cs.toList.take xs.length = xs ∧ (w.setCells g o ys).heap[g]? = some (.cells cs' ty (0, 0)) ∧ cs'.size = sz ∧ cs'.toList = setL cs.toList o ys ∧ w.grownBy (w.setCells g o ys) (some g) ∧ (w.setCells g o ys).heap.size = w.heap.size := by
  obtain ⟨cs, h2, h3, h4⟩ := h.here
  obtain ⟨_, cs', g2, g3, g4⟩ := run_store_raw (P := Try.prog) ys o 0 w cs h2 (by omega) h1
  obtain ⟨p1, p2, p3, p4, p5⟩ := puts_same g ys o w
  rw [Nat.add_zero] at g2 g4
  refine ⟨cs, cs', h2, h4, by rw [puts_sets]; exact g2, by omega, g4, ?_⟩
  rw [puts_sets]
  exact ⟨⟨p1, p2, p3, Nat.le_of_eq p4.symm, fun k _ hk => p5 k (fun e => hk (by simp [e]))⟩, p4⟩
theorem step_append_row {P : Program} {ops : Array Oper} {w : World} {o : Oper} {a : Act} {K : Act → World → Prop} {Q : Exit → Act → World → Prop} {E : Prop} (hg : o.guard = none) (s x : Operand) (t : TypeId)
    (ho : o.op = .call { callee := .builtin .append, args := #[s, x], argTypes := #[t, t] })
    (e : TypeId) (i : TypeInfo) (ht : P.underlying t = some (.slice e)) (hi : P.info? e = some i) (hsize : i.size = 7)
    (g cap : Nat) (hs : a.eval s = .slice (some ⟨g, 0, none⟩) 0 cap) (hc : ∀ j, j < cap * 7 → (w.cell? ⟨g, j, none⟩).isSome = true ∧ w.frozen? ⟨g, j, none⟩ = false)
    (ad : Addr) (m c : Nat) (news : List Value) (hx : a.eval x = .slice (some ad) m c) (hl : news.length = m * 7) (hnews : ∀ j u, news[j]? = some u → w.cell? (ad.add j) = some u) (h1 : ∀ u ∈ news, u.oneCell' = true)
    (hroom : m ≤ cap)
    (h : K (a.put o.dst (.slice (some ⟨g, 0, none⟩) m cap)) (w.setCells g 0 news)) :
    if Region.wanted o (yielded ops a.tmps) = true then Oper.wp P o a w K Q else E := by
  rw [if_pos (by simp [Region.wanted, hg])]
  have hm : m * 7 ≤ cap * 7 := Nat.mul_le_mul_right 7 hroom
  have hr := run_append_room_cells (P := P) (w := w) t o.type e i ht hi g 0 0 cap ad m c news (by rw [hsize]; exact hl) hnews h1 (by omega) (fun j hj => by simpa using (hc j (by omega)).1) (fun j hj => by simpa using (hc j (by omega)).2)
  simp only [Nat.zero_mul, Nat.zero_add] at hr
  unfold Oper.wp execOp
  simp only [ho, resolve, invoke, builtin, Sem.run_bind, Sem.run_pure, Result.andThen_ok, List.map_toArray, List.map_cons, List.map_nil, hs, hx, hr]
  exact h
set_option maxHeartbeats 1000000 in
theorem cDelete (W : World) (g cap n sz : Nat) (ty : TypeId) (x7 ys : List Value) (h7 : x7.length = 7) (hl : ys.length = n * 7) (hone : ∀ u ∈ ys, u.oneCell' = true) (h : Row W g ty sz (x7 ++ ys)) (hc1 : n + 1 ≤ cap) (hc2 : cap ≤ maxLen) (hsz : cap * 7 ≤ sz) (hm : n ≤ 1000) :
    Calls Try.prog 16 #[.slice (some ⟨g, 0, none⟩) (n + 1 : Nat) cap, .int .i64 0, .int .i64 1] W fun e w' => e = .returned (.slice (some ⟨g, 0, none⟩) n cap) ∧
      Row w' g ty sz ys ∧ W.grownBy w' (some g) ∧ w'.heap.size = W.heap.size := by
  obtain ⟨A, hA, hsrc⟩ : ∃ A : Addr, (if cap = 1 then some (⟨g, 0, none⟩ : Addr) else some ⟨g, 7, none⟩) = some A ∧ Hid (∀ t u, ys[t]? = some u → W.drew.cell? (A.add t) = some u) := by
    by_cases h1 : cap = 1
    · refine ⟨⟨g, 0, none⟩, by simp [h1], Lib.hid fun t u hu => ?_⟩
      obtain rfl : ys = [] := List.eq_nil_of_length_eq_zero (by omega)
      simp at hu
    · refine ⟨⟨g, 7, none⟩, by simp [h1], Lib.hid fun t u hu => ?_⟩
      rw [Addr.add_lit]
      exact h.cellAt (7 + t) u (by rw [List.getElem?_append_right (by omega), h7, Nat.add_sub_cancel_left]; exact hu)
  obtain ⟨i0, hi, hz1, hz0⟩ := info28
  have hyl : 0 + ys.length ≤ sz := by omega
  obtain ⟨cs, cs', w1, w2, w3, w4, w5, w6, w7⟩ := h.drew.put 0 ys hyl hone
  have hS : ∀ j, j < cap * 7 → (W.drew.cell? ⟨g, j, none⟩).isSome = true ∧ W.drew.frozen? ⟨g, j, none⟩ = false := fun j hj => h.drew.isS j (by omega)
  have HS := Lib.hid hS
  have hR1 : Row (W.drew.setCells g 0 ys) g ty sz ys := ⟨cs', w3, w4, by
    rw [w5]
    have hcl : ys.length ≤ cs.toList.length := by
      have := congrArg List.length w2
      simp only [List.length_take, List.length_append] at this
      omega
    obtain ⟨r', e⟩ := setL_end (xs := []) (ys := ys) (zs := []) (rest := cs.toList) hcl
    simp only [List.nil_append, List.length_nil] at e
    rw [e, List.take_left]⟩
  obtain ⟨zc, hz1', hz2, hcl⟩ : ∃ zc : List Value, zc.length = 7 ∧ (∀ u ∈ zc, u.oneCell' = true) ∧ ∀ ty' c, (Builtin.clear_ #[22] ty' #[.slice (some ⟨g, n * 7, none⟩) 1 c]).run Try.prog (W.drew.setCells g 0 ys) = .ok (.tuple #[]) ((W.drew.setCells g 0 ys).setCells g (n * 7) zc) := by
    have h6 : zeroR.cells.size = 7 := rfl
    have h1 : ∀ u ∈ zeroR.cells.toList, u.oneCell' = true := by intro u hu; simp [zeroR, Value.cells] at hu; rcases hu with rfl | rfl | rfl | rfl | rfl | rfl | rfl <;> rfl
    refine ⟨zeroR.cells.toList, rfl, h1, ?_⟩
    intro ty' c
    exact run_clear_one _ 22 28 ty' zeroR Try.underlying22 zero28 h1 g _ c
      (fun j hj => (hR1.isS (n * 7 + j) (by rw [h6] at hj; omega)).1) (fun j hj => (hR1.isS (n * 7 + j) (by rw [h6] at hj; omega)).2)
  obtain ⟨cs2, cs3, x1, x2, x3, x4, x5, x6, x7'⟩ := hR1.put (n * 7) zc (by omega) hz2
  have hEnd : Row ((W.drew.setCells g 0 ys).setCells g (n * 7) zc) g ty sz ys := ⟨cs3, x3, x4, by
    rw [x5]
    have hc2l : cs2.toList.length = sz := by
      obtain ⟨cs4, q1, q2, _⟩ := hR1.here
      rw [x1] at q1; injection q1 with q1; injection q1 with q1; subst q1
      simpa using q2
    obtain ⟨rest, hsp, hrl⟩ : ∃ rest, cs2.toList = ys ++ rest ∧ ys.length + rest.length = sz := ⟨cs2.toList.drop ys.length, by conv => lhs; rw [← List.take_append_drop ys.length cs2.toList, x2], by simp only [List.length_drop]; omega⟩
    obtain ⟨r', e⟩ := setL_end (xs := ys) (ys := zc) (zs := []) (rest := rest) (by omega)
    rw [hsp, ← hl, e, List.append_assoc, List.take_left]⟩
  have hgr : W.grownBy ((W.drew.setCells g 0 ys).setCells g (n * 7) zc) (some g) :=
    ⟨x6.os.trans w6.os, x6.tape.trans w6.tape, x6.output.trans w6.output, Nat.le_trans w6.size x6.size, fun k hk hne => (x6.block k (Nat.lt_of_lt_of_le hk w6.size) hne).trans (w6.block k hk hne)⟩
  have HE := Lib.hid (And.intro hEnd (And.intro hgr (x7'.trans w7)))
  have HL := Lib.hid hl
  have HO := Lib.hid hone
  have hl1 : 1 ≤ cap := by omega
  have hmx : cap ≤ 9223372036854775807 := by unfold maxLen at hc2; omega
  have hge : (1 : Int) ≤ (n : Int) + 1 := by omega
  clear h hc2 hS hR1 w1 w2 w3 w4 w5 w6 w7 x1 x2 x3 x4 x5 x6 x7' hEnd hgr hyl hl hone hz1' hz2
  go_enter Try.func16, Try.ntmps16
  go_wp2_with fail
  go_region_law ((refine step_append_row rfl (.tmp 22) (.tmp 25) 22 rfl 28 i0 Try.underlying22 hi hz1 g cap (by simp [Act.eval, Act.put]) HS.out A n (cap - 1) ys (by simp [Act.eval, Act.put]) HL.out hsrc.out HO.out (by omega) ?_))
  go_wp2_with fail
  go_ret
  exact ⟨rfl, HE.out⟩
theorem rels_cut2 {R : Ren} : ∀ {a b : List V} {xs : List Value}, rels R (a ++ b) xs → ∃ ys zs, xs = ys ++ zs ∧ rels R a ys ∧ rels R b zs
  | [], b, xs, h => ⟨[], xs, rfl, .nil, h⟩
  | x :: a, b, _, h => by
    cases h with
    | cons h1 h2 =>
      obtain ⟨ys, zs, rfl, e1, e2⟩ := rels_cut2 h2
      exact ⟨_ :: ys, zs, rfl, .cons h1 e1, e2⟩
theorem flat_recs (n : Nat) (f : Nat → List V) : flat [.recs 7 (n + 1) f] = f 0 ++ flat [.recs 7 n (fun i => f (i + 1))] := by
  simp only [flat, Seg.flat, List.flatMap_cons, List.flatMap_nil, List.append_nil, List.range_succ_eq_map, List.flatMap_map]
theorem del0 (n : Nat) (f : Nat → List V) (hf : ∀ i, (f i).length = 7) (hn : n ≤ 1000) : AC Try.prog 16 [.v (.sl 0 0 0 (n + 1) 7), .v (.int .i64 0), .v (.int .i64 1)] [.rw [.recs 7 (n + 1) f]]
    (fun v H => v = .v (.sl 0 0 0 n 7) ∧ H = [.rw [.recs 7 n (fun i => f (i + 1))]]) := by
  refine ⟨⟨_, Try.func16, rfl, rfl⟩, fun R w vs ha hr => ?_⟩
  cases ha with
  | cons hx ha => cases ha with
    | cons h0 ha => cases ha with
      | cons h1 ha =>
        cases ha
        have h0 : _ = Value.int .i64 0 := h0
        have h1 : _ = Value.int .i64 1 := h1
        subst h0 h1
        obtain ⟨m, c, hR, ho, cs, ty, fr, pre, xs, rest, a1, a2, a3, a4, a5⟩ := hr.holds 0 _ _ rfl rfl
        have hown := hr.own 0 _ m c rfl hR
        obtain ⟨cs', ty', b1, b2, b3⟩ := hown
        rw [a1] at b1; injection b1 with b1; injection b1 with e1 e2 e3; subst e1 e2 e3
        obtain ⟨m', c', hR', hv⟩ := hx
        rw [hR] at hR'; injection hR' with hR'; injection hR' with e4 e5; subst e4 e5
        rcases hv with ⟨cap, rfl, q1, q2, q3⟩ | ⟨hz, _⟩
        case inr => exact absurd hz (by omega)
        rw [b3] at a2 ⊢
        have hpre : pre = [] := List.eq_nil_of_length_eq_zero a2
        subst hpre
        rw [flat_recs] at a4
        obtain ⟨x7, ys, rfl, r1, r2⟩ := rels_cut2 a4
        have hl7 : x7.length = 7 := (rels_len r1).symm.trans (hf 0)
        have hfl : (flat [.recs 7 n (fun i => f (i + 1))]).length = n * 7 := by
          have : ∀ (l : List Nat), (l.flatMap (fun i => f (i + 1))).length = l.length * 7 := by
            intro l
            induction l with
            | nil => rfl
            | cons a l ih => simp only [List.flatMap_cons, List.length_append, ih, hf, List.length_cons]; omega
          simp only [flat, Seg.flat, List.flatMap_cons, List.flatMap_nil, List.append_nil]
          rw [this, List.length_range]
        have hly : ys.length = n * 7 := (rels_len r2).symm.trans hfl
        have hrow : Row w m ty c.2 (x7 ++ ys) := ⟨cs, a1, b2, by rw [a3, List.nil_append, List.take_left]⟩
        simp only [Nat.zero_add, Nat.zero_mul] at q2 ⊢
        refine (cDelete w m cap n c.2 ty x7 ys hl7 hly (rels_ones r2) hrow q1 q3 q2 hn).mono ?_
        rintro e w' ⟨rfl, ⟨cs1, g1, g2, g3⟩, hg, hsz⟩
        have hsame : ∀ k, k ≠ m → w'.heap[k]? = w.heap[k]? := by
          intro k hk
          rcases Nat.lt_or_ge k w.heap.size with h | h
          · exact hg.block k h (fun e => hk (Option.some.inj e))
          · rw [Array.getElem?_eq_none h, Array.getElem?_eq_none (by omega)]
        have hH : Holds R w' [.recs 7 n (fun i => f (i + 1))] m c := by
          refine ⟨fun s hs => ?_, cs1, ty, (0, 0), [], ys, cs1.toList.drop ys.length, g1, by rw [b3]; rfl, by rw [List.nil_append]; conv => lhs; rw [← List.take_append_drop ys.length cs1.toList, g3], r2, ?_⟩
          · simp at hs; subst hs; exact fun i _ => hf (i + 1)
          · rw [hfl]
            have := congrArg List.length a3
            simp only [List.length_append, List.length_nil, Array.length_toList] at this
            omega
        exact ⟨.v (.sl 0 0 0 n 7), _, [.rw [.recs 7 n (fun i => f (i + 1))]], R, ⟨rfl, rfl⟩, rfl,
          ⟨m, c, hR, .inl ⟨cap, by rw [b3], by omega, by simpa using q2, q3⟩⟩,
          hr.upd (n := 0) rfl hR hH ⟨cs1, ty, g1, g2, b3⟩ hsame,
          Go.upd (n := 0) rfl hR hg.os hg.tape hg.output hsz hsame⟩
end Go.Proofs.Ytfkjjaimilkfcaa.Md
