/- slices.Delete of the first of a row; and the contract of gate's Second. -/
import Derived.Test.YtfkjjaimilkfcaaGf
import Derived.StillTailTactics
set_option linter.unusedVariables false
set_option linter.unusedSimpArgs false
namespace Go.Proofs.Ytfkjjaimilkfcaa.Gt
open Go.RowKit Go.Proofs.Ytfkjjaimilkfcaa.Bv Go.Proofs.Ytfkjjaimilkfcaa.Al Go.Proofs.Ytfkjjaimilkfcaa.Ap
def zeroR : Value := .agg #[.int .u32 0, .int .u32 0, .int .i64 0, .bool false, .int .u32 0, .int .u32 0, .int .i64 0]
theorem zero28 (w : World) : (zeroValue 28).run Try.prog w = .ok zeroR w := by
  obtain ⟨i0, hi, hz0, hz1, hz2⟩ := info_parts info28
  simp [zeroValue, typeInfo, hi, hz0, zeroR]
theorem owns_none {W : World} {B g n cap : Nat} {xs : List Value} (h : W.ownsRow B 28 7 (.slice (some ⟨g, 0, none⟩) n cap) n xs) : W.ownsRow B 28 7 (.slice (some ⟨g, 0, none⟩) 0 cap) 0 [] := by
  rcases h.2 with ⟨h', _⟩ | ⟨g', cap', cur, h', hb, hg, hnc, hcm, hcs, htake⟩
  · simp at h'
  · simp only [Value.slice.injEq, Option.some.injEq, Addr.mk.injEq, and_true, true_and] at h'
    obtain ⟨rfl, rfl⟩ := h'
    exact ⟨rfl, Or.inr ⟨g, cap, cur, rfl, hb, hg, Nat.zero_le _, hcm, hcs, by simp⟩⟩
theorem owns_cap {W : World} {B g n cap : Nat} {xs : List Value} (h : W.ownsRow B 28 7 (.slice (some ⟨g, 0, none⟩) n cap) n xs) : n ≤ cap ∧ cap ≤ maxLen := by
  rcases h.2 with ⟨h', _⟩ | ⟨g', cap', cur, h', hb, hg, hnc, hcm, hcs, htake⟩
  · simp at h'
  · simp only [Value.slice.injEq, Option.some.injEq, Addr.mk.injEq, and_true, true_and] at h'
    obtain ⟨rfl, rfl⟩ := h'
    exact ⟨hnc, hcm⟩
theorem flat_one (l : List R) : ∀ u ∈ flat l, u.oneCell' = true := by
  induction l with
  | nil => intro u hu; simp [flat] at hu
  | cons r l ih =>
    intro u hu
    rw [flat, List.mem_append] at hu
    rcases hu with hu | hu
    · exact r_one r u hu
    · exact ih u hu
set_option maxHeartbeats 1000000 in
theorem cDelete (W : World) (B g cap : Nat) (r : R) (l : List R) (h : W.ownsRow B 28 7 (.slice (some ⟨g, 0, none⟩) (l.length + 1) cap) (l.length + 1) (flat (r :: l))) (hm : l.length ≤ 1000) :
    Calls Try.prog 16 #[.slice (some ⟨g, 0, none⟩) (l.length + 1 : Nat) cap, .int .i64 0, .int .i64 1] W fun e w' => e = .returned (.slice (some ⟨g, 0, none⟩) l.length cap) ∧
      w'.ownsRow B 28 7 (.slice (some ⟨g, 0, none⟩) l.length cap) l.length (flat l) ∧ W.grownBy w' (some g) := by
  obtain ⟨hc1, hc2⟩ := owns_cap h
  have hlen : (flat (r :: l)).length = (l.length + 1) * 7 := flat_length (r :: l)
  obtain ⟨A, hA, hsrc⟩ : ∃ A : Addr, (if cap = 1 then some (⟨g, 0, none⟩ : Addr) else some ⟨g, 7, none⟩) = some A ∧ Hid (∀ t u, (flat l)[t]? = some u → W.drew.cell? (A.add t) = some u) := by
    by_cases h1 : cap = 1
    · refine ⟨⟨g, 0, none⟩, by simp [h1], fun t u hu => ?_⟩
      obtain rfl : l = [] := List.eq_nil_of_length_eq_zero (by omega)
      simp [flat] at hu
    · refine ⟨⟨g, 7, none⟩, by simp [h1], fun t u hu => ?_⟩
      have ht : t < l.length * 7 := by rw [← flat_length]; exact (List.getElem?_eq_some_iff.1 hu).1
      rw [Addr.add_lit]
      show W.cell? ⟨g, 7 + t, none⟩ = some u
      rw [h.cellAt (7 + t) (by omega), flat, List.getElem?_append_right (by simp [R.cells]), ← hu]
      congr 1
      simp [R.cells]
  obtain ⟨i0, hi, hz0, hz1, hz2⟩ := info_parts info28
  have HO := Lib.hid (owns_none h)
  have hl1 : 1 ≤ cap := by omega
  have hmx : cap ≤ 9223372036854775807 := by unfold maxLen at hc2; omega
  have HF := Lib.hid (flat_length l)
  clear h hlen hc2
  have hge : (1 : Int) ≤ (l.length : Int) + 1 := by omega
  obtain ⟨zc, hcl⟩ : ∃ zc : List Value, ∀ (W1 : World), W1.ownsRow B 28 7 (.slice (some ⟨g, 0, none⟩) l.length cap) l.length (flat l) → ∀ ty c, (Builtin.clear_ #[22] ty #[.slice (some ⟨g, l.length * 7, none⟩) 1 c]).run Try.prog W1 = .ok (.tuple #[]) (W1.setCells g (l.length * 7) zc) := by
    refine ⟨zeroR.cells.toList, ?_⟩
    intro W1 h1 ty c
    have h6 : zeroR.cells.size = 7 := rfl
    exact run_clear_one W1 22 28 ty zeroR Try.underlying22 zero28 (by intro u hu; simp [zeroR, Value.cells] at hu; rcases hu with rfl | rfl | rfl | rfl | rfl | rfl | rfl <;> rfl) g _ c
      (fun j hj => (owns_there h1 (l.length * 7 + j) (by rw [h6] at hj; omega)).1) (fun j hj => (owns_there h1 (l.length * 7 + j) (by rw [h6] at hj; omega)).2)
  have HC := Lib.hid hcl
  clear hcl
  go_enter Try.func16, Try.ntmps16
  go_wp2_with fail
  go_region_law ((refine step_append_fits rfl (.tmp 22) (.tmp 25) 22 rfl B 28 i0 7 Try.underlying22 hi hz1 g 0 cap [] (by simp [Act.eval, Act.put]) HO.out.drew A l.length (cap - 1) (flat l) (by simp [Act.eval, Act.put]) HF.out hsrc.out (flat_one l) (by omega) ?_; intro W1 hown hgrow; simp only [Nat.zero_add, List.nil_append] at hown; have hcl := HC.out W1 hown))
  go_wp2_with fail
  go_ret
  have h2 := grown_sets W1 g zc (l.length * 7)
  exact ⟨rfl, owns_pasts hown _ _ (Nat.le_refl _), ⟨h2.os.trans hgrow.os, h2.tape.trans hgrow.tape, h2.output.trans hgrow.output, Nat.le_trans hgrow.size h2.size, fun k hk hne => (h2.block k (Nat.lt_of_lt_of_le hk hgrow.size) hne).trans (hgrow.block k hk hne)⟩⟩
theorem gate_slice {W : World} {B p : Nat} {g : Option Nat} {r : R} {l : List R} (h : Gate W B p g (r :: l)) : ∃ q cap, g = some q ∧ W.cell? ⟨p, 0, none⟩ = some (.slice (some ⟨q, 0, none⟩) (l.length + 1) cap) ∧
    W.ownsRow B 28 7 (.slice (some ⟨q, 0, none⟩) (l.length + 1) cap) (l.length + 1) (flat (r :: l)) := by
  obtain ⟨v, hv, hrow, hg⟩ := h.row
  rcases hrow.2 with ⟨_, h0⟩ | ⟨q, cap, cur, rfl, _⟩
  · simp at h0
  · exact ⟨q, cap, hg.symm, hv, hrow⟩
theorem below_grown {W w' : World} (h : Below W.heap.size W w') (r : Option Nat) : W.grownBy w' r := ⟨h.os, h.tape, h.output, h.size, fun k hk _ => h.block k hk⟩
theorem drewN_heap (w : World) (n : Nat) : (w.drewN n).heap = w.heap := rfl
theorem drewN_below {B : Nat} {w W : World} (h : Below B w W) (n : Nat) : Below B w (W.drewN n) := ⟨h.os, h.tape, h.output, h.size, h.block⟩
theorem lt_of_block {W : World} {b : Nat} {o : Obj} (h : W.heap[b]? = some o) : b < W.heap.size := (Array.getElem?_eq_some_iff.1 h).1
theorem frozen_row {W : World} {b : Nat} {cs : Array Value} {t : TypeId} (h : W.heap[b]? = some (.cells cs t (0, 0))) (j : Nat) : W.frozen? ⟨b, j, none⟩ = false := by simp [World.frozen?, h]
theorem below_next {B w1 w2 : World} (h : Below B.heap.size B w1) (k : Below w1.heap.size w1 w2) : Below B.heap.size B w2 :=
  h.trans ⟨k.os, k.tape, k.output, k.size, fun i hi => k.block i (Nat.lt_of_lt_of_le hi h.size)⟩
theorem store7 {W : World} {b : Nat} {c0 c1 c2 c3 c4 c5 c6 : Value} {t : TypeId} (h : W.heap[b]? = some (.cells #[c0, c1, c2, c3, c4, c5, c6] t (0, 0))) (v0 v1 v2 v3 v4 v5 v6 : Value) :
    (((((((W.setCell ⟨b, 0, none⟩ v0).setCell ⟨b, 1, none⟩ v1).setCell ⟨b, 2, none⟩ v2).setCell ⟨b, 3, none⟩ v3).setCell ⟨b, 4, none⟩ v4).setCell ⟨b, 5, none⟩ v5).setCell ⟨b, 6, none⟩ v6).heap[b]? = some (.cells #[v0, v1, v2, v3, v4, v5, v6] t (0, 0)) := by
  simp [World.setCell, Array.getElem?_modify, h]
theorem below7 {W w : World} {B b : Nat} (h : Below B W w) (hb : B ≤ b) (v0 v1 v2 v3 v4 v5 v6 : Value) :
    Below B W (((((((w.setCell ⟨b, 0, none⟩ v0).setCell ⟨b, 1, none⟩ v1).setCell ⟨b, 2, none⟩ v2).setCell ⟨b, 3, none⟩ v3).setCell ⟨b, 4, none⟩ v4).setCell ⟨b, 5, none⟩ v5).setCell ⟨b, 6, none⟩ v6) :=
  ((((((h.setCell (by exact hb) _).setCell (by exact hb) _).setCell (by exact hb) _).setCell (by exact hb) _).setCell (by exact hb) _).setCell (by exact hb) _).setCell (by exact hb) _
theorem ret_r10 (tmps : Array Value) {W : World} {b : Nat} {a0 a1 : Int} {a2 : Int} {a3 : Bool} {a4 a5 a6 : Int} (h : W.heap[b]? = some (.cells #[.int .u32 a0, .int .u32 a1, .int .i64 a2, .bool a3, .int .u32 a4, .int .u32 a5, .int .i64 a6] 28 (0, 0)))
    (ht : tmps[4]?.getD undef = .pointer (some ⟨b, 0, none⟩)) :
    (results Try.f10 tmps).run Try.prog W = .ok (.tuple #[.agg #[.int .u32 a0, .int .u32 a1, .int .i64 a2, .bool a3, .int .u32 a4, .int .u32 a5, .int .i64 a6], tmps[5]?.getD undef]) W := by
  have y0 := cell_of_row W b 0 _ _ _ h
  have y1 := cell_of_row W b 1 _ _ _ h
  have y2 := cell_of_row W b 2 _ _ _ h
  have y3 := cell_of_row W b 3 _ _ _ h
  have y4 := cell_of_row W b 4 _ _ _ h
  have y5 := cell_of_row W b 5 _ _ _ h
  have y6 := cell_of_row W b 6 _ _ _ h
  simp only [List.getElem?_toArray, List.getElem?_cons_zero, List.getElem?_cons_succ] at y0 y1 y2 y3 y4 y5 y6
  simp [results, Try.results10, go_sem, ht, y0, y1, y2, y3, y4, y5, y6]
set_option maxHeartbeats 1000000 in
theorem cSecond_no (W : World) (B p : Nat) (g : Option Nat) (r x : R) (l : List R) (h : Gate W B p g (r :: l)) (hm : l.length ≤ 1000) (hne : r ≠ x) :
    Calls Try.prog 10 #[.pointer (some ⟨p, 0, none⟩), x.agg] W fun e w' => e = .returned (.tuple #[.agg #[.int .u32 0, .int .u32 0, .int .i64 0, .bool false, .int .u32 0, .int .u32 0, .int .i64 0], .int .i64 2]) ∧ Below W.heap.size W w' := by
  obtain ⟨q, cap, rfl, hv, hrow⟩ := gate_slice h
  have hc : ∀ j, j < 7 → W.cell? ⟨q, j, none⟩ = r.cells[j]? := by
    intro j hj
    have h1 := hrow.cellAt j (by omega)
    rw [h1, flat, List.getElem?_append_left (by simp [R.cells]; omega)]
  have c0 := hc 0 (by decide)
  have c1 := hc 1 (by decide)
  have c2 := hc 2 (by decide)
  have c3 := hc 3 (by decide)
  have c4 := hc 4 (by decide)
  have c5 := hc 5 (by decide)
  have c6 := hc 6 (by decide)
  simp only [R.cells, List.getElem?_cons_zero, List.getElem?_cons_succ] at c0 c1 c2 c3 c4 c5 c6
  have hlt := h.lt
  have hq : q < W.heap.size := (hrow.lt q rfl).2
  clear h hrow hc
  go_enter Try.func10, Try.ntmps10
  go_wp2_with fail
  have hd : ((l.length : Int) + 1 == 0) = false := by rw [beq_eq_false_iff_ne]; omega
  have hd2 : ¬ ((l.length : Int) + 1 = 0) := by omega
  have b2 := (((Below.refl W.heap.size W).alloc (Nat.le_refl _) (.cells #[.int .u32 x.pc, .int .u32 x.value, .int .i64 x.rd, .bool x.store, .int .u32 x.addr, .int .u32 x.data, .int .i64 x.mask] 28)).alloc (by simp) (.cells #[.int .u32 0, .int .u32 0, .int .i64 0, .bool false, .int .u32 0, .int .u32 0, .int .i64 0] 28))
  have e0 := (b2.cell (p := ⟨q, 0, none⟩) hq).trans c0
  have e1 := (b2.cell (p := ⟨q, 1, none⟩) hq).trans c1
  have e2 := (b2.cell (p := ⟨q, 2, none⟩) hq).trans c2
  have e3 := (b2.cell (p := ⟨q, 3, none⟩) hq).trans c3
  have e4 := (b2.cell (p := ⟨q, 4, none⟩) hq).trans c4
  have e5 := (b2.cell (p := ⟨q, 5, none⟩) hq).trans c5
  have e6 := (b2.cell (p := ⟨q, 6, none⟩) hq).trans c6
  have ev := (b2.cell (p := ⟨p, 0, none⟩) hlt).trans hv
  have x0 : ((W.alloc (.cells #[.int .u32 x.pc, .int .u32 x.value, .int .i64 x.rd, .bool x.store, .int .u32 x.addr, .int .u32 x.data, .int .i64 x.mask] 28)).alloc (.cells #[.int .u32 0, .int .u32 0, .int .i64 0, .bool false, .int .u32 0, .int .u32 0, .int .i64 0] 28)).heap[W.heap.size]? = some (.cells #[.int .u32 x.pc, .int .u32 x.value, .int .i64 x.rd, .bool x.store, .int .u32 x.addr, .int .u32 x.data, .int .i64 x.mask] 28) := by
    rw [Below.heap_alloc _ _ _ (by simp)]; exact heap_alloc_new _ _
  have x1 : ((W.alloc (.cells #[.int .u32 x.pc, .int .u32 x.value, .int .i64 x.rd, .bool x.store, .int .u32 x.addr, .int .u32 x.data, .int .i64 x.mask] 28)).alloc (.cells #[.int .u32 0, .int .u32 0, .int .i64 0, .bool false, .int .u32 0, .int .u32 0, .int .i64 0] 28)).heap[W.heap.size + 1]? = some (.cells #[.int .u32 0, .int .u32 0, .int .i64 0, .bool false, .int .u32 0, .int .u32 0, .int .i64 0] 28) := by
    have h := heap_alloc_new (W.alloc (.cells #[.int .u32 x.pc, .int .u32 x.value, .int .i64 x.rd, .bool x.store, .int .u32 x.addr, .int .u32 x.data, .int .i64 x.mask] 28)) (.cells #[.int .u32 0, .int .u32 0, .int .i64 0, .bool false, .int .u32 0, .int .u32 0, .int .i64 0] 28)
    rwa [show (W.alloc (.cells #[.int .u32 x.pc, .int .u32 x.value, .int .i64 x.rd, .bool x.store, .int .u32 x.addr, .int .u32 x.data, .int .i64 x.mask] 28)).heap.size = W.heap.size + 1 from by simp] at h
  clear c0 c1 c2 c3 c4 c5 c6 hv
  generalize (W.alloc _).alloc _ = W2 at b2 e0 e1 e2 e3 e4 e5 e6 ev x0 x1 ⊢
  have y0 := cell_of_row W2 W.heap.size 0 _ _ _ x0
  have y1 := cell_of_row W2 W.heap.size 1 _ _ _ x0
  have y2 := cell_of_row W2 W.heap.size 2 _ _ _ x0
  have y3 := cell_of_row W2 W.heap.size 3 _ _ _ x0
  have y4 := cell_of_row W2 W.heap.size 4 _ _ _ x0
  have y5 := cell_of_row W2 W.heap.size 5 _ _ _ x0
  have y6 := cell_of_row W2 W.heap.size 6 _ _ _ x0
  simp only [List.getElem?_toArray, List.getElem?_cons_zero, List.getElem?_cons_succ] at y0 y1 y2 y3 y4 y5 y6
  have X1 := Lib.hid x1
  clear x0 x1
  go_still_tail 14, (by kernel_rfl)
  change wpList _ _ _ _ _ W2.drew
  go_wp2_with fail
  refine (cSame r x _).mono ?_
  rintro e w3 ⟨rfl, b3⟩
  rw [decide_eq_false hne]
  have hs2 : W.heap.size + 1 < W2.heap.size := lt_of_block X1.out
  have X3 := Lib.hid ((b3.block (W.heap.size + 1) hs2).trans X1.out)
  have b4 := Lib.hid (below_next b2 (Below.trans (Below.refl W2.heap.size W2).drew b3))
  have y0 := cell_of_row w3 (W.heap.size + 1) 0 _ _ _ X3.out
  have y1 := cell_of_row w3 (W.heap.size + 1) 1 _ _ _ X3.out
  have y2 := cell_of_row w3 (W.heap.size + 1) 2 _ _ _ X3.out
  have y3 := cell_of_row w3 (W.heap.size + 1) 3 _ _ _ X3.out
  have y4 := cell_of_row w3 (W.heap.size + 1) 4 _ _ _ X3.out
  have y5 := cell_of_row w3 (W.heap.size + 1) 5 _ _ _ X3.out
  have y6 := cell_of_row w3 (W.heap.size + 1) 6 _ _ _ X3.out
  simp only [List.getElem?_toArray, List.getElem?_cons_zero, List.getElem?_cons_succ] at y0 y1 y2 y3 y4 y5 y6
  have f0 := frozen_row X3.out 0
  have f1 := frozen_row X3.out 1
  have f2 := frozen_row X3.out 2
  have f3 := frozen_row X3.out 3
  have f4 := frozen_row X3.out 4
  have f5 := frozen_row X3.out 5
  have f6 := frozen_row X3.out 6
  clear b3 b2 e0 e1 e2 e3 e4 e5 e6 ev X1
  go_wp2_with fail
  have hst := store7 X3.out (.int .u32 0) (.int .u32 0) (.int .i64 0) (.bool false) (.int .u32 0) (.int .u32 0) (.int .i64 0)
  have hbl := below7 b4.out (b := W.heap.size + 1) (by omega) (.int .u32 0) (.int .u32 0) (.int .i64 0) (.bool false) (.int .u32 0) (.int .u32 0) (.int .i64 0)
  clear y0 y1 y2 y3 y4 y5 y6 f0 f1 f2 f3 f4 f5 f6
  generalize World.setCell _ _ _ = W5 at hst hbl ⊢
  exact bodyPost_ret (ret_r10 _ hst rfl) rfl ⟨rfl, hbl⟩
theorem grown7 (W : World) (b : Nat) (v0 v1 v2 v3 v4 v5 v6 : Value) :
    W.grownBy (((((((W.setCell ⟨b, 0, none⟩ v0).setCell ⟨b, 1, none⟩ v1).setCell ⟨b, 2, none⟩ v2).setCell ⟨b, 3, none⟩ v3).setCell ⟨b, 4, none⟩ v4).setCell ⟨b, 5, none⟩ v5).setCell ⟨b, 6, none⟩ v6) (some b) :=
  grown_sets W b [v0, v1, v2, v3, v4, v5, v6] 0
theorem second_end {W w3 w4 w6 : World} {B p q cap : Nat} {x : R} {l : List R} {V : Value} (HG : Gate W B p (some q) (x :: l)) (hpq : p ≠ q) (b4 : Below W.heap.size W w3) (hg4 : w3.grownBy w4 (some q))
    (hown : w4.ownsRow B 28 7 (.slice (some ⟨q, 0, none⟩) l.length cap) l.length (flat l)) (hq : q < W.heap.size) (hlt : p < W.heap.size) (ev4 : w4.cell? ⟨p, 0, none⟩ = some V) (ef4 : w4.frozen? ⟨p, 0, none⟩ = false)
    (hgr : (w4.setCell ⟨p, 0, none⟩ (.slice (some ⟨q, 0, none⟩) l.length cap)).grownBy w6 (some (W.heap.size + 1))) : Gate w6 B p (some q) l ∧ Only W w6 p (some q) := by
  have s3 := b4.size
  have s4 := hg4.size
  have s6 := hgr.size
  simp only [World.size_setCell] at s6
  have hold : ∀ k, k < W.heap.size → k ≠ p → w6.heap[k]? = w4.heap[k]? := fun k hk hp =>
    (hgr.block k (by simp; omega) (by intro e; injection e; omega)).trans (Below.heap_setCell _ _ _ _ (by exact hp))
  have hp6 := hgr.block p (by simp; omega) (by intro e; injection e; omega)
  refine ⟨⟨by omega, HG.le, ?_, ⟨.slice (some ⟨q, 0, none⟩) l.length cap, ?_, ?_, rfl⟩, by intro e; injection e; omega⟩, ⟨hgr.os.trans (hg4.os.trans b4.os), hgr.tape.trans (hg4.tape.trans b4.tape), hgr.output.trans (hg4.output.trans b4.output), by omega, fun k hk hp hkq => ?_⟩⟩
  · exact (World.frozen?_of_block (a := ⟨p, 0, none⟩) hp6).trans (by simpa using ef4)
  · exact (World.cell?_of_block (a := ⟨p, 0, none⟩) hp6).trans (World.cell?_setCell_same _ _ _ ev4)
  · have h5 : (w4.setCell ⟨p, 0, none⟩ (.slice (some ⟨q, 0, none⟩) l.length cap)).ownsRow B 28 7 (.slice (some ⟨q, 0, none⟩) l.length cap) l.length (flat l) :=
      hown.kept (row := some p) ⟨rfl, rfl, rfl, by simp, fun k hk hkp => Below.heap_setCell _ _ _ _ (by intro e; apply hkp; rw [e])⟩ (Or.inr (by simp [Value.ownBlock]; omega))
    exact h5.kept hgr (Or.inr (by simp [Value.ownBlock]; omega))
  · rw [hold k hk hp, hg4.block k (by omega) hkq, b4.block k hk]
set_option maxHeartbeats 1000000 in
theorem cSecond_yes (W : World) (B p : Nat) (g : Option Nat) (x : R) (l : List R) (h : Gate W B p g (x :: l)) (hm : l.length ≤ 1000) (hB : B ≤ W.heap.size) :
    Calls Try.prog 10 #[.pointer (some ⟨p, 0, none⟩), x.agg] W fun e w' => e = .returned (.tuple #[x.agg, .int .i64 1]) ∧ Gate w' B p g l ∧ Only W w' p g := by
  obtain ⟨q, cap, rfl, hv, hrow⟩ := gate_slice h
  have hc : ∀ j, j < 7 → W.cell? ⟨q, j, none⟩ = x.cells[j]? := by
    intro j hj
    have h1 := hrow.cellAt j (by omega)
    rw [h1, flat, List.getElem?_append_left (by simp [R.cells]; omega)]
  have c0 := hc 0 (by decide)
  have c1 := hc 1 (by decide)
  have c2 := hc 2 (by decide)
  have c3 := hc 3 (by decide)
  have c4 := hc 4 (by decide)
  have c5 := hc 5 (by decide)
  have c6 := hc 6 (by decide)
  simp only [R.cells, List.getElem?_cons_zero, List.getElem?_cons_succ] at c0 c1 c2 c3 c4 c5 c6
  have hlt := h.lt
  have hq : q < W.heap.size := (hrow.lt q rfl).2
  have HR := Lib.hid hrow
  have HV := Lib.hid hv
  have HF := Lib.hid h.fz
  have HPQ := Lib.hid (show p ≠ q from fun e => h.ne (by rw [e]))
  have HG := Lib.hid h
  clear h hrow hc
  go_enter Try.func10, Try.ntmps10
  go_wp2_with fail
  have hd : ((l.length : Int) + 1 == 0) = false := by rw [beq_eq_false_iff_ne]; omega
  have hd2 : ¬ ((l.length : Int) + 1 = 0) := by omega
  have b2 := (((Below.refl W.heap.size W).alloc (Nat.le_refl _) (.cells #[.int .u32 x.pc, .int .u32 x.value, .int .i64 x.rd, .bool x.store, .int .u32 x.addr, .int .u32 x.data, .int .i64 x.mask] 28)).alloc (by simp) (.cells #[.int .u32 0, .int .u32 0, .int .i64 0, .bool false, .int .u32 0, .int .u32 0, .int .i64 0] 28))
  have e0 := (b2.cell (p := ⟨q, 0, none⟩) hq).trans c0
  have e1 := (b2.cell (p := ⟨q, 1, none⟩) hq).trans c1
  have e2 := (b2.cell (p := ⟨q, 2, none⟩) hq).trans c2
  have e3 := (b2.cell (p := ⟨q, 3, none⟩) hq).trans c3
  have e4 := (b2.cell (p := ⟨q, 4, none⟩) hq).trans c4
  have e5 := (b2.cell (p := ⟨q, 5, none⟩) hq).trans c5
  have e6 := (b2.cell (p := ⟨q, 6, none⟩) hq).trans c6
  have ev := (b2.cell (p := ⟨p, 0, none⟩) hlt).trans hv
  have x0 : ((W.alloc (.cells #[.int .u32 x.pc, .int .u32 x.value, .int .i64 x.rd, .bool x.store, .int .u32 x.addr, .int .u32 x.data, .int .i64 x.mask] 28)).alloc (.cells #[.int .u32 0, .int .u32 0, .int .i64 0, .bool false, .int .u32 0, .int .u32 0, .int .i64 0] 28)).heap[W.heap.size]? = some (.cells #[.int .u32 x.pc, .int .u32 x.value, .int .i64 x.rd, .bool x.store, .int .u32 x.addr, .int .u32 x.data, .int .i64 x.mask] 28) := by
    rw [Below.heap_alloc _ _ _ (by simp)]; exact heap_alloc_new _ _
  have x1 : ((W.alloc (.cells #[.int .u32 x.pc, .int .u32 x.value, .int .i64 x.rd, .bool x.store, .int .u32 x.addr, .int .u32 x.data, .int .i64 x.mask] 28)).alloc (.cells #[.int .u32 0, .int .u32 0, .int .i64 0, .bool false, .int .u32 0, .int .u32 0, .int .i64 0] 28)).heap[W.heap.size + 1]? = some (.cells #[.int .u32 0, .int .u32 0, .int .i64 0, .bool false, .int .u32 0, .int .u32 0, .int .i64 0] 28) := by
    have h := heap_alloc_new (W.alloc (.cells #[.int .u32 x.pc, .int .u32 x.value, .int .i64 x.rd, .bool x.store, .int .u32 x.addr, .int .u32 x.data, .int .i64 x.mask] 28)) (.cells #[.int .u32 0, .int .u32 0, .int .i64 0, .bool false, .int .u32 0, .int .u32 0, .int .i64 0] 28)
    rwa [show (W.alloc (.cells #[.int .u32 x.pc, .int .u32 x.value, .int .i64 x.rd, .bool x.store, .int .u32 x.addr, .int .u32 x.data, .int .i64 x.mask] 28)).heap.size = W.heap.size + 1 from by simp] at h
  clear c0 c1 c2 c3 c4 c5 c6 hv
  generalize (W.alloc _).alloc _ = W2 at b2 e0 e1 e2 e3 e4 e5 e6 ev x0 x1 ⊢
  have y0 := cell_of_row W2 W.heap.size 0 _ _ _ x0
  have y1 := cell_of_row W2 W.heap.size 1 _ _ _ x0
  have y2 := cell_of_row W2 W.heap.size 2 _ _ _ x0
  have y3 := cell_of_row W2 W.heap.size 3 _ _ _ x0
  have y4 := cell_of_row W2 W.heap.size 4 _ _ _ x0
  have y5 := cell_of_row W2 W.heap.size 5 _ _ _ x0
  have y6 := cell_of_row W2 W.heap.size 6 _ _ _ x0
  simp only [List.getElem?_toArray, List.getElem?_cons_zero, List.getElem?_cons_succ] at y0 y1 y2 y3 y4 y5 y6
  have X1 := Lib.hid x1
  have X0 := Lib.hid x0
  clear x0 x1
  go_still_tail 14, (by kernel_rfl)
  change wpList _ _ _ _ _ W2.drew
  go_wp2_with fail
  refine (cSame x x _).mono ?_
  rintro e w3 ⟨rfl, b3⟩
  rw [decide_eq_true (rfl : x = x)]
  have hs2 : W.heap.size + 1 < W2.heap.size := lt_of_block X1.out
  have X3 := Lib.hid ((b3.block (W.heap.size + 1) hs2).trans X1.out)
  have b4 := Lib.hid (below_next b2 (Below.trans (Below.refl W2.heap.size W2).drew b3))
  have y0 := cell_of_row w3 (W.heap.size + 1) 0 _ _ _ X3.out
  have y1 := cell_of_row w3 (W.heap.size + 1) 1 _ _ _ X3.out
  have y2 := cell_of_row w3 (W.heap.size + 1) 2 _ _ _ X3.out
  have y3 := cell_of_row w3 (W.heap.size + 1) 3 _ _ _ X3.out
  have y4 := cell_of_row w3 (W.heap.size + 1) 4 _ _ _ X3.out
  have y5 := cell_of_row w3 (W.heap.size + 1) 5 _ _ _ X3.out
  have y6 := cell_of_row w3 (W.heap.size + 1) 6 _ _ _ X3.out
  simp only [List.getElem?_toArray, List.getElem?_cons_zero, List.getElem?_cons_succ] at y0 y1 y2 y3 y4 y5 y6
  have f0 := frozen_row X3.out 0
  have f1 := frozen_row X3.out 1
  have f2 := frozen_row X3.out 2
  have f3 := frozen_row X3.out 3
  have f4 := frozen_row X3.out 4
  have f5 := frozen_row X3.out 5
  have f6 := frozen_row X3.out 6
  have X30 := Lib.hid ((b3.block W.heap.size (by exact Nat.lt_of_succ_lt hs2)).trans X0.out)
  have hrow3 := HR.out.kept (below_grown b4.out none) (Or.inr (by simp [Value.ownBlock]))
  have hlt3 : p < w3.heap.size := by have := b4.out.size; omega
  have ev3 := (b4.out.cell (p := ⟨p, 0, none⟩) hlt).trans HV.out
  have ef3 := (b4.out.frozen (p := ⟨p, 0, none⟩) hlt).trans HF.out
  clear b3 b2 e0 e1 e2 e3 e4 e5 e6 ev X1 X0 y0 y1 y2 y3 y4 y5 y6 f0 f1 f2 f3 f4 f5 f6
  go_wp2_with fail
  refine (cDelete _ B q cap x l hrow3 hm).mono ?_
  rintro e w4 ⟨rfl, hown4, hg4⟩
  have hpq := HPQ.out
  have ev4 := (World.cell?_of_block (w := w3) (a := ⟨p, 0, none⟩) (hg4.block p hlt3 (by simpa using hpq))).trans ev3
  have ef4 := (World.frozen?_of_block (w := w3) (a := ⟨p, 0, none⟩) (hg4.block p hlt3 (by simpa using hpq))).trans ef3
  have hs3 : W.heap.size + 1 < w3.heap.size := lt_of_block X3.out
  have X41 := Lib.hid ((hg4.block (W.heap.size + 1) hs3 (by intro e; injection e; omega)).trans X3.out)
  have X40 := Lib.hid ((hg4.block W.heap.size (by omega) (by intro e; injection e; omega)).trans X30.out)
  have y0 := cell_of_row w4 W.heap.size 0 _ _ _ X40.out
  have y1 := cell_of_row w4 W.heap.size 1 _ _ _ X40.out
  have y2 := cell_of_row w4 W.heap.size 2 _ _ _ X40.out
  have y3 := cell_of_row w4 W.heap.size 3 _ _ _ X40.out
  have y4 := cell_of_row w4 W.heap.size 4 _ _ _ X40.out
  have y5 := cell_of_row w4 W.heap.size 5 _ _ _ X40.out
  have y6 := cell_of_row w4 W.heap.size 6 _ _ _ X40.out
  have z0 := cell_of_row w4 (W.heap.size + 1) 0 _ _ _ X41.out
  have z1 := cell_of_row w4 (W.heap.size + 1) 1 _ _ _ X41.out
  have z2 := cell_of_row w4 (W.heap.size + 1) 2 _ _ _ X41.out
  have z3 := cell_of_row w4 (W.heap.size + 1) 3 _ _ _ X41.out
  have z4 := cell_of_row w4 (W.heap.size + 1) 4 _ _ _ X41.out
  have z5 := cell_of_row w4 (W.heap.size + 1) 5 _ _ _ X41.out
  have z6 := cell_of_row w4 (W.heap.size + 1) 6 _ _ _ X41.out
  simp only [List.getElem?_toArray, List.getElem?_cons_zero, List.getElem?_cons_succ] at y0 y1 y2 y3 y4 y5 y6 z0 z1 z2 z3 z4 z5 z6
  have f0 := frozen_row X41.out 0
  have f1 := frozen_row X41.out 1
  have f2 := frozen_row X41.out 2
  have f3 := frozen_row X41.out 3
  have f4 := frozen_row X41.out 4
  have f5 := frozen_row X41.out 5
  have f6 := frozen_row X41.out 6
  have HB4 := Lib.hid b4
  have HG4 := Lib.hid hg4
  have HOW := Lib.hid hown4
  clear ev3 ef3 hpq hrow3 hs3 hg4 hown4 b4
  go_wp2_with fail
  have h5 : (w4.setCell ⟨p, 0, none⟩ (.slice (some ⟨q, 0, none⟩) l.length cap)).heap[W.heap.size + 1]? = some (.cells #[.int .u32 0, .int .u32 0, .int .i64 0, .bool false, .int .u32 0, .int .u32 0, .int .i64 0] 28 (0, 0)) :=
    (Below.heap_setCell _ _ _ _ (by show W.heap.size + 1 ≠ p; omega)).trans X41.out
  have hst := store7 h5 (.int .u32 x.pc) (.int .u32 x.value) (.int .i64 x.rd) (.bool x.store) (.int .u32 x.addr) (.int .u32 x.data) (.int .i64 x.mask)
  have hgr := grown7 (w4.setCell ⟨p, 0, none⟩ (.slice (some ⟨q, 0, none⟩) l.length cap)) (W.heap.size + 1) (.int .u32 x.pc) (.int .u32 x.value) (.int .i64 x.rd) (.bool x.store) (.int .u32 x.addr) (.int .u32 x.data) (.int .i64 x.mask)
  have G := second_end HG.out HPQ.out HB4.out HG4.out HOW.out hq hlt ev4 ef4 hgr
  clear y0 y1 y2 y3 y4 y5 y6 z0 z1 z2 z3 z4 z5 z6 f0 f1 f2 f3 f4 f5 f6 hgr
  generalize World.setCell _ _ _ = W5 at hst G ⊢
  exact bodyPost_ret (ret_r10 _ hst rfl) rfl ⟨rfl, G⟩
set_option maxHeartbeats 1000000 in
theorem cSecond_empty (W : World) (B p : Nat) (g : Option Nat) (x : R) (h : Gate W B p g []) :
    Calls Try.prog 10 #[.pointer (some ⟨p, 0, none⟩), x.agg] W fun e w' => e = .returned (.tuple #[.agg #[.int .u32 0, .int .u32 0, .int .i64 0, .bool false, .int .u32 0, .int .u32 0, .int .i64 0], .int .i64 2]) ∧ Below W.heap.size W w' := by
  obtain ⟨v, hv, hrow, hg⟩ := h.row
  obtain ⟨a, c, rfl⟩ := slice_form hrow
  have hlt := h.lt
  clear h hrow hg
  simp only [List.length_nil] at hv
  go_enter Try.func10, Try.ntmps10
  go_wp2_with fail
  have b2 := (((Below.refl W.heap.size W).alloc (Nat.le_refl _) (.cells #[.int .u32 x.pc, .int .u32 x.value, .int .i64 x.rd, .bool x.store, .int .u32 x.addr, .int .u32 x.data, .int .i64 x.mask] 28)).alloc (by simp) (.cells #[.int .u32 0, .int .u32 0, .int .i64 0, .bool false, .int .u32 0, .int .u32 0, .int .i64 0] 28))
  have ev := (b2.cell (p := ⟨p, 0, none⟩) hlt).trans hv
  have x1 : ((W.alloc (.cells #[.int .u32 x.pc, .int .u32 x.value, .int .i64 x.rd, .bool x.store, .int .u32 x.addr, .int .u32 x.data, .int .i64 x.mask] 28)).alloc (.cells #[.int .u32 0, .int .u32 0, .int .i64 0, .bool false, .int .u32 0, .int .u32 0, .int .i64 0] 28)).heap[W.heap.size + 1]? = some (.cells #[.int .u32 0, .int .u32 0, .int .i64 0, .bool false, .int .u32 0, .int .u32 0, .int .i64 0] 28) := by
    have h := heap_alloc_new (W.alloc (.cells #[.int .u32 x.pc, .int .u32 x.value, .int .i64 x.rd, .bool x.store, .int .u32 x.addr, .int .u32 x.data, .int .i64 x.mask] 28)) (.cells #[.int .u32 0, .int .u32 0, .int .i64 0, .bool false, .int .u32 0, .int .u32 0, .int .i64 0] 28)
    rwa [show (W.alloc (.cells #[.int .u32 x.pc, .int .u32 x.value, .int .i64 x.rd, .bool x.store, .int .u32 x.addr, .int .u32 x.data, .int .i64 x.mask] 28)).heap.size = W.heap.size + 1 from by simp] at h
  clear hv
  generalize (W.alloc _).alloc _ = W2 at b2 ev x1 ⊢
  have X1 := Lib.hid x1
  clear x1
  go_quiet (fail)
  have X3 := Lib.hid (show (W2.drewN nq).heap[W.heap.size + 1]? = _ from (drewN_heap W2 nq) ▸ X1.out)
  have b4 := Lib.hid (drewN_below b2 nq)
  clear b2 ev X1
  generalize W2.drewN nq = w3 at X3 b4 ⊢
  have y0 := cell_of_row w3 (W.heap.size + 1) 0 _ _ _ X3.out
  have y1 := cell_of_row w3 (W.heap.size + 1) 1 _ _ _ X3.out
  have y2 := cell_of_row w3 (W.heap.size + 1) 2 _ _ _ X3.out
  have y3 := cell_of_row w3 (W.heap.size + 1) 3 _ _ _ X3.out
  have y4 := cell_of_row w3 (W.heap.size + 1) 4 _ _ _ X3.out
  have y5 := cell_of_row w3 (W.heap.size + 1) 5 _ _ _ X3.out
  have y6 := cell_of_row w3 (W.heap.size + 1) 6 _ _ _ X3.out
  simp only [List.getElem?_toArray, List.getElem?_cons_zero, List.getElem?_cons_succ] at y0 y1 y2 y3 y4 y5 y6
  have f0 := frozen_row X3.out 0
  have f1 := frozen_row X3.out 1
  have f2 := frozen_row X3.out 2
  have f3 := frozen_row X3.out 3
  have f4 := frozen_row X3.out 4
  have f5 := frozen_row X3.out 5
  have f6 := frozen_row X3.out 6
  go_wp2_with fail
  have hst := store7 X3.out (.int .u32 0) (.int .u32 0) (.int .i64 0) (.bool false) (.int .u32 0) (.int .u32 0) (.int .i64 0)
  have hbl := below7 b4.out (b := W.heap.size + 1) (by omega) (.int .u32 0) (.int .u32 0) (.int .i64 0) (.bool false) (.int .u32 0) (.int .u32 0) (.int .i64 0)
  clear y0 y1 y2 y3 y4 y5 y6 f0 f1 f2 f3 f4 f5 f6
  generalize World.setCell _ _ _ = W5 at hst hbl ⊢
  exact bodyPost_ret (ret_r10 _ hst rfl) rfl ⟨rfl, hbl⟩
end Go.Proofs.Ytfkjjaimilkfcaa.Gt
