/- The contract of the reference's Second. -/
import Derived.Test.YtfkjjaimilkfcaaGs
set_option linter.unusedVariables false
set_option linter.unusedSimpArgs false
namespace Go.Proofs.Ytfkjjaimilkfcaa.Gt
open Go.RowKit Go.Proofs.Ytfkjjaimilkfcaa.Bv Go.Proofs.Ytfkjjaimilkfcaa.Al Go.Proofs.Ytfkjjaimilkfcaa.Ap Go.Proofs.Ytfkjjaimilkfcaa.Az
theorem ret_r18 (tmps : Array Value) {W : World} {b : Nat} {a0 a1 : Int} {a2 : Int} {a3 : Bool} {a4 a5 a6 : Int} (h : W.heap[b]? = some (.cells #[.int .u32 a0, .int .u32 a1, .int .i64 a2, .bool a3, .int .u32 a4, .int .u32 a5, .int .i64 a6] 28 (0, 0)))
    (ht : tmps[4]?.getD undef = .pointer (some ⟨b, 0, none⟩)) :
    (results Try.f18 tmps).run Try.prog W = .ok (.tuple #[.agg #[.int .u32 a0, .int .u32 a1, .int .i64 a2, .bool a3, .int .u32 a4, .int .u32 a5, .int .i64 a6], tmps[5]?.getD undef]) W := by
  have y0 := cell_of_row W b 0 _ _ _ h
  have y1 := cell_of_row W b 1 _ _ _ h
  have y2 := cell_of_row W b 2 _ _ _ h
  have y3 := cell_of_row W b 3 _ _ _ h
  have y4 := cell_of_row W b 4 _ _ _ h
  have y5 := cell_of_row W b 5 _ _ _ h
  have y6 := cell_of_row W b 6 _ _ _ h
  simp only [List.getElem?_toArray, List.getElem?_cons_zero, List.getElem?_cons_succ] at y0 y1 y2 y3 y4 y5 y6
  simp [results, Try.results18, go_sem, ht, y0, y1, y2, y3, y4, y5, y6]
set_option maxHeartbeats 1000000 in
theorem cSecondR_empty (W : World) (B p : Nat) (g : Option Nat) (x : R) (h : Gate W B p g []) :
    Calls Try.prog 18 #[.pointer (some ⟨p, 0, none⟩), x.agg] W fun e w' => e = .returned (.tuple #[.agg #[.int .u32 0, .int .u32 0, .int .i64 0, .bool false, .int .u32 0, .int .u32 0, .int .i64 0], .int .i64 2]) ∧ Below W.heap.size W w' := by
  obtain ⟨v, hv, hrow, hg⟩ := h.row
  obtain ⟨a, c, rfl⟩ := slice_form hrow
  have hlt := h.lt
  clear h hrow hg
  simp only [List.length_nil] at hv
  go_enter Try.func18, Try.ntmps18
  go_wp2_with fail
  have b2 := (((Below.refl W.heap.size W).alloc (Nat.le_refl _) (.cells #[.int .u32 x.pc, .int .u32 x.value, .int .i64 x.rd, .bool x.store, .int .u32 x.addr, .int .u32 x.data, .int .i64 x.mask] 28)).alloc (by simp) (.cells #[.int .u32 0, .int .u32 0, .int .i64 0, .bool false, .int .u32 0, .int .u32 0, .int .i64 0] 28))
  have ev := (b2.cell (p := ⟨p, 0, none⟩) hlt).trans hv
  have x1 : ((W.alloc (.cells #[.int .u32 x.pc, .int .u32 x.value, .int .i64 x.rd, .bool x.store, .int .u32 x.addr, .int .u32 x.data, .int .i64 x.mask] 28)).alloc (.cells #[.int .u32 0, .int .u32 0, .int .i64 0, .bool false, .int .u32 0, .int .u32 0, .int .i64 0] 28)).heap[W.heap.size + 1]? = some (.cells #[.int .u32 0, .int .u32 0, .int .i64 0, .bool false, .int .u32 0, .int .u32 0, .int .i64 0] 28) := by
    have h := heap_alloc_new (W.alloc (.cells #[.int .u32 x.pc, .int .u32 x.value, .int .i64 x.rd, .bool x.store, .int .u32 x.addr, .int .u32 x.data, .int .i64 x.mask] 28)) (.cells #[.int .u32 0, .int .u32 0, .int .i64 0, .bool false, .int .u32 0, .int .u32 0, .int .i64 0] 28)
    rwa [show (W.alloc (.cells #[.int .u32 x.pc, .int .u32 x.value, .int .i64 x.rd, .bool x.store, .int .u32 x.addr, .int .u32 x.data, .int .i64 x.mask] 28)).heap.size = W.heap.size + 1 from by simp] at h
  clear hv
  generalize (W.alloc _).alloc _ = W2 at b2 ev x1 ⊢
  have X1 := Lib.hid x1
  clear x1
  go_quiet (fail)
  have X3 := Lib.hid (show (W2.drewN nq).heap[W.heap.size + 1]? = _ from (drewN_heap W2 nq) ▸ X1.out)
  have b4 := Lib.hid (drewN_below b2 nq)
  clear b2 ev X1
  generalize W2.drewN nq = w3 at X3 b4 ⊢
  have y0 := cell_of_row w3 (W.heap.size + 1) 0 _ _ _ X3.out
  have y1 := cell_of_row w3 (W.heap.size + 1) 1 _ _ _ X3.out
  have y2 := cell_of_row w3 (W.heap.size + 1) 2 _ _ _ X3.out
  have y3 := cell_of_row w3 (W.heap.size + 1) 3 _ _ _ X3.out
  have y4 := cell_of_row w3 (W.heap.size + 1) 4 _ _ _ X3.out
  have y5 := cell_of_row w3 (W.heap.size + 1) 5 _ _ _ X3.out
  have y6 := cell_of_row w3 (W.heap.size + 1) 6 _ _ _ X3.out
  simp only [List.getElem?_toArray, List.getElem?_cons_zero, List.getElem?_cons_succ] at y0 y1 y2 y3 y4 y5 y6
  have f0 := frozen_row X3.out 0
  have f1 := frozen_row X3.out 1
  have f2 := frozen_row X3.out 2
  have f3 := frozen_row X3.out 3
  have f4 := frozen_row X3.out 4
  have f5 := frozen_row X3.out 5
  have f6 := frozen_row X3.out 6
  go_wp2_with fail
  have hst := store7 X3.out (.int .u32 0) (.int .u32 0) (.int .i64 0) (.bool false) (.int .u32 0) (.int .u32 0) (.int .i64 0)
  have hbl := below7 b4.out (b := W.heap.size + 1) (by omega) (.int .u32 0) (.int .u32 0) (.int .i64 0) (.bool false) (.int .u32 0) (.int .u32 0) (.int .i64 0)
  clear y0 y1 y2 y3 y4 y5 y6 f0 f1 f2 f3 f4 f5 f6
  generalize World.setCell _ _ _ = W5 at hst hbl ⊢
  exact bodyPost_ret (ret_r18 _ hst rfl) rfl ⟨rfl, hbl⟩
set_option maxHeartbeats 1000000 in
theorem cSecondR_no (W : World) (B p : Nat) (g : Option Nat) (r x : R) (l : List R) (h : Gate W B p g (r :: l)) (hm : l.length ≤ 1000) (hne : r ≠ x) :
    Calls Try.prog 18 #[.pointer (some ⟨p, 0, none⟩), x.agg] W fun e w' => e = .returned (.tuple #[.agg #[.int .u32 0, .int .u32 0, .int .i64 0, .bool false, .int .u32 0, .int .u32 0, .int .i64 0], .int .i64 2]) ∧ Below W.heap.size W w' := by
  obtain ⟨q, cap, rfl, hv, hrow⟩ := gate_slice h
  have hc : ∀ j, j < 7 → W.cell? ⟨q, j, none⟩ = r.cells[j]? := by
    intro j hj
    have h1 := hrow.cellAt j (by omega)
    rw [h1, flat, List.getElem?_append_left (by simp [R.cells]; omega)]
  have c0 := hc 0 (by decide)
  have c1 := hc 1 (by decide)
  have c2 := hc 2 (by decide)
  have c3 := hc 3 (by decide)
  have c4 := hc 4 (by decide)
  have c5 := hc 5 (by decide)
  have c6 := hc 6 (by decide)
  simp only [R.cells, List.getElem?_cons_zero, List.getElem?_cons_succ] at c0 c1 c2 c3 c4 c5 c6
  have hlt := h.lt
  have hq : q < W.heap.size := (hrow.lt q rfl).2
  clear h hrow hc
  go_enter Try.func18, Try.ntmps18
  go_wp2_with fail
  have hd0 : decide ((l.length : Int) + 1 = 0) = false := by simp; omega
  have hd : ((l.length : Int) + 1 == 0) = false := by rw [beq_eq_false_iff_ne]; omega
  have hd2 : ¬ ((l.length : Int) + 1 = 0) := by omega
  have b2 := (((Below.refl W.heap.size W).alloc (Nat.le_refl _) (.cells #[.int .u32 x.pc, .int .u32 x.value, .int .i64 x.rd, .bool x.store, .int .u32 x.addr, .int .u32 x.data, .int .i64 x.mask] 28)).alloc (by simp) (.cells #[.int .u32 0, .int .u32 0, .int .i64 0, .bool false, .int .u32 0, .int .u32 0, .int .i64 0] 28))
  have e0 := (b2.cell (p := ⟨q, 0, none⟩) hq).trans c0
  have e1 := (b2.cell (p := ⟨q, 1, none⟩) hq).trans c1
  have e2 := (b2.cell (p := ⟨q, 2, none⟩) hq).trans c2
  have e3 := (b2.cell (p := ⟨q, 3, none⟩) hq).trans c3
  have e4 := (b2.cell (p := ⟨q, 4, none⟩) hq).trans c4
  have e5 := (b2.cell (p := ⟨q, 5, none⟩) hq).trans c5
  have e6 := (b2.cell (p := ⟨q, 6, none⟩) hq).trans c6
  have ev := (b2.cell (p := ⟨p, 0, none⟩) hlt).trans hv
  have x0 : ((W.alloc (.cells #[.int .u32 x.pc, .int .u32 x.value, .int .i64 x.rd, .bool x.store, .int .u32 x.addr, .int .u32 x.data, .int .i64 x.mask] 28)).alloc (.cells #[.int .u32 0, .int .u32 0, .int .i64 0, .bool false, .int .u32 0, .int .u32 0, .int .i64 0] 28)).heap[W.heap.size]? = some (.cells #[.int .u32 x.pc, .int .u32 x.value, .int .i64 x.rd, .bool x.store, .int .u32 x.addr, .int .u32 x.data, .int .i64 x.mask] 28) := by
    rw [Below.heap_alloc _ _ _ (by simp)]; exact heap_alloc_new _ _
  have x1 : ((W.alloc (.cells #[.int .u32 x.pc, .int .u32 x.value, .int .i64 x.rd, .bool x.store, .int .u32 x.addr, .int .u32 x.data, .int .i64 x.mask] 28)).alloc (.cells #[.int .u32 0, .int .u32 0, .int .i64 0, .bool false, .int .u32 0, .int .u32 0, .int .i64 0] 28)).heap[W.heap.size + 1]? = some (.cells #[.int .u32 0, .int .u32 0, .int .i64 0, .bool false, .int .u32 0, .int .u32 0, .int .i64 0] 28) := by
    have h := heap_alloc_new (W.alloc (.cells #[.int .u32 x.pc, .int .u32 x.value, .int .i64 x.rd, .bool x.store, .int .u32 x.addr, .int .u32 x.data, .int .i64 x.mask] 28)) (.cells #[.int .u32 0, .int .u32 0, .int .i64 0, .bool false, .int .u32 0, .int .u32 0, .int .i64 0] 28)
    rwa [show (W.alloc (.cells #[.int .u32 x.pc, .int .u32 x.value, .int .i64 x.rd, .bool x.store, .int .u32 x.addr, .int .u32 x.data, .int .i64 x.mask] 28)).heap.size = W.heap.size + 1 from by simp] at h
  clear c0 c1 c2 c3 c4 c5 c6 hv
  generalize (W.alloc _).alloc _ = W2 at b2 e0 e1 e2 e3 e4 e5 e6 ev x0 x1 ⊢
  have y0 := cell_of_row W2 W.heap.size 0 _ _ _ x0
  have y1 := cell_of_row W2 W.heap.size 1 _ _ _ x0
  have y2 := cell_of_row W2 W.heap.size 2 _ _ _ x0
  have y3 := cell_of_row W2 W.heap.size 3 _ _ _ x0
  have y4 := cell_of_row W2 W.heap.size 4 _ _ _ x0
  have y5 := cell_of_row W2 W.heap.size 5 _ _ _ x0
  have y6 := cell_of_row W2 W.heap.size 6 _ _ _ x0
  simp only [List.getElem?_toArray, List.getElem?_cons_zero, List.getElem?_cons_succ] at y0 y1 y2 y3 y4 y5 y6
  have X1 := Lib.hid x1
  clear x0 x1
  have hq28 := neq28 r x
  rw [show (!decide (r = x)) = true from by rw [decide_eq_false hne]; rfl] at hq28
  go_quiet (fail)
  have X3 := Lib.hid (show (W2.drewN nq).heap[W.heap.size + 1]? = _ from (drewN_heap W2 nq) ▸ X1.out)
  have b4 := Lib.hid (drewN_below b2 nq)
  clear b2 e0 e1 e2 e3 e4 e5 e6 ev X1 y0 y1 y2 y3 y4 y5 y6 hq28
  generalize W2.drewN nq = w3 at X3 b4 ⊢
  have y0 := cell_of_row w3 (W.heap.size + 1) 0 _ _ _ X3.out
  have y1 := cell_of_row w3 (W.heap.size + 1) 1 _ _ _ X3.out
  have y2 := cell_of_row w3 (W.heap.size + 1) 2 _ _ _ X3.out
  have y3 := cell_of_row w3 (W.heap.size + 1) 3 _ _ _ X3.out
  have y4 := cell_of_row w3 (W.heap.size + 1) 4 _ _ _ X3.out
  have y5 := cell_of_row w3 (W.heap.size + 1) 5 _ _ _ X3.out
  have y6 := cell_of_row w3 (W.heap.size + 1) 6 _ _ _ X3.out
  simp only [List.getElem?_toArray, List.getElem?_cons_zero, List.getElem?_cons_succ] at y0 y1 y2 y3 y4 y5 y6
  have f0 := frozen_row X3.out 0
  have f1 := frozen_row X3.out 1
  have f2 := frozen_row X3.out 2
  have f3 := frozen_row X3.out 3
  have f4 := frozen_row X3.out 4
  have f5 := frozen_row X3.out 5
  have f6 := frozen_row X3.out 6
  go_wp2_with fail
  have hst := store7 X3.out (.int .u32 0) (.int .u32 0) (.int .i64 0) (.bool false) (.int .u32 0) (.int .u32 0) (.int .i64 0)
  have hbl := below7 b4.out (b := W.heap.size + 1) (by omega) (.int .u32 0) (.int .u32 0) (.int .i64 0) (.bool false) (.int .u32 0) (.int .u32 0) (.int .i64 0)
  clear y0 y1 y2 y3 y4 y5 y6 f0 f1 f2 f3 f4 f5 f6
  generalize World.setCell _ _ _ = W5 at hst hbl ⊢
  exact bodyPost_ret (ret_r18 _ hst rfl) rfl ⟨rfl, hbl⟩
theorem row7 {w : World} {b : Nat} {c0 c1 c2 c3 c4 c5 c6 : Value} {t : TypeId} (h : w.heap[b]? = some (.cells #[c0, c1, c2, c3, c4, c5, c6] t (0, 0))) :
    (w.cell? ⟨b, 0, none⟩ = some c0 ∧ w.cell? ⟨b, 1, none⟩ = some c1 ∧ w.cell? ⟨b, 2, none⟩ = some c2 ∧ w.cell? ⟨b, 3, none⟩ = some c3 ∧ w.cell? ⟨b, 4, none⟩ = some c4 ∧ w.cell? ⟨b, 5, none⟩ = some c5 ∧ w.cell? ⟨b, 6, none⟩ = some c6) ∧
    (w.frozen? ⟨b, 0, none⟩ = false ∧ w.frozen? ⟨b, 1, none⟩ = false ∧ w.frozen? ⟨b, 2, none⟩ = false ∧ w.frozen? ⟨b, 3, none⟩ = false ∧ w.frozen? ⟨b, 4, none⟩ = false ∧ w.frozen? ⟨b, 5, none⟩ = false ∧ w.frozen? ⟨b, 6, none⟩ = false) :=
  ⟨⟨cell_of_row w b 0 _ _ _ h, cell_of_row w b 1 _ _ _ h, cell_of_row w b 2 _ _ _ h, cell_of_row w b 3 _ _ _ h, cell_of_row w b 4 _ _ _ h, cell_of_row w b 5 _ _ _ h, cell_of_row w b 6 _ _ _ h⟩,
   frozen_row h 0, frozen_row h 1, frozen_row h 2, frozen_row h 3, frozen_row h 4, frozen_row h 5, frozen_row h 6⟩
theorem secondR_end {W w3 w4 w6 : World} {B p : Nat} {g : Option Nat} {l : List R} {V v4 : Value} (hlt : p < W.heap.size) (hB : B ≤ p) (b4 : Below W.heap.size W w3) (b5 : Below w3.heap.size w3 w4) (hs3 : W.heap.size + 1 < w3.heap.size)
    (hown : w4.ownsRow B 28 7 v4 l.length (flat l)) (hk : ∃ k, v4.ownBlock = some k ∧ w3.heap.size ≤ k) (ev4 : w4.cell? ⟨p, 0, none⟩ = some V) (ef4 : w4.frozen? ⟨p, 0, none⟩ = false)
    (hgr : (w4.setCell ⟨p, 0, none⟩ v4).grownBy w6 (some (W.heap.size + 1))) : ∃ g', Gate w6 B p g' l ∧ (g' = g ∨ ∃ k, g' = some k ∧ W.heap.size ≤ k) ∧ Only W w6 p g := by
  obtain ⟨k, hk1, hk2⟩ := hk
  have s3 := b4.size
  have s4 := b5.size
  have s6 := hgr.size
  simp only [World.size_setCell] at s6
  have hold : ∀ k, k < W.heap.size → k ≠ p → w6.heap[k]? = w4.heap[k]? := fun k hk hp =>
    (hgr.block k (by simp; omega) (by intro e; injection e; omega)).trans (Below.heap_setCell _ _ _ _ (by exact hp))
  have hp6 := hgr.block p (by simp; omega) (by intro e; injection e; omega)
  refine ⟨some k, ⟨by omega, hB, ?_, ⟨v4, ?_, ?_, hk1⟩, by intro e; injection e; omega⟩, Or.inr ⟨k, rfl, by omega⟩, ⟨hgr.os.trans (b5.os.trans b4.os), hgr.tape.trans (b5.tape.trans b4.tape), hgr.output.trans (b5.output.trans b4.output), by omega, fun j hj hp hjq => ?_⟩⟩
  · exact (World.frozen?_of_block (a := ⟨p, 0, none⟩) hp6).trans (by simpa using ef4)
  · exact (World.cell?_of_block (a := ⟨p, 0, none⟩) hp6).trans (World.cell?_setCell_same _ _ _ ev4)
  · have h5 : (w4.setCell ⟨p, 0, none⟩ v4).ownsRow B 28 7 v4 l.length (flat l) :=
      hown.kept (row := some p) ⟨rfl, rfl, rfl, by simp, fun j hj hjp => Below.heap_setCell _ _ _ _ (by intro e; apply hjp; rw [e])⟩ (Or.inr (by rw [hk1]; intro e; injection e; omega))
    exact h5.kept hgr (Or.inr (by rw [hk1]; intro e; injection e; omega))
  · rw [hold j hj hp, b5.block j (by omega), b4.block j hj]
theorem own_is0 {w w0 : World} {v : Value} {B n : Nat} {xs : List Value} (hn : 0 < n) (h0 : ∀ j, v.ownBlock = some j → w0.heap.size ≤ j) (h : w.ownsRow B 28 7 v n xs) : ∃ k, v.ownBlock = some k ∧ w0.heap.size ≤ k := by
  rcases h.2 with ⟨_, h1⟩ | ⟨g, cap, cur, rfl, _⟩
  · omega
  · exact ⟨g, rfl, h0 g rfl⟩
theorem src_tail {W : World} {B q c : Nat} {x : R} {l : List R} (h : W.ownsRow B 28 7 (.slice (some ⟨q, 0, none⟩) (l.length + 1) c) (l.length + 1) (flat (x :: l))) (o : Obj) :
    ∀ j u, (flat l)[j]? = some u → (W.alloc o).cell? ((⟨q, 7, none⟩ : Addr).add j) = some u := by
  intro j u hu
  have ht : j < l.length * 7 := by rw [← flat_length]; exact (List.getElem?_eq_some_iff.1 hu).1
  have hq := (h.lt q rfl).2
  rw [Addr.add_lit]
  show (W.alloc o).cell? ⟨q, 7 + j, none⟩ = some u
  rw [World.cell?_of_block (w := W) (a := ⟨q, 7 + j, none⟩) (Below.heap_alloc W o q hq), h.cellAt (7 + j) (by omega), flat, List.getElem?_append_right (by simp [R.cells]), ← hu]
  congr 1
  simp [R.cells]
set_option maxHeartbeats 1000000 in
theorem cSecondR_yes (W : World) (B p : Nat) (g : Option Nat) (x : R) (l : List R) (h : Gate W B p g (x :: l)) (hm : l.length ≤ 1000) (hB : B ≤ W.heap.size) (hl : l ≠ []) :
    Calls Try.prog 18 #[.pointer (some ⟨p, 0, none⟩), x.agg] W fun e w' => e = .returned (.tuple #[x.agg, .int .i64 1]) ∧ ∃ g', Gate w' B p g' l ∧ (g' = g ∨ ∃ k, g' = some k ∧ W.heap.size ≤ k) ∧ Only W w' p g := by
  obtain ⟨q, cap, rfl, hv, hrow⟩ := gate_slice h
  have hc : ∀ j, j < 7 → W.cell? ⟨q, j, none⟩ = x.cells[j]? := by
    intro j hj
    have h1 := hrow.cellAt j (by omega)
    rw [h1, flat, List.getElem?_append_left (by simp [R.cells]; omega)]
  have c0 := hc 0 (by decide)
  have c1 := hc 1 (by decide)
  have c2 := hc 2 (by decide)
  have c3 := hc 3 (by decide)
  have c4 := hc 4 (by decide)
  have c5 := hc 5 (by decide)
  have c6 := hc 6 (by decide)
  simp only [R.cells, List.getElem?_cons_zero, List.getElem?_cons_succ] at c0 c1 c2 c3 c4 c5 c6
  have hlt := h.lt
  have hq : q < W.heap.size := (hrow.lt q rfl).2
  have HR := Lib.hid hrow
  have HV := Lib.hid hv
  have HF := Lib.hid h.fz
  have HB := Lib.hid h.le
  have HPQ := Lib.hid (show p ≠ q from fun e => h.ne (by rw [e]))
  clear h hrow hc
  go_enter Try.func18, Try.ntmps18
  go_wp2_with fail
  have hd0 : decide ((l.length : Int) + 1 = 0) = false := by simp; omega
  have hd : ((l.length : Int) + 1 == 0) = false := by rw [beq_eq_false_iff_ne]; omega
  have hd2 : ¬ ((l.length : Int) + 1 = 0) := by omega
  have b2 := (((Below.refl W.heap.size W).alloc (Nat.le_refl _) (.cells #[.int .u32 x.pc, .int .u32 x.value, .int .i64 x.rd, .bool x.store, .int .u32 x.addr, .int .u32 x.data, .int .i64 x.mask] 28)).alloc (by simp) (.cells #[.int .u32 0, .int .u32 0, .int .i64 0, .bool false, .int .u32 0, .int .u32 0, .int .i64 0] 28))
  have e0 := (b2.cell (p := ⟨q, 0, none⟩) hq).trans c0
  have e1 := (b2.cell (p := ⟨q, 1, none⟩) hq).trans c1
  have e2 := (b2.cell (p := ⟨q, 2, none⟩) hq).trans c2
  have e3 := (b2.cell (p := ⟨q, 3, none⟩) hq).trans c3
  have e4 := (b2.cell (p := ⟨q, 4, none⟩) hq).trans c4
  have e5 := (b2.cell (p := ⟨q, 5, none⟩) hq).trans c5
  have e6 := (b2.cell (p := ⟨q, 6, none⟩) hq).trans c6
  have ev := (b2.cell (p := ⟨p, 0, none⟩) hlt).trans hv
  have x0 : ((W.alloc (.cells #[.int .u32 x.pc, .int .u32 x.value, .int .i64 x.rd, .bool x.store, .int .u32 x.addr, .int .u32 x.data, .int .i64 x.mask] 28)).alloc (.cells #[.int .u32 0, .int .u32 0, .int .i64 0, .bool false, .int .u32 0, .int .u32 0, .int .i64 0] 28)).heap[W.heap.size]? = some (.cells #[.int .u32 x.pc, .int .u32 x.value, .int .i64 x.rd, .bool x.store, .int .u32 x.addr, .int .u32 x.data, .int .i64 x.mask] 28) := by
    rw [Below.heap_alloc _ _ _ (by simp)]; exact heap_alloc_new _ _
  have x1 : ((W.alloc (.cells #[.int .u32 x.pc, .int .u32 x.value, .int .i64 x.rd, .bool x.store, .int .u32 x.addr, .int .u32 x.data, .int .i64 x.mask] 28)).alloc (.cells #[.int .u32 0, .int .u32 0, .int .i64 0, .bool false, .int .u32 0, .int .u32 0, .int .i64 0] 28)).heap[W.heap.size + 1]? = some (.cells #[.int .u32 0, .int .u32 0, .int .i64 0, .bool false, .int .u32 0, .int .u32 0, .int .i64 0] 28) := by
    have h := heap_alloc_new (W.alloc (.cells #[.int .u32 x.pc, .int .u32 x.value, .int .i64 x.rd, .bool x.store, .int .u32 x.addr, .int .u32 x.data, .int .i64 x.mask] 28)) (.cells #[.int .u32 0, .int .u32 0, .int .i64 0, .bool false, .int .u32 0, .int .u32 0, .int .i64 0] 28)
    rwa [show (W.alloc (.cells #[.int .u32 x.pc, .int .u32 x.value, .int .i64 x.rd, .bool x.store, .int .u32 x.addr, .int .u32 x.data, .int .i64 x.mask] 28)).heap.size = W.heap.size + 1 from by simp] at h
  clear c0 c1 c2 c3 c4 c5 c6 hv
  generalize (W.alloc _).alloc _ = W2 at b2 e0 e1 e2 e3 e4 e5 e6 ev x0 x1 ⊢
  have y0 := cell_of_row W2 W.heap.size 0 _ _ _ x0
  have y1 := cell_of_row W2 W.heap.size 1 _ _ _ x0
  have y2 := cell_of_row W2 W.heap.size 2 _ _ _ x0
  have y3 := cell_of_row W2 W.heap.size 3 _ _ _ x0
  have y4 := cell_of_row W2 W.heap.size 4 _ _ _ x0
  have y5 := cell_of_row W2 W.heap.size 5 _ _ _ x0
  have y6 := cell_of_row W2 W.heap.size 6 _ _ _ x0
  simp only [List.getElem?_toArray, List.getElem?_cons_zero, List.getElem?_cons_succ] at y0 y1 y2 y3 y4 y5 y6
  have X1 := Lib.hid x1
  have X0 := Lib.hid x0
  clear x0 x1
  have hq28 := neq28 x x
  rw [show (!decide (x = x)) = false from by rw [decide_eq_true rfl]; rfl] at hq28
  go_quiet (fail)
  have X3 := Lib.hid (show (W2.drewN nq).heap[W.heap.size + 1]? = _ from (drewN_heap W2 nq) ▸ X1.out)
  have X30 := Lib.hid (show (W2.drewN nq).heap[W.heap.size]? = _ from (drewN_heap W2 nq) ▸ X0.out)
  have b4 := Lib.hid (drewN_below b2 nq)
  clear b2 e0 e1 e2 e3 e4 e5 e6 ev X1 X0 y0 y1 y2 y3 y4 y5 y6 hq28
  generalize W2.drewN nq = w3 at X3 X30 b4 ⊢
  have hs3 : W.heap.size + 1 < w3.heap.size := lt_of_block X3.out
  have hrow3 := HR.out.kept (below_grown b4.out none) (Or.inr (by simp [Value.ownBlock]))
  have hp3 : p < w3.heap.size := by omega
  have hq3 : q < w3.heap.size := by omega
  have ev3 := (b4.out.cell (p := ⟨p, 0, none⟩) hlt).trans HV.out
  have ef3 := (b4.out.frozen (p := ⟨p, 0, none⟩) hlt).trans HF.out
  obtain ⟨hc1, hc2⟩ := owns_cap hrow3
  have hc1' : 1 ≤ cap := by omega
  have hge : (1 : Int) ≤ (l.length : Int) + 1 := by omega
  have hl2 : 0 < l.length := List.length_pos_iff.2 hl
  have hcap : ¬ cap = 1 := by omega
  have hmx : cap ≤ 9223372036854775807 := by unfold maxLen at hc2; omega
  obtain ⟨i0, hi, hz0, hz1, hz2⟩ := info_parts info28
  have HFL := Lib.hid (flat_length l)
  have HR3 := Lib.hid hrow3
  have HL := Lib.hid hl
  clear hrow3 hc1 hc2 hl
  go_wp2_with (first
    | (at_builtin; (refine wpList_append_moves rfl (.tmp 24) (.tmp 29) 22 rfl B 28 i0 _ 7 40 Try.underlying22 hi hz0 hz1 hz2 rfl (by decide) _ 0 [] (by simp [Act.eval, Act.put]) (World.ownsRow_made w3 #[] 0 (by omega) (by decide) rfl) ⟨q, 7, none⟩ l.length (cap - 1) (flat l) (by simp [Act.eval, Act.put]) HFL.out (src_tail HR3.out _) (flat_one l) (by unfold maxLen; omega) (by omega) (by simp; omega) ?_); intro a1 c1 w4 hown1 hgrow1 hblk1; simp only [Nat.zero_add, List.nil_append] at hown1 hblk1;
       have b5 := below_grow (W := w3) ((Below.refl _ _).alloc (Nat.le_refl _) _) hgrow1 (by intro j hj; have := own_some j hj; omega);
       have gc := gate_cell hp3 b5 ev3 ef3; have gc1 := gc.1; have gc2 := gc.2;
       have X40 := (b5.block W.heap.size (by omega)).trans X30.out; have X41 := (b5.block (W.heap.size + 1) hs3).trans X3.out;
       obtain ⟨⟨y0, y1, y2, y3, y4, y5, y6⟩, _⟩ := row7 X40;
       obtain ⟨⟨z0, z1, z2, z3, z4, z5, z6⟩, f0, f1, f2, f3, f4, f5, f6⟩ := row7 X41;
       have HX41 := Lib.hid X41; clear X40 X41;
       have HO1 := Lib.hid (own_is0 (w0 := w3) hl2 (own_ge (w0 := w3) (by intro j hj; have := own_some j hj; omega) (by simp) hblk1) hown1);
       have HOW := Lib.hid hown1; have HB5 := Lib.hid b5; clear hown1 hblk1 hgrow1 b5))
  have h5 : (w4.setCell ⟨p, 0, none⟩ (.slice a1 l.length c1)).heap[W.heap.size + 1]? = some (.cells #[.int .u32 0, .int .u32 0, .int .i64 0, .bool false, .int .u32 0, .int .u32 0, .int .i64 0] 28 (0, 0)) :=
    (Below.heap_setCell _ _ _ _ (by show W.heap.size + 1 ≠ p; omega)).trans HX41.out
  have hst := store7 h5 (.int .u32 x.pc) (.int .u32 x.value) (.int .i64 x.rd) (.bool x.store) (.int .u32 x.addr) (.int .u32 x.data) (.int .i64 x.mask)
  have hgr := grown7 (w4.setCell ⟨p, 0, none⟩ (.slice a1 l.length c1)) (W.heap.size + 1) (.int .u32 x.pc) (.int .u32 x.value) (.int .i64 x.rd) (.bool x.store) (.int .u32 x.addr) (.int .u32 x.data) (.int .i64 x.mask)
  have G := secondR_end (g := some q) hlt HB.out b4.out HB5.out hs3 HOW.out HO1.out gc1 gc2 hgr
  clear y0 y1 y2 y3 y4 y5 y6 z0 z1 z2 z3 z4 z5 z6 f0 f1 f2 f3 f4 f5 f6 hgr
  generalize World.setCell _ _ _ = W5 at hst G ⊢
  exact bodyPost_ret (ret_r18 _ hst rfl) rfl ⟨rfl, G⟩
end Go.Proofs.Ytfkjjaimilkfcaa.Gt
