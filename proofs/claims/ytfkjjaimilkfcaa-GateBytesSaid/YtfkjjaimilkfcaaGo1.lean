/- The contract of the reference's Second, on one that waits alone. -/
import Derived.Test.YtfkjjaimilkfcaaGq
set_option linter.unusedVariables false
set_option linter.unusedSimpArgs false
namespace Go.Proofs.Ytfkjjaimilkfcaa.Gt
open Go.RowKit Go.Proofs.Ytfkjjaimilkfcaa.Bv Go.Proofs.Ytfkjjaimilkfcaa.Al Go.Proofs.Ytfkjjaimilkfcaa.Ap Go.Proofs.Ytfkjjaimilkfcaa.Az
set_option maxHeartbeats 1000000 in
theorem cSecondR_one (W : World) (B p : Nat) (g : Option Nat) (x : R) (h : Gate W B p g [x]) (hB : B ≤ W.heap.size) :
    Calls Try.prog 18 #[.pointer (some ⟨p, 0, none⟩), x.agg] W fun e w' => e = .returned (.tuple #[x.agg, .int .i64 1]) ∧ ∃ g', Gate w' B p g' [] ∧ (g' = g ∨ ∃ k, g' = some k ∧ W.heap.size ≤ k) ∧ Only W w' p g := by
  obtain ⟨q, cap, rfl, hv, hrow⟩ := gate_slice h
  simp only [List.length_nil, Nat.zero_add] at hv hrow
  have hc : ∀ j, j < 7 → W.cell? ⟨q, j, none⟩ = x.cells[j]? := by
    intro j hj
    have h1 := hrow.cellAt j (by omega)
    rw [h1, flat, List.getElem?_append_left (by simp [R.cells]; omega)]
  have c0 := hc 0 (by decide)
  have c1 := hc 1 (by decide)
  have c2 := hc 2 (by decide)
  have c3 := hc 3 (by decide)
  have c4 := hc 4 (by decide)
  have c5 := hc 5 (by decide)
  have c6 := hc 6 (by decide)
  simp only [R.cells, List.getElem?_cons_zero, List.getElem?_cons_succ] at c0 c1 c2 c3 c4 c5 c6
  have hlt := h.lt
  have hq : q < W.heap.size := (hrow.lt q rfl).2
  have HR := Lib.hid hrow
  have HV := Lib.hid hv
  have HF := Lib.hid h.fz
  have HB := Lib.hid h.le
  have HPQ := Lib.hid (show p ≠ q from fun e => h.ne (by rw [e]))
  clear h hrow hc
  go_enter Try.func18, Try.ntmps18
  go_wp2_with fail
  have b2 := (((Below.refl W.heap.size W).alloc (Nat.le_refl _) (.cells #[.int .u32 x.pc, .int .u32 x.value, .int .i64 x.rd, .bool x.store, .int .u32 x.addr, .int .u32 x.data, .int .i64 x.mask] 28)).alloc (by simp) (.cells #[.int .u32 0, .int .u32 0, .int .i64 0, .bool false, .int .u32 0, .int .u32 0, .int .i64 0] 28))
  have e0 := (b2.cell (p := ⟨q, 0, none⟩) hq).trans c0
  have e1 := (b2.cell (p := ⟨q, 1, none⟩) hq).trans c1
  have e2 := (b2.cell (p := ⟨q, 2, none⟩) hq).trans c2
  have e3 := (b2.cell (p := ⟨q, 3, none⟩) hq).trans c3
  have e4 := (b2.cell (p := ⟨q, 4, none⟩) hq).trans c4
  have e5 := (b2.cell (p := ⟨q, 5, none⟩) hq).trans c5
  have e6 := (b2.cell (p := ⟨q, 6, none⟩) hq).trans c6
  have ev := (b2.cell (p := ⟨p, 0, none⟩) hlt).trans hv
  have x0 : ((W.alloc (.cells #[.int .u32 x.pc, .int .u32 x.value, .int .i64 x.rd, .bool x.store, .int .u32 x.addr, .int .u32 x.data, .int .i64 x.mask] 28)).alloc (.cells #[.int .u32 0, .int .u32 0, .int .i64 0, .bool false, .int .u32 0, .int .u32 0, .int .i64 0] 28)).heap[W.heap.size]? = some (.cells #[.int .u32 x.pc, .int .u32 x.value, .int .i64 x.rd, .bool x.store, .int .u32 x.addr, .int .u32 x.data, .int .i64 x.mask] 28) := by
    rw [Below.heap_alloc _ _ _ (by simp)]; exact heap_alloc_new _ _
  have x1 : ((W.alloc (.cells #[.int .u32 x.pc, .int .u32 x.value, .int .i64 x.rd, .bool x.store, .int .u32 x.addr, .int .u32 x.data, .int .i64 x.mask] 28)).alloc (.cells #[.int .u32 0, .int .u32 0, .int .i64 0, .bool false, .int .u32 0, .int .u32 0, .int .i64 0] 28)).heap[W.heap.size + 1]? = some (.cells #[.int .u32 0, .int .u32 0, .int .i64 0, .bool false, .int .u32 0, .int .u32 0, .int .i64 0] 28) := by
    have h := heap_alloc_new (W.alloc (.cells #[.int .u32 x.pc, .int .u32 x.value, .int .i64 x.rd, .bool x.store, .int .u32 x.addr, .int .u32 x.data, .int .i64 x.mask] 28)) (.cells #[.int .u32 0, .int .u32 0, .int .i64 0, .bool false, .int .u32 0, .int .u32 0, .int .i64 0] 28)
    rwa [show (W.alloc (.cells #[.int .u32 x.pc, .int .u32 x.value, .int .i64 x.rd, .bool x.store, .int .u32 x.addr, .int .u32 x.data, .int .i64 x.mask] 28)).heap.size = W.heap.size + 1 from by simp] at h
  clear c0 c1 c2 c3 c4 c5 c6 hv
  generalize (W.alloc _).alloc _ = W2 at b2 e0 e1 e2 e3 e4 e5 e6 ev x0 x1 ⊢
  have y0 := cell_of_row W2 W.heap.size 0 _ _ _ x0
  have y1 := cell_of_row W2 W.heap.size 1 _ _ _ x0
  have y2 := cell_of_row W2 W.heap.size 2 _ _ _ x0
  have y3 := cell_of_row W2 W.heap.size 3 _ _ _ x0
  have y4 := cell_of_row W2 W.heap.size 4 _ _ _ x0
  have y5 := cell_of_row W2 W.heap.size 5 _ _ _ x0
  have y6 := cell_of_row W2 W.heap.size 6 _ _ _ x0
  simp only [List.getElem?_toArray, List.getElem?_cons_zero, List.getElem?_cons_succ] at y0 y1 y2 y3 y4 y5 y6
  have X1 := Lib.hid x1
  have X0 := Lib.hid x0
  clear x0 x1
  have hq28 := neq28 x x
  rw [show (!decide (x = x)) = false from by rw [decide_eq_true rfl]; rfl] at hq28
  go_quiet (fail)
  have X3 := Lib.hid (show (W2.drewN nq).heap[W.heap.size + 1]? = _ from (drewN_heap W2 nq) ▸ X1.out)
  have X30 := Lib.hid (show (W2.drewN nq).heap[W.heap.size]? = _ from (drewN_heap W2 nq) ▸ X0.out)
  have b4 := Lib.hid (drewN_below b2 nq)
  clear b2 e0 e1 e2 e3 e4 e5 e6 ev X1 X0 y0 y1 y2 y3 y4 y5 y6 hq28
  generalize W2.drewN nq = w3 at X3 X30 b4 ⊢
  have hs3 : W.heap.size + 1 < w3.heap.size := lt_of_block X3.out
  have hrow3 := HR.out.kept (below_grown b4.out none) (Or.inr (by simp [Value.ownBlock]))
  have hp3 : p < w3.heap.size := by omega
  have hq3 : q < w3.heap.size := by omega
  have ev3 := (b4.out.cell (p := ⟨p, 0, none⟩) hlt).trans HV.out
  have ef3 := (b4.out.frozen (p := ⟨p, 0, none⟩) hlt).trans HF.out
  obtain ⟨hc1, hc2⟩ := owns_cap hrow3
  have hc1' : 1 ≤ cap := by omega
  have hmx : cap ≤ 9223372036854775807 := by unfold maxLen at hc2; omega
  obtain ⟨i0, hi, hz0, hz1, hz2⟩ := info_parts info28
  have HR3 := Lib.hid hrow3
  clear hrow3 hc1 hc2
  go_wp2_with (first
    | (at_builtin; (refine wpList_append_zero rfl (.tmp 24) (.tmp 29) 22 rfl 28 i0 Try.underlying22 hi ⟨w3.heap.size, 0, none⟩ 0 0 (by simp [Act.eval, Act.put]) (by decide) _ (cap - 1) (by simp [Act.eval, Act.put]; rfl) ?_);
       have b5 := (Below.refl w3.heap.size w3).alloc (Nat.le_refl _) (.cells #[] 28);
       have hown1 : (w3.alloc (.cells #[] 28)).ownsRow B 28 7 (.slice (some ⟨w3.heap.size, 0, none⟩) 0 0) 0 [] := World.ownsRow_made w3 #[] 0 (by omega) (by decide) rfl;
       have gc := gate_cell hp3 b5 ev3 ef3; have gc1 := gc.1; have gc2 := gc.2;
       have X40 := (b5.block W.heap.size (by omega)).trans X30.out; have X41 := (b5.block (W.heap.size + 1) hs3).trans X3.out;
       obtain ⟨⟨y0, y1, y2, y3, y4, y5, y6⟩, _⟩ := row7 X40;
       obtain ⟨⟨z0, z1, z2, z3, z4, z5, z6⟩, f0, f1, f2, f3, f4, f5, f6⟩ := row7 X41;
       have HX41 := Lib.hid X41; clear X40 X41;
       have HO1 := Lib.hid (⟨w3.heap.size, rfl, Nat.le_refl _⟩ : ∃ k, (Value.slice (some ⟨w3.heap.size, 0, none⟩) 0 0).ownBlock = some k ∧ w3.heap.size ≤ k);
       have HOW := Lib.hid hown1; have HB5 := Lib.hid b5; clear hown1 b5;
       generalize w3.alloc _ = w4 at *))
  all_goals
    have h5 : (w4.setCell ⟨p, 0, none⟩ (.slice (some ⟨w3.heap.size, 0, none⟩) 0 0)).heap[W.heap.size + 1]? = some (.cells #[.int .u32 0, .int .u32 0, .int .i64 0, .bool false, .int .u32 0, .int .u32 0, .int .i64 0] 28 (0, 0)) :=
      (Below.heap_setCell _ _ _ _ (by show W.heap.size + 1 ≠ p; omega)).trans HX41.out
    have hst := store7 h5 (.int .u32 x.pc) (.int .u32 x.value) (.int .i64 x.rd) (.bool x.store) (.int .u32 x.addr) (.int .u32 x.data) (.int .i64 x.mask)
    have hgr := grown7 (w4.setCell ⟨p, 0, none⟩ (.slice (some ⟨w3.heap.size, 0, none⟩) 0 0)) (W.heap.size + 1) (.int .u32 x.pc) (.int .u32 x.value) (.int .i64 x.rd) (.bool x.store) (.int .u32 x.addr) (.int .u32 x.data) (.int .i64 x.mask)
    have G := secondR_end (g := some q) (l := []) hlt HB.out b4.out HB5.out hs3 HOW.out HO1.out gc1 gc2 hgr
    clear y0 y1 y2 y3 y4 y5 y6 z0 z1 z2 z3 z4 z5 z6 f0 f1 f2 f3 f4 f5 f6 hgr
    generalize World.setCell _ _ _ = W5 at hst G ⊢
    exact bodyPost_ret (ret_r18 _ hst rfl) rfl ⟨rfl, G⟩
end Go.Proofs.Ytfkjjaimilkfcaa.Gt
