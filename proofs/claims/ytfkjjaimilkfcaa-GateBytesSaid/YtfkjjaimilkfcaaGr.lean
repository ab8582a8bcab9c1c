/- The contracts of the reference's gate. -/
import Derived.Test.YtfkjjaimilkfcaaGd
set_option linter.unusedVariables false
set_option linter.unusedSimpArgs false
namespace Go.Proofs.Ytfkjjaimilkfcaa.Gt
open Go.RowKit Go.Proofs.Ytfkjjaimilkfcaa.Bv Go.Proofs.Ytfkjjaimilkfcaa.Al Go.Proofs.Ytfkjjaimilkfcaa.Ap
theorem gate_src {W : World} {B p : Nat} {g : Option Nat} {l : List R} (h : Gate W B p g l) (hl : l ≠ []) : ∃ q cap, g = some q ∧ W.cell? ⟨p, 0, none⟩ = some (.slice (some ⟨q, 0, none⟩) l.length cap) ∧
    W.ownsRow B 28 7 (.slice (some ⟨q, 0, none⟩) l.length cap) l.length (flat l) := by
  cases l with
  | nil => exact absurd rfl hl
  | cons r l => exact gate_slice h
abbrev box (r : R) : Obj := .cells #[.int .u32 r.pc, .int .u32 r.value, .int .i64 r.rd, .bool r.store, .int .u32 r.addr, .int .u32 r.data, .int .i64 r.mask] 28
theorem size1 (W : World) (o : Obj) : (W.alloc o).heap.size = W.heap.size + 1 := by simp
theorem size2 (W : World) (o o2 : Obj) : ((W.alloc o).alloc o2).heap.size = W.heap.size + 2 := by simp
/-- Patterns of the three new blocks. -/
theorem lit_a (W : World) (B : Nat) (hB : B ≤ W.heap.size) (o : Obj) : ((W.alloc o).alloc (.cells #[] 28)).ownsRow B 28 7 (.slice (some ⟨W.heap.size + 1, 0, none⟩) 0 0) 0 [] := by
  have h := World.ownsRow_made (base := B) (e := 28) (size := 7) (W.alloc o) #[] 0 (by rw [size1]; omega) (by decide) rfl
  rwa [size1] at h
theorem lit_b (W : World) (B : Nat) (hB : B ≤ W.heap.size) (o o2 : Obj) : (((W.alloc o).alloc o2).alloc (.cells #[] 28)).ownsRow B 28 7 (.slice (some ⟨W.heap.size + 1 + 1, 0, none⟩) 0 0) 0 [] := by
  have h := World.ownsRow_made (base := B) (e := 28) (size := 7) ((W.alloc o).alloc o2) #[] 0 (by rw [size2]; omega) (by decide) rfl
  rwa [size2] at h
theorem src_any {W w : World} {B q c : Nat} {l : List R} (h : W.ownsRow B 28 7 (.slice (some ⟨q, 0, none⟩) l.length c) l.length (flat l)) (hq : q < W.heap.size) (hb : Below W.heap.size W w) :
    ∀ j u, (flat l)[j]? = some u → w.cell? ((⟨q, 0, none⟩ : Addr).add j) = some u := by
  intro j u hu
  have h1 := h.cells (g := q) rfl j u hu
  have hadd : (⟨q, 0, none⟩ : Addr).add j = ⟨q, j, none⟩ := by unfold Addr.add; split <;> simp_all
  rw [hadd] at h1 ⊢
  exact (hb.cell (p := ⟨q, j, none⟩) hq).trans h1
theorem ch0 (W : World) (o o2 : Obj) : ((W.alloc o).alloc o2).drew.heap[W.heap.size]? = some o :=
  (Below.heap_alloc (W.alloc o) o2 _ (by simp)).trans (heap_alloc_new W o)
theorem ch3 (W : World) (o o2 o3 : Obj) : (((W.alloc o).alloc o2).alloc o3).drew.heap[W.heap.size]? = some o :=
  (Below.heap_alloc ((W.alloc o).alloc o2) o3 _ (by rw [size2]; omega)).trans (ch0 W o o2)
theorem ch31 (W : World) (o o2 o3 : Obj) : (((W.alloc o).alloc o2).alloc o3).drew.heap[W.heap.size + 1]? = some o2 :=
  (Below.heap_alloc ((W.alloc o).alloc o2) o3 _ (by rw [size2]; omega)).trans (two_new W o o2)
theorem ch32 (W : World) (o o2 o3 : Obj) : (((W.alloc o).alloc o2).alloc o3).drew.heap[W.heap.size + 1 + 1]? = some o3 := by
  have h := heap_alloc_new ((W.alloc o).alloc o2) o3
  rw [size2] at h; exact h
theorem below_grow {W w w' : World} {k : Option Nat} (hb : Below W.heap.size W w) (hg : w.grownBy w' k) (hk : ∀ j, k = some j → W.heap.size ≤ j) : Below W.heap.size W w' := hb.grown hg hb.size hk
theorem own_ge {w w0 : World} {v v0 : Value} (h0 : ∀ j, v0.ownBlock = some j → w0.heap.size ≤ j) (hs : w0.heap.size ≤ w.heap.size) (h : v.ownBlock = v0.ownBlock ∨ ∃ k, v.ownBlock = some k ∧ w.heap.size ≤ k) : ∀ j, v.ownBlock = some j → w0.heap.size ≤ j := by
  intro j hj
  rcases h with h | ⟨k, h, hk⟩
  · rw [h] at hj; exact h0 j hj
  · rw [h] at hj; injection hj; omega
theorem own_is {w w0 : World} {v : Value} {B n : Nat} {xs : List Value} (h0 : ∀ j, v.ownBlock = some j → w0.heap.size ≤ j) (h : w.ownsRow B 28 7 v (n + 1) xs) : ∃ k, v.ownBlock = some k ∧ w0.heap.size ≤ k := by
  rcases h.2 with ⟨_, h1⟩ | ⟨g, cap, cur, rfl, _⟩
  · omega
  · exact ⟨g, rfl, h0 g rfl⟩
theorem own_some {k : Nat} {n c : Nat} : ∀ j, (Value.slice (some ⟨k, 0, none⟩) n c).ownBlock = some j → j = k := by
  intro j h; simp [Value.ownBlock] at h; exact h.symm
theorem gate_cell {W w : World} {p : Nat} {v : Value} (hp : p < W.heap.size) (hb : Below W.heap.size W w) (hv : W.cell? ⟨p, 0, none⟩ = some v) (hf : W.frozen? ⟨p, 0, none⟩ = false) : w.cell? ⟨p, 0, none⟩ = some v ∧ w.frozen? ⟨p, 0, none⟩ = false :=
  ⟨(hb.cell (p := ⟨p, 0, none⟩) hp).trans hv, (hb.frozen (p := ⟨p, 0, none⟩) hp).trans hf⟩
/-- The seven cells of a block. -/
structure Seven (w : World) (b : Nat) (r : R) : Prop where
  h : w.heap[b]? = some (.cells #[.int .u32 r.pc, .int .u32 r.value, .int .i64 r.rd, .bool r.store, .int .u32 r.addr, .int .u32 r.data, .int .i64 r.mask] 28 (0, 0))
theorem Seven.c {w : World} {b : Nat} {r : R} (h : Seven w b r) : w.cell? ⟨b, 0, none⟩ = some (.int .u32 r.pc) ∧ w.cell? ⟨b, 1, none⟩ = some (.int .u32 r.value) ∧ w.cell? ⟨b, 2, none⟩ = some (.int .i64 r.rd) ∧ w.cell? ⟨b, 3, none⟩ = some (.bool r.store) ∧ w.cell? ⟨b, 4, none⟩ = some (.int .u32 r.addr) ∧ w.cell? ⟨b, 5, none⟩ = some (.int .u32 r.data) ∧ w.cell? ⟨b, 6, none⟩ = some (.int .i64 r.mask) :=
  ⟨cell_of_row w b 0 _ _ _ h.h, cell_of_row w b 1 _ _ _ h.h, cell_of_row w b 2 _ _ _ h.h, cell_of_row w b 3 _ _ _ h.h, cell_of_row w b 4 _ _ _ h.h, cell_of_row w b 5 _ _ _ h.h, cell_of_row w b 6 _ _ _ h.h⟩
theorem firstR_end {W w2 : World} {B p : Nat} {g : Option Nat} {l : List R} {r : R} {v v2 : Value} (hlt : p < W.heap.size) (hB : B ≤ p) (hv : W.cell? ⟨p, 0, none⟩ = some v) (hf : W.frozen? ⟨p, 0, none⟩ = false)
    (b2 : Below W.heap.size W w2) (hown : w2.ownsRow B 28 7 v2 (l.length + 1) (flat l ++ r.cells)) (hk : ∃ k, v2.ownBlock = some k ∧ W.heap.size ≤ k) :
    ∃ g', Gate (w2.setCell ⟨p, 0, none⟩ v2) B p g' (l ++ [r]) ∧ (g' = g ∨ ∃ k, g' = some k ∧ W.heap.size ≤ k) ∧ Only W (w2.setCell ⟨p, 0, none⟩ v2) p g := by
  obtain ⟨hc, hfz⟩ := gate_cell hlt b2 hv hf
  obtain ⟨k, hk1, hk2⟩ := hk
  have hs := b2.size
  refine ⟨some k, ⟨by simp; omega, hB, by simpa using hfz, ⟨v2, World.cell?_setCell_same _ _ _ hc, ?_, hk1⟩, by intro e; injection e; omega⟩, Or.inr ⟨k, rfl, hk2⟩, ⟨b2.os, b2.tape, b2.output, by simpa using hs, fun j hj hp _ => (Below.heap_setCell _ _ _ _ (by exact hp)).trans (b2.block j hj)⟩⟩
  rw [flat_append, List.length_append]
  show (w2.setCell ⟨p, 0, none⟩ v2).ownsRow B 28 7 v2 (l.length + 1) (flat l ++ (r.cells ++ []))
  rw [List.append_nil]
  exact hown.kept (row := some p) ⟨rfl, rfl, rfl, by simp, fun j hj hjp => Below.heap_setCell _ _ _ _ (by intro e; apply hjp; rw [e])⟩ (Or.inr (by rw [hk1]; intro e; injection e; omega))
set_option maxHeartbeats 1000000 in
theorem cFirstR (W : World) (B p : Nat) (g : Option Nat) (l : List R) (r : R) (h : Gate W B p g l) (hl : l.length < 16) (hB : B ≤ W.heap.size) (hne : l ≠ []) :
    Calls Try.prog 21 #[.pointer (some ⟨p, 0, none⟩), r.agg] W fun e w' => e = .returned (.bool true) ∧ ∃ g', Gate w' B p g' (l ++ [r]) ∧ (g' = g ∨ ∃ k, g' = some k ∧ W.heap.size ≤ k) ∧ Only W w' p g := by
  obtain ⟨q, c, hg, hv, hrow⟩ := gate_src h hne
  have hlt := h.lt
  have hlt1 : p < W.heap.size + 1 := by omega
  have hlt2 : p < W.heap.size + 1 + 1 := by omega
  have hsz : W.heap.size < W.heap.size + 1 + 1 := by omega
  have hf := h.fz
  obtain ⟨i0, hi, hz0, hz1, hz2⟩ := info_parts info28
  have hq : q < W.heap.size := (hrow.lt q rfl).2
  have HR := Lib.hid hrow
  have HG := Lib.hid hg
  have HB := Lib.hid h.le
  have HN := Lib.hid h.ne
  have HF := Lib.hid (flat_length l)
  clear h hrow hg hne
  go_enter Try.func21, Try.ntmps21
  go_wp2_with fail
  go_region_law (first
    | ((refine step_append_moves rfl (.tmp 12) (.tmp 16) 22 rfl B 28 i0 _ 7 40 Try.underlying22 hi hz0 hz1 hz2 rfl (by decide) _ 0 [] (by simp [Act.eval, Act.put]; rfl) (by first | exact (lit_a W B hB _).drew | exact ((lit_a W B hB _).alloc _).drew | exact (lit_b W B hB _ _).drew) ⟨q, 0, none⟩ l.length c (flat l) (by simp [Act.eval, Act.put]) HF.out (src_any HR.out hq (by repeat (first | exact Below.refl _ _ | refine Below.drew ?_ | refine Below.alloc ?_ (by simp <;> omega) _))) (flat_one l) (by unfold maxLen; omega) (by omega) (by simp <;> omega) ?_); intro a1 c1 w1 hown1 hgrow1 hblk1; simp only [Nat.zero_add, List.nil_append] at hown1 hblk1;
       have b1 := below_grow (W := W) (by repeat (first | exact Below.refl _ _ | refine Below.drew ?_ | refine Below.alloc ?_ (by simp <;> omega) _)) hgrow1 (by intro j hj; have := own_some j hj; omega);
       have s7 := Seven.c (Seven.mk ((hgrow1.block W.heap.size (by simp <;> omega) (by simp [Value.ownBlock] <;> omega)).trans (by first | exact ch0 W _ _ | exact ch3 W _ _ _)));
       obtain ⟨y0, y1, y2, y3, y4, y5, y6⟩ := s7;
       have ho1 := own_ge (w0 := W) (by intro j hj; have := own_some j hj; omega) (by simp <;> omega) hblk1;
       have HO1 := Lib.hid ho1; clear ho1;
       have gc := gate_cell hlt b1 hv hf; have gc1 := gc.1; have gc2 := gc.2)
    | ((refine step_append_moves rfl (.tmp 17) (.tmp 19) 22 rfl B 28 i0 _ 7 40 Try.underlying22 hi hz0 hz1 hz2 rfl (by decide) _ l.length _ (by simp [Act.eval, Act.put]; rfl) (by first | exact hown1 | exact hown1.alloc _) _ 1 1 r.cells (by simp [Act.eval, Act.put]; rfl) rfl (cells_at _ _ r _ (by first | exact heap_alloc_new w1 _ | exact (hgrow1.block _ (by simp <;> omega) (by simp [Value.ownBlock] <;> omega)).trans (ch31 W _ _ _) | exact (hgrow1.block _ (by simp <;> omega) (by simp [Value.ownBlock] <;> omega)).trans (ch32 W _ _ _)) rfl) (r_one r) (by unfold maxLen; omega) (by omega) (by have := b1.size; simp <;> omega) ?_); intro a2 c2 w2 hown2 hgrow2 hblk2;
       have b2 := below_grow (W := W) (by repeat (first | exact b1 | refine Below.alloc ?_ (by have := b1.size; omega) _)) hgrow2 HO1.out;
       have hd := gate_cell hlt b2 hv hf; have hd1 := hd.1; have hd2 := hd.2;
       have ho2 := own_is (own_ge (w0 := W) HO1.out (by have := b1.size; simp <;> omega) hblk2) hown2))
  all_goals
    have HE := Lib.hid (firstR_end (g := g) hlt HB.out hv hf b2 hown2 ho2)
    go_wp2_with fail
    go_ret
    exact ⟨rfl, HE.out⟩
end Go.Proofs.Ytfkjjaimilkfcaa.Gt
