/- The law GateBytes, walked. -/
import Derived.Test.YtfkjjaimilkfcaaOpe
import Derived.Deep.RegionHeld3
set_option linter.unusedVariables false
set_option linter.unusedSimpArgs false
namespace Go.Proofs.Ytfkjjaimilkfcaa.Gt
open Go.RowKit Go.Proofs.Ytfkjjaimilkfcaa.Bv Go.Proofs.Ytfkjjaimilkfcaa.Al Go.Proofs.Ytfkjjaimilkfcaa.Ap Go.Proofs.Ytfkjjaimilkfcaa.Az Go.Proofs.Ytfkjjaimilkfcaa.Wi
/-- Four bytes in a block. -/
structure By (W : World) (X c0 c1 c2 c3 : Nat) : Prop where
  lt : X < W.heap.size
  h0 : W.cell? ⟨X, 0, none⟩ = some (.int .u8 c0)
  h1 : W.cell? ⟨X, 1, none⟩ = some (.int .u8 c1)
  h2 : W.cell? ⟨X, 2, none⟩ = some (.int .u8 c2)
  h3 : W.cell? ⟨X, 3, none⟩ = some (.int .u8 c3)
  f0 : W.frozen? ⟨X, 0, none⟩ = false
  f1 : W.frozen? ⟨X, 1, none⟩ = false
  f2 : W.frozen? ⟨X, 2, none⟩ = false
  f3 : W.frozen? ⟨X, 3, none⟩ = false
theorem By.kept {W W' : World} {X c0 c1 c2 c3 : Nat} (h : By W X c0 c1 c2 c3) (hs : W.heap.size ≤ W'.heap.size) (k : W'.heap[X]? = W.heap[X]?) : By W' X c0 c1 c2 c3 :=
  ⟨Nat.lt_of_lt_of_le h.lt hs, (World.cell?_of_block (a := ⟨X, 0, none⟩) k).trans h.h0, (World.cell?_of_block (a := ⟨X, 1, none⟩) k).trans h.h1, (World.cell?_of_block (a := ⟨X, 2, none⟩) k).trans h.h2, (World.cell?_of_block (a := ⟨X, 3, none⟩) k).trans h.h3,
   (World.frozen?_of_block (a := ⟨X, 0, none⟩) k).trans h.f0, (World.frozen?_of_block (a := ⟨X, 1, none⟩) k).trans h.f1, (World.frozen?_of_block (a := ⟨X, 2, none⟩) k).trans h.f2, (World.frozen?_of_block (a := ⟨X, 3, none⟩) k).trans h.f3⟩
theorem By.below {W W' : World} {X c0 c1 c2 c3 : Nat} (h : By W X c0 c1 c2 c3) (b : Below W.heap.size W W') : By W' X c0 c1 c2 c3 := h.kept b.size (b.block X h.lt)
theorem set_o (W : World) (p i j : Nat) (v : Value) (h : i ≠ j) : (W.setCell ⟨p, i, none⟩ v).cell? ⟨p, j, none⟩ = W.cell? ⟨p, j, none⟩ := World.cell?_setCell_other W _ _ v (by intro e; injection e; contradiction)
theorem set_s (W : World) (p i : Nat) (v u : Value) (h : W.cell? ⟨p, i, none⟩ = some u) : (W.setCell ⟨p, i, none⟩ v).cell? ⟨p, i, none⟩ = some v := World.cell?_setCell_same W _ v h
theorem set_f (W : World) (p i j : Nat) (v : Value) (h : W.frozen? ⟨p, j, none⟩ = false) : (W.setCell ⟨p, i, none⟩ v).frozen? ⟨p, j, none⟩ = false := by simp [h]
theorem By.set0 {W : World} {X c0 c1 c2 c3 : Nat} (h : By W X c0 c1 c2 c3) (v : Int) (n : Nat) (hv : v = n) : By (W.setCell ⟨X, 0, none⟩ (.int .u8 v)) X n c1 c2 c3 := by
  subst hv; exact ⟨by have := h.lt; simpa using this, set_s _ _ _ _ _ h.h0, (set_o _ _ 0 1 _ (by decide)).trans h.h1, (set_o _ _ 0 2 _ (by decide)).trans h.h2, (set_o _ _ 0 3 _ (by decide)).trans h.h3, set_f _ _ _ _ _ h.f0, set_f _ _ _ _ _ h.f1, set_f _ _ _ _ _ h.f2, set_f _ _ _ _ _ h.f3⟩
theorem By.set1 {W : World} {X c0 c1 c2 c3 : Nat} (h : By W X c0 c1 c2 c3) (v : Int) (n : Nat) (hv : v = n) : By (W.setCell ⟨X, 1, none⟩ (.int .u8 v)) X c0 n c2 c3 := by
  subst hv; exact ⟨by have := h.lt; simpa using this, (set_o _ _ 1 0 _ (by decide)).trans h.h0, set_s _ _ _ _ _ h.h1, (set_o _ _ 1 2 _ (by decide)).trans h.h2, (set_o _ _ 1 3 _ (by decide)).trans h.h3, set_f _ _ _ _ _ h.f0, set_f _ _ _ _ _ h.f1, set_f _ _ _ _ _ h.f2, set_f _ _ _ _ _ h.f3⟩
theorem By.set2 {W : World} {X c0 c1 c2 c3 : Nat} (h : By W X c0 c1 c2 c3) (v : Int) (n : Nat) (hv : v = n) : By (W.setCell ⟨X, 2, none⟩ (.int .u8 v)) X c0 c1 n c3 := by
  subst hv; exact ⟨by have := h.lt; simpa using this, (set_o _ _ 2 0 _ (by decide)).trans h.h0, (set_o _ _ 2 1 _ (by decide)).trans h.h1, set_s _ _ _ _ _ h.h2, (set_o _ _ 2 3 _ (by decide)).trans h.h3, set_f _ _ _ _ _ h.f0, set_f _ _ _ _ _ h.f1, set_f _ _ _ _ _ h.f2, set_f _ _ _ _ _ h.f3⟩
theorem By.set3 {W : World} {X c0 c1 c2 c3 : Nat} (h : By W X c0 c1 c2 c3) (v : Int) (n : Nat) (hv : v = n) : By (W.setCell ⟨X, 3, none⟩ (.int .u8 v)) X c0 c1 c2 n := by
  subst hv; exact ⟨by have := h.lt; simpa using this, (set_o _ _ 3 0 _ (by decide)).trans h.h0, (set_o _ _ 3 1 _ (by decide)).trans h.h1, (set_o _ _ 3 2 _ (by decide)).trans h.h2, set_s _ _ _ _ _ h.h3, set_f _ _ _ _ _ h.f0, set_f _ _ _ _ _ h.f1, set_f _ _ _ _ _ h.f2, set_f _ _ _ _ _ h.f3⟩
theorem byte_merge (o d : Nat) (m : Int) (j : Nat) (hj : j < 4) : byte (merge o d m) j = selb o d m j := by
  have := selb_lt o d m 0; have := selb_lt o d m 1; have := selb_lt o d m 2; have := selb_lt o d m 3
  rcases (show j = 0 ∨ j = 1 ∨ j = 2 ∨ j = 3 by omega) with rfl | rfl | rfl | rfl
  all_goals
    unfold byte merge
    generalize selb o d m 0 = s0 at *
    generalize selb o d m 1 = s1 at *
    generalize selb o d m 2 = s2 at *
    generalize selb o d m 3 = s3 at *
    omega
theorem bytes_sum (x : Nat) (hx : x < 4294967296) : byte x 0 + byte x 1 * 256 + byte x 2 * 65536 + byte x 3 * 16777216 = x := by
  unfold byte; omega
theorem join4 (c0 c1 c2 c3 : Nat) (h0 : c0 < 256) (h1 : c1 < 256) (h2 : c2 < 256) (h3 : c3 < 256) :
    Go.bits .or .u32 (Go.bits .or .u32 (Go.bits .or .u32 (c0 : Int) ((c1 * 256 ^ 1 : Nat) : Int)) ((c2 * 256 ^ 2 : Nat) : Int)) ((c3 * 256 ^ 3 : Nat) : Int) = ((c0 + c1 * 256 + c2 * 65536 + c3 * 16777216 : Nat) : Int) := by
  rw [or_part c0 c1 1 (by omega) (by decide) h1 (by omega), or_part (c0 + c1 * 256 ^ 1) c2 2 (by omega) (by decide) h2 (by omega), or_part (c0 + c1 * 256 ^ 1 + c2 * 256 ^ 2) c3 3 (by omega) (by decide) h3 (by omega)]
def low4R (r : R) : R := { r with addr := r.addr &&& 4 }
theorem low4R_take (L : List R) (k : Nat) (hk : k < L.length) : (L.map low4R).take (k + 1) = (L.map low4R).take k ++ [low4R (L[k])] := by
  rw [List.take_succ_eq_append_getElem (by simpa using hk)]; simp
theorem low4R_mem (L : List R) (k : Nat) (h : ∀ r ∈ L, r.wf) : ∀ r ∈ (L.map low4R).take k, r.data < 4294967296 := by
  intro r hr
  obtain ⟨q, hq, rfl⟩ := List.mem_map.1 (List.mem_of_mem_take hr)
  exact (h q hq).data
theorem and4 (a : Nat) (ha : a < 4294967296) : Go.bits .and .u32 (a : Int) 4 = ((a &&& 4 : Nat) : Int) := nand32 a 4 ha (by decide)
theorem fwd_snoc (a : Nat) (l : List R) (r : R) (x : Nat) : fwd a (l ++ [r]) x = if r.store && r.addr == a then merge (fwd a l x) r.data r.mask else fwd a l x := by
  unfold fwd; rw [List.foldl_append]; rfl
set_option maxHeartbeats 2000000 in
set_option maxRecDepth 100000 in
theorem bytes_calls (ad : Option Addr) (c : Nat) (L : List R) (x : Nat) (hx : x < 4294967296) (W : World) (hA : Args W ad L) (hok : ∀ r ∈ L, r.wf) (hm : L.length ≤ 9223372036854775807) :
    Calls Try.prog 4 #[.slice ad L.length c, .int .u32 x] W fun e w' => e = .returned (.bool true) ∧ Below W.heap.size W w' := by
  have HA := Lib.hid hA
  have HOK := Lib.hid hok
  have HX := Lib.hid hx
  clear hA hok hx
  go_enter Try.func4, Try.ntmps4
  go_wp2_with fail
  refine (cNew _).mono ?_
  rintro e w1 ⟨rfl, G1, b1⟩
  have hs1 := G1.lt
  generalize hP : W.heap.size = P at *
  go_wp2_with fail
  have hBy : By (w1.alloc (Obj.cells #[.int .u8 0, .int .u8 0, .int .u8 0, .int .u8 0] 35)) w1.heap.size 0 0 0 0 := ⟨by simp, by simp, by simp, by simp, by simp, by simp, by simp, by simp, by simp⟩
  have b2 : Below P W (w1.alloc (Obj.cells #[.int .u8 0, .int .u8 0, .int .u8 0, .int .u8 0] 35)) := b1.alloc (by omega) _
  have G2 := G1.below ((Below.refl w1.heap.size w1).alloc (Nat.le_refl _) (Obj.cells #[.int .u8 0, .int .u8 0, .int .u8 0, .int .u8 0] 35))
  generalize hX : w1.heap.size = X at *
  generalize w1.alloc _ = w2 at *
  clear b1 G1 hX
  have hsX := hBy.lt
  have hs1X : P < X := hs1
  go_loopw [14] (fun i wr => ∃ k : Nat, k ≤ 4 ∧ i = .int .i64 k ∧ Gate wr P P none [] ∧ By wr X (if 0 < k then byte x 0 else 0) (if 1 < k then byte x 1 else 0) (if 2 < k then byte x 2 else 0) (if 3 < k then byte x 3 else 0) ∧ Below P W wr)
    (fun i _ => 4 - (intOf i).toNat)
  case atStart => exact ⟨0, Nat.zero_le _, rfl, G2, hBy, b2⟩
  case round =>
    clear hBy G2 b2
    obtain ⟨k, hk, rfl, G, Y, hb⟩ := hrel
    have HG := Lib.hid G
    rcases (show k = 0 ∨ k = 1 ∨ k = 2 ∨ k = 3 ∨ k = 4 by omega) with rfl | rfl | rfl | rfl | rfl
    · have c0 := Y.h0
      have f0 := Y.f0
      have HY := Lib.hid Y
      clear G Y
      go_wp2_with fail
      go_roundw
      case rel =>
        refine ⟨1, by omega, rfl, ?_, ?_, hb.setCell (Nat.le_of_lt hs1X) _⟩
        · exact HG.out.kept (by simp) (Below.heap_setCell _ _ _ _ (by show P ≠ X; omega)) (fun _ h => by simp at h)
        · exact HY.out.set0 _ (byte x 0) (by unfold byte; simp <;> omega)
      case measure => simp [intOf]
    · have c0 := Y.h1
      have f0 := Y.f1
      have HY := Lib.hid Y
      clear G Y
      go_wp2_with fail
      go_roundw
      case rel =>
        refine ⟨2, by omega, rfl, ?_, ?_, hb.setCell (Nat.le_of_lt hs1X) _⟩
        · exact HG.out.kept (by simp) (Below.heap_setCell _ _ _ _ (by show P ≠ X; omega)) (fun _ h => by simp at h)
        · exact HY.out.set1 _ (byte x 1) (by unfold byte; simp <;> omega)
      case measure => simp [intOf]
    · have c0 := Y.h2
      have f0 := Y.f2
      have HY := Lib.hid Y
      clear G Y
      go_wp2_with fail
      go_roundw
      case rel =>
        refine ⟨3, by omega, rfl, ?_, ?_, hb.setCell (Nat.le_of_lt hs1X) _⟩
        · exact HG.out.kept (by simp) (Below.heap_setCell _ _ _ _ (by show P ≠ X; omega)) (fun _ h => by simp at h)
        · exact HY.out.set2 _ (byte x 2) (by unfold byte; simp <;> omega)
      case measure => simp [intOf]
    · have c0 := Y.h3
      have f0 := Y.f3
      have HY := Lib.hid Y
      clear G Y
      go_wp2_with fail
      go_roundw
      case rel =>
        refine ⟨4, by omega, rfl, ?_, ?_, hb.setCell (Nat.le_of_lt hs1X) _⟩
        · exact HG.out.kept (by simp) (Below.heap_setCell _ _ _ _ (by show P ≠ X; omega)) (fun _ h => by simp at h)
        · exact HY.out.set3 _ (byte x 3) (by unfold byte; simp <;> omega)
      case measure => simp [intOf]
    · --MARK
      have hbs : By wr X (byte (fwd 4 ((L.map low4R).take 0) x) 0) (byte (fwd 4 ((L.map low4R).take 0) x) 1) (byte (fwd 4 ((L.map low4R).take 0) x) 2) (byte (fwd 4 ((L.map low4R).take 0) x) 3) := Y
      have hG : ∃ g, Gate wr P P g ((L.map low4R).take 0) ∧ g ≠ some X := ⟨none, G, by simp⟩
      clear G Y
      go_wp2_with fail
      go_loopw [8] (fun i wr => ∃ k : Nat, k ≤ 16 ∧ k ≤ L.length ∧ i = .int .i64 k ∧ (∃ g, Gate wr P P g ((L.map low4R).take k) ∧ g ≠ some X) ∧ By wr X (byte (fwd 4 ((L.map low4R).take k) x) 0) (byte (fwd 4 ((L.map low4R).take k) x) 1) (byte (fwd 4 ((L.map low4R).take k) x) 2) (byte (fwd 4 ((L.map low4R).take k) x) 3) ∧ Below P W wr)
        (fun i _ => 16 - (intOf i).toNat)
      case atStart => exact ⟨0, by omega, Nat.zero_le _, rfl, hG, hbs, hb⟩
      case round =>
        clear hG hbs hb HG
        obtain ⟨k, hk16, hkl, rfl, ⟨g, G, hgX⟩, Y, hb⟩ := hrel
        obtain ⟨F, hF⟩ : ∃ F, F = fwd 4 ((L.map low4R).take k) x := ⟨_, rfl⟩
        rw [← hF] at Y
        by_cases hlt : k < L.length ∧ k < 16
        · obtain ⟨hl1, hl2⟩ := hlt
          obtain ⟨b, off, rfl, hbW, E⟩ := HA.out k hl1
          have E2 := E.below hbW (by rw [hP]; exact hb)
          have hsnoc := low4R_take L k hl1
          have hwf := HOK.out _ (List.getElem_mem hl1)
          obtain ⟨r, hr⟩ : ∃ r, L[k] = r := ⟨_, rfl⟩
          rw [hr] at E2 hsnoc hwf
          have ha4 := and4 r.addr hwf.addr
          have hFl : F < 4294967296 := by rw [hF]; exact fwd_lt _ _ _ HX.out
          have hF' : ∃ F' : Nat, F' = fwd 4 ((L.map low4R).take (k + 1)) x ∧ F' = if r.store && (r.addr &&& 4) == 4 then merge F r.data r.mask else F := ⟨_, rfl, by rw [hsnoc, fwd_snoc, ← hF]; rfl⟩
          obtain ⟨F', hF1, hF2⟩ := hF'
          obtain ⟨c0, c1, c2, c3, c4, c5, c6⟩ := E2
          have hll : ((L.map low4R).take k).length = k := by rw [List.length_take, List.length_map]; omega
          obtain ⟨a4, hA4⟩ : ∃ a4, r.addr &&& 4 = a4 := ⟨_, rfl⟩
          have hlow : low4R r = ⟨r.pc, r.value, r.rd, r.store, a4, r.data, r.mask⟩ := by unfold low4R; rw [hA4]
          rw [hA4] at ha4 hF2
          rw [hlow] at hsnoc
          have HF1 := Lib.hid hF1
          have HF2 := Lib.hid hF2
          have HSN := Lib.hid hsnoc
          have HWF := Lib.hid hwf
          have HLL := Lib.hid hll
          clear hF1 hF2 hsnoc hwf hF E hr hll hA4 hlow
          generalize (L.map low4R).take k = M at *
          go_wp2_with fail
          have bA := (Below.refl wr.heap.size wr).alloc (Nat.le_refl _) (box ⟨r.pc, r.value, r.rd, r.store, a4, r.data, r.mask⟩)
          have GA := G.below bA
          have YA := Y.below bA
          have XA := heap_alloc_new wr (box ⟨r.pc, r.value, r.rd, r.store, a4, r.data, r.mask⟩)
          have hbA := below_nextB hb bA (by have := hb.size; omega)
          have hgl := G.own_lt
          have hPs : P < wr.heap.size := G.lt
          have hsXr : X < wr.heap.size := Y.lt
          clear c0 c1 c2 c3 c4 c5 c6 G Y hb bA
          generalize hR9 : wr.heap.size = R9 at *
          generalize wr.alloc _ = wa at *
          refine (cFirst _ _ _ _ M ⟨r.pc, r.value, r.rd, r.store, a4, r.data, r.mask⟩ GA (by rw [HLL.out]; omega) (by have := GA.lt; omega)).mono ?_
          rintro e w3 ⟨rfl, g3, G3, hg3, o3⟩
          rw [← HSN.out] at G3
          have hXa := YA.lt
          have hRa : R9 < wa.heap.size := lt_of_block XA
          have Y3 := YA.kept o3.size (o3.block X hXa (by omega) (Ne.symm hgX))
          have X3 := (o3.block R9 hRa (by omega) (by intro e; have := hgl R9 e.symm; omega)).trans XA
          have hb3 := hbA.trans (o3.belowG GA)
          have hg3X : g3 ≠ some X := by
            rcases hg3 with rfl | ⟨j, rfl, hj⟩
            · exact hgX
            · intro e; injection e; omega
          have hXR : X ≠ R9 := by omega
          clear GA YA XA hbA o3 hg3 hXa hRa hgl
          cases hst : r.store
          · rw [hst] at X3
            have hE : F' = F := by rw [HF2.out, hst]; rfl
            have HE := Lib.hid hE
            clear hE
            go_wp2_with fail
            go_loopw [48] (fun j wq => ∃ k2 : Nat, k2 ≤ 4 ∧ j = .int .i64 k2 ∧ (∃ g, Gate wq P P g ((L.map low4R).take (k + 1)) ∧ g ≠ some X) ∧ By wq X (if 0 < k2 then byte F' 0 else byte F 0) (if 1 < k2 then byte F' 1 else byte F 1) (if 2 < k2 then byte F' 2 else byte F 2) (if 3 < k2 then byte F' 3 else byte F 3) ∧ wq.heap[R9]? = some (box ⟨r.pc, r.value, r.rd, false, a4, r.data, r.mask⟩) ∧ Below P W wq)
              (fun j _ => 4 - (intOf j).toNat)
            case atStart => exact ⟨0, by omega, rfl, ⟨g3, G3, hg3X⟩, Y3, X3, hb3⟩
            case round =>
              clear G3 Y3 X3 hb3 hg3X
              obtain ⟨k2, hk2, rfl, ⟨g4, G4, hg4X⟩, Y4, X4, hb4⟩ := hrel
              obtain ⟨⟨y0, y1, y2, y3, y4, y5, y6⟩, _⟩ := row7 X4
              rcases (show k2 = 0 ∨ k2 = 1 ∨ k2 = 2 ∨ k2 = 3 ∨ k2 = 4 by omega) with rfl | rfl | rfl | rfl | rfl
              · go_wp2_with fail
                go_roundw
                case rel => exact ⟨1, by omega, rfl, ⟨g4, G4, hg4X⟩, by have h := Y4; rw [HE.out] at h ⊢; exact h, X4, hb4⟩
                case measure => simp [intOf]
              · go_wp2_with fail
                go_roundw
                case rel => exact ⟨2, by omega, rfl, ⟨g4, G4, hg4X⟩, by have h := Y4; rw [HE.out] at h ⊢; exact h, X4, hb4⟩
                case measure => simp [intOf]
              · go_wp2_with fail
                go_roundw
                case rel => exact ⟨3, by omega, rfl, ⟨g4, G4, hg4X⟩, by have h := Y4; rw [HE.out] at h ⊢; exact h, X4, hb4⟩
                case measure => simp [intOf]
              · go_wp2_with fail
                go_roundw
                case rel => exact ⟨4, by omega, rfl, ⟨g4, G4, hg4X⟩, by have h := Y4; rw [HE.out] at h ⊢; exact h, X4, hb4⟩
                case measure => simp [intOf]
              · have HB4 := Lib.hid hb4
                have HY4 := Lib.hid Y4
                have HG4 := Lib.hid G4
                clear hb4 Y4 G4
                go_wp2_with fail
                go_roundw
                case rel => exact ⟨k + 1, by omega, by omega, by go_num, ⟨g4, HG4.out, hg4X⟩, (by have h := HY4.out; rw [← HF1.out]; simpa using h), HB4.out⟩
                case measure => simp [intOf]; omega
          · rw [hst] at X3
            cases hat : ((a4 : Int) == 4)
            · have hE : F' = F := by rw [HF2.out, hst, show (a4 == 4) = false from by simp at hat ⊢; omega]; rfl
              have HE := Lib.hid hE
              clear hE
              go_wp2_with fail
              go_loopw [48] (fun j wq => ∃ k2 : Nat, k2 ≤ 4 ∧ j = .int .i64 k2 ∧ (∃ g, Gate wq P P g ((L.map low4R).take (k + 1)) ∧ g ≠ some X) ∧ By wq X (if 0 < k2 then byte F' 0 else byte F 0) (if 1 < k2 then byte F' 1 else byte F 1) (if 2 < k2 then byte F' 2 else byte F 2) (if 3 < k2 then byte F' 3 else byte F 3) ∧ wq.heap[R9]? = some (box ⟨r.pc, r.value, r.rd, true, a4, r.data, r.mask⟩) ∧ Below P W wq)
                (fun j _ => 4 - (intOf j).toNat)
              case atStart => exact ⟨0, by omega, rfl, ⟨g3, G3, hg3X⟩, Y3, X3, hb3⟩
              case round =>
                clear G3 Y3 X3 hb3 hg3X
                obtain ⟨k2, hk2, rfl, ⟨g4, G4, hg4X⟩, Y4, X4, hb4⟩ := hrel
                obtain ⟨⟨y0, y1, y2, y3, y4, y5, y6⟩, _⟩ := row7 X4
                rcases (show k2 = 0 ∨ k2 = 1 ∨ k2 = 2 ∨ k2 = 3 ∨ k2 = 4 by omega) with rfl | rfl | rfl | rfl | rfl
                · go_wp2_with fail
                  go_roundw
                  case rel => exact ⟨1, by omega, rfl, ⟨g4, G4, hg4X⟩, by have h := Y4; rw [HE.out] at h ⊢; exact h, X4, hb4⟩
                  case measure => simp [intOf]
                · go_wp2_with fail
                  go_roundw
                  case rel => exact ⟨2, by omega, rfl, ⟨g4, G4, hg4X⟩, by have h := Y4; rw [HE.out] at h ⊢; exact h, X4, hb4⟩
                  case measure => simp [intOf]
                · go_wp2_with fail
                  go_roundw
                  case rel => exact ⟨3, by omega, rfl, ⟨g4, G4, hg4X⟩, by have h := Y4; rw [HE.out] at h ⊢; exact h, X4, hb4⟩
                  case measure => simp [intOf]
                · go_wp2_with fail
                  go_roundw
                  case rel => exact ⟨4, by omega, rfl, ⟨g4, G4, hg4X⟩, by have h := Y4; rw [HE.out] at h ⊢; exact h, X4, hb4⟩
                  case measure => simp [intOf]
                · have HB4 := Lib.hid hb4
                  have HY4 := Lib.hid Y4
                  have HG4 := Lib.hid G4
                  clear hb4 Y4 G4
                  go_wp2_with fail
                  go_roundw
                  case rel => exact ⟨k + 1, by omega, by omega, by go_num, ⟨g4, HG4.out, hg4X⟩, (by have h := HY4.out; rw [← HF1.out]; simpa using h), HB4.out⟩
                  case measure => simp [intOf]; omega
            · have hE : F' = merge F r.data r.mask := by rw [HF2.out, hst, show (a4 == 4) = true from by simp at hat ⊢; omega]; rfl
              have HE := Lib.hid hE
              clear hE
              go_wp2_with fail
              go_loopw [48] (fun j wq => ∃ k2 : Nat, k2 ≤ 4 ∧ j = .int .i64 k2 ∧ (∃ g, Gate wq P P g ((L.map low4R).take (k + 1)) ∧ g ≠ some X) ∧ By wq X (if 0 < k2 then byte F' 0 else byte F 0) (if 1 < k2 then byte F' 1 else byte F 1) (if 2 < k2 then byte F' 2 else byte F 2) (if 3 < k2 then byte F' 3 else byte F 3) ∧ wq.heap[R9]? = some (box ⟨r.pc, r.value, r.rd, true, a4, r.data, r.mask⟩) ∧ Below P W wq)
                (fun j _ => 4 - (intOf j).toNat)
              case atStart => exact ⟨0, by omega, rfl, ⟨g3, G3, hg3X⟩, Y3, X3, hb3⟩
              case round =>
                clear G3 Y3 X3 hb3 hg3X
                obtain ⟨k2, hk2, rfl, ⟨g4, G4, hg4X⟩, Y4, X4, hb4⟩ := hrel
                obtain ⟨⟨y0, y1, y2, y3, y4, y5, y6⟩, _⟩ := row7 X4
                rcases (show k2 = 0 ∨ k2 = 1 ∨ k2 = 2 ∨ k2 = 3 ∨ k2 = 4 by omega) with rfl | rfl | rfl | rfl | rfl
                · have hb : (Go.bits .and .i64 (r.mask) 1 == 1) = mbit r.mask 0 := by have := bit_is r.mask 0; simpa using this
                  have hn : byte F' 0 = if mbit r.mask 0 then byte r.data 0 else byte F 0 := by rw [HE.out, byte_merge _ _ _ 0 (by decide)]; rfl
                  have c0 := Y4.h0
                  have f0 := Y4.f0
                  cases hm : mbit r.mask 0
                  · rw [hm] at hb hn
                    have HN := Lib.hid hn
                    clear hn hm
                    go_wp2_with fail
                    go_roundw
                    case rel => exact ⟨1, by omega, rfl, ⟨g4, G4, hg4X⟩, by have h := Y4; have e : byte F' 0 = byte F 0   := (by rw [HN.out]; first | done | rfl); simp (decide := true) only [if_true, if_false, e] at h ⊢; exact h, X4, hb4⟩
                    case measure => simp [intOf]
                  · rw [hm] at hb hn
                    have HN := Lib.hid hn
                    clear hn hm
                    have HY4 := Lib.hid Y4
                    clear Y4
                    have HB4 := Lib.hid hb4
                    have HG4 := Lib.hid G4
                    have HX4 := Lib.hid X4
                    clear hb4 G4 X4
                    go_wp2_with fail
                    go_roundw
                    case rel =>
                      refine ⟨1, by omega, rfl, ⟨g4, HG4.out.kept (by simp) (Below.heap_setCell _ _ _ _ (by show P ≠ X; omega)) (fun j hj => Below.heap_setCell _ _ _ _ (by show j ≠ X; intro e; subst e; exact hg4X hj)), hg4X⟩, ?_, (Below.heap_setCell _ _ _ _ (by show R9 ≠ X; omega)).trans HX4.out, HB4.out.setCell (Nat.le_of_lt hs1X) _⟩
                      have h := HY4.out.set0 (r.data / 256 ^ 0 % 256 : Nat) (byte r.data 0) rfl
                      have e : byte F' 0 = byte r.data 0 := (by rw [HN.out]; first | done | rfl)
                      simp (decide := true) only [if_true, if_false, e] at h ⊢
                      simpa using h
                    case measure => simp [intOf]
                · have hb : (Go.bits .and .i64 (r.mask / 2) 1 == 1) = mbit r.mask 1 := by have := bit_is r.mask 1; simpa using this
                  have hn : byte F' 1 = if mbit r.mask 1 then byte r.data 1 else byte F 1 := by rw [HE.out, byte_merge _ _ _ 1 (by decide)]; rfl
                  have c0 := Y4.h1
                  have f0 := Y4.f1
                  cases hm : mbit r.mask 1
                  · rw [hm] at hb hn
                    have HN := Lib.hid hn
                    clear hn hm
                    go_wp2_with fail
                    go_roundw
                    case rel => exact ⟨2, by omega, rfl, ⟨g4, G4, hg4X⟩, by have h := Y4; have e : byte F' 1 = byte F 1   := (by rw [HN.out]; first | done | rfl); simp (decide := true) only [if_true, if_false, e] at h ⊢; exact h, X4, hb4⟩
                    case measure => simp [intOf]
                  · rw [hm] at hb hn
                    have HN := Lib.hid hn
                    clear hn hm
                    have HY4 := Lib.hid Y4
                    clear Y4
                    have HB4 := Lib.hid hb4
                    have HG4 := Lib.hid G4
                    have HX4 := Lib.hid X4
                    clear hb4 G4 X4
                    go_wp2_with fail
                    go_roundw
                    case rel =>
                      refine ⟨2, by omega, rfl, ⟨g4, HG4.out.kept (by simp) (Below.heap_setCell _ _ _ _ (by show P ≠ X; omega)) (fun j hj => Below.heap_setCell _ _ _ _ (by show j ≠ X; intro e; subst e; exact hg4X hj)), hg4X⟩, ?_, (Below.heap_setCell _ _ _ _ (by show R9 ≠ X; omega)).trans HX4.out, HB4.out.setCell (Nat.le_of_lt hs1X) _⟩
                      have h := HY4.out.set1 (r.data / 256 ^ 1 % 256 : Nat) (byte r.data 1) rfl
                      have e : byte F' 1 = byte r.data 1 := (by rw [HN.out]; first | done | rfl)
                      simp (decide := true) only [if_true, if_false, e] at h ⊢
                      simpa using h
                    case measure => simp [intOf]
                · have hb : (Go.bits .and .i64 (r.mask / 4) 1 == 1) = mbit r.mask 2 := by have := bit_is r.mask 2; simpa using this
                  have hn : byte F' 2 = if mbit r.mask 2 then byte r.data 2 else byte F 2 := by rw [HE.out, byte_merge _ _ _ 2 (by decide)]; rfl
                  have c0 := Y4.h2
                  have f0 := Y4.f2
                  cases hm : mbit r.mask 2
                  · rw [hm] at hb hn
                    have HN := Lib.hid hn
                    clear hn hm
                    go_wp2_with fail
                    go_roundw
                    case rel => exact ⟨3, by omega, rfl, ⟨g4, G4, hg4X⟩, by have h := Y4; have e : byte F' 2 = byte F 2   := (by rw [HN.out]; first | done | rfl); simp (decide := true) only [if_true, if_false, e] at h ⊢; exact h, X4, hb4⟩
                    case measure => simp [intOf]
                  · rw [hm] at hb hn
                    have HN := Lib.hid hn
                    clear hn hm
                    have HY4 := Lib.hid Y4
                    clear Y4
                    have HB4 := Lib.hid hb4
                    have HG4 := Lib.hid G4
                    have HX4 := Lib.hid X4
                    clear hb4 G4 X4
                    go_wp2_with fail
                    go_roundw
                    case rel =>
                      refine ⟨3, by omega, rfl, ⟨g4, HG4.out.kept (by simp) (Below.heap_setCell _ _ _ _ (by show P ≠ X; omega)) (fun j hj => Below.heap_setCell _ _ _ _ (by show j ≠ X; intro e; subst e; exact hg4X hj)), hg4X⟩, ?_, (Below.heap_setCell _ _ _ _ (by show R9 ≠ X; omega)).trans HX4.out, HB4.out.setCell (Nat.le_of_lt hs1X) _⟩
                      have h := HY4.out.set2 (r.data / 256 ^ 2 % 256 : Nat) (byte r.data 2) rfl
                      have e : byte F' 2 = byte r.data 2 := (by rw [HN.out]; first | done | rfl)
                      simp (decide := true) only [if_true, if_false, e] at h ⊢
                      simpa using h
                    case measure => simp [intOf]
                · have hb : (Go.bits .and .i64 (r.mask / 8) 1 == 1) = mbit r.mask 3 := by have := bit_is r.mask 3; simpa using this
                  have hn : byte F' 3 = if mbit r.mask 3 then byte r.data 3 else byte F 3 := by rw [HE.out, byte_merge _ _ _ 3 (by decide)]; rfl
                  have c0 := Y4.h3
                  have f0 := Y4.f3
                  cases hm : mbit r.mask 3
                  · rw [hm] at hb hn
                    have HN := Lib.hid hn
                    clear hn hm
                    go_wp2_with fail
                    go_roundw
                    case rel => exact ⟨4, by omega, rfl, ⟨g4, G4, hg4X⟩, by have h := Y4; have e : byte F' 3 = byte F 3   := (by rw [HN.out]; first | done | rfl); simp (decide := true) only [if_true, if_false, e] at h ⊢; exact h, X4, hb4⟩
                    case measure => simp [intOf]
                  · rw [hm] at hb hn
                    have HN := Lib.hid hn
                    clear hn hm
                    have HY4 := Lib.hid Y4
                    clear Y4
                    have HB4 := Lib.hid hb4
                    have HG4 := Lib.hid G4
                    have HX4 := Lib.hid X4
                    clear hb4 G4 X4
                    go_wp2_with fail
                    go_roundw
                    case rel =>
                      refine ⟨4, by omega, rfl, ⟨g4, HG4.out.kept (by simp) (Below.heap_setCell _ _ _ _ (by show P ≠ X; omega)) (fun j hj => Below.heap_setCell _ _ _ _ (by show j ≠ X; intro e; subst e; exact hg4X hj)), hg4X⟩, ?_, (Below.heap_setCell _ _ _ _ (by show R9 ≠ X; omega)).trans HX4.out, HB4.out.setCell (Nat.le_of_lt hs1X) _⟩
                      have h := HY4.out.set3 (r.data / 256 ^ 3 % 256 : Nat) (byte r.data 3) rfl
                      have e : byte F' 3 = byte r.data 3 := (by rw [HN.out]; first | done | rfl)
                      simp (decide := true) only [if_true, if_false, e] at h ⊢
                      simpa using h
                    case measure => simp [intOf]
                · have HB4 := Lib.hid hb4
                  have HY4 := Lib.hid Y4
                  have HG4 := Lib.hid G4
                  clear hb4 Y4 G4
                  go_wp2_with fail
                  go_roundw
                  case rel => exact ⟨k + 1, by omega, by omega, by go_num, ⟨g4, HG4.out, hg4X⟩, (by have h := HY4.out; rw [← HF1.out]; simpa using h), HB4.out⟩
                  case measure => simp [intOf]; omega
        · have hwfM := low4R_mem L k HOK.out
          have hFl : F < 4294967296 := by rw [hF]; exact fwd_lt _ _ _ HX.out
          have hMl : ((L.map low4R).take k).length ≤ 1000 := by rw [List.length_take]; omega
          have cF := fun (W : World) (G : Gate W P P g ((L.map low4R).take k)) => cForward W P P g _ G hMl hwfM 4 x HX.out
          rw [← hF] at cF
          have HCF := Lib.hid cF
          have hsum := bytes_sum F hFl
          have q0 := byte_lt F 0
          have q1 := byte_lt F 1
          have q2 := byte_lt F 2
          have q3 := byte_lt F 3
          generalize byte F 0 = c0 at *
          generalize byte F 1 = c1 at *
          generalize byte F 2 = c2 at *
          generalize byte F 3 = c3 at *
          have hj : Go.bits .or .u32 (Go.bits .or .u32 (Go.bits .or .u32 (c0 : Int) ((c1 : Int) * 256)) ((c2 : Int) * 65536)) ((c3 : Int) * 16777216) = (F : Int) := by
            have h := join4 c0 c1 c2 c3 q0 q1 q2 q3
            rw [hsum] at h
            simpa using h
          have HG := Lib.hid G
          have HB := Lib.hid hb
          have hXw := Y.lt
          obtain ⟨_, y0, y1, y2, y3, _, _, _, _⟩ := Y
          clear cF hF hsum hwfM hMl G hgX hb
          by_cases hkl2 : k = L.length
          · subst hkl2
            clear hlt
            go_wp2_with fail
            have r0 : IntKind.u32.wrap (c0 : Int) = (c0 : Int) := u32_id _ (by omega) (by omega)
            have r1 : IntKind.u32.wrap (c1 : Int) = (c1 : Int) := u32_id _ (by omega) (by omega)
            have r2 : IntKind.u32.wrap (c2 : Int) = (c2 : Int) := u32_id _ (by omega) (by omega)
            have r3 : IntKind.u32.wrap (c3 : Int) = (c3 : Int) := u32_id _ (by omega) (by omega)
            have s1 : IntKind.u32.wrap ((c1 : Int) * 256) = (c1 : Int) * 256 := u32_id _ (by omega) (by omega)
            have s2 : IntKind.u32.wrap ((c2 : Int) * 65536) = (c2 : Int) * 65536 := u32_id _ (by omega) (by omega)
            have s3 : IntKind.u32.wrap ((c3 : Int) * 16777216) = (c3 : Int) * 16777216 := u32_id _ (by omega) (by omega)
            go_region_held3 (fun w' => w'.cell? ⟨X, 0, none⟩ = some (.int .u8 c0) ∧ w'.cell? ⟨X, 1, none⟩ = some (.int .u8 c1) ∧ w'.cell? ⟨X, 2, none⟩ = some (.int .u8 c2) ∧ w'.cell? ⟨X, 3, none⟩ = some (.int .u8 c3))
              (first
                | go_keep
                | exact ⟨(b5.cell (p := ⟨X, 0, none⟩) hXw).trans y0, (b5.cell (p := ⟨X, 1, none⟩) hXw).trans y1, (b5.cell (p := ⟨X, 2, none⟩) hXw).trans y2, (b5.cell (p := ⟨X, 3, none⟩) hXw).trans y3⟩
                | exact ⟨(b6.cell (p := ⟨X, 0, none⟩) (Nat.lt_of_lt_of_le hXw b5.size)).trans ((b5.cell (p := ⟨X, 0, none⟩) hXw).trans y0), (b6.cell (p := ⟨X, 1, none⟩) (Nat.lt_of_lt_of_le hXw b5.size)).trans ((b5.cell (p := ⟨X, 1, none⟩) hXw).trans y1), (b6.cell (p := ⟨X, 2, none⟩) (Nat.lt_of_lt_of_le hXw b5.size)).trans ((b5.cell (p := ⟨X, 2, none⟩) hXw).trans y2), (b6.cell (p := ⟨X, 3, none⟩) (Nat.lt_of_lt_of_le hXw b5.size)).trans ((b5.cell (p := ⟨X, 3, none⟩) hXw).trans y3)⟩)
              (first
                | (go_at_call 13; refine (HCF.out wr.drew (HG.out.kept (Nat.le_refl _) rfl (fun _ _ => rfl))).mono ?_; rintro e w5 ⟨rfl, b5⟩)
                | (go_at_call 12; refine (cknown _).mono ?_; rintro e w6 ⟨rfl, b6⟩))
            go_wp2_with fail
            go_ret
            exact ⟨rfl, by subst hP; exact below_next (below_next HB.out.drew b5) b6⟩
          · have hk2 : k = 16 := by omega
            have hkl3 : 16 < L.length := by omega
            subst hk2
            clear hlt hkl2
            go_wp2_with fail
            have r0 : IntKind.u32.wrap (c0 : Int) = (c0 : Int) := u32_id _ (by omega) (by omega)
            have r1 : IntKind.u32.wrap (c1 : Int) = (c1 : Int) := u32_id _ (by omega) (by omega)
            have r2 : IntKind.u32.wrap (c2 : Int) = (c2 : Int) := u32_id _ (by omega) (by omega)
            have r3 : IntKind.u32.wrap (c3 : Int) = (c3 : Int) := u32_id _ (by omega) (by omega)
            have s1 : IntKind.u32.wrap ((c1 : Int) * 256) = (c1 : Int) * 256 := u32_id _ (by omega) (by omega)
            have s2 : IntKind.u32.wrap ((c2 : Int) * 65536) = (c2 : Int) * 65536 := u32_id _ (by omega) (by omega)
            have s3 : IntKind.u32.wrap ((c3 : Int) * 16777216) = (c3 : Int) * 16777216 := u32_id _ (by omega) (by omega)
            go_region_held3 (fun w' => w'.cell? ⟨X, 0, none⟩ = some (.int .u8 c0) ∧ w'.cell? ⟨X, 1, none⟩ = some (.int .u8 c1) ∧ w'.cell? ⟨X, 2, none⟩ = some (.int .u8 c2) ∧ w'.cell? ⟨X, 3, none⟩ = some (.int .u8 c3))
              (first
                | go_keep
                | exact ⟨(b5.cell (p := ⟨X, 0, none⟩) hXw).trans y0, (b5.cell (p := ⟨X, 1, none⟩) hXw).trans y1, (b5.cell (p := ⟨X, 2, none⟩) hXw).trans y2, (b5.cell (p := ⟨X, 3, none⟩) hXw).trans y3⟩
                | exact ⟨(b6.cell (p := ⟨X, 0, none⟩) (Nat.lt_of_lt_of_le hXw b5.size)).trans ((b5.cell (p := ⟨X, 0, none⟩) hXw).trans y0), (b6.cell (p := ⟨X, 1, none⟩) (Nat.lt_of_lt_of_le hXw b5.size)).trans ((b5.cell (p := ⟨X, 1, none⟩) hXw).trans y1), (b6.cell (p := ⟨X, 2, none⟩) (Nat.lt_of_lt_of_le hXw b5.size)).trans ((b5.cell (p := ⟨X, 2, none⟩) hXw).trans y2), (b6.cell (p := ⟨X, 3, none⟩) (Nat.lt_of_lt_of_le hXw b5.size)).trans ((b5.cell (p := ⟨X, 3, none⟩) hXw).trans y3)⟩)
              (first
                | (go_at_call 13; refine (HCF.out wr.drew (HG.out.kept (Nat.le_refl _) rfl (fun _ _ => rfl))).mono ?_; rintro e w5 ⟨rfl, b5⟩)
                | (go_at_call 12; refine (cknown _).mono ?_; rintro e w6 ⟨rfl, b6⟩))
            go_wp2_with fail
            go_ret
            exact ⟨rfl, by subst hP; exact below_next (below_next HB.out.drew b5) b6⟩
end Go.Proofs.Ytfkjjaimilkfcaa.Gt
