/- The contracts of package gate's functions: what waits, as a list. -/
import Derived.Test.YtfkjjaimilkfcaaMp
import Derived.Below
import Derived.Laws.AppendOwn
import Derived.RegionTactic
import Derived.BigRegion
import Derived.Laws.StructEq
import Derived.OwnWalk
import Derived.Deep.RegionLaw
import Derived.Test.YtfkjjaimilkfcaaAp
set_option linter.unusedVariables false
set_option linter.unusedSimpArgs false
namespace Go.Proofs.Ytfkjjaimilkfcaa.Gt
open Go.RowKit Go.Proofs.Ytfkjjaimilkfcaa.Bv Go.Proofs.Ytfkjjaimilkfcaa.Al Go.Proofs.Ytfkjjaimilkfcaa.Ap
/-- What is retired. -/
structure R where
  pc : Nat
  value : Nat
  rd : Int
  store : Bool
  addr : Nat
  data : Nat
  mask : Int
deriving DecidableEq
def R.cells (r : R) : List Value := [.int .u32 r.pc, .int .u32 r.value, .int .i64 r.rd, .bool r.store, .int .u32 r.addr, .int .u32 r.data, .int .i64 r.mask]
abbrev R.agg (r : R) : Value := .agg #[.int .u32 r.pc, .int .u32 r.value, .int .i64 r.rd, .bool r.store, .int .u32 r.addr, .int .u32 r.data, .int .i64 r.mask]
theorem eq28 (x y : R) (w : World) : (binOp .eql 28 x.agg y.agg).run Try.prog w = .ok (.bool (decide (x = y))) w := by
  have hS : Try.prog.underlying 28 = some (.struct (Try.prog.fieldsOf 28)) := by kernel_rfl
  have hp : Try.prog.stoodInHeld 28 = false := by kernel_rfl
  have u3 := Try.underlying3
  have u4 := Try.underlying4
  have u26 := Try.underlying26
  have a3 := Try.isAgg3
  have a4 := Try.isAgg4
  have a26 := Try.isAgg26
  have z3 := Try.sizeOf3
  have z4 := Try.sizeOf4
  have z26 := Try.sizeOf26
  simp only [R.agg]
  rw [run_eql_struct, show (10000 : Nat) = 9999 + 1 from rfl, run_equalIn_agg w 9999 28 _ _ hS hp]
  simp only [Program.fieldsOf, Try.underlying28]
  go_simp
  obtain ⟨a1, a2, a3, a4, a5, a6, a7⟩ := x
  obtain ⟨b1, b2, b3, b4, b5, b6, b7⟩ := y
  simp only [R.mk.injEq, Int.ofNat_inj, Int.natCast_inj]
  by_cases h1 : a1 = b1
  · by_cases h2 : a2 = b2
    · by_cases h3 : a3 = b3
      · by_cases h4 : a4 = b4
        · by_cases h5 : a5 = b5
          · by_cases h6 : a6 = b6
            · by_cases h7 : a7 = b7
              · simp [h1, h2, h3, h4, h5, h6, h7]
              · simp [h1, h2, h3, h4, h5, h6, h7]
            · simp [h1, h2, h3, h4, h5, h6]
          · simp [h1, h2, h3, h4, h5]
        · simp [h1, h2, h3, h4]
      · simp [h1, h2, h3]
    · simp [h1, h2]
  · simp [h1]
theorem ret_beq {a b : Bool} (h : a = b) : Ending.returned (.bool a) = .returned (.bool b) := by rw [h]
theorem cSame (x y : R) (w : World) : Calls Try.prog 15 #[x.agg, y.agg] w fun e w' => e = .returned (.bool (decide (x = y))) ∧ Below w.heap.size w w' := by
  have he := eq28 x y
  simp only [R.agg] at he ⊢
  go_enter Try.func15, Try.ntmps15
  go_wp2
  go_ret
  exact ⟨rfl, (((Below.refl _ _).alloc (Nat.le_refl _) _).alloc (by simp) _)⟩
/-- Rows of what is retired, as cells. -/
def flat : List R → List Value
  | [] => []
  | r :: l => r.cells ++ flat l
theorem flat_append (l m : List R) : flat (l ++ m) = flat l ++ flat m := by
  induction l with
  | nil => rfl
  | cons r l ih => simp [flat, ih]
theorem flat_length (l : List R) : (flat l).length = l.length * 7 := by
  induction l with
  | nil => rfl
  | cons r l ih => simp [flat, ih, R.cells]; omega
/-- A gate in block p, with what waits; its row lies in block g. -/
structure Gate (W : World) (B p : Nat) (g : Option Nat) (l : List R) : Prop where
  lt : p < W.heap.size
  le : B ≤ p
  fz : W.frozen? ⟨p, 0, none⟩ = false
  row : ∃ v, W.cell? ⟨p, 0, none⟩ = some v ∧ W.ownsRow B 28 7 v l.length (flat l) ∧ v.ownBlock = g
  ne : g ≠ some p
theorem info28 : (Try.prog.info? 28).map (fun i => (i.zero, i.size, i.bytes)) = some (some (.agg #[.int .u32 0, .int .u32 0, .int .i64 0, .bool false, .int .u32 0, .int .u32 0, .int .i64 0]), 7, 40) := by kernel_rfl
theorem slice_form {W : World} {B : Nat} {v : Value} {l : List R} (h : W.ownsRow B 28 7 v l.length (flat l)) : ∃ (a : Option Addr) (c : Nat), v = .slice a l.length c := by
  rcases h.2 with ⟨rfl, h0⟩ | ⟨g, cap, cur, rfl, _⟩
  · exact ⟨none, 0, by rw [h0]⟩
  · exact ⟨_, _, rfl⟩
set_option maxHeartbeats 1000000 in
theorem cFirst_full (W : World) (B p : Nat) (g : Option Nat) (l : List R) (r : R) (h : Gate W B p g l) (hl : 16 ≤ l.length) (hm : l.length ≤ 1000) :
    Calls Try.prog 8 #[.pointer (some ⟨p, 0, none⟩), r.agg] W fun e w' => e = .returned (.bool false) ∧ Below W.heap.size W w' := by
  obtain ⟨v, hv, hrow, hg⟩ := h.row
  obtain ⟨a, c, rfl⟩ := slice_form hrow
  have hlt := h.lt
  clear h hrow hg
  go_enter Try.func8, Try.ntmps8
  go_wp2
  go_ret
  exact ⟨rfl, (Below.refl _ _).alloc (Nat.le_refl _) _⟩
theorem cells_at (W : World) (b : Nat) (r : R) (cs : Array Value) (h : W.heap[b]? = some (.cells cs 28 (0, 0))) (hc : cs = r.cells.toArray) : ∀ (j : Nat) (u : Value), r.cells[j]? = some u → W.cell? ((⟨b, 0, none⟩ : Addr).add j) = some u := by
  intro j u hu
  subst hc
  have hadd : (⟨b, 0, none⟩ : Addr).add j = ⟨b, j, none⟩ := by unfold Addr.add; split <;> simp_all
  rw [hadd, cell_of_row W b j _ 28 (0, 0) h]
  simpa using hu
theorem two_new (W : World) (o1 o2 : Obj) : ((W.alloc o1).alloc o2).drew.heap[W.heap.size + 1]? = some o2 := by
  have h := heap_alloc_new (W.alloc o1) o2
  rw [show (W.alloc o1).heap.size = W.heap.size + 1 from by simp] at h
  exact h
theorem r_one (r : R) : ∀ u ∈ r.cells, u.oneCell' = true := by
  intro u hu
  simp [R.cells] at hu
  rcases hu with rfl | rfl | rfl | rfl | rfl | rfl | rfl <;> rfl
/-- Block p and what lies in g alone have turned. -/
structure Only (W W' : World) (p : Nat) (g : Option Nat) : Prop where
  os : W'.os = W.os
  tape : W'.tape = W.tape
  output : W'.output = W.output
  size : W.heap.size ≤ W'.heap.size
  block : ∀ k, k < W.heap.size → k ≠ p → some k ≠ g → W'.heap[k]? = W.heap[k]?
theorem Only.refl (W : World) (p : Nat) (g : Option Nat) : Only W W p g := ⟨rfl, rfl, rfl, Nat.le_refl _, fun _ _ _ _ => rfl⟩
theorem Only.below {W W' : World} {B p : Nat} {g : Option Nat} (h : Only W W' p g) (hp : B ≤ p) (hg : ∀ k, g = some k → B ≤ k) (hB : B ≤ W.heap.size) : Below B W W' :=
  ⟨h.os, h.tape, h.output, h.size, fun k hk => h.block k (by omega) (by omega) (fun e => by have := hg k e.symm; omega)⟩
theorem Only.of_below {W W' : World} {p : Nat} {g : Option Nat} (h : Below W.heap.size W W') : Only W W' p g := ⟨h.os, h.tape, h.output, h.size, fun k hk _ _ => h.block k hk⟩
theorem Only.next {W W1 W2 : World} {p : Nat} {g g1 : Option Nat} (h : Only W W1 p g) (k : Only W1 W2 p g1) (hg : g1 = g ∨ ∃ k, g1 = some k ∧ W.heap.size ≤ k) : Only W W2 p g :=
  ⟨k.os.trans h.os, k.tape.trans h.tape, k.output.trans h.output, Nat.le_trans h.size k.size, fun i hi hp hne => by
    rw [k.block i (Nat.lt_of_lt_of_le hi h.size) hp ?_, h.block i hi hp hne]
    rcases hg with rfl | ⟨j, rfl, hj⟩
    · exact hne
    · intro e; injection e; omega⟩
theorem only_first {W w' : World} {p : Nat} {g : Option Nat} {v v' : Value} {o1 o2 : Obj} (hvg : v.ownBlock = g) (hgr : ((W.alloc o1).alloc o2).drew.grownBy w' v.ownBlock) : Only W (w'.setCell ⟨p, 0, none⟩ v') p g := by
  refine ⟨hgr.os, hgr.tape, hgr.output, ?_, fun k hk hp hg => ?_⟩
  · have := hgr.size; simp at this ⊢; omega
  · rw [Below.heap_setCell _ _ _ _ (by exact hp), hgr.block k (by simp; omega) (by rw [hvg]; exact hg)]
    exact (Below.heap_alloc (W.alloc o1) o2 k (by simp; omega)).trans (Below.heap_alloc W o1 k hk)
theorem gate_next {W w' : World} {B p : Nat} {g : Option Nat} {l : List R} {r : R} {v v' : Value} (hp : p < W.heap.size) (hB : B ≤ p) (hf : W.frozen? ⟨p, 0, none⟩ = false) (hv : W.cell? ⟨p, 0, none⟩ = some v) (hvg : v.ownBlock = g) (hne : g ≠ some p)
    (hown : w'.ownsRow B 28 7 v' (l.length + 1) (flat l ++ r.cells)) (hgr : W.grownBy w' v.ownBlock) (hblk : v'.ownBlock = v.ownBlock ∨ ∃ k, v'.ownBlock = some k ∧ W.heap.size ≤ k) :
    ∃ g', Gate (w'.setCell ⟨p, 0, none⟩ v') B p g' (l ++ [r]) ∧ (g' = g ∨ ∃ k, g' = some k ∧ W.heap.size ≤ k) := by
  have hnp : v'.ownBlock ≠ some p := by
    rcases hblk with h | ⟨k, h, hk⟩
    · rw [h, hvg]; exact hne
    · rw [h]; intro e; injection e with e; omega
  have hold : w'.heap[p]? = W.heap[p]? := hgr.block p hp (by rw [hvg]; exact Ne.symm hne)
  have hc : w'.cell? ⟨p, 0, none⟩ = some v := (World.cell?_of_block (w := W) (a := ⟨p, 0, none⟩) hold).trans hv
  have hfz : w'.frozen? ⟨p, 0, none⟩ = false := (World.frozen?_of_block (w := W) (a := ⟨p, 0, none⟩) hold).trans hf
  refine ⟨v'.ownBlock, ⟨by have := hgr.size; simp; omega, hB, by simpa using hfz, ⟨v', World.cell?_setCell_same _ _ _ hc, ?_, rfl⟩, hnp⟩, ?_⟩
  · rw [flat_append, List.length_append]
    show (w'.setCell ⟨p, 0, none⟩ v').ownsRow B 28 7 v' (l.length + 1) (flat l ++ (r.cells ++ []))
    rw [List.append_nil]
    refine hown.kept (row := some p) ⟨rfl, rfl, rfl, by simp, fun k hk hkp => Below.heap_setCell _ _ _ _ (by intro e; apply hkp; rw [e])⟩ (Or.inr hnp)
  · rcases hblk with h | h
    · exact Or.inl (h.trans hvg)
    · exact Or.inr h
theorem gate_mid {W w' : World} {p : Nat} {a : Option Addr} {n c : Nat} {o1 o2 : Obj} (hp : p < W.heap.size) (hf : W.frozen? ⟨p, 0, none⟩ = false) (hv : W.cell? ⟨p, 0, none⟩ = some (.slice a n c)) (hg : (Value.slice a n c).ownBlock ≠ some p)
    (hgr : ((W.alloc o1).alloc o2).drew.grownBy w' (Value.slice a n c).ownBlock) : w'.cell? ⟨p, 0, none⟩ = some (.slice a n c) ∧ w'.frozen? ⟨p, 0, none⟩ = false := by
  have hold : w'.heap[p]? = W.heap[p]? := by
    rw [hgr.block p (by simp; omega) (Ne.symm hg)]
    exact (Below.heap_alloc (W.alloc o1) o2 p (by simp; omega)).trans (Below.heap_alloc W o1 p hp)
  exact ⟨(World.cell?_of_block (w := W) (a := ⟨p, 0, none⟩) hold).trans hv, (World.frozen?_of_block (w := W) (a := ⟨p, 0, none⟩) hold).trans hf⟩
set_option maxHeartbeats 1000000 in
theorem cFirst (W : World) (B p : Nat) (g : Option Nat) (l : List R) (r : R) (h : Gate W B p g l) (hl : l.length < 16) (hB : B ≤ W.heap.size) :
    Calls Try.prog 8 #[.pointer (some ⟨p, 0, none⟩), r.agg] W fun e w' => e = .returned (.bool true) ∧ ∃ g', Gate w' B p g' (l ++ [r]) ∧ (g' = g ∨ ∃ k, g' = some k ∧ W.heap.size ≤ k) ∧ Only W w' p g := by
  obtain ⟨v, hv, hrow, hg⟩ := h.row
  obtain ⟨a, c, rfl⟩ := slice_form hrow
  have hlt := h.lt
  have hf := h.fz
  obtain ⟨i0, hi, hz0, hz1, hz2⟩ := info_parts info28
  have HR := Lib.hid hrow
  have HG := Lib.hid hg
  have HB := Lib.hid h.le
  have HN := Lib.hid h.ne
  clear h hrow hg
  go_enter Try.func8, Try.ntmps8
  go_wp2_with fail
  go_region_law ((refine step_append_moves rfl (.tmp 15) (.tmp 17) 22 rfl B 28 i0 _ 7 40 Try.underlying22 hi hz0 hz1 hz2 rfl (by decide) _ l.length _ rfl ((HR.out.alloc _).alloc _).drew ⟨W.heap.size + 1, 0, none⟩ 1 1 r.cells rfl rfl (cells_at _ _ r _ (two_new _ _ _) rfl) (r_one r) (by unfold maxLen; omega) (by omega) (by simp; omega) ?_; intro a' c' w' hown' hgrow hblk; have hg2 := gate_mid hlt hf hv (by rw [HG.out]; exact HN.out) hgrow; have hcp := hg2.1; have hfp := hg2.2))
  all_goals
    go_wp2_with fail
    go_ret
    have hlt2 : p < ((W.alloc (.cells #[.int .u32 r.pc, .int .u32 r.value, .int .i64 r.rd, .bool r.store, .int .u32 r.addr, .int .u32 r.data, .int .i64 r.mask] 28)).alloc (.cells #[.int .u32 r.pc, .int .u32 r.value, .int .i64 r.rd, .bool r.store, .int .u32 r.addr, .int .u32 r.data, .int .i64 r.mask] 28)).drew.heap.size := by simp; omega
    have hb2 := (((Below.refl W.heap.size W).alloc (Nat.le_refl _) (.cells #[.int .u32 r.pc, .int .u32 r.value, .int .i64 r.rd, .bool r.store, .int .u32 r.addr, .int .u32 r.data, .int .i64 r.mask] 28)).alloc (by simp) (.cells #[.int .u32 r.pc, .int .u32 r.value, .int .i64 r.rd, .bool r.store, .int .u32 r.addr, .int .u32 r.data, .int .i64 r.mask] 28)).drew
    obtain ⟨g', h1, h2⟩ := gate_next hlt2 HB.out ((hb2.frozen (p := ⟨p, 0, none⟩) hlt).trans hf) ((hb2.cell (p := ⟨p, 0, none⟩) hlt).trans hv) HG.out HN.out hown' hgrow hblk
    exact ⟨rfl, g', h1, h2.imp id (fun ⟨k, a, b⟩ => ⟨k, a, by simp at b; omega⟩), only_first HG.out hgrow⟩
end Go.Proofs.Ytfkjjaimilkfcaa.Gt
