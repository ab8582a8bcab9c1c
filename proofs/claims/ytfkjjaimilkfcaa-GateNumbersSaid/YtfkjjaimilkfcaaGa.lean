/- Rows of asks that came in. -/
import Derived.Test.YtfkjjaimilkfcaaGm
import Derived.ChangeSlices
import Derived.ChangeArms
import Derived.ChangeShapes
import Derived.WideShapes
import Derived.ProofKit
import Derived.Deep.Slices
import Derived.Deep.Fields
import Derived.ChangeSame
import Derived.OpenShut
import Derived.SizedLaws
set_option linter.unusedVariables false
set_option linter.unusedSimpArgs false
namespace Go.Proofs.Ytfkjjaimilkfcaa.Md
open Go.RowKit Go.Proofs.Ytfkjjaimilkfcaa.Ae Go.Proofs.Ytfkjjaimilkfcaa Go.ChangeShapes Go.WideShapes Go.Deep
theorem rep_dead {R : Ren} {w : World} (ht : GTw w) (hd : ∀ n, 1 ≤ n → R n = none) : Rep R [.dead] w := by
  refine ⟨fun x hx => ⟨ht x hx, fun n l c h => ?_⟩, fun n b l h hs => ?_, fun n hn => hd n hn, fun n l m c h => ?_, fun n n' l b l' m c c' h => ?_⟩
  · cases n with
    | zero => simp at h
    | succ n => simp at h
  · cases n with
    | zero => simp at h; subst h; cases hs
    | succ n => simp at h
  · cases n with
    | zero => simp at h
    | succ n => simp at h
  · cases n with
    | zero => simp at h
    | succ n => simp at h
theorem rep_ro {w : World} {l : List Seg} {b off c : Nat} (ht : GTw w) (h : ∀ R, Holds R w l b (off, c)) : Rep (fun n => if n = 0 then some (b, (off, c)) else none) [.ro l] w := by
  refine ⟨fun x hx => ⟨ht x hx, fun n l c h => ?_⟩, fun n b' l' h1 hs => ?_, fun n hn => ?_, fun n l m c h => ?_, fun n n' l b l' m c c' h => ?_⟩
  · cases n with
    | zero => simp at h
    | succ n => simp at h
  · cases n with
    | zero => simp at h1; subst h1; injection hs with hs; subst hs; exact ⟨b, (off, c), rfl, h _⟩
    | succ n => simp at h1
  · have : n ≠ 0 := by simp at hn; omega
    simp [this]
  · cases n with
    | zero => simp at h
    | succ n => simp at h
  · cases n with
    | zero => simp at h
    | succ n => simp at h
/-- The values of an ask's cells. -/
def av (a : Ask) : List Value := [.int .i64 a.1, .int .u32 a.2.1, .int .u32 a.2.2.1, .int .i64 a.2.2.2.1, .bool a.2.2.2.2.1, .int .u32 a.2.2.2.2.2.1, .int .u32 a.2.2.2.2.2.2.1, .int .i64 a.2.2.2.2.2.2.2]
def rv (r : R7) : List Value := [.int .u32 r.1, .int .u32 r.2.1, .int .i64 r.2.2.1, .bool r.2.2.2.1, .int .u32 r.2.2.2.2.1, .int .u32 r.2.2.2.2.2.1, .int .i64 r.2.2.2.2.2.2]
theorem rels_av (R : Ren) (a : Ask) : rels R (ac a) (av a) := .cons rfl (.cons rfl (.cons rfl (.cons rfl (.cons rfl (.cons rfl (.cons rfl (.cons rfl .nil)))))))
theorem take_rows {α : Type} (st : Nat) (F : Nat → List α) (l : List α) (off : Nat) : ∀ (N : Nat), (∀ i, i < N → (F i).length = st) → (∀ i j, i < N → j < st → l[off + (i * st + j)]? = (F i)[j]?) → (l.drop off).take (N * st) = (List.range N).flatMap F := by
  intro N
  induction N with
  | zero => intro _ _; simp
  | succ N ih =>
    intro hl h
    rw [List.range_succ, List.flatMap_append, ← ih (fun i hi => hl i (by omega)) (fun i j hi hj => h i j (by omega) hj), Nat.succ_mul, List.take_add]
    congr 1
    simp only [List.flatMap_cons, List.flatMap_nil, List.append_nil]
    apply List.ext_getElem?
    intro j
    by_cases hj : j < st
    · rw [List.getElem?_take_of_lt hj, List.getElem?_drop, List.getElem?_drop, h N j (by omega) hj]
    · rw [List.getElem?_eq_none (by simp; omega), List.getElem?_eq_none (by rw [hl N (by omega)]; omega)]
theorem rels_flatMap {R : Ren} (A : Nat → Ask) : ∀ l : List Nat, rels R (l.flatMap fun i => ac (A i)) (l.flatMap fun i => av (A i))
  | [] => .nil
  | a :: l => by
    rw [List.flatMap_cons, List.flatMap_cons]
    exact rels_append (rels_av R (A a)) (rels_flatMap A l)
theorem holds_asks {w : World} {b off N : Nat} {A : Nat → Ask} (h : ∀ i j, i < N → j < 8 → w.cell? ⟨b, off + (i * 8 + j), none⟩ = (av (A i))[j]?) (hn : 0 < N) (c : Nat) (hc : N * 8 ≤ c) (R : Ren) : Holds R w (arow N A) b (off, c) := by
  have h0 := h 0 0 hn (by decide)
  unfold World.cell? at h0
  split at h0
  case h_2 => cases h0
  rename_i cs ty fr hb
  have hcell : ∀ i j, i < N → j < 8 → cs.toList[off + (i * 8 + j)]? = (av (A i))[j]? := by
    intro i j hi hj
    have := h i j hi hj
    unfold World.cell? at this
    simp only [hb] at this
    rw [Array.getElem?_toList]
    simpa using this
  have e1 := take_rows 8 (fun i => av (A i)) cs.toList off N (fun i _ => rfl) hcell
  have hoff : off < cs.size := by
    have := hcell 0 0 hn (by decide)
    rw [Array.getElem?_toList] at this
    exact (Array.getElem?_eq_some_iff.1 (this.trans rfl)).1
  refine ⟨oks_arow N A, cs, ty, fr, cs.toList.take off, (List.range N).flatMap (fun i => av (A i)), cs.toList.drop (off + N * 8), hb, by simp; omega, ?_, ?_, ?_⟩
  · rw [← e1, ← List.drop_drop, List.take_append_drop, List.take_append_drop]
  · simpa [flat, Seg.flat] using rels_flatMap (R := R) A (List.range N)
  · have e : flat (arow N A) = (List.range N).flatMap (fun i => ac (A i)) := by simp [flat, Seg.flat]
    rw [e, rows_len (st := 8) fun i _ => rfl]
    exact hc
theorem fiveL {α : Type} {l : List α} (h : l.length = 5) : ∃ a b c d e, l = [a, b, c, d, e] := by
  match l, h with
  | [a, b, c, d, e], _ => exact ⟨a, b, c, d, e, rfl⟩
theorem sevenL {α : Type} {l : List α} (h : l.length = 7) : ∃ a b c d e f g, l = [a, b, c, d, e, f, g] := by
  match l, h with
  | [a, b, c, d, e, f, g], _ => exact ⟨a, b, c, d, e, f, g, rfl⟩
theorem eightL {α : Type} {l : List α} (h : l.length = 8) : ∃ z a b c d e f g, l = [z, a, b, c, d, e, f, g] := by
  match l, h with
  | [z, a, b, c, d, e, f, g], _ => exact ⟨z, a, b, c, d, e, f, g, rfl⟩
instance : Inhabited Ask := ⟨(0, 0, 0, 0, false, 0, 0, 0)⟩
theorem wf_u32 {x : Int} (h : (Lit.int .u32 x).wf = true) : ∃ n : Nat, x = n ∧ n < 4294967296 := by
  simp [Lit.wf, IntKind.min, IntKind.max, IntKind.bits, IntKind.signed] at h
  exact ⟨x.toNat, by omega, by omega⟩
section
variable {K : Type} {enc : TypeId × Value → K} {W : World} {base b2 : Nat} {spare : Nat → Bool} {held : Bool}
theorem cellsU : Try.prog.cellsOf 26 = 1 := by kernel_rfl
theorem cellsI : Try.prog.cellsOf 3 = 1 := by kernel_rfl
theorem cellsB : Try.prog.cellsOf 4 = 1 := by kernel_rfl
theorem cellsR : Try.prog.cellsOf 28 = 7 := by kernel_rfl
theorem cellsA : Try.prog.cellsOf 41 = 8 := by kernel_rfl
theorem bytesA : Try.prog.bytesOf 41 = 48 := by kernel_rfl
theorem trod_ret {fuel : Nat} {cs : List Value} {x : DataW K × List MemPlace} (h : DataW.trod enc Try.prog W base spare held fuel 28 cs = some x) : ∃ r : R7, cs = rv r ∧ r.2.2.2.2.2.1 < 4294967296 := by
  obtain ⟨xs, n, _, _, hl, hx, hf⟩ := DataW.trod_struct Try.underlying28 h
  rw [cellsR] at hl
  obtain ⟨a0, a1, a2, a3, a4, a5, a6, rfl⟩ := sevenL hl
  obtain ⟨y0, y1, y2, y3, y4, y5, y6, rfl⟩ := sevenL (α := DataW K × List MemPlace) (l := xs) hx
  have f0 : DataW.trod enc Try.prog W base spare held n 26 (List.take (Try.prog.cellsOf 26) (List.drop 0 [a0, a1, a2, a3, a4, a5, a6])) = some y0 := hf 0 _ rfl
  rw [cellsU] at f0
  have f1 : DataW.trod enc Try.prog W base spare held n 26 (List.take (Try.prog.cellsOf 26) (List.drop 1 [a0, a1, a2, a3, a4, a5, a6])) = some y1 := hf 1 _ rfl
  rw [cellsU] at f1
  have f2 : DataW.trod enc Try.prog W base spare held n 3 (List.take (Try.prog.cellsOf 3) (List.drop 2 [a0, a1, a2, a3, a4, a5, a6])) = some y2 := hf 2 _ rfl
  rw [cellsI] at f2
  have f3 : DataW.trod enc Try.prog W base spare held n 4 (List.take (Try.prog.cellsOf 4) (List.drop 3 [a0, a1, a2, a3, a4, a5, a6])) = some y3 := hf 3 _ rfl
  rw [cellsB] at f3
  have f4 : DataW.trod enc Try.prog W base spare held n 26 (List.take (Try.prog.cellsOf 26) (List.drop 4 [a0, a1, a2, a3, a4, a5, a6])) = some y4 := hf 4 _ rfl
  rw [cellsU] at f4
  have f5 : DataW.trod enc Try.prog W base spare held n 26 (List.take (Try.prog.cellsOf 26) (List.drop 5 [a0, a1, a2, a3, a4, a5, a6])) = some y5 := hf 5 _ rfl
  rw [cellsU] at f5
  have f6 : DataW.trod enc Try.prog W base spare held n 3 (List.take (Try.prog.cellsOf 3) (List.drop 6 [a0, a1, a2, a3, a4, a5, a6])) = some y6 := hf 6 _ rfl
  rw [cellsI] at f6
  simp only [List.drop_succ_cons, List.drop_zero, List.take_succ_cons, List.take_zero] at f0 f1 f2 f3 f4 f5 f6
  obtain ⟨n0, e0, _, w0⟩ := DataW.trod_int Try.underlying26 f0
  obtain ⟨n1, e1, _, w1⟩ := DataW.trod_int Try.underlying26 f1
  obtain ⟨n2, e2, _, w2⟩ := DataW.trod_int Try.underlying3 f2
  obtain ⟨n3, e3, _⟩ := DataW.trod_bool Try.underlying4 f3
  obtain ⟨n4, e4, _, w4⟩ := DataW.trod_int Try.underlying26 f4
  obtain ⟨n5, e5, _, w5⟩ := DataW.trod_int Try.underlying26 f5
  obtain ⟨n6, e6, _, w6⟩ := DataW.trod_int Try.underlying3 f6
  simp only [List.cons.injEq, and_true] at e0 e1 e2 e3 e4 e5 e6
  subst e0 e1 e2 e3 e4 e5 e6
  obtain ⟨m5, rfl, b5⟩ := wf_u32 w5
  exact ⟨(n0, n1, n2, n3, n4, m5, n6), rfl, b5⟩
theorem trod_ask {fuel : Nat} {cs : List Value} {x : DataW K × List MemPlace} (h : DataW.trod enc Try.prog W base spare held fuel 41 cs = some x) : ∃ a : Ask, cs = av a ∧ a.2.2.2.2.2.2.1 < 4294967296 := by
  obtain ⟨y0, y1, n, _, hl, f0, f1⟩ := trod_struct2 Try.underlying41 h
  rw [cellsA] at hl
  obtain ⟨z, a0, a1, a2, a3, a4, a5, a6, rfl⟩ := eightL hl
  have f0 : DataW.trod enc Try.prog W base spare held n 3 (List.take (Try.prog.cellsOf 3) (List.drop 0 [z, a0, a1, a2, a3, a4, a5, a6])) = some y0 := f0
  have f1 : DataW.trod enc Try.prog W base spare held n 28 (List.take (Try.prog.cellsOf 28) (List.drop 1 [z, a0, a1, a2, a3, a4, a5, a6])) = some y1 := f1
  rw [cellsI] at f0
  rw [cellsR] at f1
  simp only [List.drop_succ_cons, List.drop_zero, List.take_succ_cons, List.take_zero] at f0 f1
  obtain ⟨n0, e0, _, w0⟩ := DataW.trod_int Try.underlying3 f0
  obtain ⟨r, e1, hr⟩ := trod_ret f1
  simp only [List.cons.injEq, and_true] at e0
  subst e0
  rw [e1]
  exact ⟨(n0, r), rfl, hr⟩
/-- A row of asks that came in. -/
theorem openAsks (ht : GTw W) {a : Option Addr} {n c : Nat} {d : DataW K} {p : List MemPlace} (h : DataW.Trod enc Try.prog W base spare held 39 (.slice a n c) d p) (hv : Value.okWide Try.prog W .any b2 39 (.slice a n c)) :
    (a = none ∧ n = 0 ∧ c = 0) ∨ (∃ R, n = 0 ∧ Rep R [.dead] W ∧ (V.sl 0 0 0 0 8).rel R (.slice a n c)) ∨
      ∃ (A : Nat → Ask) (R : Ren) (es sp : List (DataW K)), 0 < n ∧ okA n A ∧ d = .slice es sp ∧ es.length = n ∧ Rep R [.ro (arow n A)] W ∧ (V.sl 0 0 0 n 8).rel R (.slice a n c) := by
  obtain ⟨fuel, hf⟩ := h
  rcases open_slice Try.underlying39 hf with ⟨hcs, _⟩ | ⟨ad, len, cap, m, n', D, Pl, hcs, hb, hl, hm, hmm, hx, hi⟩
  · simp [Value.cells] at hcs
    exact .inl hcs
  · simp [Value.cells] at hcs
    obtain ⟨rfl, rfl, rfl⟩ := hcs
    have hlm : n ≤ m := by rw [hmm]; split <;> omega
    have hs : ad.spot = none := by
      simp only [Value.okWide, Try.underlying39, Cell.okWide, Cell.ok] at hv
      exact hv.2.2.2.1
    obtain ⟨b, off, spot⟩ := ad
    simp only at hs
    subst hs
    by_cases h0 : n = 0
    · subst h0
      exact .inr (.inl ⟨fun n => if n = 0 then some (b, (off, c * 8)) else none, rfl, rep_dead ht fun n hn => by simp; omega, b, (off, c * 8), rfl, .inl ⟨c, by simp, Nat.zero_le _, by simp, hm⟩⟩)
    · have hex : ∀ i, i < n → ∃ a : Ask, (∀ j, j < 8 → W.cell? (((⟨b, off, none⟩ : Addr).add (i * 8)).add j) = (av a)[j]?) ∧ a.2.2.2.2.2.2.1 < 4294967296 := by
        intro i hin
        obtain ⟨cs', h1, h2⟩ := hi i (by omega)
        rw [cellsA] at h1
        obtain ⟨_, hlen, hat⟩ := World.cells?_some h1
        obtain ⟨r, rfl, hr⟩ := trod_ask h2
        exact ⟨r, hat, hr⟩
      obtain ⟨A, hA⟩ := choose_lt (α := Ask) hex
      have hadd : ∀ i j, ((⟨b, off, none⟩ : Addr).add (i * 8)).add j = ⟨b, off + (i * 8 + j), none⟩ := by
        intro i j
        rw [Addr.add_lit, Addr.add_lit, Nat.add_assoc]
      simp only [Prod.mk.injEq] at hx
      refine .inr (.inr ⟨A, _, _, _, by omega, fun i hi => (hA i hi).2, hx.1, by simp, rep_ro ht fun R => holds_asks (fun i j hi hj => ?_) (by omega) (c * 8) (by omega) R, b, (off, c * 8), rfl, .inl ⟨c, by simp, hl, by simp, hm⟩⟩)
      have := (hA i hi).1 j hj
      rwa [hadd] at this
end
theorem ro_asks {N : Nat} {A : Nat → Ask} : ∀ (n : Nat) (l : List Seg), ([.ro (arow N A)] : Hp)[n]? ≠ some (Blk.rw l) := by
  intro k l hk
  cases k <;> simp at hk
theorem ro_dead : ∀ (n : Nat) (l : List Seg), ([.dead] : Hp)[n]? ≠ some (Blk.rw l) := by
  intro k l hk
  cases k <;> simp at hk
theorem walkPlays {K : Type} {enc : TypeId × Value → K} {W : World} {base b2 : Nat} {spare : Nat → Bool} {held : Bool} {a : Option Addr} {n c : Nat} {d : DataW K} {p : List MemPlace} (h : DataW.Trod enc Try.prog W base spare held 39 (.slice a n c) d p) (hv : Value.okWide Try.prog W .any b2 39 (.slice a n c))
    (sz : ∀ es sp, d = .slice es sp → (es.length + sp.length) * Try.prog.bytesOf 41 ≤ reachBytes) (w : World) (e0 : w = W := by rfl) :
    Calls Try.prog 6 #[.slice a n c] w fun e w' => e = .returned (.bool true) ∧ Below w.heap.size w w' := by
  subst e0
  have gt : GTw w := fun x hx => by cases hx
  rcases openAsks gt h hv with ⟨rfl, rfl, rfl⟩ | ⟨R, rfl, hr, hx⟩ | ⟨A, R, es, sp, h0, hA, hd, hl, hr, hx⟩
  · exact AC.law plays_nil (.cons rfl .nil) (rep_dead (R := fun _ => none) gt fun _ _ => rfl) ro_dead
  · exact AC.law plays_zero (.cons hx .nil) hr ro_dead
  · have := sz es sp hd
    rw [bytesA] at this
    have := reachBytes_lt
    exact AC.law (plays_go n A hA h0 (by have : n ≤ es.length + sp.length := by omega
                                         have := Nat.mul_le_mul_right 48 this
                                         omega)) (.cons hx .nil) hr ro_asks
end Go.Proofs.Ytfkjjaimilkfcaa.Md
