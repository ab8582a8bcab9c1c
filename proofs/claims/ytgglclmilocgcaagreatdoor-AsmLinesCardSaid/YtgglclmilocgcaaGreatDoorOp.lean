/- Arguments that came in: rows of numbers, instructions. -/
import Derived.Test.YtgglclmilocgcaaGreatDoorTq
import Derived.ChangeSlices
import Derived.ChangeArms
import Derived.ChangeShapes
import Derived.WideShapes
set_option linter.unusedVariables false
set_option linter.constructorNameAsVariable false
set_option linter.unusedSimpArgs false
namespace Go.Proofs.YtgglclmilocgcaaGreatDoor.Md
open Go.RowKit Go.Proofs.YtgglclmilocgcaaGreatDoor.Ae Go.Proofs.YtgglclmilocgcaaGreatDoor.Bv Go.Proofs.YtgglclmilocgcaaGreatDoor Go.ChangeShapes Go.WideShapes
theorem rels_ints {R : Ren} {k : IntKind} : ∀ {l : List Int}, rels R (l.map (V.int k)) (l.map (Value.int k))
  | [] => .nil
  | _ :: _ => .cons rfl rels_ints
theorem holds_ints {w : World} {b off n : Nat} {k : IntKind} {zs : List Int} (h : ∀ i, i < n → w.cell? ⟨b, off + i, none⟩ = some (.int k (zs.getD i 0))) (hn : 0 < n) (hz : n ≤ zs.length) (c : Nat) (hc : n ≤ c) (R : Ren) :
    Holds R w [.ints k n (zs.take n)] b (off, c) := by
  have h0 := h 0 hn
  unfold World.cell? at h0
  split at h0
  case h_2 => cases h0
  rename_i cs ty fr hb
  have hcell : ∀ i, i < n → cs[off + i]? = some (.int k (zs.getD i 0)) := by
    intro i hi
    have := h i hi
    unfold World.cell? at this
    simp only [hb] at this
    simpa using this
  have hoff : off < cs.size := by
    have := hcell 0 hn
    exact (Array.getElem?_eq_some_iff.1 (by simpa using this)).1
  have e1 : (cs.toList.drop off).take n = (zs.take n).map (Value.int k) := by
    apply List.ext_getElem?
    intro i
    by_cases hi : i < n
    · have hzi : i < zs.length := by omega
      rw [List.getElem?_take_of_lt hi, List.getElem?_drop, Array.getElem?_toList, hcell i hi, List.getElem?_map, List.getElem?_take_of_lt hi]
      simp [List.getD, List.getElem?_eq_getElem hzi]
    · rw [List.getElem?_eq_none (by simp; omega), List.getElem?_eq_none (by simp; omega)]
  refine ⟨fun s hs => ?_, cs, ty, fr, cs.toList.take off, (zs.take n).map (Value.int k), cs.toList.drop (off + n), hb, by simp; omega, ?_, ?_, ?_⟩
  · simp at hs; subst hs; simp [Seg.ok]; omega
  · rw [← e1, ← List.drop_drop, List.take_append_drop, List.take_append_drop]
  · simpa [flat, Seg.flat] using rels_ints (R := R) (k := k) (l := zs.take n)
  · simp [flat, Seg.flat]; omega
theorem rep_dead {R : Ren} {w : World} (ht : GTw w) (hd : ∀ n, 1 ≤ n → R n = none) : Rep R [.dead] w := by
  refine ⟨fun x hx => ⟨ht x hx, fun n l c h => ?_⟩, fun n b l h hs => ?_, fun n hn => hd n hn, fun n l m c h => ?_, fun n n' l b l' m c c' h => ?_⟩
  · cases n with
    | zero => simp at h
    | succ n => simp at h
  · cases n with
    | zero => simp at h; subst h; cases hs
    | succ n => simp at h
  · cases n with
    | zero => simp at h
    | succ n => simp at h
  · cases n with
    | zero => simp at h
    | succ n => simp at h
theorem rep_ro {w : World} {l : List Seg} {b off c : Nat} (ht : GTw w) (h : ∀ R, Holds R w l b (off, c)) : Rep (fun n => if n = 0 then some (b, (off, c)) else none) [.ro l] w := by
  refine ⟨fun x hx => ⟨ht x hx, fun n l c h => ?_⟩, fun n b' l' h1 hs => ?_, fun n hn => ?_, fun n l m c h => ?_, fun n n' l b l' m c c' h => ?_⟩
  · cases n with
    | zero => simp at h
    | succ n => simp at h
  · cases n with
    | zero => simp at h1; subst h1; injection hs with hs; subst hs; exact ⟨b, (off, c), rfl, h _⟩
    | succ n => simp at h1
  · have : n ≠ 0 := by simp at hn; omega
    simp [this]
  · cases n with
    | zero => simp at h
    | succ n => simp at h
  · cases n with
    | zero => simp at h
    | succ n => simp at h
theorem fiveL {α : Type} {l : List α} (h : l.length = 5) : ∃ a b c d e, l = [a, b, c, d, e] := by
  match l, h with
  | [a, b, c, d, e], _ => exact ⟨a, b, c, d, e, rfl⟩
section
variable {K : Type} {enc : TypeId × Value → K} {W : World} {base b2 : Nat} {spare : Nat → Bool} {held : Bool}
theorem cellsInt : Tryz.prog.cellsOf 3 = 1 := by kernel_rfl
theorem cellsI32 : Tryz.prog.cellsOf 21 = 1 := by kernel_rfl
theorem cellsInst : Tryz.prog.cellsOf 41 = 5 := by kernel_rfl
/-- A row of numbers that came in. -/
theorem openTape (ht : GTw W) {a : Option Addr} {n c : Nat} {d : DataW K} {p : List MemPlace} (h : DataW.Trod enc Tryz.prog W base spare held 22 (.slice a n c) d p) (hv : Value.okWide Tryz.prog W .any b2 22 (.slice a n c)) :
    ∃ (tv : V) (b0 : Blk) (R : Ren), tapeOk tv b0 ∧ Rep R [b0] W ∧ tv.rel R (.slice a n c) := by
  obtain ⟨fuel, hf⟩ := h
  rcases open_ints Tryz.underlying22 Tryz.underlying3 cellsInt hf with ⟨hcs, _⟩ | ⟨ad, len, cap, zs, hcs, _, hl, hm, hzl, _, hcell, _⟩
  · simp [Value.cells] at hcs
    obtain ⟨rfl, rfl, rfl⟩ := hcs
    exact ⟨.nilS, .dead, fun _ => none, .inl ⟨rfl, rfl⟩, rep_dead ht fun _ _ => rfl, rfl⟩
  · simp [Value.cells] at hcs
    obtain ⟨rfl, rfl, rfl⟩ := hcs
    have hs : ad.spot = none := by
      simp only [Value.okWide, Tryz.underlying22, Cell.okWide, Cell.ok] at hv
      exact hv.2.2.2.1
    obtain ⟨b, off, spot⟩ := ad
    simp only at hs
    subst hs
    have hzs : n ≤ zs.length := by rw [hzl]; split <;> omega
    by_cases h0 : n = 0
    · subst h0
      refine ⟨.sl 0 0 0 0 1, .dead, fun n => if n = 0 then some (b, (off, c)) else none, .inr (.inl ⟨rfl, rfl⟩), rep_dead ht fun n hn => by simp; omega, b, (off, c), rfl, .inl ⟨c, by simp, Nat.zero_le _, by simp, hm⟩⟩
    · refine ⟨.sl 0 0 0 n 1, .ro [.ints .i64 n (zs.take n)], _, .inr (.inr ⟨n, _, rfl, rfl, by unfold maxLen at hm; omega⟩), rep_ro ht fun R => holds_ints (fun i hi => ?_) (by omega) hzs c hl R, b, (off, c), rfl, .inl ⟨c, by simp, hl, by simp, hm⟩⟩
      have := hcell i (by omega)
      rwa [Addr.add_lit] at this
/-- An instruction that came in. -/
theorem openInst {v : Value} {d : DataW K} {p : List MemPlace} (h : DataW.Trod enc Tryz.prog W base spare held 41 v d p) (hv : Value.okWide Tryz.prog W .any b2 41 v) :
    ∃ op rd r1 r2 im : Int, v = .agg #[.int .i64 op, .int .i64 rd, .int .i64 r1, .int .i64 r2, .int .i32 im] := by
  obtain ⟨fuel, hf⟩ := h
  simp only [Value.okWide, Tryz.underlying41] at hv
  obtain ⟨cs, rfl, hcs, _⟩ := hv
  obtain ⟨xs, n, _, _, hl, hx, hf⟩ := DataW.trod_struct Tryz.underlying41 hf
  rw [cellsInst] at hl
  simp only [Value.cells] at hl hf
  obtain ⟨a0, a1, a2, a3, a4, ha⟩ := fiveL hl
  obtain ⟨y0, y1, y2, y3, y4, rfl⟩ := fiveL (α := DataW K × List MemPlace) (l := xs) hx
  rw [ha] at hf
  have f0 : DataW.trod enc Tryz.prog W base spare held n 3 (List.take (Tryz.prog.cellsOf 3) (List.drop 0 [a0, a1, a2, a3, a4])) = some y0 := hf 0 _ rfl
  have f1 : DataW.trod enc Tryz.prog W base spare held n 3 (List.take (Tryz.prog.cellsOf 3) (List.drop 1 [a0, a1, a2, a3, a4])) = some y1 := hf 1 _ rfl
  have f2 : DataW.trod enc Tryz.prog W base spare held n 3 (List.take (Tryz.prog.cellsOf 3) (List.drop 2 [a0, a1, a2, a3, a4])) = some y2 := hf 2 _ rfl
  have f3 : DataW.trod enc Tryz.prog W base spare held n 3 (List.take (Tryz.prog.cellsOf 3) (List.drop 3 [a0, a1, a2, a3, a4])) = some y3 := hf 3 _ rfl
  have f4 : DataW.trod enc Tryz.prog W base spare held n 21 (List.take (Tryz.prog.cellsOf 21) (List.drop 4 [a0, a1, a2, a3, a4])) = some y4 := hf 4 _ rfl
  rw [cellsInt] at f0 f1 f2 f3
  rw [cellsI32] at f4
  simp only [List.drop_succ_cons, List.drop_zero, List.take_succ_cons, List.take_zero] at f0 f1 f2 f3 f4
  obtain ⟨n0, e0, _, w0⟩ := DataW.trod_int Tryz.underlying3 f0
  obtain ⟨n1, e1, _, w1⟩ := DataW.trod_int Tryz.underlying3 f1
  obtain ⟨n2, e2, _, w2⟩ := DataW.trod_int Tryz.underlying3 f2
  obtain ⟨n3, e3, _, w3⟩ := DataW.trod_int Tryz.underlying3 f3
  obtain ⟨n4, e4, _, w4⟩ := DataW.trod_int Tryz.underlying21 f4
  simp only [List.cons.injEq, and_true] at e0 e1 e2 e3 e4
  subst e0 e1 e2 e3 e4
  refine ⟨n0, n1, n2, n3, n4, ?_⟩
  rw [← Array.toArray_toList (xs := cs), ha]
end
end Go.Proofs.YtgglclmilocgcaaGreatDoor.Md
