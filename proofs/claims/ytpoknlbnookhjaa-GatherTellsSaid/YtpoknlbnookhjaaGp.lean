/- A row cut with its capacity, and another put behind it: on values. -/
import Derived.Test.YtpoknlbnookhjaaGl
set_option linter.unusedVariables false
set_option linter.unusedSimpArgs false
namespace Go.Proofs.Ytpoknlbnookhjaa.Md
open Go.RowKit Go.Proofs.Ytpoknlbnookhjaa.Ae Go.Proofs.Ytpoknlbnookhjaa
open Go.Lone
theorem seg_split (k n : Nat) (C : Nat → R7) : flat (seg (k + n) C) = flat (seg k C) ++ flat (seg n fun j => C (k + j)) := by
  rw [flat_seg, flat_seg, flat_seg, List.range_add, List.flatMap_append, List.flatMap_map]
theorem seg_congr {n : Nat} {A B : Nat → R7} (h : ∀ j, j < n → A j = B j) : flat (seg n A) = flat (seg n B) := by
  rw [flat_seg, flat_seg]
  induction n with
  | zero => rfl
  | succ n ih => rw [List.range_succ, List.flatMap_append, List.flatMap_append, ih fun j hj => h j (by omega), List.flatMap_cons, List.flatMap_cons, h n (by omega)]; rfl
theorem seg_len (n : Nat) (A : Nat → R7) : (flat (seg n A)).length = n * 7 := by rw [flat_seg]; exact rows_len fun i _ => rfl
theorem first0 {s : Option Addr} {len cap : Nat} {w : World} : (Builtin.firstCells 7 0 (.slice s len cap)).run Try.prog w = .ok #[] w := by
  cases s <;> rfl
/-- A row's first k records, as append reads them. -/
theorem firstRow {R : Ren} {H : Hp} {w : World} {v : V} {n k : Nat} {A : Nat → R7} (h4 : Rep R H w) (h : rowIn H v n A) {x : Value} (hx : v.rel R x) (hk : k ≤ n) :
    ∃ (s : Option Addr) (cap : Nat) (xs : List Value), x = .slice s n cap ∧ n ≤ cap ∧ (∀ ad, s = some ad → ∃ m o, ad = ⟨m, o, none⟩) ∧ rels R (flat (seg k A)) xs ∧ ∀ (len' cap' : Nat) (w' : World), w'.heap = w.heap → (Builtin.firstCells 7 k (.slice s len' cap')).run Try.prog w' = .ok xs.toArray w' := by
  rcases h with ⟨rfl, rfl⟩ | ⟨p, rfl, rfl⟩ | ⟨p, N, b, l, rfl, hp, hs, hfl, hn⟩
  · obtain rfl : k = 0 := by omega
    exact ⟨none, 0, [], hx, Nat.le_refl _, fun ad h => (by cases h), .nil, fun len' cap' w' _ => first0⟩
  · obtain rfl : k = 0 := by omega
    obtain ⟨m, c, hR, hx⟩ := hx
    rcases hx with ⟨cap, rfl, h1, h2, h3⟩ | ⟨_, o, rfl⟩
    · exact ⟨_, cap, [], rfl, h1, fun ad h => ⟨_, _, (Option.some.inj h).symm⟩, .nil, fun len' cap' w' _ => first0⟩
    · exact ⟨_, 0, [], rfl, Nat.le_refl _, fun ad h => ⟨_, _, (Option.some.inj h).symm⟩, .nil, fun len' cap' w' _ => first0⟩
  · obtain ⟨m, c, hR, hx⟩ := hx
    obtain ⟨m', c', hR', hh⟩ := h4.holds p b _ hp hs
    rw [hR] at hR'; injection hR' with hR'; injection hR' with e1 e2; subst e1 e2
    rcases hx with ⟨cap, rfl, h1, h2, h3⟩ | ⟨h0, o, rfl⟩
    · have hN : flat l = flat (seg k A) ++ flat (seg (N - k) fun j => A (k + j)) := by
        rw [hfl, ← seg_split, show k + (N - k) = N by omega]
      obtain ⟨xs, hr, hrun⟩ := run_firstCells (P := Try.prog) hh (M := flat (seg k A)) (sz := 7) (n := k) (o' := 0) (len := 0) (cap := 0) ⟨seg_len _ _, [], _, by simpa using hN, rfl⟩
      refine ⟨_, cap, xs, rfl, h1, fun ad h => ⟨_, _, (Option.some.inj h).symm⟩, hr, fun len' cap' w' hw' => ?_⟩
      have := hrun w' hw'
      simpa [Builtin.firstCells] using this
    · subst h0
      obtain rfl : k = 0 := by omega
      exact ⟨_, 0, [], rfl, Nat.le_refl _, fun ad h => ⟨_, _, (Option.some.inj h).symm⟩, .nil, fun len' cap' w' _ => first0⟩
theorem run_bounds3 {k cap : Nat} (h : k ≤ cap) (n : Nat) (w : World) : (Instr.sliceBounds true n cap none (some (.int .i64 k)) (some (.int .i64 k))).run Try.prog w = .ok (0, k, k) w := by
  unfold Instr.sliceBounds Instr.sliceBound
  have h1 : (0 : Int) ≤ k ∧ (k : Int) ≤ cap := ⟨by omega, by omega⟩
  have h2 : (0 : Int) ≤ k ∧ (k : Int) ≤ k := ⟨by omega, by omega⟩
  simp only [Sem.run_bind, run_asIntOf, Result.andThen_ok, if_pos h1, Sem.run_pure, Int.toNat_natCast, if_pos h2]
theorem run_slice3 {o : Oper} {x h h' : Operand} (ho : o.op = .slice 22 x none (some h) (some h')) {a : Act} {s : Option Addr} {n cap k : Nat} (hx : a.eval x = .slice s n cap) (hh : a.eval h = .int .i64 k) (hh' : a.eval h' = .int .i64 k) (hk : k ≤ cap) (hs : ∀ ad, s = some ad → ∃ m o, ad = ⟨m, o, none⟩) (w : World) :
    (execOp a.eval o).run Try.prog w = .ok (.value (.slice s k k)) w := by
  have hD : Tb.d25.is Try.prog 25 := Tb.is25
  have hsa : (if k = 0 then s else s.map (·.add (0 * 7))) = s := by
    split
    · rfl
    · cases s with
      | none => rfl
      | some ad => obtain ⟨m, o, rfl⟩ := hs ad rfl; rfl
  simp only [execOp, ho, Instr.sliceAt, Sem.run_bind, run_underlying Try.underlying22, Result.andThen_ok, hx, Instr.slice, Option.map_none, Option.map_some, hh, hh']
  rw [run_bounds3 hk]
  simp only [Result.andThen_ok, Sem.run_bind, Go.Proofs.Ytpoknlbnookhjaa.Ae.run_sizeOf hD, Sem.run_pure]
  have : Tb.d25.size = 7 := rfl
  rw [this]
  simp only [hsa, Nat.sub_zero]
/-- THE FIRST k OF ONE, CUT WITH ITS CAPACITY, AND ALL OF ANOTHER BEHIND IT. -/
theorem tellsApp {R : Ren} {H : Hp} {w : World} {va vb : V} {la lb k : Nat} {A B : Nat → R7} (h4 : Rep R H w) (ha : rowIn H va la A) (hb : rowIn H vb lb B) {s : Option Addr} {cap : Nat} {y : Value} (hx : va.rel R (.slice s la cap)) (hy : vb.rel R y) (hk : k ≤ la) (hla : la ≤ 400) (hlb : lb ≤ 400) {ty : TypeId} :
    ∃ (z : Value) (w' : World), (Builtin.append_ #[22, 22] ty #[.slice s k k, y]).run Try.prog w = .ok z w' ∧
      ∃ (u : V) (b : Blk) (n : Nat) (C : Nat → R7) (R' : Ren), u.rel R' z ∧ Rep R' (H ++ [b]) w' ∧ Go R H w R' (H ++ [b]) w' ∧ rowIn (H ++ [b]) u n C ∧ n ≤ 800 := by
  have hD : Tb.d25.is Try.prog 25 := Tb.is25
  obtain ⟨s0, cap0, xs, e, hcap, hsp, hxr, hxrun⟩ := firstRow h4 ha hx hk
  injection e with e1 e2 e3; subst e1 e3
  obtain ⟨s', cap', ys, rfl, hcap', hsp', hyr, hyrun⟩ := firstRow h4 hb hy (Nat.le_refl _)
  have hxl : xs.length = k * 7 := by rw [← rels_len hxr, seg_len]
  have hyl : ys.length = lb * 7 := by rw [← rels_len hyr, seg_len]
  by_cases h0 : lb = 0
  · subst h0
    obtain rfl : ys = [] := List.length_eq_zero_iff.1 (by omega)
    refine ⟨.slice s (k + 0) k, w, append_old (P := Try.prog) (de := Tb.d25) (sz := 6) Try.underlying22 Try.underlying22 hD rfl rfl rfl (Nat.le_refl _) (hyrun _ _ w rfl) (by cases s <;> rfl), ?_⟩
    rcases ha with ⟨rfl, rfl⟩ | ⟨p, rfl, rfl⟩ | ⟨p, N, b, l, rfl, hp, hs, hfl, hn⟩
    · have hx : Value.slice s 0 cap = .slice none 0 0 := hx
      injection hx with e1 _ _; subst e1
      obtain rfl : k = 0 := by omega
      exact ⟨.nilS, .dead, 0, A, R, rfl, h4.pad, (Ae.Go.refl _ _ _).pad, .inl ⟨rfl, rfl⟩, by omega⟩
    · obtain ⟨m, c, hR, hx⟩ := hx
      obtain rfl : k = 0 := by omega
      obtain ⟨o, rfl⟩ : ∃ o, s = some ⟨m, o, none⟩ := by
        rcases hx with ⟨cap, hx, _⟩ | ⟨_, o, hx⟩
        · injection hx with e _ _; exact ⟨_, e⟩
        · injection hx with e _ _; exact ⟨_, e⟩
      exact ⟨.sl p 0 0 0 7, .dead, 0, A, R, ⟨m, c, hR, .inr ⟨rfl, o, rfl⟩⟩, h4.pad, (Ae.Go.refl _ _ _).pad, .inr (.inl ⟨p, rfl, rfl⟩), by omega⟩
    · obtain ⟨m, c, hR, hx⟩ := hx
      refine ⟨.sl p 0 0 k 7, .dead, k, A, R, ⟨m, c, hR, ?_⟩, h4.pad, (Ae.Go.refl _ _ _).pad, rowIn.app (.inr (.inr ⟨p, N, b, l, rfl, hp, hs, hfl, by omega⟩)), by omega⟩
      rcases hx with ⟨cap, hx, h1, h2, h3⟩ | ⟨h0, o, hx⟩
      · injection hx with e1 e2 e3; subst e1 e3
        exact .inl ⟨k, rfl, Nat.le_refl _, by omega, by unfold maxLen at *; omega⟩
      · injection hx with e1 e2 e3; subst e1
        obtain rfl : k = 0 := by omega
        exact .inr ⟨rfl, o, rfl⟩
  · obtain ⟨c, rest, g1, g2, g3, g4⟩ := append_new (P := Try.prog) (w := w) (ty := ty) (a := ⟨#[], []⟩) (de := Tb.d25) (sz := 6) (x := .slice s k k) (y := .slice s' lb cap') (xs := xs) (ys := ys) Try.underlying22 Try.underlying22 hD rfl (room_small (by omega) (by decide)) rfl rfl (by omega) (fun d => hxrun _ _ _ rfl) (fun d => hyrun _ _ _ rfl) hxl hyl
    let C : Nat → R7 := fun i => if i < k then A i else B (i - k)
    have hC : flat (seg (k + lb) C) = flat (seg k A) ++ flat (seg lb B) := by
      rw [seg_split]
      congr 1
      · exact seg_congr fun j hj => by simp [C, hj]
      · exact seg_congr fun j hj => by show (if k + j < k then _ else B (k + j - k)) = B j; rw [if_neg (by omega), Nat.add_sub_cancel_left]
    have h4' : Rep R H { w with drawn := w.drawn + 1 } := h4.drew
    obtain ⟨r1, r2⟩ := h4'.newP (l := seg (k + lb) C) (ty := 25) (cs := (xs ++ ys ++ rest).toArray) (xs := xs ++ ys) (rest := rest) (oks_seg _ _) (by simp) (by rw [hC]; exact rels_append hxr hyr)
    refine ⟨_, _, g1, .sl H.length 0 0 (k + lb) 7, _, k + lb, C, _, ⟨w.heap.size, _, by simp [Ren.add]; rfl, .inl ⟨c, by simp, by omega, ?_, g3⟩⟩, r1, Go.drew.trans r2, .inr (.inr ⟨H.length, k + lb, .rw (seg (k + lb) C), seg (k + lb) C, rfl, by simp, rfl, rfl, Nat.le_refl _⟩), by omega⟩
    simp only [List.length_append, List.append_assoc] at g4 ⊢; simp; omega
end Go.Proofs.Ytpoknlbnookhjaa.Md
