/- Slices of what is retired, that came in: opened to their cells. -/
import Derived.Test.YtfkjjaimilkfcaaGo2
import Derived.ProofKit
import Derived.Deep.Slices
import Derived.Deep.Fields
import Derived.ChangeSame
set_option linter.unusedVariables false
set_option linter.unusedSimpArgs false
namespace Go.Proofs.Ytfkjjaimilkfcaa.Gt
open Go.RowKit Go.Proofs.Ytfkjjaimilkfcaa.Bv Go.ChangeShapes Go.WideShapes Go.Deep
section
variable {H : Type} {enc : TypeId × Value → H} {w : World} {base : Nat} {spare : Nat → Bool} {held : Bool}
theorem cells26 : Try.prog.cellsOf 26 = 1 := by kernel_rfl
theorem cells3 : Try.prog.cellsOf 3 = 1 := by kernel_rfl
theorem cells4 : Try.prog.cellsOf 4 = 1 := by kernel_rfl
theorem cells28 : Try.prog.cellsOf 28 = 7 := by kernel_rfl
/-- What is retired, with its numbers in their kinds. -/
structure R.wf (r : R) : Prop where
  pc : r.pc < 4294967296
  value : r.value < 4294967296
  addr : r.addr < 4294967296
  data : r.data < 4294967296
  rd : -9223372036854775808 ≤ r.rd ∧ r.rd ≤ 9223372036854775807
  mask : -9223372036854775808 ≤ r.mask ∧ r.mask ≤ 9223372036854775807
theorem seven {l : List Value} (h : l.length = 7) : ∃ a b c d e f g, l = [a, b, c, d, e, f, g] := by
  match l, h with
  | [a, b, c, d, e, f, g], _ => exact ⟨a, b, c, d, e, f, g, rfl⟩
theorem sevenT {α : Type} {l : List α} (h : l.length = 7) : ∃ a b c d e f g, l = [a, b, c, d, e, f, g] := by
  match l, h with
  | [a, b, c, d, e, f, g], _ => exact ⟨a, b, c, d, e, f, g, rfl⟩
theorem trod_ret {fuel : Nat} {cs : List Value} {x : DataW H × List MemPlace} (h : DataW.trod enc Try.prog w base spare held fuel 28 cs = some x) : ∃ r : R, cs = r.cells ∧ r.wf := by
  obtain ⟨xs, n, _, _, hl, hx, hf⟩ := DataW.trod_struct Try.underlying28 h
  rw [cells28] at hl
  obtain ⟨a0, a1, a2, a3, a4, a5, a6, rfl⟩ := sevenT hl
  obtain ⟨y0, y1, y2, y3, y4, y5, y6, rfl⟩ := sevenT (α := DataW H × List MemPlace) (l := xs) hx
  have f0 : DataW.trod enc Try.prog w base spare held n 26 (List.take (Try.prog.cellsOf 26) (List.drop 0 [a0, a1, a2, a3, a4, a5, a6])) = some y0 := hf 0 _ rfl
  rw [cells26] at f0
  have f1 : DataW.trod enc Try.prog w base spare held n 26 (List.take (Try.prog.cellsOf 26) (List.drop 1 [a0, a1, a2, a3, a4, a5, a6])) = some y1 := hf 1 _ rfl
  rw [cells26] at f1
  have f2 : DataW.trod enc Try.prog w base spare held n 3 (List.take (Try.prog.cellsOf 3) (List.drop 2 [a0, a1, a2, a3, a4, a5, a6])) = some y2 := hf 2 _ rfl
  rw [cells3] at f2
  have f3 : DataW.trod enc Try.prog w base spare held n 4 (List.take (Try.prog.cellsOf 4) (List.drop 3 [a0, a1, a2, a3, a4, a5, a6])) = some y3 := hf 3 _ rfl
  rw [cells4] at f3
  have f4 : DataW.trod enc Try.prog w base spare held n 26 (List.take (Try.prog.cellsOf 26) (List.drop 4 [a0, a1, a2, a3, a4, a5, a6])) = some y4 := hf 4 _ rfl
  rw [cells26] at f4
  have f5 : DataW.trod enc Try.prog w base spare held n 26 (List.take (Try.prog.cellsOf 26) (List.drop 5 [a0, a1, a2, a3, a4, a5, a6])) = some y5 := hf 5 _ rfl
  rw [cells26] at f5
  have f6 : DataW.trod enc Try.prog w base spare held n 3 (List.take (Try.prog.cellsOf 3) (List.drop 6 [a0, a1, a2, a3, a4, a5, a6])) = some y6 := hf 6 _ rfl
  rw [cells3] at f6
  simp only [List.drop_succ_cons, List.drop_zero, List.take_succ_cons, List.take_zero] at f0 f1 f2 f3 f4 f5 f6
  obtain ⟨n0, e0, _, w0⟩ := DataW.trod_int Try.underlying26 f0
  obtain ⟨n1, e1, _, w1⟩ := DataW.trod_int Try.underlying26 f1
  obtain ⟨n2, e2, _, w2⟩ := DataW.trod_int Try.underlying3 f2
  obtain ⟨n3, e3, _⟩ := DataW.trod_bool Try.underlying4 f3
  obtain ⟨n4, e4, _, w4⟩ := DataW.trod_int Try.underlying26 f4
  obtain ⟨n5, e5, _, w5⟩ := DataW.trod_int Try.underlying26 f5
  obtain ⟨n6, e6, _, w6⟩ := DataW.trod_int Try.underlying3 f6
  simp only [List.cons.injEq, and_true] at e0 e1 e2 e3 e4 e5 e6
  subst e0 e1 e2 e3 e4 e5 e6
  obtain ⟨m0, rfl, b0⟩ := wf_u32 w0
  obtain ⟨m1, rfl, b1⟩ := wf_u32 w1
  obtain ⟨m4, rfl, b4⟩ := wf_u32 w4
  obtain ⟨m5, rfl, b5⟩ := wf_u32 w5
  exact ⟨⟨m0, m1, n2, n3, m4, m5, n6⟩, rfl, ⟨b0, b1, b4, b5, wf_i64 w2, wf_i64 w6⟩⟩
def len0 (n : Nat) : Nat := n
instance : Inhabited R := ⟨⟨0, 0, 0, false, 0, 0, 0⟩⟩
theorem open_rets {fuel : Nat} {v : Value} {x : DataW H × List MemPlace} (h : DataW.trod enc Try.prog w base spare held fuel 22 v.cells.toList = some x) (hv : ∃ a n c, v = .slice a n c) :
    ∃ (ad : Option Addr) (c : Nat) (L : List R), v = .slice ad L.length c ∧ L.length ≤ c ∧ c ≤ maxLen ∧ Args w ad L ∧ ∀ r ∈ L, r.wf := by
  obtain ⟨a0, n0, c0, rfl⟩ := hv
  rcases open_slice Try.underlying22 h with ⟨hcs, hx⟩ | ⟨a, len, cap, m, n, D, Pl, hcs, hb, hl, hm, hmm, hx, hi⟩
  · simp [Value.cells] at hcs
    obtain ⟨rfl, rfl, rfl⟩ := hcs
    exact ⟨none, 0, [], rfl, Nat.le_refl _, Nat.zero_le _, fun k hk => absurd hk (Nat.not_lt_zero k), fun r hr => by simp at hr⟩
  · simp [Value.cells] at hcs
    obtain ⟨rfl, rfl, rfl⟩ := hcs
    have hlm : len0 n0 ≤ m := by unfold len0; rw [hmm]; split <;> omega
    unfold len0 at hlm
    have hex : ∀ i, i < n0 → ∃ r : R, (∀ j, j < 7 → w.cell? ((a.add (i * 7)).add j) = r.cells[j]?) ∧ r.wf := by
      intro i hin
      obtain ⟨cs', h1, h2⟩ := hi i (by omega)
      rw [cells28] at h1
      obtain ⟨_, hlen, hat⟩ := World.cells?_some h1
      obtain ⟨r, rfl, hr⟩ := trod_ret h2
      exact ⟨r, hat, hr⟩
    obtain ⟨F, hF⟩ := choose_lt (α := R) hex
    have hlen : ((List.range n0).map F).length = n0 := by simp
    refine ⟨some a, c0, (List.range n0).map F, by rw [hlen], by rw [hlen]; exact hl, hm, ?_, ?_⟩
    · intro k hk
      rw [hlen] at hk
      obtain ⟨hc, _⟩ := hF k hk
      obtain ⟨b, off, spot⟩ := a
      have g0 := (hF 0 (by omega)).1 0 (by decide)
      have hspot : spot = none := by simpa [Addr.add] using World.cell?_spot (v := .int .u32 (F 0).pc) (g0.trans rfl)
      subst hspot
      have hbl : b < w.heap.size := World.block_lt_of_cell? w ⟨b, off, none⟩ (u := .int .u32 (F 0).pc) (by simpa [Addr.add, R.cells] using g0)
      refine ⟨b, off, rfl, hbl, ?_⟩
      have e : ((List.range n0).map F)[k]'(by simpa using hk) = F k := by simp
      rw [e]
      have hadd : ∀ j, ((⟨b, off, none⟩ : Addr).add (k * 7)).add j = ⟨b, off + k * 7 + j, none⟩ := by
        intro j
        rw [Addr.add_lit, Addr.add_lit]
      have q := fun j hj => (hadd j) ▸ hc j hj
      exact ⟨q 0 (by decide), q 1 (by decide), q 2 (by decide), q 3 (by decide), q 4 (by decide), q 5 (by decide), q 6 (by decide)⟩
    · intro r hr
      rw [List.mem_map] at hr
      obtain ⟨i, hi2, rfl⟩ := hr
      exact (hF i (by simpa using hi2)).2
end
end Go.Proofs.Ytfkjjaimilkfcaa.Gt
