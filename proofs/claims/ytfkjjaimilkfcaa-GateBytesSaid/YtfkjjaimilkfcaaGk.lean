/- The law's 'known' and the book's Within. -/
import Derived.Test.YtfkjjaimilkfcaaGo1
set_option linter.unusedVariables false
set_option linter.unusedSimpArgs false
namespace Go.Proofs.Ytfkjjaimilkfcaa.Gt
open Go.RowKit Go.Proofs.Ytfkjjaimilkfcaa.Bv Go.Proofs.Ytfkjjaimilkfcaa.Al Go.Proofs.Ytfkjjaimilkfcaa.Ap Go.Proofs.Ytfkjjaimilkfcaa.Az
theorem Gate.kept {W W' : World} {B p : Nat} {g : Option Nat} {l : List R} (h : Gate W B p g l) (hs : W.heap.size ≤ W'.heap.size) (hp : W'.heap[p]? = W.heap[p]?) (hg : ∀ k, g = some k → W'.heap[k]? = W.heap[k]?) : Gate W' B p g l := by
  obtain ⟨v, hv, hrow, hvg⟩ := h.row
  refine ⟨Nat.lt_of_lt_of_le h.lt hs, h.le, (World.frozen?_of_block (a := ⟨p, 0, none⟩) hp).trans h.fz, ⟨v, (World.cell?_of_block (a := ⟨p, 0, none⟩) hp).trans hv, ?_, hvg⟩, h.ne⟩
  refine ⟨hrow.1, ?_⟩
  rcases hrow.2 with h2 | ⟨q, cap, cur, hv2, hb, hq, r⟩
  · exact Or.inl h2
  · exact Or.inr ⟨q, cap, cur, hv2, hb, by rw [hg q (by rw [← hvg, hv2]; rfl)]; exact hq, r⟩
theorem Gate.own_lt {W : World} {B p : Nat} {g : Option Nat} {l : List R} (h : Gate W B p g l) : ∀ k, g = some k → B ≤ k ∧ k < W.heap.size := by
  obtain ⟨v, hv, hrow, hvg⟩ := h.row
  intro k hk
  exact hrow.lt k (by rw [hvg]; exact hk)
theorem Gate.below {W W' : World} {B p : Nat} {g : Option Nat} {l : List R} (h : Gate W B p g l) (hb : Below W.heap.size W W') : Gate W' B p g l :=
  h.kept hb.size (hb.block p h.lt) (fun k hk => hb.block k (h.own_lt k hk).2)
theorem Only.belowG {W W' : World} {B p : Nat} {g : Option Nat} {l : List R} (h : Only W W' p g) (G : Gate W B p g l) : Below B W W' :=
  h.below G.le (fun k hk => (G.own_lt k hk).1) (by have := G.le; have := G.lt; omega)
theorem below_nextB {B : Nat} {w w1 w2 : World} (h : Below B w w1) (k : Below w1.heap.size w1 w2) (hB : B ≤ w1.heap.size) : Below B w w2 := h.trans (k.mono hB)
def r0 : R := ⟨4, 0, 0, true, 8, 85, 1⟩
theorem fwd_r0 : fwd 8 [r0] 4369 = 4437 := by decide
theorem fwd_nil (a x : Nat) : fwd a [] x = x := rfl
/-- A gate, and a block that is kept beside it. -/
structure Kn (w : World) (B K : Nat) (r : R) (W : World) (g : Option Nat) (l : List R) : Prop where
  G : Gate W B B g l
  X : W.heap[K]? = some (box r)
  bel : Below B w W
  hk : B < K
  gk : g ≠ some K
theorem Kn.lt {w : World} {B K : Nat} {r : R} {W : World} {g : Option Nat} {l : List R} (h : Kn w B K r W g l) : K < W.heap.size := lt_of_block h.X
theorem Kn.next {w : World} {B K : Nat} {r : R} {W W' : World} {g : Option Nat} {l : List R} (h : Kn w B K r W g l) (b : Below W.heap.size W W') : Kn w B K r W' g l :=
  ⟨h.G.below b, (b.block K h.lt).trans h.X, below_nextB h.bel b (by have := h.lt; have := h.hk; omega), h.hk, h.gk⟩
theorem Kn.only {w : World} {B K : Nat} {r : R} {W W' : World} {g g' : Option Nat} {l l' : List R} (h : Kn w B K r W g l) (G' : Gate W' B B g' l') (hg : g' = g ∨ ∃ k, g' = some k ∧ W.heap.size ≤ k) (o : Only W W' B g) : Kn w B K r W' g' l' :=
  ⟨G', (o.block K h.lt (by have := h.hk; omega) (Ne.symm h.gk)).trans h.X, h.bel.trans (o.belowG h.G), h.hk, by
    rcases hg with rfl | ⟨k, rfl, hk⟩
    · exact h.gk
    · have := h.lt; intro e; injection e; omega⟩
theorem Kn.alloc {w : World} {B K : Nat} {r : R} {W : World} {g : Option Nat} {l : List R} (h : Kn w B K r W g l) (o : Obj) : Kn w B K r (W.alloc o) g l := h.next ((Below.refl _ _).alloc (Nat.le_refl _) o)
theorem Kn.B_le {w : World} {B K : Nat} {r : R} {W : World} {g : Option Nat} {l : List R} (h : Kn w B K r W g l) : B ≤ W.heap.size := by have := h.G.lt; omega
abbrev zbox : Obj := .cells #[.int .u32 0, .int .u32 0, .int .i64 0, .bool false, .int .u32 0, .int .u32 0, .int .i64 0] 28
set_option maxHeartbeats 1000000 in
theorem cknown (w : World) : Calls Try.prog 12 #[] w fun e w' => e = .returned (.bool true) ∧ Below w.heap.size w w' := by
  have hf1 := fwd_r0
  have c2 := fun W B p g h => cSecond_empty W B p g r0 h
  have c3 := fun W B p g h hB => cFirst W B p g [] r0 h (by decide) hB
  have c4 := fun W B p g h => cForward W B p g [r0] h (by decide) (by decide) 8 4369 (by decide)
  have c5 := fun W B p g h hB => cSecond_yes W B p g r0 [] h (by decide) hB
  have c6 := fun W B p g h => cForward W B p g [] h (by decide) (by decide) 8 7 (by decide)
  rw [hf1] at c4
  rw [fwd_nil] at c6
  have C2 := Lib.hid c2
  have C3 := Lib.hid c3
  have C4 := Lib.hid c4
  have C5 := Lib.hid c5
  have C6 := Lib.hid c6
  clear c2 c3 c4 c5 c6 hf1
  go_enter Try.func12, Try.ntmps12
  go_wp2_with fail
  refine (cNew _).mono ?_
  rintro e w1 ⟨rfl, G1, b1⟩
  go_wp2_with fail
  have G2 := G1.below ((Below.refl w1.heap.size w1).alloc (Nat.le_refl _) (box r0))
  have X2 : (w1.alloc (box r0)).heap[w1.heap.size]? = some (box r0) := heap_alloc_new _ _
  have b2 : Below w.heap.size w (w1.alloc (box r0)) := b1.alloc b1.size _
  have hk : w.heap.size < w1.heap.size := G1.lt
  generalize hK : w1.heap.size = K at *
  change Calls _ _ _ (w1.alloc (box r0)) _
  generalize w1.alloc (box r0) = w2 at *
  have hs2 : K < w2.heap.size := lt_of_block X2
  have K2 : Kn w w.heap.size K r0 w2 none [] := ⟨G2, X2, b2, hk, by simp⟩
  clear b1 G1 G2 X2 b2
  refine (C2.out _ _ _ _ K2.G).mono ?_
  rintro e w3 ⟨rfl, b3⟩
  have K3 := K2.next b3
  obtain ⟨⟨y0, y1, y2, y3, y4, y5, y6⟩, _⟩ := row7 K3.X
  have hs3 := K3.lt
  clear b3 K2
  go_wp2_with fail
  have K4 := K3.alloc zbox
  clear y0 y1 y2 y3 y4 y5 y6 K3
  change Calls _ _ _ (w3.alloc zbox) _
  generalize w3.alloc zbox = w4 at *
  refine (C3.out _ _ _ _ K4.G K4.B_le).mono ?_
  rintro e w5 ⟨rfl, g5, G5, hg5, o5⟩
  have K5 := K4.only G5 hg5 o5
  clear K4 G5 hg5 o5 hs3
  go_wp2_with fail
  refine (C4.out _ _ _ _ K5.G).mono ?_
  rintro e w6 ⟨rfl, b6⟩
  have K6 := K5.next b6
  obtain ⟨⟨y0, y1, y2, y3, y4, y5, y6⟩, _⟩ := row7 K6.X
  have hs6 := K6.lt
  clear b6 K5
  go_wp2_with fail
  refine (C5.out _ _ _ _ K6.G K6.B_le).mono ?_
  rintro e w7 ⟨rfl, G7, o7⟩
  have K7 := K6.only G7 (Or.inl rfl) o7
  clear K6 G7 o7 y0 y1 y2 y3 y4 y5 y6 hs6
  obtain ⟨⟨y0, y1, y2, y3, y4, y5, y6⟩, _⟩ := row7 K7.X
  have hs7 := K7.lt
  have he := eq28 r0 r0
  rw [decide_eq_true rfl] at he
  go_wp2_with fail
  have K8 := K7.alloc (box r0)
  clear y0 y1 y2 y3 y4 y5 y6 K7 he
  change Calls _ _ _ (w7.alloc (box r0)) _
  generalize w7.alloc (box r0) = w8 at *
  refine (cWaits _ _ _ _ _ K8.G (by decide)).mono ?_
  rintro e w9 ⟨rfl, rfl⟩
  go_wp2_with fail
  refine (C6.out _ _ _ _ K8.G).mono ?_
  rintro e w9 ⟨rfl, b9⟩
  have K9 := K8.next b9
  clear b9 K8
  go_wp2_with fail
  go_ret
  exact ⟨rfl, K9.bel⟩
end Go.Proofs.Ytfkjjaimilkfcaa.Gt
