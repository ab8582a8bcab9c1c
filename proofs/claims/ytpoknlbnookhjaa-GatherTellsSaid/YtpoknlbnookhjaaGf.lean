/- streams' contract, over named blocks. -/
import Derived.Test.YtpoknlbnookhjaaGe
import Derived.Test.YtpoknlbnookhjaaBh
import Derived.Test.YtpoknlbnookhjaaFq
set_option linter.unusedVariables false
set_option linter.unusedSimpArgs false
namespace Go.Proofs.Ytpoknlbnookhjaa.Md
open Go.RowKit Go.Proofs.Ytpoknlbnookhjaa.Ae Go.Proofs.Ytpoknlbnookhjaa
open Go.Proofs
open Go.Conc (G ResultsC enter_at base)
open Go.Lone
/-- A record. -/
abbrev R7 := Int × Int × Int × Bool × Int × Int × Int
def rc (r : R7) : List V := [.int .u32 r.1, .int .u32 r.2.1, .int .i64 r.2.2.1, .bool r.2.2.2.1, .int .u32 r.2.2.2.2.1, .int .u32 r.2.2.2.2.2.1, .int .i64 r.2.2.2.2.2.2]
def rv (r : R7) : List Value := [.int .u32 r.1, .int .u32 r.2.1, .int .i64 r.2.2.1, .bool r.2.2.2.1, .int .u32 r.2.2.2.2.1, .int .u32 r.2.2.2.2.2.1, .int .i64 r.2.2.2.2.2.2]
theorem rels_rc {R : Ren} (r : R7) : rels R (rc r) (rv r) := .cons rfl (.cons rfl (.cons rfl (.cons rfl (.cons rfl (.cons rfl (.cons rfl .nil))))))
theorem rels_rc_eq {R : Ren} {r : R7} {xs : List Value} (h : rels R (rc r) xs) : xs = rv r := by
  obtain ⟨x0, x1, x2, x3, x4, x5, x6, rfl, rfl, rfl, rfl, rfl, rfl, rfl, rfl⟩ := rels7 h
  rfl
theorem rv_one (r : R7) : (rv r).length = 7 ∧ ∀ v ∈ rv r, v.oneCell' = true := ⟨rfl, fun v hv => by
  simp [rv] at hv
  rcases hv with rfl | rfl | rfl | rfl | rfl | rfl | rfl <;> rfl⟩
abbrev seg (n : Nat) (A : Nat → R7) : List Seg := [.recs 7 n fun i => rc (A i)]
theorem flat_seg (n : Nat) (A : Nat → R7) : flat (seg n A) = (List.range n).flatMap fun i => rc (A i) := by simp [flat, Seg.flat]
theorem oks_seg (n : Nat) (A : Nat → R7) : oks (seg n A) := oks_cons (fun _ _ => rfl) oks_nil
theorem rels_seg {R : Ren} (n : Nat) (A : Nat → R7) : rels R (flat (seg n A)) (Gt.flatF (fun i => rv (A i)) n) := by
  rw [flat_seg]
  unfold Gt.flatF
  induction List.range n with
  | nil => exact .nil
  | cons i l ih => simp only [List.flatMap_cons]; exact rels_append (rels_rc _) ih
theorem rels_det {R : Ren} {n : Nat} {A : Nat → R7} {xs : List Value} (h : rels R (flat (seg n A)) xs) : xs = Gt.flatF (fun i => rv (A i)) n := by
  rw [flat_seg] at h
  unfold Gt.flatF
  revert xs
  induction List.range n with
  | nil => intro xs h; cases h; rfl
  | cons i l ih =>
    intro xs h
    simp only [List.flatMap_cons] at h ⊢
    obtain ⟨a, b, rfl, h1, h2⟩ := rels_split h
    rw [rels_rc_eq h1, ih h2]
theorem flatF_at {f : Nat → List Value} (hf : ∀ i, (f i).length = 7) : ∀ (n i j : Nat) (v : Value), i < n → (f i)[j]? = some v → (Gt.flatF f n)[i * 7 + j]? = some v := by
  intro n
  induction n with
  | zero => intro i j v h; omega
  | succ n ih =>
    intro i j v hi hv
    rw [Gt.flatF_succ]
    have hl : (Gt.flatF f n).length = n * 7 := by
      clear ih hi hv
      induction n with
      | zero => rfl
      | succ n ih => rw [Gt.flatF_succ, List.length_append, ih, hf]; omega
    have hj : j < 7 := by rw [← hf i]; exact (List.getElem?_eq_some_iff.1 hv).1
    rcases Nat.lt_or_ge i n with h | h
    · rw [List.getElem?_append_left (by omega)]
      exact ih i j v h hv
    · obtain rfl : i = n := by omega
      rw [List.getElem?_append_right (by omega), hl, show i * 7 + j - i * 7 = j by omega]
      exact hv
/-- A row that comes in: nil, or the head of a block of records. -/
def rowIn (H : Hp) (v : V) (n : Nat) (A : Nat → R7) : Prop :=
  (v = .nilS ∧ n = 0) ∨ (∃ p, v = .sl p 0 0 0 7 ∧ n = 0) ∨ ∃ (p N : Nat) (b : Blk) (l : List Seg), v = .sl p 0 0 n 7 ∧ H[p]? = some b ∧ b.segs? = some l ∧ flat l = flat (seg N A) ∧ n ≤ N
/-- A row that is made. -/
def rowOut (p : Nat) (v : V) (b : Blk) (n : Nat) (A : Nat → R7) : Prop :=
  (n = 0 ∧ v = .nilS ∧ b = .dead) ∨ (v = .sl p 0 0 n 7 ∧ b = .rw (seg n A))
theorem rowIn_val {R : Ren} {H : Hp} {w : World} (h4 : Rep R H w) {v : V} {n : Nat} {A : Nat → R7} (h : rowIn H v n A) {x : Value} (hx : v.rel R x) :
    ∃ s cap, x = .slice s n cap ∧ Gt.Els w s n fun i => rv (A i) := by
  rcases h with ⟨rfl, rfl⟩ | ⟨p, rfl, rfl⟩ | ⟨p, N, b, l, rfl, hp, hs, hfl, hn⟩
  · exact ⟨none, 0, hx, fun i hi => by omega⟩
  · obtain ⟨m, c, hR, hx⟩ := hx
    rcases hx with ⟨cap, rfl, h1, h2, h3⟩ | ⟨_, o, rfl⟩
    · exact ⟨_, cap, rfl, fun i hi => by omega⟩
    · exact ⟨_, 0, rfl, fun i hi => by omega⟩
  · obtain ⟨m, c, hR, hx⟩ := hx
    obtain ⟨m', c', hR', hh⟩ := h4.holds p b _ hp hs
    rw [hR] at hR'; injection hR' with hR'; injection hR' with e1 e2; subst e1 e2
    rcases hx with ⟨cap, rfl, h1, h2, h3⟩ | ⟨rfl, o, rfl⟩
    · refine ⟨_, cap, rfl, fun i hi => ⟨m, c.1, by simp, ?_⟩⟩
      obtain ⟨_, cs, ty, fr, pre, xs, rest, a1, a2, a3, a4, a5⟩ := hh
      rw [hfl] at a4
      have hxs := rels_det a4
      intro j u hu
      have := flatF_at (f := fun i => rv (A i)) (fun i => rfl) N i j u (by omega) hu
      rw [← hxs] at this
      unfold World.cell?
      simp only [a1]
      rw [← Array.getElem?_toList, a3, List.getElem?_append_right (by omega), List.getElem?_append_left (by
        have := (List.getElem?_eq_some_iff.1 this).1
        omega), show c.1 + i * 7 + j - pre.length = i * 7 + j by omega]
      simpa using this
    · exact ⟨_, 0, rfl, fun i hi => by omega⟩
/-- Block m has a name that lives. -/
def Names (R : Ren) (H : Hp) (m : Nat) : Prop := ∃ (j : Nat) (b : Blk) (l : List Seg) (c : Nat × Nat), H[j]? = some b ∧ b.segs? = some l ∧ R j = some (m, c)
/-- A block that is there gets a name. -/
theorem _root_.Go.Proofs.Ytpoknlbnookhjaa.Ae.Rep.adopt {R : Ren} {H : Hp} {w : World} (h : Rep R H w) {l : List Seg} {m : Nat} {cs : Array Value} {ty : TypeId} {xs rest : List Value} (hm0 : w.heap[m]? = some (.cells cs ty (0, 0))) (hfree : ¬ Names R H m) (htab : ∀ x ∈ GT, x.1 ≠ m)
    (hok : oks l) (hcs : cs.toList = xs ++ rest) (hr : rels R (flat l) xs) : Rep (R.add H.length (m, (0, cs.size))) (H ++ [.rw l]) w := by
  have hm : ∀ n x, R n = some x → R.add H.length (m, (0, cs.size)) n = some x := by
    intro n x hx
    unfold Ren.add
    split
    · rename_i e; subst e; rw [h.dom _ (Nat.le_refl _)] at hx; cases hx
    · exact hx
  have hold : ∀ j, j < H.length → R.add H.length (m, (0, cs.size)) j = R j := fun j hj => by unfold Ren.add; rw [if_neg (by omega)]
  have hlast : R.add H.length (m, (0, cs.size)) H.length = some (m, (0, cs.size)) := by simp [Ren.add]
  refine ⟨fun x hx => ?_, fun j b lj hj hs => ?_, fun j hj => ?_, fun j lj mj cj hj hRj => ?_, fun j j' lj b lj' mj cj cj' hj hj' hs h1 h2 => ?_⟩
  · obtain ⟨h1, h2⟩ := h.tab x hx
    refine ⟨h1, fun j lj cj hj hRj => ?_⟩
    rcases getElem?_append_len hj with ⟨hlt', hj⟩ | ⟨rfl, e⟩
    · rw [hold _ hlt'] at hRj; exact h2 j lj cj hj hRj
    · rw [hlast] at hRj; injection hRj with hRj; injection hRj with hRj _
      exact htab x hx hRj.symm
  · rcases getElem?_append_len hj with ⟨hlt, hj⟩ | ⟨rfl, rfl⟩
    · obtain ⟨m', c, h1, h2⟩ := h.holds j b lj hj hs
      exact ⟨m', c, hm _ _ h1, h2.mono hm⟩
    · injection hs with hs; subst hs
      refine ⟨m, (0, cs.size), hlast, hok, cs, ty, (0, 0), [], xs, rest, hm0, rfl, by simpa using hcs, rels_mono hm hr, ?_⟩
      have := congrArg List.length hcs
      rw [rels_len hr]
      simp at this ⊢; omega
  · unfold Ren.add
    simp at hj
    rw [if_neg (by omega)]; exact h.dom j (by omega)
  · rcases getElem?_append_len hj with ⟨hlt, hj⟩ | ⟨rfl, e⟩
    · rw [hold _ hlt] at hRj
      exact h.own j lj mj cj hj hRj
    · rw [hlast] at hRj; injection hRj with hRj; injection hRj with e1 e2; subst e1 e2
      exact ⟨cs, ty, hm0, rfl, rfl⟩
  · rcases getElem?_append_len hj with ⟨hlt, hj⟩ | ⟨rfl, e⟩
    · rcases getElem?_append_len hj' with ⟨hlt', hj'⟩ | ⟨rfl, e'⟩
      · rw [hold _ hlt] at h1
        rw [hold _ hlt'] at h2
        exact h.inj j j' lj b lj' mj cj cj' hj hj' hs h1 h2
      · rw [hold _ hlt] at h1
        rw [hlast] at h2; injection h2 with h2; injection h2 with e1 _; subst e1
        exact absurd ⟨j, _, lj, _, hj, rfl, h1⟩ hfree
    · rcases getElem?_append_len hj' with ⟨hlt', hj'⟩ | ⟨rfl, e'⟩
      · rw [hold _ hlt'] at h2
        rw [hlast] at h1; injection h1 with h1; injection h1 with e1 _; subst e1
        exact absurd ⟨j', b, lj', _, hj', hs, h2⟩ hfree
      · rfl
theorem _root_.Go.Proofs.Ytpoknlbnookhjaa.Ae.Go.adopt {R R' : Ren} {H H' : Hp} {w w' : World} (g : Go R H w R' H' w') {l : List Seg} {m : Nat} {c : Nat × Nat} (hm : w.heap.size ≤ m) : Go R H w (R'.add H'.length (m, c)) (H' ++ [.rw l]) w' := by
  have hold : ∀ j, j < H'.length → R'.add H'.length (m, c) j = R' j := fun j hj => by unfold Ren.add; rw [if_neg (by omega)]
  have hlen := g.len
  refine ⟨by simp; omega, fun j hj => by rw [hold j (by omega)]; exact g.ext j hj, g.os, g.tape, g.output, g.size, g.frame, fun j b hlt hj => ?_, fun j b mj cj hlt hj hd hRj => ?_⟩
  · rcases getElem?_append_len hj with ⟨_, hj⟩ | ⟨rfl, e⟩
    · exact g.flag j b hlt hj
    · omega
  · rcases getElem?_append_len hj with ⟨hl, hj⟩ | ⟨rfl, e⟩
    · rw [hold j hl] at hRj; exact g.own j b mj cj hlt hj hd hRj
    · simp [Ren.add] at hRj
      exact ⟨by rw [e]; rfl, .inl (by omega)⟩
theorem _root_.Go.Proofs.Ytpoknlbnookhjaa.Ae.Rep.pad {R : Ren} {H : Hp} {w : World} (h : Rep R H w) : Rep R (H ++ [.dead]) w := by
  refine ⟨fun x hx => ?_, fun j b lj hj hs => ?_, fun j hj => h.dom j (by simp at hj; omega), fun j lj mj cj hj hRj => ?_, fun j j' lj b lj' mj cj cj' hj hj' hs h1 h2 => ?_⟩
  · obtain ⟨h1, h2⟩ := h.tab x hx
    refine ⟨h1, fun j lj cj hj hRj => ?_⟩
    rcases getElem?_append_len hj with ⟨hlt', hj⟩ | ⟨rfl, e⟩
    · exact h2 j lj cj hj hRj
    · cases e
  · rcases getElem?_append_len hj with ⟨hlt, hj⟩ | ⟨rfl, rfl⟩
    · exact h.holds j b lj hj hs
    · cases hs
  · rcases getElem?_append_len hj with ⟨hlt, hj⟩ | ⟨rfl, e⟩
    · exact h.own j lj mj cj hj hRj
    · cases e
  · rcases getElem?_append_len hj with ⟨hlt, hj⟩ | ⟨rfl, e⟩
    · rcases getElem?_append_len hj' with ⟨hlt', hj'⟩ | ⟨rfl, e'⟩
      · exact h.inj j j' lj b lj' mj cj cj' hj hj' hs h1 h2
      · subst e'; cases hs
    · cases e
theorem _root_.Go.Proofs.Ytpoknlbnookhjaa.Ae.Go.pad {R R' : Ren} {H H' : Hp} {w w' : World} (g : Go R H w R' H' w') : Go R H w R' (H' ++ [.dead]) w' := by
  have hlen := g.len
  refine ⟨by simp; omega, g.ext, g.os, g.tape, g.output, g.size, g.frame, fun j b hlt hj => ?_, fun j b mj cj hlt hj hd hRj => ?_⟩
  · rcases getElem?_append_len hj with ⟨_, hj⟩ | ⟨rfl, e⟩
    · exact g.flag j b hlt hj
    · omega
  · rcases getElem?_append_len hj with ⟨hl, hj⟩ | ⟨rfl, e⟩
    · exact g.own j b mj cj hlt hj hd hRj
    · exact absurd e hd
/-- A row that was made gets a name, if it has a block. -/
theorem named {R R' : Ren} {H H' : Hp} {w w' : World} (h : Rep R' H' w') (g : Go R H w R' H' w') {v : Value} {n : Nat} {A : Nat → R7} (hv : w'.ownsRow w.heap.size 25 7 v n (Gt.flatF (fun i => rv (A i)) n)) (hfree : ∀ k, v.ownBlock = some k → ¬ Names R' H' k) :
    ∃ R2 u b, rowOut H'.length u b n A ∧ u.rel R2 v ∧ Rep R2 (H' ++ [b]) w' ∧ Go R H w R2 (H' ++ [b]) w' ∧ (∀ j x, R' j = some x → R2 j = some x) ∧ ∀ k, Names R2 (H' ++ [b]) k → Names R' H' k ∨ v.ownBlock = some k := by
  rcases hv.2 with ⟨rfl, rfl⟩ | ⟨k, cap, cur, rfl, hk, hc, h1, h2, h3, h4⟩
  · refine ⟨R', .nilS, .dead, .inl ⟨rfl, rfl, rfl⟩, rfl, h.pad, g.pad, fun _ _ h => h, fun k hn => .inl ?_⟩
    obtain ⟨j, b, l, c, hj, hs, hR⟩ := hn
    rcases getElem?_append_len hj with ⟨_, hj⟩ | ⟨rfl, e⟩
    · exact ⟨j, b, l, c, hj, hs, hR⟩
    · subst e; cases hs
  · have hx : cur.toList = Gt.flatF (fun i => rv (A i)) n ++ cur.toList.drop (n * 7) := by rw [← h4, List.take_append_drop]
    refine ⟨R'.add H'.length (k, (0, cur.size)), .sl H'.length 0 0 n 7, .rw (seg n A), .inr ⟨rfl, rfl⟩, ⟨k, (0, cur.size), by simp [Ren.add], .inl ⟨cap, by simp, h1, by simp; omega, h2⟩⟩,
      h.adopt hc (hfree k rfl) (by intro x hx; cases hx) (oks_seg n A) hx (rels_seg n A), g.adopt hk, fun j x hj => ?_, fun k' hn => ?_⟩
    · unfold Ren.add
      split
      · rename_i e; subst e; rw [h.dom _ (Nat.le_refl _)] at hj; cases hj
      · exact hj
    · obtain ⟨j, b, l, c, hj, hs, hR⟩ := hn
      rcases getElem?_append_len hj with ⟨hl, hj⟩ | ⟨rfl, e⟩
      · unfold Ren.add at hR
        rw [if_neg (by omega)] at hR
        exact .inl ⟨j, b, l, c, hj, hs, hR⟩
      · simp [Ren.add] at hR
        exact .inr (by rw [← hR.1]; rfl)
theorem body11_eq : Try.f11.body = some Gt.body11 := rfl
theorem nt11 : Try.f11.ntmps = 46 := rfl
theorem arr11 (x y : Value) : (#[x, y] : Array Value) ++ Array.replicate (46 - 2) undef = #[x, y, undef, undef, undef, undef, undef, undef, undef, undef, undef, undef, undef, undef, undef, undef, undef, undef, undef, undef, undef, undef, undef, undef, undef, undef, undef, undef, undef, undef, undef, undef, undef, undef, undef, undef, undef, undef, undef, undef, undef, undef, undef, undef, undef, undef] := by
  apply Array.toList_inj.1
  rw [Array.toList_append, Array.toList_replicate]
  rfl
theorem enter11 (sa sb : Option Addr) (la ca lb cb : Nat) (cs : List Frame) : G (Frame.enter Try.prog 11 #[.slice sa la ca, .slice sb lb cb] .normal) cs = Gt.GE sa sb la ca lb cb cs := by
  rw [enter_at _ Try.func11 body11_eq, nt11, show (#[.slice sa la ca, .slice sb lb cb] : Array Value).size = 2 from rfl, arr11]
  rfl
theorem relA2 {R : Ren} {u v : AV} {xs : List Value} (h : relA R [u, v] xs) : ∃ x y, xs = [x, y] ∧ u.rel R x ∧ v.rel R y := by
  cases h with
  | cons a h => cases h with
    | cons b h => cases h; exact ⟨_, _, rfl, a, b⟩
theorem streamsB {H : Hp} {va vb : V} {la lb : Nat} {A B : Nat → R7} (ha : rowIn H va la A) (hb : rowIn H vb lb B) (hla : la ≤ 100000) (hlb : lb ≤ 100000) :
    ACB Try.prog 11 [.v va, .v vb] H fun v H' => ∃ ux uy bx by', rowOut H.length ux bx la A ∧ rowOut (H.length + 1) uy by' lb B ∧ v = .tup [.v ux, .v uy] ∧ H' = H ++ [bx] ++ [by'] := by
  refine ⟨⟨_, Try.func11, by decide, rfl⟩, fun R w xs hr h4 cs => ?_⟩
  obtain ⟨xa, xb, rfl, hxa, hxb⟩ := relA2 hr
  obtain ⟨sa, ca, rfl, hEa⟩ := rowIn_val h4 ha hxa
  obtain ⟨sb, cb, rfl, hEb⟩ := rowIn_val h4 hb hxb
  intro gs sl T q h0 hL hP
  rw [show [Value.slice sa la ca, Value.slice sb lb cb].toArray = #[.slice sa la ca, .slice sb lb cb] from rfl, enter11] at h0
  obtain ⟨K, gs', sl', T', q', w', fr, vx, vy, hrun, h0', hfn, hlv, hL', hP', hsz, hold, ⟨d, hp, hw'⟩, hox, hoy, hap⟩ := Gt.streams_run (sl := sl) h0 hL hP hla hlb (fun k _ => rv_one (A k)) (fun k _ => rv_one (B k)) hEa hEb
  refine ⟨K, gs', sl', T', q', _, w', hrun, h0', ⟨fr, .tuple #[vx, vy], rfl, ?_, ?_⟩, hL', hP'⟩
  · obtain ⟨hm, hd, hk, fn, hf, hres⟩ := hlv
    refine ⟨hfn, hm, hd, hk, Try.f11, Try.func11, ?_⟩
    rw [hfn, Try.func11] at hf
    injection hf with hf; subst hf
    obtain ⟨y, hy⟩ := resT_sound (P := Try.prog) (fn := Try.f11) rfl fr.tmps
    have := (hy w').1
    rw [hres] at this
    injection this with e _
    rw [e]; exact hy
  · have g0 : Go R H w R H w' := Go.grown (by rw [hw']) (by rw [hw']) (by rw [hw']) hsz hold
    have r0 : Rep R H w' := h4.grown hold
    have hlow : ∀ (v : Value) (n : Nat) (xs : List Value), w'.ownsRow w.heap.size 25 7 v n xs → ∀ k, v.ownBlock = some k → w.heap.size ≤ k := by
      intro v n xs h k hk
      rcases h.2 with ⟨rfl, _⟩ | ⟨k', cap, cur, rfl, hk', _⟩
      · cases hk
      · injection hk with hk; subst hk; exact hk'
    have hR : ∀ k, Names R H k → k < w.heap.size := by
      rintro k ⟨j, b, l, c, hj, hs, hRj⟩
      obtain ⟨m, c', h1, h2⟩ := h4.holds j b l hj hs
      rw [hRj] at h1; injection h1 with h1; injection h1 with e _; subst e
      exact h2.lt
    obtain ⟨R1, ux, bx, o1, v1, r1, g1, m1, n1⟩ := named r0 g0 hox (fun k hk hn => by have := hR k hn; have := hlow _ _ _ hox k hk; omega)
    obtain ⟨R2, uy, by', o2, v2, r2, g2, m2, _⟩ := named r1 g1 hoy (fun k hk hn => by
      rcases n1 k hn with hn | hn
      · have := hR k hn; have := hlow _ _ _ hoy k hk; omega
      · exact hap k hn hk)
    exact ⟨.tup [.v ux, .v uy], _, R2, ⟨ux, uy, bx, by', o1, by simpa using o2, rfl, rfl⟩, ⟨[vx, vy], .cons (V.rel_mono m2 v1) (.cons v2 .nil), rfl⟩, r2, g2⟩
end Go.Proofs.Ytpoknlbnookhjaa.Md
