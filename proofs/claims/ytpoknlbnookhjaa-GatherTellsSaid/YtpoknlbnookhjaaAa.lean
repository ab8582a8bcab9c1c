/- An abstract machine over named blocks: values, blocks, and what it is that a world holds them. -/
import Derived.Room.Entries
import Derived.Below
import Derived.Orders
import Derived.OrdersHeld
import Derived.Deep.LoopGhost
import Derived.LoopN
import Derived.ProofKit
import Derived.Laws.Entries
import Derived.IntWalk
set_option linter.unusedVariables false
set_option linter.unusedSimpArgs false
namespace Go.Proofs.Ytpoknlbnookhjaa.Ae
open Go.RowKit
/-- A value of one cell; pointers name a block: at 'base + i * st'. -/
inductive V where
  | bool (b : Bool)
  | int (k : IntKind) (n : Int)
  | str (s : ByteArray)
  | nilP
  | ptr (n base i st : Nat)
  | nilS
  | sl (n base i len es : Nat)
  | nilI
  | nilF
  | if1 (t : TypeId) (x : V)
  | if2 (t : TypeId) (x y : V)
  | fn0 (f : Fn)
  | fn1 (f : Fn) (x : V)
  | bad
  deriving Inhabited
/-- A part of a block, or of a struct: one cell, a row of numbers, a row of records. -/
inductive Seg where
  | one (v : V)
  | ints (k : IntKind) (n : Nat) (l : List Int)
  | recs (st n : Nat) (f : Nat → List V)
inductive AV where
  | v (x : V)
  | agg (l : List Seg)
  | tup (l : List AV)
  | any
inductive Blk where
  | dead
  | rw (l : List Seg)
  | ro (l : List Seg)
/-- Which block a name is, and how many cells that has. -/
abbrev Ren := Nat → Option (Nat × (Nat × Nat))
abbrev Hp := List Blk
def V.rel (R : Ren) : V → Value → Prop
  | .bool b, x => x = .bool b
  | .int k n, x => x = .int k n
  | .str s, x => x = .string s
  | .nilP, x => x = .pointer none
  | .ptr n b i st, x => ∃ m c, R n = some (m, c) ∧ x = .pointer (some ⟨m, c.1 + (b + i * st), none⟩)
  | .nilS, x => x = .slice none 0 0
  | .sl n b i len es, x => ∃ m c, R n = some (m, c) ∧ ((∃ cap, x = .slice (some ⟨m, c.1 + (b + i * es), none⟩) len cap ∧ len ≤ cap ∧ b + i * es + cap * es ≤ c.2 ∧ cap ≤ maxLen) ∨ (len = 0 ∧ ∃ o, x = .slice (some ⟨m, o, none⟩) 0 0))
  | .nilI, x => x = .nilIface
  | .nilF, x => x = .nilFunc
  | .if1 t y, x => ∃ y', y.rel R y' ∧ x = .iface t y'
  | .if2 t y z, x => ∃ y' z', y.rel R y' ∧ z.rel R z' ∧ x = .iface t (.agg #[y', z'])
  | .fn0 f, x => x = .func f #[] #[]
  | .fn1 f y, x => ∃ y', y.rel R y' ∧ x = .func f #[] #[y']
  | .bad, _ => False
/-- The cells, one by one. -/
def Seg.flat : Seg → List V
  | .one v => [v]
  | .ints k _ l => l.map (.int k)
  | .recs _ n f => (List.range n).flatMap f
def Seg.ok : Seg → Prop
  | .one _ => True
  | .ints _ n l => l.length = n
  | .recs st n f => ∀ i, i < n → (f i).length = st
def flat (l : List Seg) : List V := l.flatMap Seg.flat
def oks (l : List Seg) : Prop := ∀ s ∈ l, s.ok
inductive rels (R : Ren) : List V → List Value → Prop
  | nil : rels R [] []
  | cons {x y xs ys} : x.rel R y → rels R xs ys → rels R (x :: xs) (y :: ys)
def rel1 (R : Ren) : AV → Value → Prop
  | .v x, y => x.rel R y
  | .agg l, y => oks l ∧ ∃ cs, rels R (flat l) cs ∧ y = .agg cs.toArray
  | .tup _, _ => False
  | .any, y => y = undef
inductive relL (R : Ren) : List AV → List Value → Prop
  | nil : relL R [] []
  | cons {x y xs ys} : rel1 R x y → relL R xs ys → relL R (x :: xs) (y :: ys)
def AV.rel (R : Ren) : AV → Value → Prop
  | .tup l, y => ∃ ys, relL R l ys ∧ y = .tuple ys.toArray
  | x, y => rel1 R x y
def Blk.segs? : Blk → Option (List Seg)
  | .dead => none
  | .rw l => some l
  | .ro l => some l
def Blk.isRw : Blk → Bool
  | .rw _ => true
  | _ => false
/-- Block m holds these cells, and maybe more behind them. -/
def HoldsF (R : Ren) (w : World) (l : List V) (m : Nat) (c : Nat × Nat) : Prop :=
  ∃ (cs : Array Value) (ty : TypeId) (fr : Nat × Nat) (pre xs rest : List Value), w.heap[m]? = some (.cells cs ty fr) ∧ pre.length = c.1 ∧ cs.toList = pre ++ (xs ++ rest) ∧ rels R l xs ∧ l.length ≤ c.2
def Holds (R : Ren) (w : World) (l : List Seg) (m : Nat) (c : Nat × Nat) : Prop := oks l ∧ HoldsF R w (flat l) m c
/-- A block that is wholly one's own. -/
def Own (w : World) (m : Nat) (c : Nat × Nat) : Prop := ∃ (cs : Array Value) (ty : TypeId), w.heap[m]? = some (.cells cs ty (0, 0)) ∧ cs.size = c.2 ∧ c.1 = 0
/-- Package variables that are never written: block, what holds of their cells. -/
def GT : List (Nat × (Array Value → Prop)) := []
def GTok (R : Ren) (H : Hp) (w : World) : Prop := ∀ x ∈ GT, (∃ cs ty fr, w.heap[x.1]? = some (.cells cs ty fr) ∧ x.2 cs) ∧ ∀ (n : Nat) (l : List Seg) (c : Nat × Nat), H[n]? = some (.rw l) → R n ≠ some (x.1, c)
structure Rep (R : Ren) (H : Hp) (w : World) : Prop where
  tab : GTok R H w
  holds : ∀ (n : Nat) (b : Blk) (l : List Seg), H[n]? = some b → b.segs? = some l → ∃ m c, R n = some (m, c) ∧ Holds R w l m c
  dom : ∀ n, H.length ≤ n → R n = none
  own : ∀ (n : Nat) (l : List Seg) (m : Nat) (c : Nat × Nat), H[n]? = some (.rw l) → R n = some (m, c) → Own w m c
  inj : ∀ (n n' : Nat) (l : List Seg) (b : Blk) (l' : List Seg) (m : Nat) (c c' : Nat × Nat), H[n]? = some (.rw l) → H[n']? = some b → b.segs? = some l' → R n = some (m, c) → R n' = some (m, c') → n = n'
/-- From one state to another: names stay, what is not named stays, what may be written is of old, or new. -/
structure Go (R : Ren) (H : Hp) (w : World) (R' : Ren) (H' : Hp) (w' : World) : Prop where
  len : H.length ≤ H'.length
  ext : ∀ n, n < H.length → R' n = R n
  os : w'.os = w.os
  tape : w'.tape = w.tape
  output : w'.output = w.output
  size : w.heap.size ≤ w'.heap.size
  frame : ∀ k, k < w.heap.size → (∀ n l c, H[n]? = some (.rw l) → R n ≠ some (k, c)) → w'.heap[k]? = w.heap[k]?
  flag : ∀ (n : Nat) (b : Blk), n < H.length → H'[n]? = some b → b = .dead ∨ ∃ b0, H[n]? = some b0 ∧ b.isRw = b0.isRw ∧ b0 ≠ .dead
  own : ∀ (n : Nat) (b : Blk) (m : Nat) (c : Nat × Nat), H.length ≤ n → H'[n]? = some b → b ≠ .dead → R' n = some (m, c) → b.isRw = true ∧ (w.heap.size ≤ m ∨ ∃ n0 l0 c0, H[n0]? = some (.rw l0) ∧ R n0 = some (m, c0))
theorem Blk.rw_of {b : Blk} (h : b.isRw = true) : ∃ l, b = .rw l := by cases b <;> first | exact ⟨_, rfl⟩ | cases h
theorem Go.refl (R : Ren) (H : Hp) (w : World) : Go R H w R H w :=
  ⟨Nat.le_refl _, fun _ _ => rfl, rfl, rfl, rfl, Nat.le_refl _, fun _ _ _ => rfl, fun n b hn h => by
    by_cases e : b = .dead
    · exact .inl e
    · exact .inr ⟨b, h, rfl, e⟩, fun n b m c hn h _ _ => by have := (List.getElem?_eq_some_iff.1 h).1; omega⟩
theorem Go.own_rw {R R' : Ren} {H H' : Hp} {w w' : World} (g : Go R H w R' H' w') {n m : Nat} {c : Nat × Nat} {l : List Seg} (h : H'[n]? = some (.rw l)) (hR : R' n = some (m, c)) : w.heap.size ≤ m ∨ ∃ n0 l0 c0, H[n0]? = some (.rw l0) ∧ R n0 = some (m, c0) := by
  rcases Nat.lt_or_ge n H.length with hn | hn
  · rcases g.flag n _ hn h with e | ⟨b0, h0, e, _⟩
    · cases e
    · obtain ⟨l0, rfl⟩ := Blk.rw_of (b := b0) (by rw [← e]; rfl)
      exact .inr ⟨n, l0, c, h0, by rw [← g.ext n hn]; exact hR⟩
  · exact (g.own n _ m c hn h (by simp) hR).2
theorem Go.trans {R R1 R2 : Ren} {H H1 H2 : Hp} {w w1 w2 : World} (a : Go R H w R1 H1 w1) (b : Go R1 H1 w1 R2 H2 w2) : Go R H w R2 H2 w2 where
  len := Nat.le_trans a.len b.len
  ext n hn := (b.ext n (Nat.lt_of_lt_of_le hn a.len)).trans (a.ext n hn)
  os := b.os.trans a.os
  tape := b.tape.trans a.tape
  output := b.output.trans a.output
  size := Nat.le_trans a.size b.size
  frame k hk h := by
    rw [b.frame k (Nat.lt_of_lt_of_le hk a.size) ?_, a.frame k hk h]
    intro n l c hn hr
    rcases a.own_rw hn hr with h1 | ⟨n0, l0, c0, h1, h2⟩
    · omega
    · exact h n0 l0 c0 h1 h2
  flag n x hn h := by
    rcases b.flag n x (Nat.lt_of_lt_of_le hn a.len) h with h1 | ⟨b0, h0, e, hd⟩
    · exact .inl h1
    · rcases a.flag n b0 hn h0 with h1 | ⟨b1, h2, e1, hd1⟩
      · exact absurd h1 hd
      · exact .inr ⟨b1, h2, e.trans e1, hd1⟩
  own n x m c hn h hd hr := by
    have key : ∀ {n0 l0 c0}, H1[n0]? = some (.rw l0) → R1 n0 = some (m, c0) → w.heap.size ≤ m ∨ ∃ n0 l0 c0, H[n0]? = some (.rw l0) ∧ R n0 = some (m, c0) := fun h1 h2 => a.own_rw h1 h2
    rcases Nat.lt_or_ge n H1.length with hn1 | hn1
    · rcases b.flag n x hn1 h with h1 | ⟨b0, h0, e0, hd0⟩
      · exact absurd h1 hd
      · obtain ⟨q1, q2⟩ := a.own n b0 m c hn h0 hd0 (by rw [← b.ext n hn1]; exact hr)
        exact ⟨by rw [e0]; exact q1, q2⟩
    · obtain ⟨q1, q2⟩ := b.own n x m c hn1 h hd hr
      refine ⟨q1, ?_⟩
      rcases q2 with h1 | ⟨n0, l0, c0, h1, h2⟩
      · exact .inl (Nat.le_trans a.size h1)
      · exact key h1 h2
theorem V.rel_mono {R R' : Ren} (h : ∀ n x, R n = some x → R' n = some x) : ∀ {v : V} {x : Value}, v.rel R x → v.rel R' x
  | .bool _, _, e | .int _ _, _, e | .str _, _, e | .nilP, _, e | .nilS, _, e | .nilI, _, e | .nilF, _, e | .fn0 _, _, e => e
  | .ptr _ _ _ _, _, ⟨m, c, h1, h2⟩ => ⟨m, c, h _ _ h1, h2⟩
  | .sl _ _ _ _ _, _, ⟨m, c, h1, h2⟩ => ⟨m, c, h _ _ h1, h2⟩
  | .if1 _ _, _, ⟨y, h1, h2⟩ => ⟨y, V.rel_mono h h1, h2⟩
  | .if2 _ _ _, _, ⟨y, z, h1, h2, h3⟩ => ⟨y, z, V.rel_mono h h1, V.rel_mono h h2, h3⟩
  | .fn1 _ _, _, ⟨y, h1, h2⟩ => ⟨y, V.rel_mono h h1, h2⟩
theorem rels_mono {R R' : Ren} (h : ∀ n x, R n = some x → R' n = some x) {l : List V} {xs : List Value} (k : rels R l xs) : rels R' l xs := by
  induction k with
  | nil => exact .nil
  | cons a _ ih => exact .cons (V.rel_mono h a) ih
theorem rel1_mono {R R' : Ren} (h : ∀ n x, R n = some x → R' n = some x) : ∀ {v : AV} {x : Value}, rel1 R v x → rel1 R' v x
  | .any, _, e => e
  | .v _, _, e => V.rel_mono h e
  | .agg _, _, ⟨o, cs, k, e⟩ => ⟨o, cs, rels_mono h k, e⟩
theorem relL_mono {R R' : Ren} (h : ∀ n x, R n = some x → R' n = some x) {l : List AV} {xs : List Value} (k : relL R l xs) : relL R' l xs := by
  induction k with
  | nil => exact .nil
  | cons a _ ih => exact .cons (rel1_mono h a) ih
theorem AV.rel_mono {R R' : Ren} (h : ∀ n x, R n = some x → R' n = some x) : ∀ {v : AV} {x : Value}, v.rel R x → v.rel R' x
  | .any, _, e => e
  | .v _, _, e => V.rel_mono h e
  | .agg _, _, ⟨o, cs, k, e⟩ => ⟨o, cs, rels_mono h k, e⟩
  | .tup _, _, ⟨ys, k, e⟩ => ⟨ys, relL_mono h k, e⟩
def ktag : IntKind → Nat
  | .i8 => 0 | .i16 => 1 | .i32 => 2 | .i64 => 3 | .u8 => 4 | .u16 => 5 | .u32 => 6 | .u64 => 7
/-- Of one kind. -/
def keq (a b : IntKind) (k : Prop) : Prop :=
  match Nat.beq (ktag a) (ktag b) with
  | true => k
  | false => False
theorem keq_sound {a b : IntKind} {k : Prop} (h : keq a b k) : a = b ∧ k := by
  unfold keq at h
  split at h
  · rename_i e
    have e := Nat.eq_of_beq_eq_true e
    exact ⟨by (cases a <;> cases b <;> first | rfl | cases e), h⟩
  · exact h.elim
/-- Facts of numbers that decide themselves where they are closed. -/
def ltK (a b : Nat) (p : Prop) : Prop :=
  match Nat.blt a b with
  | true => p
  | false => False
def leK (a b : Nat) (p : Prop) : Prop :=
  match Nat.ble a b with
  | true => p
  | false => False
def eqK (a b : Nat) (p : Prop) : Prop :=
  match Nat.beq a b with
  | true => p
  | false => False
def stK (st s i : Nat) (p : Prop) : Prop :=
  match Nat.beq st s with
  | true => p
  | false => i = 0 ∧ p
theorem ltK_eq (a b : Nat) (p : Prop) : ltK a b p = (a < b ∧ p) := by
  unfold ltK
  split
  · rename_i h; have h : a < b := Nat.le_of_ble_eq_true h; simp [h]
  · rename_i h; have h : ¬ a < b := fun h' => by rw [show Nat.blt a b = true from Nat.ble_eq_true_of_le h'] at h; cases h
    simp [h]
theorem leK_eq (a b : Nat) (p : Prop) : leK a b p = (a ≤ b ∧ p) := by
  unfold leK
  split
  · rename_i h; have h : a ≤ b := Nat.le_of_ble_eq_true h; simp [h]
  · rename_i h; have h : ¬ a ≤ b := fun h' => by rw [Nat.ble_eq_true_of_le h'] at h; cases h
    simp [h]
theorem eqK_eq (a b : Nat) (p : Prop) : eqK a b p = (a = b ∧ p) := by
  unfold eqK
  split
  · rename_i h; have h := Nat.eq_of_beq_eq_true h; simp [h]
  · rename_i h; have h := Nat.ne_of_beq_eq_false h; simp [h]
theorem stK_eq (st s i : Nat) (p : Prop) : stK st s i p = ((st = s ∨ i = 0) ∧ p) := by
  unfold stK
  split
  · rename_i h; have h := Nat.eq_of_beq_eq_true h; simp [h]
  · rename_i h; have h := Nat.ne_of_beq_eq_false h; simp [h]
/-- Reading one cell: at base + i * st. -/
def rd (k : V → Prop) : List Seg → Nat → Nat → Nat → Prop
  | [], _, _, _ => False
  | .one v :: r, base, i, st =>
    match base with
    | 0 => match i * st with
      | 0 => k v
      | j + 1 => rd k r j 0 0
    | b + 1 => rd k r b i st
  | .ints kd n l :: r, base, i, st =>
    match base with
    | 0 => ltK (i * st) n (k (.int kd (l.getD (i * st) 0)))
    | b + 1 => match Nat.blt b n.pred with
      | true => ltK (b + 1 + i * st) n (k (.int kd (l.getD (b + 1 + i * st) 0)))
      | false => rd k r (b + 1 - n) i st
  | .recs s n f :: r, base, i, st =>
    match Nat.blt base s with
    | true => stK st s i (ltK i n (k ((f i).getD base .bad)))
    | false => False
theorem blt_iff {a b : Nat} : Nat.blt a b = true ↔ a < b := by simp [Nat.blt, Nat.ble_eq]; omega
theorem getD_eq {α : Type} {l : List α} {i : Nat} {d : α} (h : i < l.length) : l[i]? = some (l.getD i d) := by
  simp [List.getD, List.getElem?_eq_getElem h]
theorem flat_cons (s : Seg) (l : List Seg) : flat (s :: l) = s.flat ++ flat l := by simp [flat]
theorem Seg.flat_ints {k : IntKind} {n : Nat} {l : List Int} (h : l.length = n) : (Seg.ints k n l).flat.length = n := by simp [Seg.flat, h]
theorem flatMap_len {f : Nat → List V} {s : Nat} : ∀ {n : Nat}, (∀ i, i < n → (f i).length = s) → ((List.range n).flatMap f).length = s * n
  | 0, _ => by simp
  | n + 1, h => by
    rw [List.range_succ, List.flatMap_append, List.length_append, flatMap_len (fun i hi => h i (by omega))]
    simp [h n (by omega), Nat.mul_succ]
theorem flatMap_get {f : Nat → List V} {s : Nat} : ∀ {n : Nat}, (∀ i, i < n → (f i).length = s) → ∀ i b, i < n → b < s → ((List.range n).flatMap f)[b + i * s]? = (f i)[b]?
  | 0, _, _, _, h, _ => absurd h (Nat.not_lt_zero _)
  | n + 1, h, i, b, hi, hb => by
    have hl := flatMap_len (f := f) (s := s) (n := n) (fun i hi => h i (by omega))
    rw [List.range_succ, List.flatMap_append]
    by_cases hin : i < n
    · rw [List.getElem?_append_left, flatMap_get (fun i hi => h i (by omega)) i b hin hb]
      rw [hl]
      have : i * s + s ≤ n * s := by rw [← Nat.succ_mul]; exact Nat.mul_le_mul_right s hin
      rw [Nat.mul_comm s n]; omega
    · obtain rfl : i = n := by omega
      rw [List.getElem?_append_right (by rw [hl, Nat.mul_comm s i]; omega), hl]
      simp [Nat.mul_comm s i]
theorem rd_sound {k : V → Prop} : ∀ {l : List Seg} {base i st : Nat}, rd k l base i st → oks l → ∃ v, (flat l)[base + i * st]? = some v ∧ k v := by
  intro l
  induction l with
  | nil => intro base i st h; exact h.elim
  | cons s r ih =>
    intro base i st h hok
    have hr : oks r := fun x hx => hok x (List.mem_cons_of_mem _ hx)
    have hs : s.ok := hok s (List.mem_cons_self ..)
    rw [flat_cons]
    cases s with
    | one v =>
      cases base with
      | zero =>
        simp only [rd, ltK_eq, stK_eq] at h
        split at h
        · rename_i h0; exact ⟨v, by simp [Seg.flat, h0], h⟩
        · rename_i j h0
          obtain ⟨x, hx, hk⟩ := ih h hr
          refine ⟨x, ?_, hk⟩
          rw [h0]; simpa [Seg.flat] using hx
      | succ b =>
        simp only [rd, ltK_eq, stK_eq] at h
        obtain ⟨x, hx, hk⟩ := ih h hr
        refine ⟨x, ?_, hk⟩
        rw [show b + 1 + i * st = (b + i * st) + 1 by omega]
        simpa [Seg.flat] using hx
    | ints kd n l =>
      have hl : l.length = n := hs
      have key : ∀ j, j < n → ((Seg.ints kd n l).flat ++ flat r)[j]? = some (.int kd (l.getD j 0)) := by
        intro j hj
        rw [List.getElem?_append_left (by rw [Seg.flat_ints hl]; exact hj)]
        simp [Seg.flat, List.getElem?_eq_getElem (show j < l.length by omega), List.getD]
      cases base with
      | zero =>
        simp only [rd, ltK_eq, stK_eq] at h
        refine ⟨_, ?_, h.2⟩
        rw [Nat.zero_add]; exact key _ h.1
      | succ b =>
        simp only [rd, ltK_eq, stK_eq] at h
        split at h
        · exact ⟨_, key _ h.1, h.2⟩
        · rename_i hb
          have hb' : n ≤ b + 1 := by
            have hb2 : ¬ (b < n - 1) := by
              intro hlt
              rw [blt_iff.2 (show b < n.pred from hlt)] at hb; cases hb
            omega
          obtain ⟨x, hx, hk⟩ := ih h hr
          refine ⟨x, ?_, hk⟩
          rw [List.getElem?_append_right (by rw [Seg.flat_ints hl]; omega), Seg.flat_ints hl, ← hx]
          congr 1; omega
    | recs s n f =>
      have hf : ∀ i, i < n → (f i).length = s := hs
      have hl : (Seg.recs s n f).flat.length = s * n := flatMap_len hf
      simp only [rd, ltK_eq, stK_eq] at h
      split at h
      · rename_i hb
        have hb' : base < s := blt_iff.1 hb
        obtain ⟨h1, h2, h3⟩ := h
        refine ⟨_, ?_, h3⟩
        have e : base + i * st = base + i * s := by rcases h1 with rfl | rfl <;> simp
        have hlt : base + i * s < s * n := by
          have : i * s + s ≤ n * s := by rw [← Nat.succ_mul]; exact Nat.mul_le_mul_right s h2
          rw [Nat.mul_comm s n]; omega
        rw [e, List.getElem?_append_left (by rw [hl]; exact hlt)]
        show ((List.range n).flatMap f)[base + i * s]? = _
        rw [flatMap_get hf i base h2 hb']
        exact getD_eq (by rw [hf i h2]; exact hb')
      · exact h.elim
/-- Writing one cell. -/
def wr (x : V) : List Seg → Nat → Nat → Nat → (List Seg → Prop) → Prop
  | [], _, _, _, _ => False
  | .one v :: r, base, i, st, k =>
    match base with
    | 0 => match i * st with
      | 0 => k (.one x :: r)
      | j + 1 => wr x r j 0 0 (fun r' => k (.one v :: r'))
    | b + 1 => wr x r b i st (fun r' => k (.one v :: r'))
  | .ints kd n l :: r, base, i, st, k =>
    match base with
    | 0 => match x with
      | .int kd' y => keq kd' kd (ltK (i * st) n (k (.ints kd n (l.set (i * st) y) :: r)))
      | _ => False
    | b + 1 => match Nat.blt b n.pred with
      | true => match x with
        | .int kd' y => keq kd' kd (ltK (b + 1 + i * st) n (k (.ints kd n (l.set (b + 1 + i * st) y) :: r)))
        | _ => False
      | false => wr x r (b + 1 - n) i st (fun r' => k (.ints kd n l :: r'))
  | .recs s n f :: r, base, i, st, k =>
    match Nat.blt base s with
    | true => stK st s i (ltK i n (k (.recs s n (fun j => if j = i then (f j).set base x else f j) :: r)))
    | false => False
theorem set_append_right' {α : Type} {a b : List α} {i : Nat} {x : α} (h : a.length ≤ i) : (a ++ b).set i x = a ++ b.set (i - a.length) x := by
  rw [List.set_append]; simp; omega
theorem flatMap_set {f : Nat → List V} {s : Nat} {i b : Nat} {x : V} (hb : b < s) : ∀ {n : Nat}, (∀ i, i < n → (f i).length = s) → i < n →
    (List.range n).flatMap (fun j => if j = i then (f j).set b x else f j) = ((List.range n).flatMap f).set (b + i * s) x
  | 0, _, h => absurd h (Nat.not_lt_zero _)
  | n + 1, h, hi => by
    have hl := flatMap_len (f := f) (s := s) (n := n) (fun i hi => h i (by omega))
    rw [List.range_succ, List.flatMap_append, List.flatMap_append]
    by_cases hin : i < n
    · rw [flatMap_set hb (fun i hi => h i (by omega)) hin, List.set_append_left]
      · congr 1
        simp only [List.flatMap_cons, List.flatMap_nil, List.append_nil]
        rw [if_neg (by omega)]
      · rw [hl]
        have : i * s + s ≤ n * s := by rw [← Nat.succ_mul]; exact Nat.mul_le_mul_right s hin
        rw [Nat.mul_comm s n]; omega
    · obtain rfl : i = n := by omega
      rw [set_append_right' (by rw [hl, Nat.mul_comm s i]; omega), hl]
      congr 1
      · rw [List.flatMap_def, List.flatMap_def]
        congr 1
        refine List.map_congr_left fun j hj => ?_
        rw [List.mem_range] at hj
        rw [if_neg (by omega)]
      · simp [Nat.mul_comm s i]
theorem wr_sound {x : V} : ∀ {l : List Seg} {base i st : Nat} {k : List Seg → Prop}, wr x l base i st k → oks l → ∃ l', oks l' ∧ k l' ∧ flat l' = (flat l).set (base + i * st) x ∧ base + i * st < (flat l).length := by
  intro l
  induction l with
  | nil => intro base i st k h; exact h.elim
  | cons s r ih =>
    intro base i st k h hok
    have hr : oks r := fun x hx => hok x (List.mem_cons_of_mem _ hx)
    have hs : s.ok := hok s (List.mem_cons_self ..)
    have cons_ok : ∀ {s : Seg} {r : List Seg}, s.ok → oks r → oks (s :: r) := fun h1 h2 y hy => by
      rcases List.mem_cons.1 hy with rfl | hy
      · exact h1
      · exact h2 y hy
    rw [flat_cons]
    cases s with
    | one v =>
      cases base with
      | zero =>
        simp only [wr, ltK_eq, stK_eq] at h
        split at h
        · rename_i h0
          exact ⟨_, cons_ok (s := .one _) trivial hr, h, by simp [flat_cons, Seg.flat, h0], by simp [Seg.flat, h0]⟩
        · rename_i j h0
          obtain ⟨l', o, hk, hf, hlt⟩ := ih h hr
          refine ⟨_, cons_ok (s := .one _) trivial o, hk, ?_, ?_⟩
          · rw [flat_cons, hf, h0]; simp [Seg.flat]
          · rw [h0]; simp [Seg.flat] at hlt ⊢; omega
      | succ b =>
        simp only [wr, ltK_eq, stK_eq] at h
        obtain ⟨l', o, hk, hf, hlt⟩ := ih h hr
        refine ⟨_, cons_ok (s := .one _) trivial o, hk, ?_, ?_⟩
        · rw [flat_cons, hf, show b + 1 + i * st = (b + i * st) + 1 by omega]; simp [Seg.flat]
        · simp [Seg.flat] at hlt ⊢; omega
    | ints kd n l =>
      have hl : l.length = n := hs
      have hfl := Seg.flat_ints (k := kd) hl
      have key : ∀ j y, j < n → flat (.ints kd n (l.set j y) :: r) = ((Seg.ints kd n l).flat ++ flat r).set j (.int kd y) := by
        intro j y hj
        rw [flat_cons, List.set_append_left _ _ (by rw [hfl]; exact hj)]
        simp [Seg.flat, List.map_set]
      cases base with
      | zero =>
        simp only [wr, ltK_eq, stK_eq] at h
        split at h
        · rename_i kd' y
          obtain ⟨rfl, h1, h2⟩ := keq_sound h
          exact ⟨_, cons_ok (by simpa [Seg.ok] using hl) hr, h2, by rw [Nat.zero_add]; exact key _ _ h1, by rw [List.length_append, hfl]; omega⟩
        · exact h.elim
      | succ b =>
        simp only [wr, ltK_eq, stK_eq] at h
        split at h
        · split at h
          · rename_i kd' y
            obtain ⟨rfl, h1, h2⟩ := keq_sound h
            exact ⟨_, cons_ok (by simpa [Seg.ok] using hl) hr, h2, key _ _ h1, by rw [List.length_append, hfl]; omega⟩
          · exact h.elim
        · rename_i hb
          have hb' : n ≤ b + 1 := by
            have hb2 : ¬ (b < n - 1) := by
              intro hlt
              rw [blt_iff.2 (show b < n.pred from hlt)] at hb; cases hb
            omega
          obtain ⟨l', o, hk, hf, hlt⟩ := ih h hr
          refine ⟨_, cons_ok hs o, hk, ?_, ?_⟩
          · rw [flat_cons, hf, set_append_right' (by rw [hfl]; omega), hfl]
            congr 2; omega
          · rw [List.length_append, hfl]; omega
    | recs s n f =>
      have hf : ∀ i, i < n → (f i).length = s := hs
      have hl : (Seg.recs s n f).flat.length = s * n := flatMap_len hf
      simp only [wr, ltK_eq, stK_eq] at h
      split at h
      · rename_i hb
        have hb' : base < s := blt_iff.1 hb
        obtain ⟨h1, h2, h3⟩ := h
        have e : base + i * st = base + i * s := by rcases h1 with rfl | rfl <;> simp
        have hlt : base + i * s < s * n := by
          have : i * s + s ≤ n * s := by rw [← Nat.succ_mul]; exact Nat.mul_le_mul_right s h2
          rw [Nat.mul_comm s n]; omega
        refine ⟨_, cons_ok ?_ hr, h3, ?_, by rw [e, List.length_append, hl]; omega⟩
        · intro j hj
          dsimp only
          split
          · rw [List.length_set]; exact hf j hj
          · exact hf j hj
        · rw [e, flat_cons, List.set_append_left _ _ (by rw [hl]; exact hlt)]
          congr 1
          exact flatMap_set hb' hf h2
      · exact h.elim
theorem rels_len {R : Ren} {l : List V} {xs : List Value} (h : rels R l xs) : l.length = xs.length := by
  induction h with
  | nil => rfl
  | cons _ _ ih => simp [ih]
theorem rels_get {R : Ren} {l : List V} {xs : List Value} (h : rels R l xs) : ∀ {i : Nat} {v : V}, l[i]? = some v → ∃ x, xs[i]? = some x ∧ v.rel R x := by
  induction h with
  | nil => intro i v hv; simp at hv
  | cons a _ ih =>
    intro i v hv
    cases i with
    | zero => simp at hv; subst hv; exact ⟨_, rfl, a⟩
    | succ i => simp at hv ⊢; exact ih hv
theorem rels_set {R : Ren} {l : List V} {xs : List Value} (h : rels R l xs) : ∀ {i : Nat} {v : V} {x : Value}, v.rel R x → rels R (l.set i v) (xs.set i x) := by
  induction h with
  | nil => intro i v x _; simpa using rels.nil
  | cons a b ih =>
    intro i v x hv
    cases i with
    | zero => exact .cons hv b
    | succ i => exact .cons a (ih hv)
theorem rels_append {R : Ren} {l l' : List V} {xs xs' : List Value} (h : rels R l xs) (h' : rels R l' xs') : rels R (l ++ l') (xs ++ xs') := by
  induction h with
  | nil => exact h'
  | cons a _ ih => exact .cons a ih
theorem rels_split {R : Ren} {l l' : List V} {zs : List Value} (h : rels R (l ++ l') zs) : ∃ xs ys, zs = xs ++ ys ∧ rels R l xs ∧ rels R l' ys := by
  induction l generalizing zs with
  | nil => exact ⟨[], zs, rfl, .nil, h⟩
  | cons a l ih =>
    cases h with
    | cons h1 h2 =>
      obtain ⟨xs, ys, rfl, h3, h4⟩ := ih h2
      exact ⟨_ :: xs, ys, rfl, .cons h1 h3, h4⟩
theorem V.rel_one {R : Ren} {v : V} {x : Value} (h : v.rel R x) : x.oneCell' = true := by
  cases v <;> simp only [V.rel] at h
  case ptr => obtain ⟨m, c, _, rfl⟩ := h; rfl
  case sl =>
    obtain ⟨m, c, _, h⟩ := h
    rcases h with ⟨_, rfl, _⟩ | ⟨_, _, rfl⟩ <;> rfl
  case if1 => obtain ⟨y, _, rfl⟩ := h; rfl
  case if2 => obtain ⟨y, z, _, _, rfl⟩ := h; rfl
  case fn1 => obtain ⟨y, _, rfl⟩ := h; rfl
  all_goals subst h; rfl
section
variable {R : Ren} {w : World} {l : List Seg} {m : Nat} {c : Nat × Nat}
theorem HoldsF.cellA {L : List V} (h : HoldsF R w L m c) {o : Nat} {v : V} (hv : L[o]? = some v) : ∃ x, w.cell? ⟨m, c.1 + o, none⟩ = some x ∧ v.rel R x := by
  obtain ⟨cs, ty, fr, pre, xs, rest, hb, hp, hcs, hr, _⟩ := h
  obtain ⟨x, hx, hv⟩ := rels_get hr hv
  refine ⟨x, ?_, hv⟩
  simp only [World.cell?, hb]
  rw [← Array.getElem?_toList, hcs, List.getElem?_append_right (by omega), hp, List.getElem?_append_left (by have := (List.getElem?_eq_some_iff.1 hx).1; omega), show c.1 + o - c.1 = o by omega, hx]
  rfl
theorem Holds.cell (h : Holds R w l m c) {o : Nat} {v : V} (hv : (flat l)[o]? = some v) : ∃ x, w.cell? ⟨m, c.1 + o, none⟩ = some x ∧ v.rel R x := h.2.cellA hv
theorem Holds.lt (h : Holds R w l m c) : m < w.heap.size := by
  obtain ⟨_, cs, ty, fr, pre, xs, rest, hb, _⟩ := h
  exact (Array.getElem?_eq_some_iff.1 hb).1
theorem Holds.size (h : Holds R w l m c) : (flat l).length ≤ c.2 := by
  obtain ⟨_, cs, ty, fr, pre, xs, rest, hb, hc, hcs, hr, hl⟩ := h
  exact hl
theorem Holds.kept {w' : World} (h : Holds R w l m c) (e : w'.heap[m]? = w.heap[m]?) : Holds R w' l m c := by
  obtain ⟨o, cs, ty, fr, pre, xs, rest, hb, r⟩ := h
  exact ⟨o, cs, ty, fr, pre, xs, rest, e.trans hb, r⟩
theorem Holds.mono {R' : Ren} (h : Holds R w l m c) (k : ∀ n x, R n = some x → R' n = some x) : Holds R' w l m c := by
  obtain ⟨o, cs, ty, fr, pre, xs, rest, hb, hc, hcs, hr, hl⟩ := h
  exact ⟨o, cs, ty, fr, pre, xs, rest, hb, hc, hcs, rels_mono k hr, hl⟩
theorem Own.kept {w' : World} (h : Own w m c) (e : w'.heap[m]? = w.heap[m]?) : Own w' m c := by
  obtain ⟨cs, ty, hb, r⟩ := h
  exact ⟨cs, ty, e.trans hb, r⟩
theorem Own.set (h : Own w m c) (o : Nat) (x : Value) : Own (w.setCell ⟨m, o, none⟩ x) m c := by
  obtain ⟨cs, ty, hb, hs, h0⟩ := h
  exact ⟨cs.setIfInBounds o x, ty, by simp [World.setCell, Array.getElem?_modify, hb], by simpa using hs, h0⟩
theorem HoldsF.set {L : List V} (h : HoldsF R w L m c) (h0 : c.1 = 0) {o : Nat} {v : V} {x : Value} (ho : o < L.length) (hx : v.rel R x) : HoldsF R (w.setCell ⟨m, o, none⟩ x) (L.set o v) m c := by
  obtain ⟨cs, ty, fr, pre, xs, rest, hb, hp, hcs, hr, hl⟩ := h
  obtain rfl := List.length_eq_zero_iff.1 (hp.trans h0)
  refine ⟨cs.setIfInBounds o x, ty, fr, [], xs.set o x, rest, ?_, hp, ?_, rels_set hr hx, by simpa using hl⟩
  · simp [World.setCell, Array.getElem?_modify, hb]
  · rw [rels_len hr] at ho
    simp [hcs, List.set_append_left _ _ ho]
theorem HoldsF.cell {L : List V} (h : HoldsF R w L m c) (ho : Own w m c) {o : Nat} {v : V} (hv : L[o]? = some v) : ∃ x, w.cell? ⟨m, o, none⟩ = some x ∧ v.rel R x ∧ w.frozen? ⟨m, o, none⟩ = false := by
  obtain ⟨x, h1, h2⟩ := h.cellA hv
  obtain ⟨cs, ty, hb, hs, h0⟩ := ho
  rw [h0, Nat.zero_add] at h1
  exact ⟨x, h1, h2, by simp [World.frozen?, hb]⟩
end
theorem heap_setCell_self (w : World) (a : Addr) (x : Value) (k : Nat) (h : k ≠ a.block) : (w.setCell a x).heap[k]? = w.heap[k]? := Below.heap_setCell _ _ _ _ h
/-- A world in which one block alone has turned. -/
theorem Rep.upd {R : Ren} {H : Hp} {w w' : World} {n m : Nat} {c : Nat × Nat} {l l' : List Seg} (h : Rep R H w) (hn : H[n]? = some (.rw l)) (hR : R n = some (m, c)) (hl : Holds R w' l' m c) (ho : Own w' m c)
    (hk : ∀ k, k ≠ m → w'.heap[k]? = w.heap[k]?) : Rep R (H.set n (.rw l')) w' where
  tab x hx := by
    obtain ⟨⟨cz, ty, fr, h1, hz⟩, h2⟩ := h.tab x hx
    have hm : x.1 ≠ m := fun e => h2 n l c hn (by rw [hR, e])
    refine ⟨⟨cz, ty, fr, by rw [hk _ hm]; exact h1, hz⟩, fun j lj cj hj hRj => ?_⟩
    by_cases e : j = n
    · subst e; exact h2 j l cj hn hRj
    · rw [List.getElem?_set_ne (Ne.symm e)] at hj; exact h2 j lj cj hj hRj
  holds j b lj hj hs := by
    by_cases e : j = n
    · subst e
      rw [List.getElem?_set_self (List.getElem?_eq_some_iff.1 hn).1] at hj
      injection hj with hj; subst hj
      injection hs with hs; subst hs
      exact ⟨m, c, hR, hl⟩
    · rw [List.getElem?_set_ne (Ne.symm e)] at hj
      obtain ⟨mj, cj, h1, h2⟩ := h.holds j b lj hj hs
      refine ⟨mj, cj, h1, h2.kept (hk mj ?_)⟩
      rintro rfl
      exact e (h.inj n j l b lj mj c cj hn hj hs hR h1).symm
  dom j hj := h.dom j (by simpa using hj)
  own j lj mj cj hj hRj := by
    by_cases e : j = n
    · subst e
      rw [hR] at hRj; injection hRj with e; injection e with e1 e2; subst e1 e2
      exact ho
    · rw [List.getElem?_set_ne (Ne.symm e)] at hj
      refine (h.own j lj mj cj hj hRj).kept (hk mj ?_)
      rintro rfl
      exact e (h.inj n j l _ lj mj c cj hn hj rfl hR hRj).symm
  inj j j' lj b lj' mj cj cj' hj hj' hs h1 h2 := by
    have hlt := (List.getElem?_eq_some_iff.1 hn).1
    have live : ∀ (j : Nat) (b : Blk) (lj : List Seg), (H.set n (.rw l'))[j]? = some b → b.segs? = some lj → ∃ b' lj', H[j]? = some b' ∧ b'.segs? = some lj' ∧ ((∃ q, b = .rw q) → ∃ q, b' = .rw q) := by
      intro j b lj hj hs
      by_cases e : j = n
      · subst e; exact ⟨_, _, hn, rfl, fun _ => ⟨_, rfl⟩⟩
      · rw [List.getElem?_set_ne (Ne.symm e)] at hj
        exact ⟨b, lj, hj, hs, fun h => h⟩
    obtain ⟨b1, l1, a1, a2, a3⟩ := live j (.rw lj) lj hj rfl
    obtain ⟨b2, l2, b1', b2', _⟩ := live j' b lj' hj' hs
    obtain ⟨q, rfl⟩ := a3 ⟨_, rfl⟩
    exact h.inj j j' q b2 l2 mj cj cj' a1 b1' b2' h1 h2
theorem Go.upd {R : Ren} {H : Hp} {w w' : World} {n m : Nat} {c : Nat × Nat} {l l' : List Seg} (hn : H[n]? = some (.rw l)) (hR : R n = some (m, c)) (hos : w'.os = w.os) (ht : w'.tape = w.tape) (ho : w'.output = w.output) (hs : w'.heap.size = w.heap.size)
    (hk : ∀ k, k ≠ m → w'.heap[k]? = w.heap[k]?) : Go R H w R (H.set n (.rw l')) w' where
  len := by simp
  ext _ _ := rfl
  os := hos
  tape := ht
  output := ho
  size := Nat.le_of_eq hs.symm
  frame k _ h := hk k (fun e => by subst e; exact h n l c hn hR)
  flag j b hj hb := by
    by_cases e : j = n
    · subst e
      rw [List.getElem?_set_self hj] at hb
      injection hb with hb; subst hb
      exact .inr ⟨_, hn, rfl, by simp⟩
    · rw [List.getElem?_set_ne (Ne.symm e)] at hb
      by_cases e2 : b = .dead
      · exact .inl e2
      · exact .inr ⟨b, hb, rfl, e2⟩
  own j b mj cj hj hb _ _ := by
    have := (List.getElem?_eq_some_iff.1 hb).1
    simp at this; omega
theorem getElem?_append_len {α : Type} {l : List α} {x : α} {j : Nat} {y : α} (h : (l ++ [x])[j]? = some y) : (j < l.length ∧ l[j]? = some y) ∨ (j = l.length ∧ y = x) := by
  by_cases hj : j < l.length
  · rw [List.getElem?_append_left hj] at h; exact .inl ⟨hj, h⟩
  · rw [List.getElem?_append_right (by omega)] at h
    have : j - l.length = 0 := by
      have := (List.getElem?_eq_some_iff.1 h).1
      simp at this; omega
    rw [this] at h; simp at h
    exact .inr ⟨by omega, h.symm⟩
/-- A new block. -/
def Ren.add (R : Ren) (n : Nat) (x : Nat × (Nat × Nat)) : Ren := fun j => if j = n then some x else R j
theorem Rep.newP {R : Ren} {H : Hp} {w : World} (h : Rep R H w) {l : List Seg} {cs : Array Value} {ty : TypeId} {xs rest : List Value} (hok : oks l) (hcs : cs.toList = xs ++ rest) (hr : rels R (flat l) xs) :
    Rep (R.add H.length (w.heap.size, (0, cs.size))) (H ++ [.rw l]) (w.alloc (.cells cs ty)) ∧ Go R H w (R.add H.length (w.heap.size, (0, cs.size))) (H ++ [.rw l]) (w.alloc (.cells cs ty)) := by
  have hm : ∀ n x, R n = some x → R.add H.length (w.heap.size, (0, cs.size)) n = some x := by
    intro n x hx
    unfold Ren.add
    split
    · rename_i e; subst e; rw [h.dom _ (Nat.le_refl _)] at hx; cases hx
    · exact hx
  have hold : ∀ j, j < H.length → R.add H.length (w.heap.size, (0, cs.size)) j = R j := fun j hj => by unfold Ren.add; rw [if_neg (by omega)]
  have hsz : (w.alloc (.cells cs ty)).heap.size = w.heap.size + 1 := by simp
  have hb : ∀ j, j < w.heap.size → (w.alloc (.cells cs ty)).heap[j]? = w.heap[j]? := fun j hj => Below.heap_alloc _ _ _ hj
  have ht : GTok (R.add H.length (w.heap.size, (0, cs.size))) (H ++ [.rw l]) (w.alloc (.cells cs ty)) := by
    intro x hx
    obtain ⟨⟨cz, ty', fr, h1, hz⟩, h2⟩ := h.tab x hx
    have hlt : x.1 < w.heap.size := (Array.getElem?_eq_some_iff.1 h1).1
    refine ⟨⟨cz, ty', fr, by rw [hb _ hlt]; exact h1, hz⟩, fun j lj cj hj hRj => ?_⟩
    rcases getElem?_append_len hj with ⟨hlt', hj⟩ | ⟨rfl, e⟩
    · rw [hold _ hlt'] at hRj; exact h2 j lj cj hj hRj
    · simp [Ren.add] at hRj; omega
  refine ⟨⟨ht, fun j b lj hj hs => ?_, fun j hj => ?_, fun j lj mj cj hj hRj => ?_, fun j j' lj b lj' mj cj cj' hj hj' hs h1 h2 => ?_⟩, ⟨by simp, fun j hj => hold j hj, rfl, rfl, rfl, by omega, fun k hk _ => hb k hk, fun j b hlt hj => ?_, fun j b mj cj hlt hj hd hRj => ?_⟩⟩
  · rcases getElem?_append_len hj with ⟨hlt, hj⟩ | ⟨rfl, rfl⟩
    · obtain ⟨m, c, h1, h2⟩ := h.holds j b lj hj hs
      exact ⟨m, c, hm _ _ h1, (h2.mono hm).kept (hb m h2.lt)⟩
    · injection hs with hs; subst hs
      refine ⟨w.heap.size, (0, cs.size), by simp [Ren.add], hok, cs, ty, (0, 0), [], xs, rest, ?_, rfl, by simpa using hcs, rels_mono hm hr, ?_⟩
      · show (w.heap.push _)[w.heap.size]? = _
        simp
      · have := congrArg List.length hcs
        rw [rels_len hr]
        simp at this ⊢; omega
  · unfold Ren.add
    simp at hj
    rw [if_neg (by omega)]; exact h.dom j (by omega)
  · rcases getElem?_append_len hj with ⟨hlt, hj⟩ | ⟨rfl, e⟩
    · rw [hold _ hlt] at hRj
      have ho := h.own j lj mj cj hj hRj
      have hlt2 : mj < w.heap.size := by
        obtain ⟨cz, tz, hz, _⟩ := ho
        exact (Array.getElem?_eq_some_iff.1 hz).1
      exact ho.kept (hb mj hlt2)
    · simp [Ren.add] at hRj
      obtain ⟨rfl, rfl⟩ := hRj
      exact ⟨cs, ty, by show (w.heap.push _)[w.heap.size]? = _; simp, rfl, rfl⟩
  · rcases getElem?_append_len hj with ⟨hlt, hj⟩ | ⟨rfl, e⟩
    · rcases getElem?_append_len hj' with ⟨hlt', hj'⟩ | ⟨rfl, e'⟩
      · rw [hold _ hlt] at h1
        rw [hold _ hlt'] at h2
        exact h.inj j j' lj b lj' mj cj cj' hj hj' hs h1 h2
      · rw [hold _ hlt] at h1
        obtain ⟨m, c, g1, g2⟩ := h.holds j _ lj hj rfl
        rw [h1] at g1; injection g1 with g1; injection g1 with g1 _; subst g1
        simp [Ren.add] at h2
        have := g2.lt; omega
    · rcases getElem?_append_len hj' with ⟨hlt', hj'⟩ | ⟨rfl, e'⟩
      · rw [hold _ hlt'] at h2
        obtain ⟨m, c, g1, g2⟩ := h.holds j' b lj' hj' hs
        rw [h2] at g1; injection g1 with g1; injection g1 with g1 _; subst g1
        simp [Ren.add] at h1
        have := g2.lt; omega
      · rfl
  · rcases getElem?_append_len hj with ⟨hlt, hj⟩ | ⟨rfl, e⟩
    · by_cases e2 : b = .dead
      · exact .inl e2
      · exact .inr ⟨b, hj, rfl, e2⟩
    · omega
  · rcases getElem?_append_len hj with ⟨hlt, hj⟩ | ⟨rfl, e⟩
    · omega
    · simp [Ren.add] at hRj
      exact ⟨by rw [e]; rfl, .inl (by omega)⟩
theorem Rep.new {R : Ren} {H : Hp} {w : World} (h : Rep R H w) {l : List Seg} {cs : Array Value} {ty : TypeId} (hok : oks l) (hr : rels R (flat l) cs.toList) :
    Rep (R.add H.length (w.heap.size, (0, cs.size))) (H ++ [.rw l]) (w.alloc (.cells cs ty)) ∧ Go R H w (R.add H.length (w.heap.size, (0, cs.size))) (H ++ [.rw l]) (w.alloc (.cells cs ty)) :=
  h.newP hok (xs := cs.toList) (rest := []) (by simp) hr
inductive relA (R : Ren) : List AV → List Value → Prop
  | nil : relA R [] []
  | cons {x y xs ys} : AV.rel R x y → relA R xs ys → relA R (x :: xs) (y :: ys)
abbrev Sl := List (Nat × AV)
def get : Sl → Nat → Option AV
  | [], _ => none
  | (j, v) :: r, t => match Nat.beq j t with
    | true => some v
    | false => get r t
def SR (R : Ren) (s : Sl) (a : Act) : Prop := ∀ t v, get s t = some v → AV.rel R v (a.tmps.getD t undef)
theorem SR.mono {R R' : Ren} {s : Sl} {a : Act} (h : SR R s a) (k : ∀ n x, R n = some x → R' n = some x) : SR R' s a := fun t v hv => AV.rel_mono k (h t v hv)
theorem SR.put {R : Ren} {s : Sl} {a : Act} (h : SR R s a) {d : Nat} {v : AV} {x : Value} (hd : d < a.tmps.size) (hv : AV.rel R v x) : SR R ((d, v) :: s) (a.put (some d) x) := by
  intro t u hu
  simp only [get] at hu
  split at hu
  · rename_i e
    have e := Nat.eq_of_beq_eq_true e
    subst e; injection hu with hu; subst hu
    simpa [Act.put, hd] using hv
  · rename_i e
    have e : d ≠ t := Nat.ne_of_beq_eq_false e
    have := h t u hu
    simpa [Act.put, Array.getElem?_setIfInBounds_ne e] using this
theorem put_size (a : Act) (d : Option Nat) (x : Value) : (a.put d x).tmps.size = a.tmps.size := by cases d <;> simp [Act.put]
theorem put_defers (a : Act) (d : Option Nat) (x : Value) : (a.put d x).defers = a.defers := by cases d <;> simp [Act.put]
theorem Go.mono {R R' : Ren} {H H' : Hp} {w w' : World} (g : Go R H w R' H' w') (h : Rep R H w) : ∀ n x, R n = some x → R' n = some x := by
  intro n x hx
  rcases Nat.lt_or_ge n H.length with hn | hn
  · rw [g.ext n hn]; exact hx
  · rw [h.dom n hn] at hx; cases hx
/-- What is to hold behind a piece of code. -/
def Post (nt : Nat) (Q : Exit → Sl → Hp → Prop) (R : Ren) (H : Hp) (w : World) (e : Exit) (a' : Act) (w' : World) : Prop :=
  ∃ s' H' R', Q e s' H' ∧ a'.tmps.size = nt ∧ a'.defers = [] ∧ SR R' s' a' ∧ Rep R' H' w' ∧ Go R H w R' H' w'
/-- A piece of code, from these slots and these blocks on, comes to Q. -/
def AW (P : Program) (nt : Nat) (c : Code) (Q : Exit → Sl → Hp → Prop) (s : Sl) (H : Hp) : Prop :=
  ∀ (R : Ren) (w : World) (a : Act), a.tmps.size = nt → a.defers = [] → SR R s a → Rep R H w → c.wp P (Post nt Q R H w) a w
theorem Post.trans {nt : Nat} {Q : Exit → Sl → Hp → Prop} {R R1 : Ren} {H H1 : Hp} {w w1 : World} (g : Go R H w R1 H1 w1) {e : Exit} {a' : Act} {w' : World} (h : Post nt Q R1 H1 w1 e a' w') : Post nt Q R H w e a' w' := by
  obtain ⟨s', H', R', q, h1, h2, h3, h4, h5⟩ := h
  exact ⟨s', H', R', q, h1, h2, h3, h4, g.trans h5⟩
/-- What comes behind. -/
def thenQ (K : Sl → Hp → Prop) (Q : Exit → Sl → Hp → Prop) : Exit → Sl → Hp → Prop
  | .normal, s, H => K s H
  | e, s, H => Q e s H
def blockQ (id : Nat) (Q : Exit → Sl → Hp → Prop) : Exit → Sl → Hp → Prop
  | .exit j, s, H => match Nat.beq j id with
    | true => Q .normal s H
    | false => Q (.exit j) s H
  | e, s, H => Q e s H
section
variable {P : Program} {nt : Nat} {Q : Exit → Sl → Hp → Prop} {s : Sl} {H : Hp}
theorem AW.mono {c : Code} {Q' : Exit → Sl → Hp → Prop} (h : AW P nt c Q s H) (k : ∀ e s H, Q e s H → Q' e s H) : AW P nt c Q' s H :=
  fun R w a h1 h2 h3 h4 => wp_mono (h R w a h1 h2 h3 h4) fun e a' w' ⟨s', H', R', q, r⟩ => ⟨s', H', R', k _ _ _ q, r⟩
theorem AW_skip (h : Q .normal s H) : AW P nt .skip Q s H := fun R w a h1 h2 h3 h4 => wp_skip ⟨s, H, R, h, h1, h2, h3, h4, Go.refl _ _ _⟩
theorem AW_label {l : Nat} (h : Q .normal s H) : AW P nt (.label l) Q s H := fun R w a h1 h2 h3 h4 => wp_label ⟨s, H, R, h, h1, h2, h3, h4, Go.refl _ _ _⟩
theorem AW_exit {id : Nat} (h : Q (.exit id) s H) : AW P nt (.exit id) Q s H := fun R w a h1 h2 h3 h4 => wp_exit ⟨s, H, R, h, h1, h2, h3, h4, Go.refl _ _ _⟩
theorem AW_ret (h : Q .ret s H) : AW P nt .ret Q s H := fun R w a h1 h2 h3 h4 => wp_ret ⟨s, H, R, h, h1, h2, h3, h4, Go.refl _ _ _⟩
theorem AW_seq {x y : Code} (h : AW P nt x (thenQ (AW P nt y Q) Q) s H) : AW P nt (.seq x y) Q s H := by
  intro R w a h1 h2 h3 h4
  refine wp_seq (wp_mono (h R w a h1 h2 h3 h4) ?_)
  rintro e a' w' ⟨s', H', R', q, g1, g2, g3, g4, g5⟩
  cases e with
  | normal => exact wp_mono (q R' w' a' g1 g2 g3 g4) fun e a'' w'' hp => hp.trans g5
  | _ => exact ⟨s', H', R', q, g1, g2, g3, g4, g5⟩
theorem AW_block {id : Nat} {c : Code} (h : AW P nt c (blockQ id Q) s H) : AW P nt (.block id c) Q s H := by
  intro R w a h1 h2 h3 h4
  refine wp_block (wp_mono (h R w a h1 h2 h3 h4) ?_)
  rintro e a' w' ⟨s', H', R', q, g⟩
  cases e with
  | exit j =>
    simp only [blockQ] at q
    simp only [Exit.inBlock]
    split at q
    · rename_i e; rw [if_pos (Nat.eq_of_beq_eq_true e)]; exact ⟨s', H', R', q, g⟩
    · rename_i e; rw [if_neg (Nat.ne_of_beq_eq_false e)]; exact ⟨s', H', R', q, g⟩
  | _ => exact ⟨s', H', R', q, g⟩
/-- These slots are among those. -/
def subs : Sl → Sl → Prop
  | [], _ => True
  | (t, v) :: r, s => get s t = some v ∧ subs r s
theorem subs_get : ∀ {r s : Sl}, subs r s → ∀ t v, get r t = some v → get s t = some v
  | [], _, _, _, _, h => by simp [get] at h
  | (j, u) :: r, s, ⟨h1, h2⟩, t, v, h => by
    simp only [get] at h
    split at h
    · rename_i e
      have e := Nat.eq_of_beq_eq_true e
      subst e; injection h with h; subst h; exact h1
    · exact subs_get h2 t v h
theorem AW.weaken {c : Code} {s' : Sl} (h : AW P nt c Q s' H) (k : subs s' s) : AW P nt c Q s H :=
  fun R w a h1 h2 h3 h4 => h R w a h1 h2 (fun t v hv => h3 t v (subs_get k t v hv)) h4
/-- A loop: what holds ahead of each round, by a name x; each round lowers a measure. -/
def roundQ {α : Type} (S : α → Sl) (HH : α → Hp) (inv : α → Prop) (mu : α → Nat) (Q : Exit → Sl → Hp → Prop) (x : α) : Exit → Sl → Hp → Prop
  | .normal, s, H => ∃ x', inv x' ∧ mu x' < mu x ∧ subs (S x') s ∧ H = HH x'
  | e, s, H => Q e s H
theorem AW_loop {α : Type} {c : Code} (S : α → Sl) (HH : α → Hp) (inv : α → Prop) (mu : α → Nat) (x0 : α) (hs : subs (S x0) s) (hH : H = HH x0) (h0 : inv x0)
    (round : ∀ x, inv x → AW P nt c (roundQ S HH inv mu Q x) (S x) (HH x)) : AW P nt (.loop c) Q s H := by
  intro R w a h1 h2 h3 h4
  subst hH
  refine wp_loop_ghost (fun n a1 w1 => ∃ x R1, mu x = n ∧ inv x ∧ a1.tmps.size = nt ∧ a1.defers = [] ∧ SR R1 (S x) a1 ∧ Rep R1 (HH x) w1 ∧ Go R (HH x0) w R1 (HH x) w1) (mu x0)
    ⟨x0, R, rfl, h0, h1, h2, fun t v hv => h3 t v (subs_get hs t v hv), h4, Go.refl _ _ _⟩ ?_
  rintro n a1 w1 ⟨x, R1, rfl, hi, g1, g2, g3, g4, g5⟩
  refine wp_mono (round x hi R1 w1 a1 g1 g2 g3 g4) ?_
  rintro e a2 w2 ⟨s2, H2, R2, q, k1, k2, k3, k4, k5⟩
  cases e with
  | normal =>
    obtain ⟨x', i1, i2, i3, rfl⟩ := q
    exact ⟨mu x', i2, x', R2, rfl, i1, k1, k2, fun t v hv => k3 t v (subs_get i3 t v hv), k4, g5.trans k5⟩
  | _ => exact ⟨s2, H2, R2, q, k1, k2, k3, k4, g5.trans k5⟩
end
/-- The function is one of Go's, with a body. -/
def CanEnter (P : Program) (f : FuncId) : Prop := ∃ fn, P.funcs[f]? = some fn ∧ (fn.name == "runtime.NumGoroutine") = false ∧ fn.body.isNone = false
/-- A call's contract, over named blocks. -/
structure AC (P : Program) (f : FuncId) (args : List AV) (H : Hp) (Q : AV → Hp → Prop) : Prop where
  enter : CanEnter P f
  run : ∀ (R : Ren) (w : World) (as : List Value), relA R args as → Rep R H w →
    Calls P f as.toArray w fun e w' => ∃ v x H' R', Q v H' ∧ e = .returned x ∧ AV.rel R' v x ∧ Rep R' H' w' ∧ Go R H w R' H' w'
theorem AC.mono {P : Program} {f : FuncId} {args : List AV} {H : Hp} {Q Q' : AV → Hp → Prop} (h : AC P f args H Q) (k : ∀ v H', Q v H' → Q' v H') : AC P f args H Q' :=
  ⟨h.enter, fun R w as h1 h2 => (h.run R w as h1 h2).mono fun e w' ⟨v, x, H', R', q, r⟩ => ⟨v, x, H', R', k _ _ q, r⟩⟩
def PostO (nt : Nat) (k : Sl → Hp → Prop) (R : Ren) (H : Hp) (w : World) (a' : Act) (w' : World) : Prop :=
  ∃ s' H' R', k s' H' ∧ a'.tmps.size = nt ∧ a'.defers = [] ∧ SR R' s' a' ∧ Rep R' H' w' ∧ Go R H w R' H' w'
/-- An operation, from these slots and these blocks on, comes to k. -/
structure AO (P : Program) (nt : Nat) (o : Oper) (s : Sl) (H : Hp) (k : Sl → Hp → Prop) : Prop where
  run : ∀ (R : Ren) (w : World) (a : Act), a.tmps.size = nt → a.defers = [] → SR R s a → Rep R H w → o.wp P a w (fun a' w' => PostO nt k R H w a' w') (fun _ _ _ => False)
def kput (dst : Option Tmp) (nt : Nat) (v : AV) (s : Sl) (H : Hp) (k : Sl → Hp → Prop) : Prop :=
  match dst with
  | none => k s H
  | some d => match Nat.blt d nt with
    | true => k ((d, v) :: s) H
    | false => False
theorem PostO.of_put {dst : Option Tmp} {nt : Nat} {v : AV} {s : Sl} {H H' : Hp} {k : Sl → Hp → Prop} {R R' : Ren} {w w' : World} {a : Act} {x : Value} (hk : kput dst nt v s H' k) (h1 : a.tmps.size = nt) (h2 : a.defers = []) (h3 : SR R' s a)
    (hv : AV.rel R' v x) (h4 : Rep R' H' w') (g : Go R H w R' H' w') : PostO nt k R H w (a.put dst x) w' := by
  unfold kput at hk
  split at hk
  · exact ⟨s, H', R', hk, h1, h2, h3, h4, g⟩
  · split at hk
    · rename_i d _ e
      refine ⟨_, H', R', hk, by rw [put_size]; exact h1, by rw [put_defers]; exact h2, h3.put ?_ hv, h4, g⟩
      rw [h1]; exact blt_iff.1 e
    · exact hk.elim
section
variable {P : Program} {nt : Nat} {o : Oper} {s : Sl} {H : Hp} {k : Sl → Hp → Prop}
theorem AO.valueW {v : AV} {H' : Hp} (hk : kput o.dst nt v s H' k) (h : ∀ (R : Ren) (w : World) (a : Act), SR R s a → Rep R H w → ∃ x w' R', (execOp a.eval o).run P w = .ok (.value x) w' ∧ AV.rel R' v x ∧ Rep R' H' w' ∧ Go R H w R' H' w') : AO P nt o s H k := by
  refine ⟨fun R w a h1 h2 h3 h4 => ?_⟩
  obtain ⟨x, w', R', hx, hv, hr, g⟩ := h R w a h3 h4
  unfold Oper.wp
  rw [hx]
  exact PostO.of_put hk h1 h2 (h3.mono (g.mono h4)) hv hr g
theorem AO.skipW {H' : Hp} (hd : o.dst = none) (hk : k s H') (h : ∀ (R : Ren) (w : World) (a : Act), SR R s a → Rep R H w → ∃ w' R', (execOp a.eval o).run P w = .ok .skip w' ∧ Rep R' H' w' ∧ Go R H w R' H' w') : AO P nt o s H k := by
  refine ⟨fun R w a h1 h2 h3 h4 => ?_⟩
  obtain ⟨w', R', hx, hr, g⟩ := h R w a h3 h4
  unfold Oper.wp
  rw [hx, Oper.upon_skip, hd]
  exact ⟨s, H', R', hk, h1, h2, h3.mono (g.mono h4), hr, g⟩
end
/-- An operation that looks at no memory. -/
structure AP (P : Program) (o : Oper) (s : Sl) (v : AV) : Prop where
  run : ∀ (R : Ren) (a : Act), SR R s a → ∃ x, AV.rel R v x ∧ ∀ w, (execOp a.eval o).run P w = .ok (.value x) w
/-- An operation that reads block n alone. -/
structure AL (P : Program) (o : Oper) (s : Sl) (H : Hp) (v : AV) (n : Nat) : Prop where
  run : ∀ (R : Ren) (w : World) (a : Act), SR R s a → Rep R H w → ∃ x m c, R n = some (m, c) ∧ AV.rel R v x ∧ ∀ w', w'.heap[m]? = w.heap[m]? → (execOp a.eval o).run P w' = .ok (.value x) w'
theorem AO.pure {P : Program} {nt : Nat} {o : Oper} {s : Sl} {H : Hp} {k : Sl → Hp → Prop} {v : AV} (hk : kput o.dst nt v s H k) (h : AP P o s v) : AO P nt o s H k := by
  refine ⟨fun R w a h1 h2 h3 h4 => ?_⟩
  obtain ⟨x, hv, hx⟩ := h.run R a h3
  unfold Oper.wp
  rw [hx]
  exact PostO.of_put hk h1 h2 h3 hv h4 (Go.refl _ _ _)
theorem AO.load {P : Program} {nt : Nat} {o : Oper} {s : Sl} {H : Hp} {k : Sl → Hp → Prop} {v : AV} {n : Nat} (hk : kput o.dst nt v s H k) (h : AL P o s H v n) : AO P nt o s H k := by
  refine ⟨fun R w a h1 h2 h3 h4 => ?_⟩
  obtain ⟨x, m, c, _, hv, hx⟩ := h.run R w a h3 h4
  unfold Oper.wp
  rw [hx w rfl]
  exact PostO.of_put hk h1 h2 h3 hv h4 (Go.refl _ _ _)
/-- A constant. -/
def vC : Value → Option V
  | .bool b => some (.bool b)
  | .int k n => some (.int k n)
  | .string s => some (.str s)
  | .pointer none => some .nilP
  | .nilIface => some .nilI
  | .nilFunc => some .nilF
  | .slice none 0 0 => some .nilS
  | _ => none
def vCs : List Value → Option (List V)
  | [] => some []
  | x :: r => match vC x, vCs r with
    | some v, some l => some (v :: l)
    | _, _ => none
def ofC : Value → Option AV
  | .agg cs => match vCs cs.toList with
    | some l => some (.agg (l.map .one))
    | none => none
  | x => match vC x with
    | some v => some (.v v)
    | none => none
theorem vC_rel {R : Ren} {x : Value} {v : V} (h : vC x = some v) : v.rel R x := by
  unfold vC at h
  split at h <;> first | (injection h with h; subst h; rfl) | cases h
theorem vCs_rel {R : Ren} : ∀ {l : List Value} {m : List V}, vCs l = some m → rels R m l
  | [], m, h => by simp [vCs] at h; subst h; exact .nil
  | x :: r, m, h => by
    simp only [vCs] at h
    split at h
    · rename_i v l h1 h2
      injection h with h; subst h
      exact .cons (vC_rel h1) (vCs_rel h2)
    · cases h
theorem flat_ones (l : List V) : flat (l.map .one) = l := by
  induction l with
  | nil => rfl
  | cons x l ih => rw [List.map_cons, flat_cons, ih]; rfl
theorem oks_ones (l : List V) : oks (l.map .one) := by
  intro s hs
  obtain ⟨v, _, rfl⟩ := List.mem_map.1 hs
  trivial
theorem ofC_rel {R : Ren} {x : Value} {v : AV} (h : ofC x = some v) : AV.rel R v x := by
  unfold ofC at h
  split at h
  · split at h
    · rename_i l hl
      injection h with h; subst h
      exact ⟨oks_ones _, _, by rw [flat_ones]; exact vCs_rel hl, by simp⟩
    · cases h
  · split at h
    · rename_i v hv
      injection h with h; subst h
      exact vC_rel hv
    · cases h
def ev (s : Sl) : Operand → Option AV
  | .tmp t => get s t
  | .const v => ofC v
  | .global _ => none
  | .func f => some (.v (.fn0 (.func f)))
theorem ev_rel {R : Ren} {s : Sl} {a : Act} (h : SR R s a) {x : Operand} {v : AV} (e : ev s x = some v) : AV.rel R v (a.eval x) := by
  cases x with
  | tmp t => exact h t v e
  | const c => exact ofC_rel e
  | global g => simp [ev] at e
  | func f => simp [ev] at e; subst e; rfl
/-- Types, as far as they are asked for. -/
inductive TK where
  | int (k : IntKind) | bool | string | ptr (e : TypeId) | slice (e : TypeId) | struct (l : List (Nat × TypeId)) | array (n : Nat) (e : TypeId) | iface | func
def TK.isAgg : TK → Bool
  | .struct _ | .array _ _ => true
  | _ => false
structure TyD where
  kind : TK
  size : Nat
  bytes : Nat
  zero : List Seg
def TK.is (P : Program) (t : TypeId) : TK → Prop
  | .int k => P.underlying t = some (.int k)
  | .bool => P.underlying t = some .bool
  | .string => P.underlying t = some .string
  | .ptr e => P.underlying t = some (.pointer e)
  | .slice e => P.underlying t = some (.slice e)
  | .struct l => ∃ fs : Array Field, P.underlying t = some (.struct fs) ∧ fs.toList.map (fun f => (f.offset, f.type)) = l
  | .array n e => P.underlying t = some (.array n e)
  | .iface => ∃ ms, P.underlying t = some (.interface ms)
  | .func => ∃ a b c, P.underlying t = some (.func a b c)
structure TyD.is (P : Program) (t : TypeId) (d : TyD) : Prop where
  kind : d.kind.is P t
  info : ∃ i, P.info? t = some i ∧ i.size = d.size ∧ i.bytes = d.bytes ∧ ∃ z, i.zero = some z ∧ rels (fun _ => none) (flat d.zero) z.cells.toList
  ok : oks d.zero
  len : (flat d.zero).length = d.size
abbrev TT := Nat → Option TyD
def TOK (P : Program) (T : TT) : Prop := ∀ t d, T t = some d → d.is P t
section
variable {P : Program} {w : World} {t : TypeId} {d : TyD}
theorem run_underlying {u : TypeDesc} (h : P.underlying t = some u) : (underlying t).run P w = .ok u w := by
  simp [underlying, h]
theorem run_isAgg (h : d.is P t) : (isAgg t).run P w = .ok d.kind.isAgg w := by
  have hk := h.kind
  unfold isAgg
  cases e : d.kind <;> rw [e] at hk <;> simp only [TK.is] at hk
  case struct l => obtain ⟨fs, hk, _⟩ := hk; simp [run_underlying hk, TK.isAgg]
  case iface => obtain ⟨ms, hk⟩ := hk; simp [run_underlying hk, TK.isAgg]
  case func => obtain ⟨a, b, c, hk⟩ := hk; simp [run_underlying hk, TK.isAgg]
  all_goals simp [run_underlying hk, TK.isAgg]
theorem run_sizeOf (h : d.is P t) : (sizeOf t).run P w = .ok d.size w := by
  obtain ⟨i, hi, hs, _⟩ := h.info
  simp [sizeOf, typeInfo, hi, hs]
end
theorem Addr.add_eq (b o i : Nat) : (⟨b, o, none⟩ : Addr).add i = ⟨b, o + i, none⟩ := by
  unfold Addr.add
  split
  · rename_i h; subst h; rfl
  · rfl
theorem run_load_cell {P : Program} {w : World} {a : Addr} {x : Value} (h : w.cell? a = some x) : (load a).run P w = .ok x w := by simp [h]
theorem run_loadCells {P : Program} {w : World} {m o : Nat} : ∀ (n i : Nat) (acc : Array Value) (xs : List Value), xs.length = n → (∀ j x, xs[j]? = some x → w.cell? ⟨m, o + i + j, none⟩ = some x) →
    (loadCellsFrom ⟨m, o, none⟩ i n acc).run P w = .ok (acc ++ xs.toArray) w
  | 0, i, acc, xs, hl, _ => by
    obtain rfl := List.length_eq_zero_iff.1 hl
    simp [loadCellsFrom]
  | n + 1, i, acc, [], hl, _ => by simp at hl
  | n + 1, i, acc, x :: xs, hl, h => by
    have h0 := h 0 x rfl
    simp only [loadCellsFrom, Addr.add_eq]
    rw [Sem.run_bind, run_load_cell (by simpa using h0), Result.andThen_ok]
    rw [run_loadCells n (i + 1) (acc.push x) xs (by simpa using hl) (fun j y hy => by
      have := h (j + 1) y (by simpa using hy)
      rw [← this]; congr 2; omega)]
    simp
/-- Reading a whole struct, or array: its parts. -/
def cut : List Seg → Nat → (List Seg → List Seg → Prop) → Prop
  | l, 0, k => k [] l
  | [], _ + 1, _ => False
  | .one v :: r, n + 1, k => cut r n (fun a b => k (.one v :: a) b)
  | .ints kd n l :: r, o + 1, k =>
    match Nat.blt o n with
    | true => match Nat.beq (o + 1) n with
      | true => k [.ints kd n l] r
      | false => k [.ints kd (o + 1) (l.take (o + 1))] (.ints kd (n - (o + 1)) (l.drop (o + 1)) :: r)
    | false => cut r (o + 1 - n) (fun a b => k (.ints kd n l :: a) b)
  | .recs _ _ _ :: _, _ + 1, _ => False
theorem oks_cons {s : Seg} {r : List Seg} (h1 : s.ok) (h2 : oks r) : oks (s :: r) := fun y hy => by
  rcases List.mem_cons.1 hy with rfl | hy
  · exact h1
  · exact h2 y hy
theorem oks_nil : oks [] := fun _ h => by cases h
theorem cut_sound : ∀ {l : List Seg} {o : Nat} {k : List Seg → List Seg → Prop}, cut l o k → oks l → ∃ a b, k a b ∧ oks a ∧ oks b ∧ flat l = flat a ++ flat b ∧ (flat a).length = o := by
  intro l
  induction l with
  | nil =>
    intro o k h hok
    cases o with
    | zero => exact ⟨[], [], by simpa [cut] using h, hok, hok, rfl, rfl⟩
    | succ o => simp [cut] at h
  | cons s r ih =>
    intro o k h hok
    have hr : oks r := fun x hx => hok x (List.mem_cons_of_mem _ hx)
    have hs : s.ok := hok s (List.mem_cons_self ..)
    cases o with
    | zero => exact ⟨[], s :: r, by simpa [cut] using h, oks_nil, hok, rfl, rfl⟩
    | succ o =>
      cases s with
      | one v =>
        simp only [cut] at h
        obtain ⟨a, b, hk, ha, hb, hf, hl⟩ := ih h hr
        exact ⟨_, b, hk, oks_cons hs ha, hb, by rw [flat_cons, flat_cons, hf]; simp, by rw [flat_cons]; simp [Seg.flat, hl]⟩
      | ints kd n l =>
        have hln : l.length = n := hs
        simp only [cut] at h
        split at h
        · rename_i hlt
          have hlt := blt_iff.1 hlt
          split at h
          · rename_i e
            have e := Nat.eq_of_beq_eq_true e
            exact ⟨_, r, h, oks_cons hs oks_nil, hr, by rw [flat_cons, flat_cons]; simp [flat], by rw [flat_cons]; simp [Seg.flat, flat, hln, e]⟩
          · rename_i e
            have e := Nat.ne_of_beq_eq_false e
            refine ⟨_, _, h, oks_cons ?_ oks_nil, oks_cons ?_ hr, ?_, ?_⟩
            · show (l.take (o + 1)).length = o + 1; rw [List.length_take]; omega
            · show (l.drop (o + 1)).length = n - (o + 1); rw [List.length_drop]; omega
            · simp only [flat_cons, Seg.flat]
              rw [show flat [] = [] from rfl, List.append_nil, ← List.append_assoc, ← List.map_append, List.take_append_drop]
            · simp only [flat_cons, Seg.flat]
              simp [flat]; omega
        · rename_i hb
          have hb : ¬ o < n := fun hlt => by rw [blt_iff.2 hlt] at hb; cases hb
          obtain ⟨a, b, hk, ha, hb', hf, hl⟩ := ih h hr
          refine ⟨_, b, hk, oks_cons hs ha, hb', by rw [flat_cons, flat_cons, hf]; simp, ?_⟩
          rw [flat_cons, List.length_append, hl, Seg.flat_ints hln]; omega
      | recs st n f => simp [cut] at h
def ones : List V → Nat → (List Seg → Prop) → Prop
  | _, 0, k => k []
  | [], _ + 1, _ => False
  | x :: r, n + 1, k => ones r n (fun m => k (.one x :: m))
theorem ones_sound : ∀ {l : List V} {n : Nat} {k : List Seg → Prop}, ones l n k → ∃ m, k m ∧ oks m ∧ flat m = l.take n ∧ n ≤ l.length := by
  intro l
  induction l with
  | nil =>
    intro n k h
    cases n with
    | zero => exact ⟨[], h, oks_nil, rfl, Nat.le_refl _⟩
    | succ n => exact h.elim
  | cons x r ih =>
    intro n k h
    cases n with
    | zero => exact ⟨[], h, oks_nil, by simp [flat], Nat.zero_le _⟩
    | succ n =>
      obtain ⟨m, hk, ho, hf, hl⟩ := ih h
      exact ⟨_, hk, oks_cons (s := .one x) trivial ho, by rw [flat_cons, hf]; simp [Seg.flat], by simp; exact hl⟩
def rdAi (sz : Nat) : List Seg → Nat → Nat → Nat → (List Seg → Prop) → Prop
  | [], _, _, _, _ => False
  | .one v :: r, base, i, st, k =>
    match base with
    | 0 => cut (.one v :: r) (i * st) (fun _ b => cut b sz (fun m _ => k m))
    | b + 1 => rdAi sz r b i st k
  | .ints kd n l :: r, base, i, st, k =>
    match base with
    | 0 => leK (i * st + sz) n (k [.ints kd sz ((l.drop (i * st)).take sz)])
    | b + 1 => match Nat.blt b n.pred with
      | true => False
      | false => rdAi sz r (b + 1 - n) i st k
  | .recs s n f :: _, base, i, st, k =>
    match Nat.blt base s with
    | true => eqK st s (leK (base + sz) s (ltK i n (ones ((f i).drop base) sz k)))
    | false => False
def rdA (sz : Nat) (l : List Seg) (base i st : Nat) (k : List Seg → Prop) : Prop :=
  match st with
  | 0 => cut l base (fun _ b => cut b sz (fun m _ => k m))
  | st + 1 => rdAi sz l base i (st + 1) k
/-- A piece of so many, behind so many. -/
def Mid (L M : List V) (o sz : Nat) : Prop := M.length = sz ∧ ∃ a c, L = a ++ (M ++ c) ∧ a.length = o
theorem rdAi_sound {sz : Nat} : ∀ {l : List Seg} {base i st : Nat} {k : List Seg → Prop}, rdAi sz l base i st k → oks l → ∃ m, k m ∧ oks m ∧ Mid (flat l) (flat m) (base + i * st) sz := by
  intro l
  induction l with
  | nil => intro base i st k h; exact h.elim
  | cons s r ih =>
    intro base i st k h hok
    have hr : oks r := fun x hx => hok x (List.mem_cons_of_mem _ hx)
    have hs : s.ok := hok s (List.mem_cons_self ..)
    cases s with
    | one v =>
      cases base with
      | zero =>
        simp only [rdAi, ltK_eq, leK_eq, eqK_eq] at h
        obtain ⟨a, b, h1, h2, h3, h4, h5⟩ := cut_sound h hok
        obtain ⟨m, c, g1, g2, g3, g4, g5⟩ := cut_sound h1 h3
        exact ⟨m, g1, g2, g5, _, _, by rw [h4, g4], by rw [h5]; omega⟩
      | succ b =>
        simp only [rdAi, ltK_eq, leK_eq, eqK_eq] at h
        obtain ⟨m, hk, ho, hl, a, c, hf, ha⟩ := ih h hr
        exact ⟨m, hk, ho, hl, v :: a, c, by rw [flat_cons, hf]; rfl, by simp; omega⟩
    | ints kd n l =>
      have hln : l.length = n := hs
      cases base with
      | zero =>
        simp only [rdAi, ltK_eq, leK_eq, eqK_eq] at h
        obtain ⟨h1, h2⟩ := h
        refine ⟨_, h2, oks_cons ?_ oks_nil, ?_, (l.take (i * st)).map (.int kd), ((l.drop (i * st + sz)).map (.int kd)) ++ flat r, ?_, ?_⟩
        · show ((l.drop (i * st)).take sz).length = sz; rw [List.length_take, List.length_drop]; omega
        · simp [flat, Seg.flat]; omega
        · rw [flat_cons, flat_cons]
          simp only [Seg.flat]
          rw [show flat [] = [] from rfl, List.append_nil, ← List.append_assoc, ← List.append_assoc, ← List.map_append, ← List.map_append]
          congr 2
          rw [List.append_assoc, ← List.drop_drop, List.take_append_drop, List.take_append_drop]
        · rw [List.length_map, List.length_take]; omega
      | succ b =>
        simp only [rdAi, ltK_eq, leK_eq, eqK_eq] at h
        split at h
        · exact h.elim
        · rename_i hb
          have hb' : n ≤ b + 1 := by
            have hb2 : ¬ (b < n - 1) := by
              intro hlt
              rw [blt_iff.2 (show b < n.pred from hlt)] at hb; cases hb
            omega
          obtain ⟨m, hk, ho, hl, a, c, hf, ha⟩ := ih h hr
          exact ⟨m, hk, ho, hl, (Seg.ints kd n l).flat ++ a, c, by rw [flat_cons, hf]; simp, by rw [List.length_append, Seg.flat_ints hln]; omega⟩
    | recs s n f =>
      have hf : ∀ i, i < n → (f i).length = s := hs
      simp only [rdAi, ltK_eq, leK_eq, eqK_eq] at h
      split at h
      · obtain ⟨rfl, h2, h3, h4⟩ := h
        obtain ⟨m, hk, ho, hm, hl⟩ := ones_sound h4
        refine ⟨m, hk, ho, ?_⟩
        have hfi := hf i h3
        have e : (List.range n).flatMap f = (List.range i).flatMap f ++ (f i ++ ((List.range (n - (i + 1))).map (· + (i + 1))).flatMap f) := by
          have : List.range n = List.range i ++ (i :: (List.range (n - (i + 1))).map (· + (i + 1))) := by
            have h1 : n = i + ((n - (i + 1)) + 1) := by omega
            rw [h1, List.range_add, List.range_succ_eq_map]
            simp only [List.map_cons, List.map_map, Nat.add_zero]
            congr 2
            rw [show i + (n - (i + 1) + 1) - (i + 1) = n - (i + 1) by omega]
            apply List.map_congr_left
            intro x _; simp; omega
          rw [this, List.flatMap_append, List.flatMap_cons]
        have hfi2 : f i = (f i).take base ++ (((f i).drop base).take sz ++ (f i).drop (base + sz)) := by
          rw [← List.drop_drop, List.take_append_drop, List.take_append_drop]
        refine ⟨by rw [hm, List.length_take, List.length_drop]; omega, (List.range i).flatMap f ++ (f i).take base, (f i).drop (base + sz) ++ (((List.range (n - (i + 1))).map (· + (i + 1))).flatMap f ++ flat r), ?_, ?_⟩
        · rw [flat_cons, hm]
          show (List.range n).flatMap f ++ flat r = _
          rw [e]
          conv => lhs; rw [hfi2]
          simp
        · rw [List.length_append, flatMap_len (fun j hj => hf j (by omega)), List.length_take, hfi, Nat.mul_comm st i]
          omega
      · exact h.elim
theorem rdA_sound {sz : Nat} {l : List Seg} {base i st : Nat} {k : List Seg → Prop} (h : rdA sz l base i st k) (hok : oks l) : ∃ m, k m ∧ oks m ∧ Mid (flat l) (flat m) (base + i * st) sz := by
  cases st with
  | zero =>
    obtain ⟨a, b, h1, h2, h3, h4, h5⟩ := cut_sound h hok
    obtain ⟨m, c, g1, g2, g3, g4, g5⟩ := cut_sound h1 h3
    exact ⟨m, g1, g2, g5, _, _, by rw [h4, g4], by rw [h5]; simp⟩
  | succ st => exact rdAi_sound h hok
def app : List Seg → List Seg → (List Seg → Prop) → Prop
  | [], b, k => k b
  | x :: a, b, k => app a b (fun r => k (x :: r))
theorem app_sound : ∀ {a b : List Seg} {k : List Seg → Prop}, app a b k → k (a ++ b)
  | [], _, _, h => h
  | x :: a, b, k, h => app_sound (a := a) (k := fun r => k (x :: r)) h
def wrAi (m : List Seg) (sz : Nat) : List Seg → Nat → Nat → Nat → (List Seg → Prop) → Prop
  | [], _, _, _, _ => False
  | .one v :: r, base, i, st, k =>
    match base with
    | 0 => cut (.one v :: r) (i * st) (fun a b => cut b sz (fun _ c => app m c (fun mc => app a mc k)))
    | b + 1 => wrAi m sz r b i st (fun r' => k (.one v :: r'))
  | .ints kd n l :: r, base, i, st, k =>
    match base with
    | 0 => match m with
      | [.ints kd' n' l'] => keq kd' kd (eqK n' sz (leK (i * st + sz) n (k (.ints kd n (l.take (i * st) ++ (l' ++ l.drop (i * st + sz))) :: r))))
      | _ => False
    | b + 1 => match Nat.blt b n.pred with
      | true => False
      | false => wrAi m sz r (b + 1 - n) i st (fun r' => k (.ints kd n l :: r'))
  | .recs s n f :: r, base, i, st, k =>
    match Nat.blt base s with
    | true => eqK st s (leK (base + sz) s (ltK i n (k (.recs s n (fun j => if j = i then (f j).take base ++ (flat m ++ (f j).drop (base + sz)) else f j) :: r))))
    | false => False
def wrA (m : List Seg) (sz : Nat) (l : List Seg) (base i st : Nat) (k : List Seg → Prop) : Prop :=
  match st with
  | 0 => cut l base (fun a b => cut b sz (fun _ c => app m c (fun mc => app a mc k)))
  | st + 1 => wrAi m sz l base i (st + 1) k
/-- L with M in it, from o on. -/
def Spl (L L' M : List V) (o : Nat) : Prop := ∃ a b c, L = a ++ (b ++ c) ∧ L' = a ++ (M ++ c) ∧ a.length = o ∧ b.length = M.length
theorem oks_append {a b : List Seg} (h1 : oks a) (h2 : oks b) : oks (a ++ b) := fun s hs => (List.mem_append.1 hs).elim (h1 s) (h2 s)
theorem flat_append (a b : List Seg) : flat (a ++ b) = flat a ++ flat b := by simp [flat]
theorem wrAi_sound {m : List Seg} {sz : Nat} (hm : oks m) (hsz : (flat m).length = sz) : ∀ {l : List Seg} {base i st : Nat} {k : List Seg → Prop}, wrAi m sz l base i st k → oks l → ∃ l', k l' ∧ oks l' ∧ Spl (flat l) (flat l') (flat m) (base + i * st) := by
  intro l
  induction l with
  | nil => intro base i st k h; exact h.elim
  | cons s r ih =>
    intro base i st k h hok
    have hr : oks r := fun x hx => hok x (List.mem_cons_of_mem _ hx)
    have hs : s.ok := hok s (List.mem_cons_self ..)
    cases s with
    | one v =>
      cases base with
      | zero =>
        simp only [wrAi, ltK_eq, leK_eq, eqK_eq] at h
        obtain ⟨a, b, h1, h2, h3, h4, h5⟩ := cut_sound h hok
        obtain ⟨x, c, g1, g2, g3, g4, g5⟩ := cut_sound h1 h3
        have := app_sound (app_sound g1)
        exact ⟨_, this, oks_append h2 (oks_append hm g3), flat a, flat x, flat c, by rw [h4, g4], by rw [flat_append, flat_append], by rw [h5]; omega, by rw [g5, hsz]⟩
      | succ b =>
        simp only [wrAi, ltK_eq, leK_eq, eqK_eq] at h
        obtain ⟨l', hk, ho, a, b', c, e1, e2, e3, e4⟩ := ih h hr
        exact ⟨_, hk, oks_cons hs ho, v :: a, b', c, by rw [flat_cons, e1]; rfl, by rw [flat_cons, e2]; rfl, by simp; omega, e4⟩
    | ints kd n l =>
      have hln : l.length = n := hs
      cases base with
      | zero =>
        simp only [wrAi, ltK_eq, leK_eq, eqK_eq] at h
        split at h
        · rename_i kd' n' l'
          obtain ⟨rfl, rfl, h3, h4⟩ := keq_sound h
          have hl' : l'.length = n' := hm _ (List.mem_cons_self ..)
          refine ⟨_, h4, oks_cons ?_ hr, (l.take (i * st)).map (.int kd'), ((l.drop (i * st)).take n').map (.int kd'), (l.drop (i * st + n')).map (.int kd') ++ flat r, ?_, ?_, ?_, ?_⟩
          · show (l.take (i * st) ++ (l' ++ l.drop (i * st + n'))).length = n
            simp; omega
          · rw [flat_cons]
            simp only [Seg.flat]
            rw [← List.append_assoc, ← List.append_assoc, ← List.map_append, ← List.map_append]
            congr 2
            rw [List.append_assoc, ← List.drop_drop, List.take_append_drop, List.take_append_drop]
          · rw [flat_cons, flat_cons]; simp [Seg.flat, flat]
          · rw [List.length_map, List.length_take]; omega
          · simp [flat, Seg.flat, hl']; omega
        · exact h.elim
      | succ b =>
        simp only [wrAi, ltK_eq, leK_eq, eqK_eq] at h
        split at h
        · exact h.elim
        · rename_i hb
          have hb' : n ≤ b + 1 := by
            have hb2 : ¬ (b < n - 1) := by
              intro hlt
              rw [blt_iff.2 (show b < n.pred from hlt)] at hb; cases hb
            omega
          obtain ⟨l', hk, ho, a, b', c, e1, e2, e3, e4⟩ := ih h hr
          exact ⟨_, hk, oks_cons hs ho, (Seg.ints kd n l).flat ++ a, b', c, by rw [flat_cons, e1]; simp, by rw [flat_cons, e2]; simp, by rw [List.length_append, Seg.flat_ints hln]; omega, e4⟩
    | recs s n f =>
      have hf : ∀ i, i < n → (f i).length = s := hs
      simp only [wrAi, ltK_eq, leK_eq, eqK_eq] at h
      split at h
      · obtain ⟨rfl, h2, h3, h4⟩ := h
        have hfi := hf i h3
        have hrange : List.range n = List.range i ++ (i :: (List.range (n - (i + 1))).map (· + (i + 1))) := by
          have h1 : n = i + ((n - (i + 1)) + 1) := by omega
          rw [h1, List.range_add, List.range_succ_eq_map]
          simp only [List.map_cons, List.map_map, Nat.add_zero]
          congr 2
          rw [show i + (n - (i + 1) + 1) - (i + 1) = n - (i + 1) by omega]
          apply List.map_congr_left
          intro x _; simp; omega
        have e : ∀ g : Nat → List V, (List.range n).flatMap g = (List.range i).flatMap g ++ (g i ++ ((List.range (n - (i + 1))).map (· + (i + 1))).flatMap g) := by
          intro g
          rw [hrange, List.flatMap_append, List.flatMap_cons]
        have hfi2 : f i = (f i).take base ++ (((f i).drop base).take sz ++ (f i).drop (base + sz)) := by
          rw [← List.drop_drop, List.take_append_drop, List.take_append_drop]
        refine ⟨_, h4, oks_cons ?_ hr, (List.range i).flatMap f ++ (f i).take base, ((f i).drop base).take sz, (f i).drop (base + sz) ++ (((List.range (n - (i + 1))).map (· + (i + 1))).flatMap f ++ flat r), ?_, ?_, ?_, ?_⟩
        · intro j hj
          dsimp only
          split
          · have := hf j hj
            simp [hsz]; omega
          · exact hf j hj
        · rw [flat_cons]
          show (List.range n).flatMap f ++ flat r = _
          rw [e f]
          conv => lhs; rw [hfi2]
          simp
        · rw [flat_cons]
          show (List.range n).flatMap _ ++ flat r = _
          rw [e]
          simp only [if_true]
          have c1 : (List.range i).flatMap (fun j => if j = i then (f j).take base ++ (flat m ++ (f j).drop (base + sz)) else f j) = (List.range i).flatMap f := by
            rw [List.flatMap_def, List.flatMap_def]
            congr 1
            refine List.map_congr_left fun j hj => ?_
            rw [List.mem_range] at hj
            rw [if_neg (by omega)]
          have c2 : ((List.range (n - (i + 1))).map (· + (i + 1))).flatMap (fun j => if j = i then (f j).take base ++ (flat m ++ (f j).drop (base + sz)) else f j) = ((List.range (n - (i + 1))).map (· + (i + 1))).flatMap f := by
            rw [List.flatMap_def, List.flatMap_def]
            congr 1
            refine List.map_congr_left fun j hj => ?_
            rw [List.mem_map] at hj
            obtain ⟨q, _, rfl⟩ := hj
            rw [if_neg (by omega)]
          rw [c1, c2]; simp
        · rw [List.length_append, flatMap_len (fun j hj => hf j (by omega)), List.length_take, hfi, Nat.mul_comm st i]
          omega
        · rw [List.length_take, List.length_drop, hsz]; omega
      · exact h.elim
theorem wrA_sound {m : List Seg} {sz : Nat} (hm : oks m) (hsz : (flat m).length = sz) {l : List Seg} {base i st : Nat} {k : List Seg → Prop} (h : wrA m sz l base i st k) (hok : oks l) : ∃ l', k l' ∧ oks l' ∧ Spl (flat l) (flat l') (flat m) (base + i * st) := by
  cases st with
  | zero =>
    obtain ⟨a, b, h1, h2, h3, h4, h5⟩ := cut_sound h hok
    obtain ⟨x, c, g1, g2, g3, g4, g5⟩ := cut_sound h1 h3
    exact ⟨_, app_sound (app_sound g1), oks_append h2 (oks_append hm g3), flat a, flat x, flat c, by rw [h4, g4], by rw [flat_append, flat_append], by rw [h5]; simp, by rw [g5, hsz]⟩
  | succ st => exact wrAi_sound hm hsz h hok
def lk : Hp → Nat → Option Blk
  | [], _ => none
  | b :: _, 0 => some b
  | _ :: r, n + 1 => lk r n
theorem lk_eq : ∀ (H : Hp) (n : Nat), lk H n = H[n]?
  | [], n => by simp [lk]
  | b :: r, 0 => by simp [lk]
  | b :: r, n + 1 => by simp [lk, lk_eq r n]
def upH : Hp → Nat → Blk → (Hp → Prop) → Prop
  | [], _, _, _ => False
  | _ :: r, 0, b, k => k (b :: r)
  | x :: r, n + 1, b, k => upH r n b (fun r' => k (x :: r'))
theorem upH_sound : ∀ {H : Hp} {n : Nat} {b : Blk} {k : Hp → Prop}, upH H n b k → k (H.set n b)
  | [], _, _, _, h => h.elim
  | _ :: _, 0, _, _, h => h
  | x :: r, n + 1, b, k, h => upH_sound (H := r) (k := fun r' => k (x :: r')) h
def push : Hp → Nat → Blk → (Nat → Hp → Prop) → Prop
  | [], n, b, k => k n [b]
  | x :: r, n, b, k => push r (n + 1) b (fun m r' => k m (x :: r'))
theorem push_sound' : ∀ {H : Hp} {n : Nat} {b : Blk} {k : Nat → Hp → Prop}, push H n b k → k (n + H.length) (H ++ [b])
  | [], _, _, _, h => h
  | x :: r, n, b, k, h => by
    have := push_sound' (H := r) (k := fun m r' => k m (x :: r')) h
    rw [show n + (x :: r).length = n + 1 + r.length by simp; omega]
    exact this
theorem push_sound {H : Hp} {b : Blk} {k : Nat → Hp → Prop} (h : push H 0 b k) : k H.length (H ++ [b]) := by
  have := push_sound' h
  rwa [Nat.zero_add] at this
def lenS : List Seg → Nat
  | [] => 0
  | .one _ :: r => lenS r + 1
  | .ints _ n _ :: r => lenS r + n
  | .recs s n _ :: r => lenS r + s * n
theorem lenS_eq : ∀ {l : List Seg}, oks l → (flat l).length = lenS l
  | [], _ => rfl
  | s :: r, h => by
    have hr : oks r := fun x hx => h x (List.mem_cons_of_mem _ hx)
    have hs : s.ok := h s (List.mem_cons_self ..)
    rw [flat_cons, List.length_append, lenS_eq hr]
    cases s with
    | one v => simp [Seg.flat, lenS]; omega
    | ints k n l => rw [Seg.flat_ints hs]; simp [lenS]; omega
    | recs st n f => rw [show (Seg.recs st n f).flat.length = st * n from flatMap_len hs]; simp [lenS]; omega
def segsOf : AV → Option (List Seg)
  | .v x => some [.one x]
  | .agg l => some l
  | _ => none
theorem segsOf_rel {R : Ren} {v : AV} {l : List Seg} {x : Value} (h : segsOf v = some l) (hv : AV.rel R v x) : oks l ∧ rels R (flat l) x.cells.toList := by
  cases v with
  | v y =>
    injection h with h; subst h
    refine ⟨oks_cons (s := .one y) trivial oks_nil, ?_⟩
    have hy : y.rel R x := hv
    have h1 := V.rel_one hy
    have : x.cells = #[x] := by cases x <;> first | rfl | cases h1
    rw [this]; exact .cons hy .nil
  | agg m =>
    injection h with h; subst h
    obtain ⟨o, cs, hr, rfl⟩ := hv
    exact ⟨o, by simpa [Value.cells] using hr⟩
  | tup _ => cases h
  | any => cases h
/-- So many stores, one behind the other. -/
def wputs (w : World) (m : Nat) : Nat → List Value → World
  | _, [] => w
  | o, x :: r => wputs (w.setCell ⟨m, o, none⟩ x) m (o + 1) r
theorem puts_same (m : Nat) : ∀ (xs : List Value) (o : Nat) (w : World), (wputs w m o xs).os = w.os ∧ (wputs w m o xs).tape = w.tape ∧ (wputs w m o xs).output = w.output ∧ (wputs w m o xs).heap.size = w.heap.size ∧ ∀ k, k ≠ m → (wputs w m o xs).heap[k]? = w.heap[k]?
  | [], _, _ => ⟨rfl, rfl, rfl, rfl, fun _ _ => rfl⟩
  | x :: r, o, w => by
    obtain ⟨h1, h2, h3, h4, h5⟩ := puts_same m r (o + 1) (w.setCell ⟨m, o, none⟩ x)
    exact ⟨h1, h2, h3, h4.trans (by simp), fun k hk => (h5 k hk).trans (heap_setCell_self _ _ _ _ hk)⟩
theorem HoldsF.puts {R : Ren} {m : Nat} {c : Nat × Nat} : ∀ {vs : List V} {xs : List Value}, rels R vs xs → ∀ {w : World} {A B C : List V}, HoldsF R w (A ++ (B ++ C)) m c → Own w m c → B.length = vs.length → HoldsF R (wputs w m A.length xs) (A ++ (vs ++ C)) m c ∧ Own (wputs w m A.length xs) m c := by
  intro vs xs hr
  induction hr with
  | nil =>
    intro w A B C h ho hl
    obtain rfl := List.length_eq_zero_iff.1 hl
    exact ⟨h, ho⟩
  | @cons v x vs xs hv hr ih =>
    intro w A B C h ho hl
    cases B with
    | nil => simp at hl
    | cons b B =>
      have h1 := h.set (by obtain ⟨_, _, _, _, h0⟩ := ho; exact h0) (o := A.length) (v := v) (x := x) (by simp) hv
      rw [show (A ++ (b :: B ++ C)).set A.length v = (A ++ [v]) ++ (B ++ C) by simp] at h1
      have h2 := ih h1 (ho.set _ _) (by simpa using hl)
      simpa [wputs] using h2
theorem run_store_cell {P : Program} {w : World} {a : Addr} {x y : Value} (h : w.cell? a = some y) (hf : w.frozen? a = false) (hx : x.oneCell' = true) : (store a x).run P w = .ok () (w.setCell a x) := by
  rw [run_store P w a x .plain hx, h]; simp [hf]
theorem run_storeCells {P : Program} {R : Ren} {m : Nat} {c : Nat × Nat} : ∀ {vs : List V} {xs : List Value}, rels R vs xs → ∀ {w : World} {A B C : List V} (o i : Nat), HoldsF R w (A ++ (B ++ C)) m c → Own w m c → B.length = vs.length → A.length = o + i → (storeCells ⟨m, o, none⟩ xs i).run P w = .ok () (wputs w m (o + i) xs) := by
  intro vs xs hr
  induction hr with
  | nil => intro w A B C o i _ _ _ _; simp [storeCells, wputs]
  | @cons v x vs xs hv hr ih =>
    intro w A B C o i h ho hl ha
    cases B with
    | nil => simp at hl
    | cons b B =>
      obtain ⟨y, hy, _, hf⟩ := h.cell ho (o := A.length) (v := b) (by simp)
      have h1 := h.set (by obtain ⟨_, _, _, _, h0⟩ := ho; exact h0) (o := A.length) (v := v) (x := x) (by simp) hv
      rw [show (A ++ (b :: B ++ C)).set A.length v = (A ++ [v]) ++ (B ++ C) by simp] at h1
      rw [ha] at hy hf h1
      simp only [storeCells, Addr.add_eq]
      rw [Sem.run_bind, run_store_cell hy hf (V.rel_one hv), Result.andThen_ok, ih o (i + 1) h1 (ho.set _ _) (by simpa using hl) (by simp; omega)]
      simp [wputs, Nat.add_assoc]
section
variable {P : Program} {w : World} {t : TypeId} {d : TyD} {R : Ren} {l : List Seg} {m : Nat} {c : Nat × Nat}
theorem HoldsF.mid {L : List V} (hl : HoldsF R w L m c) {M : List V} {o' sz : Nat} (hm : Mid L M o' sz) : ∃ y, rels R M y ∧ ∀ w' : World, w'.heap[m]? = w.heap[m]? → ∀ j x, y[j]? = some x → w'.cell? ⟨m, c.1 + o' + j, none⟩ = some x := by
  obtain ⟨hM, A, C, hf, hA⟩ := hm
  obtain ⟨cs, ty, fr, pre, xs, rest, hb, hp, hcs, hr, _⟩ := hl
  rw [hf] at hr
  obtain ⟨x1, x2, rfl, r1, r2⟩ := rels_split hr
  obtain ⟨y, z, rfl, r3, r4⟩ := rels_split r2
  refine ⟨y, r3, fun w' hw' j x hj => ?_⟩
  have hx1 : x1.length = o' := by rw [← rels_len r1, hA]
  have hjl := (List.getElem?_eq_some_iff.1 hj).1
  rw [hb] at hw'
  simp only [World.cell?, hw']
  rw [← Array.getElem?_toList, hcs, List.getElem?_append_right (by omega), hp, List.getElem?_append_left (by simp; omega), List.getElem?_append_right (by omega), hx1, List.getElem?_append_left (by omega), show c.1 + o' + j - c.1 - o' = j by omega, hj]
  rfl
theorem run_loadAtA (h : d.is P t) (ha : d.kind.isAgg = true) (hl : Holds R w l m c) {o : Nat} {M : List V} (hm : Mid (flat l) M o d.size) : ∃ cs, rels R M cs ∧ ∀ w' : World, w'.heap[m]? = w.heap[m]? → (Instr.loadAt t (.pointer (some ⟨m, c.1 + o, none⟩))).run P w' = .ok (.agg cs.toArray) w' := by
  obtain ⟨y, r3, hcell⟩ := hl.2.mid hm
  refine ⟨y, r3, fun w' hw' => ?_⟩
  have hy : y.length = d.size := by rw [← rels_len r3, hm.1]
  simp only [Instr.loadAt, Instr.sureAddr, loadVar]
  rw [Sem.run_bind, Sem.run_pure, Result.andThen_ok, Sem.run_bind, run_isAgg h, ha, Result.andThen_ok]
  simp only [if_true]
  rw [Sem.run_bind, run_sizeOf h, Result.andThen_ok, Sem.run_bind]
  unfold loadCells
  rw [run_loadCells d.size 0 #[] y hy (by simpa using hcell w' hw'), Result.andThen_ok]
  simp
theorem run_storeAt (h : d.is P t) {o : Nat} {x : Value} {L' M : List V} (hx : rels R M x.cells.toList) (hsz : M.length = d.size) (hl : Holds R w l m c) (ho : Own w m c) (hs : Spl (flat l) L' M o) :
    (Instr.storeAt t (.pointer (some ⟨m, o, none⟩)) x).run P w = .ok () (wputs w m o x.cells.toList) ∧ HoldsF R (wputs w m o x.cells.toList) L' m c ∧ Own (wputs w m o x.cells.toList) m c := by
  obtain ⟨A, B, C, hf, rfl, rfl, hB⟩ := hs
  obtain ⟨_, hl⟩ := hl
  rw [hf] at hl
  refine ⟨?_, HoldsF.puts hx hl ho hB⟩
  have hcs : x.cells.size = d.size := by rw [← hsz, rels_len hx]; simp
  simp only [Instr.storeAt, Instr.sureAddr, storeVar]
  rw [Sem.run_bind, Sem.run_pure, Result.andThen_ok, Sem.run_bind, run_sizeOf h, Result.andThen_ok]
  rw [if_neg (by simp [hcs])]
  exact run_storeCells hx A.length 0 hl ho hB rfl
end
/-- On a truth. -/
def cb (t : Bool) (a b : Prop) : Prop :=
  match t with
  | true => a
  | false => b
theorem cb_intro {t : Bool} {a b : Prop} (h1 : t = true → a) (h2 : t = false → b) : cb t a b := by
  cases t with
  | true => exact h1 rfl
  | false => exact h2 rfl
theorem cb_true {t : Bool} {a b : Prop} (h : t = true) (k : a) : cb t a b := by subst h; exact k
theorem cb_false {t : Bool} {a b : Prop} (h : t = false) (k : b) : cb t a b := by subst h; exact k
theorem cb_nz {b : Int} {p : Prop} (h : cb (b == 0) False p) : b ≠ 0 ∧ p := by
  unfold cb at h
  split at h
  · exact h.elim
  · rename_i e; exact ⟨by simpa using e, h⟩
/-- Of a number that is not below 0. -/
def nnK (i : Int) (k : Nat → Prop) : Prop :=
  match i with
  | .ofNat n => k n
  | .negSucc _ => False
theorem nnK_elim {i : Int} {k : Nat → Prop} (h : nnK i k) : 0 ≤ i ∧ k i.toNat := by
  cases i with
  | ofNat n => exact ⟨Int.natCast_nonneg n, h⟩
  | negSucc n => exact h.elim
/-- Of a place below n. -/
def ixK (i : Int) (n : Nat) (k : Nat → Prop) : Prop :=
  match i with
  | .ofNat m => match Nat.blt m n with
    | true => k m
    | false => False
  | .negSucc _ => False
theorem ixK_elim {i : Int} {n : Nat} {k : Nat → Prop} (h : ixK i n k) : (0 ≤ i ∧ i < n) ∧ k i.toNat := by
  cases i with
  | ofNat m =>
    simp only [ixK] at h
    split at h
    · rename_i hb
      have hb : m < n := Nat.le_of_ble_eq_true hb
      exact ⟨⟨Int.natCast_nonneg m, Int.ofNat_lt.2 hb⟩, h⟩
    · exact h.elim
  | negSucc n => exact h.elim
theorem blt_of {m n : Nat} (h : m < n) : Nat.blt m n = true := Nat.ble_eq_true_of_le h
/-- Operations on numbers, truths and texts. -/
def abin (op : BinOp) (x y : V) (k : V → Prop) : Prop :=
  match op, x, y with
  | .shl, .int kd a, .int _ b => nnK b fun b => k (.int kd (kd.wrap (a * 2 ^ (min b kd.bits))))
  | .shr, .int kd a, .int _ b => nnK b fun b => k (.int kd (a.fdiv (2 ^ (min b kd.bits))))
  | .add, .int kd a, .int kd' b => keq kd kd' (k (.int kd (kd.wrap (a + b))))
  | .sub, .int kd a, .int kd' b => keq kd kd' (k (.int kd (kd.wrap (a - b))))
  | .mul, .int kd a, .int kd' b => keq kd kd' (k (.int kd (kd.wrap (a * b))))
  | .quo, .int kd a, .int kd' b => keq kd kd' (cb (b == 0) False (k (.int kd (kd.wrap (a.tdiv b)))))
  | .rem, .int kd a, .int kd' b => keq kd kd' (cb (b == 0) False (k (.int kd (a.tmod b))))
  | .and, .int kd a, .int kd' b => keq kd kd' (k (.int kd (bits .and kd a b)))
  | .or, .int kd a, .int kd' b => keq kd kd' (k (.int kd (bits .or kd a b)))
  | .xor, .int kd a, .int kd' b => keq kd kd' (k (.int kd (bits .xor kd a b)))
  | .andNot, .int kd a, .int kd' b => keq kd kd' (k (.int kd (bits .andNot kd a b)))
  | .eql, .int kd a, .int kd' b => keq kd kd' (k (.bool (a == b)))
  | .neq, .int kd a, .int kd' b => keq kd kd' (k (.bool (a != b)))
  | .lss, .int kd a, .int kd' b => keq kd kd' (k (.bool (decide (a < b))))
  | .leq, .int kd a, .int kd' b => keq kd kd' (k (.bool (decide (a ≤ b))))
  | .gtr, .int kd a, .int kd' b => keq kd kd' (k (.bool (decide (a > b))))
  | .geq, .int kd a, .int kd' b => keq kd kd' (k (.bool (decide (a ≥ b))))
  | .add, .str a, .str b => ((a.size + b.size : Nat) : Int) ≤ IntKind.i64.max ∧ k (.str (a ++ b))
  | .eql, .str a, .str b => k (.bool (a.toList == b.toList))
  | .neq, .str a, .str b => k (.bool (!(a.toList == b.toList)))
  | _, _, _ => False
section
variable {P : Program}
theorem run_eqGuard_int {w : World} (op : BinOp) (t : TypeId) (x y : Operand) (k k' : IntKind) (a b : Int) : (eqGuard op t x y (.int k a) (.int k' b)).run P w = .ok () w := by
  unfold eqGuard; cases op <;> simp
theorem run_eqGuard_str {w : World} (op : BinOp) (t : TypeId) (x y : Operand) (a b : ByteArray) : (eqGuard op t x y (.string a) (.string b)).run P w = .ok () w := by
  unfold eqGuard; cases op <;> simp
theorem abin_sound {op : BinOp} {x y : V} {k : V → Prop} (h : abin op x y k) : ∃ v, k v ∧ ∀ (R : Ren) (t : TypeId) (o1 o2 : Operand) (x' y' : Value), x.rel R x' → y.rel R y' →
    ∃ z, v.rel R z ∧ ∀ w, (do eqGuard op t o1 o2 x' y'; binOp op t x' y' : Sem Value).run P w = .ok z w := by
  unfold abin at h
  split at h
  case h_21 => exact h.elim
  all_goals
    first
      | (obtain ⟨rfl, h0⟩ := keq_sound h; obtain ⟨h1, h2⟩ := cb_nz h0; refine ⟨_, h2, fun R t o1 o2 x' y' hx hy => ⟨_, rfl, fun w => ?_⟩⟩; simp only [V.rel] at hx hy; subst hx; subst hy; rw [Sem.run_bind, run_eqGuard_int, Result.andThen_ok]; simp [binOp, Op.intDiv, h1]; done)
      | (obtain ⟨rfl, h2⟩ := keq_sound h; refine ⟨_, h2, fun R t o1 o2 x' y' hx hy => ⟨_, rfl, fun w => ?_⟩⟩; simp only [V.rel] at hx hy; subst hx; subst hy; rw [Sem.run_bind, run_eqGuard_int, Result.andThen_ok]; simp [binOp, Op.intArith, Op.intCmp, Op.intBits, bits]; done)
      | (obtain ⟨h1, h2⟩ := nnK_elim h; refine ⟨_, h2, fun R t o1 o2 x' y' hx hy => ⟨_, rfl, fun w => ?_⟩⟩; simp only [V.rel] at hx hy; subst hx; subst hy; rw [Sem.run_bind, run_eqGuard_int, Result.andThen_ok]; simp only [binOp, Op.shift]; rw [if_neg (by omega)]; rfl)
      | (obtain ⟨h1, h2⟩ := h; refine ⟨_, h2, fun R t o1 o2 x' y' hx hy => ⟨_, rfl, fun w => ?_⟩⟩; simp only [V.rel] at hx hy; subst hx; subst hy; rw [Sem.run_bind, run_eqGuard_str, Result.andThen_ok]; simp only [binOp, Op.stringOp]; rw [if_neg (by omega)]; rfl)
      | (refine ⟨_, h, fun R t o1 o2 x' y' hx hy => ⟨_, rfl, fun w => ?_⟩⟩; simp only [V.rel] at hx hy; subst hx; subst hy; rw [Sem.run_bind, run_eqGuard_str, Result.andThen_ok]; simp [binOp, Op.stringOp]; done)
end

section
variable {P : Program} {T : TT} {nt : Nat} {o : Oper} {s : Sl} {H : Hp} {k : Sl → Hp → Prop}
/-- The parts of a block that may be read. -/
def segs? (d : Bool) (H : Hp) (n : Nat) (k : List Seg → Prop) : Prop :=
  match lk H n with
  | some (.rw l) => match d with
    | true => False
    | false => k l
  | some (.ro l) => k l
  | _ => False
theorem segs_sound {d : Bool} {k : List Seg → Prop} {n : Nat} (h : segs? d H n k) : ∃ b l, H[n]? = some b ∧ b.segs? = some l ∧ k l ∧ (d = true → b = .ro l) := by
  unfold segs? at h
  rw [lk_eq] at h
  split at h
  · rename_i l e
    cases d with
    | true => exact h.elim
    | false => exact ⟨_, l, e, rfl, h, fun h => by cases h⟩
  · rename_i l e; exact ⟨_, l, e, rfl, h, fun _ => rfl⟩
  · exact h.elim
/-- What may only be read is as it was. -/
def Same (R : Ren) (H : Hp) (w w' : World) : Prop := ∀ n l m c, H[n]? = some (.ro l) → R n = some (m, c) → w'.heap[m]? = w.heap[m]?
/-- What an operation that writes nothing comes to; d: whatever turns in blocks that may be written. -/
def RS (P : Program) (d : Bool) (o : Oper) (s : Sl) (H : Hp) (kv : AV → Prop) : Prop :=
  ∀ (R : Ren) (w : World) (a : Act), SR R s a → Rep R H w → ∃ v x, kv v ∧ AV.rel R v x ∧ ∀ w', (w' = w ∨ d = true ∧ Same R H w w') → (execOp a.eval o).run P w' = .ok (.value x) w'
def HOK (H : Hp) : Prop := ∀ (n : Nat) (b : Blk) (l : List Seg), H[n]? = some b → b.segs? = some l → oks l
theorem Rep.hok {R : Ren} {H : Hp} {w : World} (h : Rep R H w) : HOK H := fun n b l hb hs => by
  obtain ⟨m, c, _, hh⟩ := h.holds n b l hb hs
  exact hh.1
theorem AO.of_ok (h : HOK H → AO P nt o s H k) : AO P nt o s H k := ⟨fun R w a h1 h2 h3 h4 => (h h4.hok).run R w a h1 h2 h3 h4⟩
def aload (d : Bool) (T : TT) (t : TypeId) (x : Operand) (s : Sl) (H : Hp) (kv : AV → Prop) : Prop :=
  match ev s x with
  | some (.v (.ptr n b i st)) => match T t with
    | some dt => match dt.kind.isAgg with
      | false => segs? d H n fun l => rd (fun v => kv (.v v)) l b i st
      | true => segs? d H n fun l => rdA dt.size l b i st (fun m => kv (.agg m))
    | none => False
  | _ => False
theorem aload_sound {d : Bool} (hT : TOK P T) {t : TypeId} {x : Operand} (ho : o.op = .load t x) {kv : AV → Prop} (h : aload d T t x s H kv) : RS P d o s H kv := by
  intro R w a h3 h4
  unfold aload at h
  split at h
  · rename_i n b i st e
    obtain ⟨m', c', hR', hx⟩ : V.rel R (.ptr n b i st) (a.eval x) := ev_rel h3 e
    split at h
    · rename_i dt hd
      have hD := hT t dt hd
      split at h
      · rename_i ha
        obtain ⟨bl, l, hb, hs, hk, hro⟩ := segs_sound h
        obtain ⟨m, c, hR, hl⟩ := h4.holds n bl l hb hs
        obtain ⟨v, hv, hk⟩ := rd_sound hk hl.1
        rw [hR] at hR'; injection hR' with hR'; injection hR' with e1 e2; subst e1 e2
        obtain ⟨z, hz, hzr⟩ := hl.cell hv
        refine ⟨_, z, hk, hzr, fun w' hw' => ?_⟩
        have hblk : w'.heap[m]? = w.heap[m]? := by
          rcases hw' with rfl | ⟨hd, hs⟩
          · rfl
          · exact hs n l m c (by rw [hb, hro hd]) hR
        have hc : w'.cell? ⟨m, c.1 + (b + i * st), none⟩ = some z := (World.cell?_of_block (a := ⟨m, c.1 + (b + i * st), none⟩) hblk).trans hz
        simp only [execOp, ho, hx, Instr.loadAt, Instr.sureAddr, loadVar]
        rw [Sem.run_bind, Sem.run_bind, Sem.run_pure, Result.andThen_ok, Sem.run_bind, run_isAgg hD, ha, Result.andThen_ok]
        simp only [Bool.false_eq_true, if_false]
        rw [run_load_cell hc]; rfl
      · rename_i ha
        obtain ⟨bl, l, hb, hs, hk, hro⟩ := segs_sound h
        obtain ⟨m, c, hR, hl⟩ := h4.holds n bl l hb hs
        obtain ⟨M, hk, hM, hm⟩ := rdA_sound hk hl.1
        rw [hR] at hR'; injection hR' with hR'; injection hR' with e1 e2; subst e1 e2
        obtain ⟨cs, hv, hy⟩ := run_loadAtA (P := P) hD ha hl hm
        refine ⟨_, _, hk, ⟨hM, cs, hv, rfl⟩, fun w' hw' => ?_⟩
        have hblk : w'.heap[m]? = w.heap[m]? := by
          rcases hw' with rfl | ⟨hd, hs⟩
          · rfl
          · exact hs n l m c (by rw [hb, hro hd]) hR
        simp only [execOp, ho, hx]
        rw [Sem.run_bind, hy w' hblk, Result.andThen_ok, Sem.run_pure]
    · exact h.elim
  · exact h.elim
def aStore (T : TT) (dst : Option Tmp) (t : TypeId) (x y : Operand) (s : Sl) (H : Hp) (k : Sl → Hp → Prop) : Prop :=
  match dst with
  | some _ => False
  | none => match ev s x with
    | some (.v (.ptr n b i st)) => match lk H n with
      | some (.rw l) => match T t with
        | some d => match ev s y with
          | some (.v v) => match d.size with
            | 1 => wr v l b i st (fun l' => upH H n (.rw l') (fun H' => k s H'))
            | _ => False
          | some (.agg m) => match Nat.beq (lenS m) d.size with
            | true => wrA m d.size l b i st (fun l' => upH H n (.rw l') (fun H' => k s H'))
            | false => False
          | _ => False
        | none => False
      | _ => False
    | _ => False
theorem store_core {t : TypeId} {x y : Operand} (ho : o.op = .store t x y) (hd : o.dst = none) {d : TyD} (hD : d.is P t) {n b i st : Nat} (e : ev s x = some (.v (.ptr n b i st))) {l l' : List Seg} (hn : H[n]? = some (.rw l)) {v : AV} (e2 : ev s y = some v)
    {m : List Seg} (hm : segsOf v = some m) (hsz : (flat m).length = d.size) (hs : oks l → Spl (flat l) (flat l') (flat m) (b + i * st)) (hok : oks l → oks l') (hk : k s (H.set n (.rw l'))) : AO P nt o s H k := by
  refine AO.skipW hd hk fun R w a h3 h4 => ?_
  obtain ⟨mm, c, hR, hl⟩ := h4.holds n _ l hn rfl
  obtain ⟨m', c', hR', hx⟩ : V.rel R (.ptr n b i st) (a.eval x) := ev_rel h3 e
  rw [hR] at hR'; injection hR' with hR'; injection hR' with e1 e2'; subst e1 e2'
  obtain ⟨_, hr⟩ := segsOf_rel hm (ev_rel h3 e2)
  have how := h4.own n l mm c hn hR
  obtain ⟨g1, g2, g3⟩ := run_storeAt (P := P) hD hr hsz hl how (hs hl.1)
  have h0 : c.1 = 0 := by obtain ⟨_, _, _, _, h0⟩ := how; exact h0
  rw [h0, Nat.zero_add] at hx
  obtain ⟨q1, q2, q3, q4, q5⟩ := puts_same mm (a.eval y).cells.toList (b + i * st) w
  refine ⟨_, R, ?_, Rep.upd h4 hn hR ⟨hok hl.1, g2⟩ g3 q5, Go.upd hn hR q1 q2 q3 q4 q5⟩
  simp only [execOp, ho, hx, Sem.run_bind, g1, Result.andThen_ok, Sem.run_pure]
end

section
variable {P : Program} {T : TT} {nt : Nat} {o : Oper} {s : Sl} {H : Hp} {k : Sl → Hp → Prop}
theorem spl_set {L L' : List V} {v : V} {o : Nat} (h : L' = L.set o v) (ho : o < L.length) : Spl L L' [v] o := by
  refine ⟨L.take o, [L[o]], L.drop (o + 1), ?_, ?_, by simp; omega, rfl⟩
  · rw [List.singleton_append, ← List.drop_eq_getElem_cons ho, List.take_append_drop]
  · rw [h, List.set_eq_take_append_cons_drop, if_pos ho]; rfl
theorem aStore_sound (hT : TOK P T) {t : TypeId} {x y : Operand} (ho : o.op = .store t x y) (h : aStore T o.dst t x y s H k) : AO P nt o s H k := by
  unfold aStore at h
  split at h
  · exact h.elim
  · rename_i hdst
    split at h
    · rename_i n b i st e
      split at h
      · rename_i l hl
        rw [lk_eq] at hl
        split at h
        · rename_i d hd
          split at h
          · rename_i v e2
            split at h
            · rename_i hsz
              by_cases hok : oks l
              · obtain ⟨l', o1, hk, hf, hlt⟩ := wr_sound h hok
                exact store_core ho hdst (hT t d hd) e hl e2 rfl (by rw [hsz]; rfl) (fun _ => spl_set hf hlt) (fun _ => o1) (upH_sound hk)
              · exact ⟨fun R w a h1 h2 h3 h4 => by obtain ⟨m, c, _, hh⟩ := h4.holds n _ l hl rfl; exact absurd hh.1 hok⟩
            · exact h.elim
          · rename_i m e2
            split at h
            · rename_i hsz
              have hsz := Nat.eq_of_beq_eq_true hsz
              refine ⟨fun R w a h1 h2 h3 h4 => ?_⟩
              obtain ⟨hm, _⟩ : AV.rel R (.agg m) (a.eval y) := ev_rel h3 e2
              obtain ⟨_, _, _, hh⟩ := h4.holds n _ l hl rfl
              have hsz' : (flat m).length = d.size := (lenS_eq hm).trans hsz
              obtain ⟨l', hk, o1, hs⟩ := wrA_sound hm hsz' h hh.1
              exact (store_core (nt := nt) ho hdst (hT t d hd) e hl e2 rfl hsz' (fun _ => hs) (fun _ => o1) (upH_sound hk)).run R w a h1 h2 h3 h4
            · exact h.elim
          · exact h.elim
        · exact h.elim
      · exact h.elim
    · exact h.elim
def aNew (nt : Nat) (dst : Option Tmp) (l : List Seg) (s : Sl) (H : Hp) (k : Sl → Hp → Prop) : Prop :=
  push H 0 (.rw l) fun n H' => kput dst nt (.v (.ptr n 0 0 0)) s H' k
theorem new_core {l : List Seg} {e : TypeId} (hk : aNew nt o.dst l s H k) (h : ∀ (R : Ren) (w : World) (a : Act), SR R s a → Rep R H w → ∃ cs : Array Value, (execOp a.eval o).run P w = .ok (.value (.pointer (some ⟨w.heap.size, 0, none⟩))) (w.alloc (.cells cs e)) ∧ oks l ∧ rels R (flat l) cs.toList) : AO P nt o s H k := by
  have hk := push_sound hk
  refine AO.valueW hk fun R w a h3 h4 => ?_
  obtain ⟨cs, hx, hl, hr⟩ := h R w a h3 h4
  obtain ⟨g1, g2⟩ := Rep.new (ty := e) h4 hl hr
  exact ⟨_, _, _, hx, ⟨w.heap.size, (0, cs.size), by simp [Ren.add], by simp⟩, g1, g2⟩
def aAlloc (T : TT) (nt : Nat) (dst : Option Tmp) (t : TypeId) (s : Sl) (H : Hp) (k : Sl → Hp → Prop) : Prop :=
  match T t with
  | some d => aNew nt dst d.zero s H k
  | none => False
theorem none_rels {R : Ren} {l : List V} {xs : List Value} (h : rels (fun _ => none) l xs) : rels R l xs := rels_mono (fun n x e => by cases e) h
theorem run_zero {d : TyD} {t : TypeId} {w : World} (h : d.is P t) : ∃ z, (zeroValue t).run P w = .ok z w ∧ rels (fun _ => none) (flat d.zero) z.cells.toList := by
  obtain ⟨i, hi, _, _, z, hz, hr⟩ := h.info
  exact ⟨z, by simp [zeroValue, typeInfo, hi, hz], hr⟩
theorem aAlloc_sound (hT : TOK P T) {t : TypeId} (ho : o.op = .alloc t) (h : aAlloc T nt o.dst t s H k) : AO P nt o s H k := by
  unfold aAlloc at h
  split at h
  · rename_i d hd
    refine new_core (e := t) h fun R w a h3 h4 => ?_
    obtain ⟨z, hz, hr⟩ := run_zero (w := w) (hT t d hd)
    refine ⟨z.cells, ?_, (hT t d hd).ok, none_rels hr⟩
    simp only [execOp, ho, Instr.alloc, newVar, newRow, Sem.run_bind, hz, Result.andThen_ok, run_newObj, Sem.run_pure]
    rfl
  · exact h.elim
def aBox (nt : Nat) (dst : Option Tmp) (x : Operand) (s : Sl) (H : Hp) (k : Sl → Hp → Prop) : Prop :=
  match ev s x with
  | some (.v v) => aNew nt dst [.one v] s H k
  | some (.agg l) => aNew nt dst l s H k
  | _ => False
theorem aBox_sound {t : TypeId} {x : Operand} (ho : o.op = .box t x) (h : aBox nt o.dst x s H k) : AO P nt o s H k := by
  have key : ∀ {v : AV} {l : List Seg}, ev s x = some v → segsOf v = some l → aNew nt o.dst l s H k → AO P nt o s H k := by
    intro v l e hs hk
    refine new_core (e := t) hk fun R w a h3 h4 => ?_
    obtain ⟨ok, hr⟩ := segsOf_rel hs (ev_rel h3 e)
    refine ⟨(a.eval x).cells, ?_, ok, hr⟩
    simp only [execOp, ho, Instr.box, newVar, newRow, Sem.run_bind, Result.andThen_ok, run_newObj, Sem.run_pure]
    rfl
  unfold aBox at h
  split at h
  · rename_i v e; exact key e rfl h
  · rename_i l e; exact key e rfl h
  · exact h.elim
def nth : List (Nat × TypeId) → Nat → Option (Nat × TypeId)
  | [], _ => none
  | x :: _, 0 => some x
  | _ :: r, n + 1 => nth r n
theorem nth_eq : ∀ (l : List (Nat × TypeId)) (n : Nat), nth l n = l[n]?
  | [], n => by simp [nth]
  | b :: r, 0 => by simp [nth]
  | b :: r, n + 1 => by simp [nth, nth_eq r n]
end
section
variable {P : Program} {T : TT} {o : Oper} {s : Sl}
theorem agg_rel {R : Ren} {l : List Seg} {x : Value} (h : AV.rel R (.agg l) x) : oks l ∧ ∃ cs, rels R (flat l) cs ∧ x = .agg cs.toArray := h
def aMove (x : Operand) (s : Sl) (kv : AV → Prop) : Prop :=
  match ev s x with
  | some v => kv v
  | none => False
theorem aMove_sound {x : Operand} (ho : o.op = .move x ∨ o.op = .assign x) {kv : AV → Prop} (h : aMove x s kv) : ∃ v, kv v ∧ AP P o s v := by
  unfold aMove at h
  split at h
  · rename_i v e
    refine ⟨v, h, ⟨fun R a h3 => ⟨a.eval x, ev_rel h3 e, fun w => ?_⟩⟩⟩
    rcases ho with ho | ho <;> simp [execOp, ho]
  · exact h.elim
def aPick (c x y : Operand) (s : Sl) (kv : AV → Prop) : Prop :=
  match ev s c with
  | some (.v (.bool b)) => cb b (match ev s x with
      | some v => kv v
      | none => False) (match ev s y with
      | some v => kv v
      | none => False)
  | _ => False
theorem aPick_sound {c x y : Operand} (ho : o.op = .pick c x y) {kv : AV → Prop} (h : aPick c x y s kv) : ∃ v, kv v ∧ AP P o s v := by
  unfold aPick at h
  split at h
  · rename_i b e
    unfold cb at h
    split at h
    · split at h
      · rename_i v e2
        refine ⟨v, h, ⟨fun R a h3 => ⟨a.eval x, ev_rel h3 e2, fun w => ?_⟩⟩⟩
        have hc : a.eval c = .bool true := ev_rel h3 e
        simp [execOp, ho, hc, asBool]
      · exact h.elim
    · split at h
      · rename_i v e2
        refine ⟨v, h, ⟨fun R a h3 => ⟨a.eval y, ev_rel h3 e2, fun w => ?_⟩⟩⟩
        have hc : a.eval c = .bool false := ev_rel h3 e
        simp [execOp, ho, hc, asBool]
      · exact h.elim
  · exact h.elim
/-- Comparing structs, as far as it is asked for. -/
abbrev EE := TypeId → List Seg → List Seg → Option Bool
def EOK (P : Program) (E : EE) : Prop := ∀ t l m r, E t l m = some r → ∀ (R : Ren) (x y : Value) (w : World), AV.rel R (.agg l) x → AV.rel R (.agg m) y → (binOp .eql t x y).run P w = .ok (.bool r) w ∧ (binOp .neq t x y).run P w = .ok (.bool (!r)) w ∧ ∀ (op : BinOp) (o1 o2 : Operand), (eqGuard op t o1 o2 x y).run P w = .ok () w
/-- Is it nil? -/
def nilq : V → V → Option Bool
  | .ptr _ _ _ _, .nilP => some false
  | .nilP, .ptr _ _ _ _ => some false
  | .nilP, .nilP => some true
  | .nilS, .nilS => some true
  | .sl _ _ _ _ _, .nilS => some false
  | .if1 _ _, .nilI => some false
  | .if2 _ _ _, .nilI => some false
  | .bool a, .bool b => some (a == b)
  | _, _ => none
def nilT : TK → V → Bool
  | .ptr _, .ptr _ _ _ _ => true
  | .ptr _, .nilP => true
  | .slice _, .nilS => true
  | .slice _, .sl _ _ _ _ _ => true
  | .iface, .if1 _ _ => true
  | .iface, .if2 _ _ _ => true
  | .bool, .bool _ => true
  | _, _ => false
def aBin (T : TT) (E : EE) (op : BinOp) (t : TypeId) (x y : Operand) (s : Sl) (kv : AV → Prop) : Prop :=
  match ev s x, ev s y with
  | some (.agg l), some (.agg m) => match E t l m with
    | some r => match op with
      | .eql => kv (.v (.bool r))
      | .neq => kv (.v (.bool (!r)))
      | _ => False
    | none => False
  | some (.v a), some (.v b) => match nilq a b with
    | some r => match T t with
      | some d => match op with
        | .eql => cb (nilT d.kind a) (kv (.v (.bool r))) False
        | .neq => cb (nilT d.kind a) (kv (.v (.bool (!r)))) False
        | _ => False
      | none => False
    | none => abin op a b (fun v => kv (.v v))
  | _, _ => False
theorem cb_sure {t : Bool} {p : Prop} (h : cb t p False) : p ∧ t = true := by
  cases t with
  | true => exact ⟨h, rfl⟩
  | false => exact h.elim
theorem run_eqn {P : Program} {w : World} {t : TypeId} {x y : Value} {r : Bool} (h : (Op.equal t x y).run P w = .ok r w) (h1 : ∀ k n, x ≠ .int k n) (h2 : ∀ k n, x ≠ .float k n) (h3 : ∀ k n m, x ≠ .complex k n m) (h4 : ∀ s, x ≠ .string s) : (binOp .eql t x y).run P w = .ok (.bool r) w ∧ (binOp .neq t x y).run P w = .ok (.bool (!r)) w := by
  cases x <;> simp_all [binOp]
theorem aBin_sound {E : EE} (hT : TOK P T) (hE : EOK P E) {op : BinOp} {t u : TypeId} {x y : Operand} (ho : o.op = .binOp op t x y u) {kv : AV → Prop} (h : aBin T E op t x y s kv) : ∃ v, kv v ∧ AP P o s v := by
  unfold aBin at h
  split at h
  · rename_i l m e1 e2
    split at h
    · rename_i r hr
      split at h
      · refine ⟨_, h, ⟨fun R a h3 => ⟨_, rfl, fun w => ?_⟩⟩⟩
        obtain ⟨g1, g2, g3⟩ := hE t l m r hr R _ _ w (ev_rel h3 e1) (ev_rel h3 e2)
        simp only [execOp, ho, Sem.run_bind, g3, Result.andThen_ok, g1, Sem.run_pure]
      · refine ⟨_, h, ⟨fun R a h3 => ⟨_, rfl, fun w => ?_⟩⟩⟩
        obtain ⟨g1, g2, g3⟩ := hE t l m r hr R _ _ w (ev_rel h3 e1) (ev_rel h3 e2)
        simp only [execOp, ho, Sem.run_bind, g3, Result.andThen_ok, g2, Sem.run_pure]
      · exact h.elim
    · exact h.elim
  · rename_i a b e1 e2
    split at h
    · rename_i r hr
      split at h
      · rename_i d hd
        have hk := (hT t d hd).kind
        have key : nilT d.kind a = true → ∀ (R : Ren) (c : Act), SR R s c → ∀ w, (eqGuard op t x y (c.eval x) (c.eval y)).run P w = .ok () w ∧ (Op.equal t (c.eval x) (c.eval y)).run P w = .ok r w ∧ (∀ k n, c.eval x ≠ .int k n) ∧ (∀ k n, c.eval x ≠ .float k n) ∧ (∀ k n m, c.eval x ≠ .complex k n m) ∧ (∀ s, c.eval x ≠ .string s) := by
          intro hn R c h3 w
          have hx : a.rel R (c.eval x) := ev_rel h3 e1
          have hy : b.rel R (c.eval y) := ev_rel h3 e2
          generalize c.eval x = vx at hx
          generalize c.eval y = vy at hy
          generalize d.kind = K at hk hn
          unfold nilq at hr
          split at hr <;> first | cases hr | skip
          all_goals
            cases K <;> simp only [nilT, Bool.false_eq_true] at hn <;> simp only [TK.is] at hk
          all_goals try (obtain ⟨ms, hk⟩ := hk)
          all_goals
            simp only [V.rel] at hx hy
            first
              | (obtain ⟨m, c, _, rfl⟩ := hx; subst hy; refine ⟨by unfold eqGuard; cases op <;> simp, by unfold Op.equal Op.maxDepth; rw [show 10000 = 9999 + 1 from rfl]; unfold Op.equalIn; rw [Sem.run_bind, run_underlying hk, Result.andThen_ok]; rfl, by simp, by simp, by simp, by simp⟩)
              | (obtain ⟨m, c, _, rfl⟩ := hy; subst hx; refine ⟨by unfold eqGuard; cases op <;> simp, by unfold Op.equal Op.maxDepth; rw [show 10000 = 9999 + 1 from rfl]; unfold Op.equalIn; rw [Sem.run_bind, run_underlying hk, Result.andThen_ok]; rfl, by simp, by simp, by simp, by simp⟩)
              | (obtain ⟨m, c, _, hx⟩ := hx; subst hy; rcases hx with ⟨_, rfl, _⟩ | ⟨_, _, rfl⟩ <;> refine ⟨by unfold eqGuard; cases op <;> simp, by unfold Op.equal Op.maxDepth; rw [show 10000 = 9999 + 1 from rfl]; unfold Op.equalIn; rw [Sem.run_bind, run_underlying hk, Result.andThen_ok]; rfl, by simp, by simp, by simp, by simp⟩)
              | (obtain ⟨y', _, rfl⟩ := hx; subst hy; refine ⟨by unfold eqGuard; cases op <;> simp, by unfold Op.equal Op.maxDepth; rw [show 10000 = 9999 + 1 from rfl]; unfold Op.equalIn; rw [Sem.run_bind, run_underlying hk, Result.andThen_ok]; rfl, by simp, by simp, by simp, by simp⟩)
              | (obtain ⟨y', z', _, _, rfl⟩ := hx; subst hy; refine ⟨by unfold eqGuard; cases op <;> simp, by unfold Op.equal Op.maxDepth; rw [show 10000 = 9999 + 1 from rfl]; unfold Op.equalIn; rw [Sem.run_bind, run_underlying hk, Result.andThen_ok]; rfl, by simp, by simp, by simp, by simp⟩)
              | (subst hx; subst hy; refine ⟨by unfold eqGuard; cases op <;> simp, by unfold Op.equal Op.maxDepth; rw [show 10000 = 9999 + 1 from rfl]; unfold Op.equalIn; rw [Sem.run_bind, run_underlying hk, Result.andThen_ok]; rfl, by simp, by simp, by simp, by simp⟩)
        split at h
        · obtain ⟨h1, h2⟩ := cb_sure h
          refine ⟨_, h1, ⟨fun R c h3 => ⟨_, rfl, fun w => ?_⟩⟩⟩
          obtain ⟨g1, g2, g3, g4, g5, g6⟩ := key h2 R c h3 w
          simp only [execOp, ho, Sem.run_bind, g1, Result.andThen_ok, (run_eqn g2 g3 g4 g5 g6).1, Sem.run_pure]
        · obtain ⟨h1, h2⟩ := cb_sure h
          refine ⟨_, h1, ⟨fun R c h3 => ⟨_, rfl, fun w => ?_⟩⟩⟩
          obtain ⟨g1, g2, g3, g4, g5, g6⟩ := key h2 R c h3 w
          simp only [execOp, ho, Sem.run_bind, g1, Result.andThen_ok, (run_eqn g2 g3 g4 g5 g6).2, Sem.run_pure]
        · exact h.elim
      · exact h.elim
    · obtain ⟨v, hk, hv⟩ := abin_sound (P := P) h
      refine ⟨_, hk, ⟨fun R c h3 => ?_⟩⟩
      obtain ⟨z, hz, hr⟩ := hv R t x y _ _ (ev_rel h3 e1) (ev_rel h3 e2)
      refine ⟨z, hz, fun w => ?_⟩
      simp only [execOp, ho]
      rw [Sem.run_bind, hr, Result.andThen_ok, Sem.run_pure]
  · exact h.elim
/-- The same; an interface that is nil, against nil. -/
def aBinN (T : TT) (E : EE) (op : BinOp) (t : TypeId) (x y : Operand) (s : Sl) (kv : AV → Prop) : Prop :=
  match ev s x, y with
  | some (.v .nilI), .const .nilIface => match T t with
    | some d => match d.kind with
      | .iface => match op with
        | .eql => kv (.v (.bool true))
        | .neq => kv (.v (.bool false))
        | _ => False
      | _ => False
    | none => False
  | _, _ => aBin T E op t x y s kv
theorem aBinN_sound {E : EE} (hT : TOK P T) (hE : EOK P E) {op : BinOp} {t u : TypeId} {x y : Operand} (ho : o.op = .binOp op t x y u) {kv : AV → Prop} (h : aBinN T E op t x y s kv) : ∃ v, kv v ∧ AP P o s v := by
  unfold aBinN at h
  split at h
  · rename_i e1
    split at h
    · rename_i d hd
      have hk := (hT t d hd).kind
      split at h
      · rename_i hK
        rw [hK] at hk
        obtain ⟨ms, hk⟩ := hk
        have key : ∀ (R : Ren) (c : Act), SR R s c → ∀ w, c.eval x = .nilIface ∧ (Op.equal t .nilIface .nilIface).run P w = .ok true w := by
          intro R c h3 w
          have hx : V.nilI.rel R (c.eval x) := ev_rel h3 e1
          refine ⟨hx, ?_⟩
          unfold Op.equal Op.maxDepth
          rw [show 10000 = 9999 + 1 from rfl]
          unfold Op.equalIn
          rw [Sem.run_bind, run_underlying hk, Result.andThen_ok]
          rfl
        split at h
        · refine ⟨_, h, ⟨fun R c h3 => ⟨_, rfl, fun w => ?_⟩⟩⟩
          obtain ⟨g1, g2⟩ := key R c h3 w
          have g0 : (eqGuard .eql t x (.const .nilIface) .nilIface .nilIface).run P w = .ok () w := by unfold eqGuard; simp
          simp only [execOp, ho, Sem.run_bind, g1, (show c.eval (.const .nilIface) = .nilIface from rfl), g0, Result.andThen_ok, (run_eqn g2 (by simp) (by simp) (by simp) (by simp)).1, Sem.run_pure]
        · refine ⟨_, h, ⟨fun R c h3 => ⟨_, rfl, fun w => ?_⟩⟩⟩
          obtain ⟨g1, g2⟩ := key R c h3 w
          have g0 : (eqGuard .neq t x (.const .nilIface) .nilIface .nilIface).run P w = .ok () w := by unfold eqGuard; simp
          simp only [execOp, ho, Sem.run_bind, g1, (show c.eval (.const .nilIface) = .nilIface from rfl), g0, Result.andThen_ok, (run_eqn g2 (by simp) (by simp) (by simp) (by simp)).2, Sem.run_pure]
          rfl
        · exact h.elim
      · exact h.elim
    · exact h.elim
  · exact aBin_sound hT hE ho h
end
section
variable {P : Program} {T : TT} {o : Oper} {s : Sl}
def aUn (op : UnOp) (x : Operand) (s : Sl) (kv : AV → Prop) : Prop :=
  match ev s x with
  | some (.v (.bool b)) => match op with
    | .not => kv (.v (.bool (!b)))
    | _ => False
  | some (.v (.int k n)) => match op with
    | .neg => kv (.v (.int k (k.wrap (0 - n))))
    | .xor => kv (.v (.int k (bits .xor k (if k.signed then -1 else k.max) n)))
    | _ => False
  | _ => False
theorem aUn_sound {op : UnOp} {t : TypeId} {x : Operand} (ho : o.op = .unOp op t x) {kv : AV → Prop} (h : aUn op x s kv) : ∃ v, kv v ∧ AP P o s v := by
  unfold aUn at h
  split at h
  · rename_i b e
    split at h
    · refine ⟨_, h, ⟨fun R a h3 => ⟨_, rfl, fun w => ?_⟩⟩⟩
      have hx : a.eval x = .bool b := ev_rel h3 e
      simp [execOp, ho, hx, Op.unary]
    · exact h.elim
  · rename_i k n e
    split at h
    · refine ⟨_, h, ⟨fun R a h3 => ⟨_, rfl, fun w => ?_⟩⟩⟩
      have hx : a.eval x = .int k n := ev_rel h3 e
      simp only [execOp, ho, hx, Op.unary, Op.intArith, Sem.run_bind, Sem.run_pure, Result.andThen_ok]
    · refine ⟨_, h, ⟨fun R a h3 => ⟨_, rfl, fun w => ?_⟩⟩⟩
      have hx : a.eval x = .int k n := ev_rel h3 e
      simp only [execOp, ho, hx, Op.unary, intBits_xor, Sem.run_bind, Sem.run_pure, Result.andThen_ok]
    · exact h.elim
  · exact h.elim
def aConv (T : TT) (src dst : TypeId) (x : Operand) (s : Sl) (kv : AV → Prop) : Prop :=
  match ev s x, T src, T dst with
  | some (.v (.int _ n)), some _, some d => match d.kind with
    | .int kd => kv (.v (.int kd (kd.wrap n)))
    | .string => kv (.v (.str (Utf8.encode n)))
    | _ => False
  | some (.v (.str b)), some _, some d => match d.kind with
    | .string => kv (.v (.str b))
    | _ => False
  | _, _, _ => False
theorem TyD.is.some {d : TyD} {t : TypeId} (h : d.is P t) : ∃ u, P.underlying t = some u := by
  have hk := h.kind
  cases e : d.kind <;> rw [e] at hk <;> simp only [TK.is] at hk
  case struct l => obtain ⟨fs, hk, _⟩ := hk; exact ⟨_, hk⟩
  case iface => obtain ⟨ms, hk⟩ := hk; exact ⟨_, hk⟩
  case func => obtain ⟨a, b, c, hk⟩ := hk; exact ⟨_, hk⟩
  all_goals exact ⟨_, hk⟩
theorem aConv_sound (hT : TOK P T) {src dst : TypeId} {x : Operand} (ho : o.op = .convert src dst x) {kv : AV → Prop} (h : aConv T src dst x s kv) : ∃ v, kv v ∧ AP P o s v := by
  unfold aConv at h
  split at h
  · rename_i k n ds d e h1 h2
    obtain ⟨u, hu⟩ := (hT src _ h1).some
    have hk := (hT dst _ h2).kind
    split at h
    · rename_i kd hd
      rw [hd] at hk; simp only [TK.is] at hk
      refine ⟨_, h, ⟨fun R a h3 => ⟨_, rfl, fun w => ?_⟩⟩⟩
      have hx : a.eval x = .int k n := ev_rel h3 e
      simp only [execOp, ho, hx, convert, Sem.run_bind, run_underlying hu, run_underlying hk, Result.andThen_ok]
      cases u <;> simp [Conv.intToInt]
    · rename_i hd
      rw [hd] at hk; simp only [TK.is] at hk
      refine ⟨_, h, ⟨fun R a h3 => ⟨_, rfl, fun w => ?_⟩⟩⟩
      have hx : a.eval x = .int k n := ev_rel h3 e
      simp only [execOp, ho, hx, convert, Sem.run_bind, run_underlying hu, run_underlying hk, Result.andThen_ok]
      cases u <;> simp [Conv.intToString]
    · exact h.elim
  · rename_i b ds d e h1 h2
    obtain ⟨u, hu⟩ := (hT src _ h1).some
    have hk := (hT dst _ h2).kind
    split at h
    · rename_i hd
      rw [hd] at hk; simp only [TK.is] at hk
      refine ⟨_, h, ⟨fun R a h3 => ⟨_, rfl, fun w => ?_⟩⟩⟩
      have hx : a.eval x = .string b := ev_rel h3 e
      simp only [execOp, ho, hx, convert, Sem.run_bind, run_underlying hu, run_underlying hk, Result.andThen_ok]
      cases u <;> simp
    · exact h.elim
  · exact h.elim
theorem struct_field {d : TyD} {t : TypeId} (hD : d.is P t) {l : List (Nat × TypeId)} (hk : d.kind = .struct l) {f off : Nat} {u : TypeId} (hn : nth l f = some (off, u)) : ∃ fs fd, P.underlying t = some (.struct fs) ∧ fs[f]? = some fd ∧ fd.offset = off ∧ fd.type = u := by
  have := hD.kind
  rw [hk] at this
  obtain ⟨fs, h1, h2⟩ := this
  rw [nth_eq, ← h2, List.getElem?_map] at hn
  cases e : fs.toList[f]? with
  | none => rw [e] at hn; cases hn
  | some fd =>
    rw [e] at hn
    injection hn with hn; injection hn with e1 e2
    exact ⟨fs, fd, h1, by rw [← Array.getElem?_toList]; exact e, e1, e2⟩
/-- A struct's field: where it lies, its type. -/
def fieldOf (T : TT) (t : TypeId) (f : Nat) (k : Nat → TypeId → TyD → Prop) : Prop :=
  match T t with
  | some d => match d.kind with
    | .struct l => match nth l f with
      | some (off, u) => match T u with
        | some du => k off u du
        | none => False
      | none => False
    | _ => False
  | none => False
theorem fieldOf_sound (hT : TOK P T) {t : TypeId} {f : Nat} {k : Nat → TypeId → TyD → Prop} (h : fieldOf T t f k) : ∃ off u du fs fd, k off u du ∧ du.is P u ∧ P.underlying t = some (.struct fs) ∧ fs[f]? = some fd ∧ fd.offset = off ∧ fd.type = u := by
  unfold fieldOf at h
  split at h
  · rename_i d hd
    split at h
    · rename_i l hl
      split at h
      · rename_i off u hn
        split at h
        · rename_i du hdu
          obtain ⟨fs, fd, g1, g2, g3, g4⟩ := struct_field (hT t d hd) hl hn
          exact ⟨off, u, du, fs, fd, h, hT u du hdu, g1, g2, g3, g4⟩
        · exact h.elim
      · exact h.elim
    · exact h.elim
  · exact h.elim
def aFieldAddr (T : TT) (t : TypeId) (x : Operand) (f : Nat) (s : Sl) (kv : AV → Prop) : Prop :=
  fieldOf T t f fun off _ du => match du.size with
    | 0 => False
    | _ + 1 => match ev s x with
      | some (.v (.ptr n b i st)) => kv (.v (.ptr n (b + off) i st))
      | _ => False
theorem aFieldAddr_sound (hT : TOK P T) {t : TypeId} {x : Operand} {f : Nat} (ho : o.op = .fieldAddr t x f) {kv : AV → Prop} (h : aFieldAddr T t x f s kv) : ∃ v, kv v ∧ AP P o s v := by
  obtain ⟨off, u, du, fs, fd, h, hu, g1, g2, g3, g4⟩ := fieldOf_sound hT h
  split at h
  · exact h.elim
  · rename_i sz hsz
    split at h
    · rename_i n b i st e
      refine ⟨_, h, ⟨fun R a h3 => ?_⟩⟩
      obtain ⟨m, c, hR, hx⟩ : V.rel R (.ptr n b i st) (a.eval x) := ev_rel h3 e
      refine ⟨.pointer (some ⟨m, c.1 + (b + off + i * st), none⟩), ⟨m, c, hR, rfl⟩, fun w => ?_⟩
      simp only [execOp, ho, Instr.fieldAt, hx, Sem.run_bind, run_underlying g1, Result.andThen_ok, g2, Instr.sureAddr, Sem.run_pure, fieldPlace, g4, run_sizeOf hu, hsz, g3]
      rw [if_neg (by omega)]
      simp only [Sem.run_pure, Result.andThen_ok, Addr.add_eq]
      rw [show c.1 + (b + i * st) + off = c.1 + (b + off + i * st) by omega]
    · exact h.elim
theorem run_part1 {w : World} {u : TypeId} {du : TyD} (hu : du.is P u) (ha : du.kind.isAgg = false) {cs : Array Value} {off : Nat} {x : Value} (hx : cs[off]? = some x) : (part u cs off).run P w = .ok x w := by
  unfold part
  rw [Sem.run_bind, run_isAgg hu, ha, Result.andThen_ok]
  simp [hx]
theorem run_partA {R : Ren} {u : TypeId} {du : TyD} (hu : du.is P u) (ha : du.kind.isAgg = true) {L M : List V} {cs : List Value} {off : Nat} (hr : rels R L cs) (hm : Mid L M off du.size) : ∃ ys, rels R M ys ∧ ∀ w, (part u cs.toArray off).run P w = .ok (.agg ys.toArray) w := by
  obtain ⟨hM, A, C, hf, hA⟩ := hm
  rw [hf] at hr
  obtain ⟨x1, x2, rfl, r1, r2⟩ := rels_split hr
  obtain ⟨y, z, rfl, r3, r4⟩ := rels_split r2
  have hx1 : x1.length = off := by rw [← rels_len r1, hA]
  have hy : y.length = du.size := by rw [← rels_len r3, hM]
  refine ⟨y, r3, fun w => ?_⟩
  unfold part
  rw [Sem.run_bind, run_isAgg hu, ha, Result.andThen_ok]
  simp only [if_true]
  rw [Sem.run_bind, run_sizeOf hu, Result.andThen_ok, Sem.run_pure]
  congr 2
  rw [← hy, ← hx1]
  simp [List.extract_eq_take_drop]
theorem rels_arr {R : Ren} {L : List V} {cs : List Value} (h : rels R L cs) {o : Nat} {v : V} (hv : L[o]? = some v) : ∃ x, cs.toArray[o]? = some x ∧ v.rel R x := by
  obtain ⟨x, hx, hr⟩ := rels_get h hv
  exact ⟨x, by simpa using hx, hr⟩
def aField (T : TT) (t : TypeId) (x : Operand) (f : Nat) (s : Sl) (kv : AV → Prop) : Prop :=
  fieldOf T t f fun off _ du => match ev s x with
    | some (.agg m) => match du.kind.isAgg with
      | false => rd (fun v => kv (.v v)) m off 0 0
      | true => rdA du.size m off 0 0 (fun c => kv (.agg c))
    | _ => False
def SOK (s : Sl) : Prop := ∀ (x : Operand) (m : List Seg), ev s x = some (.agg m) → oks m
theorem SR.ok {R : Ren} {a : Act} (h : SR R s a) : SOK s := fun x m e => (agg_rel (ev_rel h e)).1
theorem aField_sound (hT : TOK P T) {t : TypeId} {x : Operand} {f : Nat} (ho : o.op = .field t x f) {kv : AV → Prop} (h : aField T t x f s kv) (hok : SOK s) : ∃ v, kv v ∧ AP P o s v := by
  obtain ⟨off, u, du, fs, fd, h, hu, g1, g2, g3, g4⟩ := fieldOf_sound hT h
  split at h
  · rename_i m e
    split at h
    · rename_i ha
      obtain ⟨v, hv, hk⟩ := rd_sound h (hok x m e)
      refine ⟨_, hk, ⟨fun R a h3 => ?_⟩⟩
      obtain ⟨_, cs, hr, hx⟩ := agg_rel (ev_rel h3 e)
      obtain ⟨y, hy, hv⟩ := rels_arr hr (by simpa using hv)
      refine ⟨y, hv, fun w => ?_⟩
      simp only [execOp, ho, Instr.field, hx, Sem.run_bind, run_underlying g1, Result.andThen_ok, g2, asAgg, Sem.run_pure, g3, g4]
      rw [run_part1 hu ha hy, Result.andThen_ok]
    · rename_i ha
      obtain ⟨M, hk, hM, hm⟩ := rdA_sound h (hok x m e)
      refine ⟨_, hk, ⟨fun R a h3 => ?_⟩⟩
      obtain ⟨_, cs, hr, hx⟩ := agg_rel (ev_rel h3 e)
      obtain ⟨ys, hy, hv⟩ := run_partA (P := P) hu ha hr (by simpa using hm)
      refine ⟨_, ⟨hM, ys, hy, rfl⟩, fun w => ?_⟩
      simp only [execOp, ho, Instr.field, hx, Sem.run_bind, run_underlying g1, Result.andThen_ok, g2, asAgg, Sem.run_pure, g3, g4]
      rw [hv, Result.andThen_ok]
  · exact h.elim
end
section
variable {P : Program} {T : TT} {o : Oper} {s : Sl}
theorem run_asIntOf {w : World} {k : IntKind} {n : Int} : (asIntOf (.int k n)).run P w = .ok (k, n) w := rfl
def aIndex (T : TT) (t : TypeId) (x ix : Operand) (s : Sl) (kv : AV → Prop) : Prop :=
  match ev s ix with
  | some (.v (.int _ i)) => match ev s x with
    | some (.agg m) => match T t with
      | some d => match d.kind with
        | .array n e => match T e with
          | some de => ixK i n fun i => match de.kind.isAgg with
            | false => match Nat.beq de.size 1 with
              | true => rd (fun v => kv (.v v)) m 0 i 1
              | false => False
            | true => rdA de.size m 0 i de.size (fun c => kv (.agg c))
          | none => False
        | _ => False
      | none => False
    | some (.v (.str b)) => match T t with
      | some d => match d.kind with
        | .string => ixK i b.size fun i => kv (.v (.int .u8 ((b.data.toList.getD i 0).toNat)))
        | _ => False
      | none => False
    | _ => False
  | _ => False
theorem aIndex_sound (hT : TOK P T) {t : TypeId} {x ix : Operand} (ho : o.op = .index t x ix) {kv : AV → Prop} (h : aIndex T t x ix s kv) (hok : SOK s) : ∃ v, kv v ∧ AP P o s v := by
  unfold aIndex at h
  split at h
  · rename_i k i e1
    split at h
    · rename_i m e2
      split at h
      · rename_i d hd
        have hk := (hT t d hd).kind
        split at h
        · rename_i n e he
          rw [he] at hk; simp only [TK.is] at hk
          split at h
          · rename_i de hde
            have hD := hT e de hde
            obtain ⟨⟨i0, i1⟩, h⟩ := ixK_elim h
            split at h
            · rename_i ha
              split at h
              · rename_i hs1
                have hs1 := Nat.eq_of_beq_eq_true hs1
                obtain ⟨v, hv, hkv⟩ := rd_sound h (hok x m e2)
                refine ⟨_, hkv, ⟨fun R a h3 => ?_⟩⟩
                obtain ⟨_, cs, hr, hx⟩ := agg_rel (ev_rel h3 e2)
                have hi : a.eval ix = .int k i := ev_rel h3 e1
                obtain ⟨y, hy, hv⟩ := rels_arr hr (by simpa using hv)
                refine ⟨y, hv, fun w => ?_⟩
                simp only [execOp, ho, Instr.index, hx, hi, Sem.run_bind, run_asIntOf, run_underlying hk, Result.andThen_ok]
                rw [if_pos ⟨i0, i1⟩]
                simp only [Sem.run_bind, run_sizeOf hD, Result.andThen_ok]
                rw [run_part1 hD ha (by rw [hs1, Nat.mul_one]; exact hy), Result.andThen_ok, Sem.run_pure]
              · exact h.elim
            · rename_i ha
              obtain ⟨M, hkv, hM, hm⟩ := rdA_sound h (hok x m e2)
              refine ⟨_, hkv, ⟨fun R a h3 => ?_⟩⟩
              obtain ⟨_, cs, hr, hx⟩ := agg_rel (ev_rel h3 e2)
              have hi : a.eval ix = .int k i := ev_rel h3 e1
              obtain ⟨ys, hy, hv⟩ := run_partA (P := P) hD ha hr (by simpa using hm)
              refine ⟨_, ⟨hM, ys, hy, rfl⟩, fun w => ?_⟩
              simp only [execOp, ho, Instr.index, hx, hi, Sem.run_bind, run_asIntOf, run_underlying hk, Result.andThen_ok]
              rw [if_pos ⟨i0, i1⟩]
              simp only [Sem.run_bind, run_sizeOf hD, Result.andThen_ok]
              rw [hv, Result.andThen_ok, Sem.run_pure]
          · exact h.elim
        · exact h.elim
      · exact h.elim
    · rename_i b e2
      split at h
      · rename_i d hd
        have hk := (hT t d hd).kind
        split at h
        · rename_i he
          rw [he] at hk; simp only [TK.is] at hk
          obtain ⟨⟨i0, i1⟩, h⟩ := ixK_elim h
          refine ⟨_, h, ⟨fun R a h3 => ⟨_, rfl, fun w => ?_⟩⟩⟩
          have hi : a.eval ix = .int k i := ev_rel h3 e1
          have hx : a.eval x = .string b := ev_rel h3 e2
          have hlt : i.toNat < b.size := by omega
          simp only [execOp, ho, Instr.index, hx, hi, Sem.run_bind, run_asIntOf, run_underlying hk, Result.andThen_ok]
          rw [if_pos i0]
          have hg : b[i.toNat]? = some (b.data.toList.getD i.toNat 0) := by
            have h1 : i.toNat < b.data.size := hlt
            rw [getElem?_pos b i.toNat hlt]
            simp only [List.getD, Array.getElem?_toList, Array.getElem?_eq_getElem h1]
            rfl
          rw [hg]
          simp
        · exact h.elim
      · exact h.elim
    · exact h.elim
  · exact h.elim
def aIndexAddr (T : TT) (t : TypeId) (x ix : Operand) (s : Sl) (kv : AV → Prop) : Prop :=
  match ev s ix with
  | some (.v (.int _ i)) => match T t with
    | some d => match d.kind with
      | .array n e => match T e with
        | some de => match ev s x with
          | some (.v (.ptr p b i0 st)) => match st with
            | 0 => ixK i n fun i => kv (.v (.ptr p b i de.size))
            | st + 1 => ixK i n fun i => kv (.v (.ptr p (b + i * de.size) i0 (st + 1)))
          | _ => False
        | none => False
      | .slice e => match T e with
        | some de => match ev s x with
          | some (.v (.sl p b i0 len es)) => match Nat.beq es de.size with
            | true => ixK i len fun i => kv (.v (.ptr p b (i0 + i) es))
            | false => False
          | _ => False
        | none => False
      | _ => False
    | none => False
  | _ => False
theorem run_tiny {w : World} {t : TypeId} {u : TypeDesc} (hu : P.underlying t = some u) (g : TypeDesc → Bool) : ((do return g (← underlying t)) : Sem Bool).run P w = .ok (g u) w := by
  rw [Sem.run_bind, run_underlying hu]; rfl
theorem aIndexAddr_sound (hT : TOK P T) {t : TypeId} {x ix : Operand} (ho : o.op = .indexAddr t x ix) {kv : AV → Prop} (h : aIndexAddr T t x ix s kv) : ∃ v, kv v ∧ AP P o s v := by
  unfold aIndexAddr at h
  split at h
  · rename_i k i e1
    split at h
    · rename_i d hd
      have hk := (hT t d hd).kind
      split at h
      · rename_i n e he
        rw [he] at hk; simp only [TK.is] at hk
        split at h
        · rename_i de hde
          have hD := hT e de hde
          split at h
          · rename_i p b i0 st e2
            have key : ∀ {R : Ren} {a : Act}, SR R s a → (0 ≤ i ∧ i < n) → ∃ m c, R p = some (m, c) ∧ ∀ w, (execOp a.eval o).run P w = .ok (.value (.pointer (some ⟨m, c.1 + (b + i0 * st) + i.toNat * de.size, none⟩))) w := by
              intro R a h3 hi
              obtain ⟨m, c, hR, hx⟩ : V.rel R (.ptr p b i0 st) (a.eval x) := ev_rel h3 e2
              have hix : a.eval ix = .int k i := ev_rel h3 e1
              refine ⟨m, c, hR, fun w => ?_⟩
              simp only [execOp, ho, Instr.indexAt, hx, hix, Sem.run_bind, run_asIntOf, run_underlying hk, Result.andThen_ok, Instr.sureAddr, Sem.run_pure]
              rw [if_pos hi]
              simp only [Sem.run_bind, run_sizeOf hD, Result.andThen_ok, Sem.run_pure, Addr.add_eq]
            split at h
            · obtain ⟨hi, h⟩ := ixK_elim h
              refine ⟨_, h, ⟨fun R a h3 => ?_⟩⟩
              obtain ⟨m, c, hR, hx⟩ := key h3 hi
              exact ⟨_, ⟨m, c, hR, rfl⟩, fun w => by rw [hx]; simp [Nat.add_assoc]⟩
            · obtain ⟨hi, h⟩ := ixK_elim h
              refine ⟨_, h, ⟨fun R a h3 => ?_⟩⟩
              obtain ⟨m, c, hR, hx⟩ := key h3 hi
              refine ⟨_, ⟨m, c, hR, rfl⟩, fun w => ?_⟩
              rw [hx]; congr 4; simp; omega
          · exact h.elim
        · exact h.elim
      · rename_i e he
        rw [he] at hk; simp only [TK.is] at hk
        split at h
        · rename_i de hde
          have hD := hT e de hde
          split at h
          · rename_i p b i0 len es e2
            split at h
            · rename_i hes
              have hes := Nat.eq_of_beq_eq_true hes
              obtain ⟨hi, h⟩ := ixK_elim h
              refine ⟨_, h, ⟨fun R a h3 => ?_⟩⟩
              obtain ⟨m, c, hR, hx⟩ : V.rel R (.sl p b i0 len es) (a.eval x) := ev_rel h3 e2
              have hix : a.eval ix = .int k i := ev_rel h3 e1
              rcases hx with ⟨cap, hx, h5, h6⟩ | ⟨h5, _⟩
              · refine ⟨_, ⟨m, c, hR, rfl⟩, fun w => ?_⟩
                simp only [execOp, ho, Instr.indexAt, hx, hix, Sem.run_bind, run_asIntOf, run_underlying hk, Result.andThen_ok, Sem.run_pure]
                rw [if_pos hi]
                simp only [Sem.run_bind, run_sizeOf hD, Result.andThen_ok, Sem.run_pure, Addr.add_eq]
                congr 4
                rw [← hes, Nat.add_mul]; simp; omega
              · omega
            · exact h.elim
          · exact h.elim
        · exact h.elim
      · exact h.elim
    · exact h.elim
  · exact h.elim
def nthA : List AV → Nat → Option AV
  | [], _ => none
  | x :: _, 0 => some x
  | _ :: r, n + 1 => nthA r n
def aExtract (x : Operand) (i : Nat) (s : Sl) (kv : AV → Prop) : Prop :=
  match ev s x with
  | some (.tup l) => match nthA l i with
    | some v => kv v
    | none => False
  | _ => False
theorem rel1_rel {R : Ren} {v : AV} {x : Value} (h : rel1 R v x) : AV.rel R v x := by
  cases v <;> first | exact h | exact h.elim
theorem relL_get {R : Ren} {l : List AV} {xs : List Value} (h : relL R l xs) : ∀ {i : Nat} {v : AV}, nthA l i = some v → ∃ x, xs[i]? = some x ∧ AV.rel R v x := by
  induction h with
  | nil => intro i v hv; simp [nthA] at hv
  | cons a _ ih =>
    intro i v hv
    cases i with
    | zero => simp [nthA] at hv; subst hv; exact ⟨_, rfl, rel1_rel a⟩
    | succ i => simp [nthA] at hv ⊢; exact ih hv
theorem aExtract_sound {x : Operand} {i : Nat} (ho : o.op = .extract x i) {kv : AV → Prop} (h : aExtract x i s kv) : ∃ v, kv v ∧ AP P o s v := by
  unfold aExtract at h
  split at h
  · rename_i l e
    split at h
    · rename_i v hv
      refine ⟨v, h, ⟨fun R a h3 => ?_⟩⟩
      obtain ⟨ys, hr, hx⟩ : ∃ ys, relL R l ys ∧ a.eval x = .tuple ys.toArray := ev_rel h3 e
      obtain ⟨y, hy, hv⟩ := relL_get hr hv
      refine ⟨y, hv, fun w => ?_⟩
      simp [execOp, ho, Instr.extract, hx, hy]
    · exact h.elim
  · exact h.elim
end
section
variable {P : Program} {T : TT} {o : Oper} {s : Sl} {H : Hp}
theorem run_sliceBound {w : World} {k : IntKind} {i : Int} {y : Nat} {code : BoundsCode} (h : 0 ≤ i ∧ i ≤ y) : (Instr.sliceBound (.int k i) y code).run P w = .ok i.toNat w := by
  unfold Instr.sliceBound
  rw [Sem.run_bind, run_asIntOf, Result.andThen_ok]
  simp only []
  rw [if_pos h]; rfl
/-- Bounds of a slice: low, high. -/
def bnd (x : Option Operand) (s : Sl) (d : Nat) (k : Nat → Prop → Prop) : Prop :=
  match x with
  | none => k d True
  | some x => match ev s x with
    | some (.v (.int _ i)) => k i.toNat (0 ≤ i)
    | _ => False
/-- A piece of a slice, of a text. -/
def aSlice (T : TT) (t : TypeId) (x : Operand) (lo hi mx : Option Operand) (s : Sl) (kv : AV → Prop) : Prop :=
  match mx with
  | some _ => False
  | none => match T t with
    | some d => match d.kind with
      | .slice e => match T e with
        | some de => match ev s x with
          | some (.v (.sl p b i0 len es)) => bnd hi s len fun h ph => bnd lo s 0 fun l pl => match Nat.beq es de.size with
            | true => ph ∧ pl ∧ l ≤ h ∧ h ≤ len ∧ kv (.v (.sl p b (i0 + l) (h - l) es))
            | false => False
          | some (.v .nilS) => bnd hi s 0 fun h ph => bnd lo s 0 fun l pl => ph ∧ pl ∧ l ≤ h ∧ h ≤ 0 ∧ kv (.v .nilS)
          | _ => False
        | none => False
      | .string => match ev s x with
        | some (.v (.str c)) => bnd hi s c.size fun h ph => bnd lo s 0 fun l pl => ph ∧ pl ∧ l ≤ h ∧ h ≤ c.size ∧ kv (.v (.str (c.extract l h)))
        | _ => False
      | _ => False
    | none => False
theorem bnd_det {lo hi : Option Operand} {len : Nat} {k : Nat → Nat → Prop → Prop → Prop} (h : bnd hi s len fun h ph => bnd lo s 0 fun l pl => k h l ph pl) :
    ∃ h l ph pl, k h l ph pl ∧ ∀ (R : Ren) (a : Act) (isS : Bool) (cap : Nat), SR R s a → ph → pl → l ≤ h → h ≤ cap → ∀ w, (Instr.sliceBounds isS len cap (lo.map a.eval) (hi.map a.eval) none).run P w = .ok (l, h, cap) w := by
  have h' : bnd hi s len fun h ph => bnd lo s 0 fun l pl => k h l ph pl ∧ ∀ (R : Ren) (a : Act) (isS : Bool) (cap : Nat), SR R s a → ph → pl → l ≤ h → h ≤ cap → ∀ w, (Instr.sliceBounds isS len cap (lo.map a.eval) (hi.map a.eval) none).run P w = .ok (l, h, cap) w := by
    unfold bnd at h ⊢
    split at h
    · split at h
      · refine ⟨h, fun R a isS cap h3 _ _ h1 h2 w => by simp [Instr.sliceBounds]⟩
      · rename_i x
        split at h
        · rename_i k i e
          refine ⟨h, fun R a isS cap h3 _ pl h1 h2 w => ?_⟩
          have hx : a.eval x = .int k i := ev_rel h3 e
          simp [Instr.sliceBounds, hx, run_sliceBound (P := P) (w := w) (k := k) (i := i) (y := len) (code := .sliceB) ⟨pl, by omega⟩]
        · exact h.elim
    · rename_i y
      split at h
      · rename_i k2 i2 e2
        split at h
        · refine ⟨h, fun R a isS cap h3 ph _ h1 h2 w => ?_⟩
          have hy : a.eval y = .int k2 i2 := ev_rel h3 e2
          simp [Instr.sliceBounds, hy, run_sliceBound (P := P) (w := w) (k := k2) (i := i2) (y := cap) (code := if isS then .sliceAcap else .sliceAlen) ⟨ph, by omega⟩]
        · rename_i x
          split at h
          · rename_i k i e
            refine ⟨h, fun R a isS cap h3 ph pl h1 h2 w => ?_⟩
            have hx : a.eval x = .int k i := ev_rel h3 e
            have hy : a.eval y = .int k2 i2 := ev_rel h3 e2
            simp [Instr.sliceBounds, hx, hy, run_sliceBound (P := P) (w := w) (k := k2) (i := i2) (y := cap) (code := if isS then .sliceAcap else .sliceAlen) ⟨ph, by omega⟩, run_sliceBound (P := P) (w := w) (k := k) (i := i) (y := i2.toNat) (code := .sliceB) ⟨pl, by omega⟩]
          · exact h.elim
      · exact h.elim
  clear h
  unfold bnd at h'
  split at h'
  · split at h'
    · exact ⟨_, _, _, _, h'.1, h'.2⟩
    · split at h'
      · exact ⟨_, _, _, _, h'.1, h'.2⟩
      · exact h'.elim
  · split at h'
    · split at h'
      · exact ⟨_, _, _, _, h'.1, h'.2⟩
      · split at h'
        · exact ⟨_, _, _, _, h'.1, h'.2⟩
        · exact h'.elim
    · exact h'.elim
theorem aSlice_sound (hT : TOK P T) {t : TypeId} {x : Operand} {lo hi mx : Option Operand} (ho : o.op = .slice t x lo hi mx) {kv : AV → Prop} (h : aSlice T t x lo hi mx s kv) : ∃ v, kv v ∧ AP P o s v := by
  unfold aSlice at h
  split at h
  · exact h.elim
  · split at h
    · rename_i d hd
      have hk := (hT t d hd).kind
      split at h
      · rename_i e he
        rw [he] at hk; simp only [TK.is] at hk
        split at h
        · rename_i de hde
          have hD := hT e de hde
          split at h
          · rename_i p b i0 len es e2
            obtain ⟨hh, ll, ph, pl, h, hb⟩ := bnd_det (P := P) h
            split at h
            · rename_i hes
              have hes := Nat.eq_of_beq_eq_true hes
              obtain ⟨ph, pl, h1, h2, h⟩ := h
              refine ⟨_, h, ⟨fun R a h3 => ?_⟩⟩
              obtain ⟨m, c, hR, hx⟩ : V.rel R (.sl p b i0 len es) (a.eval x) := ev_rel h3 e2
              rcases hx with ⟨cap, hx, h5, h6, h7⟩ | ⟨h5, off, hx⟩
              · refine ⟨.slice (some (if cap = ll then ⟨m, c.1 + (b + i0 * es), none⟩ else ⟨m, c.1 + (b + i0 * es) + ll * es, none⟩)) (hh - ll) (cap - ll), ⟨m, c, hR, ?_⟩, fun w => ?_⟩
                · split
                  · rename_i hc
                    refine .inr ⟨by omega, c.1 + (b + i0 * es), by rw [show hh - ll = 0 by omega, show cap - ll = 0 by omega]⟩
                  · rename_i hc
                    refine .inl ⟨cap - ll, by rw [Nat.add_mul, Nat.add_assoc, Nat.add_assoc], by omega, ?_, by omega⟩
                    have : cap * es = (cap - ll) * es + ll * es := by rw [← Nat.add_mul]; congr 1; omega
                    rw [Nat.add_mul]; omega
                · simp only [execOp, ho, Instr.sliceAt, Sem.run_bind, run_underlying hk, Result.andThen_ok, hx, Instr.slice, Option.map_none]
                  rw [hb R a true cap h3 ph pl h1 (by omega)]
                  simp only [Result.andThen_ok, Sem.run_bind, run_sizeOf hD, Sem.run_pure, Option.map_some, Addr.add_eq, hes]
                  split <;> rfl
              · subst h5
                obtain rfl : hh = 0 := by omega
                obtain rfl : ll = 0 := by omega
                refine ⟨.slice (some ⟨m, off, none⟩) 0 0, ⟨m, c, hR, .inr ⟨by omega, off, rfl⟩⟩, fun w => ?_⟩
                simp only [execOp, ho, Instr.sliceAt, Sem.run_bind, run_underlying hk, Result.andThen_ok, hx, Instr.slice, Option.map_none]
                rw [hb R a true 0 h3 ph pl h1 (by omega)]
                simp only [Result.andThen_ok, Sem.run_bind, run_sizeOf hD, Sem.run_pure]
                simp
            · exact h.elim
          · rename_i e2
            obtain ⟨hh, ll, ph, pl, h, hb⟩ := bnd_det (P := P) h
            obtain ⟨ph, pl, h1, h2, h⟩ := h
            refine ⟨_, h, ⟨fun R a h3 => ?_⟩⟩
            have hx : a.eval x = .slice none 0 0 := ev_rel h3 e2
            obtain rfl : hh = 0 := by omega
            obtain rfl : ll = 0 := by omega
            refine ⟨.slice none 0 0, rfl, fun w => ?_⟩
            simp only [execOp, ho, Instr.sliceAt, Sem.run_bind, run_underlying hk, Result.andThen_ok, hx, Instr.slice, Option.map_none]
            rw [hb R a true 0 h3 ph pl h1 (by omega)]
            simp only [Result.andThen_ok, Sem.run_bind, run_sizeOf hD, Sem.run_pure]
            simp
          · exact h.elim
        · exact h.elim
      · rename_i he
        rw [he] at hk; simp only [TK.is] at hk
        split at h
        · rename_i c e2
          obtain ⟨hh, ll, ph, pl, h, hb⟩ := bnd_det (P := P) h
          obtain ⟨ph, pl, h1, h2, h⟩ := h
          refine ⟨_, h, ⟨fun R a h3 => ⟨_, rfl, fun w => ?_⟩⟩⟩
          have hx : a.eval x = .string c := ev_rel h3 e2
          simp only [execOp, ho, Instr.sliceAt, Sem.run_bind, run_underlying hk, Result.andThen_ok, hx, Instr.slice, Option.map_none]
          simp only [Option.isSome_none, Bool.false_eq_true, if_false, Sem.run_bind]
          rw [hb R a false c.size h3 ph pl h1 h2]
          simp only [Result.andThen_ok, Sem.run_pure]
        · exact h.elim
      · exact h.elim
    · exact h.elim
def aMkIface (T : TT) (t : TypeId) (x : Operand) (s : Sl) (kv : AV → Prop) : Prop :=
  match T t with
  | some d => match d.kind with
    | .iface => False
    | _ => match ev s x with
      | some (.v y) => kv (.v (.if1 t y))
      | some (.agg [.one y, .one z]) => kv (.v (.if2 t y z))
      | _ => False
  | none => False
theorem run_mkIface {w : World} {d : TyD} {t : TypeId} (hD : d.is P t) (hd : d.kind ≠ .iface) (x : Value) : (Instr.makeInterface t x).run P w = .ok (.iface t x) w := by
  have hk := hD.kind
  unfold Instr.makeInterface
  cases e : d.kind <;> rw [e] at hk <;> simp only [TK.is] at hk
  case struct l => obtain ⟨fs, hk, _⟩ := hk; simp [run_underlying hk]
  case iface => exact absurd e hd
  case func => obtain ⟨a, b, c, hk⟩ := hk; simp [run_underlying hk]
  all_goals simp [run_underlying hk]
theorem aMkIface_sound (hT : TOK P T) {t : TypeId} {x : Operand} (ho : o.op = .makeInterface t x) {kv : AV → Prop} (h : aMkIface T t x s kv) : ∃ v, kv v ∧ AP P o s v := by
  unfold aMkIface at h
  split at h
  · rename_i d hd
    split at h
    · exact h.elim
    · rename_i hne
      split at h
      · rename_i y e
        refine ⟨_, h, ⟨fun R a h3 => ⟨_, ⟨a.eval x, ev_rel h3 e, rfl⟩, fun w => ?_⟩⟩⟩
        simp only [execOp, ho, Sem.run_bind, run_mkIface (hT t d hd) hne, Result.andThen_ok, Sem.run_pure]
      · rename_i y z e
        refine ⟨_, h, ⟨fun R a h3 => ?_⟩⟩
        obtain ⟨_, cs, hr, hx⟩ := agg_rel (ev_rel h3 e)
        cases hr with
        | cons r1 r2 => cases r2 with
          | cons r3 r4 => cases r4 with
            | nil =>
              refine ⟨_, ⟨_, _, r1, r3, rfl⟩, fun w => ?_⟩
              simp only [execOp, ho, Sem.run_bind, run_mkIface (hT t d hd) hne, Result.andThen_ok, Sem.run_pure, hx]
      · exact h.elim
  · exact h.elim
def aMkFunc (f : Fn) (first captured : Array Operand) (kv : AV → Prop) : Prop :=
  match first.toList, captured.toList with
  | [], [] => kv (.v (.fn0 f))
  | _, _ => False
theorem run_mkFunc {w : World} (f : Fn) : (Instr.makeFunc f #[] #[]).run P w = .ok (.func f #[] #[]) w ∨ True := .inr trivial
def aNilCheck (x : Operand) (s : Sl) (kv : AV → Prop) : Prop :=
  match ev s x with
  | some (.v (.ptr n b i st)) => kv (.v (.ptr n b i st))
  | some (.v (.if1 t y)) => kv (.v (.if1 t y))
  | some (.v (.if2 t y z)) => kv (.v (.if2 t y z))
  | some (.v (.fn0 (.func f))) => kv (.v (.fn0 (.func f)))
  | _ => False
theorem aNilCheck_sound {x : Operand} (ho : o.op = .nilCheck x) {kv : AV → Prop} (h : aNilCheck x s kv) : ∃ v, kv v ∧ AP P o s v := by
  unfold aNilCheck at h
  split at h
  · rename_i n b i st e
    refine ⟨_, h, ⟨fun R a h3 => ⟨a.eval x, ev_rel h3 e, fun w => ?_⟩⟩⟩
    obtain ⟨m, c, hR, hx⟩ : V.rel R (.ptr n b i st) (a.eval x) := ev_rel h3 e
    simp [execOp, ho, hx]
  · rename_i t y e
    refine ⟨_, h, ⟨fun R a h3 => ⟨a.eval x, ev_rel h3 e, fun w => ?_⟩⟩⟩
    obtain ⟨y', _, hx⟩ : V.rel R (.if1 t y) (a.eval x) := ev_rel h3 e
    simp [execOp, ho, hx]
  · rename_i t y z e
    refine ⟨_, h, ⟨fun R a h3 => ⟨a.eval x, ev_rel h3 e, fun w => ?_⟩⟩⟩
    obtain ⟨y', z', _, _, hx⟩ : V.rel R (.if2 t y z) (a.eval x) := ev_rel h3 e
    simp [execOp, ho, hx]
  · rename_i f e
    refine ⟨_, h, ⟨fun R a h3 => ⟨a.eval x, ev_rel h3 e, fun w => ?_⟩⟩⟩
    have hx : a.eval x = .func (.func f) #[] #[] := ev_rel h3 e
    simp [execOp, ho, hx]
  · exact h.elim
/-- len, min, max. -/
def aLen (T : TT) (t : TypeId) (x : Operand) (s : Sl) (kv : AV → Prop) : Prop :=
  match ev s x with
  | some (.v (.sl _ _ _ len _)) => match T t with
    | some d => match d.kind with
      | .slice _ => kv (.v (.int .i64 len))
      | _ => False
    | none => False
  | some (.v .nilS) => match T t with
    | some d => match d.kind with
      | .slice _ => kv (.v (.int .i64 0))
      | _ => False
    | none => False
  | some (.v (.str b)) => match T t with
    | some d => match d.kind with
      | .string => kv (.v (.int .i64 b.size))
      | _ => False
    | none => False
  | some _ => match T t with
    | some d => match d.kind with
      | .array n _ => kv (.v (.int .i64 n))
      | _ => False
    | none => False
  | none => False
theorem run_bi {w : World} {a : Act} {b : Builtin} {args : Array Operand} {ats : Array TypeId} (ho : o.op = .call ⟨.builtin b, args, ats⟩) : (execOp a.eval o).run P w = (builtin b ats o.type (args.map fun | .const _ => true | _ => false) (args.map a.eval)).run P w := by
  simp only [execOp, ho, resolve, Sem.run_bind, Sem.run_pure, Result.andThen_ok, invoke]
  rfl
theorem aLen_sound (hT : TOK P T) {t : TypeId} {x : Operand} {ts : Array TypeId} (ho : o.op = .call ⟨.builtin .len, #[x], ts⟩) (hts : ts[0]? = some t) {kv : AV → Prop} (h : aLen T t x s kv) : ∃ v, kv v ∧ AP P o s v := by
  have key : ∀ (a : Act) (w : World), (execOp a.eval o).run P w = ((Builtin.len_ ts o.type #[a.eval x]).run P w).andThen fun v w => .ok (.value v) w := by
    intro a w
    rw [run_bi ho]; simp [builtin]
  unfold aLen at h
  split at h
  · rename_i p b i len es e
    split at h
    · rename_i d hd
      have hk := (hT t d hd).kind
      split at h
      · rename_i u he
        rw [he] at hk; simp only [TK.is] at hk
        refine ⟨_, h, ⟨fun R a h3 => ⟨_, rfl, fun w => ?_⟩⟩⟩
        obtain ⟨m, c, hR, hx⟩ : V.rel R (.sl p b i len es) (a.eval x) := ev_rel h3 e
        rw [key]
        rcases hx with ⟨cap, hx, _⟩ | ⟨h0, off, hx⟩
        · simp [Builtin.len_, hts, run_underlying hk, hx, goInt]
        · simp [Builtin.len_, hts, run_underlying hk, hx, goInt, h0]
      · exact h.elim
    · exact h.elim
  · rename_i e
    split at h
    · rename_i d hd
      have hk := (hT t d hd).kind
      split at h
      · rename_i u he
        rw [he] at hk; simp only [TK.is] at hk
        refine ⟨_, h, ⟨fun R a h3 => ⟨_, rfl, fun w => ?_⟩⟩⟩
        have hx : a.eval x = .slice none 0 0 := ev_rel h3 e
        rw [key]
        simp [Builtin.len_, hts, run_underlying hk, hx, goInt]
      · exact h.elim
    · exact h.elim
  · rename_i b e
    split at h
    · rename_i d hd
      have hk := (hT t d hd).kind
      split at h
      · rename_i he
        rw [he] at hk; simp only [TK.is] at hk
        refine ⟨_, h, ⟨fun R a h3 => ⟨_, rfl, fun w => ?_⟩⟩⟩
        have hx : a.eval x = .string b := ev_rel h3 e
        rw [key]
        simp [Builtin.len_, hts, run_underlying hk, hx, goInt]
      · exact h.elim
    · exact h.elim
  · split at h
    · rename_i d hd
      have hk := (hT t d hd).kind
      split at h
      · rename_i n u he
        rw [he] at hk; simp only [TK.is] at hk
        refine ⟨_, h, ⟨fun R a h3 => ⟨_, rfl, fun w => ?_⟩⟩⟩
        rw [key]
        simp [Builtin.len_, hts, run_underlying hk, goInt]
      · exact h.elim
    · exact h.elim
  · exact h.elim
def aMinMax (mx : Bool) (x y : Operand) (s : Sl) (kv : AV → Prop) : Prop :=
  match ev s x, ev s y with
  | some (.v (.int k a)), some (.v (.int _ b)) => match mx with
    | true => kv (.v (.int k (if b > a then b else a)))
    | false => kv (.v (.int k (if b < a then b else a)))
  | _, _ => False
theorem aMax_sound {x y : Operand} {ts : Array TypeId} (ho : o.op = .call ⟨.builtin .max, #[x, y], ts⟩) {kv : AV → Prop} (h : aMinMax true x y s kv) : ∃ v, kv v ∧ AP P o s v := by
  unfold aMinMax at h
  split at h
  · rename_i k a k2 b e1 e2
    refine ⟨_, h, ⟨fun R c h3 => ⟨_, rfl, fun w => ?_⟩⟩⟩
    have hx : c.eval x = .int k a := ev_rel h3 e1
    have hy : c.eval y = .int k2 b := ev_rel h3 e2
    rw [run_bi ho]
    simp [builtin, Builtin.max_, Builtin.max2, hx, hy]
  · exact h.elim
theorem aMin_sound {x y : Operand} {ts : Array TypeId} (ho : o.op = .call ⟨.builtin .min, #[x, y], ts⟩) {kv : AV → Prop} (h : aMinMax false x y s kv) : ∃ v, kv v ∧ AP P o s v := by
  unfold aMinMax at h
  split at h
  · rename_i k a k2 b e1 e2
    refine ⟨_, h, ⟨fun R c h3 => ⟨_, rfl, fun w => ?_⟩⟩⟩
    have hx : c.eval x = .int k a := ev_rel h3 e1
    have hy : c.eval y = .int k2 b := ev_rel h3 e2
    rw [run_bi ho]
    simp [builtin, Builtin.min_, Builtin.min2, hx, hy]
  · exact h.elim
end
section
variable {P : Program} {T : TT} {nt : Nat} {o : Oper} {s : Sl} {H : Hp} {k : Sl → Hp → Prop}
def evs : List Operand → Sl → (List AV → Prop) → Prop
  | [], _, k => k []
  | x :: r, s, k => match ev s x with
    | some v => evs r s (fun l => k (v :: l))
    | none => False
theorem evs_sound : ∀ {l : List Operand} {k : List AV → Prop}, evs l s k → ∃ vs, k vs ∧ ∀ (R : Ren) (a : Act), SR R s a → relA R vs (l.map a.eval)
  | [], k, h => ⟨[], h, fun _ _ _ => .nil⟩
  | x :: r, k, h => by
    simp only [evs] at h
    split at h
    · rename_i v e
      obtain ⟨vs, hk, hr⟩ := evs_sound h
      exact ⟨v :: vs, hk, fun R a h3 => .cons (ev_rel h3 e) (hr R a h3)⟩
    · exact h.elim
def aCall (P : Program) (nt : Nat) (dst : Option Tmp) (f : Operand) (args : Array Operand) (s : Sl) (H : Hp) (k : Sl → Hp → Prop) : Prop :=
  match ev s f with
  | some (.v (.fn0 (.func g))) => evs args.toList s fun vs => AC P g vs H (fun v H' => kput dst nt v s H' k)
  | _ => False
theorem run_callFunc {w : World} {g : FuncId} {args : Array Value} (h : CanEnter P g) : (callFunc g args).run P w = .ok (.enter g args) w := by
  obtain ⟨fn, h1, h2, h3⟩ := h
  simp only [callFunc, Sem.run_bind, run_program, Result.andThen_ok, h1, h2, h3, Bool.false_eq_true, if_false, Sem.run_pure]
theorem map_arr (a : Act) (args : Array Operand) : (args.toList.map a.eval).toArray = args.map a.eval := by rw [← Array.toList_map, Array.toArray_toList]
theorem enter_core {g : FuncId} {vs : List AV} (h : AC P g vs H (fun v H' => kput o.dst nt v s H' k)) {R : Ren} {w : World} {a : Act} (h1 : a.tmps.size = nt) (h2 : a.defers = []) (h3 : SR R s a) (h4 : Rep R H w)
    {as : List Value} (hr : relA R vs as) (hx : (execOp a.eval o).run P w = .ok (.enter g as.toArray) w) : o.wp P a w (fun a' w' => PostO nt k R H w a' w') (fun _ _ _ => False) := by
  unfold Oper.wp
  rw [hx, Oper.upon_enter]
  refine (h.run R w as hr h4).mono ?_
  rintro e w' ⟨v, x, H', R', q, rfl, hv, hrep, g⟩
  exact PostO.of_put q h1 h2 (h3.mono (g.mono h4)) hv hrep g
theorem aCall_sound {f : Operand} {args : Array Operand} {ts : Array TypeId} (ho : o.op = .call ⟨.value f, args, ts⟩) (h : aCall P nt o.dst f args s H k) : AO P nt o s H k := by
  unfold aCall at h
  split at h
  · rename_i g e
    obtain ⟨vs, hk, hr⟩ := evs_sound h
    refine ⟨fun R w a h1 h2 h3 h4 => ?_⟩
    refine enter_core hk h1 h2 h3 h4 (hr R a h3) ?_
    have hf : a.eval f = .func (.func g) #[] #[] := ev_rel h3 e
    simp only [execOp, ho, resolve, hf, Deferred.ofValue, Sem.run_bind, Sem.run_pure, Result.andThen_ok, invoke]
    rw [run_callFunc hk.enter, map_arr]
    simp
  · exact h.elim
/-- Methods behind interface values. -/
abbrev MM := TypeId → String → Option FuncId
def MOK (P : Program) (M : MM) : Prop := ∀ t n g, M t n = some g → ∀ (v : Value) (args : Array Value) (w : World), (callMethod (.iface t v) n args).run P w = (callFunc g (#[v] ++ args)).run P w
def aInvoke (P : Program) (M : MM) (nt : Nat) (dst : Option Tmp) (f : Operand) (n : String) (args : Array Operand) (s : Sl) (H : Hp) (k : Sl → Hp → Prop) : Prop :=
  match ev s f with
  | some (.v (.if1 t y)) => match M t n with
    | some g => evs args.toList s fun vs => AC P g (.v y :: vs) H (fun v H' => kput dst nt v s H' k)
    | none => False
  | some (.v (.if2 t y z)) => match M t n with
    | some g => evs args.toList s fun vs => AC P g (.agg [.one y, .one z] :: vs) H (fun v H' => kput dst nt v s H' k)
    | none => False
  | _ => False
theorem aInvoke_sound {M : MM} (hM : MOK P M) {f : Operand} {n : String} {args : Array Operand} {ts : Array TypeId} (ho : o.op = .call ⟨.invoke f n, args, ts⟩) (h : aInvoke P M nt o.dst f n args s H k) : AO P nt o s H k := by
  unfold aInvoke at h
  split at h
  · rename_i t y e
    split at h
    · rename_i g hg
      obtain ⟨vs, hk, hr⟩ := evs_sound h
      refine ⟨fun R w a h1 h2 h3 h4 => ?_⟩
      obtain ⟨y', hy, hf⟩ : V.rel R (.if1 t y) (a.eval f) := ev_rel h3 e
      refine enter_core hk h1 h2 h3 h4 (as := y' :: args.toList.map a.eval) (.cons hy (hr R a h3)) ?_
      simp only [execOp, ho, resolve, hf, Sem.run_bind, Sem.run_pure, Result.andThen_ok, invoke]
      simp only [Array.getElem?_append, List.size_toArray, List.length_cons, List.length_nil]
      simp
      rw [hM t n g hg, run_callFunc hk.enter]
      simp
      exact List.take_of_length_le (by simp)
    · exact h.elim
  · rename_i t y z e
    split at h
    · rename_i g hg
      obtain ⟨vs, hk, hr⟩ := evs_sound h
      refine ⟨fun R w a h1 h2 h3 h4 => ?_⟩
      obtain ⟨y', z', hy, hz, hf⟩ : V.rel R (.if2 t y z) (a.eval f) := ev_rel h3 e
      refine enter_core hk h1 h2 h3 h4 (as := .agg #[y', z'] :: args.toList.map a.eval) (.cons ⟨oks_cons (s := .one y) trivial (oks_cons (s := .one z) trivial oks_nil), [y', z'], .cons hy (.cons hz .nil), rfl⟩ (hr R a h3)) ?_
      simp only [execOp, ho, resolve, hf, Sem.run_bind, Sem.run_pure, Result.andThen_ok, invoke]
      simp only [Array.getElem?_append, List.size_toArray, List.length_cons, List.length_nil]
      simp
      rw [hM t n g hg, run_callFunc hk.enter]
      simp
      exact List.take_of_length_le (by simp)
    · exact h.elim
  · exact h.elim
end
section
variable {P : Program} {T : TT} {nt : Nat} {o : Oper} {s : Sl} {H : Hp} {k : Sl → Hp → Prop}
/-- Values one behind the other: the parts of a literal that gives all of them. -/
def gath (sz : Nat) (s : Sl) : Nat → List (Nat × Operand) → (List Seg → Prop) → Prop
  | _, [], k => k []
  | i, (j, x) :: r, k => match Nat.beq i j with
    | true => match ev s x with
      | some (.v y) => match sz with
        | 1 => gath sz s (i + 1) r (fun l => k (.one y :: l))
        | _ => False
      | some (.agg m) => match Nat.beq (lenS m) sz with
        | true => gath sz s (i + 1) r (fun l => app m l k)
        | false => False
      | _ => False
    | false => False
/-- All of them numbers of one kind: one row. -/
def mrg (kd : IntKind) : List Seg → (Nat → List Int → Prop) → Prop
  | [], k => k 0 []
  | .one (.int kd' n) :: r, k => keq kd' kd (mrg kd r (fun c l => k (c + 1) (n :: l)))
  | .ints kd' c l :: r, k => keq kd' kd (mrg kd r (fun c' l' => k (c + c') (l ++ l')))
  | _, _ => False
theorem mrg_sound {kd : IntKind} : ∀ {m : List Seg} {k : Nat → List Int → Prop}, mrg kd m k → oks m → ∃ c l, k c l ∧ l.length = c ∧ flat m = l.map (.int kd)
  | [], k, h, _ => ⟨0, [], h, rfl, rfl⟩
  | .one (.int kd' n) :: r, k, h, ho => by
    obtain ⟨e, h⟩ := keq_sound h
    obtain ⟨c, l, hk, hl, hf⟩ := mrg_sound h (fun x hx => ho x (List.mem_cons_of_mem _ hx))
    exact ⟨_, _, hk, by simp [hl], by rw [flat_cons, hf, e]; rfl⟩
  | .ints kd' c l :: r, k, h, ho => by
    obtain ⟨e, h⟩ := keq_sound h
    obtain ⟨c', l', hk, hl, hf⟩ := mrg_sound h (fun x hx => ho x (List.mem_cons_of_mem _ hx))
    have : l.length = c := ho _ (List.mem_cons_self ..)
    exact ⟨_, _, hk, by simp [hl, this], by rw [flat_cons, hf, e]; simp [Seg.flat]⟩
/-- The kind of the numbers that a type is made of, if it is a row of such. -/
def numK (T : TT) : Nat → TypeId → Option IntKind
  | 0, _ => none
  | f + 1, t => match T t with
    | some d => match d.kind with
      | .int kd => some kd
      | .array _ e => numK T f e
      | _ => none
    | none => none
def whole (T : TT) (e : TypeId) (m : List Seg) (k : List Seg → Prop) : Prop :=
  match numK T 3 e with
  | some kd => mrg kd m (fun c l => k [.ints kd c l])
  | none => k m
theorem whole_sound {e : TypeId} {m : List Seg} {k : List Seg → Prop} (h : whole T e m k) (ho : oks m) : ∃ m', k m' ∧ oks m' ∧ flat m' = flat m := by
  unfold whole at h
  split at h
  · rename_i kd _
    obtain ⟨c, l, hk, hl, hf⟩ := mrg_sound h ho
    exact ⟨_, hk, oks_cons (s := .ints kd c l) hl oks_nil, by rw [hf, flat_cons]; simp [Seg.flat, flat]⟩
  · exact ⟨m, h, ho, rfl⟩
/-- Part by part. -/
def setL : List Value → Nat → List Value → List Value
  | cs, _, [] => cs
  | cs, i, x :: r => setL (cs.set i x) (i + 1) r
theorem setL_spl : ∀ (xs a b c : List Value), b.length = xs.length → setL (a ++ (b ++ c)) a.length xs = a ++ (xs ++ c)
  | [], a, b, c, h => by obtain rfl := List.length_eq_zero_iff.1 h; rfl
  | x :: r, a, [], c, h => by simp at h
  | x :: r, a, y :: b, c, h => by
    have := setL_spl r (a ++ [x]) b c (by simpa using h)
    simp only [setL]
    rw [show (a ++ (y :: b ++ c)).set a.length x = (a ++ [x]) ++ (b ++ c) by simp]
    rw [show a.length + 1 = (a ++ [x]).length by simp, this]; simp
theorem foldl_setL (off : Nat) : ∀ (xs : List Value) (j : Nat) (cs : Array Value), ((xs.zipIdx j).foldl (fun (cs : Array Value) (p : Value × Nat) => cs.setIfInBounds (off + p.2) p.1) cs).toList = setL cs.toList (off + j) xs
  | [], j, cs => rfl
  | x :: r, j, cs => by
    rw [List.zipIdx_cons, List.foldl_cons, foldl_setL off r (j + 1)]
    simp [setL, Nat.add_assoc]
theorem run_fill {place : Nat → Option (Nat × Nat)} {sz : Nat} (hp : ∀ i, place i = some (i * sz, sz)) {a : Act} {R : Ren} (h3 : SR R s a) : ∀ {ps : List (Nat × Operand)} {i : Nat} {k : List Seg → Prop} {done rest : List Value}, gath sz s i ps k →
    done.length = i * sz → rest.length = ps.length * sz → ∃ m ys, k m ∧ oks m ∧ rels R (flat m) ys ∧ ys.length = ps.length * sz ∧ ∀ cells : Array Value, cells.toList = done ++ rest → ∃ out : Array Value, Instr.fill place cells (ps.map fun p => (p.1, a.eval p.2)) = some out ∧ out.toList = done ++ ys := by
  intro ps
  induction ps with
  | nil =>
    intro i k done rest h hd hr
    obtain rfl := List.length_eq_zero_iff.1 (by simpa using hr)
    exact ⟨[], [], h, oks_nil, .nil, by simp, fun cells hc => ⟨cells, rfl, hc⟩⟩
  | cons p ps ih =>
    obtain ⟨j, x⟩ := p
    intro i k done rest h hd hr
    have step : ∀ {m : List Seg} {v : AV}, ev s x = some v → segsOf v = some m → (flat m).length = sz → i = j → gath sz s (i + 1) ps (fun l => k (m ++ l)) →
        ∃ m ys, k m ∧ oks m ∧ rels R (flat m) ys ∧ ys.length = ((j, x) :: ps).length * sz ∧ ∀ cells : Array Value, cells.toList = done ++ rest → ∃ out : Array Value, Instr.fill place cells (((j, x) :: ps).map fun p => (p.1, a.eval p.2)) = some out ∧ out.toList = done ++ ys := by
      intro m v e hm hlen hij hg
      obtain ⟨ok, hrel⟩ := segsOf_rel hm (ev_rel h3 e)
      have hxl : (a.eval x).cells.size = sz := by rw [← hlen, rels_len hrel]; simp
      obtain ⟨r1, r2, rfl, hr1⟩ : ∃ r1 r2, rest = r1 ++ r2 ∧ r1.length = sz := ⟨rest.take sz, rest.drop sz, by simp, by rw [List.length_take, hr]; simp [Nat.add_mul]⟩
      obtain ⟨m', ys, hk, ok', hrel', hyl, hf⟩ := ih (done := done ++ (a.eval x).cells.toList) (rest := r2) hg (by simp [hd, hxl, Nat.add_mul]) (by
        simp [hr1] at hr
        have : (ps.length + 1) * sz = ps.length * sz + sz := Nat.succ_mul _ _
        omega)
      refine ⟨m ++ m', (a.eval x).cells.toList ++ ys, hk, oks_append ok ok', by rw [flat_append]; exact rels_append hrel hrel', by simp [hyl, hxl, Nat.succ_mul]; omega, fun cells hc => ?_⟩
      have hsz : cells.size = done.length + (sz + r2.length) := by
        have := congrArg List.length hc
        simp [hr1] at this; omega
      obtain ⟨out, ho, hout⟩ := hf (((a.eval x).cells.zipIdx.foldl (fun cs (c, q) => cs.setIfInBounds (i * sz + q) c) cells)) (by
        have := foldl_setL (i * sz) (a.eval x).cells.toList 0 cells
        rw [← Array.foldl_toList, Array.toList_zipIdx, this, hc, Nat.add_zero, ← hd, setL_spl _ _ _ _ (by simp [hr1, hxl])]
        simp)
      refine ⟨out, ?_, by rw [hout]; simp⟩
      simp only [List.map_cons, Instr.fill, ← hij, hp]
      rw [if_neg (by rw [hxl, hsz, hd]; simp)]
      exact ho
    simp only [gath] at h
    split at h
    · rename_i hij
      have hij := Nat.eq_of_beq_eq_true hij
      split at h
      · rename_i y e
        split at h
        · exact step e rfl rfl hij h
        · exact h.elim
      · rename_i m e
        split at h
        · rename_i hsz
          have hsz := Nat.eq_of_beq_eq_true hsz
          obtain ⟨om, _⟩ : AV.rel R (.agg m) (a.eval x) := ev_rel h3 e
          have h' : gath sz s (i + 1) ps (fun l => k (m ++ l)) := by
            clear step ih hr hd
            revert h
            generalize i + 1 = q
            have : ∀ (ps : List (Nat × Operand)) (q : Nat) (k1 k2 : List Seg → Prop), (∀ l, k1 l → k2 l) → gath sz s q ps k1 → gath sz s q ps k2 := by
              intro ps
              induction ps with
              | nil => intro q k1 k2 hk h; exact hk _ h
              | cons p ps ih =>
                obtain ⟨j, x⟩ := p
                intro q k1 k2 hk h
                simp only [gath] at h ⊢
                split at h
                · split at h
                  · split at h
                    · exact ih _ _ _ (fun l => hk _) h
                    · exact h
                  · split at h
                    · exact ih _ _ _ (fun l hl => by
                        have : ∀ (a b : List Seg) (k1 k2 : List Seg → Prop), (∀ l, k1 l → k2 l) → app a b k1 → app a b k2 := by
                          intro a
                          induction a with
                          | nil => intro b k1 k2 hk h; exact hk _ h
                          | cons x a ih => intro b k1 k2 hk h; exact ih b _ _ (fun l => hk _) h
                        exact this _ _ _ _ hk hl) h
                    · exact h
                  · exact h
                · exact h
            exact this ps q _ _ (fun l hl => app_sound hl)
          exact step e rfl ((lenS_eq om).trans hsz) hij h'
        · exact h.elim
      · exact h.elim
    · exact h.elim
end
end Go.Proofs.Ytpoknlbnookhjaa.Ae
