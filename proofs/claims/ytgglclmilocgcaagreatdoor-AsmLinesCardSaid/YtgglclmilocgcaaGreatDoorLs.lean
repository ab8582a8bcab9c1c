/- The assembler's functions. -/
import Derived.Test.YtgglclmilocgcaaGreatDoorCu
set_option linter.unusedVariables false
set_option linter.unusedSimpArgs false
namespace Go.Proofs.YtgglclmilocgcaaGreatDoor.Md
open Go.RowKit Go.Proofs.YtgglclmilocgcaaGreatDoor.Ae Go.Proofs.YtgglclmilocgcaaGreatDoor.Bv Go.Proofs.YtgglclmilocgcaaGreatDoor
theorem dec_len20 (u : Nat) (hu : u < 18446744073709551616) : (Lib.decDigits u).length ≤ 20 := by
  by_cases h : u < 10
  · rw [dec_small h]; simp
  · rw [Lib.decDigits_length]
    have := Lib.numDigits_eq u (by omega) hu
    split at this <;> omega
theorem itoa_len21 (n : Int) (h0 : -9223372036854775808 ≤ n) (h1 : n ≤ 9223372036854775807) : (Lib.itoa n).length ≤ 21 := by
  unfold Lib.itoa
  split
  · have := dec_len20 n.natAbs (by omega); simp; omega
  · have := dec_len20 n.toNat (by omega); omega
theorem itoa_in (n : Int) : ∀ b ∈ Lib.itoa n, 45 ≤ b.toNat := by
  unfold Lib.itoa
  split
  · intro b hb
    rcases List.mem_cons.1 hb with rfl | hb
    · decide
    · have := dec_in _ b hb; omega
  · intro b hb
    have := dec_in _ b hb; omega
theorem nm_in (op : Int) : ∀ b ∈ nm op, 32 ≤ b.toNat := by
  have : ∀ l ∈ nmL, ∀ b ∈ l, 32 ≤ b.toNat := by decide
  unfold nm
  intro b hb
  rw [List.getD_eq_getElem?_getD] at hb
  cases e : nmL[op.toNat]? with
  | none => rw [e] at hb; simp at hb
  | some l => rw [e] at hb; exact this l (List.mem_of_getElem? e) b hb
theorem rg_in (n : Int) : ∀ b ∈ rg n, 32 ≤ b.toNat := by
  intro b hb
  rcases List.mem_cons.1 hb with rfl | hb
  · decide
  · rcases List.mem_cons.1 hb with rfl | hb
    · decide
    · have := itoa_in n b hb; omega
theorem sn_in (n : Int) : ∀ b ∈ sn n, 32 ≤ b.toNat := by
  intro b hb
  rcases List.mem_cons.1 hb with rfl | hb
  · decide
  · have := itoa_in n b hb; omega
theorem app_in {l m : List UInt8} (h1 : ∀ b ∈ l, 32 ≤ b.toNat) (h2 : ∀ b ∈ m, 32 ≤ b.toNat) : ∀ b ∈ l ++ m, 32 ≤ b.toNat := by
  intro b hb
  rcases List.mem_append.1 hb with hb | hb
  · exact h1 b hb
  · exact h2 b hb
theorem txt_in (t : T5) : ∀ b ∈ txt t, 32 ≤ b.toNat := by
  unfold txt
  repeat' split
  all_goals first | exact nm_in _ | exact app_in (app_in (nm_in _) (rg_in _)) (sn_in _) | exact app_in (app_in (app_in (nm_in _) (rg_in _)) (sn_in _)) (sn_in _) | exact app_in (app_in (app_in (nm_in _) (rg_in _)) (rg_in _)) (sn_in _) | exact app_in (app_in (app_in (nm_in _) (rg_in _)) (rg_in _)) (rg_in _)
theorem rg_len2 (n : Int) (h0 : -9223372036854775808 ≤ n) (h1 : n ≤ 9223372036854775807) : (rg n).length ≤ 23 := by
  have := itoa_len21 n h0 h1
  unfold rg; simp; omega
theorem sn_len2 (n : Int) (h0 : -9223372036854775808 ≤ n) (h1 : n ≤ 9223372036854775807) : (sn n).length ≤ 22 := by
  have := itoa_len21 n h0 h1
  unfold sn; simp; omega
theorem txt_len (t : T5) : (txt t).length ≤ 75 := by
  have h6 := nm_len t.1
  by_cases hv : valid t
  · have him := valid_im hv
    have hd := hv.2.2
    have a1 := rg_len2 t.2.1 (by omega) (by omega)
    have a2 := rg_len2 t.2.2.1 (by omega) (by omega)
    have a3 := rg_len2 t.2.2.2.1 (by omega) (by omega)
    have a4 := sn_len2 t.2.2.2.2 (by omega) (by omega)
    have a5 := sn_len2 t.2.2.1 (by omega) (by omega)
    unfold txt
    repeat' split
    all_goals first | omega | (simp only [List.length_append]; omega)
  · unfold txt
    rw [encT_neg hv]
    simp; omega
/-- A plain contract, as a call in any world. -/
theorem AC.plain {P : Program} {f : FuncId} {args : List AV} {r : AV} {rx : Value} (h : AC P f args [] (fun v H => v = r ∧ H = [])) {vs : List Value} (ha : relA (fun _ => none) args vs) (hx : ∀ R x, AV.rel R r x → x = rx) (w : World) (gt : GTw w) :
    Calls P f vs.toArray w fun e w' => e = .returned rx ∧ Below w.heap.size w w' := by
  refine (h.run _ w vs ha (Rep.none w gt)).mono ?_
  rintro e w' ⟨v, x, H', R', ⟨rfl, rfl⟩, rfl, hv, hr, g⟩
  exact ⟨by rw [hx _ _ hv], g.below fun n l hn => by simp at hn⟩
abbrev iv (t : T5) : Value := .agg #[.int .i64 t.1, .int .i64 t.2.1, .int .i64 t.2.2.1, .int .i64 t.2.2.2.1, .int .i32 t.2.2.2.2]
theorem rel_iv {R : Ren} {t : T5} {x : Value} (h : rel1 R (.agg (ins t)) x) : x = iv t := by
  obtain ⟨_, cs, h1, rfl⟩ := h
  cases h1 with
  | cons a h1 => cases h1 with
    | cons b h1 => cases h1 with
      | cons c h1 => cases h1 with
        | cons d h1 => cases h1 with
          | cons e h1 =>
            cases h1
            have a : _ = Value.int .i64 _ := a
            have b : _ = Value.int .i64 _ := b
            have c : _ = Value.int .i64 _ := c
            have d : _ = Value.int .i64 _ := d
            have e : _ = Value.int .i32 _ := e
            subst a b c d e
            rfl
theorem iv_rel (R : Ren) (t : T5) : AV.rel R (.agg (ins t)) (iv t) :=
  ⟨fun s hs => by simp at hs; rcases hs with rfl | rfl | rfl | rfl | rfl <;> trivial, _, .cons rfl (.cons rfl (.cons rfl (.cons rfl (.cons rfl .nil)))), rfl⟩
theorem dec_call (x : Nat) (hx : x < 4294967296) (w : World) (gt : GTw w) : Calls Tryz.prog 15 #[.int .u32 x] w fun e w' => e = .returned (.tuple #[iv (dec x), .bool ((dec x).1 != 0)]) ∧ Below w.heap.size w w' := by
  refine AC.plain (args := [u32 x]) (vs := [.int .u32 x]) (decT (show dec x = ((dec x).1, (dec x).2.1, (dec x).2.2.1, (dec x).2.2.2.1, (dec x).2.2.2.2) from rfl) hx []) (.cons rfl .nil) (fun R y hy => ?_) w gt
  obtain ⟨ys, h1, rfl⟩ := hy
  cases h1 with
  | cons a h1 => cases h1 with
    | cons b h1 =>
      cases h1
      have b : _ = Value.bool _ := b
      subst b
      rw [rel_iv (t := dec x) a]
theorem text_call (t : T5) (w : World) (gt : GTw w) : Calls Tryz.prog 16 #[iv t] w fun e w' => e = .returned (.string (ba (txt t))) ∧ Below w.heap.size w w' :=
  AC.plain (args := [.agg (ins t)]) (vs := [iv t]) (text1 t []) (.cons (iv_rel _ t) .nil) (fun R y hy => hy) w gt
theorem line_call (s : ByteArray) (hs : s.size ≤ 1000000) (w : World) (gt : GTw w) : Calls Tryz.prog 14 #[.string s] w fun e w' => e = .returned (.tuple #[.int .u32 (lineF s).1, .bool (lineF s).2]) ∧ Below w.heap.size w w' := by
  refine AC.plain (args := [.v (.str s)]) (vs := [.string s]) (line1 s hs []) (.cons rfl .nil) (fun R y hy => ?_) w gt
  obtain ⟨ys, h1, rfl⟩ := hy
  cases h1 with
  | cons a h1 => cases h1 with
    | cons b h1 =>
      cases h1
      have a : _ = Value.int _ _ := a
      have b : _ = Value.bool _ := b
      subst a b
      rfl
theorem GTw.below {w w' : World} (gt : GTw w) (h : Below w.heap.size w w') : GTw w' := fun x hx => by
  obtain ⟨cs, ty, fr, h1, h2⟩ := gt x hx
  exact ⟨cs, ty, fr, by rw [h.block x.1 (Array.getElem?_eq_some_iff.1 h1).1]; exact h1, h2⟩
/-- What is listed of a word. -/
def lw (w : Nat) : List UInt8 := if lineF (ba (txt (dec w))) = ((w : Int), true) then txt (dec w) else wl w
def listL (L : List Nat) : List UInt8 := L.flatMap fun w => lw w ++ [10]
def listP (l : Nat → Nat) (i : Nat) : List UInt8 := listL ((List.range i).map l)
theorem isB_below {T e : TypeId} {B b : Nat} {bs : List Value} {w w' : World} (h : Lib.IsBuilder T e B b bs w) (hb : Below w.heap.size w w') : Lib.IsBuilder T e B b bs w' := by
  have at1 : ∀ p, Lib.BuilderAt T e B b p bs w → Lib.BuilderAt T e B b p bs w' := by
    rintro p ⟨h1, v, h2, ⟨h3, h4⟩, h5⟩
    refine ⟨h1, v, ?_, ⟨h3, ?_⟩, h5⟩
    · rw [hb.block b (Array.getElem?_eq_some_iff.1 h2).1]; exact h2
    · rcases h4 with h4 | ⟨g, cap, cur, e1, e2, e3, e4⟩
      · exact .inl h4
      · exact .inr ⟨g, cap, cur, e1, e2, by rw [hb.block g (Array.getElem?_eq_some_iff.1 e3).1]; exact e3, e4⟩
  exact h.imp (at1 _) (at1 _)
theorem lw_len (w : Nat) (hw : w < 4294967296) : (lw w).length ≤ 75 := by
  unfold lw
  split
  · exact txt_len _
  · have := dec_len20 w (by omega)
    unfold wl; simp; omega
theorem listP_succ (l : Nat → Nat) (i : Nat) : listP l (i + 1) = listP l i ++ (lw (l i) ++ [10]) := by
  unfold listP listL
  rw [List.range_succ, List.map_append, List.flatMap_append]
  simp
theorem listP_len (l : Nat → Nat) : ∀ n, (∀ i, i < n → l i < 4294967296) → (listP l n).length ≤ n * 76
  | 0, _ => by simp [listP, listL]
  | n + 1, h => by
    have := listP_len l n fun i hi => h i (by omega)
    have := lw_len (l n) (h n (by omega))
    rw [listP_succ]
    simp only [List.length_append, List.length_singleton]; omega
theorem cells_app (l m : List UInt8) : Lib.byteCells l ++ Lib.strCells (ba m) = Lib.byteCells (l ++ m) := by
  unfold Lib.byteCells Lib.strCells
  simp
theorem below_grow (w : World) (k : Nat) (os : Array Obj) {B : Nat} (h : B ≤ w.heap.size) : Below B w (Go.Sort.grow (w.drewN k) os) := by
  refine ⟨rfl, rfl, rfl, ?_, fun j hj => ?_⟩
  · simp [Go.Sort.grow, World.drewN]
  · have : j < w.heap.size := by omega
    simp [Go.Sort.grow, World.drewN, Array.getElem?_append, this]
theorem cat3 (a b c : List UInt8) : ba a ++ ba b ++ ba c = ba (a ++ b ++ c) := by
  unfold ba
  rw [ba_add, ba_add]
theorem list_walk (bk off n cap : Nat) (l : Nat → Nat) (hl : ∀ i, i < n → l i < 4294967296) (W : World) (gt : GTw W) (hb : bk < W.heap.size) (hcell : ∀ i, i < n → W.cell? ⟨bk, off + i, none⟩ = some (.int .u32 (l i : Nat))) (hn : n ≤ 1000) :
    Calls Tryz.prog 7 #[.slice (some ⟨bk, off, none⟩) n cap] W fun e w' => e = .returned (.string (ba (listP l n))) ∧ Below W.heap.size W w' := by
  go_enter Tryz.func7, Tryz.ntmps7
  go_wp2_with fail
  go_loopw [13] (fun v wr => ∃ i : Nat, i ≤ n ∧ v = .int .i64 i ∧ Lib.IsBuilder 49 5 W.heap.size W.heap.size (Lib.byteCells (listP l i)) wr ∧ Below W.heap.size W wr) (fun v _ => n - (intOf v).toNat)
  case atStart =>
    refine ⟨0, Nat.zero_le _, rfl, ?_, ?_⟩
    · exact Lib.fresh_isBuilder 49 5 W
    · exact (Below.refl _ W).alloc (Nat.le_refl _) _
  case round =>
    obtain ⟨i, h1, rfl, hB, hb1⟩ := hrel
    by_cases hlt : i < n
    · have hlt' : (i : Int) < n := by omega
      have gtr : GTw wr := GTw.below gt hb1
      have hc : wr.cell? ⟨bk, off + i, none⟩ = some (.int .u32 (l i : Nat)) := by rw [← hcell i hlt]; exact hb1.cell (p := ⟨bk, off + i, none⟩) hb
      have hw := hl i hlt
      go_wp2_with (go_at_call 15; refine (dec_call (l i) hw _ gtr).mono ?_; rintro e w1 ⟨rfl, b1⟩)
      have b2 : Below wr.heap.size wr (w1.alloc (.cells #[.int .i64 (dec (l i)).1, .int .i64 (dec (l i)).2.1, .int .i64 (dec (l i)).2.2.1, .int .i64 (dec (l i)).2.2.2.1, .int .i32 (dec (l i)).2.2.2.2] 41)) := b1.alloc b1.size _
      generalize w1.alloc (.cells #[.int .i64 (dec (l i)).1, .int .i64 (dec (l i)).2.1, .int .i64 (dec (l i)).2.2.1, .int .i64 (dec (l i)).2.2.2.1, .int .i32 (dec (l i)).2.2.2.2] 41) = w2 at b2 ⊢
      go_at_call 16
      refine (text_call (dec (l i)) _ (GTw.below gtr b2)).mono ?_
      rintro e w3 ⟨rfl, b3'⟩
      have b3 : Below wr.heap.size wr w3 := b2.trans (b3'.mono b2.size)
      clear b1 b2 b3'
      go_wp2_with fail
      go_at_call 14
      have htl := txt_len (dec (l i))
      by_cases he : lineF (ba (txt (dec (l i)))) = ((l i : Int), true)
      · refine (line_call (ba (txt (dec (l i)))) (by rw [ba_size]; omega) _ (GTw.below gtr b3)).mono ?_
        rw [he]
        rintro e w4 ⟨rfl, b4'⟩
        have b4 : Below wr.heap.size wr w4 := b3.trans (b4'.mono b3.size)
        clear b3 b4'
        have hne : ((l i : Int) != (l i : Int)) = false := by simp
        go_wp2_with fail
        go_at_call 18
        rw [show (ba (txt (dec (l i))) ++ (⟨#[10]⟩ : ByteArray)) = ba (lw (l i) ++ [10]) from by unfold lw; rw [if_pos he]; exact ba_add _ [10]]
        have hl1 := listP_len l i fun j hj => hl j (by omega)
        have hl2 := lw_len (l i) hw
        refine (Tryz.Builder_WriteString W.heap.size W.heap.size _ (ba (lw (l i) ++ [10])) _ (isB_below hB b4) (by rw [ba_size]; unfold Lib.byteCells; simp; omega) (by have := b4.size; have := hb1.size; omega)).mono ?_
        rintro e w5 ⟨rfl, hB5, b5⟩
        rw [cells_app, ← listP_succ] at hB5
        have hb5 : Below W.heap.size W w5 := (hb1.trans (b4.mono hb1.size)).trans b5
        go_wp2_with fail
        exact ⟨⟨i + 1, by omega, by simp, .inr hB5, hb5⟩, by simp only [intOf]; omega⟩
      · refine (line_call (ba (txt (dec (l i)))) (by rw [ba_size]; omega) _ (GTw.below gtr b3)).mono ?_
        have hw0 : lw (l i) = wl (l i) := if_neg he
        generalize lineF (ba (txt (dec (l i)))) = vq at he
        obtain ⟨v, q⟩ := vq
        rintro e w4 ⟨rfl, b4'⟩
        have b4 : Below wr.heap.size wr w4 := b3.trans (b4'.mono b3.size)
        clear b3 b4'
        cases q with
        | false =>
          go_wp2_with fail
          go_at_call 17
          refine (fu_out (l i) (by omega) _ (tab_of (Rep.none _ (GTw.below gtr b4)))).mono ?_
          rintro e w5 ⟨rfl, k, os, hw5⟩
          have b5 : Below wr.heap.size wr w5 := b4.trans (by rw [hw5]; exact below_grow _ _ _ b4.size)
          clear hw5
          have hd := dec_len20 (l i) (by omega)
          go_wp2_with fail
          go_at_call 18
          rw [show ((⟨#[46, 119, 111, 114, 100, 32]⟩ : ByteArray) ++ ba (Lib.decDigits (l i)) ++ (⟨#[10]⟩ : ByteArray)) = ba (lw (l i) ++ [10]) from by rw [hw0, wl]; exact cat3 _ _ _]
          have hl1 := listP_len l i fun j hj => hl j (by omega)
          have hl2 := lw_len (l i) hw
          refine (Tryz.Builder_WriteString W.heap.size W.heap.size _ (ba (lw (l i) ++ [10])) _ (isB_below hB b5) (by rw [ba_size]; unfold Lib.byteCells; simp; omega) (by have := b5.size; have := hb1.size; omega)).mono ?_
          rintro e w6 ⟨rfl, hB5, b6⟩
          rw [cells_app, ← listP_succ] at hB5
          have hb5 : Below W.heap.size W w6 := (hb1.trans (b5.mono hb1.size)).trans b6
          go_wp2_with fail
          exact ⟨⟨i + 1, by omega, by simp, .inr hB5, hb5⟩, by simp only [intOf]; omega⟩
        | true =>
          have hv : (v != (l i : Int)) = true := by
            simp only [bne_iff_ne, ne_eq]
            rintro rfl; exact he rfl
          go_wp2_with fail
          go_at_call 17
          refine (fu_out (l i) (by omega) _ (tab_of (Rep.none _ (GTw.below gtr b4)))).mono ?_
          rintro e w5 ⟨rfl, k, os, hw5⟩
          have b5 : Below wr.heap.size wr w5 := b4.trans (by rw [hw5]; exact below_grow _ _ _ b4.size)
          clear hw5
          have hd := dec_len20 (l i) (by omega)
          go_wp2_with fail
          go_at_call 18
          rw [show ((⟨#[46, 119, 111, 114, 100, 32]⟩ : ByteArray) ++ ba (Lib.decDigits (l i)) ++ (⟨#[10]⟩ : ByteArray)) = ba (lw (l i) ++ [10]) from by rw [hw0, wl]; exact cat3 _ _ _]
          have hl1 := listP_len l i fun j hj => hl j (by omega)
          have hl2 := lw_len (l i) hw
          refine (Tryz.Builder_WriteString W.heap.size W.heap.size _ (ba (lw (l i) ++ [10])) _ (isB_below hB b5) (by rw [ba_size]; unfold Lib.byteCells; simp; omega) (by have := b5.size; have := hb1.size; omega)).mono ?_
          rintro e w6 ⟨rfl, hB5, b6⟩
          rw [cells_app, ← listP_succ] at hB5
          have hb5 : Below W.heap.size W w6 := (hb1.trans (b5.mono hb1.size)).trans b6
          go_wp2_with fail
          exact ⟨⟨i + 1, by omega, by simp, .inr hB5, hb5⟩, by simp only [intOf]; omega⟩
    · have e : i = n := by omega
      subst e
      go_wp2_with fail
      go_at_call 19
      refine (Tryz.Builder_String_any W.heap.size W.heap.size _ _ hB hb1.size).mono ?_
      rintro e w6 ⟨rfl, b6⟩
      go_wp2_with fail
      go_ret
      exact ⟨rfl, hb1.trans b6⟩
end Go.Proofs.YtgglclmilocgcaaGreatDoor.Md
