/- The assembler's numbers: strconv.ParseInt, ParseUint and FormatUint, as contracts. -/
import Derived.Test.YtgglclmilocgcaaGreatDoorFu
import Derived.Test.YtgglclmilocgcaaGreatDoorTy
set_option linter.unusedVariables false
set_option linter.unusedSimpArgs false
namespace Go.Proofs.YtgglclmilocgcaaGreatDoor.Md
open Go.RowKit Go.Proofs.YtgglclmilocgcaaGreatDoor.Ae Go.Proofs.YtgglclmilocgcaaGreatDoor.Bv Go.Proofs.YtgglclmilocgcaaGreatDoor
/-- A digits' number, with an 'x' ahead or without. -/
def endV (l : List UInt8) : Lib.NumEnd Int → Int
  | .ok v => v
  | .«syntax» => 0
  | .range => Lib.intSat 32 l
def numF (s : ByteArray) : Int := endV (Lib.trimPrefix s.data.toList [120]) (Lib.parseIntB 32 (Lib.trimPrefix s.data.toList [120]))
theorem var_syn {R : Ren} {H : Hp} {w : World} (h : Rep R H w) : ∃ tp p, w.var? Tryz.prog "strconv.ErrSyntax" = some #[.iface tp p] := by
  obtain ⟨⟨cs, ty, fr, h1, tp, p, rfl⟩, _⟩ := h.tab _ (List.mem_cons_of_mem _ (List.mem_cons_of_mem _ List.mem_cons_self))
  refine ⟨tp, p, ?_⟩
  unfold World.var?
  rw [show Tryz.prog.globalNamed "strconv.ErrSyntax" = some 2 by kernel_rfl]
  simp only [Option.bind]
  rw [h1]
theorem var_rng {R : Ren} {H : Hp} {w : World} (h : Rep R H w) : ∃ tp p, w.var? Tryz.prog "strconv.ErrRange" = some #[.iface tp p] := by
  obtain ⟨⟨cs, ty, fr, h1, tp, p, rfl⟩, _⟩ := h.tab _ (List.mem_cons_of_mem _ (List.mem_cons_of_mem _ (List.mem_cons_of_mem _ List.mem_cons_self)))
  refine ⟨tp, p, ?_⟩
  unfold World.var?
  rw [show Tryz.prog.globalNamed "strconv.ErrRange" = some 3 by kernel_rfl]
  simp only [Option.bind]
  rw [h1]
theorem ml_int {R : Ren} {H : Hp} {w : World} (h : Rep R H w) : ∃ m, w.cell? ⟨1, 0, none⟩ = some (.int .i64 m) := by
  obtain ⟨⟨cs, ty, fr, h1, m, rfl⟩, _⟩ := h.tab _ (List.mem_cons_of_mem _ List.mem_cons_self)
  refine ⟨m, ?_⟩
  unfold World.cell?
  rw [h1]
  rfl
theorem bw_below (w : World) (e : TypeId) (s : ByteArray) : Below w.heap.size w (Lib.bytesWorld w e s) := Lib.bytesWorld_below w e s
theorem num_call (s : ByteArray) (hs : s.size ≤ 281474976710656) (R : Ren) (H : Hp) (w : World) (hr : Rep R H w) :
    Calls Tryz.prog 58 #[.string s] w fun e w' => e = .returned (.int .i64 (numF s)) ∧ Below w.heap.size w w' := by
  obtain ⟨tp, p, h1⟩ := var_syn hr
  obtain ⟨tq, q, h2⟩ := var_rng hr
  have hl : (⟨(Lib.trimPrefix s.data.toList [120]).toArray⟩ : ByteArray).size ≤ 281474976710656 := by
    rw [ba_size]
    unfold Lib.trimPrefix
    have : s.data.toList.length = s.size := by rw [Array.length_toList]; rfl
    split
    · rw [List.length_drop]; omega
    · omega
  have hpi : Calls Tryz.prog 81 #[.string ⟨(Lib.trimPrefix s.data.toList [120]).toArray⟩, .int .i64 10, .int .i64 32] w fun e w' => (∃ x, e = .returned (.tuple #[.int .i64 (numF s), x])) ∧ Below w.heap.size w w' := by
    unfold numF
    generalize Lib.trimPrefix s.data.toList [120] = l at hl ⊢
    obtain ⟨r, hp⟩ : ∃ r, Lib.parseIntB 32 l = r := ⟨_, rfl⟩
    rw [hp]
    cases r with
    | ok v =>
      refine (Tryz.strconv_ParseInt_10_at32_ok ⟨l.toArray⟩ (by omega) v (by simpa using hp) w).mono ?_
      rintro e w' ⟨rfl, h⟩
      refine ⟨⟨_, rfl⟩, ?_⟩
      rcases h with rfl | ⟨t, rfl⟩
      · exact Below.refl _ _
      · exact bw_below w _ t
    | «syntax» =>
      refine (Tryz.strconv_ParseInt_10_at32_syntax_var ⟨l.toArray⟩ hl (by simpa using hp) tp p w h1).mono ?_
      rintro e w' ⟨N, rfl, _, _, hb⟩
      exact ⟨⟨_, rfl⟩, hb⟩
    | range =>
      refine (Tryz.strconv_ParseInt_10_at32_range_var ⟨l.toArray⟩ hl (by simpa using hp) tq q w h2).mono ?_
      rintro e w' ⟨N, rfl, _, _, hb⟩
      exact ⟨⟨_, rfl⟩, hb⟩
  clear h1 h2 hl hr
  generalize numF s = z at hpi ⊢
  go_enter Tryz.func58, Tryz.ntmps58
  go_wp2_with (first
    | (go_at_call 82; refine (Tryz.strings_TrimPrefix _ _ _).mono ?_; rintro e w' ⟨rfl, rfl⟩)
    | (go_at_call 81; refine hpi.mono ?_; rintro e w' ⟨⟨x, rfl⟩, hb⟩))
  go_ret
  exact ⟨rfl, hb⟩
theorem number1 (s : ByteArray) (hs : s.size ≤ 281474976710656) (H : Hp) : AC Tryz.prog 58 [.v (.str s)] H (RetH H (i64 (numF s))) := by
  refine AC.of_grown (r := .int .i64 (numF s)) ⟨_, Tryz.func58, rfl, rfl⟩ (fun _ => rfl) (fun R H w vs ha hr => ?_) H
  cases ha with
  | cons hx ht =>
    cases ht
    have hx : _ = Value.string s := hx
    subst hx
    refine (num_call s hs R H w hr).mono ?_
    rintro e w' ⟨rfl, hb⟩
    exact ⟨rfl, hb.os, hb.tape, hb.output, hb.size, hb.block⟩
theorem fu1 (u : Nat) (hu : u < 18446744073709551616) (H : Hp) : AC Tryz.prog 17 [.v (.int .u64 u), i64 10] H (RetH H (tx (Lib.decDigits u))) := by
  refine AC.of_grown (r := .str ⟨(Lib.decDigits u).toArray⟩) ⟨_, Tryz.func17, rfl, rfl⟩ (fun _ => rfl) (fun R H w vs ha hr => ?_) H
  cases ha with
  | cons hx ht =>
    cases ht with
    | cons hy ht =>
      cases ht
      have hx : _ = Value.int .u64 (u : Int) := hx
      have hy : _ = Value.int .i64 10 := hy
      subst hx hy
      refine (fu_out u hu w (tab_of hr)).mono ?_
      rintro e w' ⟨rfl, k, os, rfl⟩
      refine ⟨rfl, rfl, rfl, rfl, ?_, fun k hk => ?_⟩
      · simp [Go.Sort.grow, World.drewN]
      · simp [Go.Sort.grow, World.drewN, Array.getElem?_append, hk]
/-- A text cut into pieces. -/
abbrev strs (L : List ByteArray) : List Seg := L.map fun s => .one (.str s)
def cutB (s sep : ByteArray) : List ByteArray := Lib.splitB sep 0 (Lib.countB s sep) s
theorem cut_len (s sep : ByteArray) (h1 : 1 ≤ sep.size) : (cutB s sep).length = Lib.countB s sep + 1 := Lib.splitB_all sep h1 0 _ s rfl
theorem rels_strs {R : Ren} : ∀ L : List ByteArray, rels R (flat (strs L)) (L.map Value.string)
  | [] => .nil
  | s :: L => .cons rfl (rels_strs L)
theorem oks_strs : ∀ L : List ByteArray, oks (strs L) := fun L s hs => by
  simp at hs
  obtain ⟨x, _, rfl⟩ := hs
  trivial
theorem split1 (s sep : ByteArray) (hs : s.size < 4294967281) (h1 : 1 ≤ sep.size) (H : Hp) : AC Tryz.prog 13 [.v (.str s), .v (.str sep)] H (fun v H' => v = .v (.sl H.length 0 0 (cutB s sep).length 1) ∧ H' = H ++ [.rw (strs (cutB s sep))]) := by
  refine ⟨⟨_, Tryz.func13, rfl, rfl⟩, fun R w vs ha hr => ?_⟩
  cases ha with
  | cons hx ht =>
    cases ht with
    | cons hy ht =>
      cases ht
      have hx : _ = Value.string s := hx
      have hy : _ = Value.string sep := hy
      subst hx hy
      obtain ⟨m, hm⟩ := ml_int hr
      refine (Tryz.strings_Split s sep m w hs hm h1).mono ?_
      rintro e w' ⟨rfl, rfl⟩
      have hl := cut_len s sep h1
      obtain ⟨hr', hg⟩ := hr.newP (cs := ((cutB s sep).map Value.string).toArray) (ty := 9) (l := strs (cutB s sep)) (xs := (cutB s sep).map Value.string) (rest := []) (oks_strs _) (by simp) (rels_strs _)
      refine ⟨_, _, _, _, ⟨rfl, rfl⟩, rfl, ?_, hr', hg⟩
      refine ⟨w.heap.size, (0, ((cutB s sep).map Value.string).toArray.size), by simp [Ren.add], .inl ⟨Lib.countB s sep + 1, ?_, ?_, ?_, ?_⟩⟩
      · rw [hl]
      · omega
      · simp only [List.size_toArray, List.length_map, hl]; omega
      · have := Lib.countB_le sep h1 s.size s (Nat.le_refl _)
        unfold maxLen; omega
theorem Rep.addDead {R : Ren} {H : Hp} {w : World} (h : Rep R H w) (x : Nat × (Nat × Nat)) : Rep (R.add H.length x) (H ++ [.dead]) w ∧ Go R H w (R.add H.length x) (H ++ [.dead]) w := by
  have get : ∀ {n : Nat} {b : Blk}, (H ++ [.dead])[n]? = some b → b ≠ .dead → n < H.length ∧ H[n]? = some b := by
    intro n b hn hb
    rcases getElem?_append_len hn with ⟨h1, h2⟩ | ⟨rfl, e⟩
    · exact ⟨h1, h2⟩
    · exact absurd e hb
  have old : ∀ {n : Nat}, n < H.length → R.add H.length x n = R n := fun {n} hn => by unfold Ren.add; rw [if_neg (by omega)]
  have up : ∀ n y, R n = some y → R.add H.length x n = some y := fun n y hn => by
    have : n < H.length := by
      rcases Nat.lt_or_ge n H.length with c | c
      · exact c
      · rw [h.dom n c] at hn; cases hn
    rw [old this]; exact hn
  refine ⟨⟨fun y hy => ⟨(h.tab y hy).1, fun n l c hn hR => ?_⟩, fun n b l hn hs => ?_, fun n hn => ?_, fun n l m c hn hR => ?_, fun n n' l b l' m c c' hn hn' hs h1 h2 => ?_⟩, ⟨by simp, fun n hn => old hn, rfl, rfl, rfl, Nat.le_refl _, fun _ _ _ => rfl, fun n b hn hb => ?_, fun n b m c hn hb hd hR => ?_⟩⟩
  · obtain ⟨h1, h2⟩ := get hn (by simp)
    rw [old h1] at hR
    exact (h.tab y hy).2 n l c h2 hR
  · obtain ⟨h1, h2⟩ := get hn (by rintro rfl; cases hs)
    obtain ⟨m, c, r1, r2⟩ := h.holds n b l h2 hs
    exact ⟨m, c, by rw [old h1]; exact r1, r2.mono up⟩
  · simp at hn
    unfold Ren.add
    rw [if_neg (by omega)]
    exact h.dom n (by omega)
  · obtain ⟨h1, h2⟩ := get hn (by simp)
    rw [old h1] at hR
    exact h.own n l m c h2 hR
  · obtain ⟨g1, g2⟩ := get hn (by simp)
    obtain ⟨g3, g4⟩ := get hn' (by rintro rfl; cases hs)
    rw [old g1] at h1
    rw [old g3] at h2
    exact h.inj n n' l b l' m c c' g2 g4 hs h1 h2
  · rw [List.getElem?_append_left hn] at hb
    by_cases e : b = .dead
    · exact .inl e
    · exact .inr ⟨b, hb, rfl, e⟩
  · obtain ⟨h1, _⟩ := get hb hd
    omega
/-- ParseUint at base 10 and 32 bits: the number, or an error. -/
theorem pu1 (b : ByteArray) (hb : b.size ≤ 281474976710656) (H : Hp) : AC Tryz.prog 25 [.v (.str b), i64 10, i64 32] H
    (fun v H' => (∃ u : Nat, Lib.parseUintB 32 b.data.toList = .ok u ∧ v = .tup [.v (.int .u64 u), .v .nilI] ∧ H' = H) ∨ ((∀ u, Lib.parseUintB 32 b.data.toList ≠ .ok u) ∧ ∃ z : Int, v = .tup [.v (.int .u64 z), .v (.if1 114 (.ptr H.length 0 0 0))] ∧ H' = H ++ [.dead])) := by
  refine ⟨⟨_, Tryz.func25, rfl, rfl⟩, fun R w vs ha hr => ?_⟩
  cases ha with
  | cons hx ht =>
    cases ht with
    | cons hy ht =>
      cases ht with
      | cons hz ht =>
        cases ht
        have hx : _ = Value.string b := hx
        have hy : _ = Value.int .i64 10 := hy
        have hz : _ = Value.int .i64 32 := hz
        subst hx hy hz
        obtain ⟨tp, p, h1⟩ := var_syn hr
        obtain ⟨tq, q, h2⟩ := var_rng hr
        have bad : ∀ (z : Int) (N : Nat) (w' : World), (∀ u, Lib.parseUintB 32 b.data.toList ≠ .ok u) → Below w.heap.size w w' → ∃ v x H' R', ((∃ u : Nat, Lib.parseUintB 32 b.data.toList = .ok u ∧ v = AV.tup [.v (.int .u64 u), .v .nilI] ∧ H' = H) ∨ ((∀ u, Lib.parseUintB 32 b.data.toList ≠ .ok u) ∧ ∃ z : Int, v = AV.tup [.v (.int .u64 z), .v (.if1 114 (.ptr H.length 0 0 0))] ∧ H' = H ++ [.dead])) ∧ Ending.returned (.tuple #[.int .u64 z, .iface 114 (.pointer (some ⟨N, 0, none⟩))]) = .returned x ∧ AV.rel R' v x ∧ Rep R' H' w' ∧ Go R H w R' H' w' := by
          intro z N w' hn hw
          have hr' := hr.grown hw.block
          obtain ⟨a1, a2⟩ := Rep.addDead hr' (N, (0, 0))
          exact ⟨_, _, _, _, .inr ⟨hn, z, rfl, rfl⟩, rfl, ⟨_, .cons rfl (.cons ⟨_, ⟨N, (0, 0), by simp [Ren.add], rfl⟩, rfl⟩ .nil), rfl⟩, a1, (Go.grown hw.os hw.tape hw.output hw.size hw.block).trans a2⟩
        obtain ⟨r, hp⟩ : ∃ r, Lib.parseUintB 32 b.data.toList = r := ⟨_, rfl⟩
        cases r with
        | ok u =>
          refine (Tryz.strconv_ParseUint_10_at32_ok b (by omega) u hp w).mono ?_
          rintro e w' ⟨rfl, h⟩
          have hw : Below w.heap.size w w' := by
            rcases h with rfl | rfl
            · exact Below.refl _ _
            · exact bw_below w _ _
          exact ⟨_, _, H, R, .inl ⟨u, hp, rfl, rfl⟩, rfl, ⟨_, .cons rfl (.cons rfl .nil), rfl⟩, hr.grown hw.block, Go.grown hw.os hw.tape hw.output hw.size hw.block⟩
        | «syntax» =>
          refine (Tryz.strconv_ParseUint_10_at32_syntax_var b hb hp tp p w h1).mono ?_
          rintro e w' ⟨N, rfl, _, _, hw⟩
          exact bad 0 N w' (by rw [hp]; intro u hu; cases hu) hw
        | range =>
          refine (Tryz.strconv_ParseUint_10_at32_range_var b hb hp tq q w h2).mono ?_
          rintro e w' ⟨N, rfl, _, _, hw⟩
          exact bad 4294967295 N w' (by rw [hp]; intro u hu; cases hu) hw
end Go.Proofs.YtgglclmilocgcaaGreatDoor.Md
