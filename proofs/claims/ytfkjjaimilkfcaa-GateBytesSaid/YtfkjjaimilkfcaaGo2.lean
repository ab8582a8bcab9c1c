/- The law GateOrder, walked. -/
import Derived.Test.YtfkjjaimilkfcaaGk
import Derived.Test.YtfkjjaimilkfcaaWi
import Derived.IntWalk
set_option linter.unusedVariables false
set_option linter.unusedSimpArgs false
namespace Go.Proofs.Ytfkjjaimilkfcaa.Gt
open Go.RowKit Go.Proofs.Ytfkjjaimilkfcaa.Bv Go.Proofs.Ytfkjjaimilkfcaa.Al Go.Proofs.Ytfkjjaimilkfcaa.Ap Go.Proofs.Ytfkjjaimilkfcaa.Az Go.Proofs.Ytfkjjaimilkfcaa.Wi
/-- Seven cells from a place on. -/
structure Elem (W : World) (b o : Nat) (r : R) : Prop where
  c0 : W.cell? ⟨b, o, none⟩ = some (.int .u32 r.pc)
  c1 : W.cell? ⟨b, o + 1, none⟩ = some (.int .u32 r.value)
  c2 : W.cell? ⟨b, o + 2, none⟩ = some (.int .i64 r.rd)
  c3 : W.cell? ⟨b, o + 3, none⟩ = some (.bool r.store)
  c4 : W.cell? ⟨b, o + 4, none⟩ = some (.int .u32 r.addr)
  c5 : W.cell? ⟨b, o + 5, none⟩ = some (.int .u32 r.data)
  c6 : W.cell? ⟨b, o + 6, none⟩ = some (.int .i64 r.mask)
theorem Elem.below {W W' : World} {b o : Nat} {r : R} (h : Elem W b o r) (hb : b < W.heap.size) (k : Below W.heap.size W W') : Elem W' b o r :=
  ⟨(k.cell (p := ⟨b, o, none⟩) hb).trans h.c0, (k.cell (p := ⟨b, o + 1, none⟩) hb).trans h.c1, (k.cell (p := ⟨b, o + 2, none⟩) hb).trans h.c2, (k.cell (p := ⟨b, o + 3, none⟩) hb).trans h.c3, (k.cell (p := ⟨b, o + 4, none⟩) hb).trans h.c4, (k.cell (p := ⟨b, o + 5, none⟩) hb).trans h.c5, (k.cell (p := ⟨b, o + 6, none⟩) hb).trans h.c6⟩
theorem Elem.kept {W W' : World} {b o : Nat} {r : R} (h : Elem W b o r) (k : W'.heap[b]? = W.heap[b]?) : Elem W' b o r :=
  ⟨(World.cell?_of_block (a := ⟨b, o, none⟩) k).trans h.c0, (World.cell?_of_block (a := ⟨b, o + 1, none⟩) k).trans h.c1, (World.cell?_of_block (a := ⟨b, o + 2, none⟩) k).trans h.c2, (World.cell?_of_block (a := ⟨b, o + 3, none⟩) k).trans h.c3, (World.cell?_of_block (a := ⟨b, o + 4, none⟩) k).trans h.c4, (World.cell?_of_block (a := ⟨b, o + 5, none⟩) k).trans h.c5, (World.cell?_of_block (a := ⟨b, o + 6, none⟩) k).trans h.c6⟩
/-- A slice that came in, of what was retired. -/
def Args (W : World) (ad : Option Addr) (L : List R) : Prop := ∀ k (hk : k < L.length), ∃ b off, ad = some ⟨b, off, none⟩ ∧ b < W.heap.size ∧ Elem W b (off + k * 7) (L[k])
structure R.ok (r : R) : Prop where
  v : r.value < 4294967296
  d : r.data < 4294967296
def R.up (r : R) : R := { r with value := (r.value + 1) % 4294967296 }
theorem up_ne (r : R) (h : r.ok) : r ≠ r.up := by
  intro e
  have := congrArg R.value e
  simp only [R.up] at this
  have := h.v
  omega
theorem cWaitsQ {W : World} {B p : Nat} {g : Option Nat} {l : List R} (h : Gate W B p g l) (hm : l.length ≤ 1000) (n : Nat) : Calls Try.prog 11 #[.pointer (some ⟨p, 0, none⟩)] (W.drewN n) fun e w' => e = .returned (.int .i64 l.length) ∧ w' = W.drewN n :=
  (cWaits (W.drewN n) B p g l (h.kept (Nat.le_refl _) rfl (fun _ _ => rfl)) hm).mono fun _ _ ⟨h1, h2⟩ => ⟨h1, h2.symm⟩
set_option maxHeartbeats 2000000 in
set_option maxRecDepth 100000 in
theorem order_few (ad : Option Addr) (c : Nat) (L : List R) (bad : Int) (hbad : -9223372036854775808 ≤ bad ∧ bad ≤ 9223372036854775807) (W : World) (hA : Args W ad L) (hok : ∀ r ∈ L, r.ok) (hm : L.length ≤ 9223372036854775807) (hc : L.length < 17) :
    Calls Try.prog 3 #[.slice ad L.length c, .int .i64 bad] W fun e w' => e = .returned (.bool true) ∧ Below W.heap.size W w' := by
  have HA := Lib.hid hA
  have HOK := Lib.hid hok
  have HBAD := Lib.hid hbad
  clear hA hok hbad
  skip
  go_enter Try.func3, Try.ntmps3
  go_wp2_with fail
  refine (cNew _).mono ?_
  rintro e w1 ⟨rfl, G1, b1⟩
  have hs1 := G1.lt
  generalize hP : W.heap.size = P at *
  go_wp2_with fail
  go_loopw [7] (fun i wr => ∃ k : Nat, k ≤ L.length ∧ i = .int .i64 k ∧ (∃ g, Gate wr P P g (L.take k)) ∧ Below P W wr) (fun i _ => L.length - (intOf i).toNat)
  case atStart => exact ⟨0, Nat.zero_le _, rfl, ⟨none, G1⟩, b1⟩
  case round =>
    clear G1 b1 hs1
    obtain ⟨k, hk, rfl, ⟨g, G⟩, hb⟩ := hrel
    by_cases hlt : k < L.length
    · have hkl : k < L.length := by omega
      obtain ⟨b, off, rfl, hbW, E⟩ := HA.out k hkl
      have E2 := E.below hbW (by rw [hP]; exact hb)
      have ht := List.take_succ_eq_append_getElem hkl
      obtain ⟨r, hr⟩ : ∃ r, L[k] = r := ⟨_, rfl⟩
      rw [hr] at E2 ht
      obtain ⟨c0, c1, c2, c3, c4, c5, c6⟩ := E2
      have HT := Lib.hid ht
      clear E ht hr
      go_wp2_with fail
      refine (cFirst _ _ _ _ _ r G (by rw [List.length_take]; omega) (by have := G.lt; omega)).mono ?_
      rintro e w2 ⟨rfl, g2, G2, hg2, o2⟩
      have hb2 := hb.trans (o2.belowG G)
      rw [← HT.out] at G2
      clear o2 hg2 c0 c1 c2 c3 c4 c5 c6 G hb
      go_wp2_with fail
      go_roundw
      case rel => exact ⟨k + 1, by omega, by go_num, ⟨g2, G2⟩, hb2⟩
      case measure => simp [intOf]; omega
    · obtain rfl : k = L.length := by omega
      go_wp2_with fail
      refine (cWithin bad L.length (by omega) HBAD.out _).mono ?_
      rintro e w2 ⟨kk, hkk, rfl, rfl⟩
      obtain ⟨M, hM⟩ : ∃ M, L.take L.length = M := ⟨_, rfl⟩
      rw [hM] at G
      have hMl : M.length = L.length := by rw [← hM, List.length_take]; omega
      have hMg : ∀ j (hj : j < L.length) (hl : j < L.length), M.drop j = L[j] :: M.drop (j + 1) := by
        intro j hj hl
        rw [List.drop_eq_getElem_cons (by omega)]
        congr 1
        subst hM
        exact List.getElem_take
      have HML := Lib.hid hMl
      have HMG := Lib.hid hMg
      clear hM hMl hMg
      go_wp2_with fail
      go_loopw [9] (fun i wr => ∃ k : Nat, k ≤ L.length ∧ i = .int .i64 k ∧ (∃ g, Gate wr P P g (M.drop k)) ∧ Below P W wr) (fun i _ => L.length - (intOf i).toNat)
      case atStart => exact ⟨0, Nat.zero_le _, rfl, ⟨g, G⟩, hb⟩
      case round =>
        clear G hb
        obtain ⟨k, hk, rfl, ⟨g, G⟩, hb⟩ := hrel
        by_cases hlt : k < L.length
        · have hkl : k < L.length := by omega
          obtain ⟨b, off, rfl, hbW, E⟩ := HA.out k hkl
          have E2 := E.below hbW (by rw [hP]; exact hb)
          have hcons := HMG.out k hlt hkl
          have hrok := HOK.out _ (List.getElem_mem hkl)
          have hl1 : ((M.drop k).length : Int) = (L.length : Int) - k := by rw [List.length_drop, HML.out]; omega
          have hl2 : ((M.drop (k + 1)).length : Int) = ((L.length : Int) - 1) - k := by rw [List.length_drop, HML.out]; omega
          have hl3 : (M.drop (k + 1)).length ≤ 1000 := by rw [List.length_drop, HML.out]; omega
          obtain ⟨r, hr⟩ : ∃ r, L[k] = r := ⟨_, rfl⟩
          rw [hr] at E2 hcons hrok
          generalize hM2 : M.drop (k + 1) = M2 at *
          have HM2 := Lib.hid hM2
          clear hM2
          generalize M.drop k = Mk at *
          have hbW' : b < wr.heap.size := by have := hb.size; omega
          have HN := Lib.hid hcons
          have HR := Lib.hid hrok
          have HL2 := Lib.hid hl2
          clear E hr hcons hrok hl2
          obtain ⟨u, hu, hu32, hne⟩ : ∃ u : Nat, ((r.value : Int) + 1) % 4294967296 = (u : Int) ∧ u < 4294967296 ∧ u ≠ r.value := by
            have := HR.out.v
            exact ⟨(r.value + 1) % 4294967296, by omega, by omega, by omega⟩
          by_cases hkk2 : k = kk
          · have hb2 : ((k : Int) == (kk : Int)) = true := by rw [hkk2]; simp
            obtain ⟨c0, c1, c2, c3, c4, c5, c6⟩ := E2
            have HU := Lib.hid hne
            have HK2 := Lib.hid hkk2
            clear hne hkk2
            go_wp2_with fail
            obtain ⟨rx, hrx⟩ : ∃ rx : R, rx = ⟨r.pc, u, r.rd, r.store, r.addr, r.data, r.mask⟩ := ⟨_, rfl⟩
            have hnx : r ≠ rx := by intro e; rw [hrx] at e; exact HU.out (congrArg R.value e).symm
            have bX : Below wr.heap.size wr (wr.alloc (.cells #[.int .u32 r.pc, .int .u32 u, .int .i64 r.rd, .bool r.store, .int .u32 r.addr, .int .u32 r.data, .int .i64 r.mask] 28)) := (Below.refl _ _).alloc (Nat.le_refl _) _
            have GX := G.below bX
            have hbX := below_nextB hb bX (by have := hb.size; omega)
            have EX := Elem.below ⟨c0, c1, c2, c3, c4, c5, c6⟩ hbW' bX
            have hbX' := bX.size
            clear c0 c1 c2 c3 c4 c5 c6 G hb bX
            generalize wr.alloc _ = wx at *
            refine (cSecond_no _ _ _ _ r ⟨r.pc, u, r.rd, r.store, r.addr, r.data, r.mask⟩ M2 (HN.out ▸ GX) hl3 (by rw [← hrx]; exact hnx)).mono ?_
            rintro e w3 ⟨rfl, b3⟩
            have G3 := GX.below b3
            have hb3 := below_nextB hbX b3 (by have := hbX.size; omega)
            have E3 := Elem.below EX (by omega) b3
            have hbW3 : b < w3.heap.size := by have := b3.size; omega
            clear GX hbX b3 EX
            go_wp2_with fail
            have b4 := (Below.refl w3.heap.size w3).alloc (Nat.le_refl _) zbox
            have G4 := G3.below b4
            have hb4 := below_nextB hb3 b4 (by have := hb3.size; omega)
            have E4 := Elem.below E3 hbW3 b4
            have hbW4 : b < (w3.alloc zbox).heap.size := by simp; omega
            clear G3 hb3 b4 E3
            change Calls _ _ _ (w3.alloc zbox) _
            generalize w3.alloc zbox = w4 at *
            refine (cWaits _ _ _ _ _ G4 (by omega)).mono ?_
            rintro e w5 ⟨rfl, rfl⟩
            obtain ⟨c0, c1, c2, c3, c4, c5, c6⟩ := E4
            go_wp2_with fail
            refine (cSecond_yes _ _ _ _ r M2 (HN.out ▸ G4) hl3 (by have := G4.lt; omega)).mono ?_
            rintro e w6 ⟨rfl, G6, o6⟩
            have hbk := o6.block b hbW4 (by omega) (by intro e; have := G4.own_lt b e.symm; omega)
            have E6 := Elem.kept ⟨c0, c1, c2, c3, c4, c5, c6⟩ hbk
            have hb6 := hb4.trans (o6.belowG G4)
            have hbW6 : b < w6.heap.size := by have := o6.size; omega
            have G7 := G6.below ((Below.refl w6.heap.size w6).alloc (Nat.le_refl _) (box r))
            have E7 := Elem.below E6 hbW6 ((Below.refl w6.heap.size w6).alloc (Nat.le_refl _) (box r))
            have hb7 := hb6.alloc (by have := hb6.size; omega) (box r)
            have Y7 := row7 (heap_alloc_new w6 (box r))
            clear c0 c1 c2 c3 c4 c5 c6 G4 hb4 hbW4 o6 hbk E6 hb6 G6
            have hneq := neq28 r r
            rw [show (!decide (r = r)) = false from by rw [decide_eq_true rfl]; rfl] at hneq
            have hl2 := HL2.out
            have hw1 : IntKind.i64.wrap ((L.length : Int) - 1) = ((L.length : Int) - 1) := IntWalk.i64_in _ (by omega)
            have hw2 : IntKind.i64.wrap (((L.length : Int) - 1) - (k : Int)) = ((L.length : Int) - 1) - k := IntWalk.i64_in _ (by omega)
            have hlt' : (k : Int) < (L.length : Int) := by omega
            obtain ⟨⟨y0, y1, y2, y3, y4, y5, y6⟩, _⟩ := Y7
            obtain ⟨c0, c1, c2, c3, c4, c5, c6⟩ := E7
            go_wp2_with fail
            clear hl1
            generalize w6.alloc _ = w7 at *
            go_quiet ((go_at_call 11; exact Calls.quiet_of_same (cWaitsQ G7 (by omega) _)))
            go_wp2_with fail
            go_roundw
            case rel => exact ⟨k + 1, by omega, by go_num, ⟨g, by rw [HM2.out]; exact G7.kept (Nat.le_refl _) rfl (fun _ _ => rfl)⟩, drewN_below hb7 _⟩
            case measure => simp [intOf]; omega
          · have hb2 : ((k : Int) == (kk : Int)) = false := by rw [beq_eq_false_iff_ne]; omega
            obtain ⟨c0, c1, c2, c3, c4, c5, c6⟩ := E2
            have G4 := G
            have hb4 := hb
            have hbW4 := hbW'
            clear hu hne hkk2 G hb
            generalize hw4 : wr = w4 at *
            go_wp2_with fail
            refine (cSecond_yes _ _ _ _ r M2 (HN.out ▸ G4) hl3 (by have := G4.lt; omega)).mono ?_
            rintro e w6 ⟨rfl, G6, o6⟩
            have hbk := o6.block b hbW4 (by omega) (by intro e; have := G4.own_lt b e.symm; omega)
            have E6 := Elem.kept ⟨c0, c1, c2, c3, c4, c5, c6⟩ hbk
            have hb6 := hb4.trans (o6.belowG G4)
            have hbW6 : b < w6.heap.size := by have := o6.size; omega
            have G7 := G6.below ((Below.refl w6.heap.size w6).alloc (Nat.le_refl _) (box r))
            have E7 := Elem.below E6 hbW6 ((Below.refl w6.heap.size w6).alloc (Nat.le_refl _) (box r))
            have hb7 := hb6.alloc (by have := hb6.size; omega) (box r)
            have Y7 := row7 (heap_alloc_new w6 (box r))
            clear c0 c1 c2 c3 c4 c5 c6 G4 hb4 hbW4 o6 hbk E6 hb6 G6
            have hneq := neq28 r r
            rw [show (!decide (r = r)) = false from by rw [decide_eq_true rfl]; rfl] at hneq
            have hl2 := HL2.out
            have hw1 : IntKind.i64.wrap ((L.length : Int) - 1) = ((L.length : Int) - 1) := IntWalk.i64_in _ (by omega)
            have hw2 : IntKind.i64.wrap (((L.length : Int) - 1) - (k : Int)) = ((L.length : Int) - 1) - k := IntWalk.i64_in _ (by omega)
            have hlt' : (k : Int) < (L.length : Int) := by omega
            obtain ⟨⟨y0, y1, y2, y3, y4, y5, y6⟩, _⟩ := Y7
            obtain ⟨c0, c1, c2, c3, c4, c5, c6⟩ := E7
            go_wp2_with fail
            clear hl1
            generalize w6.alloc _ = w7 at *
            go_quiet ((go_at_call 11; exact Calls.quiet_of_same (cWaitsQ G7 (by omega) _)))
            go_wp2_with fail
            go_roundw
            case rel => exact ⟨k + 1, by omega, by go_num, ⟨g, by rw [HM2.out]; exact G7.kept (Nat.le_refl _) rfl (fun _ _ => rfl)⟩, drewN_below hb7 _⟩
            case measure => simp [intOf]; omega
        · obtain rfl : k = L.length := by omega
          go_wp2_with fail
          refine (cknown _).mono ?_
          rintro e w5 ⟨rfl, b5⟩
          go_wp2_with fail
          go_ret
          exact ⟨rfl, by subst hP; exact below_next hb b5⟩
set_option maxHeartbeats 2000000 in
set_option maxRecDepth 100000 in
theorem order_many (ad : Option Addr) (c : Nat) (L : List R) (bad : Int) (hbad : -9223372036854775808 ≤ bad ∧ bad ≤ 9223372036854775807) (W : World) (hA : Args W ad L) (hok : ∀ r ∈ L, r.ok) (hm : L.length ≤ 9223372036854775807) (hc : 16 < L.length) :
    Calls Try.prog 3 #[.slice ad L.length c, .int .i64 bad] W fun e w' => e = .returned (.bool true) ∧ Below W.heap.size W w' := by
  have HA := Lib.hid hA
  have HOK := Lib.hid hok
  have HBAD := Lib.hid hbad
  clear hA hok hbad
  have hcI : (16 : Int) ≤ (L.length : Int) := by omega
  have hcM : min (L.length : Int) 16 = 16 := by omega
  go_enter Try.func3, Try.ntmps3
  go_wp2_with fail
  refine (cNew _).mono ?_
  rintro e w1 ⟨rfl, G1, b1⟩
  have hs1 := G1.lt
  generalize hP : W.heap.size = P at *
  go_wp2_with fail
  go_loopw [7] (fun i wr => ∃ k : Nat, k ≤ 16 ∧ i = .int .i64 k ∧ (∃ g, Gate wr P P g (L.take k)) ∧ Below P W wr) (fun i _ => 16 - (intOf i).toNat)
  case atStart => exact ⟨0, Nat.zero_le _, rfl, ⟨none, G1⟩, b1⟩
  case round =>
    clear G1 b1 hs1
    obtain ⟨k, hk, rfl, ⟨g, G⟩, hb⟩ := hrel
    by_cases hlt : k < 16
    · have hkl : k < L.length := by omega
      obtain ⟨b, off, rfl, hbW, E⟩ := HA.out k hkl
      have E2 := E.below hbW (by rw [hP]; exact hb)
      have ht := List.take_succ_eq_append_getElem hkl
      obtain ⟨r, hr⟩ : ∃ r, L[k] = r := ⟨_, rfl⟩
      rw [hr] at E2 ht
      obtain ⟨c0, c1, c2, c3, c4, c5, c6⟩ := E2
      have HT := Lib.hid ht
      clear E ht hr
      go_wp2_with fail
      refine (cFirst _ _ _ _ _ r G (by rw [List.length_take]; omega) (by have := G.lt; omega)).mono ?_
      rintro e w2 ⟨rfl, g2, G2, hg2, o2⟩
      have hb2 := hb.trans (o2.belowG G)
      rw [← HT.out] at G2
      clear o2 hg2 c0 c1 c2 c3 c4 c5 c6 G hb
      go_wp2_with fail
      go_roundw
      case rel => exact ⟨k + 1, by omega, by go_num, ⟨g2, G2⟩, hb2⟩
      case measure => simp [intOf]; omega
    · obtain rfl : k = 16 := by omega
      go_wp2_with fail
      refine (cWithin bad 16 (by omega) HBAD.out _).mono ?_
      rintro e w2 ⟨kk, hkk, rfl, rfl⟩
      obtain ⟨M, hM⟩ : ∃ M, L.take 16 = M := ⟨_, rfl⟩
      rw [hM] at G
      have hMl : M.length = 16 := by rw [← hM, List.length_take]; omega
      have hMg : ∀ j (hj : j < 16) (hl : j < L.length), M.drop j = L[j] :: M.drop (j + 1) := by
        intro j hj hl
        rw [List.drop_eq_getElem_cons (by omega)]
        congr 1
        subst hM
        exact List.getElem_take
      have HML := Lib.hid hMl
      have HMG := Lib.hid hMg
      clear hM hMl hMg
      go_wp2_with fail
      go_loopw [9] (fun i wr => ∃ k : Nat, k ≤ 16 ∧ i = .int .i64 k ∧ (∃ g, Gate wr P P g (M.drop k)) ∧ Below P W wr) (fun i _ => 16 - (intOf i).toNat)
      case atStart => exact ⟨0, Nat.zero_le _, rfl, ⟨g, G⟩, hb⟩
      case round =>
        clear G hb
        obtain ⟨k, hk, rfl, ⟨g, G⟩, hb⟩ := hrel
        by_cases hlt : k < 16
        · have hkl : k < L.length := by omega
          obtain ⟨b, off, rfl, hbW, E⟩ := HA.out k hkl
          have E2 := E.below hbW (by rw [hP]; exact hb)
          have hcons := HMG.out k hlt hkl
          have hrok := HOK.out _ (List.getElem_mem hkl)
          have hl1 : ((M.drop k).length : Int) = (16 : Int) - k := by rw [List.length_drop, HML.out]; omega
          have hl2 : ((M.drop (k + 1)).length : Int) = (15 : Int) - k := by rw [List.length_drop, HML.out]; omega
          have hl3 : (M.drop (k + 1)).length ≤ 1000 := by rw [List.length_drop, HML.out]; omega
          obtain ⟨r, hr⟩ : ∃ r, L[k] = r := ⟨_, rfl⟩
          rw [hr] at E2 hcons hrok
          generalize hM2 : M.drop (k + 1) = M2 at *
          have HM2 := Lib.hid hM2
          clear hM2
          generalize M.drop k = Mk at *
          have hbW' : b < wr.heap.size := by have := hb.size; omega
          have HN := Lib.hid hcons
          have HR := Lib.hid hrok
          have HL2 := Lib.hid hl2
          clear E hr hcons hrok hl2
          obtain ⟨u, hu, hu32, hne⟩ : ∃ u : Nat, ((r.value : Int) + 1) % 4294967296 = (u : Int) ∧ u < 4294967296 ∧ u ≠ r.value := by
            have := HR.out.v
            exact ⟨(r.value + 1) % 4294967296, by omega, by omega, by omega⟩
          by_cases hkk2 : k = kk
          · have hb2 : ((k : Int) == (kk : Int)) = true := by rw [hkk2]; simp
            obtain ⟨c0, c1, c2, c3, c4, c5, c6⟩ := E2
            have HU := Lib.hid hne
            have HK2 := Lib.hid hkk2
            clear hne hkk2
            go_wp2_with fail
            obtain ⟨rx, hrx⟩ : ∃ rx : R, rx = ⟨r.pc, u, r.rd, r.store, r.addr, r.data, r.mask⟩ := ⟨_, rfl⟩
            have hnx : r ≠ rx := by intro e; rw [hrx] at e; exact HU.out (congrArg R.value e).symm
            have bX : Below wr.heap.size wr (wr.alloc (.cells #[.int .u32 r.pc, .int .u32 u, .int .i64 r.rd, .bool r.store, .int .u32 r.addr, .int .u32 r.data, .int .i64 r.mask] 28)) := (Below.refl _ _).alloc (Nat.le_refl _) _
            have GX := G.below bX
            have hbX := below_nextB hb bX (by have := hb.size; omega)
            have EX := Elem.below ⟨c0, c1, c2, c3, c4, c5, c6⟩ hbW' bX
            have hbX' := bX.size
            clear c0 c1 c2 c3 c4 c5 c6 G hb bX
            generalize wr.alloc _ = wx at *
            refine (cSecond_no _ _ _ _ r ⟨r.pc, u, r.rd, r.store, r.addr, r.data, r.mask⟩ M2 (HN.out ▸ GX) hl3 (by rw [← hrx]; exact hnx)).mono ?_
            rintro e w3 ⟨rfl, b3⟩
            have G3 := GX.below b3
            have hb3 := below_nextB hbX b3 (by have := hbX.size; omega)
            have E3 := Elem.below EX (by omega) b3
            have hbW3 : b < w3.heap.size := by have := b3.size; omega
            clear GX hbX b3 EX
            go_wp2_with fail
            have b4 := (Below.refl w3.heap.size w3).alloc (Nat.le_refl _) zbox
            have G4 := G3.below b4
            have hb4 := below_nextB hb3 b4 (by have := hb3.size; omega)
            have E4 := Elem.below E3 hbW3 b4
            have hbW4 : b < (w3.alloc zbox).heap.size := by simp; omega
            clear G3 hb3 b4 E3
            change Calls _ _ _ (w3.alloc zbox) _
            generalize w3.alloc zbox = w4 at *
            refine (cWaits _ _ _ _ _ G4 (by omega)).mono ?_
            rintro e w5 ⟨rfl, rfl⟩
            obtain ⟨c0, c1, c2, c3, c4, c5, c6⟩ := E4
            go_wp2_with fail
            refine (cSecond_yes _ _ _ _ r M2 (HN.out ▸ G4) hl3 (by have := G4.lt; omega)).mono ?_
            rintro e w6 ⟨rfl, G6, o6⟩
            have hbk := o6.block b hbW4 (by omega) (by intro e; have := G4.own_lt b e.symm; omega)
            have E6 := Elem.kept ⟨c0, c1, c2, c3, c4, c5, c6⟩ hbk
            have hb6 := hb4.trans (o6.belowG G4)
            have hbW6 : b < w6.heap.size := by have := o6.size; omega
            have G7 := G6.below ((Below.refl w6.heap.size w6).alloc (Nat.le_refl _) (box r))
            have E7 := Elem.below E6 hbW6 ((Below.refl w6.heap.size w6).alloc (Nat.le_refl _) (box r))
            have hb7 := hb6.alloc (by have := hb6.size; omega) (box r)
            have Y7 := row7 (heap_alloc_new w6 (box r))
            clear c0 c1 c2 c3 c4 c5 c6 G4 hb4 hbW4 o6 hbk E6 hb6 G6
            have hneq := neq28 r r
            rw [show (!decide (r = r)) = false from by rw [decide_eq_true rfl]; rfl] at hneq
            have hl2 := HL2.out
            have hw1 : IntKind.i64.wrap (15 : Int) = (15 : Int) := IntWalk.i64_in _ (by omega)
            have hw2 : IntKind.i64.wrap ((15 : Int) - (k : Int)) = (15 : Int) - k := IntWalk.i64_in _ (by omega)
            have hlt' : (k : Int) < (L.length : Int) := by omega
            obtain ⟨⟨y0, y1, y2, y3, y4, y5, y6⟩, _⟩ := Y7
            obtain ⟨c0, c1, c2, c3, c4, c5, c6⟩ := E7
            go_wp2_with fail
            clear hl1
            generalize w6.alloc _ = w7 at *
            go_quiet ((go_at_call 11; exact Calls.quiet_of_same (cWaitsQ G7 (by omega) _)))
            go_wp2_with fail
            go_roundw
            case rel => exact ⟨k + 1, by omega, by go_num, ⟨g, by rw [HM2.out]; exact G7.kept (Nat.le_refl _) rfl (fun _ _ => rfl)⟩, drewN_below hb7 _⟩
            case measure => simp [intOf]; omega
          · have hb2 : ((k : Int) == (kk : Int)) = false := by rw [beq_eq_false_iff_ne]; omega
            obtain ⟨c0, c1, c2, c3, c4, c5, c6⟩ := E2
            have G4 := G
            have hb4 := hb
            have hbW4 := hbW'
            clear hu hne hkk2 G hb
            generalize hw4 : wr = w4 at *
            go_wp2_with fail
            refine (cSecond_yes _ _ _ _ r M2 (HN.out ▸ G4) hl3 (by have := G4.lt; omega)).mono ?_
            rintro e w6 ⟨rfl, G6, o6⟩
            have hbk := o6.block b hbW4 (by omega) (by intro e; have := G4.own_lt b e.symm; omega)
            have E6 := Elem.kept ⟨c0, c1, c2, c3, c4, c5, c6⟩ hbk
            have hb6 := hb4.trans (o6.belowG G4)
            have hbW6 : b < w6.heap.size := by have := o6.size; omega
            have G7 := G6.below ((Below.refl w6.heap.size w6).alloc (Nat.le_refl _) (box r))
            have E7 := Elem.below E6 hbW6 ((Below.refl w6.heap.size w6).alloc (Nat.le_refl _) (box r))
            have hb7 := hb6.alloc (by have := hb6.size; omega) (box r)
            have Y7 := row7 (heap_alloc_new w6 (box r))
            clear c0 c1 c2 c3 c4 c5 c6 G4 hb4 hbW4 o6 hbk E6 hb6 G6
            have hneq := neq28 r r
            rw [show (!decide (r = r)) = false from by rw [decide_eq_true rfl]; rfl] at hneq
            have hl2 := HL2.out
            have hw1 : IntKind.i64.wrap (15 : Int) = (15 : Int) := IntWalk.i64_in _ (by omega)
            have hw2 : IntKind.i64.wrap ((15 : Int) - (k : Int)) = (15 : Int) - k := IntWalk.i64_in _ (by omega)
            have hlt' : (k : Int) < (L.length : Int) := by omega
            obtain ⟨⟨y0, y1, y2, y3, y4, y5, y6⟩, _⟩ := Y7
            obtain ⟨c0, c1, c2, c3, c4, c5, c6⟩ := E7
            go_wp2_with fail
            clear hl1
            generalize w6.alloc _ = w7 at *
            go_quiet ((go_at_call 11; exact Calls.quiet_of_same (cWaitsQ G7 (by omega) _)))
            go_wp2_with fail
            go_roundw
            case rel => exact ⟨k + 1, by omega, by go_num, ⟨g, by rw [HM2.out]; exact G7.kept (Nat.le_refl _) rfl (fun _ _ => rfl)⟩, drewN_below hb7 _⟩
            case measure => simp [intOf]; omega
        · obtain rfl : k = 16 := by omega
          go_wp2_with fail
          refine (cknown _).mono ?_
          rintro e w5 ⟨rfl, b5⟩
          go_wp2_with fail
          go_ret
          exact ⟨rfl, by subst hP; exact below_next hb b5⟩
end Go.Proofs.Ytfkjjaimilkfcaa.Gt
