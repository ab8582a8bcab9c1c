/- The contracts of the reference's gate: Forward, Second, and First of an empty one. -/
import Derived.Test.YtfkjjaimilkfcaaGr
import Derived.Test.YtfkjjaimilkfcaaAz
set_option linter.unusedVariables false
set_option linter.unusedSimpArgs false
namespace Go.Proofs.Ytfkjjaimilkfcaa.Gt
open Go.RowKit Go.Proofs.Ytfkjjaimilkfcaa.Bv Go.Proofs.Ytfkjjaimilkfcaa.Al Go.Proofs.Ytfkjjaimilkfcaa.Ap Go.Proofs.Ytfkjjaimilkfcaa.Az
theorem neq28 (x y : R) (w : World) : (binOp .neq 28 x.agg y.agg).run Try.prog w = .ok (.bool (!decide (x = y))) w := by
  have hS : Try.prog.underlying 28 = some (.struct (Try.prog.fieldsOf 28)) := by kernel_rfl
  have hp : Try.prog.stoodInHeld 28 = false := by kernel_rfl
  have u3 := Try.underlying3
  have u4 := Try.underlying4
  have u26 := Try.underlying26
  have a3 := Try.isAgg3
  have a4 := Try.isAgg4
  have a26 := Try.isAgg26
  have z3 := Try.sizeOf3
  have z4 := Try.sizeOf4
  have z26 := Try.sizeOf26
  simp only [R.agg]
  rw [run_neq_struct, show (10000 : Nat) = 9999 + 1 from rfl, run_equalIn_agg w 9999 28 _ _ hS hp]
  simp only [Program.fieldsOf, Try.underlying28]
  go_simp
  obtain ⟨a1, a2, a3, a4, a5, a6, a7⟩ := x
  obtain ⟨b1, b2, b3, b4, b5, b6, b7⟩ := y
  simp only [R.mk.injEq, Int.ofNat_inj, Int.natCast_inj]
  by_cases h1 : a1 = b1
  · by_cases h2 : a2 = b2
    · by_cases h3 : a3 = b3
      · by_cases h4 : a4 = b4
        · by_cases h5 : a5 = b5
          · by_cases h6 : a6 = b6
            · by_cases h7 : a7 = b7
              · simp [h1, h2, h3, h4, h5, h6, h7]
              · simp [h1, h2, h3, h4, h5, h6, h7]
            · simp [h1, h2, h3, h4, h5, h6]
          · simp [h1, h2, h3, h4, h5]
        · simp [h1, h2, h3, h4]
      · simp [h1, h2, h3]
    · simp [h1, h2]
  · simp [h1]
set_option maxHeartbeats 1000000 in
theorem cForwardR (W : World) (B p : Nat) (g : Option Nat) (l : List R) (h : Gate W B p g l) (hm : l.length ≤ 1000) (hd : ∀ r ∈ l, r.data < 4294967296) (a x : Nat) (hx : x < 4294967296) :
    Calls Try.prog 19 #[.pointer (some ⟨p, 0, none⟩), .int .u32 a, .int .u32 x] W fun e w' => e = .returned (.int .u32 (fwd a l x)) ∧ Below W.heap.size W w' := by
  obtain ⟨v, hv, hrow, hg⟩ := h.row
  obtain ⟨ad, c, rfl⟩ := slice_form hrow
  have HR := Lib.hid hrow
  have HX := Lib.hid hx
  have HD := Lib.hid hd
  clear h hrow hg hx hd
  go_enter Try.func19, Try.ntmps19
  go_wp2_with fail
  go_loopw [2, 14] (fun y i wr => ∃ k : Nat, k ≤ l.length ∧ i = .int .i64 k ∧ y = .int .u32 (fwd a (l.take k) x) ∧ Below W.heap.size W wr) (fun _ i _ => l.length - (intOf i).toNat)
  case atStart => exact ⟨0, Nat.zero_le _, rfl, by simp [fwd], Below.refl _ _⟩
  case round =>
    obtain ⟨k, hk, rfl, rfl, hb⟩ := hrel
    by_cases hlt : k < l.length
    · obtain ⟨q, rfl, hc⟩ := elem_at HR.out k hlt
      have hq : q < W.heap.size := (HR.out.lt q rfl).2
      have hd : (l[k]).data < 4294967296 := HD.out _ (List.getElem_mem hlt)
      have hs := fwd_take a l x k hlt
      have hlo := fwd_lt a (l.take k) x HX.out
      generalize fwd a (l.take k) x = y at hs hlo ⊢
      generalize l[k] = r at hc hd hs
      have c0 := (hb.cell (p := ⟨q, k * 7, none⟩) hq).trans (hc 0 (by decide))
      have c1 := (hb.cell (p := ⟨q, k * 7 + 1, none⟩) hq).trans (hc 1 (by decide))
      have c2 := (hb.cell (p := ⟨q, k * 7 + 2, none⟩) hq).trans (hc 2 (by decide))
      have c3 := (hb.cell (p := ⟨q, k * 7 + 3, none⟩) hq).trans (hc 3 (by decide))
      have c4 := (hb.cell (p := ⟨q, k * 7 + 4, none⟩) hq).trans (hc 4 (by decide))
      have c5 := (hb.cell (p := ⟨q, k * 7 + 5, none⟩) hq).trans (hc 5 (by decide))
      have c6 := (hb.cell (p := ⟨q, k * 7 + 6, none⟩) hq).trans (hc 6 (by decide))
      simp only [R.cells, List.getElem?_cons_zero, List.getElem?_cons_succ] at c0 c1 c2 c3 c4 c5 c6
      have HS := Lib.hid hs
      have HLO := Lib.hid hlo
      have HDD := Lib.hid hd
      clear hs hlo hd hc
      have hlt' : (k : Int) < l.length := by omega
      cases hst : r.store
      · rw [hst] at c3
        go_wp2_with fail
        go_roundw
        case rel => exact ⟨k + 1, by omega, by go_num, by rw [HS.out, hst]; rfl, (hb.alloc hb.size _)⟩
        case measure => simp [intOf]; omega
      · rw [hst] at c3
        cases hat : ((r.addr : Int) == (a : Int))
        · have hna : (r.addr == a) = false := by simp at hat ⊢; omega
          go_wp2_with fail
          go_roundw
          case rel => exact ⟨k + 1, by omega, by go_num, by rw [HS.out, hst, hna]; rfl, (hb.alloc hb.size _)⟩
          case measure => simp [intOf]; omega
        · have hna : (r.addr == a) = true := by simp at hat ⊢; omega
          go_wp2_with fail
          refine (cMergeR y r.data r.mask HLO.out HDD.out _).mono ?_
          rintro e w2 ⟨rfl, rfl⟩
          go_wp2_with fail
          go_roundw
          case rel => exact ⟨k + 1, by omega, by go_num, by rw [HS.out, hst, hna]; rfl, (hb.alloc hb.size _)⟩
          case measure => simp [intOf]; omega
    · obtain rfl : k = l.length := by omega
      go_wp2_with fail
      go_ret
      exact ⟨ret_eq (by rw [List.take_length]), hb⟩
set_option maxHeartbeats 1000000 in
theorem cFirstR_full (W : World) (B p : Nat) (g : Option Nat) (l : List R) (r : R) (h : Gate W B p g l) (hl : 16 ≤ l.length) (hm : l.length ≤ 1000) :
    Calls Try.prog 21 #[.pointer (some ⟨p, 0, none⟩), r.agg] W fun e w' => e = .returned (.bool false) ∧ Below W.heap.size W w' := by
  obtain ⟨v, hv, hrow, hg⟩ := h.row
  obtain ⟨a, c, rfl⟩ := slice_form hrow
  have hlt := h.lt
  clear h hrow hg
  go_enter Try.func21, Try.ntmps21
  go_wp2
  go_ret
  exact ⟨rfl, (Below.refl _ _).alloc (Nat.le_refl _) _⟩
set_option maxHeartbeats 1000000 in
theorem cFirstR_nil (W : World) (B p : Nat) (g : Option Nat) (r : R) (h : Gate W B p g []) (hB : B ≤ W.heap.size) :
    Calls Try.prog 21 #[.pointer (some ⟨p, 0, none⟩), r.agg] W fun e w' => e = .returned (.bool true) ∧ ∃ g', Gate w' B p g' [r] ∧ (g' = g ∨ ∃ k, g' = some k ∧ W.heap.size ≤ k) ∧ Only W w' p g := by
  obtain ⟨v, hv, hrow, hg⟩ := h.row
  obtain ⟨a, c, rfl⟩ := slice_form hrow
  simp only [List.length_nil] at hv
  have hlt := h.lt
  have hlt1 : p < W.heap.size + 1 := by omega
  have hlt2 : p < W.heap.size + 1 + 1 := by omega
  have hsz : W.heap.size < W.heap.size + 1 + 1 := by omega
  have hf := h.fz
  obtain ⟨i0, hi, hz0, hz1, hz2⟩ := info_parts info28
  have HB := Lib.hid h.le
  have HN := Lib.hid h.ne
  clear h hrow hg
  go_enter Try.func21, Try.ntmps21
  go_wp2_with fail
  go_region_law (first
    | (refine step_append_zero rfl (.tmp 12) (.tmp 16) 22 rfl 28 i0 Try.underlying22 hi _ 0 0 (by simp [Act.eval, Act.put]; rfl) (by decide) a c (by simp [Act.eval, Act.put]) ?_)
    | (refine step_append_moves rfl (.tmp 17) (.tmp 19) 22 rfl B 28 i0 _ 7 40 Try.underlying22 hi hz0 hz1 hz2 rfl (by decide) _ 0 [] (by simp [Act.eval, Act.put]; rfl) (by first | exact (lit_a W B hB _).drew | exact ((lit_a W B hB _).alloc _).drew | exact (lit_b W B hB _ _).drew) _ 1 1 r.cells (by simp [Act.eval, Act.put]; rfl) rfl (cells_at _ _ r _ (by first | exact ch32 W _ _ _ | exact ch31 W _ _ _) rfl) (r_one r) (by decide) (by decide) (by simp <;> omega) ?_; intro a2 c2 w2 hown2 hgrow2 hblk2;
       have b2 := below_grow (W := W) (by repeat (first | exact Below.refl _ _ | refine Below.drew ?_ | refine Below.alloc ?_ (by simp <;> omega) _)) hgrow2 (by intro j hj; have := own_some j hj; omega);
       have hd := gate_cell hlt b2 hv hf; have hd1 := hd.1; have hd2 := hd.2;
       have ho2 := own_is (own_ge (w0 := W) (by intro j hj; have := own_some j hj; omega) (by simp <;> omega) hblk2) hown2))
  all_goals
    have HE := Lib.hid (firstR_end (g := g) (l := []) hlt HB.out hv hf b2 hown2 ho2)
    go_wp2_with fail
    go_ret
    exact ⟨rfl, HE.out⟩
end Go.Proofs.Ytfkjjaimilkfcaa.Gt
