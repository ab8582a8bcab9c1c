-- PRINTED BY print.sh 35421559b90ae4d0a3588c463048766b98c2df88dd9212a6774a882060cdf62d: not written by this session
import Derived.Test.YtgkaidjikakpkaaPFieldTellsx0
import Derived.Test.YtgkaidjikakpkaaPFieldTellsx1
namespace Go.Proofs.Ytgkaidjikakpkaa.PFieldTells
open Go.RowKit Go.Proofs.YtgkaidjikakpkaaW.PrintWords Go.Proofs.YtgkaidjikakpkaaW.PrintLast Go.Proofs.YtgkaidjikakpkaaW.PrintMore
attribute [local go_sem] max2_int min2_int max_two min_two max_three min_three max_four min_four   -- for this text's walks alone
set_option linter.unusedVariables false
set_option linter.unusedSimpArgs false

/-! ### dioscurilaw4_same: function 10 -/
def dioscurilaw4_same.f (k : Nat) (a0 : Int) (a1 : Int) (a2 : Int) : Option (Bool) := (field_Bits.f a0 a1 a2).bind fun t137 => ((dioscuriref5_Bits.f k a0 a1 a2).bind fun t138 => (if t137 = t138 then ((field_Sign.f a0 a2).bind fun t139 => ((dioscuriref5_Sign.f a0 a2).bind fun t140 => (if t139 = t140 then ((field_ImmI.f a0).bind fun t141 => ((dioscuriref5_ImmI.f k a0).bind fun t142 => (if t141 = t142 then ((field_ImmS.f a0).bind fun t143 => ((dioscuriref5_ImmS.f k a0).bind fun t144 => (if t143 = t144 then ((field_ImmB.f a0).bind fun t145 => ((dioscuriref5_ImmB.f k a0).bind fun t146 => (if t145 = t146 then ((field_ImmU.f a0).bind fun t147 => ((dioscuriref5_ImmU.f a0).bind fun t148 => (if t147 = t148 then ((field_ImmJ.f a0).bind fun t149 => ((dioscuriref5_ImmJ.f k a0).bind fun t150 => (some (t149 == t150)))) else (some false)))) else (some false)))) else (some false)))) else (some false)))) else (some false)))) else (some false)))
theorem dioscurilaw4_same.mono : ∀ a0 a1 a2 k, LeO (dioscurilaw4_same.f k a0 a1 a2) (dioscurilaw4_same.f (k + 1) a0 a1 a2) := by
  intro a0 a1 a2 k
  unfold dioscurilaw4_same.f
  repeat' first
      | (with_reducible exact dioscuriref5_Bits.mono _ _ _ _)
      | (with_reducible exact dioscuriref5_ImmB.mono _ _)
      | (with_reducible exact dioscuriref5_ImmI.mono _ _)
      | (with_reducible exact dioscuriref5_ImmJ.mono _ _)
      | (with_reducible exact dioscuriref5_ImmS.mono _ _)
      | (with_reducible exact LeO.refl _)
      | (with_reducible exact LeO.none _)
      | (with_reducible refine LeO.ite ?_ ?_)
      | (with_reducible refine LeO.bind ?_ (fun _ => ?_))
      | exact dioscuriref5_Bits.mono _ _ _ _
      | exact dioscuriref5_ImmB.mono _ _
      | exact dioscuriref5_ImmI.mono _ _
      | exact dioscuriref5_ImmJ.mono _ _
      | exact dioscuriref5_ImmS.mono _ _
      | exact LeO.none _
      | refine LeO.ite ?_ ?_
      | refine LeO.bind ?_ (fun _ => ?_)
set_option maxHeartbeats 8000000 in
set_option maxRecDepth 100000 in
theorem dioscurilaw4_same.calls (k : Nat) (a0 : Int) (a1 : Int) (a2 : Int) (r : Bool) (w : World) (h : dioscurilaw4_same.f k a0 a1 a2 = some r) :
    Calls Try.prog 10 #[.int .u32 a0, .int .i64 a1, .int .i64 a2] w fun e w' => e = .returned (.bool r) ∧ Drawn0 w w' := by
  have H : ((field_Bits.f a0 a1 a2).bind fun t137 => ((dioscuriref5_Bits.f k a0 a1 a2).bind fun t138 => (if t137 = t138 then ((field_Sign.f a0 a2).bind fun t139 => ((dioscuriref5_Sign.f a0 a2).bind fun t140 => (if t139 = t140 then ((field_ImmI.f a0).bind fun t141 => ((dioscuriref5_ImmI.f k a0).bind fun t142 => (if t141 = t142 then ((field_ImmS.f a0).bind fun t143 => ((dioscuriref5_ImmS.f k a0).bind fun t144 => (if t143 = t144 then ((field_ImmB.f a0).bind fun t145 => ((dioscuriref5_ImmB.f k a0).bind fun t146 => (if t145 = t146 then ((field_ImmU.f a0).bind fun t147 => ((dioscuriref5_ImmU.f a0).bind fun t148 => (if t147 = t148 then ((field_ImmJ.f a0).bind fun t149 => ((dioscuriref5_ImmJ.f k a0).bind fun t150 => (some (t149 == t150)))) else (some false)))) else (some false)))) else (some false)))) else (some false)))) else (some false)))) else (some false)))) = some r := h
  clear h
  replace H := Option.bind_eq_some_iff.mp H
  obtain ⟨t137, A40, H⟩ := H
  replace H : ((dioscuriref5_Bits.f k a0 a1 a2).bind fun t138 => (if t137 = t138 then ((field_Sign.f a0 a2).bind fun t139 => ((dioscuriref5_Sign.f a0 a2).bind fun t140 => (if t139 = t140 then ((field_ImmI.f a0).bind fun t141 => ((dioscuriref5_ImmI.f k a0).bind fun t142 => (if t141 = t142 then ((field_ImmS.f a0).bind fun t143 => ((dioscuriref5_ImmS.f k a0).bind fun t144 => (if t143 = t144 then ((field_ImmB.f a0).bind fun t145 => ((dioscuriref5_ImmB.f k a0).bind fun t146 => (if t145 = t146 then ((field_ImmU.f a0).bind fun t147 => ((dioscuriref5_ImmU.f a0).bind fun t148 => (if t147 = t148 then ((field_ImmJ.f a0).bind fun t149 => ((dioscuriref5_ImmJ.f k a0).bind fun t150 => (some (t149 == t150)))) else (some false)))) else (some false)))) else (some false)))) else (some false)))) else (some false)))) else (some false))) = some r := H
  have A4 := Aside0.mk A40
  clear A40
  replace H := Option.bind_eq_some_iff.mp H
  obtain ⟨t138, A50, H⟩ := H
  replace H : (if t137 = t138 then ((field_Sign.f a0 a2).bind fun t139 => ((dioscuriref5_Sign.f a0 a2).bind fun t140 => (if t139 = t140 then ((field_ImmI.f a0).bind fun t141 => ((dioscuriref5_ImmI.f k a0).bind fun t142 => (if t141 = t142 then ((field_ImmS.f a0).bind fun t143 => ((dioscuriref5_ImmS.f k a0).bind fun t144 => (if t143 = t144 then ((field_ImmB.f a0).bind fun t145 => ((dioscuriref5_ImmB.f k a0).bind fun t146 => (if t145 = t146 then ((field_ImmU.f a0).bind fun t147 => ((dioscuriref5_ImmU.f a0).bind fun t148 => (if t147 = t148 then ((field_ImmJ.f a0).bind fun t149 => ((dioscuriref5_ImmJ.f k a0).bind fun t150 => (some (t149 == t150)))) else (some false)))) else (some false)))) else (some false)))) else (some false)))) else (some false)))) else (some false)) = some r := H
  have A5 := Aside0.mk A50
  clear A50
  by_cases c6 : t137 = t138
  · rw [if_pos c6] at H
    have c6b0 : (t137 == t138) = true := beq_iff_eq.mpr c6
    have c6b1 : (t137 != t138) = false := bne_eq_false_iff_eq.mpr c6
    clear c6
    replace H := Option.bind_eq_some_iff.mp H
    obtain ⟨t139, A70, H⟩ := H
    replace H : ((dioscuriref5_Sign.f a0 a2).bind fun t140 => (if t139 = t140 then ((field_ImmI.f a0).bind fun t141 => ((dioscuriref5_ImmI.f k a0).bind fun t142 => (if t141 = t142 then ((field_ImmS.f a0).bind fun t143 => ((dioscuriref5_ImmS.f k a0).bind fun t144 => (if t143 = t144 then ((field_ImmB.f a0).bind fun t145 => ((dioscuriref5_ImmB.f k a0).bind fun t146 => (if t145 = t146 then ((field_ImmU.f a0).bind fun t147 => ((dioscuriref5_ImmU.f a0).bind fun t148 => (if t147 = t148 then ((field_ImmJ.f a0).bind fun t149 => ((dioscuriref5_ImmJ.f k a0).bind fun t150 => (some (t149 == t150)))) else (some false)))) else (some false)))) else (some false)))) else (some false)))) else (some false))) = some r := H
    have A7 := Aside0.mk A70
    clear A70
    replace H := Option.bind_eq_some_iff.mp H
    obtain ⟨t140, A80, H⟩ := H
    replace H : (if t139 = t140 then ((field_ImmI.f a0).bind fun t141 => ((dioscuriref5_ImmI.f k a0).bind fun t142 => (if t141 = t142 then ((field_ImmS.f a0).bind fun t143 => ((dioscuriref5_ImmS.f k a0).bind fun t144 => (if t143 = t144 then ((field_ImmB.f a0).bind fun t145 => ((dioscuriref5_ImmB.f k a0).bind fun t146 => (if t145 = t146 then ((field_ImmU.f a0).bind fun t147 => ((dioscuriref5_ImmU.f a0).bind fun t148 => (if t147 = t148 then ((field_ImmJ.f a0).bind fun t149 => ((dioscuriref5_ImmJ.f k a0).bind fun t150 => (some (t149 == t150)))) else (some false)))) else (some false)))) else (some false)))) else (some false)))) else (some false)) = some r := H
    have A8 := Aside0.mk A80
    clear A80
    by_cases c9 : t139 = t140
    · rw [if_pos c9] at H
      have c9b0 : (t139 == t140) = true := beq_iff_eq.mpr c9
      have c9b1 : (t139 != t140) = false := bne_eq_false_iff_eq.mpr c9
      clear c9
      replace H := Option.bind_eq_some_iff.mp H
      obtain ⟨t141, A100, H⟩ := H
      replace H : ((dioscuriref5_ImmI.f k a0).bind fun t142 => (if t141 = t142 then ((field_ImmS.f a0).bind fun t143 => ((dioscuriref5_ImmS.f k a0).bind fun t144 => (if t143 = t144 then ((field_ImmB.f a0).bind fun t145 => ((dioscuriref5_ImmB.f k a0).bind fun t146 => (if t145 = t146 then ((field_ImmU.f a0).bind fun t147 => ((dioscuriref5_ImmU.f a0).bind fun t148 => (if t147 = t148 then ((field_ImmJ.f a0).bind fun t149 => ((dioscuriref5_ImmJ.f k a0).bind fun t150 => (some (t149 == t150)))) else (some false)))) else (some false)))) else (some false)))) else (some false))) = some r := H
      have A10 := Aside0.mk A100
      clear A100
      replace H := Option.bind_eq_some_iff.mp H
      obtain ⟨t142, A110, H⟩ := H
      replace H : (if t141 = t142 then ((field_ImmS.f a0).bind fun t143 => ((dioscuriref5_ImmS.f k a0).bind fun t144 => (if t143 = t144 then ((field_ImmB.f a0).bind fun t145 => ((dioscuriref5_ImmB.f k a0).bind fun t146 => (if t145 = t146 then ((field_ImmU.f a0).bind fun t147 => ((dioscuriref5_ImmU.f a0).bind fun t148 => (if t147 = t148 then ((field_ImmJ.f a0).bind fun t149 => ((dioscuriref5_ImmJ.f k a0).bind fun t150 => (some (t149 == t150)))) else (some false)))) else (some false)))) else (some false)))) else (some false)) = some r := H
      have A11 := Aside0.mk A110
      clear A110
      by_cases c12 : t141 = t142
      · rw [if_pos c12] at H
        have c12b0 : (t141 == t142) = true := beq_iff_eq.mpr c12
        have c12b1 : (t141 != t142) = false := bne_eq_false_iff_eq.mpr c12
        clear c12
        replace H := Option.bind_eq_some_iff.mp H
        obtain ⟨t143, A130, H⟩ := H
        replace H : ((dioscuriref5_ImmS.f k a0).bind fun t144 => (if t143 = t144 then ((field_ImmB.f a0).bind fun t145 => ((dioscuriref5_ImmB.f k a0).bind fun t146 => (if t145 = t146 then ((field_ImmU.f a0).bind fun t147 => ((dioscuriref5_ImmU.f a0).bind fun t148 => (if t147 = t148 then ((field_ImmJ.f a0).bind fun t149 => ((dioscuriref5_ImmJ.f k a0).bind fun t150 => (some (t149 == t150)))) else (some false)))) else (some false)))) else (some false))) = some r := H
        have A13 := Aside0.mk A130
        clear A130
        replace H := Option.bind_eq_some_iff.mp H
        obtain ⟨t144, A140, H⟩ := H
        replace H : (if t143 = t144 then ((field_ImmB.f a0).bind fun t145 => ((dioscuriref5_ImmB.f k a0).bind fun t146 => (if t145 = t146 then ((field_ImmU.f a0).bind fun t147 => ((dioscuriref5_ImmU.f a0).bind fun t148 => (if t147 = t148 then ((field_ImmJ.f a0).bind fun t149 => ((dioscuriref5_ImmJ.f k a0).bind fun t150 => (some (t149 == t150)))) else (some false)))) else (some false)))) else (some false)) = some r := H
        have A14 := Aside0.mk A140
        clear A140
        by_cases c15 : t143 = t144
        · rw [if_pos c15] at H
          have c15b0 : (t143 == t144) = true := beq_iff_eq.mpr c15
          have c15b1 : (t143 != t144) = false := bne_eq_false_iff_eq.mpr c15
          clear c15
          replace H := Option.bind_eq_some_iff.mp H
          obtain ⟨t145, A160, H⟩ := H
          replace H : ((dioscuriref5_ImmB.f k a0).bind fun t146 => (if t145 = t146 then ((field_ImmU.f a0).bind fun t147 => ((dioscuriref5_ImmU.f a0).bind fun t148 => (if t147 = t148 then ((field_ImmJ.f a0).bind fun t149 => ((dioscuriref5_ImmJ.f k a0).bind fun t150 => (some (t149 == t150)))) else (some false)))) else (some false))) = some r := H
          have A16 := Aside0.mk A160
          clear A160
          replace H := Option.bind_eq_some_iff.mp H
          obtain ⟨t146, A170, H⟩ := H
          replace H : (if t145 = t146 then ((field_ImmU.f a0).bind fun t147 => ((dioscuriref5_ImmU.f a0).bind fun t148 => (if t147 = t148 then ((field_ImmJ.f a0).bind fun t149 => ((dioscuriref5_ImmJ.f k a0).bind fun t150 => (some (t149 == t150)))) else (some false)))) else (some false)) = some r := H
          have A17 := Aside0.mk A170
          clear A170
          by_cases c18 : t145 = t146
          · rw [if_pos c18] at H
            have c18b0 : (t145 == t146) = true := beq_iff_eq.mpr c18
            have c18b1 : (t145 != t146) = false := bne_eq_false_iff_eq.mpr c18
            clear c18
            replace H := Option.bind_eq_some_iff.mp H
            obtain ⟨t147, A190, H⟩ := H
            replace H : ((dioscuriref5_ImmU.f a0).bind fun t148 => (if t147 = t148 then ((field_ImmJ.f a0).bind fun t149 => ((dioscuriref5_ImmJ.f k a0).bind fun t150 => (some (t149 == t150)))) else (some false))) = some r := H
            have A19 := Aside0.mk A190
            clear A190
            replace H := Option.bind_eq_some_iff.mp H
            obtain ⟨t148, A200, H⟩ := H
            replace H : (if t147 = t148 then ((field_ImmJ.f a0).bind fun t149 => ((dioscuriref5_ImmJ.f k a0).bind fun t150 => (some (t149 == t150)))) else (some false)) = some r := H
            have A20 := Aside0.mk A200
            clear A200
            by_cases c21 : t147 = t148
            · rw [if_pos c21] at H
              have c21b0 : (t147 == t148) = true := beq_iff_eq.mpr c21
              have c21b1 : (t147 != t148) = false := bne_eq_false_iff_eq.mpr c21
              clear c21
              replace H := Option.bind_eq_some_iff.mp H
              obtain ⟨t149, A220, H⟩ := H
              replace H : ((dioscuriref5_ImmJ.f k a0).bind fun t150 => (some (t149 == t150))) = some r := H
              have A22 := Aside0.mk A220
              clear A220
              replace H := Option.bind_eq_some_iff.mp H
              obtain ⟨t150, A230, H⟩ := H
              replace H : (some (t149 == t150)) = some r := H
              have A23 := Aside0.mk A230
              clear A230
              obtain rfl := Option.some.inj H
              go_enter Try.func10, Try.ntmps10
              go_wp2_with (first | ((with_reducible refine gate_callee (f := 8) rfl ?_); refine goesL_ (some 10) rfl rfl Try.func8 (by kernel_rfl) rfl #[.int .u32 a0, .int .i64 a1, .int .i64 a2] rfl (by (try simp only [List.map_toArray, List.map_cons, List.map_nil]); first | done | rfl | (simp only [List.length_drop, List.length_take]; rfl)) ?_; (with_reducible refine (field_Bits.calls a0 a1 a2 t137 _ A4.out).mono ?_); rintro e w' ⟨rfl, ⟨nd, rfl⟩⟩; refine ⟨_, rfl, ?_⟩) | ((with_reducible refine gate_callee (f := 17) rfl ?_); refine goesL_ (some 14) rfl rfl Try.func17 (by kernel_rfl) rfl #[.int .u32 a0, .int .i64 a1, .int .i64 a2] rfl (by (try simp only [List.map_toArray, List.map_cons, List.map_nil]); first | done | rfl | (simp only [List.length_drop, List.length_take]; rfl)) ?_; (with_reducible refine (dioscuriref5_Bits.calls k a0 a1 a2 t138 _ A5.out).mono ?_); rintro e w' ⟨rfl, ⟨nd, rfl⟩⟩; refine ⟨_, rfl, ?_⟩) | (go_at_call 11; (with_reducible refine (field_Sign.calls a0 a2 t139 _ A7.out).mono ?_); rintro e w' ⟨rfl, ⟨nd, rfl⟩⟩) | (go_at_call 18; (with_reducible refine (dioscuriref5_Sign.calls a0 a2 t140 _ A8.out).mono ?_); rintro e w' ⟨rfl, ⟨nd, rfl⟩⟩) | (go_at_call 12; (with_reducible refine (field_ImmI.calls a0 t141 _ A10.out).mono ?_); rintro e w' ⟨rfl, ⟨nd, rfl⟩⟩) | (go_at_call 19; (with_reducible refine (dioscuriref5_ImmI.calls k a0 t142 _ A11.out).mono ?_); rintro e w' ⟨rfl, ⟨nd, rfl⟩⟩) | (go_at_call 13; (with_reducible refine (field_ImmS.calls a0 t143 _ A13.out).mono ?_); rintro e w' ⟨rfl, ⟨nd, rfl⟩⟩) | (go_at_call 20; (with_reducible refine (dioscuriref5_ImmS.calls k a0 t144 _ A14.out).mono ?_); rintro e w' ⟨rfl, ⟨nd, rfl⟩⟩) | (go_at_call 14; (with_reducible refine (field_ImmB.calls a0 t145 _ A16.out).mono ?_); rintro e w' ⟨rfl, ⟨nd, rfl⟩⟩) | (go_at_call 21; (with_reducible refine (dioscuriref5_ImmB.calls k a0 t146 _ A17.out).mono ?_); rintro e w' ⟨rfl, ⟨nd, rfl⟩⟩) | (go_at_call 15; (with_reducible refine (field_ImmU.calls a0 t147 _ A19.out).mono ?_); rintro e w' ⟨rfl, ⟨nd, rfl⟩⟩) | (go_at_call 22; (with_reducible refine (dioscuriref5_ImmU.calls a0 t148 _ A20.out).mono ?_); rintro e w' ⟨rfl, ⟨nd, rfl⟩⟩) | (go_at_call 16; (with_reducible refine (field_ImmJ.calls a0 t149 _ A22.out).mono ?_); rintro e w' ⟨rfl, ⟨nd, rfl⟩⟩) | (go_at_call 23; (with_reducible refine (dioscuriref5_ImmJ.calls k a0 t150 _ A23.out).mono ?_); rintro e w' ⟨rfl, ⟨nd, rfl⟩⟩))
              go_ret
              exact ⟨by first | rfl | (simp; done) | (simp [*]; done), by repeat (first | exact Drawn0.refl _ | apply Drawn0.step)⟩
            · rw [if_neg c21] at H
              have c21b0 : (t147 == t148) = false := beq_eq_false_iff_ne.mpr c21
              have c21b1 : (t147 != t148) = true := bne_iff_ne.mpr c21
              obtain rfl := Option.some.inj H
              go_enter Try.func10, Try.ntmps10
              go_wp2_with (first | ((with_reducible refine gate_callee (f := 8) rfl ?_); refine goesL_ (some 10) rfl rfl Try.func8 (by kernel_rfl) rfl #[.int .u32 a0, .int .i64 a1, .int .i64 a2] rfl (by (try simp only [List.map_toArray, List.map_cons, List.map_nil]); first | done | rfl | (simp only [List.length_drop, List.length_take]; rfl)) ?_; (with_reducible refine (field_Bits.calls a0 a1 a2 t137 _ A4.out).mono ?_); rintro e w' ⟨rfl, ⟨nd, rfl⟩⟩; refine ⟨_, rfl, ?_⟩) | ((with_reducible refine gate_callee (f := 17) rfl ?_); refine goesL_ (some 14) rfl rfl Try.func17 (by kernel_rfl) rfl #[.int .u32 a0, .int .i64 a1, .int .i64 a2] rfl (by (try simp only [List.map_toArray, List.map_cons, List.map_nil]); first | done | rfl | (simp only [List.length_drop, List.length_take]; rfl)) ?_; (with_reducible refine (dioscuriref5_Bits.calls k a0 a1 a2 t138 _ A5.out).mono ?_); rintro e w' ⟨rfl, ⟨nd, rfl⟩⟩; refine ⟨_, rfl, ?_⟩) | (go_at_call 11; (with_reducible refine (field_Sign.calls a0 a2 t139 _ A7.out).mono ?_); rintro e w' ⟨rfl, ⟨nd, rfl⟩⟩) | (go_at_call 18; (with_reducible refine (dioscuriref5_Sign.calls a0 a2 t140 _ A8.out).mono ?_); rintro e w' ⟨rfl, ⟨nd, rfl⟩⟩) | (go_at_call 12; (with_reducible refine (field_ImmI.calls a0 t141 _ A10.out).mono ?_); rintro e w' ⟨rfl, ⟨nd, rfl⟩⟩) | (go_at_call 19; (with_reducible refine (dioscuriref5_ImmI.calls k a0 t142 _ A11.out).mono ?_); rintro e w' ⟨rfl, ⟨nd, rfl⟩⟩) | (go_at_call 13; (with_reducible refine (field_ImmS.calls a0 t143 _ A13.out).mono ?_); rintro e w' ⟨rfl, ⟨nd, rfl⟩⟩) | (go_at_call 20; (with_reducible refine (dioscuriref5_ImmS.calls k a0 t144 _ A14.out).mono ?_); rintro e w' ⟨rfl, ⟨nd, rfl⟩⟩) | (go_at_call 14; (with_reducible refine (field_ImmB.calls a0 t145 _ A16.out).mono ?_); rintro e w' ⟨rfl, ⟨nd, rfl⟩⟩) | (go_at_call 21; (with_reducible refine (dioscuriref5_ImmB.calls k a0 t146 _ A17.out).mono ?_); rintro e w' ⟨rfl, ⟨nd, rfl⟩⟩) | (go_at_call 15; (with_reducible refine (field_ImmU.calls a0 t147 _ A19.out).mono ?_); rintro e w' ⟨rfl, ⟨nd, rfl⟩⟩) | (go_at_call 22; (with_reducible refine (dioscuriref5_ImmU.calls a0 t148 _ A20.out).mono ?_); rintro e w' ⟨rfl, ⟨nd, rfl⟩⟩))
              go_ret
              exact ⟨by first | rfl | (simp; done) | (simp [*]; done), by repeat (first | exact Drawn0.refl _ | apply Drawn0.step)⟩
          · rw [if_neg c18] at H
            have c18b0 : (t145 == t146) = false := beq_eq_false_iff_ne.mpr c18
            have c18b1 : (t145 != t146) = true := bne_iff_ne.mpr c18
            obtain rfl := Option.some.inj H
            go_enter Try.func10, Try.ntmps10
            go_wp2_with (first | ((with_reducible refine gate_callee (f := 8) rfl ?_); refine goesL_ (some 10) rfl rfl Try.func8 (by kernel_rfl) rfl #[.int .u32 a0, .int .i64 a1, .int .i64 a2] rfl (by (try simp only [List.map_toArray, List.map_cons, List.map_nil]); first | done | rfl | (simp only [List.length_drop, List.length_take]; rfl)) ?_; (with_reducible refine (field_Bits.calls a0 a1 a2 t137 _ A4.out).mono ?_); rintro e w' ⟨rfl, ⟨nd, rfl⟩⟩; refine ⟨_, rfl, ?_⟩) | ((with_reducible refine gate_callee (f := 17) rfl ?_); refine goesL_ (some 14) rfl rfl Try.func17 (by kernel_rfl) rfl #[.int .u32 a0, .int .i64 a1, .int .i64 a2] rfl (by (try simp only [List.map_toArray, List.map_cons, List.map_nil]); first | done | rfl | (simp only [List.length_drop, List.length_take]; rfl)) ?_; (with_reducible refine (dioscuriref5_Bits.calls k a0 a1 a2 t138 _ A5.out).mono ?_); rintro e w' ⟨rfl, ⟨nd, rfl⟩⟩; refine ⟨_, rfl, ?_⟩) | (go_at_call 11; (with_reducible refine (field_Sign.calls a0 a2 t139 _ A7.out).mono ?_); rintro e w' ⟨rfl, ⟨nd, rfl⟩⟩) | (go_at_call 18; (with_reducible refine (dioscuriref5_Sign.calls a0 a2 t140 _ A8.out).mono ?_); rintro e w' ⟨rfl, ⟨nd, rfl⟩⟩) | (go_at_call 12; (with_reducible refine (field_ImmI.calls a0 t141 _ A10.out).mono ?_); rintro e w' ⟨rfl, ⟨nd, rfl⟩⟩) | (go_at_call 19; (with_reducible refine (dioscuriref5_ImmI.calls k a0 t142 _ A11.out).mono ?_); rintro e w' ⟨rfl, ⟨nd, rfl⟩⟩) | (go_at_call 13; (with_reducible refine (field_ImmS.calls a0 t143 _ A13.out).mono ?_); rintro e w' ⟨rfl, ⟨nd, rfl⟩⟩) | (go_at_call 20; (with_reducible refine (dioscuriref5_ImmS.calls k a0 t144 _ A14.out).mono ?_); rintro e w' ⟨rfl, ⟨nd, rfl⟩⟩) | (go_at_call 14; (with_reducible refine (field_ImmB.calls a0 t145 _ A16.out).mono ?_); rintro e w' ⟨rfl, ⟨nd, rfl⟩⟩) | (go_at_call 21; (with_reducible refine (dioscuriref5_ImmB.calls k a0 t146 _ A17.out).mono ?_); rintro e w' ⟨rfl, ⟨nd, rfl⟩⟩))
            go_ret
            exact ⟨by first | rfl | (simp; done) | (simp [*]; done), by repeat (first | exact Drawn0.refl _ | apply Drawn0.step)⟩
        · rw [if_neg c15] at H
          have c15b0 : (t143 == t144) = false := beq_eq_false_iff_ne.mpr c15
          have c15b1 : (t143 != t144) = true := bne_iff_ne.mpr c15
          obtain rfl := Option.some.inj H
          go_enter Try.func10, Try.ntmps10
          go_wp2_with (first | ((with_reducible refine gate_callee (f := 8) rfl ?_); refine goesL_ (some 10) rfl rfl Try.func8 (by kernel_rfl) rfl #[.int .u32 a0, .int .i64 a1, .int .i64 a2] rfl (by (try simp only [List.map_toArray, List.map_cons, List.map_nil]); first | done | rfl | (simp only [List.length_drop, List.length_take]; rfl)) ?_; (with_reducible refine (field_Bits.calls a0 a1 a2 t137 _ A4.out).mono ?_); rintro e w' ⟨rfl, ⟨nd, rfl⟩⟩; refine ⟨_, rfl, ?_⟩) | ((with_reducible refine gate_callee (f := 17) rfl ?_); refine goesL_ (some 14) rfl rfl Try.func17 (by kernel_rfl) rfl #[.int .u32 a0, .int .i64 a1, .int .i64 a2] rfl (by (try simp only [List.map_toArray, List.map_cons, List.map_nil]); first | done | rfl | (simp only [List.length_drop, List.length_take]; rfl)) ?_; (with_reducible refine (dioscuriref5_Bits.calls k a0 a1 a2 t138 _ A5.out).mono ?_); rintro e w' ⟨rfl, ⟨nd, rfl⟩⟩; refine ⟨_, rfl, ?_⟩) | (go_at_call 11; (with_reducible refine (field_Sign.calls a0 a2 t139 _ A7.out).mono ?_); rintro e w' ⟨rfl, ⟨nd, rfl⟩⟩) | (go_at_call 18; (with_reducible refine (dioscuriref5_Sign.calls a0 a2 t140 _ A8.out).mono ?_); rintro e w' ⟨rfl, ⟨nd, rfl⟩⟩) | (go_at_call 12; (with_reducible refine (field_ImmI.calls a0 t141 _ A10.out).mono ?_); rintro e w' ⟨rfl, ⟨nd, rfl⟩⟩) | (go_at_call 19; (with_reducible refine (dioscuriref5_ImmI.calls k a0 t142 _ A11.out).mono ?_); rintro e w' ⟨rfl, ⟨nd, rfl⟩⟩) | (go_at_call 13; (with_reducible refine (field_ImmS.calls a0 t143 _ A13.out).mono ?_); rintro e w' ⟨rfl, ⟨nd, rfl⟩⟩) | (go_at_call 20; (with_reducible refine (dioscuriref5_ImmS.calls k a0 t144 _ A14.out).mono ?_); rintro e w' ⟨rfl, ⟨nd, rfl⟩⟩))
          go_ret
          exact ⟨by first | rfl | (simp; done) | (simp [*]; done), by repeat (first | exact Drawn0.refl _ | apply Drawn0.step)⟩
      · rw [if_neg c12] at H
        have c12b0 : (t141 == t142) = false := beq_eq_false_iff_ne.mpr c12
        have c12b1 : (t141 != t142) = true := bne_iff_ne.mpr c12
        obtain rfl := Option.some.inj H
        go_enter Try.func10, Try.ntmps10
        go_wp2_with (first | ((with_reducible refine gate_callee (f := 8) rfl ?_); refine goesL_ (some 10) rfl rfl Try.func8 (by kernel_rfl) rfl #[.int .u32 a0, .int .i64 a1, .int .i64 a2] rfl (by (try simp only [List.map_toArray, List.map_cons, List.map_nil]); first | done | rfl | (simp only [List.length_drop, List.length_take]; rfl)) ?_; (with_reducible refine (field_Bits.calls a0 a1 a2 t137 _ A4.out).mono ?_); rintro e w' ⟨rfl, ⟨nd, rfl⟩⟩; refine ⟨_, rfl, ?_⟩) | ((with_reducible refine gate_callee (f := 17) rfl ?_); refine goesL_ (some 14) rfl rfl Try.func17 (by kernel_rfl) rfl #[.int .u32 a0, .int .i64 a1, .int .i64 a2] rfl (by (try simp only [List.map_toArray, List.map_cons, List.map_nil]); first | done | rfl | (simp only [List.length_drop, List.length_take]; rfl)) ?_; (with_reducible refine (dioscuriref5_Bits.calls k a0 a1 a2 t138 _ A5.out).mono ?_); rintro e w' ⟨rfl, ⟨nd, rfl⟩⟩; refine ⟨_, rfl, ?_⟩) | (go_at_call 11; (with_reducible refine (field_Sign.calls a0 a2 t139 _ A7.out).mono ?_); rintro e w' ⟨rfl, ⟨nd, rfl⟩⟩) | (go_at_call 18; (with_reducible refine (dioscuriref5_Sign.calls a0 a2 t140 _ A8.out).mono ?_); rintro e w' ⟨rfl, ⟨nd, rfl⟩⟩) | (go_at_call 12; (with_reducible refine (field_ImmI.calls a0 t141 _ A10.out).mono ?_); rintro e w' ⟨rfl, ⟨nd, rfl⟩⟩) | (go_at_call 19; (with_reducible refine (dioscuriref5_ImmI.calls k a0 t142 _ A11.out).mono ?_); rintro e w' ⟨rfl, ⟨nd, rfl⟩⟩))
        go_ret
        exact ⟨by first | rfl | (simp; done) | (simp [*]; done), by repeat (first | exact Drawn0.refl _ | apply Drawn0.step)⟩
    · rw [if_neg c9] at H
      have c9b0 : (t139 == t140) = false := beq_eq_false_iff_ne.mpr c9
      have c9b1 : (t139 != t140) = true := bne_iff_ne.mpr c9
      obtain rfl := Option.some.inj H
      go_enter Try.func10, Try.ntmps10
      go_wp2_with (first | ((with_reducible refine gate_callee (f := 8) rfl ?_); refine goesL_ (some 10) rfl rfl Try.func8 (by kernel_rfl) rfl #[.int .u32 a0, .int .i64 a1, .int .i64 a2] rfl (by (try simp only [List.map_toArray, List.map_cons, List.map_nil]); first | done | rfl | (simp only [List.length_drop, List.length_take]; rfl)) ?_; (with_reducible refine (field_Bits.calls a0 a1 a2 t137 _ A4.out).mono ?_); rintro e w' ⟨rfl, ⟨nd, rfl⟩⟩; refine ⟨_, rfl, ?_⟩) | ((with_reducible refine gate_callee (f := 17) rfl ?_); refine goesL_ (some 14) rfl rfl Try.func17 (by kernel_rfl) rfl #[.int .u32 a0, .int .i64 a1, .int .i64 a2] rfl (by (try simp only [List.map_toArray, List.map_cons, List.map_nil]); first | done | rfl | (simp only [List.length_drop, List.length_take]; rfl)) ?_; (with_reducible refine (dioscuriref5_Bits.calls k a0 a1 a2 t138 _ A5.out).mono ?_); rintro e w' ⟨rfl, ⟨nd, rfl⟩⟩; refine ⟨_, rfl, ?_⟩) | (go_at_call 11; (with_reducible refine (field_Sign.calls a0 a2 t139 _ A7.out).mono ?_); rintro e w' ⟨rfl, ⟨nd, rfl⟩⟩) | (go_at_call 18; (with_reducible refine (dioscuriref5_Sign.calls a0 a2 t140 _ A8.out).mono ?_); rintro e w' ⟨rfl, ⟨nd, rfl⟩⟩))
      go_ret
      exact ⟨by first | rfl | (simp; done) | (simp [*]; done), by repeat (first | exact Drawn0.refl _ | apply Drawn0.step)⟩
  · rw [if_neg c6] at H
    have c6b0 : (t137 == t138) = false := beq_eq_false_iff_ne.mpr c6
    have c6b1 : (t137 != t138) = true := bne_iff_ne.mpr c6
    obtain rfl := Option.some.inj H
    go_enter Try.func10, Try.ntmps10
    go_wp2_with (first | ((with_reducible refine gate_callee (f := 8) rfl ?_); refine goesL_ (some 10) rfl rfl Try.func8 (by kernel_rfl) rfl #[.int .u32 a0, .int .i64 a1, .int .i64 a2] rfl (by (try simp only [List.map_toArray, List.map_cons, List.map_nil]); first | done | rfl | (simp only [List.length_drop, List.length_take]; rfl)) ?_; (with_reducible refine (field_Bits.calls a0 a1 a2 t137 _ A4.out).mono ?_); rintro e w' ⟨rfl, ⟨nd, rfl⟩⟩; refine ⟨_, rfl, ?_⟩) | ((with_reducible refine gate_callee (f := 17) rfl ?_); refine goesL_ (some 14) rfl rfl Try.func17 (by kernel_rfl) rfl #[.int .u32 a0, .int .i64 a1, .int .i64 a2] rfl (by (try simp only [List.map_toArray, List.map_cons, List.map_nil]); first | done | rfl | (simp only [List.length_drop, List.length_take]; rfl)) ?_; (with_reducible refine (dioscuriref5_Bits.calls k a0 a1 a2 t138 _ A5.out).mono ?_); rintro e w' ⟨rfl, ⟨nd, rfl⟩⟩; refine ⟨_, rfl, ?_⟩))
    go_ret
    exact ⟨by first | rfl | (simp; done) | (simp [*]; done), by repeat (first | exact Drawn0.refl _ | apply Drawn0.step)⟩

/-! ### dioscurilaw4_FieldTells: function 5 -/
def dioscurilaw4_FieldTells.f (k : Nat) (a0 : Int) (a1 : Int) (a2 : Int) : Option (Bool) := (dioscurilaw4_same.f k a0 a1 a2).bind fun t151 => (if t151 = true then ((dioscurilaw4_same.f k a0 (Go.bits .and .i64 a1 31) (wrap64 (1 + (Go.bits .and .i64 a2 31)))).bind fun t152 => (if t152 = true then ((dioscurilaw4_known.f).bind fun t153 => (some t153)) else (some false))) else (some false))
theorem dioscurilaw4_FieldTells.mono : ∀ a0 a1 a2 k, LeO (dioscurilaw4_FieldTells.f k a0 a1 a2) (dioscurilaw4_FieldTells.f (k + 1) a0 a1 a2) := by
  intro a0 a1 a2 k
  unfold dioscurilaw4_FieldTells.f
  repeat' first
      | (with_reducible exact dioscurilaw4_same.mono _ _ _ _)
      | (with_reducible exact LeO.refl _)
      | (with_reducible exact LeO.none _)
      | (with_reducible refine LeO.ite ?_ ?_)
      | (with_reducible refine LeO.bind ?_ (fun _ => ?_))
      | exact dioscurilaw4_same.mono _ _ _ _
      | exact LeO.none _
      | refine LeO.ite ?_ ?_
      | refine LeO.bind ?_ (fun _ => ?_)
set_option maxHeartbeats 8000000 in
set_option maxRecDepth 100000 in
theorem dioscurilaw4_FieldTells.calls (k : Nat) (a0 : Int) (a1 : Int) (a2 : Int) (r : Bool) (w : World) (h : dioscurilaw4_FieldTells.f k a0 a1 a2 = some r) :
    Calls Try.prog 5 #[.int .u32 a0, .int .i64 a1, .int .i64 a2] w fun e w' => e = .returned (.bool r) ∧ Drawn0 w w' := by
  have H : ((dioscurilaw4_same.f k a0 a1 a2).bind fun t151 => (if t151 = true then ((dioscurilaw4_same.f k a0 (Go.bits .and .i64 a1 31) (wrap64 (1 + (Go.bits .and .i64 a2 31)))).bind fun t152 => (if t152 = true then ((dioscurilaw4_known.f).bind fun t153 => (some t153)) else (some false))) else (some false))) = some r := h
  clear h
  replace H := Option.bind_eq_some_iff.mp H
  obtain ⟨t151, A40, H⟩ := H
  replace H : (if t151 = true then ((dioscurilaw4_same.f k a0 (Go.bits .and .i64 a1 31) (wrap64 (1 + (Go.bits .and .i64 a2 31)))).bind fun t152 => (if t152 = true then ((dioscurilaw4_known.f).bind fun t153 => (some t153)) else (some false))) else (some false)) = some r := H
  have A4 := Aside0.mk A40
  clear A40
  by_cases c5 : t151 = true
  · subst c5
    have H1 : ((dioscurilaw4_same.f k a0 (Go.bits .and .i64 a1 31) (wrap64 (1 + (Go.bits .and .i64 a2 31)))).bind fun t152 => (if t152 = true then ((dioscurilaw4_known.f).bind fun t153 => (some t153)) else (some false))) = some r := by rw [if_pos rfl] at H; exact H
    clear H
    have H := H1
    clear H1
    replace H := Option.bind_eq_some_iff.mp H
    obtain ⟨t152, A60, H⟩ := H
    replace H : (if t152 = true then ((dioscurilaw4_known.f).bind fun t153 => (some t153)) else (some false)) = some r := H
    have A6 := Aside0.mk A60
    clear A60
    by_cases c7 : t152 = true
    · subst c7
      have H1 : ((dioscurilaw4_known.f).bind fun t153 => (some t153)) = some r := by rw [if_pos rfl] at H; exact H
      clear H
      have H := H1
      clear H1
      replace H := Option.bind_eq_some_iff.mp H
      obtain ⟨t153, A80, H⟩ := H
      replace H : (some t153) = some r := H
      have A8 := Aside0.mk A80
      clear A80
      obtain rfl := Option.some.inj H
      go_enter Try.func5, Try.ntmps5
      go_wp2_with (first | ((with_reducible refine gate_callee (f := 10) rfl ?_); refine goesL_ (some 10) rfl rfl Try.func10 (by kernel_rfl) rfl #[.int .u32 a0, .int .i64 a1, .int .i64 a2] rfl (by (try simp only [List.map_toArray, List.map_cons, List.map_nil]); first | done | rfl | (simp only [List.length_drop, List.length_take]; rfl)) ?_; (with_reducible refine (dioscurilaw4_same.calls k a0 a1 a2 true _ A4.out).mono ?_); rintro e w' ⟨rfl, ⟨nd, rfl⟩⟩; refine ⟨_, rfl, ?_⟩) | (go_at_call 10; (with_reducible refine (dioscurilaw4_same.calls k a0 (Go.bits .and .i64 a1 31) (wrap64 (1 + (Go.bits .and .i64 a2 31))) true _ A6.out).mono ?_); rintro e w' ⟨rfl, ⟨nd, rfl⟩⟩) | (go_at_call 9; (with_reducible refine (dioscurilaw4_known.calls  t153 _ A8.out).mono ?_); rintro e w' ⟨rfl, ⟨nd, rfl⟩⟩))
      go_ret
      exact ⟨by first | rfl | (simp; done) | (simp [*]; done), by repeat (first | exact Drawn0.refl _ | apply Drawn0.step)⟩
    · replace c7 := Bool.eq_false_iff.mpr c7
      subst c7
      have H1 : (some false) = some r := by rw [if_neg (show ¬ (false = true) by decide)] at H; exact H
      clear H
      have H := H1
      clear H1
      obtain rfl := Option.some.inj H
      go_enter Try.func5, Try.ntmps5
      go_wp2_with (first | ((with_reducible refine gate_callee (f := 10) rfl ?_); refine goesL_ (some 10) rfl rfl Try.func10 (by kernel_rfl) rfl #[.int .u32 a0, .int .i64 a1, .int .i64 a2] rfl (by (try simp only [List.map_toArray, List.map_cons, List.map_nil]); first | done | rfl | (simp only [List.length_drop, List.length_take]; rfl)) ?_; (with_reducible refine (dioscurilaw4_same.calls k a0 a1 a2 true _ A4.out).mono ?_); rintro e w' ⟨rfl, ⟨nd, rfl⟩⟩; refine ⟨_, rfl, ?_⟩) | (go_at_call 10; (with_reducible refine (dioscurilaw4_same.calls k a0 (Go.bits .and .i64 a1 31) (wrap64 (1 + (Go.bits .and .i64 a2 31))) false _ A6.out).mono ?_); rintro e w' ⟨rfl, ⟨nd, rfl⟩⟩))
      go_ret
      exact ⟨by first | rfl | (simp; done) | (simp [*]; done), by repeat (first | exact Drawn0.refl _ | apply Drawn0.step)⟩
  · replace c5 := Bool.eq_false_iff.mpr c5
    subst c5
    have H1 : (some false) = some r := by rw [if_neg (show ¬ (false = true) by decide)] at H; exact H
    clear H
    have H := H1
    clear H1
    obtain rfl := Option.some.inj H
    go_enter Try.func5, Try.ntmps5
    go_wp2_with (first | ((with_reducible refine gate_callee (f := 10) rfl ?_); refine goesL_ (some 10) rfl rfl Try.func10 (by kernel_rfl) rfl #[.int .u32 a0, .int .i64 a1, .int .i64 a2] rfl (by (try simp only [List.map_toArray, List.map_cons, List.map_nil]); first | done | rfl | (simp only [List.length_drop, List.length_take]; rfl)) ?_; (with_reducible refine (dioscurilaw4_same.calls k a0 a1 a2 false _ A4.out).mono ?_); rintro e w' ⟨rfl, ⟨nd, rfl⟩⟩; refine ⟨_, rfl, ?_⟩))
    go_ret
    exact ⟨by first | rfl | (simp; done) | (simp [*]; done), by repeat (first | exact Drawn0.refl _ | apply Drawn0.step)⟩

/-- THE ONE PURE STATEMENT of dioscurilaw4_FieldTells: yours. -/
def dioscurilaw4_FieldTells.Pure : Prop := ∀ (a0 : Int) (a1 : Int) (a2 : Int), (Lit.int .u32 a0).wf = true → (Lit.int .i64 a1).wf = true → (Lit.int .i64 a2).wf = true → ∃ k, dioscurilaw4_FieldTells.f k a0 a1 a2 = some true
theorem dioscurilaw4_FieldTells.walk (P : dioscurilaw4_FieldTells.Pure) (a0 : Int) (a1 : Int) (a2 : Int) (w : World) (w0 : (Lit.int .u32 a0).wf = true) (w1 : (Lit.int .i64 a1).wf = true) (w2 : (Lit.int .i64 a2).wf = true) :
    Calls Try.prog 5 #[.int .u32 a0, .int .i64 a1, .int .i64 a2] w fun e w' => e = .returned (.bool true) ∧ Below w.heap.size w w' := by
  obtain ⟨k, h⟩ := P a0 a1 a2 w0 w1 w2
  refine (dioscurilaw4_FieldTells.calls k a0 a1 a2 true w h).mono ?_
  rintro e w' ⟨rfl, hd⟩
  exact ⟨rfl, hd.below⟩

end Go.Proofs.Ytgkaidjikakpkaa.PFieldTells
