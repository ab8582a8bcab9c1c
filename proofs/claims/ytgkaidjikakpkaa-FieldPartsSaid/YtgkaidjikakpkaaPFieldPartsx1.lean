-- PRINTED BY print.sh 35421559b90ae4d0a3588c463048766b98c2df88dd9212a6774a882060cdf62d: not written by this session
import Derived.Test.YtgkaidjikakpkaaPFieldPartsx0
namespace Go.Proofs.Ytgkaidjikakpkaa.PFieldParts
open Go.RowKit Go.Proofs.YtgkaidjikakpkaaW.PrintWords Go.Proofs.YtgkaidjikakpkaaW.PrintLast Go.Proofs.YtgkaidjikakpkaaW.PrintMore
attribute [local go_sem] max2_int min2_int max_two min_two max_three min_three max_four min_four   -- for this text's walks alone
set_option linter.unusedVariables false
set_option linter.unusedSimpArgs false

/-! ### field_Bits: function 8 -/
def field_Bits.f (a0 : Int) (a1 : Int) (a2 : Int) : Option (Int) := if a1 < 0 then (some 0) else (if a1 ≥ 32 then (some 0) else (if a2 < 1 then (some 0) else (if a2 > 32 then (some 0) else (if 0 ≤ a1 then (if 0 ≤ a2 then (some ((Go.bits .and .u64 (shr .u64 (IntKind.u64.wrap (a0)) a1) (IntKind.u64.wrap ((shl .u64 1 a2) - 1))) % 4294967296)) else (none)) else (none)))))
set_option maxHeartbeats 8000000 in
set_option maxRecDepth 100000 in
theorem field_Bits.calls (a0 : Int) (a1 : Int) (a2 : Int) (r : Int) (w : World) (h : field_Bits.f a0 a1 a2 = some r) :
    Calls Try.prog 8 #[.int .u32 a0, .int .i64 a1, .int .i64 a2] w fun e w' => e = .returned (.int .u32 r) ∧ Drawn0 w w' := by
  have H : (if a1 < 0 then (some 0) else (if a1 ≥ 32 then (some 0) else (if a2 < 1 then (some 0) else (if a2 > 32 then (some 0) else (if 0 ≤ a1 then (if 0 ≤ a2 then (some ((Go.bits .and .u64 (shr .u64 (IntKind.u64.wrap (a0)) a1) (IntKind.u64.wrap ((shl .u64 1 a2) - 1))) % 4294967296)) else (none)) else (none)))))) = some r := h
  clear h
  by_cases c4 : a1 < 0
  · rw [if_pos c4] at H
    have c4b0 : decide (a1 < 0) = true := decide_eq_true c4
    clear c4
    obtain rfl := Option.some.inj H
    go_enter Try.func8, Try.ntmps8
    go_wp2
    repeat (go_quiet (fail); try go_wp2)
    go_ret
    exact ⟨by first | rfl | (simp; done) | (simp [*]; done), by repeat (first | exact Drawn0.refl _ | apply Drawn0.step)⟩
  · rw [if_neg c4] at H
    have c4b0 : decide (a1 < 0) = false := decide_eq_false c4
    clear c4
    by_cases c5 : a1 ≥ 32
    · rw [if_pos c5] at H
      have c5b0 : decide (32 ≤ a1) = true := decide_eq_true c5
      clear c5
      obtain rfl := Option.some.inj H
      go_enter Try.func8, Try.ntmps8
      go_wp2
      repeat (go_quiet (fail); try go_wp2)
      go_ret
      exact ⟨by first | rfl | (simp; done) | (simp [*]; done), by repeat (first | exact Drawn0.refl _ | apply Drawn0.step)⟩
    · rw [if_neg c5] at H
      have c5b0 : decide (32 ≤ a1) = false := decide_eq_false c5
      clear c5
      by_cases c6 : a2 < 1
      · rw [if_pos c6] at H
        have c6b0 : decide (a2 < 1) = true := decide_eq_true c6
        clear c6
        obtain rfl := Option.some.inj H
        go_enter Try.func8, Try.ntmps8
        go_wp2
        repeat (go_quiet (fail); try go_wp2)
        go_ret
        exact ⟨by first | rfl | (simp; done) | (simp [*]; done), by repeat (first | exact Drawn0.refl _ | apply Drawn0.step)⟩
      · rw [if_neg c6] at H
        have c6b0 : decide (a2 < 1) = false := decide_eq_false c6
        clear c6
        by_cases c7 : a2 > 32
        · rw [if_pos c7] at H
          have c7b0 : decide (32 < a2) = true := decide_eq_true c7
          clear c7
          obtain rfl := Option.some.inj H
          go_enter Try.func8, Try.ntmps8
          go_wp2
          repeat (go_quiet (fail); try go_wp2)
          go_ret
          exact ⟨by first | rfl | (simp; done) | (simp [*]; done), by repeat (first | exact Drawn0.refl _ | apply Drawn0.step)⟩
        · rw [if_neg c7] at H
          have c7b0 : decide (32 < a2) = false := decide_eq_false c7
          clear c7
          by_cases c8 : 0 ≤ a1
          · rw [if_pos c8] at H
            have c8b0 := eq_true c8
            have c8b1 : decide (0 ≤ a1) = true := decide_eq_true c8
            clear c8
            obtain ⟨ji9, hji9⟩ : ∃ j_ : Int, (shr .u64 (IntKind.u64.wrap (a0)) a1) = j_ := ⟨_, rfl⟩
            replace H : (if 0 ≤ a2 then (some ((Go.bits .and .u64 (ji9) (IntKind.u64.wrap ((shl .u64 1 a2) - 1))) % 4294967296)) else (none)) = some r := by first | (rw [hji9] at H; exact H) | (simp only [hji9] at H ⊢; exact H)
            have hji9_ : ((IntKind.u64.wrap (a0)) / 2 ^ min a1.toNat 64) = ji9 := hji9
            have hji9z : a1 ≤ 64 → ((IntKind.u64.wrap (a0)) / 2 ^ a1.toNat) = ji9 := shr_small hji9
            by_cases c10 : 0 ≤ a2
            · rw [if_pos c10] at H
              have c10b0 := eq_true c10
              have c10b1 : decide (0 ≤ a2) = true := decide_eq_true c10
              clear c10
              obtain ⟨ji11, hji11⟩ : ∃ j_ : Int, (shl .u64 1 a2) = j_ := ⟨_, rfl⟩
              replace H : (some ((Go.bits .and .u64 (ji9) (IntKind.u64.wrap ((ji11) - 1))) % 4294967296)) = some r := by first | (rw [hji11] at H; exact H) | (simp only [hji11] at H ⊢; exact H)
              have hji11_ : (IntKind.u64.wrap (1 * 2 ^ min a2.toNat 64)) = ji11 := hji11
              have hji11z : a2 ≤ 64 → (IntKind.u64.wrap (1 * 2 ^ a2.toNat)) = ji11 := shl_small hji11
              have hji11u : (IntKind.u64.wrap (2 ^ min a2.toNat 64)) = ji11 := by have h_ := hji11_; rw [Int.one_mul] at h_; exact h_
              have hji11v : a2 ≤ 64 → (IntKind.u64.wrap (2 ^ a2.toNat)) = ji11 := fun hle_ => by have h_ := hji11z hle_; rw [Int.one_mul] at h_; exact h_
              obtain rfl := Option.some.inj H
              go_enter Try.func8, Try.ntmps8
              go_wp2
              repeat (go_quiet (fail); try go_wp2)
              go_ret
              exact ⟨by first | rfl | (simp; done) | (simp only [← hji9, ← hji11] <;> (first | rfl | simp)) | (simp [*]; done), by repeat (first | exact Drawn0.refl _ | apply Drawn0.step)⟩
            · rw [if_neg c10] at H
              exact absurd H (by simp)
          · rw [if_neg c8] at H
            exact absurd H (by simp)

/-! ### field_Sign: function 11 -/
def field_Sign.f (a0 : Int) (a1 : Int) : Option (Int) := if a1 < 1 then (some 0) else (if a1 > 32 then (some 0) else (if 0 ≤ (wrap64 (32 - a1)) then (some (shr .i32 (wrap32 (shl .u32 a0 (wrap64 (32 - a1)))) (wrap64 (32 - a1)))) else (none)))
set_option maxHeartbeats 8000000 in
set_option maxRecDepth 100000 in
theorem field_Sign.calls (a0 : Int) (a1 : Int) (r : Int) (w : World) (h : field_Sign.f a0 a1 = some r) :
    Calls Try.prog 11 #[.int .u32 a0, .int .i64 a1] w fun e w' => e = .returned (.int .i32 r) ∧ Drawn0 w w' := by
  have H : (if a1 < 1 then (some 0) else (if a1 > 32 then (some 0) else (if 0 ≤ (wrap64 (32 - a1)) then (some (shr .i32 (wrap32 (shl .u32 a0 (wrap64 (32 - a1)))) (wrap64 (32 - a1)))) else (none)))) = some r := h
  clear h
  by_cases c3 : a1 < 1
  · rw [if_pos c3] at H
    have c3b0 : decide (a1 < 1) = true := decide_eq_true c3
    clear c3
    obtain rfl := Option.some.inj H
    go_enter Try.func11, Try.ntmps11
    go_wp2
    go_ret
    exact ⟨by first | rfl | (simp; done) | (simp [*]; done), by repeat (first | exact Drawn0.refl _ | apply Drawn0.step)⟩
  · rw [if_neg c3] at H
    have c3b0 : decide (a1 < 1) = false := decide_eq_false c3
    clear c3
    by_cases c4 : a1 > 32
    · rw [if_pos c4] at H
      have c4b0 : decide (32 < a1) = true := decide_eq_true c4
      clear c4
      obtain rfl := Option.some.inj H
      go_enter Try.func11, Try.ntmps11
      go_wp2
      go_ret
      exact ⟨by first | rfl | (simp; done) | (simp [*]; done), by repeat (first | exact Drawn0.refl _ | apply Drawn0.step)⟩
    · rw [if_neg c4] at H
      have c4b0 : decide (32 < a1) = false := decide_eq_false c4
      clear c4
      obtain ⟨ji5, hji5⟩ : ∃ j_ : Int, (wrap64 (32 - a1)) = j_ := ⟨_, rfl⟩
      replace H : (if 0 ≤ (ji5) then (some (shr .i32 (wrap32 (shl .u32 a0 (ji5))) (ji5))) else (none)) = some r := by first | (rw [hji5] at H; exact H) | (simp only [hji5] at H ⊢; exact H)
      have hji5w : (IntKind.i64.wrap (32 - a1)) = ji5 := (i64_w _).trans hji5
      by_cases c6 : 0 ≤ (ji5)
      · rw [if_pos c6] at H
        have c6b0 := eq_true c6
        have c6b1 : decide (0 ≤ (ji5)) = true := decide_eq_true c6
        clear c6
        obtain ⟨ji7, hji7⟩ : ∃ j_ : Int, (shl .u32 a0 (ji5)) = j_ := ⟨_, rfl⟩
        replace H : (some (shr .i32 (wrap32 (ji7)) (ji5))) = some r := by first | (rw [hji7] at H; exact H) | (simp only [hji7] at H ⊢; exact H)
        have hji7_ : (IntKind.u32.wrap (a0 * 2 ^ min (ji5).toNat 32)) = ji7 := hji7
        have hji7z : (ji5) ≤ 32 → (IntKind.u32.wrap (a0 * 2 ^ (ji5).toNat)) = ji7 := shl_small hji7
        have c8b0 := eq_true (of_decide_eq_true (by first | (with_reducible assumption) | assumption) : 0 ≤ (ji5))
        obtain ⟨ji9, hji9⟩ : ∃ j_ : Int, (shr .i32 (wrap32 (ji7)) (ji5)) = j_ := ⟨_, rfl⟩
        replace H : (some ji9) = some r := by first | (rw [hji9] at H; exact H) | (simp only [hji9] at H ⊢; exact H)
        have hji9_ : ((wrap32 (ji7)) / 2 ^ min (ji5).toNat 32) = ji9 := hji9
        have hji9z : (ji5) ≤ 32 → ((wrap32 (ji7)) / 2 ^ (ji5).toNat) = ji9 := shr_small hji9
        obtain rfl := Option.some.inj H
        go_enter Try.func11, Try.ntmps11
        go_wp2
        go_ret
        exact ⟨by first | rfl | (simp; done) | (simp only [← hji5, ← hji7, ← hji9] <;> (first | rfl | simp)) | (simp [*]; done), by repeat (first | exact Drawn0.refl _ | apply Drawn0.step)⟩
      · rw [if_neg c6] at H
        exact absurd H (by simp)

/-! ### field_ImmI: function 12 -/
def field_ImmI.f (a0 : Int) : Option (Int) := (field_Bits.f a0 20 12).bind fun t101 => ((field_Sign.f t101 12).bind fun t102 => (some t102))
set_option maxHeartbeats 8000000 in
set_option maxRecDepth 100000 in
theorem field_ImmI.calls (a0 : Int) (r : Int) (w : World) (h : field_ImmI.f a0 = some r) :
    Calls Try.prog 12 #[.int .u32 a0] w fun e w' => e = .returned (.int .i32 r) ∧ Drawn0 w w' := by
  have H : ((field_Bits.f a0 20 12).bind fun t101 => ((field_Sign.f t101 12).bind fun t102 => (some t102))) = some r := h
  clear h
  replace H := Option.bind_eq_some_iff.mp H
  obtain ⟨t101, A20, H⟩ := H
  replace H : ((field_Sign.f t101 12).bind fun t102 => (some t102)) = some r := H
  have A2 := Aside0.mk A20
  clear A20
  replace H := Option.bind_eq_some_iff.mp H
  obtain ⟨t102, A30, H⟩ := H
  replace H : (some t102) = some r := H
  have A3 := Aside0.mk A30
  clear A30
  obtain rfl := Option.some.inj H
  go_enter Try.func12, Try.ntmps12
  go_wp2_with (first | ((with_reducible refine gate_callee (f := 8) rfl ?_); refine goesL_ (some 4) rfl rfl Try.func8 (by kernel_rfl) rfl #[.int .u32 a0, .int .i64 20, .int .i64 12] rfl (by (try simp only [List.map_toArray, List.map_cons, List.map_nil]); first | done | rfl | (simp only [List.length_drop, List.length_take]; rfl)) ?_; (with_reducible refine (field_Bits.calls a0 20 12 t101 _ A2.out).mono ?_); rintro e w' ⟨rfl, ⟨nd, rfl⟩⟩; refine ⟨_, rfl, ?_⟩) | ((with_reducible refine gate_callee (f := 11) rfl ?_); refine goesL_ (some 5) rfl rfl Try.func11 (by kernel_rfl) rfl #[.int .u32 t101, .int .i64 12] rfl (by (try simp only [List.map_toArray, List.map_cons, List.map_nil]); first | done | rfl | (simp only [List.length_drop, List.length_take]; rfl)) ?_; (with_reducible refine (field_Sign.calls t101 12 t102 _ A3.out).mono ?_); rintro e w' ⟨rfl, ⟨nd, rfl⟩⟩; refine ⟨_, rfl, ?_⟩))
  go_ret
  exact ⟨by first | rfl | (simp; done) | (simp [*]; done), by repeat (first | exact Drawn0.refl _ | apply Drawn0.step)⟩

/-! ### field_ImmU: function 15 -/
def field_ImmU.f (a0 : Int) : Option (Int) := (field_Bits.f a0 12 20).bind fun t103 => (some (wrap32 ((t103 * 4096) % 4294967296)))
set_option maxHeartbeats 8000000 in
set_option maxRecDepth 100000 in
theorem field_ImmU.calls (a0 : Int) (r : Int) (w : World) (h : field_ImmU.f a0 = some r) :
    Calls Try.prog 15 #[.int .u32 a0] w fun e w' => e = .returned (.int .i32 r) ∧ Drawn0 w w' := by
  have H : ((field_Bits.f a0 12 20).bind fun t103 => (some (wrap32 ((t103 * 4096) % 4294967296)))) = some r := h
  clear h
  replace H := Option.bind_eq_some_iff.mp H
  obtain ⟨t103, A20, H⟩ := H
  replace H : (some (wrap32 ((t103 * 4096) % 4294967296))) = some r := H
  have A2 := Aside0.mk A20
  clear A20
  obtain rfl := Option.some.inj H
  go_enter Try.func15, Try.ntmps15
  go_wp2_with (first | ((with_reducible refine gate_callee (f := 8) rfl ?_); refine goesL_ (some 4) rfl rfl Try.func8 (by kernel_rfl) rfl #[.int .u32 a0, .int .i64 12, .int .i64 20] rfl (by (try simp only [List.map_toArray, List.map_cons, List.map_nil]); first | done | rfl | (simp only [List.length_drop, List.length_take]; rfl)) ?_; (with_reducible refine (field_Bits.calls a0 12 20 t103 _ A2.out).mono ?_); rintro e w' ⟨rfl, ⟨nd, rfl⟩⟩; refine ⟨_, rfl, ?_⟩))
  go_ret
  exact ⟨by first | rfl | (simp; done) | (simp [*]; done), by repeat (first | exact Drawn0.refl _ | apply Drawn0.step)⟩

/-! ### dioscurilaw4_known: function 9 -/
def dioscurilaw4_known.f  : Option (Bool) := (field_ImmI.f 4293918720).bind fun t104 => (if t104 = (-1) then ((field_Sign.f 8 4).bind fun t105 => (if t105 = (-8) then ((field_Bits.f 240 4 4).bind fun t106 => (if t106 = 15 then ((field_Bits.f 1 32 1).bind fun t107 => (if t107 = 0 then ((field_ImmU.f 4294963200).bind fun t108 => (some (t108 == (-4096)))) else (some false))) else (some false))) else (some false))) else (some false))
set_option maxHeartbeats 8000000 in
set_option maxRecDepth 100000 in
theorem dioscurilaw4_known.calls  (r : Bool) (w : World) (h : dioscurilaw4_known.f  = some r) :
    Calls Try.prog 9 #[] w fun e w' => e = .returned (.bool r) ∧ Drawn0 w w' := by
  have H : ((field_ImmI.f 4293918720).bind fun t104 => (if t104 = (-1) then ((field_Sign.f 8 4).bind fun t105 => (if t105 = (-8) then ((field_Bits.f 240 4 4).bind fun t106 => (if t106 = 15 then ((field_Bits.f 1 32 1).bind fun t107 => (if t107 = 0 then ((field_ImmU.f 4294963200).bind fun t108 => (some (t108 == (-4096)))) else (some false))) else (some false))) else (some false))) else (some false))) = some r := h
  clear h
  replace H := Option.bind_eq_some_iff.mp H
  obtain ⟨t104, A10, H⟩ := H
  replace H : (if t104 = (-1) then ((field_Sign.f 8 4).bind fun t105 => (if t105 = (-8) then ((field_Bits.f 240 4 4).bind fun t106 => (if t106 = 15 then ((field_Bits.f 1 32 1).bind fun t107 => (if t107 = 0 then ((field_ImmU.f 4294963200).bind fun t108 => (some (t108 == (-4096)))) else (some false))) else (some false))) else (some false))) else (some false)) = some r := H
  have A1 := Aside0.mk A10
  clear A10
  by_cases c2 : t104 = (-1)
  · rw [if_pos c2] at H
    have c2b0 : (t104 == (-1)) = true := beq_iff_eq.mpr c2
    have c2b1 : (t104 != (-1)) = false := bne_eq_false_iff_eq.mpr c2
    clear c2
    replace H := Option.bind_eq_some_iff.mp H
    obtain ⟨t105, A30, H⟩ := H
    replace H : (if t105 = (-8) then ((field_Bits.f 240 4 4).bind fun t106 => (if t106 = 15 then ((field_Bits.f 1 32 1).bind fun t107 => (if t107 = 0 then ((field_ImmU.f 4294963200).bind fun t108 => (some (t108 == (-4096)))) else (some false))) else (some false))) else (some false)) = some r := H
    have A3 := Aside0.mk A30
    clear A30
    by_cases c4 : t105 = (-8)
    · rw [if_pos c4] at H
      have c4b0 : (t105 == (-8)) = true := beq_iff_eq.mpr c4
      have c4b1 : (t105 != (-8)) = false := bne_eq_false_iff_eq.mpr c4
      clear c4
      replace H := Option.bind_eq_some_iff.mp H
      obtain ⟨t106, A50, H⟩ := H
      replace H : (if t106 = 15 then ((field_Bits.f 1 32 1).bind fun t107 => (if t107 = 0 then ((field_ImmU.f 4294963200).bind fun t108 => (some (t108 == (-4096)))) else (some false))) else (some false)) = some r := H
      have A5 := Aside0.mk A50
      clear A50
      by_cases c6 : t106 = 15
      · rw [if_pos c6] at H
        have c6b0 : (t106 == 15) = true := beq_iff_eq.mpr c6
        have c6b1 : (t106 != 15) = false := bne_eq_false_iff_eq.mpr c6
        clear c6
        replace H := Option.bind_eq_some_iff.mp H
        obtain ⟨t107, A70, H⟩ := H
        replace H : (if t107 = 0 then ((field_ImmU.f 4294963200).bind fun t108 => (some (t108 == (-4096)))) else (some false)) = some r := H
        have A7 := Aside0.mk A70
        clear A70
        by_cases c8 : t107 = 0
        · rw [if_pos c8] at H
          have c8b0 : (t107 == 0) = true := beq_iff_eq.mpr c8
          have c8b1 : (t107 != 0) = false := bne_eq_false_iff_eq.mpr c8
          clear c8
          replace H := Option.bind_eq_some_iff.mp H
          obtain ⟨t108, A90, H⟩ := H
          replace H : (some (t108 == (-4096))) = some r := H
          have A9 := Aside0.mk A90
          clear A90
          obtain rfl := Option.some.inj H
          go_enter Try.func9, Try.ntmps9
          go_wp2_with (first | ((with_reducible refine gate_callee (f := 12) rfl ?_); refine goesL_ (some 1) rfl rfl Try.func12 (by kernel_rfl) rfl #[.int .u32 4293918720] rfl (by (try simp only [List.map_toArray, List.map_cons, List.map_nil]); first | done | rfl | (simp only [List.length_drop, List.length_take]; rfl)) ?_; (with_reducible refine (field_ImmI.calls 4293918720 t104 _ A1.out).mono ?_); rintro e w' ⟨rfl, ⟨nd, rfl⟩⟩; refine ⟨_, rfl, ?_⟩) | (go_at_call 11; (with_reducible refine (field_Sign.calls 8 4 t105 _ A3.out).mono ?_); rintro e w' ⟨rfl, ⟨nd, rfl⟩⟩) | (go_at_call 8; (with_reducible refine (field_Bits.calls 240 4 4 t106 _ A5.out).mono ?_); rintro e w' ⟨rfl, ⟨nd, rfl⟩⟩) | (go_at_call 8; (with_reducible refine (field_Bits.calls 1 32 1 t107 _ A7.out).mono ?_); rintro e w' ⟨rfl, ⟨nd, rfl⟩⟩) | (go_at_call 15; (with_reducible refine (field_ImmU.calls 4294963200 t108 _ A9.out).mono ?_); rintro e w' ⟨rfl, ⟨nd, rfl⟩⟩))
          go_ret
          exact ⟨by first | rfl | (simp; done) | (simp [*]; done), by repeat (first | exact Drawn0.refl _ | apply Drawn0.step)⟩
        · rw [if_neg c8] at H
          have c8b0 : (t107 == 0) = false := beq_eq_false_iff_ne.mpr c8
          have c8b1 : (t107 != 0) = true := bne_iff_ne.mpr c8
          obtain rfl := Option.some.inj H
          go_enter Try.func9, Try.ntmps9
          go_wp2_with (first | ((with_reducible refine gate_callee (f := 12) rfl ?_); refine goesL_ (some 1) rfl rfl Try.func12 (by kernel_rfl) rfl #[.int .u32 4293918720] rfl (by (try simp only [List.map_toArray, List.map_cons, List.map_nil]); first | done | rfl | (simp only [List.length_drop, List.length_take]; rfl)) ?_; (with_reducible refine (field_ImmI.calls 4293918720 t104 _ A1.out).mono ?_); rintro e w' ⟨rfl, ⟨nd, rfl⟩⟩; refine ⟨_, rfl, ?_⟩) | (go_at_call 11; (with_reducible refine (field_Sign.calls 8 4 t105 _ A3.out).mono ?_); rintro e w' ⟨rfl, ⟨nd, rfl⟩⟩) | (go_at_call 8; (with_reducible refine (field_Bits.calls 240 4 4 t106 _ A5.out).mono ?_); rintro e w' ⟨rfl, ⟨nd, rfl⟩⟩) | (go_at_call 8; (with_reducible refine (field_Bits.calls 1 32 1 t107 _ A7.out).mono ?_); rintro e w' ⟨rfl, ⟨nd, rfl⟩⟩))
          go_ret
          exact ⟨by first | rfl | (simp; done) | (simp [*]; done), by repeat (first | exact Drawn0.refl _ | apply Drawn0.step)⟩
      · rw [if_neg c6] at H
        have c6b0 : (t106 == 15) = false := beq_eq_false_iff_ne.mpr c6
        have c6b1 : (t106 != 15) = true := bne_iff_ne.mpr c6
        obtain rfl := Option.some.inj H
        go_enter Try.func9, Try.ntmps9
        go_wp2_with (first | ((with_reducible refine gate_callee (f := 12) rfl ?_); refine goesL_ (some 1) rfl rfl Try.func12 (by kernel_rfl) rfl #[.int .u32 4293918720] rfl (by (try simp only [List.map_toArray, List.map_cons, List.map_nil]); first | done | rfl | (simp only [List.length_drop, List.length_take]; rfl)) ?_; (with_reducible refine (field_ImmI.calls 4293918720 t104 _ A1.out).mono ?_); rintro e w' ⟨rfl, ⟨nd, rfl⟩⟩; refine ⟨_, rfl, ?_⟩) | (go_at_call 11; (with_reducible refine (field_Sign.calls 8 4 t105 _ A3.out).mono ?_); rintro e w' ⟨rfl, ⟨nd, rfl⟩⟩) | (go_at_call 8; (with_reducible refine (field_Bits.calls 240 4 4 t106 _ A5.out).mono ?_); rintro e w' ⟨rfl, ⟨nd, rfl⟩⟩))
        go_ret
        exact ⟨by first | rfl | (simp; done) | (simp [*]; done), by repeat (first | exact Drawn0.refl _ | apply Drawn0.step)⟩
    · rw [if_neg c4] at H
      have c4b0 : (t105 == (-8)) = false := beq_eq_false_iff_ne.mpr c4
      have c4b1 : (t105 != (-8)) = true := bne_iff_ne.mpr c4
      obtain rfl := Option.some.inj H
      go_enter Try.func9, Try.ntmps9
      go_wp2_with (first | ((with_reducible refine gate_callee (f := 12) rfl ?_); refine goesL_ (some 1) rfl rfl Try.func12 (by kernel_rfl) rfl #[.int .u32 4293918720] rfl (by (try simp only [List.map_toArray, List.map_cons, List.map_nil]); first | done | rfl | (simp only [List.length_drop, List.length_take]; rfl)) ?_; (with_reducible refine (field_ImmI.calls 4293918720 t104 _ A1.out).mono ?_); rintro e w' ⟨rfl, ⟨nd, rfl⟩⟩; refine ⟨_, rfl, ?_⟩) | (go_at_call 11; (with_reducible refine (field_Sign.calls 8 4 t105 _ A3.out).mono ?_); rintro e w' ⟨rfl, ⟨nd, rfl⟩⟩))
      go_ret
      exact ⟨by first | rfl | (simp; done) | (simp [*]; done), by repeat (first | exact Drawn0.refl _ | apply Drawn0.step)⟩
  · rw [if_neg c2] at H
    have c2b0 : (t104 == (-1)) = false := beq_eq_false_iff_ne.mpr c2
    have c2b1 : (t104 != (-1)) = true := bne_iff_ne.mpr c2
    obtain rfl := Option.some.inj H
    go_enter Try.func9, Try.ntmps9
    go_wp2_with (first | ((with_reducible refine gate_callee (f := 12) rfl ?_); refine goesL_ (some 1) rfl rfl Try.func12 (by kernel_rfl) rfl #[.int .u32 4293918720] rfl (by (try simp only [List.map_toArray, List.map_cons, List.map_nil]); first | done | rfl | (simp only [List.length_drop, List.length_take]; rfl)) ?_; (with_reducible refine (field_ImmI.calls 4293918720 t104 _ A1.out).mono ?_); rintro e w' ⟨rfl, ⟨nd, rfl⟩⟩; refine ⟨_, rfl, ?_⟩))
    go_ret
    exact ⟨by first | rfl | (simp; done) | (simp [*]; done), by repeat (first | exact Drawn0.refl _ | apply Drawn0.step)⟩

/-! ### dioscurilaw4_FieldParts: function 3 -/
def dioscurilaw4_FieldParts.f (a0 : Int) (a1 : Int) : Option (Bool) := (field_Bits.f a0 0 (wrap64 (1 + (Go.bits .and .i64 a1 15)))).bind fun t109 => ((field_Bits.f a0 (wrap64 (1 + (Go.bits .and .i64 a1 15))) (wrap64 (32 - (wrap64 (1 + (Go.bits .and .i64 a1 15)))))).bind fun t110 => (if 0 ≤ (IntKind.u64.wrap (wrap64 (1 + (Go.bits .and .i64 a1 15)))) then (if (Go.bits .or .u32 t109 (shl .u32 t110 (IntKind.u64.wrap (wrap64 (1 + (Go.bits .and .i64 a1 15)))))) = a0 then ((field_Bits.f a0 0 32).bind fun t111 => (if t111 = a0 then ((field_Bits.f a0 31 5).bind fun t112 => (if t112 = (a0 / 2147483648) then ((dioscurilaw4_known.f).bind fun t113 => (some t113)) else (some false))) else (some false))) else (some false)) else (none)))
set_option maxHeartbeats 8000000 in
set_option maxRecDepth 100000 in
theorem dioscurilaw4_FieldParts.calls (a0 : Int) (a1 : Int) (r : Bool) (w : World) (h : dioscurilaw4_FieldParts.f a0 a1 = some r) :
    Calls Try.prog 3 #[.int .u32 a0, .int .i64 a1] w fun e w' => e = .returned (.bool r) ∧ Drawn0 w w' := by
  have H : ((field_Bits.f a0 0 (wrap64 (1 + (Go.bits .and .i64 a1 15)))).bind fun t109 => ((field_Bits.f a0 (wrap64 (1 + (Go.bits .and .i64 a1 15))) (wrap64 (32 - (wrap64 (1 + (Go.bits .and .i64 a1 15)))))).bind fun t110 => (if 0 ≤ (IntKind.u64.wrap (wrap64 (1 + (Go.bits .and .i64 a1 15)))) then (if (Go.bits .or .u32 t109 (shl .u32 t110 (IntKind.u64.wrap (wrap64 (1 + (Go.bits .and .i64 a1 15)))))) = a0 then ((field_Bits.f a0 0 32).bind fun t111 => (if t111 = a0 then ((field_Bits.f a0 31 5).bind fun t112 => (if t112 = (a0 / 2147483648) then ((dioscurilaw4_known.f).bind fun t113 => (some t113)) else (some false))) else (some false))) else (some false)) else (none)))) = some r := h
  clear h
  replace H := Option.bind_eq_some_iff.mp H
  obtain ⟨t109, A30, H⟩ := H
  replace H : ((field_Bits.f a0 (wrap64 (1 + (Go.bits .and .i64 a1 15))) (wrap64 (32 - (wrap64 (1 + (Go.bits .and .i64 a1 15)))))).bind fun t110 => (if 0 ≤ (IntKind.u64.wrap (wrap64 (1 + (Go.bits .and .i64 a1 15)))) then (if (Go.bits .or .u32 t109 (shl .u32 t110 (IntKind.u64.wrap (wrap64 (1 + (Go.bits .and .i64 a1 15)))))) = a0 then ((field_Bits.f a0 0 32).bind fun t111 => (if t111 = a0 then ((field_Bits.f a0 31 5).bind fun t112 => (if t112 = (a0 / 2147483648) then ((dioscurilaw4_known.f).bind fun t113 => (some t113)) else (some false))) else (some false))) else (some false)) else (none))) = some r := H
  have A3 := Aside0.mk A30
  clear A30
  replace H := Option.bind_eq_some_iff.mp H
  obtain ⟨t110, A40, H⟩ := H
  replace H : (if 0 ≤ (IntKind.u64.wrap (wrap64 (1 + (Go.bits .and .i64 a1 15)))) then (if (Go.bits .or .u32 t109 (shl .u32 t110 (IntKind.u64.wrap (wrap64 (1 + (Go.bits .and .i64 a1 15)))))) = a0 then ((field_Bits.f a0 0 32).bind fun t111 => (if t111 = a0 then ((field_Bits.f a0 31 5).bind fun t112 => (if t112 = (a0 / 2147483648) then ((dioscurilaw4_known.f).bind fun t113 => (some t113)) else (some false))) else (some false))) else (some false)) else (none)) = some r := H
  have A4 := Aside0.mk A40
  clear A40
  obtain ⟨ji5, hji5⟩ : ∃ j_ : Int, (IntKind.u64.wrap (wrap64 (1 + (Go.bits .and .i64 a1 15)))) = j_ := ⟨_, rfl⟩
  replace H : (if 0 ≤ (ji5) then (if (Go.bits .or .u32 t109 (shl .u32 t110 (ji5))) = a0 then ((field_Bits.f a0 0 32).bind fun t111 => (if t111 = a0 then ((field_Bits.f a0 31 5).bind fun t112 => (if t112 = (a0 / 2147483648) then ((dioscurilaw4_known.f).bind fun t113 => (some t113)) else (some false))) else (some false))) else (some false)) else (none)) = some r := by first | (rw [hji5] at H; exact H) | (simp only [hji5] at H ⊢; exact H)
  (try rw [hji5] at A3)
  (try rw [hji5] at A4)
  by_cases c6 : 0 ≤ (ji5)
  · rw [if_pos c6] at H
    have c6b0 := eq_true c6
    have c6b1 : decide (0 ≤ (ji5)) = true := decide_eq_true c6
    clear c6
    obtain ⟨ji7, hji7⟩ : ∃ j_ : Int, (shl .u32 t110 (ji5)) = j_ := ⟨_, rfl⟩
    replace H : (if (Go.bits .or .u32 t109 (ji7)) = a0 then ((field_Bits.f a0 0 32).bind fun t111 => (if t111 = a0 then ((field_Bits.f a0 31 5).bind fun t112 => (if t112 = (a0 / 2147483648) then ((dioscurilaw4_known.f).bind fun t113 => (some t113)) else (some false))) else (some false))) else (some false)) = some r := by first | (rw [hji7] at H; exact H) | (simp only [hji7] at H ⊢; exact H)
    (try rw [hji7] at A3)
    (try rw [hji7] at A4)
    have hji7_ : (IntKind.u32.wrap (t110 * 2 ^ min (ji5).toNat 32)) = ji7 := hji7
    have hji7z : (ji5) ≤ 32 → (IntKind.u32.wrap (t110 * 2 ^ (ji5).toNat)) = ji7 := shl_small hji7
    by_cases c8 : (Go.bits .or .u32 t109 (ji7)) = a0
    · rw [if_pos c8] at H
      have c8b0 : ((Go.bits .or .u32 t109 (ji7)) == a0) = true := beq_iff_eq.mpr c8
      have c8b1 : ((Go.bits .or .u32 t109 (ji7)) != a0) = false := bne_eq_false_iff_eq.mpr c8
      clear c8
      replace H := Option.bind_eq_some_iff.mp H
      obtain ⟨t111, A90, H⟩ := H
      replace H : (if t111 = a0 then ((field_Bits.f a0 31 5).bind fun t112 => (if t112 = (a0 / 2147483648) then ((dioscurilaw4_known.f).bind fun t113 => (some t113)) else (some false))) else (some false)) = some r := H
      have A9 := Aside0.mk A90
      clear A90
      by_cases c10 : t111 = a0
      · rw [if_pos c10] at H
        have c10b0 : (t111 == a0) = true := beq_iff_eq.mpr c10
        have c10b1 : (t111 != a0) = false := bne_eq_false_iff_eq.mpr c10
        clear c10
        replace H := Option.bind_eq_some_iff.mp H
        obtain ⟨t112, A110, H⟩ := H
        replace H : (if t112 = (a0 / 2147483648) then ((dioscurilaw4_known.f).bind fun t113 => (some t113)) else (some false)) = some r := H
        have A11 := Aside0.mk A110
        clear A110
        by_cases c12 : t112 = (a0 / 2147483648)
        · rw [if_pos c12] at H
          have c12b0 : (t112 == (a0 / 2147483648)) = true := beq_iff_eq.mpr c12
          have c12b1 : (t112 != (a0 / 2147483648)) = false := bne_eq_false_iff_eq.mpr c12
          clear c12
          replace H := Option.bind_eq_some_iff.mp H
          obtain ⟨t113, A130, H⟩ := H
          replace H : (some t113) = some r := H
          have A13 := Aside0.mk A130
          clear A130
          obtain rfl := Option.some.inj H
          go_enter Try.func3, Try.ntmps3
          go_wp2_with (first | ((with_reducible refine gate_callee (f := 8) rfl ?_); refine goesL_ (some 11) rfl rfl Try.func8 (by kernel_rfl) rfl #[.int .u32 a0, .int .i64 0, .int .i64 (wrap64 (1 + (Go.bits .and .i64 a1 15)))] rfl (by (try simp only [List.map_toArray, List.map_cons, List.map_nil]); first | done | rfl | (simp only [List.length_drop, List.length_take]; rfl)) ?_; (with_reducible refine (field_Bits.calls a0 0 (wrap64 (1 + (Go.bits .and .i64 a1 15))) t109 _ A3.out).mono ?_); rintro e w' ⟨rfl, ⟨nd, rfl⟩⟩; refine ⟨_, rfl, ?_⟩) | ((with_reducible refine gate_callee (f := 8) rfl ?_); refine goesL_ (some 16) rfl rfl Try.func8 (by kernel_rfl) rfl #[.int .u32 a0, .int .i64 (wrap64 (1 + (Go.bits .and .i64 a1 15))), .int .i64 (wrap64 (32 - (wrap64 (1 + (Go.bits .and .i64 a1 15)))))] rfl (by (try simp only [List.map_toArray, List.map_cons, List.map_nil]); first | done | rfl | (simp only [List.length_drop, List.length_take]; rfl)) ?_; (with_reducible refine (field_Bits.calls a0 (wrap64 (1 + (Go.bits .and .i64 a1 15))) (wrap64 (32 - (wrap64 (1 + (Go.bits .and .i64 a1 15))))) t110 _ A4.out).mono ?_); rintro e w' ⟨rfl, ⟨nd, rfl⟩⟩; refine ⟨_, rfl, ?_⟩) | (go_at_call 8; (with_reducible refine (field_Bits.calls a0 0 32 t111 _ A9.out).mono ?_); rintro e w' ⟨rfl, ⟨nd, rfl⟩⟩) | (go_at_call 8; (with_reducible refine (field_Bits.calls a0 31 5 t112 _ A11.out).mono ?_); rintro e w' ⟨rfl, ⟨nd, rfl⟩⟩) | (go_at_call 9; (with_reducible refine (dioscurilaw4_known.calls  t113 _ A13.out).mono ?_); rintro e w' ⟨rfl, ⟨nd, rfl⟩⟩))
          go_ret
          exact ⟨by first | rfl | (simp; done) | (simp only [← hji5, ← hji7] <;> (first | rfl | simp)) | (simp [*]; done), by repeat (first | exact Drawn0.refl _ | apply Drawn0.step)⟩
        · rw [if_neg c12] at H
          have c12b0 : (t112 == (a0 / 2147483648)) = false := beq_eq_false_iff_ne.mpr c12
          have c12b1 : (t112 != (a0 / 2147483648)) = true := bne_iff_ne.mpr c12
          obtain rfl := Option.some.inj H
          go_enter Try.func3, Try.ntmps3
          go_wp2_with (first | ((with_reducible refine gate_callee (f := 8) rfl ?_); refine goesL_ (some 11) rfl rfl Try.func8 (by kernel_rfl) rfl #[.int .u32 a0, .int .i64 0, .int .i64 (wrap64 (1 + (Go.bits .and .i64 a1 15)))] rfl (by (try simp only [List.map_toArray, List.map_cons, List.map_nil]); first | done | rfl | (simp only [List.length_drop, List.length_take]; rfl)) ?_; (with_reducible refine (field_Bits.calls a0 0 (wrap64 (1 + (Go.bits .and .i64 a1 15))) t109 _ A3.out).mono ?_); rintro e w' ⟨rfl, ⟨nd, rfl⟩⟩; refine ⟨_, rfl, ?_⟩) | ((with_reducible refine gate_callee (f := 8) rfl ?_); refine goesL_ (some 16) rfl rfl Try.func8 (by kernel_rfl) rfl #[.int .u32 a0, .int .i64 (wrap64 (1 + (Go.bits .and .i64 a1 15))), .int .i64 (wrap64 (32 - (wrap64 (1 + (Go.bits .and .i64 a1 15)))))] rfl (by (try simp only [List.map_toArray, List.map_cons, List.map_nil]); first | done | rfl | (simp only [List.length_drop, List.length_take]; rfl)) ?_; (with_reducible refine (field_Bits.calls a0 (wrap64 (1 + (Go.bits .and .i64 a1 15))) (wrap64 (32 - (wrap64 (1 + (Go.bits .and .i64 a1 15))))) t110 _ A4.out).mono ?_); rintro e w' ⟨rfl, ⟨nd, rfl⟩⟩; refine ⟨_, rfl, ?_⟩) | (go_at_call 8; (with_reducible refine (field_Bits.calls a0 0 32 t111 _ A9.out).mono ?_); rintro e w' ⟨rfl, ⟨nd, rfl⟩⟩) | (go_at_call 8; (with_reducible refine (field_Bits.calls a0 31 5 t112 _ A11.out).mono ?_); rintro e w' ⟨rfl, ⟨nd, rfl⟩⟩))
          go_ret
          exact ⟨by first | rfl | (simp; done) | (simp only [← hji5, ← hji7] <;> (first | rfl | simp)) | (simp [*]; done), by repeat (first | exact Drawn0.refl _ | apply Drawn0.step)⟩
      · rw [if_neg c10] at H
        have c10b0 : (t111 == a0) = false := beq_eq_false_iff_ne.mpr c10
        have c10b1 : (t111 != a0) = true := bne_iff_ne.mpr c10
        obtain rfl := Option.some.inj H
        go_enter Try.func3, Try.ntmps3
        go_wp2_with (first | ((with_reducible refine gate_callee (f := 8) rfl ?_); refine goesL_ (some 11) rfl rfl Try.func8 (by kernel_rfl) rfl #[.int .u32 a0, .int .i64 0, .int .i64 (wrap64 (1 + (Go.bits .and .i64 a1 15)))] rfl (by (try simp only [List.map_toArray, List.map_cons, List.map_nil]); first | done | rfl | (simp only [List.length_drop, List.length_take]; rfl)) ?_; (with_reducible refine (field_Bits.calls a0 0 (wrap64 (1 + (Go.bits .and .i64 a1 15))) t109 _ A3.out).mono ?_); rintro e w' ⟨rfl, ⟨nd, rfl⟩⟩; refine ⟨_, rfl, ?_⟩) | ((with_reducible refine gate_callee (f := 8) rfl ?_); refine goesL_ (some 16) rfl rfl Try.func8 (by kernel_rfl) rfl #[.int .u32 a0, .int .i64 (wrap64 (1 + (Go.bits .and .i64 a1 15))), .int .i64 (wrap64 (32 - (wrap64 (1 + (Go.bits .and .i64 a1 15)))))] rfl (by (try simp only [List.map_toArray, List.map_cons, List.map_nil]); first | done | rfl | (simp only [List.length_drop, List.length_take]; rfl)) ?_; (with_reducible refine (field_Bits.calls a0 (wrap64 (1 + (Go.bits .and .i64 a1 15))) (wrap64 (32 - (wrap64 (1 + (Go.bits .and .i64 a1 15))))) t110 _ A4.out).mono ?_); rintro e w' ⟨rfl, ⟨nd, rfl⟩⟩; refine ⟨_, rfl, ?_⟩) | (go_at_call 8; (with_reducible refine (field_Bits.calls a0 0 32 t111 _ A9.out).mono ?_); rintro e w' ⟨rfl, ⟨nd, rfl⟩⟩))
        go_ret
        exact ⟨by first | rfl | (simp; done) | (simp only [← hji5, ← hji7] <;> (first | rfl | simp)) | (simp [*]; done), by repeat (first | exact Drawn0.refl _ | apply Drawn0.step)⟩
    · rw [if_neg c8] at H
      have c8b0 : ((Go.bits .or .u32 t109 (ji7)) == a0) = false := beq_eq_false_iff_ne.mpr c8
      have c8b1 : ((Go.bits .or .u32 t109 (ji7)) != a0) = true := bne_iff_ne.mpr c8
      obtain rfl := Option.some.inj H
      go_enter Try.func3, Try.ntmps3
      go_wp2_with (first | ((with_reducible refine gate_callee (f := 8) rfl ?_); refine goesL_ (some 11) rfl rfl Try.func8 (by kernel_rfl) rfl #[.int .u32 a0, .int .i64 0, .int .i64 (wrap64 (1 + (Go.bits .and .i64 a1 15)))] rfl (by (try simp only [List.map_toArray, List.map_cons, List.map_nil]); first | done | rfl | (simp only [List.length_drop, List.length_take]; rfl)) ?_; (with_reducible refine (field_Bits.calls a0 0 (wrap64 (1 + (Go.bits .and .i64 a1 15))) t109 _ A3.out).mono ?_); rintro e w' ⟨rfl, ⟨nd, rfl⟩⟩; refine ⟨_, rfl, ?_⟩) | ((with_reducible refine gate_callee (f := 8) rfl ?_); refine goesL_ (some 16) rfl rfl Try.func8 (by kernel_rfl) rfl #[.int .u32 a0, .int .i64 (wrap64 (1 + (Go.bits .and .i64 a1 15))), .int .i64 (wrap64 (32 - (wrap64 (1 + (Go.bits .and .i64 a1 15)))))] rfl (by (try simp only [List.map_toArray, List.map_cons, List.map_nil]); first | done | rfl | (simp only [List.length_drop, List.length_take]; rfl)) ?_; (with_reducible refine (field_Bits.calls a0 (wrap64 (1 + (Go.bits .and .i64 a1 15))) (wrap64 (32 - (wrap64 (1 + (Go.bits .and .i64 a1 15))))) t110 _ A4.out).mono ?_); rintro e w' ⟨rfl, ⟨nd, rfl⟩⟩; refine ⟨_, rfl, ?_⟩))
      go_ret
      exact ⟨by first | rfl | (simp; done) | (simp only [← hji5, ← hji7] <;> (first | rfl | simp)) | (simp [*]; done), by repeat (first | exact Drawn0.refl _ | apply Drawn0.step)⟩
  · rw [if_neg c6] at H
    exact absurd H (by simp)

/-- THE ONE PURE STATEMENT of dioscurilaw4_FieldParts: yours. -/
def dioscurilaw4_FieldParts.Pure : Prop := ∀ (a0 : Int) (a1 : Int), (Lit.int .u32 a0).wf = true → (Lit.int .i64 a1).wf = true → dioscurilaw4_FieldParts.f a0 a1 = some true
theorem dioscurilaw4_FieldParts.walk (P : dioscurilaw4_FieldParts.Pure) (a0 : Int) (a1 : Int) (w : World) (w0 : (Lit.int .u32 a0).wf = true) (w1 : (Lit.int .i64 a1).wf = true) :
    Calls Try.prog 3 #[.int .u32 a0, .int .i64 a1] w fun e w' => e = .returned (.bool true) ∧ Below w.heap.size w w' := by
  have h := P a0 a1 w0 w1
  refine (dioscurilaw4_FieldParts.calls a0 a1 true w h).mono ?_
  rintro e w' ⟨rfl, hd⟩
  exact ⟨rfl, hd.below⟩

end Go.Proofs.Ytgkaidjikakpkaa.PFieldParts
