-- PRINTED BY print.sh 35421559b90ae4d0a3588c463048766b98c2df88dd9212a6774a882060cdf62d: not written by this session
import Derived.Test.YtgkaidjikakpkaaPFieldTellsx0
namespace Go.Proofs.Ytgkaidjikakpkaa.PFieldTells
open Go.RowKit Go.Proofs.YtgkaidjikakpkaaW.PrintWords Go.Proofs.YtgkaidjikakpkaaW.PrintLast Go.Proofs.YtgkaidjikakpkaaW.PrintMore
attribute [local go_sem] max2_int min2_int max_two min_two max_three min_three max_four min_four   -- for this text's walks alone
set_option linter.unusedVariables false
set_option linter.unusedSimpArgs false

/-! ### field_Bits: function 8 -/
def field_Bits.f (a0 : Int) (a1 : Int) (a2 : Int) : Option (Int) := if a1 < 0 then (some 0) else (if a1 ≥ 32 then (some 0) else (if a2 < 1 then (some 0) else (if a2 > 32 then (some 0) else (if 0 ≤ a1 then (if 0 ≤ a2 then (some ((Go.bits .and .u64 (shr .u64 (IntKind.u64.wrap (a0)) a1) (IntKind.u64.wrap ((shl .u64 1 a2) - 1))) % 4294967296)) else (none)) else (none)))))
set_option maxHeartbeats 8000000 in
set_option maxRecDepth 100000 in
theorem field_Bits.calls (a0 : Int) (a1 : Int) (a2 : Int) (r : Int) (w : World) (h : field_Bits.f a0 a1 a2 = some r) :
    Calls Try.prog 8 #[.int .u32 a0, .int .i64 a1, .int .i64 a2] w fun e w' => e = .returned (.int .u32 r) ∧ Drawn0 w w' := by
  have H : (if a1 < 0 then (some 0) else (if a1 ≥ 32 then (some 0) else (if a2 < 1 then (some 0) else (if a2 > 32 then (some 0) else (if 0 ≤ a1 then (if 0 ≤ a2 then (some ((Go.bits .and .u64 (shr .u64 (IntKind.u64.wrap (a0)) a1) (IntKind.u64.wrap ((shl .u64 1 a2) - 1))) % 4294967296)) else (none)) else (none)))))) = some r := h
  clear h
  by_cases c4 : a1 < 0
  · rw [if_pos c4] at H
    have c4b0 : decide (a1 < 0) = true := decide_eq_true c4
    clear c4
    obtain rfl := Option.some.inj H
    go_enter Try.func8, Try.ntmps8
    go_wp2
    repeat (go_quiet (fail); try go_wp2)
    go_ret
    exact ⟨by first | rfl | (simp; done) | (simp [*]; done), by repeat (first | exact Drawn0.refl _ | apply Drawn0.step)⟩
  · rw [if_neg c4] at H
    have c4b0 : decide (a1 < 0) = false := decide_eq_false c4
    clear c4
    by_cases c5 : a1 ≥ 32
    · rw [if_pos c5] at H
      have c5b0 : decide (32 ≤ a1) = true := decide_eq_true c5
      clear c5
      obtain rfl := Option.some.inj H
      go_enter Try.func8, Try.ntmps8
      go_wp2
      repeat (go_quiet (fail); try go_wp2)
      go_ret
      exact ⟨by first | rfl | (simp; done) | (simp [*]; done), by repeat (first | exact Drawn0.refl _ | apply Drawn0.step)⟩
    · rw [if_neg c5] at H
      have c5b0 : decide (32 ≤ a1) = false := decide_eq_false c5
      clear c5
      by_cases c6 : a2 < 1
      · rw [if_pos c6] at H
        have c6b0 : decide (a2 < 1) = true := decide_eq_true c6
        clear c6
        obtain rfl := Option.some.inj H
        go_enter Try.func8, Try.ntmps8
        go_wp2
        repeat (go_quiet (fail); try go_wp2)
        go_ret
        exact ⟨by first | rfl | (simp; done) | (simp [*]; done), by repeat (first | exact Drawn0.refl _ | apply Drawn0.step)⟩
      · rw [if_neg c6] at H
        have c6b0 : decide (a2 < 1) = false := decide_eq_false c6
        clear c6
        by_cases c7 : a2 > 32
        · rw [if_pos c7] at H
          have c7b0 : decide (32 < a2) = true := decide_eq_true c7
          clear c7
          obtain rfl := Option.some.inj H
          go_enter Try.func8, Try.ntmps8
          go_wp2
          repeat (go_quiet (fail); try go_wp2)
          go_ret
          exact ⟨by first | rfl | (simp; done) | (simp [*]; done), by repeat (first | exact Drawn0.refl _ | apply Drawn0.step)⟩
        · rw [if_neg c7] at H
          have c7b0 : decide (32 < a2) = false := decide_eq_false c7
          clear c7
          by_cases c8 : 0 ≤ a1
          · rw [if_pos c8] at H
            have c8b0 := eq_true c8
            have c8b1 : decide (0 ≤ a1) = true := decide_eq_true c8
            clear c8
            obtain ⟨ji9, hji9⟩ : ∃ j_ : Int, (shr .u64 (IntKind.u64.wrap (a0)) a1) = j_ := ⟨_, rfl⟩
            replace H : (if 0 ≤ a2 then (some ((Go.bits .and .u64 (ji9) (IntKind.u64.wrap ((shl .u64 1 a2) - 1))) % 4294967296)) else (none)) = some r := by first | (rw [hji9] at H; exact H) | (simp only [hji9] at H ⊢; exact H)
            have hji9_ : ((IntKind.u64.wrap (a0)) / 2 ^ min a1.toNat 64) = ji9 := hji9
            have hji9z : a1 ≤ 64 → ((IntKind.u64.wrap (a0)) / 2 ^ a1.toNat) = ji9 := shr_small hji9
            by_cases c10 : 0 ≤ a2
            · rw [if_pos c10] at H
              have c10b0 := eq_true c10
              have c10b1 : decide (0 ≤ a2) = true := decide_eq_true c10
              clear c10
              obtain ⟨ji11, hji11⟩ : ∃ j_ : Int, (shl .u64 1 a2) = j_ := ⟨_, rfl⟩
              replace H : (some ((Go.bits .and .u64 (ji9) (IntKind.u64.wrap ((ji11) - 1))) % 4294967296)) = some r := by first | (rw [hji11] at H; exact H) | (simp only [hji11] at H ⊢; exact H)
              have hji11_ : (IntKind.u64.wrap (1 * 2 ^ min a2.toNat 64)) = ji11 := hji11
              have hji11z : a2 ≤ 64 → (IntKind.u64.wrap (1 * 2 ^ a2.toNat)) = ji11 := shl_small hji11
              have hji11u : (IntKind.u64.wrap (2 ^ min a2.toNat 64)) = ji11 := by have h_ := hji11_; rw [Int.one_mul] at h_; exact h_
              have hji11v : a2 ≤ 64 → (IntKind.u64.wrap (2 ^ a2.toNat)) = ji11 := fun hle_ => by have h_ := hji11z hle_; rw [Int.one_mul] at h_; exact h_
              obtain rfl := Option.some.inj H
              go_enter Try.func8, Try.ntmps8
              go_wp2
              repeat (go_quiet (fail); try go_wp2)
              go_ret
              exact ⟨by first | rfl | (simp; done) | (simp only [← hji9, ← hji11] <;> (first | rfl | simp)) | (simp [*]; done), by repeat (first | exact Drawn0.refl _ | apply Drawn0.step)⟩
            · rw [if_neg c10] at H
              exact absurd H (by simp)
          · rw [if_neg c8] at H
            exact absurd H (by simp)

/-! ### field_Sign: function 11 -/
def field_Sign.f (a0 : Int) (a1 : Int) : Option (Int) := if a1 < 1 then (some 0) else (if a1 > 32 then (some 0) else (if 0 ≤ (wrap64 (32 - a1)) then (some (shr .i32 (wrap32 (shl .u32 a0 (wrap64 (32 - a1)))) (wrap64 (32 - a1)))) else (none)))
set_option maxHeartbeats 8000000 in
set_option maxRecDepth 100000 in
theorem field_Sign.calls (a0 : Int) (a1 : Int) (r : Int) (w : World) (h : field_Sign.f a0 a1 = some r) :
    Calls Try.prog 11 #[.int .u32 a0, .int .i64 a1] w fun e w' => e = .returned (.int .i32 r) ∧ Drawn0 w w' := by
  have H : (if a1 < 1 then (some 0) else (if a1 > 32 then (some 0) else (if 0 ≤ (wrap64 (32 - a1)) then (some (shr .i32 (wrap32 (shl .u32 a0 (wrap64 (32 - a1)))) (wrap64 (32 - a1)))) else (none)))) = some r := h
  clear h
  by_cases c3 : a1 < 1
  · rw [if_pos c3] at H
    have c3b0 : decide (a1 < 1) = true := decide_eq_true c3
    clear c3
    obtain rfl := Option.some.inj H
    go_enter Try.func11, Try.ntmps11
    go_wp2
    go_ret
    exact ⟨by first | rfl | (simp; done) | (simp [*]; done), by repeat (first | exact Drawn0.refl _ | apply Drawn0.step)⟩
  · rw [if_neg c3] at H
    have c3b0 : decide (a1 < 1) = false := decide_eq_false c3
    clear c3
    by_cases c4 : a1 > 32
    · rw [if_pos c4] at H
      have c4b0 : decide (32 < a1) = true := decide_eq_true c4
      clear c4
      obtain rfl := Option.some.inj H
      go_enter Try.func11, Try.ntmps11
      go_wp2
      go_ret
      exact ⟨by first | rfl | (simp; done) | (simp [*]; done), by repeat (first | exact Drawn0.refl _ | apply Drawn0.step)⟩
    · rw [if_neg c4] at H
      have c4b0 : decide (32 < a1) = false := decide_eq_false c4
      clear c4
      obtain ⟨ji5, hji5⟩ : ∃ j_ : Int, (wrap64 (32 - a1)) = j_ := ⟨_, rfl⟩
      replace H : (if 0 ≤ (ji5) then (some (shr .i32 (wrap32 (shl .u32 a0 (ji5))) (ji5))) else (none)) = some r := by first | (rw [hji5] at H; exact H) | (simp only [hji5] at H ⊢; exact H)
      have hji5w : (IntKind.i64.wrap (32 - a1)) = ji5 := (i64_w _).trans hji5
      by_cases c6 : 0 ≤ (ji5)
      · rw [if_pos c6] at H
        have c6b0 := eq_true c6
        have c6b1 : decide (0 ≤ (ji5)) = true := decide_eq_true c6
        clear c6
        obtain ⟨ji7, hji7⟩ : ∃ j_ : Int, (shl .u32 a0 (ji5)) = j_ := ⟨_, rfl⟩
        replace H : (some (shr .i32 (wrap32 (ji7)) (ji5))) = some r := by first | (rw [hji7] at H; exact H) | (simp only [hji7] at H ⊢; exact H)
        have hji7_ : (IntKind.u32.wrap (a0 * 2 ^ min (ji5).toNat 32)) = ji7 := hji7
        have hji7z : (ji5) ≤ 32 → (IntKind.u32.wrap (a0 * 2 ^ (ji5).toNat)) = ji7 := shl_small hji7
        have c8b0 := eq_true (of_decide_eq_true (by first | (with_reducible assumption) | assumption) : 0 ≤ (ji5))
        obtain ⟨ji9, hji9⟩ : ∃ j_ : Int, (shr .i32 (wrap32 (ji7)) (ji5)) = j_ := ⟨_, rfl⟩
        replace H : (some ji9) = some r := by first | (rw [hji9] at H; exact H) | (simp only [hji9] at H ⊢; exact H)
        have hji9_ : ((wrap32 (ji7)) / 2 ^ min (ji5).toNat 32) = ji9 := hji9
        have hji9z : (ji5) ≤ 32 → ((wrap32 (ji7)) / 2 ^ (ji5).toNat) = ji9 := shr_small hji9
        obtain rfl := Option.some.inj H
        go_enter Try.func11, Try.ntmps11
        go_wp2
        go_ret
        exact ⟨by first | rfl | (simp; done) | (simp only [← hji5, ← hji7, ← hji9] <;> (first | rfl | simp)) | (simp [*]; done), by repeat (first | exact Drawn0.refl _ | apply Drawn0.step)⟩
      · rw [if_neg c6] at H
        exact absurd H (by simp)

/-! ### field_ImmI: function 12 -/
def field_ImmI.f (a0 : Int) : Option (Int) := (field_Bits.f a0 20 12).bind fun t101 => ((field_Sign.f t101 12).bind fun t102 => (some t102))
set_option maxHeartbeats 8000000 in
set_option maxRecDepth 100000 in
theorem field_ImmI.calls (a0 : Int) (r : Int) (w : World) (h : field_ImmI.f a0 = some r) :
    Calls Try.prog 12 #[.int .u32 a0] w fun e w' => e = .returned (.int .i32 r) ∧ Drawn0 w w' := by
  have H : ((field_Bits.f a0 20 12).bind fun t101 => ((field_Sign.f t101 12).bind fun t102 => (some t102))) = some r := h
  clear h
  replace H := Option.bind_eq_some_iff.mp H
  obtain ⟨t101, A20, H⟩ := H
  replace H : ((field_Sign.f t101 12).bind fun t102 => (some t102)) = some r := H
  have A2 := Aside0.mk A20
  clear A20
  replace H := Option.bind_eq_some_iff.mp H
  obtain ⟨t102, A30, H⟩ := H
  replace H : (some t102) = some r := H
  have A3 := Aside0.mk A30
  clear A30
  obtain rfl := Option.some.inj H
  go_enter Try.func12, Try.ntmps12
  go_wp2_with (first | ((with_reducible refine gate_callee (f := 8) rfl ?_); refine goesL_ (some 4) rfl rfl Try.func8 (by kernel_rfl) rfl #[.int .u32 a0, .int .i64 20, .int .i64 12] rfl (by (try simp only [List.map_toArray, List.map_cons, List.map_nil]); first | done | rfl | (simp only [List.length_drop, List.length_take]; rfl)) ?_; (with_reducible refine (field_Bits.calls a0 20 12 t101 _ A2.out).mono ?_); rintro e w' ⟨rfl, ⟨nd, rfl⟩⟩; refine ⟨_, rfl, ?_⟩) | ((with_reducible refine gate_callee (f := 11) rfl ?_); refine goesL_ (some 5) rfl rfl Try.func11 (by kernel_rfl) rfl #[.int .u32 t101, .int .i64 12] rfl (by (try simp only [List.map_toArray, List.map_cons, List.map_nil]); first | done | rfl | (simp only [List.length_drop, List.length_take]; rfl)) ?_; (with_reducible refine (field_Sign.calls t101 12 t102 _ A3.out).mono ?_); rintro e w' ⟨rfl, ⟨nd, rfl⟩⟩; refine ⟨_, rfl, ?_⟩))
  go_ret
  exact ⟨by first | rfl | (simp; done) | (simp [*]; done), by repeat (first | exact Drawn0.refl _ | apply Drawn0.step)⟩

/-! ### field_ImmU: function 15 -/
def field_ImmU.f (a0 : Int) : Option (Int) := (field_Bits.f a0 12 20).bind fun t103 => (some (wrap32 ((t103 * 4096) % 4294967296)))
set_option maxHeartbeats 8000000 in
set_option maxRecDepth 100000 in
theorem field_ImmU.calls (a0 : Int) (r : Int) (w : World) (h : field_ImmU.f a0 = some r) :
    Calls Try.prog 15 #[.int .u32 a0] w fun e w' => e = .returned (.int .i32 r) ∧ Drawn0 w w' := by
  have H : ((field_Bits.f a0 12 20).bind fun t103 => (some (wrap32 ((t103 * 4096) % 4294967296)))) = some r := h
  clear h
  replace H := Option.bind_eq_some_iff.mp H
  obtain ⟨t103, A20, H⟩ := H
  replace H : (some (wrap32 ((t103 * 4096) % 4294967296))) = some r := H
  have A2 := Aside0.mk A20
  clear A20
  obtain rfl := Option.some.inj H
  go_enter Try.func15, Try.ntmps15
  go_wp2_with (first | ((with_reducible refine gate_callee (f := 8) rfl ?_); refine goesL_ (some 4) rfl rfl Try.func8 (by kernel_rfl) rfl #[.int .u32 a0, .int .i64 12, .int .i64 20] rfl (by (try simp only [List.map_toArray, List.map_cons, List.map_nil]); first | done | rfl | (simp only [List.length_drop, List.length_take]; rfl)) ?_; (with_reducible refine (field_Bits.calls a0 12 20 t103 _ A2.out).mono ?_); rintro e w' ⟨rfl, ⟨nd, rfl⟩⟩; refine ⟨_, rfl, ?_⟩))
  go_ret
  exact ⟨by first | rfl | (simp; done) | (simp [*]; done), by repeat (first | exact Drawn0.refl _ | apply Drawn0.step)⟩

/-! ### dioscurilaw4_known: function 9 -/
def dioscurilaw4_known.f  : Option (Bool) := (field_ImmI.f 4293918720).bind fun t104 => (if t104 = (-1) then ((field_Sign.f 8 4).bind fun t105 => (if t105 = (-8) then ((field_Bits.f 240 4 4).bind fun t106 => (if t106 = 15 then ((field_Bits.f 1 32 1).bind fun t107 => (if t107 = 0 then ((field_ImmU.f 4294963200).bind fun t108 => (some (t108 == (-4096)))) else (some false))) else (some false))) else (some false))) else (some false))
set_option maxHeartbeats 8000000 in
set_option maxRecDepth 100000 in
theorem dioscurilaw4_known.calls  (r : Bool) (w : World) (h : dioscurilaw4_known.f  = some r) :
    Calls Try.prog 9 #[] w fun e w' => e = .returned (.bool r) ∧ Drawn0 w w' := by
  have H : ((field_ImmI.f 4293918720).bind fun t104 => (if t104 = (-1) then ((field_Sign.f 8 4).bind fun t105 => (if t105 = (-8) then ((field_Bits.f 240 4 4).bind fun t106 => (if t106 = 15 then ((field_Bits.f 1 32 1).bind fun t107 => (if t107 = 0 then ((field_ImmU.f 4294963200).bind fun t108 => (some (t108 == (-4096)))) else (some false))) else (some false))) else (some false))) else (some false))) = some r := h
  clear h
  replace H := Option.bind_eq_some_iff.mp H
  obtain ⟨t104, A10, H⟩ := H
  replace H : (if t104 = (-1) then ((field_Sign.f 8 4).bind fun t105 => (if t105 = (-8) then ((field_Bits.f 240 4 4).bind fun t106 => (if t106 = 15 then ((field_Bits.f 1 32 1).bind fun t107 => (if t107 = 0 then ((field_ImmU.f 4294963200).bind fun t108 => (some (t108 == (-4096)))) else (some false))) else (some false))) else (some false))) else (some false)) = some r := H
  have A1 := Aside0.mk A10
  clear A10
  by_cases c2 : t104 = (-1)
  · rw [if_pos c2] at H
    have c2b0 : (t104 == (-1)) = true := beq_iff_eq.mpr c2
    have c2b1 : (t104 != (-1)) = false := bne_eq_false_iff_eq.mpr c2
    clear c2
    replace H := Option.bind_eq_some_iff.mp H
    obtain ⟨t105, A30, H⟩ := H
    replace H : (if t105 = (-8) then ((field_Bits.f 240 4 4).bind fun t106 => (if t106 = 15 then ((field_Bits.f 1 32 1).bind fun t107 => (if t107 = 0 then ((field_ImmU.f 4294963200).bind fun t108 => (some (t108 == (-4096)))) else (some false))) else (some false))) else (some false)) = some r := H
    have A3 := Aside0.mk A30
    clear A30
    by_cases c4 : t105 = (-8)
    · rw [if_pos c4] at H
      have c4b0 : (t105 == (-8)) = true := beq_iff_eq.mpr c4
      have c4b1 : (t105 != (-8)) = false := bne_eq_false_iff_eq.mpr c4
      clear c4
      replace H := Option.bind_eq_some_iff.mp H
      obtain ⟨t106, A50, H⟩ := H
      replace H : (if t106 = 15 then ((field_Bits.f 1 32 1).bind fun t107 => (if t107 = 0 then ((field_ImmU.f 4294963200).bind fun t108 => (some (t108 == (-4096)))) else (some false))) else (some false)) = some r := H
      have A5 := Aside0.mk A50
      clear A50
      by_cases c6 : t106 = 15
      · rw [if_pos c6] at H
        have c6b0 : (t106 == 15) = true := beq_iff_eq.mpr c6
        have c6b1 : (t106 != 15) = false := bne_eq_false_iff_eq.mpr c6
        clear c6
        replace H := Option.bind_eq_some_iff.mp H
        obtain ⟨t107, A70, H⟩ := H
        replace H : (if t107 = 0 then ((field_ImmU.f 4294963200).bind fun t108 => (some (t108 == (-4096)))) else (some false)) = some r := H
        have A7 := Aside0.mk A70
        clear A70
        by_cases c8 : t107 = 0
        · rw [if_pos c8] at H
          have c8b0 : (t107 == 0) = true := beq_iff_eq.mpr c8
          have c8b1 : (t107 != 0) = false := bne_eq_false_iff_eq.mpr c8
          clear c8
          replace H := Option.bind_eq_some_iff.mp H
          obtain ⟨t108, A90, H⟩ := H
          replace H : (some (t108 == (-4096))) = some r := H
          have A9 := Aside0.mk A90
          clear A90
          obtain rfl := Option.some.inj H
          go_enter Try.func9, Try.ntmps9
          go_wp2_with (first | ((with_reducible refine gate_callee (f := 12) rfl ?_); refine goesL_ (some 1) rfl rfl Try.func12 (by kernel_rfl) rfl #[.int .u32 4293918720] rfl (by (try simp only [List.map_toArray, List.map_cons, List.map_nil]); first | done | rfl | (simp only [List.length_drop, List.length_take]; rfl)) ?_; (with_reducible refine (field_ImmI.calls 4293918720 t104 _ A1.out).mono ?_); rintro e w' ⟨rfl, ⟨nd, rfl⟩⟩; refine ⟨_, rfl, ?_⟩) | (go_at_call 11; (with_reducible refine (field_Sign.calls 8 4 t105 _ A3.out).mono ?_); rintro e w' ⟨rfl, ⟨nd, rfl⟩⟩) | (go_at_call 8; (with_reducible refine (field_Bits.calls 240 4 4 t106 _ A5.out).mono ?_); rintro e w' ⟨rfl, ⟨nd, rfl⟩⟩) | (go_at_call 8; (with_reducible refine (field_Bits.calls 1 32 1 t107 _ A7.out).mono ?_); rintro e w' ⟨rfl, ⟨nd, rfl⟩⟩) | (go_at_call 15; (with_reducible refine (field_ImmU.calls 4294963200 t108 _ A9.out).mono ?_); rintro e w' ⟨rfl, ⟨nd, rfl⟩⟩))
          go_ret
          exact ⟨by first | rfl | (simp; done) | (simp [*]; done), by repeat (first | exact Drawn0.refl _ | apply Drawn0.step)⟩
        · rw [if_neg c8] at H
          have c8b0 : (t107 == 0) = false := beq_eq_false_iff_ne.mpr c8
          have c8b1 : (t107 != 0) = true := bne_iff_ne.mpr c8
          obtain rfl := Option.some.inj H
          go_enter Try.func9, Try.ntmps9
          go_wp2_with (first | ((with_reducible refine gate_callee (f := 12) rfl ?_); refine goesL_ (some 1) rfl rfl Try.func12 (by kernel_rfl) rfl #[.int .u32 4293918720] rfl (by (try simp only [List.map_toArray, List.map_cons, List.map_nil]); first | done | rfl | (simp only [List.length_drop, List.length_take]; rfl)) ?_; (with_reducible refine (field_ImmI.calls 4293918720 t104 _ A1.out).mono ?_); rintro e w' ⟨rfl, ⟨nd, rfl⟩⟩; refine ⟨_, rfl, ?_⟩) | (go_at_call 11; (with_reducible refine (field_Sign.calls 8 4 t105 _ A3.out).mono ?_); rintro e w' ⟨rfl, ⟨nd, rfl⟩⟩) | (go_at_call 8; (with_reducible refine (field_Bits.calls 240 4 4 t106 _ A5.out).mono ?_); rintro e w' ⟨rfl, ⟨nd, rfl⟩⟩) | (go_at_call 8; (with_reducible refine (field_Bits.calls 1 32 1 t107 _ A7.out).mono ?_); rintro e w' ⟨rfl, ⟨nd, rfl⟩⟩))
          go_ret
          exact ⟨by first | rfl | (simp; done) | (simp [*]; done), by repeat (first | exact Drawn0.refl _ | apply Drawn0.step)⟩
      · rw [if_neg c6] at H
        have c6b0 : (t106 == 15) = false := beq_eq_false_iff_ne.mpr c6
        have c6b1 : (t106 != 15) = true := bne_iff_ne.mpr c6
        obtain rfl := Option.some.inj H
        go_enter Try.func9, Try.ntmps9
        go_wp2_with (first | ((with_reducible refine gate_callee (f := 12) rfl ?_); refine goesL_ (some 1) rfl rfl Try.func12 (by kernel_rfl) rfl #[.int .u32 4293918720] rfl (by (try simp only [List.map_toArray, List.map_cons, List.map_nil]); first | done | rfl | (simp only [List.length_drop, List.length_take]; rfl)) ?_; (with_reducible refine (field_ImmI.calls 4293918720 t104 _ A1.out).mono ?_); rintro e w' ⟨rfl, ⟨nd, rfl⟩⟩; refine ⟨_, rfl, ?_⟩) | (go_at_call 11; (with_reducible refine (field_Sign.calls 8 4 t105 _ A3.out).mono ?_); rintro e w' ⟨rfl, ⟨nd, rfl⟩⟩) | (go_at_call 8; (with_reducible refine (field_Bits.calls 240 4 4 t106 _ A5.out).mono ?_); rintro e w' ⟨rfl, ⟨nd, rfl⟩⟩))
        go_ret
        exact ⟨by first | rfl | (simp; done) | (simp [*]; done), by repeat (first | exact Drawn0.refl _ | apply Drawn0.step)⟩
    · rw [if_neg c4] at H
      have c4b0 : (t105 == (-8)) = false := beq_eq_false_iff_ne.mpr c4
      have c4b1 : (t105 != (-8)) = true := bne_iff_ne.mpr c4
      obtain rfl := Option.some.inj H
      go_enter Try.func9, Try.ntmps9
      go_wp2_with (first | ((with_reducible refine gate_callee (f := 12) rfl ?_); refine goesL_ (some 1) rfl rfl Try.func12 (by kernel_rfl) rfl #[.int .u32 4293918720] rfl (by (try simp only [List.map_toArray, List.map_cons, List.map_nil]); first | done | rfl | (simp only [List.length_drop, List.length_take]; rfl)) ?_; (with_reducible refine (field_ImmI.calls 4293918720 t104 _ A1.out).mono ?_); rintro e w' ⟨rfl, ⟨nd, rfl⟩⟩; refine ⟨_, rfl, ?_⟩) | (go_at_call 11; (with_reducible refine (field_Sign.calls 8 4 t105 _ A3.out).mono ?_); rintro e w' ⟨rfl, ⟨nd, rfl⟩⟩))
      go_ret
      exact ⟨by first | rfl | (simp; done) | (simp [*]; done), by repeat (first | exact Drawn0.refl _ | apply Drawn0.step)⟩
  · rw [if_neg c2] at H
    have c2b0 : (t104 == (-1)) = false := beq_eq_false_iff_ne.mpr c2
    have c2b1 : (t104 != (-1)) = true := bne_iff_ne.mpr c2
    obtain rfl := Option.some.inj H
    go_enter Try.func9, Try.ntmps9
    go_wp2_with (first | ((with_reducible refine gate_callee (f := 12) rfl ?_); refine goesL_ (some 1) rfl rfl Try.func12 (by kernel_rfl) rfl #[.int .u32 4293918720] rfl (by (try simp only [List.map_toArray, List.map_cons, List.map_nil]); first | done | rfl | (simp only [List.length_drop, List.length_take]; rfl)) ?_; (with_reducible refine (field_ImmI.calls 4293918720 t104 _ A1.out).mono ?_); rintro e w' ⟨rfl, ⟨nd, rfl⟩⟩; refine ⟨_, rfl, ?_⟩))
    go_ret
    exact ⟨by first | rfl | (simp; done) | (simp [*]; done), by repeat (first | exact Drawn0.refl _ | apply Drawn0.step)⟩

/-! ### field_ImmS: function 13 -/
def field_ImmS.f (a0 : Int) : Option (Int) := (field_Bits.f a0 25 7).bind fun t109 => ((field_Bits.f a0 7 5).bind fun t110 => ((field_Sign.f (Go.bits .or .u32 ((t109 * 32) % 4294967296) t110) 12).bind fun t111 => (some t111)))
set_option maxHeartbeats 8000000 in
set_option maxRecDepth 100000 in
theorem field_ImmS.calls (a0 : Int) (r : Int) (w : World) (h : field_ImmS.f a0 = some r) :
    Calls Try.prog 13 #[.int .u32 a0] w fun e w' => e = .returned (.int .i32 r) ∧ Drawn0 w w' := by
  have H : ((field_Bits.f a0 25 7).bind fun t109 => ((field_Bits.f a0 7 5).bind fun t110 => ((field_Sign.f (Go.bits .or .u32 ((t109 * 32) % 4294967296) t110) 12).bind fun t111 => (some t111)))) = some r := h
  clear h
  replace H := Option.bind_eq_some_iff.mp H
  obtain ⟨t109, A20, H⟩ := H
  replace H : ((field_Bits.f a0 7 5).bind fun t110 => ((field_Sign.f (Go.bits .or .u32 ((t109 * 32) % 4294967296) t110) 12).bind fun t111 => (some t111))) = some r := H
  have A2 := Aside0.mk A20
  clear A20
  replace H := Option.bind_eq_some_iff.mp H
  obtain ⟨t110, A30, H⟩ := H
  replace H : ((field_Sign.f (Go.bits .or .u32 ((t109 * 32) % 4294967296) t110) 12).bind fun t111 => (some t111)) = some r := H
  have A3 := Aside0.mk A30
  clear A30
  replace H := Option.bind_eq_some_iff.mp H
  obtain ⟨t111, A40, H⟩ := H
  replace H : (some t111) = some r := H
  have A4 := Aside0.mk A40
  clear A40
  obtain rfl := Option.some.inj H
  go_enter Try.func13, Try.ntmps13
  go_wp2_with (first | ((with_reducible refine gate_callee (f := 8) rfl ?_); refine goesL_ (some 4) rfl rfl Try.func8 (by kernel_rfl) rfl #[.int .u32 a0, .int .i64 25, .int .i64 7] rfl (by (try simp only [List.map_toArray, List.map_cons, List.map_nil]); first | done | rfl | (simp only [List.length_drop, List.length_take]; rfl)) ?_; (with_reducible refine (field_Bits.calls a0 25 7 t109 _ A2.out).mono ?_); rintro e w' ⟨rfl, ⟨nd, rfl⟩⟩; refine ⟨_, rfl, ?_⟩) | ((with_reducible refine gate_callee (f := 8) rfl ?_); refine goesL_ (some 7) rfl rfl Try.func8 (by kernel_rfl) rfl #[.int .u32 a0, .int .i64 7, .int .i64 5] rfl (by (try simp only [List.map_toArray, List.map_cons, List.map_nil]); first | done | rfl | (simp only [List.length_drop, List.length_take]; rfl)) ?_; (with_reducible refine (field_Bits.calls a0 7 5 t110 _ A3.out).mono ?_); rintro e w' ⟨rfl, ⟨nd, rfl⟩⟩; refine ⟨_, rfl, ?_⟩) | ((with_reducible refine gate_callee (f := 11) rfl ?_); refine goesL_ (some 9) rfl rfl Try.func11 (by kernel_rfl) rfl #[.int .u32 (Go.bits .or .u32 ((t109 * 32) % 4294967296) t110), .int .i64 12] rfl (by (try simp only [List.map_toArray, List.map_cons, List.map_nil]); first | done | rfl | (simp only [List.length_drop, List.length_take]; rfl)) ?_; (with_reducible refine (field_Sign.calls (Go.bits .or .u32 ((t109 * 32) % 4294967296) t110) 12 t111 _ A4.out).mono ?_); rintro e w' ⟨rfl, ⟨nd, rfl⟩⟩; refine ⟨_, rfl, ?_⟩))
  go_ret
  exact ⟨by first | rfl | (simp; done) | (simp [*]; done), by repeat (first | exact Drawn0.refl _ | apply Drawn0.step)⟩

/-! ### field_ImmB: function 14 -/
def field_ImmB.f (a0 : Int) : Option (Int) := (field_Bits.f a0 31 1).bind fun t112 => ((field_Bits.f a0 7 1).bind fun t113 => ((field_Bits.f a0 25 6).bind fun t114 => ((field_Bits.f a0 8 4).bind fun t115 => ((field_Sign.f (Go.bits .or .u32 (Go.bits .or .u32 (Go.bits .or .u32 ((t112 * 4096) % 4294967296) ((t113 * 2048) % 4294967296)) ((t114 * 32) % 4294967296)) ((t115 * 2) % 4294967296)) 13).bind fun t116 => (some t116)))))
set_option maxHeartbeats 8000000 in
set_option maxRecDepth 100000 in
theorem field_ImmB.calls (a0 : Int) (r : Int) (w : World) (h : field_ImmB.f a0 = some r) :
    Calls Try.prog 14 #[.int .u32 a0] w fun e w' => e = .returned (.int .i32 r) ∧ Drawn0 w w' := by
  have H : ((field_Bits.f a0 31 1).bind fun t112 => ((field_Bits.f a0 7 1).bind fun t113 => ((field_Bits.f a0 25 6).bind fun t114 => ((field_Bits.f a0 8 4).bind fun t115 => ((field_Sign.f (Go.bits .or .u32 (Go.bits .or .u32 (Go.bits .or .u32 ((t112 * 4096) % 4294967296) ((t113 * 2048) % 4294967296)) ((t114 * 32) % 4294967296)) ((t115 * 2) % 4294967296)) 13).bind fun t116 => (some t116)))))) = some r := h
  clear h
  replace H := Option.bind_eq_some_iff.mp H
  obtain ⟨t112, A20, H⟩ := H
  replace H : ((field_Bits.f a0 7 1).bind fun t113 => ((field_Bits.f a0 25 6).bind fun t114 => ((field_Bits.f a0 8 4).bind fun t115 => ((field_Sign.f (Go.bits .or .u32 (Go.bits .or .u32 (Go.bits .or .u32 ((t112 * 4096) % 4294967296) ((t113 * 2048) % 4294967296)) ((t114 * 32) % 4294967296)) ((t115 * 2) % 4294967296)) 13).bind fun t116 => (some t116))))) = some r := H
  have A2 := Aside0.mk A20
  clear A20
  replace H := Option.bind_eq_some_iff.mp H
  obtain ⟨t113, A30, H⟩ := H
  replace H : ((field_Bits.f a0 25 6).bind fun t114 => ((field_Bits.f a0 8 4).bind fun t115 => ((field_Sign.f (Go.bits .or .u32 (Go.bits .or .u32 (Go.bits .or .u32 ((t112 * 4096) % 4294967296) ((t113 * 2048) % 4294967296)) ((t114 * 32) % 4294967296)) ((t115 * 2) % 4294967296)) 13).bind fun t116 => (some t116)))) = some r := H
  have A3 := Aside0.mk A30
  clear A30
  replace H := Option.bind_eq_some_iff.mp H
  obtain ⟨t114, A40, H⟩ := H
  replace H : ((field_Bits.f a0 8 4).bind fun t115 => ((field_Sign.f (Go.bits .or .u32 (Go.bits .or .u32 (Go.bits .or .u32 ((t112 * 4096) % 4294967296) ((t113 * 2048) % 4294967296)) ((t114 * 32) % 4294967296)) ((t115 * 2) % 4294967296)) 13).bind fun t116 => (some t116))) = some r := H
  have A4 := Aside0.mk A40
  clear A40
  replace H := Option.bind_eq_some_iff.mp H
  obtain ⟨t115, A50, H⟩ := H
  replace H : ((field_Sign.f (Go.bits .or .u32 (Go.bits .or .u32 (Go.bits .or .u32 ((t112 * 4096) % 4294967296) ((t113 * 2048) % 4294967296)) ((t114 * 32) % 4294967296)) ((t115 * 2) % 4294967296)) 13).bind fun t116 => (some t116)) = some r := H
  have A5 := Aside0.mk A50
  clear A50
  replace H := Option.bind_eq_some_iff.mp H
  obtain ⟨t116, A60, H⟩ := H
  replace H : (some t116) = some r := H
  have A6 := Aside0.mk A60
  clear A60
  obtain rfl := Option.some.inj H
  go_enter Try.func14, Try.ntmps14
  go_wp2_with (first | ((with_reducible refine gate_callee (f := 8) rfl ?_); refine goesL_ (some 4) rfl rfl Try.func8 (by kernel_rfl) rfl #[.int .u32 a0, .int .i64 31, .int .i64 1] rfl (by (try simp only [List.map_toArray, List.map_cons, List.map_nil]); first | done | rfl | (simp only [List.length_drop, List.length_take]; rfl)) ?_; (with_reducible refine (field_Bits.calls a0 31 1 t112 _ A2.out).mono ?_); rintro e w' ⟨rfl, ⟨nd, rfl⟩⟩; refine ⟨_, rfl, ?_⟩) | ((with_reducible refine gate_callee (f := 8) rfl ?_); refine goesL_ (some 7) rfl rfl Try.func8 (by kernel_rfl) rfl #[.int .u32 a0, .int .i64 7, .int .i64 1] rfl (by (try simp only [List.map_toArray, List.map_cons, List.map_nil]); first | done | rfl | (simp only [List.length_drop, List.length_take]; rfl)) ?_; (with_reducible refine (field_Bits.calls a0 7 1 t113 _ A3.out).mono ?_); rintro e w' ⟨rfl, ⟨nd, rfl⟩⟩; refine ⟨_, rfl, ?_⟩) | ((with_reducible refine gate_callee (f := 8) rfl ?_); refine goesL_ (some 11) rfl rfl Try.func8 (by kernel_rfl) rfl #[.int .u32 a0, .int .i64 25, .int .i64 6] rfl (by (try simp only [List.map_toArray, List.map_cons, List.map_nil]); first | done | rfl | (simp only [List.length_drop, List.length_take]; rfl)) ?_; (with_reducible refine (field_Bits.calls a0 25 6 t114 _ A4.out).mono ?_); rintro e w' ⟨rfl, ⟨nd, rfl⟩⟩; refine ⟨_, rfl, ?_⟩) | ((with_reducible refine gate_callee (f := 8) rfl ?_); refine goesL_ (some 15) rfl rfl Try.func8 (by kernel_rfl) rfl #[.int .u32 a0, .int .i64 8, .int .i64 4] rfl (by (try simp only [List.map_toArray, List.map_cons, List.map_nil]); first | done | rfl | (simp only [List.length_drop, List.length_take]; rfl)) ?_; (with_reducible refine (field_Bits.calls a0 8 4 t115 _ A5.out).mono ?_); rintro e w' ⟨rfl, ⟨nd, rfl⟩⟩; refine ⟨_, rfl, ?_⟩) | ((with_reducible refine gate_callee (f := 11) rfl ?_); refine goesL_ (some 18) rfl rfl Try.func11 (by kernel_rfl) rfl #[.int .u32 (Go.bits .or .u32 (Go.bits .or .u32 (Go.bits .or .u32 ((t112 * 4096) % 4294967296) ((t113 * 2048) % 4294967296)) ((t114 * 32) % 4294967296)) ((t115 * 2) % 4294967296)), .int .i64 13] rfl (by (try simp only [List.map_toArray, List.map_cons, List.map_nil]); first | done | rfl | (simp only [List.length_drop, List.length_take]; rfl)) ?_; (with_reducible refine (field_Sign.calls (Go.bits .or .u32 (Go.bits .or .u32 (Go.bits .or .u32 ((t112 * 4096) % 4294967296) ((t113 * 2048) % 4294967296)) ((t114 * 32) % 4294967296)) ((t115 * 2) % 4294967296)) 13 t116 _ A6.out).mono ?_); rintro e w' ⟨rfl, ⟨nd, rfl⟩⟩; refine ⟨_, rfl, ?_⟩))
  go_ret
  exact ⟨by first | rfl | (simp; done) | (simp [*]; done), by repeat (first | exact Drawn0.refl _ | apply Drawn0.step)⟩

/-! ### field_ImmJ: function 16 -/
def field_ImmJ.f (a0 : Int) : Option (Int) := (field_Bits.f a0 31 1).bind fun t117 => ((field_Bits.f a0 12 8).bind fun t118 => ((field_Bits.f a0 20 1).bind fun t119 => ((field_Bits.f a0 21 10).bind fun t120 => ((field_Sign.f (Go.bits .or .u32 (Go.bits .or .u32 (Go.bits .or .u32 ((t117 * 1048576) % 4294967296) ((t118 * 4096) % 4294967296)) ((t119 * 2048) % 4294967296)) ((t120 * 2) % 4294967296)) 21).bind fun t121 => (some t121)))))
set_option maxHeartbeats 8000000 in
set_option maxRecDepth 100000 in
theorem field_ImmJ.calls (a0 : Int) (r : Int) (w : World) (h : field_ImmJ.f a0 = some r) :
    Calls Try.prog 16 #[.int .u32 a0] w fun e w' => e = .returned (.int .i32 r) ∧ Drawn0 w w' := by
  have H : ((field_Bits.f a0 31 1).bind fun t117 => ((field_Bits.f a0 12 8).bind fun t118 => ((field_Bits.f a0 20 1).bind fun t119 => ((field_Bits.f a0 21 10).bind fun t120 => ((field_Sign.f (Go.bits .or .u32 (Go.bits .or .u32 (Go.bits .or .u32 ((t117 * 1048576) % 4294967296) ((t118 * 4096) % 4294967296)) ((t119 * 2048) % 4294967296)) ((t120 * 2) % 4294967296)) 21).bind fun t121 => (some t121)))))) = some r := h
  clear h
  replace H := Option.bind_eq_some_iff.mp H
  obtain ⟨t117, A20, H⟩ := H
  replace H : ((field_Bits.f a0 12 8).bind fun t118 => ((field_Bits.f a0 20 1).bind fun t119 => ((field_Bits.f a0 21 10).bind fun t120 => ((field_Sign.f (Go.bits .or .u32 (Go.bits .or .u32 (Go.bits .or .u32 ((t117 * 1048576) % 4294967296) ((t118 * 4096) % 4294967296)) ((t119 * 2048) % 4294967296)) ((t120 * 2) % 4294967296)) 21).bind fun t121 => (some t121))))) = some r := H
  have A2 := Aside0.mk A20
  clear A20
  replace H := Option.bind_eq_some_iff.mp H
  obtain ⟨t118, A30, H⟩ := H
  replace H : ((field_Bits.f a0 20 1).bind fun t119 => ((field_Bits.f a0 21 10).bind fun t120 => ((field_Sign.f (Go.bits .or .u32 (Go.bits .or .u32 (Go.bits .or .u32 ((t117 * 1048576) % 4294967296) ((t118 * 4096) % 4294967296)) ((t119 * 2048) % 4294967296)) ((t120 * 2) % 4294967296)) 21).bind fun t121 => (some t121)))) = some r := H
  have A3 := Aside0.mk A30
  clear A30
  replace H := Option.bind_eq_some_iff.mp H
  obtain ⟨t119, A40, H⟩ := H
  replace H : ((field_Bits.f a0 21 10).bind fun t120 => ((field_Sign.f (Go.bits .or .u32 (Go.bits .or .u32 (Go.bits .or .u32 ((t117 * 1048576) % 4294967296) ((t118 * 4096) % 4294967296)) ((t119 * 2048) % 4294967296)) ((t120 * 2) % 4294967296)) 21).bind fun t121 => (some t121))) = some r := H
  have A4 := Aside0.mk A40
  clear A40
  replace H := Option.bind_eq_some_iff.mp H
  obtain ⟨t120, A50, H⟩ := H
  replace H : ((field_Sign.f (Go.bits .or .u32 (Go.bits .or .u32 (Go.bits .or .u32 ((t117 * 1048576) % 4294967296) ((t118 * 4096) % 4294967296)) ((t119 * 2048) % 4294967296)) ((t120 * 2) % 4294967296)) 21).bind fun t121 => (some t121)) = some r := H
  have A5 := Aside0.mk A50
  clear A50
  replace H := Option.bind_eq_some_iff.mp H
  obtain ⟨t121, A60, H⟩ := H
  replace H : (some t121) = some r := H
  have A6 := Aside0.mk A60
  clear A60
  obtain rfl := Option.some.inj H
  go_enter Try.func16, Try.ntmps16
  go_wp2_with (first | ((with_reducible refine gate_callee (f := 8) rfl ?_); refine goesL_ (some 4) rfl rfl Try.func8 (by kernel_rfl) rfl #[.int .u32 a0, .int .i64 31, .int .i64 1] rfl (by (try simp only [List.map_toArray, List.map_cons, List.map_nil]); first | done | rfl | (simp only [List.length_drop, List.length_take]; rfl)) ?_; (with_reducible refine (field_Bits.calls a0 31 1 t117 _ A2.out).mono ?_); rintro e w' ⟨rfl, ⟨nd, rfl⟩⟩; refine ⟨_, rfl, ?_⟩) | ((with_reducible refine gate_callee (f := 8) rfl ?_); refine goesL_ (some 7) rfl rfl Try.func8 (by kernel_rfl) rfl #[.int .u32 a0, .int .i64 12, .int .i64 8] rfl (by (try simp only [List.map_toArray, List.map_cons, List.map_nil]); first | done | rfl | (simp only [List.length_drop, List.length_take]; rfl)) ?_; (with_reducible refine (field_Bits.calls a0 12 8 t118 _ A3.out).mono ?_); rintro e w' ⟨rfl, ⟨nd, rfl⟩⟩; refine ⟨_, rfl, ?_⟩) | ((with_reducible refine gate_callee (f := 8) rfl ?_); refine goesL_ (some 11) rfl rfl Try.func8 (by kernel_rfl) rfl #[.int .u32 a0, .int .i64 20, .int .i64 1] rfl (by (try simp only [List.map_toArray, List.map_cons, List.map_nil]); first | done | rfl | (simp only [List.length_drop, List.length_take]; rfl)) ?_; (with_reducible refine (field_Bits.calls a0 20 1 t119 _ A4.out).mono ?_); rintro e w' ⟨rfl, ⟨nd, rfl⟩⟩; refine ⟨_, rfl, ?_⟩) | ((with_reducible refine gate_callee (f := 8) rfl ?_); refine goesL_ (some 15) rfl rfl Try.func8 (by kernel_rfl) rfl #[.int .u32 a0, .int .i64 21, .int .i64 10] rfl (by (try simp only [List.map_toArray, List.map_cons, List.map_nil]); first | done | rfl | (simp only [List.length_drop, List.length_take]; rfl)) ?_; (with_reducible refine (field_Bits.calls a0 21 10 t120 _ A5.out).mono ?_); rintro e w' ⟨rfl, ⟨nd, rfl⟩⟩; refine ⟨_, rfl, ?_⟩) | ((with_reducible refine gate_callee (f := 11) rfl ?_); refine goesL_ (some 18) rfl rfl Try.func11 (by kernel_rfl) rfl #[.int .u32 (Go.bits .or .u32 (Go.bits .or .u32 (Go.bits .or .u32 ((t117 * 1048576) % 4294967296) ((t118 * 4096) % 4294967296)) ((t119 * 2048) % 4294967296)) ((t120 * 2) % 4294967296)), .int .i64 21] rfl (by (try simp only [List.map_toArray, List.map_cons, List.map_nil]); first | done | rfl | (simp only [List.length_drop, List.length_take]; rfl)) ?_; (with_reducible refine (field_Sign.calls (Go.bits .or .u32 (Go.bits .or .u32 (Go.bits .or .u32 ((t117 * 1048576) % 4294967296) ((t118 * 4096) % 4294967296)) ((t119 * 2048) % 4294967296)) ((t120 * 2) % 4294967296)) 21 t121 _ A6.out).mono ?_); rintro e w' ⟨rfl, ⟨nd, rfl⟩⟩; refine ⟨_, rfl, ?_⟩))
  go_ret
  exact ⟨by first | rfl | (simp; done) | (simp [*]; done), by repeat (first | exact Drawn0.refl _ | apply Drawn0.step)⟩

/-! ### dioscuriref5_Bits: function 17 -/
mutual
def dioscuriref5_Bits.j0 : Nat → Int → Int → Int → Bool → Option (Int)
  | 0, _, _, _, _ => none
  | k + 1, x0, x1, x2, x22 => if x22 = true then (some 0) else (dioscuriref5_Bits.l0 k x0 x1 x2 0 0)
def dioscuriref5_Bits.l0 : Nat → Int → Int → Int → Int → Int → Option (Int)
  | 0, _, _, _, _, _ => none
  | k + 1, x0, x1, x2, x7, x8 => if x8 < x2 then (if (wrap64 (x1 + x8)) < 32 then (if 0 ≤ (IntKind.u64.wrap (wrap64 (x1 + x8))) then (if 0 ≤ (IntKind.u64.wrap (x8)) then (dioscuriref5_Bits.l0 k x0 x1 x2 (Go.bits .or .u32 x7 (shl .u32 (Go.bits .and .u32 (shr .u32 x0 (IntKind.u64.wrap (wrap64 (x1 + x8)))) 1) (IntKind.u64.wrap (x8)))) (wrap64 (x8 + 1))) else (none)) else (none)) else (some x7)) else (some x7)
end
def dioscuriref5_Bits.f (k : Nat) (a0 : Int) (a1 : Int) (a2 : Int) : Option (Int) := if a1 < 0 then (dioscuriref5_Bits.j0 k a0 a1 a2 true) else (if a1 > 31 then (dioscuriref5_Bits.j0 k a0 a1 a2 true) else (if a2 < 1 then (dioscuriref5_Bits.j0 k a0 a1 a2 true) else (dioscuriref5_Bits.j0 k a0 a1 a2 (decide (a2 > 32)))))
theorem dioscuriref5_Bits.mono_l : ∀ k, (∀ y0 y1 y2 y3, LeO (dioscuriref5_Bits.j0 k y0 y1 y2 y3) (dioscuriref5_Bits.j0 (k + 1) y0 y1 y2 y3)) ∧ (∀ y0 y1 y2 y3 y4, LeO (dioscuriref5_Bits.l0 k y0 y1 y2 y3 y4) (dioscuriref5_Bits.l0 (k + 1) y0 y1 y2 y3 y4))
  | 0 => ⟨fun _ _ _ _ r h => by simp [dioscuriref5_Bits.j0] at h, fun _ _ _ _ _ r h => by simp [dioscuriref5_Bits.l0] at h⟩
  | k + 1 => by
    obtain ⟨ih0, ih1⟩ := dioscuriref5_Bits.mono_l k
    refine ⟨?_, ?_⟩
    · intro y0 y1 y2 y3
      unfold dioscuriref5_Bits.j0
      repeat' first
      | (with_reducible exact ih0 _ _ _ _)
      | (with_reducible exact ih1 _ _ _ _ _)
      | (with_reducible exact LeO.refl _)
      | (with_reducible exact LeO.none _)
      | (with_reducible refine LeO.ite ?_ ?_)
      | (with_reducible refine LeO.bind ?_ (fun _ => ?_))
      | exact ih0 _ _ _ _
      | exact ih1 _ _ _ _ _
      | exact LeO.none _
      | refine LeO.ite ?_ ?_
      | refine LeO.bind ?_ (fun _ => ?_)
    · intro y0 y1 y2 y3 y4
      unfold dioscuriref5_Bits.l0
      repeat' first
      | (with_reducible exact ih0 _ _ _ _)
      | (with_reducible exact ih1 _ _ _ _ _)
      | (with_reducible exact LeO.refl _)
      | (with_reducible exact LeO.none _)
      | (with_reducible refine LeO.ite ?_ ?_)
      | (with_reducible refine LeO.bind ?_ (fun _ => ?_))
      | exact ih0 _ _ _ _
      | exact ih1 _ _ _ _ _
      | exact LeO.none _
      | refine LeO.ite ?_ ?_
      | refine LeO.bind ?_ (fun _ => ?_)
theorem dioscuriref5_Bits.mono : ∀ a0 a1 a2 k, LeO (dioscuriref5_Bits.f k a0 a1 a2) (dioscuriref5_Bits.f (k + 1) a0 a1 a2) := by
  intro a0 a1 a2 k
  obtain ⟨ih0, ih1⟩ := dioscuriref5_Bits.mono_l k
  unfold dioscuriref5_Bits.f
  repeat' first
      | (with_reducible exact ih0 _ _ _ _)
      | (with_reducible exact ih1 _ _ _ _ _)
      | (with_reducible exact LeO.refl _)
      | (with_reducible exact LeO.none _)
      | (with_reducible refine LeO.ite ?_ ?_)
      | (with_reducible refine LeO.bind ?_ (fun _ => ?_))
      | exact ih0 _ _ _ _
      | exact ih1 _ _ _ _ _
      | exact LeO.none _
      | refine LeO.ite ?_ ?_
      | refine LeO.bind ?_ (fun _ => ?_)
set_option maxHeartbeats 8000000 in
set_option maxRecDepth 100000 in
theorem dioscuriref5_Bits.calls (k : Nat) (a0 : Int) (a1 : Int) (a2 : Int) (r : Int) (w : World) (h : dioscuriref5_Bits.f k a0 a1 a2 = some r) :
    Calls Try.prog 17 #[.int .u32 a0, .int .i64 a1, .int .i64 a2] w fun e w' => e = .returned (.int .u32 r) ∧ Drawn0 w w' := by
  have H : (if a1 < 0 then (dioscuriref5_Bits.j0 k a0 a1 a2 true) else (if a1 > 31 then (dioscuriref5_Bits.j0 k a0 a1 a2 true) else (if a2 < 1 then (dioscuriref5_Bits.j0 k a0 a1 a2 true) else (dioscuriref5_Bits.j0 k a0 a1 a2 (decide (a2 > 32)))))) = some r := h
  clear h
  have HC4 := Aside0.mk H
  clear H
  go_enter Try.func17, Try.ntmps17
  go_upto_region 1 with (fail)
  go_cut [22] (fun v22 wc => ∃ (kq : Nat) (x22_3 : Bool), v22 = .bool x22_3 ∧ Aside0 (dioscuriref5_Bits.j0 kq a0 a1 a2 x22_3 = some r) ∧ Aside0 (kq ≤ k) ∧ Drawn0 w wc)
  case first =>
    have H := HC4.out
    clear HC4
    by_cases c5 : a1 < 0
    · rw [if_pos c5] at H
      have c5b0 : decide (a1 < 0) = true := decide_eq_true c5
      clear c5
      (first | rw [c5b0] | (simp only [i64_w, i32_w]; rw [c5b0]) | skip)
      have H' := Aside0.mk H
      clear H
      go_wp2
      go_meet
      case rel => exact ⟨_, (true), (by first | rfl | (simp; done) | (simp [*]; done)), H', ⟨by first | omega | exact Nat.le_refl _⟩, by repeat (first | exact Drawn0.refl _ | apply Drawn0.step)⟩
    · rw [if_neg c5] at H
      have c5b0 : decide (a1 < 0) = false := decide_eq_false c5
      clear c5
      (first | rw [c5b0] | (simp only [i64_w, i32_w]; rw [c5b0]) | skip)
      by_cases c6 : a1 > 31
      · rw [if_pos c6] at H
        have c6b0 : decide (31 < a1) = true := decide_eq_true c6
        clear c6
        have H' := Aside0.mk H
        clear H
        go_wp2
        go_meet
        case rel => exact ⟨_, (true), (by first | rfl | (simp; done) | (simp [*]; done)), H', ⟨by first | omega | exact Nat.le_refl _⟩, by repeat (first | exact Drawn0.refl _ | apply Drawn0.step)⟩
      · rw [if_neg c6] at H
        have c6b0 : decide (31 < a1) = false := decide_eq_false c6
        clear c6
        by_cases c7 : a2 < 1
        · rw [if_pos c7] at H
          have c7b0 : decide (a2 < 1) = true := decide_eq_true c7
          clear c7
          have H' := Aside0.mk H
          clear H
          go_wp2
          go_meet
          case rel => exact ⟨_, (true), (by first | rfl | (simp; done) | (simp [*]; done)), H', ⟨by first | omega | exact Nat.le_refl _⟩, by repeat (first | exact Drawn0.refl _ | apply Drawn0.step)⟩
        · rw [if_neg c7] at H
          have c7b0 : decide (a2 < 1) = false := decide_eq_false c7
          clear c7
          have H' := Aside0.mk H
          clear H
          go_wp2
          go_meet
          case rel => exact ⟨_, (decide (a2 > 32)), (by first | rfl | (simp; done) | (simp [*]; done)), H', ⟨by first | omega | exact Nat.le_refl _⟩, by repeat (first | exact Drawn0.refl _ | apply Drawn0.step)⟩
  case rest =>
    clear HC4
    try clear c1
    try clear p2
    try clear c5
    try clear c5b0
    try clear c6
    try clear c6b0
    try clear c7
    try clear c7b0
    obtain ⟨kq, x22_3, rfl, HA, HJ3, ⟨mc3, rfl⟩⟩ := hcut
    cases kq with
    | zero => exact absurd HA.out (by simp [dioscuriref5_Bits.j0])
    | succ kj3 =>
      have H := HA.out
      clear HA
      simp only [dioscuriref5_Bits.j0] at H
      by_cases c8 : x22_3 = true
      · subst c8
        have H1 : (some 0) = some r := by rw [if_pos rfl] at H; exact H
        clear H
        have H := H1
        clear H1
        obtain rfl := Option.some.inj H
        go_wp2
        go_ret
        exact ⟨by first | rfl | (simp; done) | (simp [*]; done), by repeat (first | exact Drawn0.refl _ | apply Drawn0.step)⟩
      · replace c8 := Bool.eq_false_iff.mpr c8
        subst c8
        have H1 : (dioscuriref5_Bits.l0 kj3 a0 a1 a2 0 0) = some r := by rw [if_neg (show ¬ (false = true) by decide)] at H; exact H
        clear H
        have H := H1
        clear H1
        have H' := Aside0.mk H
        clear H
        go_wp2
        go_loopg [7, 8] kj3 (fun kq v7 v8 w' => ∃ (x7_2 : Int) (x8_2 : Int), v7 = .int .u32 x7_2 ∧ v8 = .int .i64 x8_2 ∧ Aside0 (dioscuriref5_Bits.l0 kq a0 a1 a2 x7_2 x8_2 = some r) ∧ Aside0 (kq ≤ kj3) ∧ Drawn0 w w')
        case atStart => exact ⟨(0), (0), (by first | rfl | (simp; done) | (simp [*]; done)), (by first | rfl | (simp; done) | (simp [*]; done)), H', ⟨Nat.le_refl _⟩, by repeat (first | exact Drawn0.refl _ | apply Drawn0.step)⟩
        case round =>
          clear H'
          try clear c1
          try clear p2
          try clear c3
          try clear c5
          try clear c5b0
          try clear c6
          try clear c6b0
          try clear c7
          try clear c7b0
          try clear c8
          try clear p2
          obtain ⟨x7_2, x8_2, rfl, rfl, HA, HK2, ⟨m2, rfl⟩⟩ := hrel
          cases gk with
          | zero => exact absurd HA.out (by simp [dioscuriref5_Bits.l0])
          | succ k2 =>
            have H := HA.out
            clear HA
            simp only [dioscuriref5_Bits.l0] at H
            by_cases c9 : x8_2 < a2
            · rw [if_pos c9] at H
              have c9b0 : decide (x8_2 < a2) = true := decide_eq_true c9
              clear c9
              by_cases c10 : (wrap64 (a1 + x8_2)) < 32
              · rw [if_pos c10] at H
                have c10b0 : decide ((wrap64 (a1 + x8_2)) < 32) = true := decide_eq_true c10
                clear c10
                obtain ⟨ji11, hji11⟩ : ∃ j_ : Int, (IntKind.u64.wrap (wrap64 (a1 + x8_2))) = j_ := ⟨_, rfl⟩
                replace H : (if 0 ≤ (ji11) then (if 0 ≤ (IntKind.u64.wrap (x8_2)) then (dioscuriref5_Bits.l0 k2 a0 a1 a2 (Go.bits .or .u32 x7_2 (shl .u32 (Go.bits .and .u32 (shr .u32 a0 (ji11)) 1) (IntKind.u64.wrap (x8_2)))) (wrap64 (x8_2 + 1))) else (none)) else (none)) = some r := by first | (rw [hji11] at H; exact H) | (simp only [hji11] at H ⊢; exact H)
                by_cases c12 : 0 ≤ (ji11)
                · rw [if_pos c12] at H
                  have c12b0 := eq_true c12
                  have c12b1 : decide (0 ≤ (ji11)) = true := decide_eq_true c12
                  clear c12
                  obtain ⟨ji13, hji13⟩ : ∃ j_ : Int, (shr .u32 a0 (ji11)) = j_ := ⟨_, rfl⟩
                  replace H : (if 0 ≤ (IntKind.u64.wrap (x8_2)) then (dioscuriref5_Bits.l0 k2 a0 a1 a2 (Go.bits .or .u32 x7_2 (shl .u32 (Go.bits .and .u32 (ji13) 1) (IntKind.u64.wrap (x8_2)))) (wrap64 (x8_2 + 1))) else (none)) = some r := by first | (rw [hji13] at H; exact H) | (simp only [hji13] at H ⊢; exact H)
                  have hji13_ : (a0 / 2 ^ min (ji11).toNat 32) = ji13 := hji13
                  have hji13z : (ji11) ≤ 32 → (a0 / 2 ^ (ji11).toNat) = ji13 := shr_small hji13
                  obtain ⟨ji14, hji14⟩ : ∃ j_ : Int, (IntKind.u64.wrap (x8_2)) = j_ := ⟨_, rfl⟩
                  replace H : (if 0 ≤ (ji14) then (dioscuriref5_Bits.l0 k2 a0 a1 a2 (Go.bits .or .u32 x7_2 (shl .u32 (Go.bits .and .u32 (ji13) 1) (ji14))) (wrap64 (x8_2 + 1))) else (none)) = some r := by first | (rw [hji14] at H; exact H) | (simp only [hji14] at H ⊢; exact H)
                  by_cases c15 : 0 ≤ (ji14)
                  · rw [if_pos c15] at H
                    have c15b0 := eq_true c15
                    have c15b1 : decide (0 ≤ (ji14)) = true := decide_eq_true c15
                    clear c15
                    obtain ⟨ji16, hji16⟩ : ∃ j_ : Int, (shl .u32 (Go.bits .and .u32 (ji13) 1) (ji14)) = j_ := ⟨_, rfl⟩
                    replace H : (dioscuriref5_Bits.l0 k2 a0 a1 a2 (Go.bits .or .u32 x7_2 (ji16)) (wrap64 (x8_2 + 1))) = some r := by first | (rw [hji16] at H; exact H) | (simp only [hji16] at H ⊢; exact H)
                    have hji16_ : (IntKind.u32.wrap ((Go.bits .and .u32 (ji13) 1) * 2 ^ min (ji14).toNat 32)) = ji16 := hji16
                    have hji16z : (ji14) ≤ 32 → (IntKind.u32.wrap ((Go.bits .and .u32 (ji13) 1) * 2 ^ (ji14).toNat)) = ji16 := shl_small hji16
                    have H' := Aside0.mk H
                    clear H
                    go_wp2
                    go_roundg k2
                    case measure => have := HJ3.out; have := HK2.out; omega
                    case rel => exact ⟨(Go.bits .or .u32 x7_2 (ji16)), (wrap64 (x8_2 + 1)), (by first | rfl | (simp; done) | (simp only [← hji16] <;> (first | rfl | simp)) | (simp [*]; done)), (by first | rfl | (simp; done) | (simp [*]; done)), H', ⟨by have := HJ3.out; have := HK2.out; omega⟩, by repeat (first | exact Drawn0.refl _ | apply Drawn0.step)⟩
                  · rw [if_neg c15] at H
                    exact absurd H (by simp)
                · rw [if_neg c12] at H
                  exact absurd H (by simp)
              · rw [if_neg c10] at H
                have c10b0 : decide ((wrap64 (a1 + x8_2)) < 32) = false := decide_eq_false c10
                clear c10
                obtain rfl := Option.some.inj H
                go_wp2
                go_ret
                exact ⟨by first | rfl | (simp; done) | (simp [*]; done), by repeat (first | exact Drawn0.refl _ | apply Drawn0.step)⟩
            · rw [if_neg c9] at H
              have c9b0 : decide (x8_2 < a2) = false := decide_eq_false c9
              clear c9
              obtain rfl := Option.some.inj H
              go_wp2
              go_ret
              exact ⟨by first | rfl | (simp; done) | (simp [*]; done), by repeat (first | exact Drawn0.refl _ | apply Drawn0.step)⟩

/-! ### dioscuriref5_Sign: function 18 -/
def dioscuriref5_Sign.f (a0 : Int) (a1 : Int) : Option (Int) := if a1 < 1 then (some 0) else (if a1 > 32 then (some 0) else (if 0 ≤ (IntKind.u64.wrap (wrap64 (32 - a1))) then (some (shr .i32 (wrap32 (shl .u32 a0 (IntKind.u64.wrap (wrap64 (32 - a1))))) (IntKind.u64.wrap (wrap64 (32 - a1))))) else (none)))
set_option maxHeartbeats 8000000 in
set_option maxRecDepth 100000 in
theorem dioscuriref5_Sign.calls (a0 : Int) (a1 : Int) (r : Int) (w : World) (h : dioscuriref5_Sign.f a0 a1 = some r) :
    Calls Try.prog 18 #[.int .u32 a0, .int .i64 a1] w fun e w' => e = .returned (.int .i32 r) ∧ Drawn0 w w' := by
  have H : (if a1 < 1 then (some 0) else (if a1 > 32 then (some 0) else (if 0 ≤ (IntKind.u64.wrap (wrap64 (32 - a1))) then (some (shr .i32 (wrap32 (shl .u32 a0 (IntKind.u64.wrap (wrap64 (32 - a1))))) (IntKind.u64.wrap (wrap64 (32 - a1))))) else (none)))) = some r := h
  clear h
  by_cases c3 : a1 < 1
  · rw [if_pos c3] at H
    have c3b0 : decide (a1 < 1) = true := decide_eq_true c3
    clear c3
    obtain rfl := Option.some.inj H
    go_enter Try.func18, Try.ntmps18
    go_wp2
    go_ret
    exact ⟨by first | rfl | (simp; done) | (simp [*]; done), by repeat (first | exact Drawn0.refl _ | apply Drawn0.step)⟩
  · rw [if_neg c3] at H
    have c3b0 : decide (a1 < 1) = false := decide_eq_false c3
    clear c3
    by_cases c4 : a1 > 32
    · rw [if_pos c4] at H
      have c4b0 : decide (32 < a1) = true := decide_eq_true c4
      clear c4
      obtain rfl := Option.some.inj H
      go_enter Try.func18, Try.ntmps18
      go_wp2
      go_ret
      exact ⟨by first | rfl | (simp; done) | (simp [*]; done), by repeat (first | exact Drawn0.refl _ | apply Drawn0.step)⟩
    · rw [if_neg c4] at H
      have c4b0 : decide (32 < a1) = false := decide_eq_false c4
      clear c4
      obtain ⟨ji5, hji5⟩ : ∃ j_ : Int, (IntKind.u64.wrap (wrap64 (32 - a1))) = j_ := ⟨_, rfl⟩
      replace H : (if 0 ≤ (ji5) then (some (shr .i32 (wrap32 (shl .u32 a0 (ji5))) (ji5))) else (none)) = some r := by first | (rw [hji5] at H; exact H) | (simp only [hji5] at H ⊢; exact H)
      by_cases c6 : 0 ≤ (ji5)
      · rw [if_pos c6] at H
        have c6b0 := eq_true c6
        have c6b1 : decide (0 ≤ (ji5)) = true := decide_eq_true c6
        clear c6
        obtain ⟨ji7, hji7⟩ : ∃ j_ : Int, (shl .u32 a0 (ji5)) = j_ := ⟨_, rfl⟩
        replace H : (some (shr .i32 (wrap32 (ji7)) (ji5))) = some r := by first | (rw [hji7] at H; exact H) | (simp only [hji7] at H ⊢; exact H)
        have hji7_ : (IntKind.u32.wrap (a0 * 2 ^ min (ji5).toNat 32)) = ji7 := hji7
        have hji7z : (ji5) ≤ 32 → (IntKind.u32.wrap (a0 * 2 ^ (ji5).toNat)) = ji7 := shl_small hji7
        have c8b0 := eq_true (of_decide_eq_true (by first | (with_reducible assumption) | assumption) : 0 ≤ (ji5))
        obtain ⟨ji9, hji9⟩ : ∃ j_ : Int, (shr .i32 (wrap32 (ji7)) (ji5)) = j_ := ⟨_, rfl⟩
        replace H : (some ji9) = some r := by first | (rw [hji9] at H; exact H) | (simp only [hji9] at H ⊢; exact H)
        have hji9_ : ((wrap32 (ji7)) / 2 ^ min (ji5).toNat 32) = ji9 := hji9
        have hji9z : (ji5) ≤ 32 → ((wrap32 (ji7)) / 2 ^ (ji5).toNat) = ji9 := shr_small hji9
        obtain rfl := Option.some.inj H
        go_enter Try.func18, Try.ntmps18
        go_wp2
        go_ret
        exact ⟨by first | rfl | (simp; done) | (simp only [← hji5, ← hji7, ← hji9] <;> (first | rfl | simp)) | (simp [*]; done), by repeat (first | exact Drawn0.refl _ | apply Drawn0.step)⟩
      · rw [if_neg c6] at H
        exact absurd H (by simp)

/-! ### dioscuriref5_ImmI: function 19 -/
def dioscuriref5_ImmI.f (k : Nat) (a0 : Int) : Option (Int) := (dioscuriref5_Bits.f k a0 20 12).bind fun t122 => ((dioscuriref5_Sign.f t122 12).bind fun t123 => (some t123))
theorem dioscuriref5_ImmI.mono : ∀ a0 k, LeO (dioscuriref5_ImmI.f k a0) (dioscuriref5_ImmI.f (k + 1) a0) := by
  intro a0 k
  unfold dioscuriref5_ImmI.f
  repeat' first
      | (with_reducible exact dioscuriref5_Bits.mono _ _ _ _)
      | (with_reducible exact LeO.refl _)
      | (with_reducible exact LeO.none _)
      | (with_reducible refine LeO.ite ?_ ?_)
      | (with_reducible refine LeO.bind ?_ (fun _ => ?_))
      | exact dioscuriref5_Bits.mono _ _ _ _
      | exact LeO.none _
      | refine LeO.ite ?_ ?_
      | refine LeO.bind ?_ (fun _ => ?_)
set_option maxHeartbeats 8000000 in
set_option maxRecDepth 100000 in
theorem dioscuriref5_ImmI.calls (k : Nat) (a0 : Int) (r : Int) (w : World) (h : dioscuriref5_ImmI.f k a0 = some r) :
    Calls Try.prog 19 #[.int .u32 a0] w fun e w' => e = .returned (.int .i32 r) ∧ Drawn0 w w' := by
  have H : ((dioscuriref5_Bits.f k a0 20 12).bind fun t122 => ((dioscuriref5_Sign.f t122 12).bind fun t123 => (some t123))) = some r := h
  clear h
  replace H := Option.bind_eq_some_iff.mp H
  obtain ⟨t122, A20, H⟩ := H
  replace H : ((dioscuriref5_Sign.f t122 12).bind fun t123 => (some t123)) = some r := H
  have A2 := Aside0.mk A20
  clear A20
  replace H := Option.bind_eq_some_iff.mp H
  obtain ⟨t123, A30, H⟩ := H
  replace H : (some t123) = some r := H
  have A3 := Aside0.mk A30
  clear A30
  obtain rfl := Option.some.inj H
  go_enter Try.func19, Try.ntmps19
  go_wp2_with (first | ((with_reducible refine gate_callee (f := 17) rfl ?_); refine goesL_ (some 4) rfl rfl Try.func17 (by kernel_rfl) rfl #[.int .u32 a0, .int .i64 20, .int .i64 12] rfl (by (try simp only [List.map_toArray, List.map_cons, List.map_nil]); first | done | rfl | (simp only [List.length_drop, List.length_take]; rfl)) ?_; (with_reducible refine (dioscuriref5_Bits.calls k a0 20 12 t122 _ A2.out).mono ?_); rintro e w' ⟨rfl, ⟨nd, rfl⟩⟩; refine ⟨_, rfl, ?_⟩) | ((with_reducible refine gate_callee (f := 18) rfl ?_); refine goesL_ (some 5) rfl rfl Try.func18 (by kernel_rfl) rfl #[.int .u32 t122, .int .i64 12] rfl (by (try simp only [List.map_toArray, List.map_cons, List.map_nil]); first | done | rfl | (simp only [List.length_drop, List.length_take]; rfl)) ?_; (with_reducible refine (dioscuriref5_Sign.calls t122 12 t123 _ A3.out).mono ?_); rintro e w' ⟨rfl, ⟨nd, rfl⟩⟩; refine ⟨_, rfl, ?_⟩))
  go_ret
  exact ⟨by first | rfl | (simp; done) | (simp [*]; done), by repeat (first | exact Drawn0.refl _ | apply Drawn0.step)⟩

/-! ### dioscuriref5_ImmS: function 20 -/
def dioscuriref5_ImmS.f (k : Nat) (a0 : Int) : Option (Int) := (dioscuriref5_Bits.f k a0 25 7).bind fun t124 => ((dioscuriref5_Bits.f k a0 7 5).bind fun t125 => ((dioscuriref5_Sign.f (Go.bits .or .u32 ((t124 * 32) % 4294967296) t125) 12).bind fun t126 => (some t126)))
theorem dioscuriref5_ImmS.mono : ∀ a0 k, LeO (dioscuriref5_ImmS.f k a0) (dioscuriref5_ImmS.f (k + 1) a0) := by
  intro a0 k
  unfold dioscuriref5_ImmS.f
  repeat' first
      | (with_reducible exact dioscuriref5_Bits.mono _ _ _ _)
      | (with_reducible exact LeO.refl _)
      | (with_reducible exact LeO.none _)
      | (with_reducible refine LeO.ite ?_ ?_)
      | (with_reducible refine LeO.bind ?_ (fun _ => ?_))
      | exact dioscuriref5_Bits.mono _ _ _ _
      | exact LeO.none _
      | refine LeO.ite ?_ ?_
      | refine LeO.bind ?_ (fun _ => ?_)
set_option maxHeartbeats 8000000 in
set_option maxRecDepth 100000 in
theorem dioscuriref5_ImmS.calls (k : Nat) (a0 : Int) (r : Int) (w : World) (h : dioscuriref5_ImmS.f k a0 = some r) :
    Calls Try.prog 20 #[.int .u32 a0] w fun e w' => e = .returned (.int .i32 r) ∧ Drawn0 w w' := by
  have H : ((dioscuriref5_Bits.f k a0 25 7).bind fun t124 => ((dioscuriref5_Bits.f k a0 7 5).bind fun t125 => ((dioscuriref5_Sign.f (Go.bits .or .u32 ((t124 * 32) % 4294967296) t125) 12).bind fun t126 => (some t126)))) = some r := h
  clear h
  replace H := Option.bind_eq_some_iff.mp H
  obtain ⟨t124, A20, H⟩ := H
  replace H : ((dioscuriref5_Bits.f k a0 7 5).bind fun t125 => ((dioscuriref5_Sign.f (Go.bits .or .u32 ((t124 * 32) % 4294967296) t125) 12).bind fun t126 => (some t126))) = some r := H
  have A2 := Aside0.mk A20
  clear A20
  replace H := Option.bind_eq_some_iff.mp H
  obtain ⟨t125, A30, H⟩ := H
  replace H : ((dioscuriref5_Sign.f (Go.bits .or .u32 ((t124 * 32) % 4294967296) t125) 12).bind fun t126 => (some t126)) = some r := H
  have A3 := Aside0.mk A30
  clear A30
  replace H := Option.bind_eq_some_iff.mp H
  obtain ⟨t126, A40, H⟩ := H
  replace H : (some t126) = some r := H
  have A4 := Aside0.mk A40
  clear A40
  obtain rfl := Option.some.inj H
  go_enter Try.func20, Try.ntmps20
  go_wp2_with (first | ((with_reducible refine gate_callee (f := 17) rfl ?_); refine goesL_ (some 4) rfl rfl Try.func17 (by kernel_rfl) rfl #[.int .u32 a0, .int .i64 25, .int .i64 7] rfl (by (try simp only [List.map_toArray, List.map_cons, List.map_nil]); first | done | rfl | (simp only [List.length_drop, List.length_take]; rfl)) ?_; (with_reducible refine (dioscuriref5_Bits.calls k a0 25 7 t124 _ A2.out).mono ?_); rintro e w' ⟨rfl, ⟨nd, rfl⟩⟩; refine ⟨_, rfl, ?_⟩) | ((with_reducible refine gate_callee (f := 17) rfl ?_); refine goesL_ (some 7) rfl rfl Try.func17 (by kernel_rfl) rfl #[.int .u32 a0, .int .i64 7, .int .i64 5] rfl (by (try simp only [List.map_toArray, List.map_cons, List.map_nil]); first | done | rfl | (simp only [List.length_drop, List.length_take]; rfl)) ?_; (with_reducible refine (dioscuriref5_Bits.calls k a0 7 5 t125 _ A3.out).mono ?_); rintro e w' ⟨rfl, ⟨nd, rfl⟩⟩; refine ⟨_, rfl, ?_⟩) | ((with_reducible refine gate_callee (f := 18) rfl ?_); refine goesL_ (some 9) rfl rfl Try.func18 (by kernel_rfl) rfl #[.int .u32 (Go.bits .or .u32 ((t124 * 32) % 4294967296) t125), .int .i64 12] rfl (by (try simp only [List.map_toArray, List.map_cons, List.map_nil]); first | done | rfl | (simp only [List.length_drop, List.length_take]; rfl)) ?_; (with_reducible refine (dioscuriref5_Sign.calls (Go.bits .or .u32 ((t124 * 32) % 4294967296) t125) 12 t126 _ A4.out).mono ?_); rintro e w' ⟨rfl, ⟨nd, rfl⟩⟩; refine ⟨_, rfl, ?_⟩))
  go_ret
  exact ⟨by first | rfl | (simp; done) | (simp [*]; done), by repeat (first | exact Drawn0.refl _ | apply Drawn0.step)⟩

/-! ### dioscuriref5_ImmB: function 21 -/
def dioscuriref5_ImmB.f (k : Nat) (a0 : Int) : Option (Int) := (dioscuriref5_Bits.f k a0 31 1).bind fun t127 => ((dioscuriref5_Bits.f k a0 7 1).bind fun t128 => ((dioscuriref5_Bits.f k a0 25 6).bind fun t129 => ((dioscuriref5_Bits.f k a0 8 4).bind fun t130 => ((dioscuriref5_Sign.f (Go.bits .or .u32 (Go.bits .or .u32 (Go.bits .or .u32 ((t127 * 4096) % 4294967296) ((t128 * 2048) % 4294967296)) ((t129 * 32) % 4294967296)) ((t130 * 2) % 4294967296)) 13).bind fun t131 => (some t131)))))
theorem dioscuriref5_ImmB.mono : ∀ a0 k, LeO (dioscuriref5_ImmB.f k a0) (dioscuriref5_ImmB.f (k + 1) a0) := by
  intro a0 k
  unfold dioscuriref5_ImmB.f
  repeat' first
      | (with_reducible exact dioscuriref5_Bits.mono _ _ _ _)
      | (with_reducible exact LeO.refl _)
      | (with_reducible exact LeO.none _)
      | (with_reducible refine LeO.ite ?_ ?_)
      | (with_reducible refine LeO.bind ?_ (fun _ => ?_))
      | exact dioscuriref5_Bits.mono _ _ _ _
      | exact LeO.none _
      | refine LeO.ite ?_ ?_
      | refine LeO.bind ?_ (fun _ => ?_)
set_option maxHeartbeats 8000000 in
set_option maxRecDepth 100000 in
theorem dioscuriref5_ImmB.calls (k : Nat) (a0 : Int) (r : Int) (w : World) (h : dioscuriref5_ImmB.f k a0 = some r) :
    Calls Try.prog 21 #[.int .u32 a0] w fun e w' => e = .returned (.int .i32 r) ∧ Drawn0 w w' := by
  have H : ((dioscuriref5_Bits.f k a0 31 1).bind fun t127 => ((dioscuriref5_Bits.f k a0 7 1).bind fun t128 => ((dioscuriref5_Bits.f k a0 25 6).bind fun t129 => ((dioscuriref5_Bits.f k a0 8 4).bind fun t130 => ((dioscuriref5_Sign.f (Go.bits .or .u32 (Go.bits .or .u32 (Go.bits .or .u32 ((t127 * 4096) % 4294967296) ((t128 * 2048) % 4294967296)) ((t129 * 32) % 4294967296)) ((t130 * 2) % 4294967296)) 13).bind fun t131 => (some t131)))))) = some r := h
  clear h
  replace H := Option.bind_eq_some_iff.mp H
  obtain ⟨t127, A20, H⟩ := H
  replace H : ((dioscuriref5_Bits.f k a0 7 1).bind fun t128 => ((dioscuriref5_Bits.f k a0 25 6).bind fun t129 => ((dioscuriref5_Bits.f k a0 8 4).bind fun t130 => ((dioscuriref5_Sign.f (Go.bits .or .u32 (Go.bits .or .u32 (Go.bits .or .u32 ((t127 * 4096) % 4294967296) ((t128 * 2048) % 4294967296)) ((t129 * 32) % 4294967296)) ((t130 * 2) % 4294967296)) 13).bind fun t131 => (some t131))))) = some r := H
  have A2 := Aside0.mk A20
  clear A20
  replace H := Option.bind_eq_some_iff.mp H
  obtain ⟨t128, A30, H⟩ := H
  replace H : ((dioscuriref5_Bits.f k a0 25 6).bind fun t129 => ((dioscuriref5_Bits.f k a0 8 4).bind fun t130 => ((dioscuriref5_Sign.f (Go.bits .or .u32 (Go.bits .or .u32 (Go.bits .or .u32 ((t127 * 4096) % 4294967296) ((t128 * 2048) % 4294967296)) ((t129 * 32) % 4294967296)) ((t130 * 2) % 4294967296)) 13).bind fun t131 => (some t131)))) = some r := H
  have A3 := Aside0.mk A30
  clear A30
  replace H := Option.bind_eq_some_iff.mp H
  obtain ⟨t129, A40, H⟩ := H
  replace H : ((dioscuriref5_Bits.f k a0 8 4).bind fun t130 => ((dioscuriref5_Sign.f (Go.bits .or .u32 (Go.bits .or .u32 (Go.bits .or .u32 ((t127 * 4096) % 4294967296) ((t128 * 2048) % 4294967296)) ((t129 * 32) % 4294967296)) ((t130 * 2) % 4294967296)) 13).bind fun t131 => (some t131))) = some r := H
  have A4 := Aside0.mk A40
  clear A40
  replace H := Option.bind_eq_some_iff.mp H
  obtain ⟨t130, A50, H⟩ := H
  replace H : ((dioscuriref5_Sign.f (Go.bits .or .u32 (Go.bits .or .u32 (Go.bits .or .u32 ((t127 * 4096) % 4294967296) ((t128 * 2048) % 4294967296)) ((t129 * 32) % 4294967296)) ((t130 * 2) % 4294967296)) 13).bind fun t131 => (some t131)) = some r := H
  have A5 := Aside0.mk A50
  clear A50
  replace H := Option.bind_eq_some_iff.mp H
  obtain ⟨t131, A60, H⟩ := H
  replace H : (some t131) = some r := H
  have A6 := Aside0.mk A60
  clear A60
  obtain rfl := Option.some.inj H
  go_enter Try.func21, Try.ntmps21
  go_wp2_with (first | ((with_reducible refine gate_callee (f := 17) rfl ?_); refine goesL_ (some 4) rfl rfl Try.func17 (by kernel_rfl) rfl #[.int .u32 a0, .int .i64 31, .int .i64 1] rfl (by (try simp only [List.map_toArray, List.map_cons, List.map_nil]); first | done | rfl | (simp only [List.length_drop, List.length_take]; rfl)) ?_; (with_reducible refine (dioscuriref5_Bits.calls k a0 31 1 t127 _ A2.out).mono ?_); rintro e w' ⟨rfl, ⟨nd, rfl⟩⟩; refine ⟨_, rfl, ?_⟩) | ((with_reducible refine gate_callee (f := 17) rfl ?_); refine goesL_ (some 7) rfl rfl Try.func17 (by kernel_rfl) rfl #[.int .u32 a0, .int .i64 7, .int .i64 1] rfl (by (try simp only [List.map_toArray, List.map_cons, List.map_nil]); first | done | rfl | (simp only [List.length_drop, List.length_take]; rfl)) ?_; (with_reducible refine (dioscuriref5_Bits.calls k a0 7 1 t128 _ A3.out).mono ?_); rintro e w' ⟨rfl, ⟨nd, rfl⟩⟩; refine ⟨_, rfl, ?_⟩) | ((with_reducible refine gate_callee (f := 17) rfl ?_); refine goesL_ (some 11) rfl rfl Try.func17 (by kernel_rfl) rfl #[.int .u32 a0, .int .i64 25, .int .i64 6] rfl (by (try simp only [List.map_toArray, List.map_cons, List.map_nil]); first | done | rfl | (simp only [List.length_drop, List.length_take]; rfl)) ?_; (with_reducible refine (dioscuriref5_Bits.calls k a0 25 6 t129 _ A4.out).mono ?_); rintro e w' ⟨rfl, ⟨nd, rfl⟩⟩; refine ⟨_, rfl, ?_⟩) | ((with_reducible refine gate_callee (f := 17) rfl ?_); refine goesL_ (some 15) rfl rfl Try.func17 (by kernel_rfl) rfl #[.int .u32 a0, .int .i64 8, .int .i64 4] rfl (by (try simp only [List.map_toArray, List.map_cons, List.map_nil]); first | done | rfl | (simp only [List.length_drop, List.length_take]; rfl)) ?_; (with_reducible refine (dioscuriref5_Bits.calls k a0 8 4 t130 _ A5.out).mono ?_); rintro e w' ⟨rfl, ⟨nd, rfl⟩⟩; refine ⟨_, rfl, ?_⟩) | ((with_reducible refine gate_callee (f := 18) rfl ?_); refine goesL_ (some 18) rfl rfl Try.func18 (by kernel_rfl) rfl #[.int .u32 (Go.bits .or .u32 (Go.bits .or .u32 (Go.bits .or .u32 ((t127 * 4096) % 4294967296) ((t128 * 2048) % 4294967296)) ((t129 * 32) % 4294967296)) ((t130 * 2) % 4294967296)), .int .i64 13] rfl (by (try simp only [List.map_toArray, List.map_cons, List.map_nil]); first | done | rfl | (simp only [List.length_drop, List.length_take]; rfl)) ?_; (with_reducible refine (dioscuriref5_Sign.calls (Go.bits .or .u32 (Go.bits .or .u32 (Go.bits .or .u32 ((t127 * 4096) % 4294967296) ((t128 * 2048) % 4294967296)) ((t129 * 32) % 4294967296)) ((t130 * 2) % 4294967296)) 13 t131 _ A6.out).mono ?_); rintro e w' ⟨rfl, ⟨nd, rfl⟩⟩; refine ⟨_, rfl, ?_⟩))
  go_ret
  exact ⟨by first | rfl | (simp; done) | (simp [*]; done), by repeat (first | exact Drawn0.refl _ | apply Drawn0.step)⟩

/-! ### dioscuriref5_ImmU: function 22 -/
def dioscuriref5_ImmU.f (a0 : Int) : Option (Int) := some (wrap32 (Go.bits .andNot .u32 a0 4095))
set_option maxHeartbeats 8000000 in
set_option maxRecDepth 100000 in
theorem dioscuriref5_ImmU.calls (a0 : Int) (r : Int) (w : World) (h : dioscuriref5_ImmU.f a0 = some r) :
    Calls Try.prog 22 #[.int .u32 a0] w fun e w' => e = .returned (.int .i32 r) ∧ Drawn0 w w' := by
  have H : (some (wrap32 (Go.bits .andNot .u32 a0 4095))) = some r := h
  clear h
  obtain rfl := Option.some.inj H
  go_enter Try.func22, Try.ntmps22
  go_wp2
  go_ret
  exact ⟨by first | rfl | (simp; done) | (simp [*]; done), by repeat (first | exact Drawn0.refl _ | apply Drawn0.step)⟩

/-! ### dioscuriref5_ImmJ: function 23 -/
def dioscuriref5_ImmJ.f (k : Nat) (a0 : Int) : Option (Int) := (dioscuriref5_Bits.f k a0 31 1).bind fun t132 => ((dioscuriref5_Bits.f k a0 12 8).bind fun t133 => ((dioscuriref5_Bits.f k a0 20 1).bind fun t134 => ((dioscuriref5_Bits.f k a0 21 10).bind fun t135 => ((dioscuriref5_Sign.f (Go.bits .or .u32 (Go.bits .or .u32 (Go.bits .or .u32 ((t132 * 1048576) % 4294967296) ((t133 * 4096) % 4294967296)) ((t134 * 2048) % 4294967296)) ((t135 * 2) % 4294967296)) 21).bind fun t136 => (some t136)))))
theorem dioscuriref5_ImmJ.mono : ∀ a0 k, LeO (dioscuriref5_ImmJ.f k a0) (dioscuriref5_ImmJ.f (k + 1) a0) := by
  intro a0 k
  unfold dioscuriref5_ImmJ.f
  repeat' first
      | (with_reducible exact dioscuriref5_Bits.mono _ _ _ _)
      | (with_reducible exact LeO.refl _)
      | (with_reducible exact LeO.none _)
      | (with_reducible refine LeO.ite ?_ ?_)
      | (with_reducible refine LeO.bind ?_ (fun _ => ?_))
      | exact dioscuriref5_Bits.mono _ _ _ _
      | exact LeO.none _
      | refine LeO.ite ?_ ?_
      | refine LeO.bind ?_ (fun _ => ?_)
set_option maxHeartbeats 8000000 in
set_option maxRecDepth 100000 in
theorem dioscuriref5_ImmJ.calls (k : Nat) (a0 : Int) (r : Int) (w : World) (h : dioscuriref5_ImmJ.f k a0 = some r) :
    Calls Try.prog 23 #[.int .u32 a0] w fun e w' => e = .returned (.int .i32 r) ∧ Drawn0 w w' := by
  have H : ((dioscuriref5_Bits.f k a0 31 1).bind fun t132 => ((dioscuriref5_Bits.f k a0 12 8).bind fun t133 => ((dioscuriref5_Bits.f k a0 20 1).bind fun t134 => ((dioscuriref5_Bits.f k a0 21 10).bind fun t135 => ((dioscuriref5_Sign.f (Go.bits .or .u32 (Go.bits .or .u32 (Go.bits .or .u32 ((t132 * 1048576) % 4294967296) ((t133 * 4096) % 4294967296)) ((t134 * 2048) % 4294967296)) ((t135 * 2) % 4294967296)) 21).bind fun t136 => (some t136)))))) = some r := h
  clear h
  replace H := Option.bind_eq_some_iff.mp H
  obtain ⟨t132, A20, H⟩ := H
  replace H : ((dioscuriref5_Bits.f k a0 12 8).bind fun t133 => ((dioscuriref5_Bits.f k a0 20 1).bind fun t134 => ((dioscuriref5_Bits.f k a0 21 10).bind fun t135 => ((dioscuriref5_Sign.f (Go.bits .or .u32 (Go.bits .or .u32 (Go.bits .or .u32 ((t132 * 1048576) % 4294967296) ((t133 * 4096) % 4294967296)) ((t134 * 2048) % 4294967296)) ((t135 * 2) % 4294967296)) 21).bind fun t136 => (some t136))))) = some r := H
  have A2 := Aside0.mk A20
  clear A20
  replace H := Option.bind_eq_some_iff.mp H
  obtain ⟨t133, A30, H⟩ := H
  replace H : ((dioscuriref5_Bits.f k a0 20 1).bind fun t134 => ((dioscuriref5_Bits.f k a0 21 10).bind fun t135 => ((dioscuriref5_Sign.f (Go.bits .or .u32 (Go.bits .or .u32 (Go.bits .or .u32 ((t132 * 1048576) % 4294967296) ((t133 * 4096) % 4294967296)) ((t134 * 2048) % 4294967296)) ((t135 * 2) % 4294967296)) 21).bind fun t136 => (some t136)))) = some r := H
  have A3 := Aside0.mk A30
  clear A30
  replace H := Option.bind_eq_some_iff.mp H
  obtain ⟨t134, A40, H⟩ := H
  replace H : ((dioscuriref5_Bits.f k a0 21 10).bind fun t135 => ((dioscuriref5_Sign.f (Go.bits .or .u32 (Go.bits .or .u32 (Go.bits .or .u32 ((t132 * 1048576) % 4294967296) ((t133 * 4096) % 4294967296)) ((t134 * 2048) % 4294967296)) ((t135 * 2) % 4294967296)) 21).bind fun t136 => (some t136))) = some r := H
  have A4 := Aside0.mk A40
  clear A40
  replace H := Option.bind_eq_some_iff.mp H
  obtain ⟨t135, A50, H⟩ := H
  replace H : ((dioscuriref5_Sign.f (Go.bits .or .u32 (Go.bits .or .u32 (Go.bits .or .u32 ((t132 * 1048576) % 4294967296) ((t133 * 4096) % 4294967296)) ((t134 * 2048) % 4294967296)) ((t135 * 2) % 4294967296)) 21).bind fun t136 => (some t136)) = some r := H
  have A5 := Aside0.mk A50
  clear A50
  replace H := Option.bind_eq_some_iff.mp H
  obtain ⟨t136, A60, H⟩ := H
  replace H : (some t136) = some r := H
  have A6 := Aside0.mk A60
  clear A60
  obtain rfl := Option.some.inj H
  go_enter Try.func23, Try.ntmps23
  go_wp2_with (first | ((with_reducible refine gate_callee (f := 17) rfl ?_); refine goesL_ (some 4) rfl rfl Try.func17 (by kernel_rfl) rfl #[.int .u32 a0, .int .i64 31, .int .i64 1] rfl (by (try simp only [List.map_toArray, List.map_cons, List.map_nil]); first | done | rfl | (simp only [List.length_drop, List.length_take]; rfl)) ?_; (with_reducible refine (dioscuriref5_Bits.calls k a0 31 1 t132 _ A2.out).mono ?_); rintro e w' ⟨rfl, ⟨nd, rfl⟩⟩; refine ⟨_, rfl, ?_⟩) | ((with_reducible refine gate_callee (f := 17) rfl ?_); refine goesL_ (some 7) rfl rfl Try.func17 (by kernel_rfl) rfl #[.int .u32 a0, .int .i64 12, .int .i64 8] rfl (by (try simp only [List.map_toArray, List.map_cons, List.map_nil]); first | done | rfl | (simp only [List.length_drop, List.length_take]; rfl)) ?_; (with_reducible refine (dioscuriref5_Bits.calls k a0 12 8 t133 _ A3.out).mono ?_); rintro e w' ⟨rfl, ⟨nd, rfl⟩⟩; refine ⟨_, rfl, ?_⟩) | ((with_reducible refine gate_callee (f := 17) rfl ?_); refine goesL_ (some 11) rfl rfl Try.func17 (by kernel_rfl) rfl #[.int .u32 a0, .int .i64 20, .int .i64 1] rfl (by (try simp only [List.map_toArray, List.map_cons, List.map_nil]); first | done | rfl | (simp only [List.length_drop, List.length_take]; rfl)) ?_; (with_reducible refine (dioscuriref5_Bits.calls k a0 20 1 t134 _ A4.out).mono ?_); rintro e w' ⟨rfl, ⟨nd, rfl⟩⟩; refine ⟨_, rfl, ?_⟩) | ((with_reducible refine gate_callee (f := 17) rfl ?_); refine goesL_ (some 15) rfl rfl Try.func17 (by kernel_rfl) rfl #[.int .u32 a0, .int .i64 21, .int .i64 10] rfl (by (try simp only [List.map_toArray, List.map_cons, List.map_nil]); first | done | rfl | (simp only [List.length_drop, List.length_take]; rfl)) ?_; (with_reducible refine (dioscuriref5_Bits.calls k a0 21 10 t135 _ A5.out).mono ?_); rintro e w' ⟨rfl, ⟨nd, rfl⟩⟩; refine ⟨_, rfl, ?_⟩) | ((with_reducible refine gate_callee (f := 18) rfl ?_); refine goesL_ (some 18) rfl rfl Try.func18 (by kernel_rfl) rfl #[.int .u32 (Go.bits .or .u32 (Go.bits .or .u32 (Go.bits .or .u32 ((t132 * 1048576) % 4294967296) ((t133 * 4096) % 4294967296)) ((t134 * 2048) % 4294967296)) ((t135 * 2) % 4294967296)), .int .i64 21] rfl (by (try simp only [List.map_toArray, List.map_cons, List.map_nil]); first | done | rfl | (simp only [List.length_drop, List.length_take]; rfl)) ?_; (with_reducible refine (dioscuriref5_Sign.calls (Go.bits .or .u32 (Go.bits .or .u32 (Go.bits .or .u32 ((t132 * 1048576) % 4294967296) ((t133 * 4096) % 4294967296)) ((t134 * 2048) % 4294967296)) ((t135 * 2) % 4294967296)) 21 t136 _ A6.out).mono ?_); rintro e w' ⟨rfl, ⟨nd, rfl⟩⟩; refine ⟨_, rfl, ?_⟩))
  go_ret
  exact ⟨by first | rfl | (simp; done) | (simp [*]; done), by repeat (first | exact Drawn0.refl _ | apply Drawn0.step)⟩

end Go.Proofs.Ytgkaidjikakpkaa.PFieldTells
