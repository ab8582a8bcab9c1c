/- The contracts of a unit's Result, and of New. -/
import Derived.Test.YtfgemmiahgmmbaaIt
set_option linter.unusedVariables false
set_option linter.unusedSimpArgs false
namespace Go.Proofs.Ytfgemmiahgmmbaa.Un
open Go.RowKit Go.Proofs.Ytfgemmiahgmmbaa.Bv
/-- A number with the answer's sign. -/
def sg (m : Bool) (n : Nat) : Int := if m then (-(n : Int)) % 18446744073709551616 else n
theorem csigned (W : World) (p : Nat) (u : Un) (n : Nat) (h : At W p u) (hn : n < 18446744073709551616) : Calls Try.prog 17 #[.pointer (some ⟨p, 0, none⟩), .int .u64 n] W fun e w' => e = .returned (.int .u64 (sg u.minus n)) ∧ W = w' := by
  have c8 := h.c8
  clear h
  cases hm : u.minus
  all_goals
    rw [hm] at c8
    go_enter Try.func17, Try.ntmps17
    go_wp2
    go_ret
    exact ⟨ret_eq (by unfold sg; simp [wrap_u64]), rfl⟩
theorem csignedV (W : World) (p : Nat) (u : Un) (n : Nat) (r : Int) (hr : sg u.minus n = r) (h : At W p u) (hn : n < 18446744073709551616) : Calls Try.prog 17 #[.pointer (some ⟨p, 0, none⟩), .int .u64 n] W fun e w' => e = .returned (.int .u64 r) ∧ W = w' := by subst hr; exact csigned W p u n h hn
theorem cResult_no (W : World) (p : Nat) (u : Un) (h : At W p u) (hs : ¬ u.steps = 32) : Calls Try.prog 12 #[.pointer (some ⟨p, 0, none⟩)] W fun e w' => e = .returned (.tuple #[.int .u32 0, .bool false]) ∧ W = w' := by
  have hd : (((u.steps : Nat) : Int) == 32) = false := by rw [beq_eq_false_iff_ne]; omega
  have c0 := h.c0
  have H := Lib.hid h
  clear h hs
  go_enter Try.func12, Try.ntmps12
  go_wp2_with fail
  all_goals
    refine (cdone _ p u H.out).mono ?_
    rintro e w' ⟨rfl, rfl⟩
    go_wp2_with fail
    go_ret2
    exact ⟨rfl, rfl⟩
def resV (u : Un) : Int :=
  if u.op = 38 then sg u.minus u.acc % 4294967296
  else if u.op = 39 ∨ u.op = 40 ∨ u.op = 41 then sg u.minus u.acc / 4294967296 % 4294967296
  else if u.b = 0 then (if u.op = 44 ∨ u.op = 45 then u.a else 4294967295)
  else if u.op = 44 ∨ u.op = 45 then sg u.minus u.acc % 4294967296 else sg u.minus u.out % 4294967296
set_option maxHeartbeats 1000000 in
theorem cResult_38 (W : World) (p : Nat) (u : Un) (h : At W p u) (hs : u.steps = 32) (ho : u.op = 38) (hacc : u.acc < 18446744073709551616) (hout : u.out < 18446744073709551616) : Calls Try.prog 12 #[.pointer (some ⟨p, 0, none⟩)] W fun e w' => e = .returned (.tuple #[.int .u32 (resV u), .bool true]) ∧ W = w' := by
  have hd : (((u.steps : Nat) : Int) == 32) = true := by rw [hs]; rfl
  have c0 := h.c0; have c1 := h.c1; have c2 := h.c2; have c5 := h.c5; have c6 := h.c6
  rw [ho] at c0
  obtain ⟨ra, hra⟩ : ∃ r, sg u.minus u.acc = r := ⟨_, rfl⟩
  obtain ⟨ro, hro⟩ : ∃ r, sg u.minus u.out = r := ⟨_, rfl⟩
  have hv : resV u = resV u := rfl
  conv at hv => rhs; unfold resV
  simp only [ho, hra, hro, Int.reduceEq, or_false, false_or, or_self, if_true, if_false, or_true, true_or] at hv
  have HV := Lib.hid hv
  have HRA := Lib.hid hra
  have HRO := Lib.hid hro
  have H := Lib.hid h
  clear h hs ho hra hro hv
  cases hb : ((u.b : Int) == 0)
  all_goals
    go_enter Try.func12, Try.ntmps12
    go_wp2_with fail
    refine (cdone _ p u H.out).mono ?_
    rintro e w' ⟨rfl, rfl⟩
    go_wp2_with (first
      | (go_at_call 14; refine (cwithinV _ _ _ false (by decide) _).mono ?_; rintro e w' ⟨rfl, rfl⟩)
      | (go_at_call 17; first
          | (with_reducible refine (csignedV _ p u u.acc _ HRA.out H.out hacc).mono ?_; rintro e w' ⟨rfl, rfl⟩)
          | (with_reducible refine (csignedV _ p u u.out _ HRO.out H.out hout).mono ?_; rintro e w' ⟨rfl, rfl⟩)))
    go_ret2
    refine ⟨ret_ub ?_ rfl, rfl⟩
    have hb' := hb
    simp at hb'
    rw [HV.out]
    try simp only [hb', if_true, if_false]
set_option maxHeartbeats 1000000 in
theorem cResult_39 (W : World) (p : Nat) (u : Un) (h : At W p u) (hs : u.steps = 32) (ho : u.op = 39) (hacc : u.acc < 18446744073709551616) (hout : u.out < 18446744073709551616) : Calls Try.prog 12 #[.pointer (some ⟨p, 0, none⟩)] W fun e w' => e = .returned (.tuple #[.int .u32 (resV u), .bool true]) ∧ W = w' := by
  have hd : (((u.steps : Nat) : Int) == 32) = true := by rw [hs]; rfl
  have c0 := h.c0; have c1 := h.c1; have c2 := h.c2; have c5 := h.c5; have c6 := h.c6
  rw [ho] at c0
  obtain ⟨ra, hra⟩ : ∃ r, sg u.minus u.acc = r := ⟨_, rfl⟩
  obtain ⟨ro, hro⟩ : ∃ r, sg u.minus u.out = r := ⟨_, rfl⟩
  have hv : resV u = resV u := rfl
  conv at hv => rhs; unfold resV
  simp only [ho, hra, hro, Int.reduceEq, or_false, false_or, or_self, if_true, if_false, or_true, true_or] at hv
  have HV := Lib.hid hv
  have HRA := Lib.hid hra
  have HRO := Lib.hid hro
  have H := Lib.hid h
  clear h hs ho hra hro hv
  cases hb : ((u.b : Int) == 0)
  all_goals
    go_enter Try.func12, Try.ntmps12
    go_wp2_with fail
    refine (cdone _ p u H.out).mono ?_
    rintro e w' ⟨rfl, rfl⟩
    go_wp2_with (first
      | (go_at_call 14; refine (cwithinV _ _ _ true (by decide) _).mono ?_; rintro e w' ⟨rfl, rfl⟩)
      | (go_at_call 17; first
          | (with_reducible refine (csignedV _ p u u.acc _ HRA.out H.out hacc).mono ?_; rintro e w' ⟨rfl, rfl⟩)
          | (with_reducible refine (csignedV _ p u u.out _ HRO.out H.out hout).mono ?_; rintro e w' ⟨rfl, rfl⟩)))
    go_ret2
    refine ⟨ret_ub ?_ rfl, rfl⟩
    have hb' := hb
    simp at hb'
    rw [HV.out]
    try simp only [hb', if_true, if_false]
set_option maxHeartbeats 1000000 in
theorem cResult_40 (W : World) (p : Nat) (u : Un) (h : At W p u) (hs : u.steps = 32) (ho : u.op = 40) (hacc : u.acc < 18446744073709551616) (hout : u.out < 18446744073709551616) : Calls Try.prog 12 #[.pointer (some ⟨p, 0, none⟩)] W fun e w' => e = .returned (.tuple #[.int .u32 (resV u), .bool true]) ∧ W = w' := by
  have hd : (((u.steps : Nat) : Int) == 32) = true := by rw [hs]; rfl
  have c0 := h.c0; have c1 := h.c1; have c2 := h.c2; have c5 := h.c5; have c6 := h.c6
  rw [ho] at c0
  obtain ⟨ra, hra⟩ : ∃ r, sg u.minus u.acc = r := ⟨_, rfl⟩
  obtain ⟨ro, hro⟩ : ∃ r, sg u.minus u.out = r := ⟨_, rfl⟩
  have hv : resV u = resV u := rfl
  conv at hv => rhs; unfold resV
  simp only [ho, hra, hro, Int.reduceEq, or_false, false_or, or_self, if_true, if_false, or_true, true_or] at hv
  have HV := Lib.hid hv
  have HRA := Lib.hid hra
  have HRO := Lib.hid hro
  have H := Lib.hid h
  clear h hs ho hra hro hv
  cases hb : ((u.b : Int) == 0)
  all_goals
    go_enter Try.func12, Try.ntmps12
    go_wp2_with fail
    refine (cdone _ p u H.out).mono ?_
    rintro e w' ⟨rfl, rfl⟩
    go_wp2_with (first
      | (go_at_call 14; refine (cwithinV _ _ _ true (by decide) _).mono ?_; rintro e w' ⟨rfl, rfl⟩)
      | (go_at_call 17; first
          | (with_reducible refine (csignedV _ p u u.acc _ HRA.out H.out hacc).mono ?_; rintro e w' ⟨rfl, rfl⟩)
          | (with_reducible refine (csignedV _ p u u.out _ HRO.out H.out hout).mono ?_; rintro e w' ⟨rfl, rfl⟩)))
    go_ret2
    refine ⟨ret_ub ?_ rfl, rfl⟩
    have hb' := hb
    simp at hb'
    rw [HV.out]
    try simp only [hb', if_true, if_false]
set_option maxHeartbeats 1000000 in
theorem cResult_41 (W : World) (p : Nat) (u : Un) (h : At W p u) (hs : u.steps = 32) (ho : u.op = 41) (hacc : u.acc < 18446744073709551616) (hout : u.out < 18446744073709551616) : Calls Try.prog 12 #[.pointer (some ⟨p, 0, none⟩)] W fun e w' => e = .returned (.tuple #[.int .u32 (resV u), .bool true]) ∧ W = w' := by
  have hd : (((u.steps : Nat) : Int) == 32) = true := by rw [hs]; rfl
  have c0 := h.c0; have c1 := h.c1; have c2 := h.c2; have c5 := h.c5; have c6 := h.c6
  rw [ho] at c0
  obtain ⟨ra, hra⟩ : ∃ r, sg u.minus u.acc = r := ⟨_, rfl⟩
  obtain ⟨ro, hro⟩ : ∃ r, sg u.minus u.out = r := ⟨_, rfl⟩
  have hv : resV u = resV u := rfl
  conv at hv => rhs; unfold resV
  simp only [ho, hra, hro, Int.reduceEq, or_false, false_or, or_self, if_true, if_false, or_true, true_or] at hv
  have HV := Lib.hid hv
  have HRA := Lib.hid hra
  have HRO := Lib.hid hro
  have H := Lib.hid h
  clear h hs ho hra hro hv
  cases hb : ((u.b : Int) == 0)
  all_goals
    go_enter Try.func12, Try.ntmps12
    go_wp2_with fail
    refine (cdone _ p u H.out).mono ?_
    rintro e w' ⟨rfl, rfl⟩
    go_wp2_with (first
      | (go_at_call 14; refine (cwithinV _ _ _ true (by decide) _).mono ?_; rintro e w' ⟨rfl, rfl⟩)
      | (go_at_call 17; first
          | (with_reducible refine (csignedV _ p u u.acc _ HRA.out H.out hacc).mono ?_; rintro e w' ⟨rfl, rfl⟩)
          | (with_reducible refine (csignedV _ p u u.out _ HRO.out H.out hout).mono ?_; rintro e w' ⟨rfl, rfl⟩)))
    go_ret2
    refine ⟨ret_ub ?_ rfl, rfl⟩
    have hb' := hb
    simp at hb'
    rw [HV.out]
    try simp only [hb', if_true, if_false]
set_option maxHeartbeats 1000000 in
theorem cResult_42 (W : World) (p : Nat) (u : Un) (h : At W p u) (hs : u.steps = 32) (ho : u.op = 42) (hacc : u.acc < 18446744073709551616) (hout : u.out < 18446744073709551616) : Calls Try.prog 12 #[.pointer (some ⟨p, 0, none⟩)] W fun e w' => e = .returned (.tuple #[.int .u32 (resV u), .bool true]) ∧ W = w' := by
  have hd : (((u.steps : Nat) : Int) == 32) = true := by rw [hs]; rfl
  have c0 := h.c0; have c1 := h.c1; have c2 := h.c2; have c5 := h.c5; have c6 := h.c6
  rw [ho] at c0
  obtain ⟨ra, hra⟩ : ∃ r, sg u.minus u.acc = r := ⟨_, rfl⟩
  obtain ⟨ro, hro⟩ : ∃ r, sg u.minus u.out = r := ⟨_, rfl⟩
  have hv : resV u = resV u := rfl
  conv at hv => rhs; unfold resV
  simp only [ho, hra, hro, Int.reduceEq, or_false, false_or, or_self, if_true, if_false, or_true, true_or] at hv
  have HV := Lib.hid hv
  have HRA := Lib.hid hra
  have HRO := Lib.hid hro
  have H := Lib.hid h
  clear h hs ho hra hro hv
  cases hb : ((u.b : Int) == 0)
  all_goals
    go_enter Try.func12, Try.ntmps12
    go_wp2_with fail
    refine (cdone _ p u H.out).mono ?_
    rintro e w' ⟨rfl, rfl⟩
    go_wp2_with (first
      | (go_at_call 14; refine (cwithinV _ _ _ false (by decide) _).mono ?_; rintro e w' ⟨rfl, rfl⟩)
      | (go_at_call 17; first
          | (with_reducible refine (csignedV _ p u u.acc _ HRA.out H.out hacc).mono ?_; rintro e w' ⟨rfl, rfl⟩)
          | (with_reducible refine (csignedV _ p u u.out _ HRO.out H.out hout).mono ?_; rintro e w' ⟨rfl, rfl⟩)))
    go_ret2
    refine ⟨ret_ub ?_ rfl, rfl⟩
    have hb' := hb
    simp at hb'
    rw [HV.out]
    try simp only [hb', if_true, if_false]
set_option maxHeartbeats 1000000 in
theorem cResult_43 (W : World) (p : Nat) (u : Un) (h : At W p u) (hs : u.steps = 32) (ho : u.op = 43) (hacc : u.acc < 18446744073709551616) (hout : u.out < 18446744073709551616) : Calls Try.prog 12 #[.pointer (some ⟨p, 0, none⟩)] W fun e w' => e = .returned (.tuple #[.int .u32 (resV u), .bool true]) ∧ W = w' := by
  have hd : (((u.steps : Nat) : Int) == 32) = true := by rw [hs]; rfl
  have c0 := h.c0; have c1 := h.c1; have c2 := h.c2; have c5 := h.c5; have c6 := h.c6
  rw [ho] at c0
  obtain ⟨ra, hra⟩ : ∃ r, sg u.minus u.acc = r := ⟨_, rfl⟩
  obtain ⟨ro, hro⟩ : ∃ r, sg u.minus u.out = r := ⟨_, rfl⟩
  have hv : resV u = resV u := rfl
  conv at hv => rhs; unfold resV
  simp only [ho, hra, hro, Int.reduceEq, or_false, false_or, or_self, if_true, if_false, or_true, true_or] at hv
  have HV := Lib.hid hv
  have HRA := Lib.hid hra
  have HRO := Lib.hid hro
  have H := Lib.hid h
  clear h hs ho hra hro hv
  cases hb : ((u.b : Int) == 0)
  all_goals
    go_enter Try.func12, Try.ntmps12
    go_wp2_with fail
    refine (cdone _ p u H.out).mono ?_
    rintro e w' ⟨rfl, rfl⟩
    go_wp2_with (first
      | (go_at_call 14; refine (cwithinV _ _ _ false (by decide) _).mono ?_; rintro e w' ⟨rfl, rfl⟩)
      | (go_at_call 17; first
          | (with_reducible refine (csignedV _ p u u.acc _ HRA.out H.out hacc).mono ?_; rintro e w' ⟨rfl, rfl⟩)
          | (with_reducible refine (csignedV _ p u u.out _ HRO.out H.out hout).mono ?_; rintro e w' ⟨rfl, rfl⟩)))
    go_ret2
    refine ⟨ret_ub ?_ rfl, rfl⟩
    have hb' := hb
    simp at hb'
    rw [HV.out]
    try simp only [hb', if_true, if_false]
set_option maxHeartbeats 1000000 in
theorem cResult_44 (W : World) (p : Nat) (u : Un) (h : At W p u) (hs : u.steps = 32) (ho : u.op = 44) (hacc : u.acc < 18446744073709551616) (hout : u.out < 18446744073709551616) : Calls Try.prog 12 #[.pointer (some ⟨p, 0, none⟩)] W fun e w' => e = .returned (.tuple #[.int .u32 (resV u), .bool true]) ∧ W = w' := by
  have hd : (((u.steps : Nat) : Int) == 32) = true := by rw [hs]; rfl
  have c0 := h.c0; have c1 := h.c1; have c2 := h.c2; have c5 := h.c5; have c6 := h.c6
  rw [ho] at c0
  obtain ⟨ra, hra⟩ : ∃ r, sg u.minus u.acc = r := ⟨_, rfl⟩
  obtain ⟨ro, hro⟩ : ∃ r, sg u.minus u.out = r := ⟨_, rfl⟩
  have hv : resV u = resV u := rfl
  conv at hv => rhs; unfold resV
  simp only [ho, hra, hro, Int.reduceEq, or_false, false_or, or_self, if_true, if_false, or_true, true_or] at hv
  have HV := Lib.hid hv
  have HRA := Lib.hid hra
  have HRO := Lib.hid hro
  have H := Lib.hid h
  clear h hs ho hra hro hv
  cases hb : ((u.b : Int) == 0)
  all_goals
    go_enter Try.func12, Try.ntmps12
    go_wp2_with fail
    refine (cdone _ p u H.out).mono ?_
    rintro e w' ⟨rfl, rfl⟩
    go_wp2_with (first
      | (go_at_call 14; refine (cwithinV _ _ _ false (by decide) _).mono ?_; rintro e w' ⟨rfl, rfl⟩)
      | (go_at_call 17; first
          | (with_reducible refine (csignedV _ p u u.acc _ HRA.out H.out hacc).mono ?_; rintro e w' ⟨rfl, rfl⟩)
          | (with_reducible refine (csignedV _ p u u.out _ HRO.out H.out hout).mono ?_; rintro e w' ⟨rfl, rfl⟩)))
    go_ret2
    refine ⟨ret_ub ?_ rfl, rfl⟩
    have hb' := hb
    simp at hb'
    rw [HV.out]
    try simp only [hb', if_true, if_false]
set_option maxHeartbeats 1000000 in
theorem cResult_45 (W : World) (p : Nat) (u : Un) (h : At W p u) (hs : u.steps = 32) (ho : u.op = 45) (hacc : u.acc < 18446744073709551616) (hout : u.out < 18446744073709551616) : Calls Try.prog 12 #[.pointer (some ⟨p, 0, none⟩)] W fun e w' => e = .returned (.tuple #[.int .u32 (resV u), .bool true]) ∧ W = w' := by
  have hd : (((u.steps : Nat) : Int) == 32) = true := by rw [hs]; rfl
  have c0 := h.c0; have c1 := h.c1; have c2 := h.c2; have c5 := h.c5; have c6 := h.c6
  rw [ho] at c0
  obtain ⟨ra, hra⟩ : ∃ r, sg u.minus u.acc = r := ⟨_, rfl⟩
  obtain ⟨ro, hro⟩ : ∃ r, sg u.minus u.out = r := ⟨_, rfl⟩
  have hv : resV u = resV u := rfl
  conv at hv => rhs; unfold resV
  simp only [ho, hra, hro, Int.reduceEq, or_false, false_or, or_self, if_true, if_false, or_true, true_or] at hv
  have HV := Lib.hid hv
  have HRA := Lib.hid hra
  have HRO := Lib.hid hro
  have H := Lib.hid h
  clear h hs ho hra hro hv
  cases hb : ((u.b : Int) == 0)
  all_goals
    go_enter Try.func12, Try.ntmps12
    go_wp2_with fail
    refine (cdone _ p u H.out).mono ?_
    rintro e w' ⟨rfl, rfl⟩
    go_wp2_with (first
      | (go_at_call 14; refine (cwithinV _ _ _ false (by decide) _).mono ?_; rintro e w' ⟨rfl, rfl⟩)
      | (go_at_call 17; first
          | (with_reducible refine (csignedV _ p u u.acc _ HRA.out H.out hacc).mono ?_; rintro e w' ⟨rfl, rfl⟩)
          | (with_reducible refine (csignedV _ p u u.out _ HRO.out H.out hout).mono ?_; rintro e w' ⟨rfl, rfl⟩)))
    go_ret2
    refine ⟨ret_ub ?_ rfl, rfl⟩
    have hb' := hb
    simp at hb'
    rw [HV.out]
    try simp only [hb', if_true, if_false]
end Go.Proofs.Ytfgemmiahgmmbaa.Un
