/- A unit of numbers, by its steps: the contracts as the laws meet them. -/
import Derived.Test.YtfgemmiahgmmbaaFin
import Derived.Test.YtfgemmiahgmmbaaPortR
set_option linter.unusedVariables false
set_option linter.unusedSimpArgs false
namespace Go.Proofs.Ytfgemmiahgmmbaa.Un
open Go.RowKit Go.Proofs.Ytfgemmiahgmmbaa.Bv Go.Proofs.Ytfgemmiahgmmbaa.Alu
theorem sizeV_lt (n : Nat) (s : Bool) (hn : n < 4294967296) : (sizeV n s).1 < 4294967296 := by
  cases s
  · rw [size_no]; exact hn
  · obtain ⟨x, hx⟩ : ∃ x, wrap32 (n : Int) = x := ⟨_, rfl⟩
    by_cases h : x < 0
    · rw [size_neg n x hx h]
      have : -2147483648 ≤ x := by rw [← hx]; exact (wrap32_in n).1
      clear hx
      show (-x).toNat < _
      omega
    · rw [size_pos n x hx h]; exact hn
theorem init_x (op : Int) (a b : Nat) (ha : a < 4294967296) : (initU op a b).x < 4294967296 := sizeV_lt a _ ha
theorem init_y (op : Int) (a b : Nat) (hb : b < 4294967296) : (initU op a b).y < 4294967296 := sizeV_lt b _ hb
theorem at_init (op : Int) (a b : Nat) (ha : a < 4294967296) : at_ (initU op a b) 0 = initU op a b := by
  have hx := init_x op a b ha
  have h0 := pre_0 _ hx
  unfold at_ rem quo
  rw [h0]
  split
  · rw [Nat.zero_mul]; rfl
  · by_cases hy : (initU op a b).y = 0
    · rw [if_pos hy, if_pos hy]; rfl
    · rw [if_neg hy, if_neg hy, Nat.zero_mod, Nat.zero_div, Nat.zero_mul]; rfl
theorem at32_acc (u : Un) (hx : u.x < 4294967296) (hy : u.y < 4294967296) : (at_ u 32).acc < 18446744073709551616 ∧ (at_ u 32).out < 18446744073709551616 := by
  unfold at_
  split
  · have h := Nat.mul_lt_mul'' hx hy
    rw [pre_32]
    exact ⟨Nat.lt_of_lt_of_le h (by decide), show (0 : Nat) < 18446744073709551616 by decide⟩
  · have h1 := quo_lt u.x u.y 32 hx (by decide)
    refine ⟨?_, ?_⟩
    · show rem u.x u.y 32 < _
      unfold rem
      rw [pre_32]
      split
      · omega
      · have := Nat.mod_le u.x u.y; omega
    · show quo u.x u.y 32 * 2 ^ (32 - 32) < _
      generalize quo u.x u.y 32 = q at *
      omega
theorem cRes_end (W : World) (p : Nat) (op : Int) (a b : Nat) (ho : ¬ (op < 38 ∨ 45 < op)) (ha : a < 4294967296) (hb : b < 4294967296) (h : At W p (at_ (initU op a b) 32)) :
    Calls Try.prog 12 #[.pointer (some ⟨p, 0, none⟩)] W fun e w' => e = .returned (.tuple #[.int .u32 (doI op a b), .bool true]) ∧ W = w' := by
  obtain ⟨h1, h2⟩ := at32_acc (initU op a b) (init_x op a b ha) (init_y op a b hb)
  have hs := at_steps (initU op a b) 32
  have hop := at_op (initU op a b) 32
  rw [← fin op a b ho ha hb]
  generalize at_ (initU op a b) 32 = v at *
  have hop' : v.op = op := hop
  rcases (show op = 38 ∨ op = 39 ∨ op = 40 ∨ op = 41 ∨ op = 42 ∨ op = 43 ∨ op = 44 ∨ op = 45 by omega) with rfl | rfl | rfl | rfl | rfl | rfl | rfl | rfl
  · exact cResult_38 W p v h hs hop' h1 h2
  · exact cResult_39 W p v h hs hop' h1 h2
  · exact cResult_40 W p v h hs hop' h1 h2
  · exact cResult_41 W p v h hs hop' h1 h2
  · exact cResult_42 W p v h hs hop' h1 h2
  · exact cResult_43 W p v h hs hop' h1 h2
  · exact cResult_44 W p v h hs hop' h1 h2
  · exact cResult_45 W p v h hs hop' h1 h2
theorem cRes_no (W : World) (p : Nat) (u : Un) (k : Nat) (hk : k < 32) (h : At W p (at_ u k)) :
    Calls Try.prog 12 #[.pointer (some ⟨p, 0, none⟩)] W fun e w' => e = .returned (.tuple #[.int .u32 0, .bool false]) ∧ W = w' :=
  cResult_no W p _ h (by rw [at_steps]; omega)
theorem cSteps_at (W : World) (p : Nat) (u : Un) (k : Nat) (h : At W p (at_ u k)) : Calls Try.prog 11 #[.pointer (some ⟨p, 0, none⟩)] W fun e w' => e = .returned (.int .i64 k) ∧ W = w' := by
  have c := cSteps W p _ h
  rw [at_steps] at c; exact c
theorem cBegin (op : Int) (a b : Nat) (ho : ¬ (op < 38 ∨ 45 < op)) (ha : a < 4294967296) (hb : b < 4294967296) (w : World) : Calls Try.prog 9 #[.int .i64 op, .int .u32 a, .int .u32 b] w fun e w' => ∃ p, e = .returned (.pointer (some ⟨p, 0, none⟩)) ∧ w.heap.size ≤ p ∧ At w' p (at_ (initU op a b) 0) ∧ Below w.heap.size w w' := by
  rw [at_init op a b ha]; exact cNew op a b ho ha hb w
theorem cStep_end (W : World) (p : Nat) (u : Un) (h : At W p (at_ u 32)) :
    Calls Try.prog 10 #[.pointer (some ⟨p, 0, none⟩)] W fun e w' => e = .returned (.bool true) ∧ W = w' := cStep_done W p _ h (at_steps u 32)
end Go.Proofs.Ytfgemmiahgmmbaa.Un
