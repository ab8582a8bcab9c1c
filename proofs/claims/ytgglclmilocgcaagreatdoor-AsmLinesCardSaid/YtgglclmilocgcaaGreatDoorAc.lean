/- The assembler's laws, from what came in. -/
import Derived.Test.YtgglclmilocgcaaGreatDoorAb
import Derived.Test.YtgglclmilocgcaaGreatDoorWb
set_option linter.unusedVariables false
set_option linter.constructorNameAsVariable false
set_option linter.unusedSimpArgs false
namespace Go.Proofs.YtgglclmilocgcaaGreatDoor.Md
set_option maxRecDepth 100000
open Go.RowKit Go.Proofs.YtgglclmilocgcaaGreatDoor.Ae Go.Proofs.YtgglclmilocgcaaGreatDoor.Bv Go.Proofs.YtgglclmilocgcaaGreatDoor Go.ChangeShapes Go.WideShapes

theorem tape_kind {q : Nat} {tv : V} {b : Blk} (h : tapeOkQ q tv b) : b = .dead ∨ ∃ s, b = .ro s := by
  rcases h with ⟨_, h⟩ | ⟨_, h⟩ | ⟨n, l, _, h, _⟩
  · exact .inl h
  · exact .inl h
  · exact .inr ⟨_, h⟩
theorem lines0 (tv tw : V) (b0 b1 : Blk) (h0 : tapeOkQ 0 tv b0) (h1 : tapeOkQ 1 tw b1) : AC Tryz.prog 4 [.v tv, .v tw] [b0, b1] (fun v _ => v = bo true) := by
  have t0 : tapeAt [b0, b1] tv := by
    rcases h0 with ⟨rfl, rfl⟩ | ⟨rfl, rfl⟩ | ⟨m, l, rfl, rfl, hm⟩
    · exact .inl rfl
    · exact .inr ⟨0, Nat.le_of_ble_eq_true rfl, .inl rfl⟩
    · exact .inr ⟨0, Nat.le_of_ble_eq_true rfl, .inr ⟨m, l, rfl, rfl, hm⟩⟩
  have t1 : ∀ Lr, tapeAt ([b0, b1] ++ rowH Lr) tw := by
    intro Lr
    have hl : 1 < ([b0, b1] ++ rowH Lr).length := by simp
    rcases h1 with ⟨rfl, rfl⟩ | ⟨rfl, rfl⟩ | ⟨m, l, rfl, rfl, hm⟩
    · exact .inl rfl
    · exact .inr ⟨1, hl, .inl rfl⟩
    · exact .inr ⟨1, hl, .inr ⟨m, l, rfl, rfl, hm⟩⟩
  rcases tape_kind h0 with rfl | ⟨s0, rfl⟩ <;> rcases tape_kind h1 with rfl | ⟨s1, rfl⟩
  · exact lines_dd tv tw t0 t1
  · exact lines_dr tv tw s1 t0 t1
  · exact lines_rd tv tw s0 t0 t1
  · exact lines_rr tv tw s0 s1 t0 t1
theorem walkLines {K : Type} {enc : TypeId × Value → K} {W0 : World} {base b2 b3 : Nat} {spare : Nat → Bool} {held : Bool} {x : Option Addr} {n c : Nat} {d : DataW K} {p : List MemPlace} (h1 : DataW.Trod enc Tryz.prog W0 base spare held 22 (.slice x n c) d p) (v1 : Value.okWide Tryz.prog W0 .any b2 22 (.slice x n c))
    {x' : Option Addr} {n' c' : Nat} {d' : DataW K} {p' : List MemPlace} (h2 : DataW.Trod enc Tryz.prog W0 base spare held 22 (.slice x' n' c') d' p') (v2 : Value.okWide Tryz.prog W0 .any b3 22 (.slice x' n' c')) (w : World) (gt : GTw w) (e0 : w = W0 := by rfl) :
    Calls Tryz.prog 4 #[.slice x n c, .slice x' n' c'] w fun e w' => e = .returned (.bool true) ∧ Below w.heap.size w w' := by
  subst e0
  obtain ⟨tv, b0, R, ht, hr, hx⟩ := openTape gt h1 v1
  obtain ⟨tu, b1, R1, hu, hr1, hx1⟩ := openTape gt h2 v2
  obtain ⟨m0, m1⟩ := tape_moves (w := w) ht
  obtain ⟨n0, n1⟩ := tape_moves (w := w) hu
  obtain ⟨tv', hv, rv⟩ := tape_at ht hx 0
  obtain ⟨tu', hu', ru⟩ := tape_at hu hx1 1
  refine AC.law (R := fun n => if n = 0 then R 0 else if n = 1 then R1 0 else none) (lines0 tv' tu' b0 b1 hv hu') (.cons (rv _ rfl) (.cons (ru _ rfl) .nil)) (rep_two hr hr1 m0 n0 m1 n1) ?_
  intro k l hk
  rcases k with _ | _ | k <;> simp at hk
  · exact m0 l hk
  · exact n0 l hk
end Go.Proofs.YtgglclmilocgcaaGreatDoor.Md
