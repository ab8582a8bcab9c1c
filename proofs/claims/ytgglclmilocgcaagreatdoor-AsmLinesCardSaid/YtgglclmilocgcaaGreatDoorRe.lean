/- The document's encoding, as far as: it answers. -/
import Derived.Test.YtgglclmilocgcaaGreatDoorTp
set_option linter.unusedVariables false
set_option linter.unusedSimpArgs false
namespace Go.Proofs.YtgglclmilocgcaaGreatDoor.Md
open Go.RowKit Go.Proofs.YtgglclmilocgcaaGreatDoor.Ae Go.Proofs.YtgglclmilocgcaaGreatDoor.Bv Go.Proofs.YtgglclmilocgcaaGreatDoor
/-- The ops' codes. -/
def codeL : List Int := [55, 23, 111, 103, 99, 4195, 16483, 20579, 24675, 28771, 3, 4099, 8195, 16387, 20483, 35, 4131, 8227, 19, 8211, 12307, 16403, 24595, 28691, 4115, 20499, 1073762323, 51, 1073741875, 4147, 8243, 12339, 16435, 20531, 1073762355, 24627, 28723, 33554483, 33558579, 33562675, 33566771, 33570867, 33574963, 33579059, 33583155, 15, 115, 1048691, 807403635, 4211, 8307, 12403, 20595, 24691, 28787]
theorem codes0 : AC Tryz.prog 22 [] [] (fun v H => v = .v (.sl 0 0 0 55 1) ∧ H = [.rw [.ints .u32 55 codeL]]) := by
  refine AC.of_body dok Tryz.func22 rfl rfl (Nat.le_of_ble_eq_true rfl) ?_
  conv => whnf
  exact ⟨rfl, rfl⟩
theorem codes1 (G : Hp) : AC Tryz.prog 22 [] G (fun v H => v = .v (.sl G.length 0 0 55 1) ∧ H = G ++ [.rw [.ints .u32 55 codeL]]) := by
  refine (codes0.embed [] (G := G) (by simp) (by simp) trivial).mono ?_
  rintro v G' ⟨v0, H', ⟨rfl, rfl⟩, _, rfl, rfl⟩
  exact ⟨by simp [AV.ren, V.ren, nthN], by simp [embP, Blk.ren, rensS, Seg.ren]⟩
theorem as_u32 {z : Int} (h : 0 ≤ z ∧ z < 4294967296) : ∃ x : Nat, z = x ∧ x < 4294967296 := ⟨z.toNat, by omega, by omega⟩
theorem rdecI (z : Int) (h : 0 ≤ z ∧ z < 4294967296) (H : Hp) : AC Tryz.prog 23 [u32 z] H (fun v H' => ∃ op rd r1 r2 im : Int, v = .tup [.agg (inst op rd r1 r2 im), bo (op != 0)] ∧ H' = H) := by
  obtain ⟨x, rfl, hx⟩ := as_u32 h
  refine (rdec1 x hx H).mono ?_
  rintro v H' ⟨rfl, rfl⟩
  exact ⟨_, _, _, _, _, rfl, rfl⟩
theorem in_ub {n : Nat} {a : Int} {b : Bool} : (AV.tup [u32 a, bo b]).inR n := ⟨trivial, trivial, trivial⟩
theorem leafW {z : Int} (h : 0 ≤ z ∧ z < 4294967296) (b : Bool) : ∃ (w : Nat) (b' : Bool), w < 4294967296 ∧ AV.tup [u32 z, bo b] = .tup [u32 w, bo b'] := by
  obtain ⟨x, rfl, hx⟩ := as_u32 h
  exact ⟨x, b, hx, rfl⟩
set_option maxHeartbeats 4000000 in
theorem renc0 (op rd r1 r2 im : Int) : AC Tryz.prog 11 [.agg (inst op rd r1 r2 im)] [] (fun v H => (∃ (w : Nat) (b : Bool), w < 4294967296 ∧ v = .tup [u32 w, bo b]) ∧ H = []) := by
  refine AC.clean rfl (AC.of_body dok Tryz.func11 rfl rfl (Nat.le_of_ble_eq_true rfl) ?_)
  conv => whnf
  refine (fmt1 _ _).mono ?_
  rintro v H' ⟨rfl, rfl⟩
  conv => whnf
  rcases fmt_cases op with ⟨g, e⟩ | ⟨g, e⟩ | ⟨g, e⟩ | ⟨g, e⟩ | ⟨g, e⟩ | ⟨g, e⟩ | ⟨g, e⟩ | ⟨g, e⟩ | ⟨g, e⟩ | ⟨g, e⟩
  all_goals rw [e]
  all_goals conv => whnf
  all_goals repeat' (refine cb_intro (fun h => ?_) (fun h => ?_) <;> simp only [beq_iff_eq, beq_eq_false_iff_ne, bne_iff_ne, bne_eq_false_iff_eq, ne_eq, decide_eq_true_eq, decide_eq_false_iff_not] at h <;> first | (exfalso; omega) | conv => whnf)
  all_goals try (exact ⟨in_ub, trivial, ⟨0, false, by decide, rfl⟩, rfl⟩)
  all_goals refine DR.mk ⟨.take 1 (.take 2 (.take 3 (.take 6 (.take 7 (.take 8 (.take 9 (.take 11 (.take 12 (.take 13 (.take 14 (.alt 0 (.take 4 (.alt 5 (.take 10 (.take 15 (.take 16 .done))) .nil)) .nil))))))))))), by decide +kernel, [], ?_⟩
  all_goals conv => whnf
  all_goals refine (codes1 _).mono ?_
  all_goals rintro v H' ⟨rfl, rfl⟩
  all_goals conv => whnf
  all_goals obtain ⟨q, eq, hq⟩ : ∃ q : Nat, IntKind.i64.wrap (op - 1) = q ∧ q < 55 := ⟨(op - 1).toNat, by rw [IntKind.wrap_i64]; omega, by omega⟩
  all_goals rw [eq]
  all_goals conv => whnf
  all_goals rw [blt_of hq]
  all_goals conv => whnf
  all_goals rw [show (0 + q) * 1 = q by omega, blt_of hq]
  all_goals conv => whnf
  all_goals refine (rdecI _ (range32 _ _ _) _).mono ?_
  all_goals rintro v H' ⟨a1, a2, a3, a4, a5, rfl, rfl⟩
  all_goals generalize (a1 != 0) = bb
  all_goals cases bb
  all_goals conv => whnf
  all_goals repeat' (refine cb_intro (fun h => ?_) (fun h => ?_) <;> conv => whnf)
  all_goals first | exact ⟨in_ub, trivial, ⟨0, false, by decide, rfl⟩, rfl⟩ | exact ⟨in_ub, trivial, leafW (range32 _ _ _) _, rfl⟩ | (exfalso; simp_all)
theorem renc1 (op rd r1 r2 im : Int) (H : Hp) : AC Tryz.prog 11 [.agg (inst op rd r1 r2 im)] H (fun v H' => (∃ (w : Nat) (b : Bool), w < 4294967296 ∧ v = .tup [u32 w, bo b]) ∧ H' = H) := by
  refine ((renc0 op rd r1 r2 im).embed [] (G := H) (by simp) (by simp) trivial).mono ?_
  rintro v G' ⟨v0, H', ⟨⟨w, b, h1, rfl⟩, rfl⟩, _, rfl, rfl⟩
  exact ⟨⟨w, b, h1, rfl⟩, by simp [embP]⟩
end Go.Proofs.YtgglclmilocgcaaGreatDoor.Md
