/- Instructions of tapes, wherever the tape lies; of empty ones too. -/
import Derived.Test.YtgglclmilocgcaaGreatDoorTp
set_option linter.unusedVariables false
set_option linter.unusedSimpArgs false
namespace Go.Proofs.YtgglclmilocgcaaGreatDoor.Md
open Go.RowKit Go.Proofs.YtgglclmilocgcaaGreatDoor.Ae Go.Proofs.YtgglclmilocgcaaGreatDoor.Bv Go.Proofs.YtgglclmilocgcaaGreatDoor
abbrev tapeE (tv : V) : Hp := [.rw [.one tv, .one (.int .i64 0)], .dead]
theorem nextE (tv : V) (ht : tv = .nilS ∨ tv = .sl 1 0 0 0 1) (m : Int) : AC Tryz.prog 9 [.v (.ptr 0 0 0 0), i64 m] (tapeE tv) (fun v H => v = i64 0 ∧ H = tapeE tv) := by
  rcases ht with rfl | rfl
  all_goals refine AC.clean rfl (AC.of_body dok Tryz.func9 rfl rfl (Nat.le_of_ble_eq_true rfl) ?_)
  all_goals conv => whnf
  all_goals refine DR.std (by decide +kernel) ⟨[], ?_⟩
  all_goals conv => whnf
  · exact ⟨trivial, ⟨⟨trivial, trivial, trivial⟩, trivial⟩, rfl, rfl⟩
  · exact ⟨trivial, ⟨⟨Nat.lt_succ_self 1, trivial, trivial⟩, trivial⟩, rfl, rfl⟩
theorem nextE1 (tv : V) (ht : tv = .nilS ∨ tv = .sl 1 0 0 0 1) (m : Int) (G : Hp) : AC Tryz.prog 9 [.v (.ptr 0 0 0 0), i64 m] (tapeE tv ++ G) (fun v H => v = i64 0 ∧ H = tapeE tv ++ G) := by
  rcases ht with rfl | rfl
  · refine ((nextE _ (.inl rfl) m).embed [0, 1] (G := tapeE .nilS ++ G) (by decide) (by intro x hx; simp at hx; simp; omega) ⟨rfl, trivial⟩).mono ?_
    rintro v G' ⟨v0, H', ⟨rfl, rfl⟩, _, rfl, rfl⟩
    exact ⟨rfl, by simp [embP, Blk.ren, rensS, Seg.ren, V.ren, nthN]⟩
  · refine ((nextE _ (.inr rfl) m).embed [0, 1] (G := tapeE (.sl 1 0 0 0 1) ++ G) (by decide) (by intro x hx; simp at hx; simp; omega) ⟨rfl, trivial⟩).mono ?_
    rintro v G' ⟨v0, H', ⟨rfl, rfl⟩, _, rfl, rfl⟩
    exact ⟨rfl, by simp [embP, Blk.ren, rensS, Seg.ren, V.ren, nthN]⟩
theorem instE (tv : V) (ht : tv = .nilS ∨ tv = .sl 1 0 0 0 1) : AC Tryz.prog 12 [.v (.ptr 0 0 0 0)] (tapeE tv) (fun v H => v = .agg (inst 1 0 0 0 0) ∧ H = tapeE tv) := by
  have hi : hpIn (tapeE tv).length ((tapeE tv).take (tapeE tv).length) := by
    rcases ht with rfl | rfl
    · exact ⟨⟨trivial, trivial, trivial⟩, trivial⟩
    · exact ⟨⟨Nat.lt_succ_self 1, trivial, trivial⟩, trivial⟩
  refine AC.clean rfl (AC.of_body dok Tryz.func12 rfl rfl (Nat.le_of_ble_eq_true rfl) ?_)
  conv => whnf
  iterate 5
    refine (nextE1 tv ht _ _).mono ?_
    rintro v H' ⟨rfl, rfl⟩
    conv => whnf
  refine (fmt1 _ _).mono ?_
  rintro v H' ⟨rfl, rfl⟩
  conv => whnf
  refine (nextE1 tv ht _ _).mono ?_
  rintro v H' ⟨rfl, rfl⟩
  conv => whnf
  exact ⟨in_agg rfl, hi, rfl, rfl⟩
/-- A tape's row, as it came in. -/
def tapeOk (tv : V) (b0 : Blk) : Prop := (tv = .nilS ∧ b0 = .dead) ∨ (tv = .sl 0 0 0 0 1 ∧ b0 = .dead) ∨ ∃ (n : Nat) (l : List Int), tv = .sl 0 0 0 n 1 ∧ b0 = .ro [.ints .i64 n l] ∧ n ≤ 9223372036854775807
theorem valid1 : valid (1, 0, 0, 0, 0) := by
  have e : fmt 1 = 85 := by decide
  unfold valid; dsimp only; omega
theorem instZ (tv : V) (b0 : Blk) (h : tapeOk tv b0) (G : Hp) (p : Nat) (h0 : 0 ≠ p) (hp : p < G.length) (g0 : lk G 0 = some b0) (g1 : lk G p = some (.rw [.one tv, .one (.int .i64 0)])) :
    AC Tryz.prog 12 [.v (.ptr p 0 0 0)] G (fun v H => ∃ (t : T5) (k : Int), valid t ∧ v = .agg (ins t) ∧ H = G.set p (.rw [.one tv, .one (.int .i64 k)])) := by
  have hnd : [p, 0].Nodup := by simp; omega
  have hlt : ∀ x ∈ [p, 0], x < G.length := by intro x hx; simp at hx; omega
  rcases h with ⟨rfl, rfl⟩ | ⟨rfl, rfl⟩ | ⟨n, l, rfl, rfl, hn⟩
  · refine ((instE _ (.inl rfl)).embed [p, 0] (G := G) hnd hlt ⟨g1, trivial⟩).mono ?_
    rintro v G' ⟨v0, H', ⟨rfl, rfl⟩, _, rfl, rfl⟩
    exact ⟨(1, 0, 0, 0, 0), 0, valid1, rfl, by simp [embP, Blk.ren, rensS, Seg.ren, V.ren, nthN]⟩
  · refine ((instE _ (.inr rfl)).embed [p, 0] (G := G) hnd hlt ⟨g1, trivial⟩).mono ?_
    rintro v G' ⟨v0, H', ⟨rfl, rfl⟩, _, rfl, rfl⟩
    exact ⟨(1, 0, 0, 0, 0), 0, valid1, rfl, by simp [embP, Blk.ren, rensS, Seg.ren, V.ren, nthN]⟩
  · refine ((inst0 n l 0 (Nat.zero_le _) hn).embed [p, 0] (G := G) hnd hlt ⟨g1, .inr g0, trivial⟩).mono ?_
    rintro v G' ⟨v0, H', ⟨t, k, hv, hk, rfl, rfl⟩, _, rfl, rfl⟩
    exact ⟨t, k, hv, rfl, by simp [embP, Blk.ren, rensS, Seg.ren, V.ren, nthN]⟩
end Go.Proofs.YtgglclmilocgcaaGreatDoor.Md
