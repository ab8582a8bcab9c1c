/- Tapes: what is read of them, and the instructions that are made of them. -/
import Derived.Test.YtgglclmilocgcaaGreatDoorFm
set_option linter.unusedVariables false
set_option linter.unusedSimpArgs false
namespace Go.Proofs.YtgglclmilocgcaaGreatDoor.Md
open Go.RowKit Go.Proofs.YtgglclmilocgcaaGreatDoor.Ae Go.Proofs.YtgglclmilocgcaaGreatDoor.Bv Go.Proofs.YtgglclmilocgcaaGreatDoor
/-- A number brought into 0 .. hi. -/
theorem within00 (n hi : Int) (h0 : 0 < hi ∧ hi ≤ 1073741824) : AC Tryz.prog 20 [i64 n, i64 0, i64 hi] [] (fun v H => (∃ r : Int, 0 ≤ r ∧ r ≤ hi ∧ v = i64 r) ∧ H = []) := by
  have e : IntKind.i64.wrap (IntKind.i64.wrap (hi - 0) + 1) = hi + 1 := by rw [IntKind.wrap_i64, IntKind.wrap_i64]; omega
  have hm : -(hi + 1) < n.tmod (hi + 1) ∧ n.tmod (hi + 1) < hi + 1 := by
    refine ⟨?_, Int.tmod_lt_of_pos _ (by omega)⟩
    rw [Int.tmod_eq_emod]
    have := Int.emod_nonneg n (show hi + 1 ≠ 0 by omega)
    split <;> omega
  have e2 : IntKind.i64.wrap (IntKind.i64.wrap (IntKind.i64.wrap (n.tmod (hi + 1) + hi) - 0) + 1) = n.tmod (hi + 1) + hi + 1 := by rw [IntKind.wrap_i64, IntKind.wrap_i64, IntKind.wrap_i64]; omega
  have e3 : ∀ z : Int, 0 ≤ z → z ≤ hi → IntKind.i64.wrap (0 + z) = z := fun z h1 h2 => by rw [IntKind.wrap_i64]; omega
  have ez : (hi + 1 == 0) = false := by simp; omega
  refine AC.clean rfl (AC.of_body dok Tryz.func20 rfl rfl (Nat.le_of_ble_eq_true rfl) ?_)
  conv => whnf
  repeat' (refine cb_intro (fun h => ?_) (fun h => ?_) <;> simp only [beq_iff_eq, beq_eq_false_iff_ne, bne_iff_ne, bne_eq_false_iff_eq, ne_eq, decide_eq_true_eq, decide_eq_false_iff_not] at h <;> first | (exfalso; omega) | conv => whnf)
  all_goals try (exact ⟨trivial, trivial, ⟨n, by omega, by omega, rfl⟩, rfl⟩)
  all_goals rw [e] at h ⊢
  all_goals try rw [e2]
  all_goals rw [e3 _ (by omega) (by omega)]
  all_goals exact ⟨trivial, trivial, ⟨_, by omega, by omega, rfl⟩, rfl⟩
/-- The same, among any blocks. -/
theorem within01 (n hi : Int) (h0 : 0 < hi ∧ hi ≤ 1073741824) (H : Hp) : AC Tryz.prog 20 [i64 n, i64 0, i64 hi] H (fun v H' => (∃ r : Int, 0 ≤ r ∧ r ≤ hi ∧ v = i64 r) ∧ H' = H) := by
  have := (within00 n hi h0).embed [] (G := H) (by simp) (by simp) trivial
  refine AC.mono this ?_
  rintro v G' ⟨v0, H', ⟨⟨r, h1, h2, rfl⟩, rfl⟩, _, rfl, rfl⟩
  exact ⟨⟨r, h1, h2, rfl⟩, by simp [embP]⟩
/-- A tape's blocks: it, and its row. -/
abbrev tapeH (n : Nat) (l : List Int) (k : Nat) : Hp := [.rw [.one (.sl 1 0 0 n 1), .one (.int .i64 k)], .ro [.ints .i64 n l]]
theorem tapeIn (n : Nat) (l : List Int) (k k' : Nat) : hpIn (tapeH n l k).length ((tapeH n l k').take (tapeH n l k).length) := ⟨⟨Nat.lt_succ_self 1, trivial, trivial⟩, ⟨trivial, trivial⟩, trivial⟩
theorem next0 (n : Nat) (l : List Int) (k : Nat) (hk : k ≤ n) (hn : n ≤ 9223372036854775807) (m : Int) (hm : 1 ≤ m ∧ m ≤ 1073741824) : AC Tryz.prog 9 [.v (.ptr 0 0 0 0), i64 m] (tapeH n l k) (fun v H => ∃ (r : Int) (k' : Nat), 0 ≤ r ∧ r < m ∧ k' ≤ n ∧ v = i64 r ∧ H = tapeH n l k') := by
  refine AC.clean rfl (AC.of_body dok Tryz.func9 rfl rfl (Nat.le_of_ble_eq_true rfl) ?_)
  conv => whnf
  refine DR.std (by decide +kernel) ⟨[], ?_⟩
  conv => whnf
  by_cases c : k < n
  · have d1 : decide ((k : Int) ≥ (n : Int)) = false := decide_eq_false (by omega)
    have d2 : decide (m < 1) = false := decide_eq_false (by omega)
    rw [d1]; conv => whnf
    rw [d2]; conv => whnf
    have e1 : IntKind.i64.wrap ((k : Int) + 1) = ((k + 1 : Nat) : Int) := by rw [IntKind.wrap_i64]; omega
    rw [e1]
    refine DR.way [0, 1, 2, 3, 4, 5, 6, 7, 8, 9, 10, 12, 11, 13, 14] (by decide +kernel) ⟨[], ?_⟩
    conv => whnf
    have e2 : IntKind.i64.wrap (((k + 1 : Nat) : Int) - 1) = (k : Int) := by rw [IntKind.wrap_i64]; omega
    rw [e2]; conv => whnf
    rw [blt_of c]; conv => whnf
    rw [show (0 + k) * 1 = k by omega, blt_of c]; conv => whnf
    refine (within01 _ 1073741824 (by decide) _).mono ?_
    rintro v H' ⟨⟨r, h1, h2, rfl⟩, rfl⟩
    conv => whnf
    refine cb_false (by simp; omega) ?_
    conv => whnf
    have hr1 := Int.tmod_lt_of_pos r (show 0 < m by omega)
    have hr2 := Int.tmod_nonneg m h1
    exact ⟨trivial, tapeIn n l k (k + 1), r.tmod m, k + 1, hr2, hr1, c, rfl, rfl⟩
  · have d1 : decide ((k : Int) ≥ (n : Int)) = true := decide_eq_true (by omega)
    rw [d1]; conv => whnf
    exact ⟨trivial, tapeIn n l k k, 0, k, by omega, by omega, hk, rfl, rfl⟩
/-- The same, with more blocks behind. -/
theorem next1 (n : Nat) (l : List Int) (k : Nat) (hk : k ≤ n) (hn : n ≤ 9223372036854775807) (m : Int) (hm : 1 ≤ m ∧ m ≤ 1073741824) (G : Hp) : AC Tryz.prog 9 [.v (.ptr 0 0 0 0), i64 m] (tapeH n l k ++ G) (fun v H => ∃ (r : Int) (k' : Nat), 0 ≤ r ∧ r < m ∧ k' ≤ n ∧ v = i64 r ∧ H = tapeH n l k' ++ G) := by
  refine ((next0 n l k hk hn m hm).embed [0, 1] (G := tapeH n l k ++ G) (by decide) (by intro x hx; simp at hx; simp; omega) ⟨rfl, .inr rfl, trivial⟩).mono ?_
  rintro v G' ⟨v0, H', ⟨r, k', h1, h2, h3, rfl, rfl⟩, _, rfl, rfl⟩
  exact ⟨r, k', h1, h2, h3, rfl, by simp [embP, Blk.ren, rensS, Seg.ren, V.ren, nthN]⟩
/-- What can be encoded. -/
def valid (t : T5) : Prop := 1 ≤ t.1 ∧ t.1 ≤ 55 ∧ (0 ≤ t.2.1 ∧ t.2.1 < 32) ∧ (0 ≤ t.2.2.1 ∧ t.2.2.1 < 32) ∧ (0 ≤ t.2.2.2.1 ∧ t.2.2.2.1 < 32) ∧
  (fmt t.1 = 85 → t.2.2.1 = 0 ∧ t.2.2.2.1 = 0 ∧ t.2.2.2.2 % 4096 = 0 ∧ -2147483648 ≤ t.2.2.2.2 ∧ t.2.2.2.2 < 2147483648) ∧
  (fmt t.1 = 74 → t.2.2.1 = 0 ∧ t.2.2.2.1 = 0 ∧ t.2.2.2.2 % 2 = 0 ∧ -1048576 ≤ t.2.2.2.2 ∧ t.2.2.2.2 < 1048576) ∧
  (fmt t.1 = 73 → t.2.2.2.1 = 0 ∧ -2048 ≤ t.2.2.2.2 ∧ t.2.2.2.2 < 2048) ∧
  (fmt t.1 = 66 → t.2.1 = 0 ∧ t.2.2.2.2 % 2 = 0 ∧ -4096 ≤ t.2.2.2.2 ∧ t.2.2.2.2 < 4096) ∧
  (fmt t.1 = 83 → t.2.1 = 0 ∧ -2048 ≤ t.2.2.2.2 ∧ t.2.2.2.2 < 2048) ∧
  (fmt t.1 = 72 → t.2.2.2.1 = 0 ∧ 0 ≤ t.2.2.2.2 ∧ t.2.2.2.2 < 32) ∧
  (fmt t.1 = 82 → t.2.2.2.2 = 0) ∧
  (fmt t.1 = 67 → t.2.2.2.1 = 0 ∧ 0 ≤ t.2.2.2.2 ∧ t.2.2.2.2 < 4096) ∧
  (fmt t.1 = 78 → t.2.1 = 0 ∧ t.2.2.1 = 0 ∧ t.2.2.2.1 = 0 ∧ t.2.2.2.2 = 0)
set_option maxHeartbeats 4000000 in
theorem inst0 (n : Nat) (l : List Int) (k : Nat) (hk : k ≤ n) (hn : n ≤ 9223372036854775807) : AC Tryz.prog 12 [.v (.ptr 0 0 0 0)] (tapeH n l k) (fun v H => ∃ (t : T5) (k' : Nat), valid t ∧ k' ≤ n ∧ v = .agg (ins t) ∧ H = tapeH n l k') := by
  refine AC.clean rfl (AC.of_body dok Tryz.func12 rfl rfl (Nat.le_of_ble_eq_true rfl) ?_)
  conv => whnf
  refine (next1 n l k hk hn 55 (by decide) _).mono ?_
  rintro v H' ⟨r0, k0, p0, q0, hk0, rfl, rfl⟩
  conv => whnf
  have e0 : IntKind.i64.wrap (1 + r0) = 1 + r0 := by rw [IntKind.wrap_i64]; omega
  rw [e0]
  refine (next1 n l k0 hk0 hn 32 (by decide) _).mono ?_
  rintro v H' ⟨rd, k1, p1, q1, hk1, rfl, rfl⟩
  conv => whnf
  refine (next1 n l k1 hk1 hn 32 (by decide) _).mono ?_
  rintro v H' ⟨r1, k2, p2, q2, hk2, rfl, rfl⟩
  conv => whnf
  refine (next1 n l k2 hk2 hn 32 (by decide) _).mono ?_
  rintro v H' ⟨r2, k3, p3, q3, hk3, rfl, rfl⟩
  conv => whnf
  refine (next1 n l k3 hk3 hn 4096 (by decide) _).mono ?_
  rintro v H' ⟨m, k4, p4, q4, hk4, rfl, rfl⟩
  conv => whnf
  have e1 : IntKind.i32.wrap (IntKind.i32.wrap m - 2048) = m - 2048 := by rw [IntKind.wrap_i32, IntKind.wrap_i32]; omega
  rw [e1]
  refine (fmt1 _ _).mono ?_
  rintro v H' ⟨rfl, rfl⟩
  conv => whnf
  rcases fmt_cases (1 + r0) with ⟨g, e⟩ | ⟨g, e⟩ | ⟨g, e⟩ | ⟨g, e⟩ | ⟨g, e⟩ | ⟨g, e⟩ | ⟨g, e⟩ | ⟨g, e⟩ | ⟨g, e⟩ | ⟨g, e⟩
  all_goals rw [e]
  all_goals conv => whnf
  case inl =>
    refine (next1 n l k4 hk4 hn 1048576 (by decide) _).mono ?_
    rintro v H' ⟨z, k5, p5, q5, hk5, rfl, rfl⟩
    conv => whnf
    have e2 : IntKind.i32.wrap z = z := by rw [IntKind.wrap_i32]; omega
    have e3 : ∃ y, IntKind.i32.wrap (z * 2 ^ min 12 IntKind.i32.bits) = y ∧ y % 4096 = 0 ∧ -2147483648 ≤ y ∧ y < 2147483648 := ⟨_, rfl, by show IntKind.i32.wrap (z * 4096) % 4096 = 0; rw [IntKind.wrap_i32]; omega, by show -2147483648 ≤ IntKind.i32.wrap (z * 4096); rw [IntKind.wrap_i32]; omega, by show IntKind.i32.wrap (z * 4096) < 2147483648; rw [IntKind.wrap_i32]; omega⟩
    obtain ⟨y, e3, y1, y2, y3⟩ := e3
    rw [e2, e3]
    exact ⟨in_agg rfl, tapeIn n l k k5, (1 + r0, rd, 0, 0, y), k5, by unfold valid; dsimp only; omega, hk5, rfl, rfl⟩
  case inr.inl =>
    refine (next1 n l k4 hk4 hn 256 (by decide) _).mono ?_
    rintro v H' ⟨z, k5, p5, q5, hk5, rfl, rfl⟩
    conv => whnf
    have e3 : IntKind.i32.wrap (IntKind.i32.wrap ((m - 2048) * 512) + IntKind.i32.wrap (IntKind.i32.wrap z * 2)) = (m - 2048) * 512 + z * 2 := by rw [IntKind.wrap_i32, IntKind.wrap_i32, IntKind.wrap_i32, IntKind.wrap_i32]; omega
    rw [e3]
    exact ⟨in_agg rfl, tapeIn n l k k5, (1 + r0, rd, 0, 0, (m - 2048) * 512 + z * 2), k5, by unfold valid; dsimp only; omega, hk5, rfl, rfl⟩
  case inr.inr.inl =>
    exact ⟨in_agg rfl, tapeIn n l k k4, (1 + r0, rd, r1, 0, m - 2048), k4, by unfold valid; dsimp only; omega, hk4, rfl, rfl⟩
  case inr.inr.inr.inl =>
    have e3 : IntKind.i32.wrap ((m - 2048) * 2) = (m - 2048) * 2 := by rw [IntKind.wrap_i32]; omega
    rw [e3]
    exact ⟨in_agg rfl, tapeIn n l k k4, (1 + r0, 0, r1, r2, (m - 2048) * 2), k4, by unfold valid; dsimp only; omega, hk4, rfl, rfl⟩
  case inr.inr.inr.inr.inl =>
    exact ⟨in_agg rfl, tapeIn n l k k4, (1 + r0, 0, r1, r2, m - 2048), k4, by unfold valid; dsimp only; omega, hk4, rfl, rfl⟩
  case inr.inr.inr.inr.inr.inl =>
    have e3 : bits BinOp.and IntKind.i32 (m - 2048) 31 = (m - 2048) % 2 ^ 5 := and_mask_i32 5 (by decide) _ 31 (by decide)
    rw [e3]
    exact ⟨in_agg rfl, tapeIn n l k k4, (1 + r0, rd, r1, 0, (m - 2048) % 2 ^ 5), k4, by unfold valid; dsimp only; omega, hk4, rfl, rfl⟩
  case inr.inr.inr.inr.inr.inr.inl =>
    exact ⟨in_agg rfl, tapeIn n l k k4, (1 + r0, rd, r1, r2, 0), k4, by unfold valid; dsimp only; omega, hk4, rfl, rfl⟩
  case inr.inr.inr.inr.inr.inr.inr.inl =>
    refine DR.mk ⟨.take 0 (.take 1 (.take 3 (.take 7 (.alt 2 (.alt 4 (.take 5 (.alt 6 (.alt 8 (.take 9 (.alt 10 (.take 11 (.alt 12 .done .nil)) .nil)) .nil) (.alt 8 (.take 9 (.alt 6 (.alt 10 (.take 11 (.alt 12 .done .nil)) .nil) (.alt 10 (.alt 6 (.take 11 (.alt 12 .done .nil)) .nil) .nil))) .nil))) .nil) (.alt 4 (.alt 2 (.take 5 (.alt 6 (.alt 8 (.take 9 (.alt 10 (.take 11 (.alt 12 .done .nil)) .nil)) .nil) (.alt 8 (.take 9 (.alt 6 (.alt 10 (.take 11 (.alt 12 .done .nil)) .nil) (.alt 10 (.alt 6 (.take 11 (.alt 12 .done .nil)) .nil) .nil))) .nil))) (.alt 8 (.take 9 (.alt 2 (.take 5 (.alt 6 (.alt 10 (.take 11 (.alt 12 .done .nil)) .nil) (.alt 10 (.alt 6 (.take 11 (.alt 12 .done .nil)) .nil) .nil))) (.alt 10 (.alt 2 (.take 5 (.alt 6 (.take 11 (.alt 12 .done .nil)) .nil)) .nil) .nil))) .nil)) .nil))))), by decide +kernel, [0, 3], ?_⟩
    conv => whnf
    repeat' (first | (refine (next1 n l k4 hk4 hn 6 (by decide) _).mono ?_; rintro v H' ⟨z, k5, p5, q5, hk5, rfl, rfl⟩; obtain ⟨q, rfl⟩ : ∃ q : Nat, z = (q : Int) := ⟨z.toNat, by omega⟩; rcases (show q = 0 ∨ q = 1 ∨ q = 2 ∨ q = 3 ∨ q = 4 ∨ q = 5 by omega) with rfl | rfl | rfl | rfl | rfl | rfl <;> conv => whnf) | exact ⟨in_agg rfl, tapeIn n l k k5, (1 + r0, rd, r1, 0, 773), k5, by unfold valid; dsimp only; omega, hk5, rfl, rfl⟩ | exact ⟨in_agg rfl, tapeIn n l k k5, (1 + r0, rd, r1, 0, 832), k5, by unfold valid; dsimp only; omega, hk5, rfl, rfl⟩ | exact ⟨in_agg rfl, tapeIn n l k k5, (1 + r0, rd, r1, 0, 833), k5, by unfold valid; dsimp only; omega, hk5, rfl, rfl⟩ | exact ⟨in_agg rfl, tapeIn n l k k5, (1 + r0, rd, r1, 0, 834), k5, by unfold valid; dsimp only; omega, hk5, rfl, rfl⟩ | exact ⟨in_agg rfl, tapeIn n l k k5, (1 + r0, rd, r1, 0, 835), k5, by unfold valid; dsimp only; omega, hk5, rfl, rfl⟩ | exact ⟨in_agg rfl, tapeIn n l k k5, (1 + r0, rd, r1, 0, 3072), k5, by unfold valid; dsimp only; omega, hk5, rfl, rfl⟩ | (refine ⟨?_, ?_⟩ <;> conv => whnf))
  case inr.inr.inr.inr.inr.inr.inr.inr.inl =>
    exact ⟨in_agg rfl, tapeIn n l k k4, (1 + r0, 0, 0, 0, 0), k4, by unfold valid; dsimp only; omega, hk4, rfl, rfl⟩
  case inr.inr.inr.inr.inr.inr.inr.inr.inr => exfalso; omega
end Go.Proofs.YtgglclmilocgcaaGreatDoor.Md
