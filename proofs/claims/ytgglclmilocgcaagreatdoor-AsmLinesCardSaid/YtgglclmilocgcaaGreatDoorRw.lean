/- The assembler's functions. -/
import Derived.Test.YtgglclmilocgcaaGreatDoorPg
import Derived.Test.YtgglclmilocgcaaGreatDoorRe
import Derived.Test.YtgglclmilocgcaaGreatDoorTq
set_option linter.unusedVariables false
set_option linter.unusedSimpArgs false
namespace Go.Proofs.YtgglclmilocgcaaGreatDoor.Md
open Go.RowKit Go.Proofs.YtgglclmilocgcaaGreatDoor.Ae Go.Proofs.YtgglclmilocgcaaGreatDoor.Bv Go.Proofs.YtgglclmilocgcaaGreatDoor
theorem in_u {n : Nat} {a : Int} : (u32 a).inR n := trivial
theorem u32r (z : Int) : 0 ≤ IntKind.u32.wrap z ∧ IntKind.u32.wrap z < 4294967296 := by rw [IntKind.wrap_u32]; omega
theorem or_r {a b : Int} (ha : 0 ≤ a ∧ a < 4294967296) (hb : 0 ≤ b ∧ b < 4294967296) : 0 ≤ bits BinOp.or IntKind.u32 a b ∧ bits BinOp.or IntKind.u32 a b < 4294967296 := by
  obtain ⟨x, rfl⟩ : ∃ x : Nat, a = x := ⟨a.toNat, by omega⟩
  obtain ⟨y, rfl⟩ : ∃ y : Nat, b = y := ⟨b.toNat, by omega⟩
  rw [raw_or x y (by omega) (by omega)]
  have := or_lt (a := x) (b := y) (by omega) (by omega)
  omega
set_option maxHeartbeats 4000000 in
theorem word0 (n : Nat) (l : List Int) (k : Nat) (hk : k ≤ n) (hn : n ≤ 9223372036854775807) : AC Tryz.prog 10 [.v (.ptr 0 0 0 0)] (tapeH n l k) (fun v H => ∃ (r : Int) (k' : Nat), (0 ≤ r ∧ r < 4294967296) ∧ k' ≤ n ∧ v = u32 r ∧ H = tapeH n l k') := by
  refine AC.clean (n := 2) rfl (AC.of_body dok Tryz.func10 rfl rfl (Nat.le_of_ble_eq_true rfl) ?_)
  conv => whnf
  refine (next1 n l k hk hn 5 (by decide) []).mono ?_
  rintro v H' ⟨r0, k0, h1, h2, hk0, rfl, rfl⟩
  conv => whnf
  by_cases c0 : r0 = 0
  · subst c0
    conv => whnf
    refine (next1 n l k0 hk0 hn 1073741824 (by decide) []).mono ?_
    rintro v H' ⟨r1, k1, g1, g2, hk1, rfl, rfl⟩
    conv => whnf
    refine (next1 n l k1 hk1 hn 4 (by decide) []).mono ?_
    rintro v H' ⟨r2, k2, g3, g4, hk2, rfl, rfl⟩
    conv => whnf
    exact ⟨in_u, tapeIn n l k2 k2, _, k2, or_r (u32r _) (u32r _), hk2, rfl, rfl⟩
  · rw [show (r0 == 0) = false by simpa using c0]; conv => whnf
    by_cases c1 : r0 = 1
    · subst c1
      conv => whnf
      refine (next1 n l k0 hk0 hn 8 (by decide) _).mono ?_
      rintro v H' ⟨r1, k1, g1, g2, hk1, rfl, rfl⟩
      rcases (show r1 = 0 ∨ r1 = 1 ∨ r1 = 2 ∨ r1 = 3 ∨ r1 = 4 ∨ r1 = 5 ∨ r1 = 6 ∨ r1 = 7 by omega) with rfl | rfl | rfl | rfl | rfl | rfl | rfl | rfl
      all_goals conv => whnf
      all_goals exact ⟨in_u, tapeIn n l k1 k1, _, k1, by decide, hk1, rfl, rfl⟩
    · rw [show (r0 == 1) = false by simpa using c1]; conv => whnf
      refine (next1 n l k0 hk0 hn 40 (by decide) []).mono ?_
      rintro v H' ⟨r1, k1, g1, g2, hk1, rfl, rfl⟩
      conv => whnf
      exact ⟨in_u, tapeIn n l k1 k1, _, k1, u32r _, hk1, rfl, rfl⟩
abbrev tpB (n k : Nat) : Blk := .rw [.one (.sl 0 0 0 n 1), .one (.int .i64 k)]
section
variable {n : Nat} {l : List Int} {k : Nat} {G : Hp} {p : Nat}
theorem wordZ (hk : k ≤ n) (hn : n ≤ 9223372036854775807) (h0 : 0 ≠ p) (hp : p < G.length) (g0 : lk G 0 = some (.ro [.ints .i64 n l])) (g1 : lk G p = some (tpB n k)) :
    AC Tryz.prog 10 [.v (.ptr p 0 0 0)] G (fun v H => ∃ (r : Int) (k' : Nat), (0 ≤ r ∧ r < 4294967296) ∧ k' ≤ n ∧ v = u32 r ∧ H = G.set p (tpB n k')) := by
  have hnd : [p, 0].Nodup := by simp; omega
  have hlt : ∀ x ∈ [p, 0], x < G.length := by intro x hx; simp at hx; omega
  refine ((word0 n l k hk hn).embed [p, 0] (G := G) hnd hlt ⟨g1, .inr g0, trivial⟩).mono ?_
  rintro v G' ⟨v0, H', ⟨r, k', hr, hk', rfl, rfl⟩, _, rfl, rfl⟩
  exact ⟨r, k', hr, hk', rfl, by simp [embP, Blk.ren, rensS, Seg.ren, V.ren, nthN]⟩
theorem nextZ (hk : k ≤ n) (hn : n ≤ 9223372036854775807) (h0 : 0 ≠ p) (hp : p < G.length) (g0 : lk G 0 = some (.ro [.ints .i64 n l])) (g1 : lk G p = some (tpB n k)) (m : Int) (hm : 1 ≤ m ∧ m ≤ 1073741824) :
    AC Tryz.prog 9 [.v (.ptr p 0 0 0), i64 m] G (fun v H => ∃ (r : Int) (k' : Nat), k' ≤ n ∧ v = i64 r ∧ H = G.set p (tpB n k')) := by
  have hnd : [p, 0].Nodup := by simp; omega
  have hlt : ∀ x ∈ [p, 0], x < G.length := by intro x hx; simp at hx; omega
  refine ((next0 n l k hk hn m hm).embed [p, 0] (G := G) hnd hlt ⟨g1, .inr g0, trivial⟩).mono ?_
  rintro v G' ⟨v0, H', ⟨r, k', _, _, hk', rfl, rfl⟩, _, rfl, rfl⟩
  exact ⟨r, k', hk', rfl, by simp [embP, Blk.ren, rensS, Seg.ren, V.ren, nthN]⟩
theorem instZ2 (hk : k ≤ n) (hn : n ≤ 9223372036854775807) (h0 : 0 ≠ p) (hp : p < G.length) (g0 : lk G 0 = some (.ro [.ints .i64 n l])) (g1 : lk G p = some (tpB n k)) :
    AC Tryz.prog 12 [.v (.ptr p 0 0 0)] G (fun v H => ∃ (t : T5) (k' : Nat), k' ≤ n ∧ v = .agg (ins t) ∧ H = G.set p (tpB n k')) := by
  have hnd : [p, 0].Nodup := by simp; omega
  have hlt : ∀ x ∈ [p, 0], x < G.length := by intro x hx; simp at hx; omega
  refine ((inst0 n l k hk hn).embed [p, 0] (G := G) hnd hlt ⟨g1, .inr g0, trivial⟩).mono ?_
  rintro v G' ⟨v0, H', ⟨t, k', _, hk', rfl, rfl⟩, _, rfl, rfl⟩
  exact ⟨t, k', hk', rfl, by simp [embP, Blk.ren, rensS, Seg.ren, V.ren, nthN]⟩
end
end Go.Proofs.YtgglclmilocgcaaGreatDoor.Md
