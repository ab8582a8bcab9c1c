/- The gates' functions, ours and the document's. -/
import Derived.Test.YtfkjjaimilkfcaaGr
set_option linter.unusedVariables false
set_option linter.unusedSimpArgs false
namespace Go.Proofs.Ytfkjjaimilkfcaa.Md
open Go.RowKit Go.Proofs.Ytfkjjaimilkfcaa.Ae Go.Proofs.Ytfkjjaimilkfcaa Go.Proofs.Ytfkjjaimilkfcaa.Al
theorem rfirst_full (r : R7) (n : Nat) (F : Nat → R7) (hn : ¬ n < 16) : AC Try.prog 21 [.v (.ptr 0 0 0 0), .agg (rs r)] [.rw [.one (.sl 1 0 0 n 7)], row n F] (fun v H => v = bo false ∧ H = [.rw [.one (.sl 1 0 0 n 7)], row n F]) := by
  refine AC.reix rfl (AC.of_body dok Try.func21 rfl rfl (Nat.le_of_ble_eq_true rfl) ?_)
  conv => whnf
  rw [decide_eq_true (show ((n : Int) ≥ 16) by omega)]; conv => whnf
  exact ⟨[.rw [.one (.sl 1 0 0 n 7)], row n F], [0, 1], bo false, okN_of (n0 := 2) (by decide), Nat.le_of_ble_eq_true rfl, ⟨⟨_, rfl, .inl rfl⟩, ⟨_, rfl, .inl rfl⟩, trivial⟩, rfl, rfl, rfl⟩
/-! The gates' functions among any blocks: the gate under the name p, its row under q. -/
section
variable {G : Hp} {p q : Nat}
theorem two_nd (h : p ≠ q) : [p, q].Nodup := by simp; exact h
theorem two_lt (hp : p < G.length) (hq : q < G.length) : ∀ x ∈ [p, q], x < G.length := by intro x hx; simp at hx; omega
theorem firstN (hp : p < G.length) (hq : q < G.length) (h : p ≠ q) (g0 : lk G p = some (.rw [.one .nilS])) (r : R7) : AC Try.prog 8 [.v (.ptr p 0 0 0), .agg (rs r)] G (fun v H => v = bo true ∧ H = (G.set p (.rw [.one (.sl G.length 0 0 1 7)])) ++ [row 1 (up (fun _ => r) 0 r)]) := by
  refine ((first_nil r).embed [p, q] (G := G) (two_nd h) (two_lt hp hq) ⟨g0, trivial⟩).mono ?_
  rintro v G' ⟨v0, H', ⟨rfl, rfl⟩, _, rfl, rfl⟩
  exact ⟨rfl, by simp [embP, Blk.ren, rensS, Seg.ren, V.ren, nthN]⟩
theorem firstR {n : Nat} {F : Nat → R7} (hp : p < G.length) (hq : q < G.length) (h : p ≠ q) (g0 : lk G p = some (.rw [.one (.sl q 0 0 n 7)])) (g1 : lk G q = some (row n F)) (hn : n < 16) (r : R7) : AC Try.prog 8 [.v (.ptr p 0 0 0), .agg (rs r)] G (fun v H => v = bo true ∧ H = ((G.set p (.rw [.one (.sl G.length 0 0 (n + 1) 7)])).set q .dead) ++ [row (n + 1) (up F n r)]) := by
  refine ((first_row r n F hn).embed [p, q] (G := G) (two_nd h) (two_lt hp hq) ⟨g0, g1, trivial⟩).mono ?_
  rintro v G' ⟨v0, H', ⟨rfl, rfl⟩, _, rfl, rfl⟩
  exact ⟨rfl, by simp [embP, Blk.ren, rensS, Seg.ren, V.ren, nthN]⟩
theorem firstX {n : Nat} {F : Nat → R7} (hp : p < G.length) (hq : q < G.length) (h : p ≠ q) (g0 : lk G p = some (.rw [.one (.sl q 0 0 n 7)])) (g1 : lk G q = some (row n F)) (hn : ¬ n < 16) (r : R7) : AC Try.prog 8 [.v (.ptr p 0 0 0), .agg (rs r)] G (fun v H => v = bo false ∧ H = (G.set p (.rw [.one (.sl q 0 0 n 7)])).set q (row n F)) := by
  refine ((first_full r n F hn).embed [p, q] (G := G) (two_nd h) (two_lt hp hq) ⟨g0, g1, trivial⟩).mono ?_
  rintro v G' ⟨v0, H', ⟨rfl, rfl⟩, _, rfl, rfl⟩
  exact ⟨rfl, by simp [embP, Blk.ren, rensS, Seg.ren, V.ren, nthN]⟩
theorem secondN (hp : p < G.length) (hq : q < G.length) (h : p ≠ q) (g0 : lk G p = some (.rw [.one .nilS])) (r : R7) : AC Try.prog 10 [.v (.ptr p 0 0 0), .agg (rs r)] G (fun v H => v = .tup [.agg (rs z7), i64 2] ∧ H = G.set p (.rw [.one .nilS])) := by
  refine ((second_nil r).embed [p, q] (G := G) (two_nd h) (two_lt hp hq) ⟨g0, trivial⟩).mono ?_
  rintro v G' ⟨v0, H', ⟨rfl, rfl⟩, _, rfl, rfl⟩
  exact ⟨rfl, by simp [embP, Blk.ren, rensS, Seg.ren, V.ren, nthN]⟩
theorem secondZ {F : Nat → R7} (hp : p < G.length) (hq : q < G.length) (h : p ≠ q) (g0 : lk G p = some (.rw [.one (.sl q 0 0 0 7)])) (g1 : lk G q = some (row 0 F)) (r : R7) : AC Try.prog 10 [.v (.ptr p 0 0 0), .agg (rs r)] G (fun v H => v = .tup [.agg (rs z7), i64 2] ∧ H = (G.set p (.rw [.one (.sl q 0 0 0 7)])).set q (row 0 F)) := by
  refine ((second_zero r F).embed [p, q] (G := G) (two_nd h) (two_lt hp hq) ⟨g0, g1, trivial⟩).mono ?_
  rintro v G' ⟨v0, H', ⟨rfl, rfl⟩, _, rfl, rfl⟩
  exact ⟨rfl, by simp [embP, Blk.ren, rensS, Seg.ren, V.ren, nthN]⟩
theorem secondR {n : Nat} {F : Nat → R7} (hp : p < G.length) (hq : q < G.length) (h : p ≠ q) (g0 : lk G p = some (.rw [.one (.sl q 0 0 (n + 1) 7)])) (g1 : lk G q = some (row (n + 1) F)) (hn : n ≤ 1000) (r : R7) : AC Try.prog 10 [.v (.ptr p 0 0 0), .agg (rs r)] G (fun v H => (F 0 = r ∧ v = .tup [.agg (rs r), i64 1] ∧ H = (G.set p (.rw [.one (.sl q 0 0 n 7)])).set q (row n (fun i => F (i + 1)))) ∨ (F 0 ≠ r ∧ v = .tup [.agg (rs z7), i64 2] ∧ H = (G.set p (.rw [.one (.sl q 0 0 (n + 1) 7)])).set q (row (n + 1) F))) := by
  refine ((second_go r n F hn).embed [p, q] (G := G) (two_nd h) (two_lt hp hq) ⟨g0, g1, trivial⟩).mono ?_
  rintro v G' ⟨v0, H', ⟨c, rfl, rfl⟩ | ⟨c, rfl, rfl⟩, _, rfl, rfl⟩
  · exact .inl ⟨c, rfl, by simp [embP, Blk.ren, rensS, Seg.ren, V.ren, nthN]⟩
  · exact .inr ⟨c, rfl, by simp [embP, Blk.ren, rensS, Seg.ren, V.ren, nthN]⟩
theorem fwdN (hp : p < G.length) (hq : q < G.length) (h : p ≠ q) (g0 : lk G p = some (.rw [.one .nilS])) (a : Int) (x : Nat) : AC Try.prog 13 [.v (.ptr p 0 0 0), u32 a, u32 x] G (fun v H => v = u32 x ∧ H = G.set p (.rw [.one .nilS])) := by
  refine ((fwd_nil a x).embed [p, q] (G := G) (two_nd h) (two_lt hp hq) ⟨g0, trivial⟩).mono ?_
  rintro v G' ⟨v0, H', ⟨rfl, rfl⟩, _, rfl, rfl⟩
  exact ⟨rfl, by simp [embP, Blk.ren, rensS, Seg.ren, V.ren, nthN]⟩
theorem fwdR {n : Nat} {F : Nat → R7} (hp : p < G.length) (hq : q < G.length) (h : p ≠ q) (g0 : lk G p = some (.rw [.one (.sl q 0 0 n 7)])) (g1 : lk G q = some (row n F)) (hF : okF n F) (hn : n ≤ 1000) (a : Int) (x : Nat) (hx : x < 4294967296) : AC Try.prog 13 [.v (.ptr p 0 0 0), u32 a, u32 x] G (fun v H => v = u32 (fwd F a x n) ∧ H = (G.set p (.rw [.one (.sl q 0 0 n 7)])).set q (row n F)) := by
  refine ((fwd_row n F hF hn a x hx).embed [p, q] (G := G) (two_nd h) (two_lt hp hq) ⟨g0, g1, trivial⟩).mono ?_
  rintro v G' ⟨v0, H', ⟨rfl, rfl⟩, _, rfl, rfl⟩
  exact ⟨rfl, by simp [embP, Blk.ren, rensS, Seg.ren, V.ren, nthN]⟩
theorem rfirstN (hp : p < G.length) (hq : q < G.length) (h : p ≠ q) (g0 : lk G p = some (.rw [.one .nilS])) (r : R7) : AC Try.prog 21 [.v (.ptr p 0 0 0), .agg (rs r)] G (fun v H => v = bo true ∧ H = (G.set p (.rw [.one (.sl G.length 0 0 1 7)])) ++ [row 1 (up (fun _ => r) 0 r)]) := by
  refine ((rfirst_nil r).embed [p, q] (G := G) (two_nd h) (two_lt hp hq) ⟨g0, trivial⟩).mono ?_
  rintro v G' ⟨v0, H', ⟨rfl, rfl⟩, _, rfl, rfl⟩
  exact ⟨rfl, by simp [embP, Blk.ren, rensS, Seg.ren, V.ren, nthN]⟩
theorem rfirstR {n : Nat} {F : Nat → R7} (hp : p < G.length) (hq : q < G.length) (h : p ≠ q) (g0 : lk G p = some (.rw [.one (.sl q 0 0 n 7)])) (g1 : lk G q = some (row n F)) (hn : n < 16) (r : R7) : AC Try.prog 21 [.v (.ptr p 0 0 0), .agg (rs r)] G (fun v H => v = bo true ∧ H = ((G.set p (.rw [.one (.sl G.length 0 0 (n + 1) 7)])).set q .dead) ++ [row (n + 1) (up F n r)]) := by
  refine ((rfirst_row r n F hn).embed [p, q] (G := G) (two_nd h) (two_lt hp hq) ⟨g0, g1, trivial⟩).mono ?_
  rintro v G' ⟨v0, H', ⟨rfl, rfl⟩, _, rfl, rfl⟩
  exact ⟨rfl, by simp [embP, Blk.ren, rensS, Seg.ren, V.ren, nthN]⟩
theorem rfirstX {n : Nat} {F : Nat → R7} (hp : p < G.length) (hq : q < G.length) (h : p ≠ q) (g0 : lk G p = some (.rw [.one (.sl q 0 0 n 7)])) (g1 : lk G q = some (row n F)) (hn : ¬ n < 16) (r : R7) : AC Try.prog 21 [.v (.ptr p 0 0 0), .agg (rs r)] G (fun v H => v = bo false ∧ H = (G.set p (.rw [.one (.sl q 0 0 n 7)])).set q (row n F)) := by
  refine ((rfirst_full r n F hn).embed [p, q] (G := G) (two_nd h) (two_lt hp hq) ⟨g0, g1, trivial⟩).mono ?_
  rintro v G' ⟨v0, H', ⟨rfl, rfl⟩, _, rfl, rfl⟩
  exact ⟨rfl, by simp [embP, Blk.ren, rensS, Seg.ren, V.ren, nthN]⟩
theorem rsecondN (hp : p < G.length) (hq : q < G.length) (h : p ≠ q) (g0 : lk G p = some (.rw [.one .nilS])) (r : R7) : AC Try.prog 18 [.v (.ptr p 0 0 0), .agg (rs r)] G (fun v H => v = .tup [.agg (rs z7), i64 2] ∧ H = G.set p (.rw [.one .nilS])) := by
  refine ((rsecond_nil r).embed [p, q] (G := G) (two_nd h) (two_lt hp hq) ⟨g0, trivial⟩).mono ?_
  rintro v G' ⟨v0, H', ⟨rfl, rfl⟩, _, rfl, rfl⟩
  exact ⟨rfl, by simp [embP, Blk.ren, rensS, Seg.ren, V.ren, nthN]⟩
theorem rsecondZ {F : Nat → R7} (hp : p < G.length) (hq : q < G.length) (h : p ≠ q) (g0 : lk G p = some (.rw [.one (.sl q 0 0 0 7)])) (g1 : lk G q = some (row 0 F)) (r : R7) : AC Try.prog 18 [.v (.ptr p 0 0 0), .agg (rs r)] G (fun v H => v = .tup [.agg (rs z7), i64 2] ∧ H = (G.set p (.rw [.one (.sl q 0 0 0 7)])).set q (row 0 F)) := by
  refine ((rsecond_zero r F).embed [p, q] (G := G) (two_nd h) (two_lt hp hq) ⟨g0, g1, trivial⟩).mono ?_
  rintro v G' ⟨v0, H', ⟨rfl, rfl⟩, _, rfl, rfl⟩
  exact ⟨rfl, by simp [embP, Blk.ren, rensS, Seg.ren, V.ren, nthN]⟩
theorem rsecondR {n : Nat} {F : Nat → R7} (hp : p < G.length) (hq : q < G.length) (h : p ≠ q) (g0 : lk G p = some (.rw [.one (.sl q 0 0 (n + 1) 7)])) (g1 : lk G q = some (row (n + 1) F)) (hn : n ≤ 1000) (r : R7) : AC Try.prog 18 [.v (.ptr p 0 0 0), .agg (rs r)] G (fun v H => (F 0 = r ∧ v = .tup [.agg (rs r), i64 1] ∧ H = ((G.set p (.rw [.one (.sl G.length 0 0 n 7)])).set q .dead) ++ [row n (fun i => F (i + 1))]) ∨ (F 0 ≠ r ∧ v = .tup [.agg (rs z7), i64 2] ∧ H = (G.set p (.rw [.one (.sl q 0 0 (n + 1) 7)])).set q (row (n + 1) F))) := by
  refine ((rsecond_go r n F hn).embed [p, q] (G := G) (two_nd h) (two_lt hp hq) ⟨g0, g1, trivial⟩).mono ?_
  rintro v G' ⟨v0, H', ⟨c, rfl, rfl⟩ | ⟨c, rfl, rfl⟩, _, rfl, rfl⟩
  · exact .inl ⟨c, rfl, by simp [embP, Blk.ren, rensS, Seg.ren, V.ren, nthN]⟩
  · exact .inr ⟨c, rfl, by simp [embP, Blk.ren, rensS, Seg.ren, V.ren, nthN]⟩
theorem rfwdN (hp : p < G.length) (hq : q < G.length) (h : p ≠ q) (g0 : lk G p = some (.rw [.one .nilS])) (a : Int) (x : Nat) : AC Try.prog 19 [.v (.ptr p 0 0 0), u32 a, u32 x] G (fun v H => v = u32 x ∧ H = G.set p (.rw [.one .nilS])) := by
  refine ((rfwd_nil a x).embed [p, q] (G := G) (two_nd h) (two_lt hp hq) ⟨g0, trivial⟩).mono ?_
  rintro v G' ⟨v0, H', ⟨rfl, rfl⟩, _, rfl, rfl⟩
  exact ⟨rfl, by simp [embP, Blk.ren, rensS, Seg.ren, V.ren, nthN]⟩
theorem rfwdR {n : Nat} {F : Nat → R7} (hp : p < G.length) (hq : q < G.length) (h : p ≠ q) (g0 : lk G p = some (.rw [.one (.sl q 0 0 n 7)])) (g1 : lk G q = some (row n F)) (hF : okF n F) (hn : n ≤ 1000) (a : Int) (x : Nat) (hx : x < 4294967296) : AC Try.prog 19 [.v (.ptr p 0 0 0), u32 a, u32 x] G (fun v H => v = u32 (fwd F a x n) ∧ H = (G.set p (.rw [.one (.sl q 0 0 n 7)])).set q (row n F)) := by
  refine ((rfwd_row n F hF hn a x hx).embed [p, q] (G := G) (two_nd h) (two_lt hp hq) ⟨g0, g1, trivial⟩).mono ?_
  rintro v G' ⟨v0, H', ⟨rfl, rfl⟩, _, rfl, rfl⟩
  exact ⟨rfl, by simp [embP, Blk.ren, rensS, Seg.ren, V.ren, nthN]⟩
theorem waitsN (hp : p < G.length) (hq : q < G.length) (h : p ≠ q) (g0 : lk G p = some (.rw [.one .nilS]))  : AC Try.prog 11 [.v (.ptr p 0 0 0)] G (fun v H => v = i64 0 ∧ H = G.set p (.rw [.one .nilS])) := by
  refine ((waits_nil).embed [p, q] (G := G) (two_nd h) (two_lt hp hq) ⟨g0, trivial⟩).mono ?_
  rintro v G' ⟨v0, H', ⟨rfl, rfl⟩, _, rfl, rfl⟩
  exact ⟨rfl, by simp [embP, Blk.ren, rensS, Seg.ren, V.ren, nthN]⟩
theorem waitsR {n : Nat} {F : Nat → R7} (hp : p < G.length) (hq : q < G.length) (h : p ≠ q) (g0 : lk G p = some (.rw [.one (.sl q 0 0 n 7)])) (g1 : lk G q = some (row n F))  : AC Try.prog 11 [.v (.ptr p 0 0 0)] G (fun v H => v = i64 n ∧ H = (G.set p (.rw [.one (.sl q 0 0 n 7)])).set q (row n F)) := by
  refine ((waits_row n F).embed [p, q] (G := G) (two_nd h) (two_lt hp hq) ⟨g0, g1, trivial⟩).mono ?_
  rintro v G' ⟨v0, H', ⟨rfl, rfl⟩, _, rfl, rfl⟩
  exact ⟨rfl, by simp [embP, Blk.ren, rensS, Seg.ren, V.ren, nthN]⟩
theorem clearN (hp : p < G.length) (hq : q < G.length) (h : p ≠ q) (g0 : lk G p = some (.rw [.one .nilS]))  : AC Try.prog 20 [.v (.ptr p 0 0 0)] G (fun v H => v = .tup [] ∧ H = G.set p (.rw [.one .nilS])) := by
  refine ((clear_nil).embed [p, q] (G := G) (two_nd h) (two_lt hp hq) ⟨g0, trivial⟩).mono ?_
  rintro v G' ⟨v0, H', ⟨rfl, rfl⟩, _, rfl, rfl⟩
  exact ⟨rfl, by simp [embP, Blk.ren, rensS, Seg.ren, V.ren, nthN]⟩
theorem clearR {n : Nat} {F : Nat → R7} (hp : p < G.length) (hq : q < G.length) (h : p ≠ q) (g0 : lk G p = some (.rw [.one (.sl q 0 0 n 7)])) (g1 : lk G q = some (row n F))  : AC Try.prog 20 [.v (.ptr p 0 0 0)] G (fun v H => v = .tup [] ∧ H = (G.set p (.rw [.one .nilS])).set q (row n F)) := by
  refine ((clear_row n F).embed [p, q] (G := G) (two_nd h) (two_lt hp hq) ⟨g0, g1, trivial⟩).mono ?_
  rintro v G' ⟨v0, H', ⟨rfl, rfl⟩, _, rfl, rfl⟩
  exact ⟨rfl, by simp [embP, Blk.ren, rensS, Seg.ren, V.ren, nthN]⟩
theorem newE (G : Hp) : AC Try.prog 7 [] G (fun v H => v = .v (.ptr G.length 0 0 0) ∧ H = G ++ [.rw [.one .nilS]]) := by
  refine (new0.embed [] (G := G) (by simp) (by simp) trivial).mono ?_
  rintro v G' ⟨v0, H', ⟨rfl, rfl⟩, _, rfl, rfl⟩
  exact ⟨by simp [AV.ren, V.ren, nthN], by simp [embP, Blk.ren, rensS, Seg.ren, V.ren]⟩
end
end Go.Proofs.Ytfkjjaimilkfcaa.Md
