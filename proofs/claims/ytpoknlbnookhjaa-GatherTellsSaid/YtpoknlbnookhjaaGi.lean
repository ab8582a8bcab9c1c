/- Agree, beside leavers. -/
import Derived.Test.YtpoknlbnookhjaaGh
set_option linter.unusedVariables false
set_option linter.unusedSimpArgs false
namespace Go.Proofs.Ytpoknlbnookhjaa.Md
open Go.RowKit Go.Proofs.Ytpoknlbnookhjaa.Ae Go.Proofs.Ytpoknlbnookhjaa
open Go.Lone
theorem rowIn.app {H t : Hp} {v : V} {n : Nat} {A : Nat → R7} (h : rowIn H v n A) : rowIn (H ++ t) v n A := by
  rcases h with h | h | ⟨p, N, b, l, h1, h2, h3, h4⟩
  · exact .inl h
  · exact .inr (.inl h)
  · exact .inr (.inr ⟨p, N, b, l, h1, by rw [List.getElem?_append_left (List.getElem?_eq_some_iff.1 h2).1]; exact h2, h3, h4⟩)
/-- The block that a row lies in, as one reads it. -/
def rdK (k : Blk) : Prop := k = .dead ∨ ∃ N A, k = .ro (seg N A)
/-- A row, and its block of its own. -/
def form (p : Nat) (k : Blk) (v : V) (n : Nat) (A : Nat → R7) : Prop :=
  (v = .nilS ∧ n = 0 ∧ k = .dead) ∨ (v = .sl p 0 0 0 7 ∧ n = 0 ∧ k = .dead) ∨ ∃ N, v = .sl p 0 0 n 7 ∧ n ≤ N ∧ k = .ro (seg N A)
theorem form.rd {p : Nat} {k : Blk} {v : V} {n : Nat} {A : Nat → R7} (h : form p k v n A) : rdK k := by
  rcases h with ⟨_, _, h⟩ | ⟨_, _, h⟩ | ⟨N, _, _, h⟩
  · exact .inl h
  · exact .inl h
  · exact .inr ⟨_, _, h⟩
theorem form.row {H : Hp} {p : Nat} {k : Blk} {v : V} {n : Nat} {A : Nat → R7} (h : form p k v n A) (hp : H[p]? = some k) : rowIn H v n A := by
  rcases h with ⟨h1, h2, _⟩ | ⟨h1, h2, _⟩ | ⟨N, h1, h2, h3⟩
  · exact .inl ⟨h1, h2⟩
  · exact .inr (.inl ⟨p, h1, h2⟩)
  · subst h3; exact .inr (.inr ⟨p, N, _, _, h1, hp, rfl, rfl, h2⟩)
theorem rensA_two {ns : List Nat} {x y x' y' : V} (h : [AV.v x, AV.v y] = rensA ns [.v x', .v y']) (n : Int) : [AV.v x, AV.v y, .v (.int .i64 n)] = rensA ns [.v x', .v y', .v (.int .i64 n)] := by
  have h : [AV.v x, AV.v y] = [_, _] := h
  injection h with h1 h2
  injection h2 with h2 _
  rw [h1, h2]
  rfl
/-- Two rows, over two blocks of their own. -/
theorem canon {H : Hp} {va vb : V} {la lb : Nat} {A B : Nat → R7} (ha : rowIn H va la A) (hb : rowIn H vb lb B) :
    ∃ (k0 k1 : Blk) (ns : List Nat) (va' vb' : V), form 0 k0 va' la A ∧ form 1 k1 vb' lb B ∧ sees H [k0, k1] ns ∧ [AV.v va, AV.v vb] = rensA ns [.v va', .v vb'] := by
  rcases ha with ⟨rfl, rfl⟩ | ⟨p, rfl, rfl⟩ | ⟨p, N, b, l, rfl, hp, hs, hf, hn⟩ <;> rcases hb with ⟨rfl, rfl⟩ | ⟨p', rfl, rfl⟩ | ⟨p', N', b', l', rfl, hp', hs', hf', hn'⟩
  · exact ⟨.dead, .dead, [0, 0], .nilS, .nilS, .inl ⟨rfl, rfl, rfl⟩, .inl ⟨rfl, rfl, rfl⟩, trivial, rfl⟩
  · exact ⟨.dead, .dead, [0, p'], .nilS, .sl 1 0 0 0 7, .inl ⟨rfl, rfl, rfl⟩, .inr (.inl ⟨rfl, rfl, rfl⟩), trivial, rfl⟩
  · exact ⟨.dead, (.ro (seg N' B)), [0, p'], .nilS, .sl 1 0 0 lb 7, .inl ⟨rfl, rfl, rfl⟩, (.inr (.inr ⟨N', rfl, hn', rfl⟩)), ⟨⟨b', l', hp', hs', hf'⟩, oks_seg _ _, fun _ => rfl, trivial⟩, rfl⟩
  · exact ⟨.dead, .dead, [p, 0], .sl 0 0 0 0 7, .nilS, .inr (.inl ⟨rfl, rfl, rfl⟩), .inl ⟨rfl, rfl, rfl⟩, trivial, rfl⟩
  · exact ⟨.dead, .dead, [p, p'], .sl 0 0 0 0 7, .sl 1 0 0 0 7, .inr (.inl ⟨rfl, rfl, rfl⟩), .inr (.inl ⟨rfl, rfl, rfl⟩), trivial, rfl⟩
  · exact ⟨.dead, (.ro (seg N' B)), [p, p'], .sl 0 0 0 0 7, .sl 1 0 0 lb 7, .inr (.inl ⟨rfl, rfl, rfl⟩), (.inr (.inr ⟨N', rfl, hn', rfl⟩)), ⟨⟨b', l', hp', hs', hf'⟩, oks_seg _ _, fun _ => rfl, trivial⟩, rfl⟩
  · exact ⟨.ro (seg N A), .dead, [p, 0], .sl 0 0 0 la 7, .nilS, .inr (.inr ⟨N, rfl, hn, rfl⟩), .inl ⟨rfl, rfl, rfl⟩, ⟨⟨b, l, hp, hs, hf⟩, oks_seg _ _, fun _ => rfl, trivial⟩, rfl⟩
  · exact ⟨.ro (seg N A), .dead, [p, p'], .sl 0 0 0 la 7, .sl 1 0 0 0 7, .inr (.inr ⟨N, rfl, hn, rfl⟩), .inr (.inl ⟨rfl, rfl, rfl⟩), ⟨⟨b, l, hp, hs, hf⟩, oks_seg _ _, fun _ => rfl, trivial⟩, rfl⟩
  · exact ⟨.ro (seg N A), (.ro (seg N' B)), [p, p'], .sl 0 0 0 la 7, .sl 1 0 0 lb 7, .inr (.inr ⟨N, rfl, hn, rfl⟩), (.inr (.inr ⟨N', rfl, hn', rfl⟩)), ⟨⟨b, l, hp, hs, hf⟩, oks_seg _ _, fun _ => rfl, ⟨b', l', hp', hs', hf'⟩, oks_seg _ _, fun _ => rfl, trivial⟩, rfl⟩
/-- The pairs' row, and its block. -/
def pairOut (p : Nat) (u : V) (b : Blk) (n : Nat) (A B : Nat → R7) : Prop := (u = .nilS ∧ n = 0 ∧ b = .dead) ∨ (u = .sl p 0 0 n 14 ∧ b = .rw [.recs 14 n (rc2 A B)])
theorem rc2_plain (A B : Nat → R7) (i : Nat) : ∀ v ∈ rc2 A B i, v.plain := by
  intro v hv
  simp [rc2, rc] at hv
  rcases hv with rfl | rfl | rfl | rfl | rfl | rfl | rfl | rfl | rfl | rfl | rfl | rfl | rfl | rfl <;> trivial
theorem pairsB {H : Hp} {va vb : V} {la lb : Nat} {A B : Nat → R7} (ha : rowIn H va la A) (hb : rowIn H vb lb B) (hla : la ≤ 1000) (hlb : lb ≤ 1000) :
    ACB Try.prog 9 [.v va, .v vb] H (fun v H' => ∃ u b, v = .tup [.v u, i64 ((la : Int) + lb - 2 * (min la lb : Nat))] ∧ H' = H ++ [b] ∧ pairOut H.length u b (min la lb) A B) := by
  obtain ⟨k0, k1, ns, va', vb', ha', hb', hs, he⟩ := canon ha hb
  exact ACB.view1 (rc2_plain A B) trivial (pairsK (ha'.row rfl) (hb'.row rfl) hla hlb ha'.rd hb'.rd) hs he
/-- As far as the two agree, and whether they do. -/
def agr (la lb : Nat) (A B : Nat → R7) (k : Nat) (ok : Bool) : Prop :=
  k ≤ min la lb ∧ (∀ j, j < k → eqb (A j) (B j) = true) ∧ ((k < min la lb ∧ eqb (A k) (B k) = false ∧ ok = false) ∨ (k = min la lb ∧ ok = decide (la = lb)))
theorem hleft {la lb n : Nat} (h : min la lb = n) : ((la : Int) + lb - 2 * (n : Int) == 0) = decide (la = lb) := by
  by_cases e : la = lb
  · subst e; simp at h; subst h; rw [decide_eq_true rfl, beq_iff_eq]; omega
  · rw [decide_eq_false e, beq_eq_false_iff_ne]; omega
theorem fit_rd {σ : List Nat} {G : Hp} {n : Nat} {b : Blk} (h : rdK b) (e : lk G n = some b) : fitB σ G n b := by
  rcases h with rfl | ⟨N, A, rfl⟩
  · trivial
  · exact ⟨_, e, .inl rfl⟩
theorem plain2 (k : Int) (b : Bool) : plainA (.tup [i64 k, .v (.bool b)]) := by
  intro y hy
  simp at hy
  rcases hy with rfl | rfl
  · exact ⟨_, rfl, trivial⟩
  · exact ⟨_, rfl, trivial⟩
def gS (n left : Int) (u : V) (k : Nat) : Sl := [(18, i64 k), (17, i64 n), (16, .v u), (6, .v u), (7, i64 left)]
set_option maxRecDepth 100000 in
set_option maxHeartbeats 4000000 in
theorem agreeK {k0 k1 : Blk} {va vb : V} {la lb : Nat} {A B : Nat → R7} (ha : rowIn [k0, k1] va la A) (hb : rowIn [k0, k1] vb lb B) (hla : la ≤ 1000) (hlb : lb ≤ 1000) (h0 : rdK k0) (h1 : rdK k1) :
    ACB Try.prog 8 [.v va, .v vb] [k0, k1] (fun v _ => plainA v ∧ ∃ (k : Nat) (ok : Bool), v = .tup [i64 k, .v (.bool ok)] ∧ agr la lb A B k ok) := by
  refine ACB.of_body dok und Try.func8 rfl rfl (Nat.le_of_ble_eq_true rfl) rfl ?_
  conv => whnf
  refine (pairsB ha hb hla hlb).mono ?_
  rintro v H' ⟨u, b, rfl, rfl, o⟩
  generalize hn : min la lb = n at *
  rcases o with ⟨rfl, rfl, rfl⟩ | ⟨rfl, rfl⟩
  · conv => whnf
    refine aw_loopRB dok und 3 (fun _ : Nat => gS 0 ((la : Int) + lb - 2 * ((0 : Nat) : Int)) .nilS 0) (fun _ => [k0, k1, .dead]) (fun _ => True) (fun k => k) 0 ⟨rfl, rfl, rfl, rfl, rfl, trivial⟩ rfl trivial rfl ?_
    intro k _
    conv => whnf
    exact ⟨plain2 _ _, 0, _, rfl, by omega, fun j h => absurd h (Nat.not_lt_zero _), .inr ⟨by omega, hleft hn⟩⟩
  · conv => whnf
    refine aw_loopRB dok und 3 (gS n ((la : Int) + lb - 2 * n) (.sl 2 0 0 n 14)) (fun _ => [k0, k1, .rw [.recs 14 n (rc2 A B)]]) (fun k => k ≤ n ∧ ∀ j, j < k → eqb (A j) (B j) = true) (fun k => n - k) 0 ⟨rfl, rfl, rfl, rfl, rfl, trivial⟩ rfl ⟨Nat.zero_le _, fun j h => absurd h (Nat.not_lt_zero _)⟩ rfl ?_
    rintro k ⟨hk, hall⟩
    by_cases ck : k < n
    case neg =>
      obtain rfl : k = n := by omega
      conv => whnf
      rw [decide_eq_false (show ¬ (k : Int) < k by omega)]; conv => whnf
      exact ⟨plain2 _ _, k, _, rfl, by omega, hall, .inr ⟨by omega, hleft hn⟩⟩
    conv => whnf
    rw [decide_eq_true (show (k : Int) < n by omega)]; conv => whnf
    rw [blt_of ck]; conv => whnf
    rw [Nat.zero_add k, blt_of ck]; conv => whnf
    refine (sameB (A k) (B k) _).mono ?_
    rintro v H' ⟨rfl, rfl⟩
    conv => whnf
    refine cb_intro (fun e => ?_) (fun e => ?_)
    · conv => whnf
      exact ⟨plain2 _ _, k, false, rfl, by omega, hall, .inl ⟨by omega, by simpa using e, rfl⟩⟩
    · conv => whnf
      exact ⟨k + 1, [0, 1, 2], ⟨by omega, fun j hj => by
        rcases Nat.lt_or_ge j k with h | h
        · exact hall j h
        · obtain rfl : j = k := by omega
          simpa using e⟩, by show n - (k + 1) < n - k; omega, okN_of (n0 := 3) (by decide), Nat.le_of_ble_eq_true rfl, ⟨fit_rd h0 rfl, fit_rd h1 rfl, ⟨_, rfl, .inl rfl⟩, trivial⟩, ⟨gI _ (by omega), rfl, rfl, rfl, rfl, trivial⟩⟩
end Go.Proofs.Ytpoknlbnookhjaa.Md
