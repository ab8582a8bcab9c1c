/- The gates' functions, ours and the document's. -/
import Derived.Test.YtfkjjaimilkfcaaGa
set_option linter.unusedVariables false
set_option linter.unusedSimpArgs false
namespace Go.Proofs.Ytfkjjaimilkfcaa.Md
open Go.RowKit Go.Proofs.Ytfkjjaimilkfcaa.Ae Go.Proofs.Ytfkjjaimilkfcaa Go.Proofs.Ytfkjjaimilkfcaa.Al
/-- Blocks alike: the same cells, cut otherwise. -/
def like : Blk → Blk → Prop
  | .dead, .dead => True
  | .rw l, .rw l' => oks l' ∧ flat l = flat l'
  | .ro l, .ro l' => oks l' ∧ flat l = flat l'
  | _, _ => False
def likes : Hp → Hp → Prop
  | [], [] => True
  | b :: H, b' :: K => like b b' ∧ likes H K
  | _, _ => False
theorem likes_get : ∀ {H K : Hp}, likes H K → H.length = K.length ∧ ∀ (n : Nat) (b' : Blk), K[n]? = some b' → ∃ b, H[n]? = some b ∧ like b b'
  | [], [], _ => ⟨rfl, fun n b h => by simp at h⟩
  | b :: H, b' :: K, h => by
    obtain ⟨h1, h2⟩ := likes_get h.2
    refine ⟨by simp [h1], fun n c hc => ?_⟩
    cases n with
    | zero => simp at hc; subst hc; exact ⟨b, rfl, h.1⟩
    | succ n => simpa using h2 n c (by simpa using hc)
  | [], _ :: _, h => h.elim
  | _ :: _, [], h => h.elim
theorem like_rw {b : Blk} {l' : List Seg} (h : like b (.rw l')) : ∃ l, b = .rw l ∧ oks l' ∧ flat l = flat l' := by
  cases b with
  | rw l => exact ⟨l, rfl, h.1, h.2⟩
  | _ => exact h.elim
theorem like_ro {b : Blk} {l' : List Seg} (h : like b (.ro l')) : ∃ l, b = .ro l ∧ oks l' ∧ flat l = flat l' := by
  cases b with
  | ro l => exact ⟨l, rfl, h.1, h.2⟩
  | _ => exact h.elim
theorem likes_back {H K : Hp} (h : likes H K) {n : Nat} {b : Blk} (hb : H[n]? = some b) : ∃ b', K[n]? = some b' ∧ like b b' := by
  obtain ⟨h1, h2⟩ := likes_get h
  have hn : n < K.length := by rw [← h1]; exact (List.getElem?_eq_some_iff.1 hb).1
  obtain ⟨c, e1, e2⟩ := h2 n K[n] (List.getElem?_eq_getElem hn)
  rw [hb] at e1; injection e1 with e1; subst e1
  exact ⟨_, List.getElem?_eq_getElem hn, e2⟩
theorem Rep.alike {R : Ren} {H K : Hp} {w : World} (hr : Rep R H w) (h : likes H K) : Rep R K w := by
  obtain ⟨h1, h2⟩ := likes_get h
  have back : ∀ {n : Nat} {l : List Seg}, K[n]? = some (.rw l) → ∃ l0, H[n]? = some (.rw l0) := fun {n l} e => by
    obtain ⟨b, e1, e2⟩ := h2 n _ e
    obtain ⟨l0, rfl, _⟩ := like_rw e2
    exact ⟨l0, e1⟩
  have seg : ∀ {n : Nat} {b : Blk} {l : List Seg}, K[n]? = some b → b.segs? = some l → ∃ b0 l0, H[n]? = some b0 ∧ b0.segs? = some l0 ∧ oks l ∧ flat l0 = flat l := fun {n b l} e hs => by
    obtain ⟨b0, e1, e2⟩ := h2 n _ e
    cases b with
    | dead => cases hs
    | rw l1 => injection hs with hs; subst hs; obtain ⟨l0, rfl, e3, e4⟩ := like_rw e2; exact ⟨_, l0, e1, rfl, e3, e4⟩
    | ro l1 => injection hs with hs; subst hs; obtain ⟨l0, rfl, e3, e4⟩ := like_ro e2; exact ⟨_, l0, e1, rfl, e3, e4⟩
  refine ⟨fun x hx => ⟨(hr.tab x hx).1, fun n l c e => ?_⟩, fun n b l e hs => ?_, fun n hn => hr.dom n (by omega), fun n l m c e hR => ?_, fun n n' l b l' m c c' e e' hs r1 r2 => ?_⟩
  · obtain ⟨l0, e0⟩ := back e
    exact (hr.tab x hx).2 n l0 c e0
  · obtain ⟨b0, l0, e0, hs0, o, f⟩ := seg e hs
    obtain ⟨m, c, r1, r2⟩ := hr.holds n b0 l0 e0 hs0
    exact ⟨m, c, r1, r2.flat_to o f⟩
  · obtain ⟨l0, e0⟩ := back e
    exact hr.own n l0 m c e0 hR
  · obtain ⟨l0, e0⟩ := back e
    obtain ⟨b1, l1, e1, hs1, _⟩ := seg e' hs
    exact hr.inj n n' l0 b1 l1 m c c' e0 e1 hs1 r1 r2
theorem Go.alike {R R' : Ren} {H K H' : Hp} {w w' : World} (g : Go R K w R' H' w') (h : likes H K) : Go R H w R' H' w' := by
  obtain ⟨h1, h2⟩ := likes_get h
  have fwd : ∀ {n : Nat} {l : List Seg}, H[n]? = some (.rw l) → ∃ l', K[n]? = some (.rw l') := fun {n l} e => by
    obtain ⟨b', e1, e2⟩ := likes_back h e
    cases b' with
    | rw l' => exact ⟨l', e1⟩
    | _ => exact e2.elim
  have bwd : ∀ {n : Nat} {l : List Seg}, K[n]? = some (.rw l) → ∃ l', H[n]? = some (.rw l') := fun {n l} e => by
    obtain ⟨b, e1, e2⟩ := h2 n _ e
    obtain ⟨l0, rfl, _⟩ := like_rw e2
    exact ⟨l0, e1⟩
  refine ⟨by rw [h1]; exact g.len, fun n hn => g.ext n (by omega), g.os, g.tape, g.output, g.size, fun k hk hx => g.frame k hk fun n l c e => ?_, fun n b hn hb => ?_, fun n b m c hn hb hd hR => ?_⟩
  · obtain ⟨l', e'⟩ := bwd e
    exact hx n l' c e'
  · rcases g.flag n b (by omega) hb with e | ⟨b0, e1, e2, e3⟩
    · exact .inl e
    · obtain ⟨c, f1, f2⟩ := h2 n _ e1
      refine .inr ⟨c, f1, ?_, ?_⟩
      · cases b0 <;> cases c <;> first | exact f2.elim | exact e2
      · intro hc; subst hc; cases b0 <;> first | exact f2.elim | exact e3 rfl
  · obtain ⟨a, b'⟩ := g.own n b m c (by omega) hb hd hR
    refine ⟨a, b'.imp id ?_⟩
    rintro ⟨n0, l0, c0, e1, e2⟩
    obtain ⟨l', e'⟩ := bwd e1
    exact ⟨n0, l', c0, e', e2⟩
theorem AC.alike {P : Program} {f : FuncId} {args : List AV} {H K : Hp} {Q : AV → Hp → Prop} (h : AC P f args K Q) (e : likes H K) : AC P f args H Q :=
  ⟨h.enter, fun R w vs h1 h2 => (h.run R w vs h1 (Rep.alike h2 e)).mono fun e' w' ⟨v, x, H', R', q, a, b, c, g⟩ => ⟨v, x, H', R', q, a, b, c, Go.alike g e⟩⟩
def rs8 (a : Ask) : List Seg := .one (.int .i64 a.1) :: rs a.2
theorem oks_rs8 : oks (rs8 (2, 0, 0, 0, false, 0, 0, 0) ++ rs8 (0, 0, 0, 0, false, 0, 0, 0) ++ rs8 (0, 0, 0, 0, false, 0, 0, 0) ++ rs8 (3, 99, 0, 0, false, 0, 0, 0)) := by
  intro s hs
  simp [rs8, rs] at hs
  rcases hs with rfl | rfl | rfl | rfl | rfl | rfl | rfl | rfl | hs
  all_goals first | trivial | skip
  all_goals rcases hs with rfl | rfl | rfl | rfl | rfl | rfl | rfl | rfl | hs
  all_goals first | trivial | skip
  all_goals rcases hs with rfl | rfl | rfl | rfl | rfl | rfl | rfl | rfl | hs
  all_goals first | trivial | skip
  all_goals rcases hs with rfl | rfl | rfl | rfl | rfl | rfl | rfl | rfl
  all_goals trivial
def nS (k : Nat) : Nat × (Nat → Ask) → Sl
  | (0, _) => [(1, i64 k), (2, .v .nilS), (3, i64 ((0 : Nat) : Int))]
  | (j + 1, _) => [(1, i64 k), (2, .v (.sl 0 0 0 (j + 1) 8)), (3, i64 ((j + 1 : Nat) : Int))]
def fS : Nat × (Nat → Ask) → Sl
  | (0, _) => [(4, .v .nilS), (5, i64 ((0 : Nat) : Int))]
  | (j + 1, _) => [(4, .v (.sl 0 0 0 (j + 1) 8)), (5, i64 ((j + 1 : Nat) : Int))]
def nH : Nat × (Nat → Ask) → Hp
  | (0, _) => []
  | (j + 1, B) => [.rw (arow (j + 1) B)]
def nA (k i : Nat) : Ask := ((IntKind.i64.wrap (IntKind.i64.wrap ((i : Int) * i) + IntKind.i64.wrap ((k : Int) * i))).tmod 6, IntKind.u32.wrap i, 0, 0, decide ((i : Int).tmod 3 > 0), IntKind.u32.wrap (IntKind.u32.wrap ((i : Int).tmod 4) * 4), (IntKind.u32.wrap (IntKind.i64.wrap ((i : Int) * 19088743))).toNat, (i : Int).tmod 16)
def full (B : Nat → Ask) : Nat → Ask := upA (upA (upA (upA B 18 (2, 0, 0, 0, false, 0, 0, 0)) 19 (0, 0, 0, 0, false, 0, 0, 0)) 20 (0, 0, 0, 0, false, 0, 0, 0)) 21 (3, 99, 0, 0, false, 0, 0, 0)
def nF (i : Nat) : Ask := (0, IntKind.u32.wrap i, 0, 0, false, 0, 0, 0)
theorem u32nat (z : Int) : IntKind.u32.wrap z = ((IntKind.u32.wrap z).toNat : Int) ∧ (IntKind.u32.wrap z).toNat < 4294967296 := by
  rw [IntKind.wrap_u32]; omega
theorem flat_upX (j : Nat) (B : Nat → Ask) (k pc vl rd : Int) (st : Bool) (ad X mk : Int) (n : Nat) (e : X = n) : flat [.recs 8 j (fun i => ac (B i)), .one (.int .i64 k), .one (.int .u32 pc), .one (.int .u32 vl), .one (.int .i64 rd), .one (.bool st), .one (.int .u32 ad), .one (.int .u32 X), .one (.int .i64 mk)] = flat (arow (j + 1) (upA B j (k, pc, vl, rd, st, ad, n, mk))) := by
  subst e
  exact flat_upA j B (k, pc, vl, rd, st, ad, n, mk)
theorem flat_upY (A : Nat → Ask) (k pc vl rd : Int) (st : Bool) (ad X mk : Int) (n : Nat) (e : X = n) : flat [.one (.int .i64 k), .one (.int .u32 pc), .one (.int .u32 vl), .one (.int .i64 rd), .one (.bool st), .one (.int .u32 ad), .one (.int .u32 X), .one (.int .i64 mk)] = flat (arow 1 (upA A 0 (k, pc, vl, rd, st, ad, n, mk))) := by
  subst e
  exact flat_ask1 A (k, pc, vl, rd, st, ad, n, mk)
theorem flat_tail (n : Nat) (A : Nat → Ask) (a : Ask) (l : List Seg) : flat (.recs 8 n (fun i => ac (A i)) :: .one (.int .i64 a.1) :: (rs a.2 ++ l)) = flat (.recs 8 (n + 1) (fun i => ac (upA A n a i)) :: l) := by
  have := flat_upA n A a
  have e : ∀ x y : List Seg, flat (x ++ y) = flat x ++ flat y := fun x y => by
    induction x with
    | nil => rfl
    | cons s x ih => show s.flat ++ flat (x ++ y) = s.flat ++ flat x ++ flat y; rw [ih, List.append_assoc]
  rw [show (.recs 8 n (fun i => ac (A i)) :: .one (.int .i64 a.1) :: (rs a.2 ++ l)) = (.recs 8 n (fun i => ac (A i)) :: .one (.int .i64 a.1) :: rs a.2) ++ l from rfl, e, this, ← e]
  rfl
set_option maxHeartbeats 4000000 in
set_option maxRecDepth 100000 in
theorem numbers_go : AC Try.prog 5 [] [] (fun v _ => v = bo true) := by
  refine AC.of_body dok Try.func5 rfl rfl (Nat.le_of_ble_eq_true rfl) ?_
  conv => whnf
  refine aw_loopR dok 0 (fun k : Nat => [(1, i64 k)]) (fun _ => []) (fun k => k ≤ 30) (fun k => 30 - k) 0 ⟨rfl, trivial⟩ rfl (Nat.zero_le _) rfl ?_
  intro k hk
  by_cases ck : k < 30
  case neg =>
    conv => whnf
    rw [decide_eq_false (show ¬ (k : Int) < 30 by omega)]; conv => whnf
    refine aw_loopR dok 0 fS nH (fun x => x.1 ≤ 18 ∧ okA x.1 x.2) (fun x => 18 - x.1) (0, fun _ => default) ⟨rfl, rfl, trivial⟩ rfl ⟨Nat.zero_le _, fun i hi => absurd hi (Nat.not_lt_zero _)⟩ rfl ?_
    rintro ⟨i, B⟩ ⟨hi, hB⟩
    dsimp only at hi hB
    rcases i with _ | j
    · conv => whnf
      repeat' (first | exact Nat.le_of_ble_eq_true rfl | exact room_small (Nat.le_of_ble_eq_true rfl) (by decide) | exact ⟨(1, upA B 0 (nF 0)), [1], ⟨by omega, okA_up hB (by decide)⟩, by show 18 - 1 < 18 - 0; omega, okN_of (n0 := 0) (by decide), Nat.le_of_ble_eq_true rfl, ⟨⟨_, rfl, .inr ⟨oks_arow _ _, flat_upY _ _ _ _ _ _ _ _ _ _ rfl⟩⟩, trivial⟩, ⟨rfl, rfl, trivial⟩⟩ | (refine And.intro ?_ ?_ <;> conv => whnf))
    · by_cases c : j + 1 < 18
      · conv => whnf
        rw [decide_eq_true (show ((j + 1 : Nat) : Int) < 18 by omega)]; conv => whnf
        repeat' (first | exact Nat.le_of_ble_eq_true rfl | exact (by simp [lenS]; omega) | exact room_small (by omega) (by decide) | exact ⟨(j + 1 + 1, upA B (j + 1) (nF (j + 1))), [2], ⟨c, okA_up hB (Nat.le_of_ble_eq_true rfl)⟩, by show 18 - (j + 1 + 1) < 18 - (j + 1); omega, okN_of (n0 := 0) (by decide), Nat.le_of_ble_eq_true rfl, ⟨⟨_, rfl, .inr ⟨oks_arow _ _, flat_upX (j + 1) B 0 (IntKind.u32.wrap ((j + 1 : Nat) : Int)) 0 0 false 0 0 0 0 rfl⟩⟩, trivial⟩, ⟨rfl, gI (j + 1) (by omega), trivial⟩⟩ | (refine And.intro ?_ ?_ <;> conv => whnf))
      · have e : j = 17 := by omega
        subst e
        conv => whnf
        repeat' (first | exact Nat.le_of_ble_eq_true rfl | exact rfl | exact room_small (Nat.le_of_ble_eq_true rfl) (by decide) | (refine And.intro ?_ ?_ <;> conv => whnf))
        have hk : flat [Seg.recs 8 18 fun i => ac (B i), .one (.int .i64 2), .one (.int .u32 0), .one (.int .u32 0), .one (.int .i64 0), .one (.bool false), .one (.int .u32 0), .one (.int .u32 0), .one (.int .i64 0), .one (.int .i64 0), .one (.int .u32 0), .one (.int .u32 0), .one (.int .i64 0), .one (.bool false), .one (.int .u32 0), .one (.int .u32 0), .one (.int .i64 0), .one (.int .i64 0), .one (.int .u32 0), .one (.int .u32 0), .one (.int .i64 0), .one (.bool false), .one (.int .u32 0), .one (.int .u32 0), .one (.int .i64 0), .one (.int .i64 3), .one (.int .u32 99), .one (.int .u32 0), .one (.int .i64 0), .one (.bool false), .one (.int .u32 0), .one (.int .u32 0), .one (.int .i64 0)] = flat (arow 22 (full B)) :=
          (flat_tail 18 B (2, 0, 0, 0, false, 0, 0, 0) _).trans ((flat_tail 19 _ (0, 0, 0, 0, false, 0, 0, 0) _).trans ((flat_tail 20 _ (0, 0, 0, 0, false, 0, 0, 0) _).trans (flat_tail 21 _ (3, 99, 0, 0, false, 0, 0, 0) [])))
        have hf : okA 22 (full B) := okA_up (okA_up (okA_up (okA_up hB (by decide)) (by decide)) (by decide)) (by decide)
        refine (AC.alike (playE (p := 2) 22 (full B) hf (G := [.dead, .rw (rs8 (2, 0, 0, 0, false, 0, 0, 0) ++ rs8 (0, 0, 0, 0, false, 0, 0, 0) ++ rs8 (0, 0, 0, 0, false, 0, 0, 0) ++ rs8 (3, 99, 0, 0, false, 0, 0, 0)), .rw (arow 22 (full B))]) (Nat.le_of_ble_eq_true rfl) (.inl rfl)) (by exact ⟨trivial, ⟨oks_rs8, rfl⟩, ⟨oks_arow _ _, hk⟩, trivial⟩)).mono ?_
        rintro v H' ⟨rfl, rfl⟩
        conv => whnf
        refine (known1 _).mono ?_
        rintro v H' ⟨rfl, rfl⟩
        conv => whnf
  conv => whnf
  rw [decide_eq_true (show (k : Int) < 30 by omega)]; conv => whnf
  refine aw_loopR dok 0 (nS k) nH (fun x => x.1 ≤ 90 ∧ okA x.1 x.2) (fun x => 90 - x.1) (0, fun _ => default) ⟨rfl, rfl, rfl, trivial⟩ rfl ⟨Nat.zero_le _, fun i hi => absurd hi (Nat.not_lt_zero _)⟩ rfl ?_
  rintro ⟨i, B⟩ ⟨hi, hB⟩
  dsimp only at hi hB
  rcases i with _ | j
  · have e := u32nat (IntKind.i64.wrap (((0 : Nat) : Int) * 19088743))
    conv => whnf
    repeat' (first | exact Nat.le_of_ble_eq_true rfl | exact room_small (Nat.le_of_ble_eq_true rfl) (by decide) | exact ⟨(1, upA B 0 (nA k 0)), [1], ⟨by omega, okA_up hB e.2⟩, by show 90 - 1 < 90 - 0; omega, okN_of (n0 := 0) (by decide), Nat.le_of_ble_eq_true rfl, ⟨⟨_, rfl, .inr ⟨oks_arow _ _, flat_upY _ _ _ _ _ _ _ _ _ _ e.1⟩⟩, trivial⟩, ⟨rfl, rfl, rfl, trivial⟩⟩ | (refine And.intro ?_ ?_ <;> conv => whnf))
  · by_cases c : j + 1 < 90
    · have e := u32nat (IntKind.i64.wrap (((j + 1 : Nat) : Int) * 19088743))
      conv => whnf
      rw [decide_eq_true (show ((j + 1 : Nat) : Int) < 90 by omega)]; conv => whnf
      repeat' (first | exact Nat.le_of_ble_eq_true rfl | exact (by simp [lenS]; omega) | exact room_small (by omega) (by decide) | exact ⟨(j + 1 + 1, upA B (j + 1) (nA k (j + 1))), [2], ⟨c, okA_up hB e.2⟩, by show 90 - (j + 1 + 1) < 90 - (j + 1); omega, okN_of (n0 := 0) (by decide), Nat.le_of_ble_eq_true rfl, ⟨⟨_, rfl, .inr ⟨oks_arow _ _, flat_upX _ _ _ _ _ _ _ _ _ _ _ e.1⟩⟩, trivial⟩, ⟨rfl, rfl, gI (j + 1) (by omega), trivial⟩⟩ | (refine And.intro ?_ ?_ <;> conv => whnf))
    · conv => whnf
      rw [decide_eq_false (show ¬ ((j + 1 : Nat) : Int) < 90 by omega)]; conv => whnf
      refine (playE (p := 0) (j + 1) B hB (Nat.le_of_ble_eq_true rfl) (.inl rfl)).mono ?_
      rintro v H' ⟨rfl, rfl⟩
      conv => whnf
      exact ⟨k + 1, [], by omega, by show 30 - (k + 1) < 30 - k; omega, okN_of (n0 := 0) (by decide), Nat.le_of_ble_eq_true rfl, trivial, ⟨gI k (by omega), trivial⟩⟩
theorem walkNumbers (w : World) : Calls Try.prog 5 #[] w fun e w' => e = .returned (.bool true) ∧ Below w.heap.size w w' := AC.law0 numbers_go .nil w
end Go.Proofs.Ytfkjjaimilkfcaa.Md
