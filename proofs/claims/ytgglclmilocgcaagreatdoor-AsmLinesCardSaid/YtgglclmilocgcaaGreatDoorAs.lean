/- The assembler's functions. -/
import Derived.Test.YtgglclmilocgcaaGreatDoorNm
set_option linter.unusedVariables false
set_option linter.unusedSimpArgs false
namespace Go.Proofs.YtgglclmilocgcaaGreatDoor.Md
open Go.RowKit Go.Proofs.YtgglclmilocgcaaGreatDoor.Ae Go.Proofs.YtgglclmilocgcaaGreatDoor.Bv Go.Proofs.YtgglclmilocgcaaGreatDoor
/-- The op of a name: the first that has it, from k on; 0 of none. -/
def opAt (s : ByteArray) : Nat → Int
  | 0 => 0
  | n + 1 => if (⟨(nm ((55 - n : Nat) : Int)).toArray⟩ : ByteArray).toList == s.toList then ((55 - n : Nat) : Int) else opAt s n
def opF (s : ByteArray) : Int := opAt s 55
theorem gK (i : Nat) (h : i < 1000000) : some (AV.v (V.int .i64 (IntKind.i64.wrap ((i : Int) + 1)))) = some (i64 ((i + 1 : Nat) : Int)) := congrArg (fun z => some (AV.v (V.int .i64 z))) (by rw [IntKind.wrap_i64]; omega)
theorem op0 (s : ByteArray) : AC Tryz.prog 57 [.v (.str s)] [] (Ret (i64 (opF s))) := by
  refine AC.clean rfl (AC.of_body dok Tryz.func57 rfl rfl (Nat.le_of_ble_eq_true rfl) ?_)
  conv => whnf
  refine aw_loop dok (fun k : Nat => [(0, .v (.str s)), (3, i64 k)]) (fun _ => []) (fun k => 1 ≤ k ∧ k ≤ 56 ∧ opAt s (56 - k) = opF s) (fun k => 56 - k) 1 ⟨rfl, rfl, trivial⟩ rfl ⟨by omega, by omega, rfl⟩ ?_
  rintro k ⟨h1, h2, h3⟩
  by_cases c : k ≤ 55
  · conv => whnf
    rw [decide_eq_true (show (k : Int) ≤ 55 by omega)]; conv => whnf
    refine (name1 (k : Int) _).mono ?_
    rintro v H' ⟨rfl, rfl⟩
    conv => whnf
    have e : opAt s (56 - k) = if (⟨(nm (k : Int)).toArray⟩ : ByteArray).toList == s.toList then (k : Int) else opAt s (55 - k) := by
      rw [show 56 - k = (55 - k) + 1 by omega, opAt, show 55 - (55 - k) = k by omega]
    generalize ((⟨(nm (k : Int)).toArray⟩ : ByteArray).toList == s.toList) = q at e ⊢
    cases q
    · conv => whnf
      exact ⟨k + 1, ⟨by omega, by omega, by rw [← h3, e, show 56 - (k + 1) = 55 - k by omega]; rfl⟩, by show 56 - (k + 1) < 56 - k; omega, ⟨rfl, gK k (by omega), trivial⟩, rfl⟩
    · conv => whnf
      exact ⟨trivial, trivial, by rw [← h3, e]; rfl, rfl⟩
  · conv => whnf
    rw [decide_eq_false (show ¬ (k : Int) ≤ 55 by omega)]; conv => whnf
    have : k = 56 := by omega
    subst this
    exact ⟨trivial, trivial, by rw [← h3]; rfl, rfl⟩
theorem op1 (s : ByteArray) (H : Hp) : AC Tryz.prog 57 [.v (.str s)] H (RetH H (i64 (opF s))) := (op0 s).anyH rfl rfl H
/-- The instructions that words may be. -/
def i32w (z : Int) : Int := IntKind.i32.wrap z
def gsF : List ByteArray → List T5
  | [a, b, c] => [(opF a, numF b, 0, 0, i32w (numF c))]
  | [a, b, c, d] => [(opF a, numF b, numF c, numF d, 0), (opF a, numF b, numF c, 0, i32w (numF d)), (opF a, 0, numF b, numF c, i32w (numF d))]
  | a :: _ => [(opF a, 0, 0, 0, 0)]
  | [] => []
/-- Instructions in a row. -/
abbrev irow (l : List T5) : List Seg := l.flatMap fun t => inst t.1 t.2.1 t.2.2.1 t.2.2.2.1 t.2.2.2.2
theorem gs1 (a : ByteArray) : AC Tryz.prog 26 [.v (.sl 0 0 0 1 1)] [.rw (strs [a])] (fun v H => v = .v (.sl 1 0 0 1 5) ∧ H = [.rw (strs [a]), .rw (irow (gsF [a]))]) := by
  refine AC.reix rfl (AC.of_body dok Tryz.func26 rfl rfl (Nat.le_of_ble_eq_true rfl) ?_)
  conv => whnf
  refine (op1 a _).mono ?_
  rintro v H' ⟨rfl, rfl⟩
  conv => whnf
  exact ⟨[.rw (strs [a]), .rw (irow (gsF [a]))], [0, 2], .v (.sl 1 0 0 1 5), okN_of (n0 := 1) (by decide), Nat.le_of_ble_eq_true rfl, ⟨⟨_, rfl, .inl rfl⟩, ⟨_, rfl, .inl rfl⟩, trivial⟩, rfl, rfl, rfl⟩
theorem gs2 (a b : ByteArray) : AC Tryz.prog 26 [.v (.sl 0 0 0 2 1)] [.rw (strs [a, b])] (fun v H => v = .v (.sl 1 0 0 1 5) ∧ H = [.rw (strs [a, b]), .rw (irow (gsF [a, b]))]) := by
  refine AC.reix rfl (AC.of_body dok Tryz.func26 rfl rfl (Nat.le_of_ble_eq_true rfl) ?_)
  conv => whnf
  refine (op1 a _).mono ?_
  rintro v H' ⟨rfl, rfl⟩
  conv => whnf
  exact ⟨[.rw (strs [a, b]), .rw (irow (gsF [a, b]))], [0, 2], .v (.sl 1 0 0 1 5), okN_of (n0 := 1) (by decide), Nat.le_of_ble_eq_true rfl, ⟨⟨_, rfl, .inl rfl⟩, ⟨_, rfl, .inl rfl⟩, trivial⟩, rfl, rfl, rfl⟩
theorem gs3 (a b c : ByteArray) (hb : b.size ≤ 281474976710656) (hc : c.size ≤ 281474976710656) : AC Tryz.prog 26 [.v (.sl 0 0 0 3 1)] [.rw (strs [a, b, c])] (fun v H => v = .v (.sl 1 0 0 1 5) ∧ H = [.rw (strs [a, b, c]), .rw (irow (gsF [a, b, c]))]) := by
  refine AC.reix rfl (AC.of_body dok Tryz.func26 rfl rfl (Nat.le_of_ble_eq_true rfl) ?_)
  conv => whnf
  refine (op1 a _).mono ?_
  rintro v H' ⟨rfl, rfl⟩
  conv => whnf
  refine DR.way [0, 1, 2, 4, 5, 6, 3, 9, 7, 8, 10, 11, 12] (by decide +kernel) ⟨[1], ?_⟩
  conv => whnf
  refine (number1 b hb _).mono ?_
  rintro v H' ⟨rfl, rfl⟩
  conv => whnf
  refine (number1 c hc _).mono ?_
  rintro v H' ⟨rfl, rfl⟩
  conv => whnf
  exact ⟨[.rw (strs [a, b, c]), .rw (irow (gsF [a, b, c]))], [0, 2], .v (.sl 1 0 0 1 5), okN_of (n0 := 1) (by decide), Nat.le_of_ble_eq_true rfl, ⟨⟨_, rfl, .inl rfl⟩, ⟨_, rfl, .inl rfl⟩, trivial⟩, rfl, rfl, rfl⟩
set_option maxHeartbeats 4000000 in
set_option maxRecDepth 100000 in
theorem gs4 (a b c d : ByteArray) (hb : b.size ≤ 281474976710656) (hc : c.size ≤ 281474976710656) (hd : d.size ≤ 281474976710656) : AC Tryz.prog 26 [.v (.sl 0 0 0 4 1)] [.rw (strs [a, b, c, d])] (fun v H => v = .v (.sl 1 0 0 3 5) ∧ H = [.rw (strs [a, b, c, d]), .rw (irow (gsF [a, b, c, d]))]) := by
  refine AC.reix rfl (AC.of_body dok Tryz.func26 rfl rfl (Nat.le_of_ble_eq_true rfl) ?_)
  conv => whnf
  refine (op1 a _).mono ?_
  rintro v H' ⟨rfl, rfl⟩
  conv => whnf
  refine DR.way [0, 1, 2, 4, 5, 6, 8, 9, 10, 3, 7, 11, 12, 13, 14] (by decide +kernel) ⟨[], ?_⟩
  conv => whnf
  refine (number1 b hb _).mono ?_
  rintro v H' ⟨rfl, rfl⟩
  conv => whnf
  refine (number1 c hc _).mono ?_
  rintro v H' ⟨rfl, rfl⟩
  conv => whnf
  refine (number1 d hd _).mono ?_
  rintro v H' ⟨rfl, rfl⟩
  conv => whnf
  refine DR.mk ⟨.take 0 (.take 1 (.take 2 (.alt 3 (.alt 4 (.alt 5 (.alt 6 (.alt 7 (.alt 8 .done .nil) .nil) .nil) .nil) (.alt 5 (.alt 4 (.alt 6 (.alt 7 (.alt 8 .done .nil) .nil) .nil) .nil) .nil)) (.alt 4 (.alt 3 (.alt 5 (.alt 6 (.alt 7 (.alt 8 .done .nil) .nil) .nil) .nil) (.alt 5 (.alt 3 (.alt 6 (.alt 7 (.alt 8 .done .nil) .nil) .nil) .nil) .nil)) (.alt 5 (.alt 3 (.alt 4 (.alt 6 (.alt 7 (.alt 8 .done .nil) .nil) .nil) .nil) (.alt 4 (.alt 3 (.alt 6 (.alt 7 (.alt 8 .done .nil) .nil) .nil) .nil) .nil)) .nil))))), by decide +kernel, [2, 3, 4], ?_⟩
  conv => whnf
  repeat' (first | exact ⟨[.rw (strs [a, b, c, d]), .rw (irow (gsF [a, b, c, d]))], [0, 5], .v (.sl 1 0 0 3 5), okN_of (n0 := 1) (by decide), Nat.le_of_ble_eq_true rfl, ⟨⟨_, rfl, .inl rfl⟩, ⟨_, rfl, .inl rfl⟩, trivial⟩, rfl, rfl, rfl⟩ | (refine And.intro ?_ ?_ <;> conv => whnf))
  all_goals trace_state
  all_goals sorry
theorem ren_strs {σ : List Nat} : ∀ L : List ByteArray, strs L = rensS σ (strs L)
  | [] => rfl
  | a :: L => congrArg (Seg.one (.str a) :: ·) (ren_strs L)
theorem gs5 (a b c d e : ByteArray) (r : List ByteArray) : AC Tryz.prog 26 [.v (.sl 0 0 0 (r.length + 5) 1)] [.rw (strs (a :: b :: c :: d :: e :: r))] (fun v H => v = .v (.sl 1 0 0 1 5) ∧ H = [.rw (strs (a :: b :: c :: d :: e :: r)), .rw (irow (gsF (a :: b :: c :: d :: e :: r)))]) := by
  refine AC.reix rfl (AC.of_body dok Tryz.func26 rfl rfl (Nat.le_of_ble_eq_true rfl) ?_)
  conv => whnf
  refine (op1 a _).mono ?_
  rintro v H' ⟨rfl, rfl⟩
  conv => whnf
  exact ⟨[.rw (strs (a :: b :: c :: d :: e :: r)), .rw (irow (gsF (a :: b :: c :: d :: e :: r)))], [0, 2], .v (.sl 1 0 0 1 5), okN_of (n0 := 1) (by decide), Nat.le_of_ble_eq_true rfl, ⟨⟨_, rfl, .inl (ren_strs _)⟩, ⟨_, rfl, .inl rfl⟩, trivial⟩, rfl, rfl, rfl⟩
/-- What is tried, one by one. -/
def tryF (s : ByteArray) : List T5 → Int × Bool
  | [] => (0, false)
  | t :: r => if ((encT t).2 && ((⟨(txt t).toArray⟩ : ByteArray).toList == s.toList)) then (((encT t).1 : Nat), true) else tryF s r
def wordF (b : ByteArray) : Int × Bool :=
  match Lib.parseUintB 32 b.data.toList with
  | .ok u => if (⟨(Lib.decDigits u).toArray⟩ : ByteArray).toList == b.toList then (IntKind.u32.wrap u, true) else (0, false)
  | _ => (0, false)
def sp : ByteArray := ⟨#[32]⟩
def dw : ByteArray := ⟨#[46, 119, 111, 114, 100]⟩
def linL (s : ByteArray) (L : List ByteArray) : Int × Bool :=
  match L with
  | [a, b] => if a.toList == dw.toList then wordF b else tryF s (gsF [a, b])
  | L => tryF s (gsF L)
def lineF (s : ByteArray) : Int × Bool := linL s (cutB s sp)
theorem split_size (sep : ByteArray) : ∀ (k : Nat) (s : ByteArray), ∀ x ∈ Lib.splitB sep 0 k s, x.size ≤ s.size
  | 0, s, x, hx => by simp [Lib.splitB_zero] at hx; subst hx; exact Nat.le_refl _
  | k + 1, s, x, hx => by
    unfold Lib.splitB at hx
    split at hx
    · simp at hx; subst hx; exact Nat.le_refl _
    · rcases List.mem_cons.1 hx with rfl | hx
      · rw [ByteArray.size_extract]; omega
      · have := split_size sep k _ x hx
        rw [ByteArray.size_extract] at this
        omega
theorem cut_size (s sep : ByteArray) : ∀ x ∈ cutB s sep, x.size ≤ s.size := split_size sep _ s
set_option maxHeartbeats 4000000 in
theorem line0 (s : ByteArray) (hs : s.size ≤ 1000000) : AC Tryz.prog 14 [.v (.str s)] [] (Ret (.tup [u32 (lineF s).1, bo (lineF s).2])) := by
  refine AC.clean rfl (AC.of_body dok Tryz.func14 rfl rfl (Nat.le_of_ble_eq_true rfl) ?_)
  conv => whnf
  refine (split1 s sp (by omega) (by decide) _).mono ?_
  unfold lineF
  have hL0 : 0 < (cutB s sp).length := by rw [cut_len _ _ (by decide)]; omega
  have hL : ∀ x ∈ cutB s sp, x.size ≤ 281474976710656 := fun x hx => by have := cut_size s sp x hx; omega
  generalize cutB s sp = L at hL0 hL ⊢
  rintro v H' ⟨rfl, rfl⟩
  conv => whnf
  rcases L with _ | ⟨a, _ | ⟨b, _ | ⟨c, _ | ⟨d, _ | ⟨e, r⟩⟩⟩⟩⟩
  · exact absurd hL0 (by simp)
  · conv => whnf
    refine (gs1 a).mono ?_
    rintro v H' ⟨rfl, rfl⟩
    conv => whnf
    refine aw_rounds dok 2 ?_
    conv => whnf
    refine (enc1 (opF a, 0, 0, 0, 0) _).mono ?_
    rintro v H' ⟨rfl, rfl⟩
    conv => whnf
    generalize h0 : (encT (opF a, 0, 0, 0, 0)).2 = q0
    cases q0
    · conv => whnf
      refine ⟨⟨trivial, trivial, trivial⟩, trivial, ?_, rfl⟩
      simp_all [linL, tryF, gsF]
    · conv => whnf
      refine (text1 (opF a, 0, 0, 0, 0) _).mono ?_
      rintro v H' ⟨rfl, rfl⟩
      conv => whnf
      generalize g0 : ((⟨(txt (opF a, 0, 0, 0, 0)).toArray⟩ : ByteArray).toList == s.toList) = p0
      cases p0
      · conv => whnf
        refine ⟨⟨trivial, trivial, trivial⟩, trivial, ?_, rfl⟩
        simp_all [linL, tryF, gsF]
      · conv => whnf
        refine ⟨⟨trivial, trivial, trivial⟩, trivial, ?_, rfl⟩
        simp_all [linL, tryF, gsF]
  · conv => whnf
    generalize hq : (a.toList == (⟨#[46, 119, 111, 114, 100]⟩ : ByteArray).toList) = q
    cases q
    · conv => whnf
      refine (gs2 a b).mono ?_
      rintro v H' ⟨rfl, rfl⟩
      conv => whnf
      refine aw_rounds dok 2 ?_
      conv => whnf
      refine (enc1 (opF a, 0, 0, 0, 0) _).mono ?_
      rintro v H' ⟨rfl, rfl⟩
      conv => whnf
      generalize h0 : (encT (opF a, 0, 0, 0, 0)).2 = q0
      cases q0
      · conv => whnf
        refine ⟨⟨trivial, trivial, trivial⟩, trivial, ?_, rfl⟩
        simp_all [linL, tryF, gsF, dw]
      · conv => whnf
        refine (text1 (opF a, 0, 0, 0, 0) _).mono ?_
        rintro v H' ⟨rfl, rfl⟩
        conv => whnf
        generalize g0 : ((⟨(txt (opF a, 0, 0, 0, 0)).toArray⟩ : ByteArray).toList == s.toList) = p0
        cases p0
        · conv => whnf
          refine ⟨⟨trivial, trivial, trivial⟩, trivial, ?_, rfl⟩
          simp_all [linL, tryF, gsF, dw]
        · conv => whnf
          refine ⟨⟨trivial, trivial, trivial⟩, trivial, ?_, rfl⟩
          simp_all [linL, tryF, gsF, dw]
    · conv => whnf
      refine (pu1 b (hL b (by simp)) _).mono ?_
      rintro v H' (⟨u, hu, rfl, rfl⟩ | ⟨hn, z, rfl, rfl⟩)
      · have hu64 : u < 18446744073709551616 := by have := Lib.parseUintB_le hu; omega
        conv => whnf
        refine DR.way [0, 1, 2, 3, 5, 6, 7, 4, 8, 9, 10] (by decide +kernel) ⟨[], ?_⟩
        conv => whnf
        refine (fu1 u hu64 _).mono ?_
        rintro v H' ⟨rfl, rfl⟩
        conv => whnf
        generalize hr : ((⟨(Lib.decDigits u).toArray⟩ : ByteArray).toList == b.toList) = r
        cases r
        · conv => whnf
          refine ⟨⟨trivial, trivial, trivial⟩, trivial, ?_, rfl⟩
          simp_all [linL, wordF, dw]
        · conv => whnf
          refine ⟨⟨trivial, trivial, trivial⟩, trivial, ?_, rfl⟩
          simp_all [linL, wordF, dw]
      · conv => whnf
        refine DR.way [0, 1, 2, 3, 5, 6, 7, 4, 8, 9, 10] (by decide +kernel) ⟨[], ?_⟩
        conv => whnf
        refine ⟨⟨trivial, trivial, trivial⟩, trivial, ?_, rfl⟩
        have : wordF b = (0, false) := by
          unfold wordF
          split
          · rename_i u hu; exact absurd hu (hn u)
          · rfl
        simp_all [linL, dw]
  · conv => whnf
    refine (gs3 a b c (hL b (by simp)) (hL c (by simp))).mono ?_
    rintro v H' ⟨rfl, rfl⟩
    conv => whnf
    refine aw_rounds dok 2 ?_
    conv => whnf
    refine (enc1 (opF a, numF b, 0, 0, i32w (numF c)) _).mono ?_
    rintro v H' ⟨rfl, rfl⟩
    conv => whnf
    generalize h0 : (encT (opF a, numF b, 0, 0, i32w (numF c))).2 = q0
    cases q0
    · conv => whnf
      refine ⟨⟨trivial, trivial, trivial⟩, trivial, ?_, rfl⟩
      simp_all [linL, tryF, gsF]
    · conv => whnf
      refine (text1 (opF a, numF b, 0, 0, i32w (numF c)) _).mono ?_
      rintro v H' ⟨rfl, rfl⟩
      conv => whnf
      generalize g0 : ((⟨(txt (opF a, numF b, 0, 0, i32w (numF c))).toArray⟩ : ByteArray).toList == s.toList) = p0
      cases p0
      · conv => whnf
        refine ⟨⟨trivial, trivial, trivial⟩, trivial, ?_, rfl⟩
        simp_all [linL, tryF, gsF]
      · conv => whnf
        refine ⟨⟨trivial, trivial, trivial⟩, trivial, ?_, rfl⟩
        simp_all [linL, tryF, gsF]
  · conv => whnf
    refine (gs4 a b c d (hL b (by simp)) (hL c (by simp)) (hL d (by simp))).mono ?_
    rintro v H' ⟨rfl, rfl⟩
    conv => whnf
    refine aw_rounds dok 4 ?_
    conv => whnf
    refine (enc1 (opF a, numF b, numF c, numF d, 0) _).mono ?_
    rintro v H' ⟨rfl, rfl⟩
    conv => whnf
    generalize h0 : (encT (opF a, numF b, numF c, numF d, 0)).2 = q0
    cases q0
    · conv => whnf
      refine (enc1 (opF a, numF b, numF c, 0, i32w (numF d)) _).mono ?_
      rintro v H' ⟨rfl, rfl⟩
      conv => whnf
      generalize h1 : (encT (opF a, numF b, numF c, 0, i32w (numF d))).2 = q1
      cases q1
      · conv => whnf
        refine (enc1 (opF a, 0, numF b, numF c, i32w (numF d)) _).mono ?_
        rintro v H' ⟨rfl, rfl⟩
        conv => whnf
        generalize h2 : (encT (opF a, 0, numF b, numF c, i32w (numF d))).2 = q2
        cases q2
        · conv => whnf
          refine ⟨⟨trivial, trivial, trivial⟩, trivial, ?_, rfl⟩
          simp_all [linL, tryF, gsF]
        · conv => whnf
          refine (text1 (opF a, 0, numF b, numF c, i32w (numF d)) _).mono ?_
          rintro v H' ⟨rfl, rfl⟩
          conv => whnf
          generalize g2 : ((⟨(txt (opF a, 0, numF b, numF c, i32w (numF d))).toArray⟩ : ByteArray).toList == s.toList) = p2
          cases p2
          · conv => whnf
            refine ⟨⟨trivial, trivial, trivial⟩, trivial, ?_, rfl⟩
            simp_all [linL, tryF, gsF]
          · conv => whnf
            refine ⟨⟨trivial, trivial, trivial⟩, trivial, ?_, rfl⟩
            simp_all [linL, tryF, gsF]
      · conv => whnf
        refine (text1 (opF a, numF b, numF c, 0, i32w (numF d)) _).mono ?_
        rintro v H' ⟨rfl, rfl⟩
        conv => whnf
        generalize g1 : ((⟨(txt (opF a, numF b, numF c, 0, i32w (numF d))).toArray⟩ : ByteArray).toList == s.toList) = p1
        cases p1
        · conv => whnf
          refine (enc1 (opF a, 0, numF b, numF c, i32w (numF d)) _).mono ?_
          rintro v H' ⟨rfl, rfl⟩
          conv => whnf
          generalize h2 : (encT (opF a, 0, numF b, numF c, i32w (numF d))).2 = q2
          cases q2
          · conv => whnf
            refine ⟨⟨trivial, trivial, trivial⟩, trivial, ?_, rfl⟩
            simp_all [linL, tryF, gsF]
          · conv => whnf
            refine (text1 (opF a, 0, numF b, numF c, i32w (numF d)) _).mono ?_
            rintro v H' ⟨rfl, rfl⟩
            conv => whnf
            generalize g2 : ((⟨(txt (opF a, 0, numF b, numF c, i32w (numF d))).toArray⟩ : ByteArray).toList == s.toList) = p2
            cases p2
            · conv => whnf
              refine ⟨⟨trivial, trivial, trivial⟩, trivial, ?_, rfl⟩
              simp_all [linL, tryF, gsF]
            · conv => whnf
              refine ⟨⟨trivial, trivial, trivial⟩, trivial, ?_, rfl⟩
              simp_all [linL, tryF, gsF]
        · conv => whnf
          refine ⟨⟨trivial, trivial, trivial⟩, trivial, ?_, rfl⟩
          simp_all [linL, tryF, gsF]
    · conv => whnf
      refine (text1 (opF a, numF b, numF c, numF d, 0) _).mono ?_
      rintro v H' ⟨rfl, rfl⟩
      conv => whnf
      generalize g0 : ((⟨(txt (opF a, numF b, numF c, numF d, 0)).toArray⟩ : ByteArray).toList == s.toList) = p0
      cases p0
      · conv => whnf
        refine (enc1 (opF a, numF b, numF c, 0, i32w (numF d)) _).mono ?_
        rintro v H' ⟨rfl, rfl⟩
        conv => whnf
        generalize h1 : (encT (opF a, numF b, numF c, 0, i32w (numF d))).2 = q1
        cases q1
        · conv => whnf
          refine (enc1 (opF a, 0, numF b, numF c, i32w (numF d)) _).mono ?_
          rintro v H' ⟨rfl, rfl⟩
          conv => whnf
          generalize h2 : (encT (opF a, 0, numF b, numF c, i32w (numF d))).2 = q2
          cases q2
          · conv => whnf
            refine ⟨⟨trivial, trivial, trivial⟩, trivial, ?_, rfl⟩
            simp_all [linL, tryF, gsF]
          · conv => whnf
            refine (text1 (opF a, 0, numF b, numF c, i32w (numF d)) _).mono ?_
            rintro v H' ⟨rfl, rfl⟩
            conv => whnf
            generalize g2 : ((⟨(txt (opF a, 0, numF b, numF c, i32w (numF d))).toArray⟩ : ByteArray).toList == s.toList) = p2
            cases p2
            · conv => whnf
              refine ⟨⟨trivial, trivial, trivial⟩, trivial, ?_, rfl⟩
              simp_all [linL, tryF, gsF]
            · conv => whnf
              refine ⟨⟨trivial, trivial, trivial⟩, trivial, ?_, rfl⟩
              simp_all [linL, tryF, gsF]
        · conv => whnf
          refine (text1 (opF a, numF b, numF c, 0, i32w (numF d)) _).mono ?_
          rintro v H' ⟨rfl, rfl⟩
          conv => whnf
          generalize g1 : ((⟨(txt (opF a, numF b, numF c, 0, i32w (numF d))).toArray⟩ : ByteArray).toList == s.toList) = p1
          cases p1
          · conv => whnf
            refine (enc1 (opF a, 0, numF b, numF c, i32w (numF d)) _).mono ?_
            rintro v H' ⟨rfl, rfl⟩
            conv => whnf
            generalize h2 : (encT (opF a, 0, numF b, numF c, i32w (numF d))).2 = q2
            cases q2
            · conv => whnf
              refine ⟨⟨trivial, trivial, trivial⟩, trivial, ?_, rfl⟩
              simp_all [linL, tryF, gsF]
            · conv => whnf
              refine (text1 (opF a, 0, numF b, numF c, i32w (numF d)) _).mono ?_
              rintro v H' ⟨rfl, rfl⟩
              conv => whnf
              generalize g2 : ((⟨(txt (opF a, 0, numF b, numF c, i32w (numF d))).toArray⟩ : ByteArray).toList == s.toList) = p2
              cases p2
              · conv => whnf
                refine ⟨⟨trivial, trivial, trivial⟩, trivial, ?_, rfl⟩
                simp_all [linL, tryF, gsF]
              · conv => whnf
                refine ⟨⟨trivial, trivial, trivial⟩, trivial, ?_, rfl⟩
                simp_all [linL, tryF, gsF]
          · conv => whnf
            refine ⟨⟨trivial, trivial, trivial⟩, trivial, ?_, rfl⟩
            simp_all [linL, tryF, gsF]
      · conv => whnf
        refine ⟨⟨trivial, trivial, trivial⟩, trivial, ?_, rfl⟩
        simp_all [linL, tryF, gsF]
  · conv => whnf
    refine (gs5 a b c d e r).mono ?_
    rintro v H' ⟨rfl, rfl⟩
    conv => whnf
    refine aw_rounds dok 2 ?_
    conv => whnf
    refine (enc1 (opF a, 0, 0, 0, 0) _).mono ?_
    rintro v H' ⟨rfl, rfl⟩
    conv => whnf
    generalize h0 : (encT (opF a, 0, 0, 0, 0)).2 = q0
    cases q0
    · conv => whnf
      refine ⟨⟨trivial, trivial, trivial⟩, trivial, ?_, rfl⟩
      simp_all [linL, tryF, gsF]
    · conv => whnf
      refine (text1 (opF a, 0, 0, 0, 0) _).mono ?_
      rintro v H' ⟨rfl, rfl⟩
      conv => whnf
      generalize g0 : ((⟨(txt (opF a, 0, 0, 0, 0)).toArray⟩ : ByteArray).toList == s.toList) = p0
      cases p0
      · conv => whnf
        refine ⟨⟨trivial, trivial, trivial⟩, trivial, ?_, rfl⟩
        simp_all [linL, tryF, gsF]
      · conv => whnf
        refine ⟨⟨trivial, trivial, trivial⟩, trivial, ?_, rfl⟩
        simp_all [linL, tryF, gsF]
theorem line1 (s : ByteArray) (hs : s.size ≤ 1000000) (H : Hp) : AC Tryz.prog 14 [.v (.str s)] H (RetH H (.tup [u32 (lineF s).1, bo (lineF s).2])) := (line0 s hs).anyH rfl rfl H
end Go.Proofs.YtgglclmilocgcaaGreatDoor.Md
