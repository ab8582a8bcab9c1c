/- GatherTells' long region, beside leavers. -/
import Derived.Test.YtpoknlbnookhjaaGp
set_option linter.unusedVariables false
set_option linter.unusedSimpArgs false
namespace Go.Proofs.Ytpoknlbnookhjaa.Ae
open Go.RowKit
open Go.Conc (G stepG_region stepG_region_end stepG_unwanted)
open Go.Lone
section
variable {P : Program} {D : Tab} {nt : Nat} {k : Sl → Hp → Prop}
theorem aopsB_part (hD : D.ok P) (hU : Und P) {all : Array Oper} {b : Frame} {kk : List Item} {cs : List Frame} (hb : b.kind = .normal) : ∀ {l l2 : List Oper} {i : Nat} {s : Sl} {H : Hp}, aopsB P D nt all.toList l s H k → all.toList.drop i = l ++ l2 →
    ∀ (R : Ren) (w : World) (a : Act), a.tmps.size = nt → a.defers = [] → SR R s a → Rep R H w →
      Tends P (G (b.at a (.inRegion all ((List.range all.size).drop i) :: kk)) cs) w (fun g w' => ∃ a', PostO nt k R H w a' w' ∧ g = G (b.at a' (.inRegion all ((List.range all.size).drop (i + l.length)) :: kk)) cs) := by
  intro l l2
  induction l with
  | nil =>
    intro i s H h hd R w a h1 h2 h3 h4
    exact Tends.here ⟨a, ⟨s, H, R, h, h1, h2, h3, h4, Go.refl _ _ _⟩, rfl⟩
  | cons o r ih =>
    intro i s H h hd R w a h1 h2 h3 h4
    have hlt : i < all.size := by
      have := congrArg List.length hd
      simp at this; omega
    have ho : all[i]? = some o := by
      have := congrArg (·[0]?) hd
      simpa using this
    have hr : all.toList.drop (i + 1) = r ++ l2 := by
      have := congrArg (List.drop 1) hd
      simpa [List.drop_drop] using this
    rw [List.drop_eq_getElem_cons (by simpa using hlt), List.getElem_range]
    rw [show i + (o :: r).length = i + 1 + r.length by simp; omega]
    simp only [aopsB] at h
    rcases aguard_sound h h3 with ⟨hw, hy⟩ | ⟨hw, hn⟩
    · refine (aopB_sound hD hU hy ho hw h1 h2 h3 h4 hb).bind ?_
      rintro g w' ⟨a', ⟨s', H', R', q, g1, g2, g3, g4, g5⟩, rfl⟩
      exact (ih q hr R' w' a' g1 g2 g3 g4).mono fun g w'' ⟨a'', hp, hg⟩ => ⟨a'', hp.trans g5, hg⟩
    · refine Tends.ctl rfl (fun w => stepG_unwanted ho hw) fun d => ?_
      obtain ⟨s', H', R', q, g1, g2, g3, g4, g5⟩ := PostO.of_put (R := R) (R' := R) (x := undef) (w := w) (w' := w.at d) (H := H) hn h1 h2 h3 rfl h4.at' Go.at'
      exact (ih q hr R' (w.at d) _ g1 g2 g3 g4).mono fun g w'' ⟨a'', hp, hg⟩ => ⟨a'', hp.trans g5, hg⟩
end
end Go.Proofs.Ytpoknlbnookhjaa.Ae
namespace Go.Proofs.Ytpoknlbnookhjaa.Md
open Go.RowKit Go.Proofs.Ytpoknlbnookhjaa.Ae Go.Proofs.Ytpoknlbnookhjaa
open Go.Lone
open Go.Conc (G stepG_region stepG_region_end)
/-- A region's operations, found in the code. -/
def findR (n : Nat) : Code → Option (Array Oper)
  | .seq a b => match findR n a with
    | some x => some x
    | none => findR n b
  | .cond _ a b => match findR n a with
    | some x => some x
    | none => findR n b
  | .block _ c => findR n c
  | .loop c => findR n c
  | .region id ops _ => match Nat.beq id n with
    | true => some ops
    | false => none
  | _ => none
noncomputable def ops8 : Array Oper := ((Try.f4.body.bind (findR 8)).getD #[])
def s0 (va vb : V) (k : Nat) : Sl := [(0, .v va), (1, .v vb), (7, i64 k)]
def s1 (va vb : V) (k : Nat) : Sl := [(46, .v (.bool true)), (47, .v va), (48, i64 k), (49, i64 k), (0, .v va), (1, .v vb)]
set_option maxRecDepth 100000 in
set_option maxHeartbeats 4000000 in
theorem part1 {H : Hp} {va vb : V} {la lb k : Nat} {A B : Nat → R7} (ha : rowIn H va la A) (hb : rowIn H vb lb B) (hla : la ≤ 40) (hlb : lb ≤ 40) (hk : k ≤ la) :
    aopsB Try.prog D 59 ops8.toList (ops8.toList.take 19) (s0 va vb k) H (fun s' H' => H' = H ∧ subs (s1 va vb k) s') := by
  have ha0 := ha
  rcases ha with ⟨rfl, rfl⟩ | ⟨p, rfl, rfl⟩ | ⟨p, N, b, l, rfl, hp, hs, hfl, hn⟩
  · conv => whnf
    refine (sameA ha0 hb (by omega) (by omega)).mono ?_
    rintro v H' ⟨rfl, rfl⟩
    conv => whnf
    refine (sameA ha0 ha0 (by omega) (by omega)).mono ?_
    rintro v H' ⟨rfl, rfl⟩
    conv => whnf
    refine ⟨Int.natCast_nonneg k, trivial, Nat.zero_le _, by omega, ?_⟩
    conv => whnf
    refine (sameA (lb := 0) (B := A) ha0 (.inl ⟨rfl, rfl⟩) (by omega) (by omega)).mono ?_
    rintro v H' ⟨rfl, rfl⟩
    conv => whnf
    exact ⟨rfl, rfl, rfl, rfl, rfl, rfl, rfl, trivial⟩
  · conv => whnf
    refine (sameA ha0 hb (by omega) (by omega)).mono ?_
    rintro v H' ⟨rfl, rfl⟩
    conv => whnf
    refine (sameA ha0 ha0 (by omega) (by omega)).mono ?_
    rintro v H' ⟨rfl, rfl⟩
    conv => whnf
    refine ⟨Int.natCast_nonneg k, trivial, Nat.zero_le _, by omega, ?_⟩
    conv => whnf
    refine (sameA (lb := 0) (B := A) ha0 (.inr (.inl ⟨p, by rw [show (k : Int).toNat = 0 by omega], rfl⟩)) (by omega) (by omega)).mono ?_
    rintro v H' ⟨rfl, rfl⟩
    conv => whnf
    exact ⟨rfl, rfl, rfl, rfl, rfl, rfl, rfl, trivial⟩
  · conv => whnf
    refine (sameA ha0 hb (by omega) (by omega)).mono ?_
    rintro v H' ⟨rfl, rfl⟩
    conv => whnf
    refine (sameA ha0 ha0 (by omega) (by omega)).mono ?_
    rintro v H' ⟨rfl, rfl⟩
    conv => whnf
    refine ⟨Int.natCast_nonneg k, trivial, Nat.zero_le _, by omega, ?_⟩
    conv => whnf
    refine (sameA (lb := k) (B := A) ha0 (.inr (.inr ⟨p, N, b, l, rfl, hp, hs, hfl, by show k ≤ N; omega⟩)) (by omega) (by omega)).mono ?_
    rintro v H' ⟨rfl, rfl⟩
    conv => whnf
    exact ⟨rfl, rfl, rfl, rfl, rfl, rfl, rfl, trivial⟩
def s2 (va vb u : V) : Sl := [(46, .v (.bool true)), (52, .v u), (0, .v va), (1, .v vb)]
set_option maxRecDepth 100000 in
set_option maxHeartbeats 4000000 in
theorem part3 {H : Hp} {va vb u : V} {la n : Nat} {A C : Nat → R7} (ha : rowIn H va la A) (hu : rowIn H u n C) (hla : la ≤ 40) (hn : n ≤ 800) :
    aopsB Try.prog D 59 ops8.toList (ops8.toList.drop 22) (s2 va vb u) H (fun s' H' => get s' 6 = some (.v (.bool true))) := by
  conv => whnf
  refine (sameA hu ha (by omega) (by omega)).mono ?_
  rintro v H' ⟨rfl, rfl⟩
  conv => whnf
  refine (knownA _).mono ?_
  rintro v H' ⟨rfl, rfl⟩
  conv => whnf
  rfl
theorem size8 : ops8.size = 29 := by kernel_rfl
noncomputable def o19 : Oper := (ops8[19]?).getD default
noncomputable def o20 : Oper := (ops8[20]?).getD default
noncomputable def o21 : Oper := (ops8[21]?).getD default
theorem at19 : ops8[19]? = some o19 := by kernel_rfl
theorem at20 : ops8[20]? = some o20 := by kernel_rfl
theorem at21 : ops8[21]? = some o21 := by kernel_rfl
theorem op19 : o19.op = .slice 22 (.tmp 47) none (some (.tmp 48)) (some (.tmp 49)) := by kernel_rfl
theorem op20 : o20.op = .move (.tmp 1) := by kernel_rfl
theorem op21 : o21.op = .call ⟨.builtin .append, #[.tmp 50, .tmp 51], #[22, 22]⟩ := by kernel_rfl
theorem dst19 : o19.dst = some 50 := by kernel_rfl
theorem dst20 : o20.dst = some 51 := by kernel_rfl
theorem dst21 : o21.dst = some 52 := by kernel_rfl
theorem gd19 : o19.guard = some (15, true) := by kernel_rfl
theorem gd20 : o20.guard = some (15, true) := by kernel_rfl
theorem gd21 : o21.guard = some (15, true) := by kernel_rfl
theorem at15 : (ops8[15]?).bind (·.dst) = some 46 := by kernel_rfl
theorem range8 (i : Nat) (h : i < 29) : (List.range ops8.size).drop i = i :: (List.range ops8.size).drop (i + 1) := by
  rw [size8, List.drop_eq_getElem_cons (by simpa using h), List.getElem_range]
theorem want8 {R : Ren} {S : Sl} {a : Act} (h3 : SR R S a) (h : get S 46 = some (.v (.bool true))) (hs : a.tmps.size = 59) {o : Oper} (hg : o.guard = some (15, true)) : Region.wanted o (yielded ops8 a.tmps) = true := by
  have hv : a.tmps.getD 46 undef = .bool true := h3 46 _ h
  have hv : a.tmps[46]? = some (.bool true) := by
    rw [Array.getD_eq_getD_getElem?] at hv
    rw [Array.getElem?_eq_getElem (by omega)] at hv ⊢
    simpa using hv
  simp only [Region.wanted, hg, yielded, at15, Option.bind_some, hv]
  rfl
theorem SR_skip {R : Ren} {s : Sl} {a : Act} (h : SR R s a) {d : Nat} (hd : get s d = none) (x : Value) : SR R s (a.put (some d) x) := by
  intro t v hv
  have hne : d ≠ t := by rintro rfl; rw [hd] at hv; cases hv
  have := h t v hv
  rw [Array.getD_eq_getD_getElem?] at this ⊢
  simp only [Act.put]
  rw [Array.getElem?_setIfInBounds_ne hne]
  exact this
theorem region8 {H : Hp} {va vb : V} {la lb k : Nat} {A B : Nat → R7} {s : Sl} {Q : Exit → Sl → Hp → Prop} (ha : rowIn H va la A) (hb : rowIn H vb lb B) (hla : la ≤ 40) (hlb : lb ≤ 40) (hk : k ≤ la) (hs : subs (s0 va vb k) s)
    (hQ : ∀ s' H', get s' 6 = some (.v (.bool true)) → Q .normal s' H') : AWBs Try.prog 59 (.region 8 ops8 false) Q s H := by
  refine ⟨fun R w a h1 h2 h3 h4 b kk cs hbk => ?_⟩
  have hbe : b.kind ≠ .early := by rw [hbk]; simp
  refine Tends.ctl rfl (fun w => stepG_region) fun d => ?_
  have p1 := aopsB_part (l2 := ops8.toList.drop 19) dok und hbk (kk := kk) (cs := cs) (i := 0) (part1 ha hb hla hlb hk) (by rw [List.drop_zero, List.take_append_drop]) R (w.at d) a h1 h2 (fun t v hv => h3 t v (subs_get hs t v hv)) h4.at'
  rw [List.drop_zero] at p1
  refine p1.bind ?_
  rintro g w1 ⟨a1, ⟨s1', H1, R1, ⟨rfl, hs1⟩, f1, f2, f3, f4, f5⟩, rfl⟩
  have hl : 0 + (ops8.toList.take 19).length = 19 := by simp [size8]
  rw [hl, range8 19 (by decide)]
  have f3 : SR R1 (s1 va vb k) a1 := fun t v hv => f3 t v (subs_get hs1 t v hv)
  have xa : va.rel R1 (a1.eval (.tmp 47)) := f3 47 _ rfl
  obtain ⟨sa, cap, xs, ea, hcap, hsp, _, _⟩ := firstRow (k := 0) f4 ha xa (Nat.zero_le _)
  have e48 : a1.eval (.tmp 48) = .int .i64 k := f3 48 _ rfl
  have e49 : a1.eval (.tmp 49) = .int .i64 k := f3 49 _ rfl
  -- the cut
  refine Tends.op at19 (want8 f3 rfl f1 gd19) hbe (fine_sound und (by rw [op19]; rfl) _) fun d1 => ⟨_, _, .inl (run_slice3 op19 ea e48 e49 (by omega) hsp _), fun _ => ?_⟩
  rw [dst19, range8 20 (by decide)]
  have k3 : SR R1 (s1 va vb k) (a1.put (some 50) (.slice sa k k)) := SR_skip f3 rfl _
  have kd : (a1.put (some 50) (.slice sa k k)).defers = a1.defers := put_defers _ _ _
  have k1 : (a1.put (some 50) (.slice sa k k)).tmps.size = 59 := by rw [put_size]; exact f1
  have e50 : (a1.put (some 50) (.slice sa k k)).eval (.tmp 50) = .slice sa k k := by
    simp [Act.put, Act.eval, Array.getD_eq_getD_getElem?, f1]
  generalize a1.put (some 50) (.slice sa k k) = a2 at *
  -- the other row
  refine Tends.op at20 (want8 k3 rfl k1 gd20) hbe (fine_sound und (by rw [op20]; rfl) _) fun d2 => ⟨a2.eval (.tmp 1), _, .inl (by simp only [execOp, op20, Sem.run_pure]; rfl), fun _ => ?_⟩
  rw [dst20, range8 21 (by decide)]
  have xb : vb.rel R1 (a2.eval (.tmp 1)) := k3 1 _ rfl
  have m3 : SR R1 ((51, .v vb) :: s1 va vb k) (a2.put (some 51) (a2.eval (.tmp 1))) := k3.put (by omega) xb
  have m1 : (a2.put (some 51) (a2.eval (.tmp 1))).tmps.size = 59 := by rw [put_size]; exact k1
  have m50 : (a2.put (some 51) (a2.eval (.tmp 1))).eval (.tmp 50) = .slice sa k k := by
    rw [← e50]
    simp [Act.put, Act.eval, Array.getD_eq_getD_getElem?]
  have md : (a2.put (some 51) (a2.eval (.tmp 1))).defers = a2.defers := put_defers _ _ _
  generalize a2.put (some 51) (a2.eval (.tmp 1)) = a3 at *
  have xb : vb.rel R1 (a3.eval (.tmp 51)) := m3 51 _ rfl
  -- one behind the other
  rw [ea] at xa
  refine Tends.op at21 (want8 m3 rfl m1 gd21) hbe (fine_sound und (by rw [op21]; rfl) _) fun d3 => ?_
  obtain ⟨z, w4, hrun, u, bb, n, C, R4, hu, r4, g4, hrow, hn⟩ := tellsApp (ty := o21.type) ((f4.at' (d := d1)).at' (d := d2) |>.at' (d := d3)) ha hb xa xb hk (by omega) (by omega)
  refine ⟨z, w4, .inl (run_app (a := a3) op21 (by rw [m50]; exact hrun)), fun _ => ?_⟩
  rw [dst21]
  have g14 : Ae.Go R1 H1 w1 R4 (H1 ++ [bb]) w4 := ((Ae.Go.at'.trans Ae.Go.at').trans Ae.Go.at').trans g4
  have q3 := (m3.mono (g14.mono f4)).put (d := 52) (v := .v u) (x := z) (by omega) hu
  have q1 : (a3.put (some 52) z).tmps.size = 59 := by rw [put_size]; exact m1
  have q2 : (a3.put (some 52) z).defers = [] := by rw [put_defers, md, kd]; exact f2
  have p3 := aopsB_part (l2 := []) dok und hbk (kk := kk) (cs := cs) (i := 22) (part3 (rowIn.app ha) hrow hla hn) (by simp) R4 w4 _ q1 q2 (fun t v hv => q3 t v (subs_get (show subs (s2 va vb u) _ from ⟨rfl, rfl, rfl, rfl, trivial⟩) t v hv)) r4
  refine p3.bind ?_
  rintro g w5 ⟨a5, ⟨s5, H5, R5, hk5, z1, z2, z3, z4, z5⟩, rfl⟩
  have hl : 22 + (ops8.toList.drop 22).length = 29 := by simp [size8]
  rw [hl, List.drop_of_length_le (by simp [size8])]
  exact Tends.ctl rfl (fun w => stepG_region_end) fun d' => Tends.here ⟨.normal, a5, ⟨s5, H5, R5, hQ _ _ hk5, z1, z2, z3, z4.at', ((Ae.Go.at'.trans f5).trans (g14.trans z5)).trans Ae.Go.at'⟩, rfl⟩
end Go.Proofs.Ytpoknlbnookhjaa.Md
