/- The loop of streams, round by round, on whatever tape. -/
import Derived.Test.YtpoknlbnookhjaaFe
set_option linter.unusedVariables false
set_option linter.unusedSimpArgs false
namespace Go.Proofs.Ytpoknlbnookhjaa.Gt
open Go.Conc Go.RowKit Go.Spring Go.Proofs
open Go.ConcN (sumTo upd sumTo_upd upd_ne upd_same le_sumTo)

/-- The first n records, cell by cell. -/
def flatF (f : Nat → List Value) (n : Nat) : List Value := (List.range n).flatMap f
theorem flatF_succ (f : Nat → List Value) (n : Nat) : flatF f (n + 1) = flatF f n ++ f n := by
  unfold flatF
  rw [List.range_succ, List.flatMap_append]
  simp
/-- How it stands with one sender: its channel is left, n records have come; or it is done. -/
def PSt (po : Option Nat) (S : Nat → Option Sd) (j c : Nat) (f : Nat → List Value) (len n : Nat) : Prop :=
  n ≤ len ∧ ((po = some c ∧ (S j = some (.live c (vsFrom f len n)) ∨ (n = len ∧ ∃ m, S j = some (.shut c m)))) ∨ (po = none ∧ S j = none ∧ n = len))
theorem vsFrom_eq_nil {f : Nat → List Value} {len n : Nat} (h : vsFrom f len n = []) (hn : n ≤ len) : n = len := by
  rcases Nat.lt_or_ge n len with h' | h'
  · rw [vsFrom_cons h'] at h; cases h
  · omega
theorem PSt.later {po : Option Nat} {S S' : Nat → Option Sd} {j c : Nat} {f : Nat → List Value} {len n : Nat} (h : PSt po S j c f len n) (hL : Later S S') : PSt po S' j c f len n := by
  obtain ⟨hn, h⟩ := h
  refine ⟨hn, ?_⟩
  rcases hL j with e | ⟨c', m, e, e'⟩
  · rw [e]; exact h
  · rcases h with ⟨h1, h2 | ⟨h2, m', h3⟩⟩ | ⟨h1, h2, h3⟩
    · rw [e] at h2
      injection h2 with h2; injection h2 with h2 h3
      subst h2
      exact .inl ⟨h1, .inr ⟨vsFrom_eq_nil h3.symm hn, m, e'⟩⟩
    · rw [e] at h3; cases h3
    · rw [e] at h2; cases h2
theorem PSt.ch {po : Option Nat} {S : Nat → Option Sd} {j c : Nat} {f : Nat → List Value} {len n : Nat} (h : PSt po S j c f len n) (hp : po ≠ none) : po = some c ∧ ∃ s, S j = some s ∧ s.ch = c := by
  rcases h.2 with ⟨h1, h2 | ⟨_, m, h2⟩⟩ | ⟨h1, _⟩
  · exact ⟨h1, _, h2, rfl⟩
  · exact ⟨h1, _, h2, rfl⟩
  · exact absurd h1 hp
theorem PSt.other {po : Option Nat} {S S' : Nat → Option Sd} {j c : Nat} {f : Nat → List Value} {len n : Nat} (h : PSt po S j c f len n) (e : S' j = S j) : PSt po S' j c f len n := by
  unfold PSt at h ⊢
  rw [e]; exact h
theorem later_none {S S' : Nat → Option Sd} (h : Later S S') {i : Nat} (e : S i = none) : S' i = none := by
  rcases h i with h | ⟨c, m, h, _⟩
  · rw [h]; exact e
  · rw [e] at h; cases h
theorem comm0 (po qo : Option Nat) (v : Value) (ok : Bool) : commResult #[ccase po, ccase qo] .select ((0 : Nat) : Int) v ok = .tuple #[.int .i64 0, .bool ok, v, z25] := by
  simp [commResult, ccase, goInt]
theorem comm1 (po qo : Option Nat) (v : Value) (ok : Bool) : commResult #[ccase po, ccase qo] .select ((1 : Nat) : Int) v ok = .tuple #[.int .i64 1, .bool ok, z25, v] := by
  simp [commResult, ccase, goInt]
def z25L : List Value := [.int .u32 0, .int .u32 0, .int .i64 0, .bool false, .int .u32 0, .int .u32 0, .int .i64 0]
theorem one25 : ∀ u ∈ z25L, u.oneCell' = true := by
  intro u hu
  simp [z25L] at hu
  rcases hu with rfl | rfl | rfl | rfl | rfl | rfl | rfl <;> rfl

theorem loop_run {jA jB cA cB la lb : Nat} {fa fb : Nat → List Value} {W0 : World} {cs : List Frame} {rd : Nat → Nat → Prop} (hjj : jA ≠ jB) (rd0 : rd 0 = fun _ => False) (hla : la ≤ 100000) (hlb : lb ≤ 100000)
    (hfa : ∀ k, k < la → (fa k).length = 7 ∧ ∀ v ∈ fa k, v.oneCell' = true) (hfb : ∀ k, k < lb → (fb k).length = 7 ∧ ∀ v ∈ fb k, v.oneCell' = true) :
    ∀ (m : Nat) (gs : Array Goroutine) (sl : Option (Nat × Nat)) (T : Trace) (q : Nat → Nat) (w : World) (O : Nat → Own) (S : Nat → Option Sd) (vx : Value) (nx : Nat) (vy : Value) (ny : Nat) (po qo : Option Nat) (J : Nat → Value),
      m = (la - nx) + (lb - ny) + (if po.isSome then 1 else 0) + (if qo.isSome then 1 else 0) → gs[0]? = some (GH vx vy po qo J cs) → Frm Try.prog 40 4 rd S O T gs w q → KM (KE W0) vx nx (flatF fa nx) vy ny (flatF fb ny) O w →
      PSt po S jA cA fa la nx → PSt qo S jB cB fb lb ny → (∀ i, i ≠ jA → i ≠ jB → S i = none) → (po ≠ none ∨ qo ≠ none) →
      ∃ (K : Nat) (gs' : Array Goroutine) (sl' : Option (Nat × Nat)) (T' : Trace) (q' : Nat → Nat) (w' : World) (O' : Nat → Own) (S' : Nat → Option Sd) (vx' vy' : Value) (J' : Nat → Value),
        runNT Try.prog K (crowd gs w sl) T = (.next (crowd gs' w' sl'), T') ∧ gs'.size = gs.size ∧ gs'[0]? = some (GY vx' vy' J' cs) ∧ Frm Try.prog 40 4 rd S' O' T' gs' w' q' ∧ (∀ i, S' i = none) ∧ KM (KE W0) vx' la (flatF fa la) vy' lb (flatF fb lb) O' w' := by
  intro m
  induction m using Nat.strongRecOn with
  | _ m ih =>
  intro gs sl T q w O S vx nx vy ny po qo J hm h0 F hK hx hy hS hpq
  -- to the select
  obtain ⟨K1, gs1, a1, O1, w1, sl1, T1, q1, S1, hr1, hsz1, ha1, ⟨rfl, hK1⟩, F1, hL1⟩ := hold (Stop := fun g O w => g = GS vx vy po qo J cs ∧ KM (KE W0) vx nx (flatF fa nx) vy ny (flatF fb ny) O w) (n := 12) h0 F (by
    rw [rd0]
    exact to_sel (n := 0) (KM.stab (KE.quiet W0)) vx vy po qo J cs O w hK fun O w hK O₁ w₁ h => ⟨rfl, (KM.stab (KE.quiet W0)).rely _ _ _ _ hK h⟩)
  replace hx := hx.later hL1
  replace hy := hy.later hL1
  replace hS : ∀ i, i ≠ jA → i ≠ jB → S1 i = none := fun i h1 h2 => later_none hL1 (hS i h1 h2)
  -- it is served
  have hwho : ∀ x s, S1 x = some s → x = jA ∨ x = jB := fun x s h => by
    by_cases h1 : x = jA
    · exact .inl h1
    · by_cases h2 : x = jB
      · exact .inr h2
      · rw [hS x h1 h2] at h; cases h
  have hcc : ∀ (o : Option Nat) (j c : Nat) (f : Nat → List Value) (len n : Nat), PSt o S1 j c f len n → (∃ z, ccase o = ncase z) ∨ ∃ c z x s, ccase o = rcase c z ∧ S1 x = some s ∧ s.ch = c := by
    intro o j c f len n h
    cases ho : o with
    | none => exact .inl ⟨z25, rfl⟩
    | some c' =>
      obtain ⟨h1, s, h2, h3⟩ := h.ch (by rw [ho]; simp)
      rw [ho] at h1
      injection h1 with h1
      exact .inr ⟨c', z25, j, s, rfl, h2, by rw [h3, h1]⟩
  have hcAB : ∀ c, po = some c → qo = some c → False := by
    intro c e1 e2
    obtain ⟨g1, s, g2, g3⟩ := hx.ch (by rw [e1]; simp)
    obtain ⟨g4, t, g5, g6⟩ := hy.ch (by rw [e2]; simp)
    rw [e1] at g1; rw [e2] at g4
    injection g1 with g1; injection g4 with g4
    exact hjj (F1.inj jA jB s t g2 g5 (by rw [g3, g6, ← g1, ← g4]))
  have hcase : ∀ (k c : Nat) (z : Value), (#[ccase po, ccase qo] : Array CommCase)[k]? = some (rcase c z) → z = z25 ∧ ((k = 0 ∧ po = some c) ∨ (k = 1 ∧ qo = some c)) := by
    intro k c z h
    match k, h with
    | 0, h =>
      simp [ccase, rcase] at h
      exact ⟨h.2.symm, .inl ⟨rfl, h.1⟩⟩
    | 1, h =>
      simp [ccase, rcase] at h
      exact ⟨h.2.symm, .inr ⟨rfl, h.1⟩⟩
    | k + 2, h => simp at h
  obtain ⟨K2, m2, T2, hr2, gs2, O2, w2, sl2, q2, S2, S3, k, c, x, z, rfl, hsz2, hk, hR2, hL2, F2, hres⟩ := take (sl := sl1) ha1 F1 (sel_at vx vy po qo J cs) (fun cc hm => by
      simp only [List.mem_toArray, List.mem_cons, List.not_mem_nil, or_false] at hm
      rcases hm with rfl | rfl
      · exact hcc po jA cA fa la nx hx
      · exact hcc qo jB cB fb lb ny hy) (by
      rcases hpq with hp | hp
      · obtain ⟨h1, s, h2, h3⟩ := hx.ch hp
        exact ⟨cA, z25, jA, s, by rw [h1]; simp [ccase, rcase], h2, h3⟩
      · obtain ⟨h1, s, h2, h3⟩ := hy.ch hp
        exact ⟨cB, z25, jB, s, by rw [h1]; simp [ccase, rcase], h2, h3⟩) (fun k m c z z' h1 h2 => by
      rcases (hcase k c z h1).2 with ⟨rfl, e1⟩ | ⟨rfl, e1⟩ <;> rcases (hcase m c z' h2).2 with ⟨rfl, e2⟩ | ⟨rfl, e2⟩
      · rfl
      · exact (hcAB c e1 e2).elim
      · exact (hcAB c e2 e1).elim
      · rfl)
  obtain ⟨rfl, hkk⟩ := hcase k c z hk
  have hK2 := (KM.stab (KE.quiet W0)).rely _ _ _ _ hK1 hR2
  have hSB := KE.quiet W0
  have hx1 := hx
  have hy1 := hy
  replace hx := hx.later hL2
  replace hy := hy.later hL2
  replace hS : ∀ i, i ≠ jA → i ≠ jB → S2 i = none := fun i h1 h2 => later_none hL2 (hS i h1 h2)
  rcases hkk with ⟨rfl, hpo⟩ | ⟨rfl, hqo⟩
  · have hxc : cA = c := by
      obtain ⟨h1, _⟩ := hx.ch (by rw [hpo]; simp)
      rw [hpo] at h1
      injection h1 with h1
      exact h1.symm
    have hxj : jA = x := by
      have : ∃ t, S1 x = some t ∧ t.ch = c := by
        rcases hres with ⟨v, vs, h, _⟩ | ⟨⟨s, h, h', _⟩, _⟩
        · exact ⟨_, h, rfl⟩
        · exact ⟨s, h, h'⟩
      obtain ⟨t, ht, htc⟩ := this
      obtain ⟨s, hs, hsc⟩ : ∃ s, S1 jA = some s ∧ s.ch = cA := by
        obtain ⟨_, s, h2, h3⟩ := hx1.ch (by rw [hpo]; simp)
        exact ⟨s, h2, h3⟩
      exact (F1.inj x jA t s ht hs (by rw [htc, hsc, hxc])).symm
    subst hxj
    subst hxc
    rcases hres with ⟨v, vs, hs1, rfl, hg⟩ | ⟨⟨s, hs1, hsc, hsk⟩, rfl, hg⟩
    · -- a record
      have hvs : nx < la ∧ v = .agg (fa nx).toArray ∧ vs = vsFrom fa la (nx + 1) := by
        rcases hx1.2 with ⟨_, h2 | ⟨_, m, h2⟩⟩ | ⟨h1, _⟩
        · rw [hs1] at h2
          injection h2 with h2; injection h2 with _ h2
          rcases Nat.lt_or_ge nx la with h' | h'
          · rw [vsFrom_cons h'] at h2
            injection h2 with h3 h4
            exact ⟨h', h3, h4⟩
          · rw [vsFrom_nil h'] at h2; cases h2
        · rw [hs1] at h2; cases h2
        · rw [h1] at hpo; cases hpo
      obtain ⟨hlt, rfl, rfl⟩ := hvs
      obtain ⟨hl7, h1c⟩ := hfa nx hlt
      have hoth : ∀ i, i ≠ jA → upd S2 jA (some (.live cA (vsFrom fa la (nx + 1)))) i = S2 i := fun i h => upd_ne S2 _ h
      cases hq : qo with
      | some d =>
        subst hq
        subst hpo
        obtain ⟨K3, gs3, a3, O3, w3, sl3, T3, q3, S4, hr3, hsz3, ha3, ⟨v', J3, rfl, hK3⟩, F3, hL3⟩ := hold (sl := sl2) (n := 53) (Stop := fun g O w => ∃ v' J, g = GH v' vy (some cA) (some d) J cs ∧ KM (KE W0) v' (nx + 1) (flatF fa nx ++ fa nx) vy ny (flatF fb ny) O w) hg F2 (by
          rw [rd0, comm0]
          exact case0_ok (n := 13) hSB hl7 h1c (by omega) (some cA) (some d) J cs O2 w2 hK2 fun v' J O w hK => z_ss (n := 0) (KM.stab hSB) v' vy cA d J cs O w hK fun J O w hK O₁ w₁ h => ⟨v', J, rfl, (KM.stab hSB).rely _ _ _ _ hK h⟩)
        rw [← flatF_succ] at hK3
        have hA3 : PSt (some cA) S4 jA cA fa la (nx + 1) := PSt.later (S := upd S2 jA (some (.live cA (vsFrom fa la (nx + 1))))) ⟨by omega, .inl ⟨rfl, .inl (upd_same _ _ _)⟩⟩ hL3
        have hB3 : PSt (some d) S4 jB cB fb lb ny := PSt.later (hy.other (hoth jB (Ne.symm hjj))) hL3
        have hS3 : ∀ i, i ≠ jA → i ≠ jB → S4 i = none := fun i h1 h2 => later_none hL3 (by rw [hoth i h1]; exact hS i h1 h2)
        obtain ⟨K4, gs4, sl4, T4, q4, w4, O4, S5, vx', vy', J', hr4, hsz4, ha4, F4, hS4, hK4⟩ := ih (m - 1) (by simp at hm; omega) gs3 sl3 T3 q3 w3 O3 S4 v' (nx + 1) vy ny (some cA) (some d) J3 (by simp at hm ⊢; omega) ha3 F3 hK3 hA3 hB3 hS3 (by simp)
        exact ⟨_, gs4, sl4, T4, q4, w4, O4, S5, vx', vy', J', runNT_then hr1 (runNT_then hr2 (runNT_then hr3 hr4)), by omega, ha4, F4, hS4, hK4⟩
      | none =>
        subst hq
        subst hpo
        obtain ⟨K3, gs3, a3, O3, w3, sl3, T3, q3, S4, hr3, hsz3, ha3, ⟨v', J3, rfl, hK3⟩, F3, hL3⟩ := hold (sl := sl2) (n := 53) (Stop := fun g O w => ∃ v' J, g = GH v' vy (some cA) none J cs ∧ KM (KE W0) v' (nx + 1) (flatF fa nx ++ fa nx) vy ny (flatF fb ny) O w) hg F2 (by
          rw [rd0, comm0]
          exact case0_ok (n := 13) hSB hl7 h1c (by omega) (some cA) none J cs O2 w2 hK2 fun v' J O w hK => z_sn (n := 0) (KM.stab hSB) v' vy cA J cs O w hK fun J O w hK O₁ w₁ h => ⟨v', J, rfl, (KM.stab hSB).rely _ _ _ _ hK h⟩)
        rw [← flatF_succ] at hK3
        have hA3 : PSt (some cA) S4 jA cA fa la (nx + 1) := PSt.later (S := upd S2 jA (some (.live cA (vsFrom fa la (nx + 1))))) ⟨by omega, .inl ⟨rfl, .inl (upd_same _ _ _)⟩⟩ hL3
        have hB3 : PSt none S4 jB cB fb lb ny := PSt.later (hy.other (hoth jB (Ne.symm hjj))) hL3
        have hS3 : ∀ i, i ≠ jA → i ≠ jB → S4 i = none := fun i h1 h2 => later_none hL3 (by rw [hoth i h1]; exact hS i h1 h2)
        obtain ⟨K4, gs4, sl4, T4, q4, w4, O4, S5, vx', vy', J', hr4, hsz4, ha4, F4, hS4, hK4⟩ := ih (m - 1) (by simp at hm; omega) gs3 sl3 T3 q3 w3 O3 S4 v' (nx + 1) vy ny (some cA) none J3 (by simp at hm ⊢; omega) ha3 F3 hK3 hA3 hB3 hS3 (by simp)
        exact ⟨_, gs4, sl4, T4, q4, w4, O4, S5, vx', vy', J', runNT_then hr1 (runNT_then hr2 (runNT_then hr3 hr4)), by omega, ha4, F4, hS4, hK4⟩
    · -- closed
      have hnl : nx = la := by
        rcases hx1.2 with ⟨_, h2 | ⟨h2, _⟩⟩ | ⟨h1, _⟩
        · rw [hs1] at h2
          injection h2 with h2
          rcases hsk with ⟨m, rfl⟩ | rfl
          · cases h2
          · injection h2 with _ h2
            exact vsFrom_eq_nil h2.symm hx.1
        · exact h2
        · rw [h1] at hpo; cases hpo
      have hoth : ∀ i, i ≠ jA → upd S2 jA none i = S2 i := fun i h => upd_ne S2 _ h
      cases hq : qo with
      | some d =>
        subst hq
        subst hpo
        obtain ⟨K3, gs3, a3, O3, w3, sl3, T3, q3, S4, hr3, hsz3, ha3, ⟨J3, rfl, hK3⟩, F3, hL3⟩ := hold (sl := sl2) (n := 53) (Stop := fun g O w => ∃ J, g = GH vx vy none (some d) J cs ∧ KM (KE W0) vx nx (flatF fa nx) vy ny (flatF fb ny) O w) hg F2 (by
          rw [rd0, comm0]
          exact case0_no (n := 13) (va := z25L) hSB rfl one25 (by omega) (some cA) (some d) J cs O2 w2 hK2 fun J O w hK => z_ns (n := 0) (KM.stab hSB) vx vy d J cs O w hK fun J O w hK O₁ w₁ h => ⟨J, rfl, (KM.stab hSB).rely _ _ _ _ hK h⟩)
        have hA3 : PSt none S4 jA cA fa la nx := PSt.later (S := upd S2 jA none) ⟨hx.1, .inr ⟨rfl, upd_same _ _ _, hnl⟩⟩ hL3
        have hB3 : PSt (some d) S4 jB cB fb lb ny := PSt.later (hy.other (hoth jB (Ne.symm hjj))) hL3
        have hS3 : ∀ i, i ≠ jA → i ≠ jB → S4 i = none := fun i h1 h2 => later_none hL3 (by rw [hoth i h1]; exact hS i h1 h2)
        obtain ⟨K4, gs4, sl4, T4, q4, w4, O4, S5, vx', vy', J', hr4, hsz4, ha4, F4, hS4, hK4⟩ := ih (m - 1) (by simp at hm; omega) gs3 sl3 T3 q3 w3 O3 S4 vx nx vy ny none (some d) J3 (by simp at hm ⊢; omega) ha3 F3 hK3 hA3 hB3 hS3 (by simp)
        exact ⟨_, gs4, sl4, T4, q4, w4, O4, S5, vx', vy', J', runNT_then hr1 (runNT_then hr2 (runNT_then hr3 hr4)), by omega, ha4, F4, hS4, hK4⟩
      | none =>
        subst hq
        subst hpo
        obtain ⟨K3, gs3, a3, O3, w3, sl3, T3, q3, S4, hr3, hsz3, ha3, ⟨J3, rfl, hK3⟩, F3, hL3⟩ := hold (sl := sl2) (n := 53) (Stop := fun g O w => ∃ J, g = GY vx vy J cs ∧ KM (KE W0) vx nx (flatF fa nx) vy ny (flatF fb ny) O w) hg F2 (by
          rw [rd0, comm0]
          exact case0_no (n := 13) (va := z25L) hSB rfl one25 (by omega) (some cA) none J cs O2 w2 hK2 fun J O w hK => z_nn (n := 0) (KM.stab hSB) vx vy J cs O w hK fun J O w hK O₁ w₁ h => ⟨J, rfl, (KM.stab hSB).rely _ _ _ _ hK h⟩)
        have hA3 : PSt none S4 jA cA fa la nx := PSt.later (S := upd S2 jA none) ⟨hx.1, .inr ⟨rfl, upd_same _ _ _, hnl⟩⟩ hL3
        have hB3 : PSt none S4 jB cB fb lb ny := PSt.later (hy.other (hoth jB (Ne.symm hjj))) hL3
        have hS3 : ∀ i, i ≠ jA → i ≠ jB → S4 i = none := fun i h1 h2 => later_none hL3 (by rw [hoth i h1]; exact hS i h1 h2)
        have hnl2 : ny = lb := by
          rcases hB3.2 with ⟨h1, _⟩ | ⟨_, _, h3⟩
          · cases h1
          · exact h3
        have hall : ∀ i, S4 i = none := by
          intro i
          by_cases h1 : i = jA
          · subst h1
            rcases hA3.2 with ⟨h1, _⟩ | ⟨_, h2, _⟩
            · cases h1
            · exact h2
          · by_cases h2 : i = jB
            · subst h2
              rcases hB3.2 with ⟨h1, _⟩ | ⟨_, h2, _⟩
              · cases h1
              · exact h2
            · exact hS3 i h1 h2
        subst hnl
        subst hnl2
        exact ⟨_, gs3, sl3, T3, q3, w3, O3, S4, vx, vy, J3, runNT_then hr1 (runNT_then hr2 hr3), by omega, ha3, F3, hall, hK3⟩
  · have hxc : cB = c := by
      obtain ⟨h1, _⟩ := hy.ch (by rw [hqo]; simp)
      rw [hqo] at h1
      injection h1 with h1
      exact h1.symm
    have hxj : jB = x := by
      have : ∃ t, S1 x = some t ∧ t.ch = c := by
        rcases hres with ⟨v, vs, h, _⟩ | ⟨⟨s, h, h', _⟩, _⟩
        · exact ⟨_, h, rfl⟩
        · exact ⟨s, h, h'⟩
      obtain ⟨t, ht, htc⟩ := this
      obtain ⟨s, hs, hsc⟩ : ∃ s, S1 jB = some s ∧ s.ch = cB := by
        obtain ⟨_, s, h2, h3⟩ := hy1.ch (by rw [hqo]; simp)
        exact ⟨s, h2, h3⟩
      exact (F1.inj x jB t s ht hs (by rw [htc, hsc, hxc])).symm
    subst hxj
    subst hxc
    rcases hres with ⟨v, vs, hs1, rfl, hg⟩ | ⟨⟨s, hs1, hsc, hsk⟩, rfl, hg⟩
    · -- a record
      have hvs : ny < lb ∧ v = .agg (fb ny).toArray ∧ vs = vsFrom fb lb (ny + 1) := by
        rcases hy1.2 with ⟨_, h2 | ⟨_, m, h2⟩⟩ | ⟨h1, _⟩
        · rw [hs1] at h2
          injection h2 with h2; injection h2 with _ h2
          rcases Nat.lt_or_ge ny lb with h' | h'
          · rw [vsFrom_cons h'] at h2
            injection h2 with h3 h4
            exact ⟨h', h3, h4⟩
          · rw [vsFrom_nil h'] at h2; cases h2
        · rw [hs1] at h2; cases h2
        · rw [h1] at hqo; cases hqo
      obtain ⟨hlt, rfl, rfl⟩ := hvs
      obtain ⟨hl7, h1c⟩ := hfb ny hlt
      have hoth : ∀ i, i ≠ jB → upd S2 jB (some (.live cB (vsFrom fb lb (ny + 1)))) i = S2 i := fun i h => upd_ne S2 _ h
      cases hq : po with
      | some d =>
        subst hq
        subst hqo
        obtain ⟨K3, gs3, a3, O3, w3, sl3, T3, q3, S4, hr3, hsz3, ha3, ⟨v', J3, rfl, hK3⟩, F3, hL3⟩ := hold (sl := sl2) (n := 53) (Stop := fun g O w => ∃ v' J, g = GH vx v' (some d) (some cB) J cs ∧ KM (KE W0) vx nx (flatF fa nx) v' (ny + 1) (flatF fb ny ++ fb ny) O w) hg F2 (by
          rw [rd0, comm1]
          exact case1_ok (n := 13) hSB hl7 h1c (by omega) (some d) (some cB) J cs O2 w2 hK2 fun v' J O w hK => z_ss (n := 0) (KM.stab hSB) vx v' d cB J cs O w hK fun J O w hK O₁ w₁ h => ⟨v', J, rfl, (KM.stab hSB).rely _ _ _ _ hK h⟩)
        rw [← flatF_succ] at hK3
        have hA3 : PSt (some cB) S4 jB cB fb lb (ny + 1) := PSt.later (S := upd S2 jB (some (.live cB (vsFrom fb lb (ny + 1))))) ⟨by omega, .inl ⟨rfl, .inl (upd_same _ _ _)⟩⟩ hL3
        have hB3 : PSt (some d) S4 jA cA fa la nx := PSt.later (hx.other (hoth jA (Ne.symm (Ne.symm hjj)))) hL3
        have hS3 : ∀ i, i ≠ jA → i ≠ jB → S4 i = none := fun i h1 h2 => later_none hL3 (by rw [hoth i h2]; exact hS i h1 h2)
        obtain ⟨K4, gs4, sl4, T4, q4, w4, O4, S5, vx', vy', J', hr4, hsz4, ha4, F4, hS4, hK4⟩ := ih (m - 1) (by simp at hm; omega) gs3 sl3 T3 q3 w3 O3 S4 vx nx v' (ny + 1) (some d) (some cB) J3 (by simp at hm ⊢; omega) ha3 F3 hK3 hB3 hA3 hS3 (by simp)
        exact ⟨_, gs4, sl4, T4, q4, w4, O4, S5, vx', vy', J', runNT_then hr1 (runNT_then hr2 (runNT_then hr3 hr4)), by omega, ha4, F4, hS4, hK4⟩
      | none =>
        subst hq
        subst hqo
        obtain ⟨K3, gs3, a3, O3, w3, sl3, T3, q3, S4, hr3, hsz3, ha3, ⟨v', J3, rfl, hK3⟩, F3, hL3⟩ := hold (sl := sl2) (n := 53) (Stop := fun g O w => ∃ v' J, g = GH vx v' none (some cB) J cs ∧ KM (KE W0) vx nx (flatF fa nx) v' (ny + 1) (flatF fb ny ++ fb ny) O w) hg F2 (by
          rw [rd0, comm1]
          exact case1_ok (n := 13) hSB hl7 h1c (by omega) none (some cB) J cs O2 w2 hK2 fun v' J O w hK => z_ns (n := 0) (KM.stab hSB) vx v' cB J cs O w hK fun J O w hK O₁ w₁ h => ⟨v', J, rfl, (KM.stab hSB).rely _ _ _ _ hK h⟩)
        rw [← flatF_succ] at hK3
        have hA3 : PSt (some cB) S4 jB cB fb lb (ny + 1) := PSt.later (S := upd S2 jB (some (.live cB (vsFrom fb lb (ny + 1))))) ⟨by omega, .inl ⟨rfl, .inl (upd_same _ _ _)⟩⟩ hL3
        have hB3 : PSt none S4 jA cA fa la nx := PSt.later (hx.other (hoth jA (Ne.symm (Ne.symm hjj)))) hL3
        have hS3 : ∀ i, i ≠ jA → i ≠ jB → S4 i = none := fun i h1 h2 => later_none hL3 (by rw [hoth i h2]; exact hS i h1 h2)
        obtain ⟨K4, gs4, sl4, T4, q4, w4, O4, S5, vx', vy', J', hr4, hsz4, ha4, F4, hS4, hK4⟩ := ih (m - 1) (by simp at hm; omega) gs3 sl3 T3 q3 w3 O3 S4 vx nx v' (ny + 1) none (some cB) J3 (by simp at hm ⊢; omega) ha3 F3 hK3 hB3 hA3 hS3 (by simp)
        exact ⟨_, gs4, sl4, T4, q4, w4, O4, S5, vx', vy', J', runNT_then hr1 (runNT_then hr2 (runNT_then hr3 hr4)), by omega, ha4, F4, hS4, hK4⟩
    · -- closed
      have hnl : ny = lb := by
        rcases hy1.2 with ⟨_, h2 | ⟨h2, _⟩⟩ | ⟨h1, _⟩
        · rw [hs1] at h2
          injection h2 with h2
          rcases hsk with ⟨m, rfl⟩ | rfl
          · cases h2
          · injection h2 with _ h2
            exact vsFrom_eq_nil h2.symm hy.1
        · exact h2
        · rw [h1] at hqo; cases hqo
      have hoth : ∀ i, i ≠ jB → upd S2 jB none i = S2 i := fun i h => upd_ne S2 _ h
      cases hq : po with
      | some d =>
        subst hq
        subst hqo
        obtain ⟨K3, gs3, a3, O3, w3, sl3, T3, q3, S4, hr3, hsz3, ha3, ⟨J3, rfl, hK3⟩, F3, hL3⟩ := hold (sl := sl2) (n := 53) (Stop := fun g O w => ∃ J, g = GH vx vy (some d) none J cs ∧ KM (KE W0) vx nx (flatF fa nx) vy ny (flatF fb ny) O w) hg F2 (by
          rw [rd0, comm1]
          exact case1_no (n := 13) (va := z25L) hSB rfl one25 (by omega) (some d) (some cB) J cs O2 w2 hK2 fun J O w hK => z_sn (n := 0) (KM.stab hSB) vx vy d J cs O w hK fun J O w hK O₁ w₁ h => ⟨J, rfl, (KM.stab hSB).rely _ _ _ _ hK h⟩)
        have hA3 : PSt none S4 jB cB fb lb ny := PSt.later (S := upd S2 jB none) ⟨hy.1, .inr ⟨rfl, upd_same _ _ _, hnl⟩⟩ hL3
        have hB3 : PSt (some d) S4 jA cA fa la nx := PSt.later (hx.other (hoth jA (Ne.symm (Ne.symm hjj)))) hL3
        have hS3 : ∀ i, i ≠ jA → i ≠ jB → S4 i = none := fun i h1 h2 => later_none hL3 (by rw [hoth i h2]; exact hS i h1 h2)
        obtain ⟨K4, gs4, sl4, T4, q4, w4, O4, S5, vx', vy', J', hr4, hsz4, ha4, F4, hS4, hK4⟩ := ih (m - 1) (by simp at hm; omega) gs3 sl3 T3 q3 w3 O3 S4 vx nx vy ny (some d) none J3 (by simp at hm ⊢; omega) ha3 F3 hK3 hB3 hA3 hS3 (by simp)
        exact ⟨_, gs4, sl4, T4, q4, w4, O4, S5, vx', vy', J', runNT_then hr1 (runNT_then hr2 (runNT_then hr3 hr4)), by omega, ha4, F4, hS4, hK4⟩
      | none =>
        subst hq
        subst hqo
        obtain ⟨K3, gs3, a3, O3, w3, sl3, T3, q3, S4, hr3, hsz3, ha3, ⟨J3, rfl, hK3⟩, F3, hL3⟩ := hold (sl := sl2) (n := 53) (Stop := fun g O w => ∃ J, g = GY vx vy J cs ∧ KM (KE W0) vx nx (flatF fa nx) vy ny (flatF fb ny) O w) hg F2 (by
          rw [rd0, comm1]
          exact case1_no (n := 13) (va := z25L) hSB rfl one25 (by omega) none (some cB) J cs O2 w2 hK2 fun J O w hK => z_nn (n := 0) (KM.stab hSB) vx vy J cs O w hK fun J O w hK O₁ w₁ h => ⟨J, rfl, (KM.stab hSB).rely _ _ _ _ hK h⟩)
        have hA3 : PSt none S4 jB cB fb lb ny := PSt.later (S := upd S2 jB none) ⟨hy.1, .inr ⟨rfl, upd_same _ _ _, hnl⟩⟩ hL3
        have hB3 : PSt none S4 jA cA fa la nx := PSt.later (hx.other (hoth jA (Ne.symm (Ne.symm hjj)))) hL3
        have hS3 : ∀ i, i ≠ jA → i ≠ jB → S4 i = none := fun i h1 h2 => later_none hL3 (by rw [hoth i h2]; exact hS i h1 h2)
        have hnl2 : nx = la := by
          rcases hB3.2 with ⟨h1, _⟩ | ⟨_, _, h3⟩
          · cases h1
          · exact h3
        have hall : ∀ i, S4 i = none := by
          intro i
          by_cases h1 : i = jA
          · subst h1
            rcases hB3.2 with ⟨h1, _⟩ | ⟨_, h2, _⟩
            · cases h1
            · exact h2
          · by_cases h2 : i = jB
            · subst h2
              rcases hA3.2 with ⟨h1, _⟩ | ⟨_, h2, _⟩
              · cases h1
              · exact h2
            · exact hS3 i h1 h2
        subst hnl
        subst hnl2
        exact ⟨_, gs3, sl3, T3, q3, w3, O3, S4, vx, vy, J3, runNT_then hr1 (runNT_then hr2 hr3), by omega, ha3, F3, hall, hK3⟩
end Go.Proofs.Ytpoknlbnookhjaa.Gt
