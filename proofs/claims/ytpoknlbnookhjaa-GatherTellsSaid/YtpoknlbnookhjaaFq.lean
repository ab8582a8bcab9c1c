/- streams, beside goroutines that only leave: on whatever tape it returns what the two rows hold, record by record, in new memory; all others only leave. -/
import Derived.Test.YtpoknlbnookhjaaFr
set_option linter.unusedVariables false
set_option linter.unusedSimpArgs false
namespace Go.Proofs.Ytpoknlbnookhjaa.Gt
open Go.Conc Go.RowKit Go.Spring Go.Proofs
open Go.ConcN (sumTo upd sumTo_upd upd_ne upd_same le_sumTo)

/-- The elements of a row that came in. -/
def Els (W : World) (s : Option Addr) (len : Nat) (f : Nat → List Value) : Prop := ∀ i, i < len → ∃ ab ao, s = some ⟨ab, ao, none⟩ ∧ At W ab (ao + i * 7) (f i)
theorem give_rs {G : Nat → Prop} {c : Nat} {O O' : Nat → Own} {w w' : World} (hG : ∀ b, G b → O b = .of 0) (hc : O c = .of 0) (h : Rl 0 (give G c O) w O' w') : Rs O w O' w' := by
  have key : ∀ b, O b = .still → give G c O b = .still := fun b e => by
    by_cases h1 : b = c
    · subst h1; rw [hc] at e; cases e
    · by_cases h2 : G b
      · exact give_G h1 h2
      · rw [give_o h1 h2]; exact e
  exact ⟨h.size, fun b hb e => (h.own b hb).1 (key b e), fun b hb e => h.keep b hb (.inl (key b e)), h.rest⟩
/-- What the sender leans on, at its birth. -/
theorem kj_birth {j rB kB c : Nat} {s : Option Addr} {len cap : Nat} {f : Nat → List Value} {W0 : World} {O O₁ : Nat → Own} {w w₁ : World} (hf : ∀ k, k < len → (f k).length = 7 ∧ ∀ v ∈ f k, v.oneCell' = true) (hE : Els W0 s len f) (hK : KE W0 O w)
    (Br : Blk 0 rB (.cells #[.slice s len cap] 22 (0, 0)) O w) (Bc : Blk 0 c (.chan 0 #[] false 0 0 false) O w) (Bk : Blk 0 kB (.cells #[.chan (some c)] 41 (0, 0)) O w)
    (hR : Rs (give (fun b => b = rB ∨ b = kB) c O) w O₁ w₁) : KJ j rB kB c s len cap f (fun b => b < w.heap.size ∧ (b = c ∨ (b = rB ∨ b = kB) ∨ O b = .still)) O₁ w₁ := by
  have hrc : rB ≠ c := by
    rintro rfl
    have := Br.row; rw [Bc.row] at this; cases this
  have hkc : kB ≠ c := by
    rintro rfl
    have := Bk.row; rw [Bc.row] at this; cases this
  have gr : give (fun b => b = rB ∨ b = kB) c O rB = .still := give_G hrc (.inl rfl)
  have gk : give (fun b => b = rB ∨ b = kB) c O kB = .still := give_G hkc (.inr rfl)
  refine ⟨?_, ⟨hR.own rB Br.lt gr, Nat.lt_of_lt_of_le Br.lt hR.size, Br.lt, .inr (.inl (.inl rfl))⟩, ?_, ⟨hR.own kB Bk.lt gk, Nat.lt_of_lt_of_le Bk.lt hR.size, Bk.lt, .inr (.inl (.inr rfl))⟩, fun i hi => ?_⟩
  · rw [cell_heap (hR.keep rB Br.lt gr)]
    simp [World.cell?, Br.row]
  · rw [cell_heap (hR.keep kB Bk.lt gk)]
    simp [World.cell?, Bk.row]
  · obtain ⟨ab, ao, e, hat⟩ := hE i hi
    have hne : f i ≠ [] := fun e => by have := (hf i hi).1; rw [e] at this; cases this
    have hab := hat.lt hne
    obtain ⟨h1, h2⟩ := hK.low ab hab
    have hlt := Nat.lt_of_lt_of_le hab hK.size
    have ga : give (fun b => b = rB ∨ b = kB) c O ab = .still := by
      have n1 : ab ≠ c := by rintro rfl; rw [Bc.own] at h1; cases h1
      have n2 : ¬ (ab = rB ∨ ab = kB) := by
        rintro (h | h)
        · rw [h, Br.own] at h1; cases h1
        · rw [h, Bk.own] at h1; cases h1
      rw [give_o n1 n2]
      exact h1
    exact ⟨ab, ao, e, (hat.heap h2).heap (hR.keep ab hlt ga), hR.own ab hlt ga, Nat.lt_of_lt_of_le hlt hR.size, hlt, .inr (.inr h1)⟩
theorem kv_after {rB kB c : Nat} {O O' : Nat → Own} {w w' : World} (Bc : Blk 0 c (.chan 0 #[] false 0 0 false) O w) (Bk : Blk 0 kB (.cells #[.chan (some c)] 41 (0, 0)) O w) (hR : Rl 0 (give (fun b => b = rB ∨ b = kB) c O) w O' w') : Kv kB c O' w' := by
  have hkc : kB ≠ c := by
    rintro rfl
    have := Bk.row; rw [Bc.row] at this; cases this
  have gk : give (fun b => b = rB ∨ b = kB) c O kB = .still := give_G hkc (.inr rfl)
  refine ⟨(hR.own kB Bk.lt).1 gk, Nat.lt_of_lt_of_le Bk.lt hR.size, ?_⟩
  rw [cell_heap (hR.keep kB Bk.lt (.inl gk))]
  simp [World.cell?, Bk.row]

theorem streams_run {gs : Array Goroutine} {sl : Option (Nat × Nat)} {T : Trace} {q : Nat → Nat} {cs : List Frame} {w : World} {sa sb : Option Addr} {la ca lb cb : Nat} {fa fb : Nat → List Value}
    (h0 : gs[0]? = some (GE sa sb la ca lb cb cs)) (hL : Leavers Try.prog T gs q) (hP : Past (fun _ => False) w.heap.size T) (hla : la ≤ 100000) (hlb : lb ≤ 100000)
    (hfa : ∀ k, k < la → (fa k).length = 7 ∧ ∀ v ∈ fa k, v.oneCell' = true) (hfb : ∀ k, k < lb → (fb k).length = 7 ∧ ∀ v ∈ fb k, v.oneCell' = true) (hEa : Els w sa la fa) (hEb : Els w sb lb fb) :
    ∃ (K : Nat) (gs' : Array Goroutine) (sl' : Option (Nat × Nat)) (T' : Trace) (q' : Nat → Nat) (w' : World) (fr : Frame) (vx vy : Value),
      runNT Try.prog K (crowd gs w sl) T = (.next (crowd gs' w' sl'), T') ∧ gs'[0]? = some (G fr cs) ∧ fr.fn = 11 ∧ fr.leaving Try.prog w' (.returned (.tuple #[vx, vy])) ∧ Leavers Try.prog T' gs' q' ∧ Past (fun _ => False) w'.heap.size T' ∧
      w.heap.size ≤ w'.heap.size ∧ (∀ b, b < w.heap.size → w'.heap[b]? = w.heap[b]?) ∧ (∃ d h, w' = { w with heap := h, drawn := d }) ∧
      w'.ownsRow w.heap.size 25 7 vx la (flatF fa la) ∧ w'.ownsRow w.heap.size 25 7 vy lb (flatF fb lb) ∧ (∀ g, vx.ownBlock = some g → vy.ownBlock ≠ some g) := by
  have hq := KE.quiet w
  have hlt0 : 0 < gs.size := (Array.getElem?_eq_some_iff.1 h0).1
  have F0 := Frm.begin 40 4 h0 hL hP
  have hK0 : KE w (fun b => if b < w.heap.size then .still else .of 0) w := ⟨Nat.le_refl _, fun b hb => ⟨if_pos hb, rfl⟩, w.drawn, w.heap, rfl⟩
  -- the first sender
  obtain ⟨K1, gs1, a1, O1, w1, sl1, T1, q1, S1, hr1, hsz1, ha1, ⟨hrun1, a1', rA, cA, kA, hgo1, ⟨rA', hae1⟩, hKE1, BrA, BcA, BkA⟩, F1, hL1⟩ := hold (sl := sl) h0 F0 (enter1 sa sb la ca lb cb (hq.stab 0) cs _ w hK0)
  have hS1 : ∀ i, S1 i = none := fun i => later_none hL1 rfl
  have hG1 : ∀ b, (b = rA ∨ b = kA) → O1 b = .of 0 ∧ b < w1.heap.size := by
    rintro b (rfl | rfl)
    · exact ⟨BrA.own, BrA.lt⟩
    · exact ⟨BkA.own, BkA.lt⟩
  have hj1 : gs1.size ≠ 0 := by omega
  obtain ⟨K2, gs2, O2, w2, sl2, T2, q2, S2, hr2, hsz2, ha2, hR2, hL2, F2⟩ := spawn (sl := sl1) (G := fun b => b = rA ∨ b = kA) (r := fun b => b < w1.heap.size ∧ (b = cA ∨ (b = rA ∨ b = kA) ∨ O1 b = .still)) (vs := vsFrom fa la 0) ha1 F1 hrun1 hgo1 hG1 BcA.own BcA.lt BcA.row (fun b h => h) ⟨BcA.lt, .inl rfl⟩
    (fun O₁ w₁ hR => at_birth hj1 (by omega) hfa O₁ w₁ (kj_birth hfa hEa hKE1 BrA BcA BkA hR))
  have hKE2 : KE w O2 w2 := hq.rely _ _ _ _ hKE1 (give_rs (fun b h => (hG1 b h).1) BcA.own hR2)
  have hKv2 := kv_after BcA BkA hR2
  rw [hae1] at ha2
  -- the second
  have e0 : rdN (fun _ _ => False) gs1.size (fun b => b < w1.heap.size ∧ (b = cA ∨ (b = rA ∨ b = kA) ∨ O1 b = .still)) 0 = fun _ => False := rdN_o (Ne.symm hj1)
  obtain ⟨K3, gs3, a3, O3, w3, sl3, T3, q3, S3, hr3, hsz3, ha3, ⟨hrun3, a3', rB, cB, kB, hgo3, ⟨rB', hae3⟩, hKE3, BrB, BcB, BkB⟩, F3, hL3⟩ := hold (sl := sl2) (n := 50) ha2 F2 (by rw [e0]; exact enter2 sa sb la ca lb cb (hq.stab 0) cs O2 w2 rA' cA kA ⟨hKE2, hKv2⟩)
  have hG3 : ∀ b, (b = rB ∨ b = kB) → O3 b = .of 0 ∧ b < w3.heap.size := by
    rintro b (rfl | rfl)
    · exact ⟨BrB.own, BrB.lt⟩
    · exact ⟨BkB.own, BkB.lt⟩
  have hj3 : gs3.size ≠ 0 := by omega
  obtain ⟨K4, gs4, O4, w4, sl4, T4, q4, S4, hr4, hsz4, ha4, hR4, hL4, F4⟩ := spawn (sl := sl3) (G := fun b => b = rB ∨ b = kB) (r := fun b => b < w3.heap.size ∧ (b = cB ∨ (b = rB ∨ b = kB) ∨ O3 b = .still)) (vs := vsFrom fb lb 0) ha3 F3 hrun3 hgo3 hG3 BcB.own BcB.lt BcB.row (fun b h => h) ⟨BcB.lt, .inl rfl⟩
    (fun O₁ w₁ hR => at_birth hj3 (by omega) hfb O₁ w₁ (kj_birth hfb hEb hKE3 BrB BcB BkB hR))
  have hKE4 : KE w O4 w4 := hq.rely _ _ _ _ hKE3 (give_rs (fun b h => (hG3 b h).1) BcB.own hR4)
  have hKv4 := kv_after BcB BkB hR4
  rw [hae3] at ha4
  have e4 : rdN (rdN (fun _ _ => False) gs1.size (fun b => b < w1.heap.size ∧ (b = cA ∨ (b = rA ∨ b = kA) ∨ O1 b = .still))) gs3.size (fun b => b < w3.heap.size ∧ (b = cB ∨ (b = rB ∨ b = kB) ∨ O3 b = .still)) 0 = fun _ => False := by rw [rdN_o (Ne.symm hj3), e0]
  -- to the loop
  have hKM4 : KM (KE w) (.slice none 0 0) 0 [] (.slice none 0 0) 0 [] O4 w4 := ⟨hKE4, ⟨World.ownsRow_nil _ _ _ _, fun g h => by cases h⟩, ⟨World.ownsRow_nil _ _ _ _, fun g h => by cases h⟩, fun g h => by cases h⟩
  obtain ⟨K5, gs5, a5, O5, w5, sl5, T5, q5, S5, hr5, hsz5, ha5, ⟨J5, rfl, hKM5⟩, F5, hL5⟩ := hold (sl := sl4) (n := 50) ha4 F4 (by rw [e4]; exact enter3 sa sb la ca lb cb (KM.stab hq) cs O4 w4 rB' cA cB kB ⟨hKM4, hKv4⟩)
  have hjj : gs1.size ≠ gs3.size := by omega
  have pA : PSt (some cA) S5 gs1.size cA fa la 0 := by
    have p2 : PSt (some cA) (upd S2 gs1.size (some (.live cA (vsFrom fa la 0)))) gs1.size cA fa la 0 := ⟨Nat.zero_le _, .inl ⟨rfl, .inl (upd_same _ _ _)⟩⟩
    exact (PSt.other ((p2.later hL3).later hL4) (S' := upd S4 gs3.size (some (.live cB (vsFrom fb lb 0)))) (upd_ne _ _ hjj)).later hL5
  have pB : PSt (some cB) S5 gs3.size cB fb lb 0 := by
    have p4 : PSt (some cB) (upd S4 gs3.size (some (.live cB (vsFrom fb lb 0)))) gs3.size cB fb lb 0 := ⟨Nat.zero_le _, .inl ⟨rfl, .inl (upd_same _ _ _)⟩⟩
    exact p4.later hL5
  have hS5 : ∀ i, i ≠ gs1.size → i ≠ gs3.size → S5 i = none := fun i h1 h2 => later_none hL5 (by
    rw [upd_ne _ _ h2]
    exact later_none hL4 (later_none hL3 (by rw [upd_ne _ _ h1]; exact later_none hL2 (hS1 i))))
  obtain ⟨K6, gs6, sl6, T6, q6, w6, O6, S6, vx, vy, J6, hr6, hsz6, ha6, F6, hS6, hKM6⟩ := loop_run (W0 := w) (cs := cs) hjj e4 hla hlb hfa hfb _ gs5 sl5 T5 q5 w5 O5 S5 _ 0 _ 0 _ _ J5 rfl ha5 F5 hKM5 pA pB hS5 (.inl (by simp))
  -- and back
  obtain ⟨K7, gs7, a7, O7, w7, sl7, T7, q7, S7, hr7, hsz7, ha7, ⟨fr, rfl, hfn, hlv, hKM7⟩, F7, hL7⟩ := hold (sl := sl6) (n := 20) ha6 F6 (by rw [e4]; exact leave11 (KM.stab hq) cs O6 w6 vx vy J6 hKM6)
  obtain ⟨hLv, hPs⟩ := F7.ends fun i => later_none hL7 (hS6 i)
  have hfresh : ∀ v : Value, (∀ g, v.ownBlock = some g → O7 g = .of 0) → ∀ g, v.ownBlock = some g → w.heap.size ≤ g := by
    intro v hv g hg
    rcases Nat.lt_or_ge g w.heap.size with h | h
    · have := (hKM7.base.low g h).1
      rw [hv g hg] at this; cases this
    · exact h
  have hrow : ∀ (v : Value) (n : Nat) (xs : List Value), RowK v n xs O7 w7 → w7.ownsRow w.heap.size 25 7 v n xs := by
    intro v n xs h
    refine ⟨h.row.1, ?_⟩
    rcases h.row.2 with hn | ⟨g, cap, cur, rfl, _, rest⟩
    · exact .inl hn
    · exact .inr ⟨g, cap, cur, rfl, hfresh _ h.own g rfl, rest⟩
  exact ⟨_, gs7, sl7, T7, q7, w7, fr, vx, vy, runNT_then hr1 (runNT_then hr2 (runNT_then hr3 (runNT_then hr4 (runNT_then hr5 (runNT_then hr6 hr7))))), ha7, hfn, hlv, hLv, hPs, hKM7.base.size, fun b hb => (hKM7.base.low b hb).2, hKM7.base.rest, hrow _ _ _ hKM7.x, hrow _ _ _ hKM7.y, hKM7.apart⟩
end Go.Proofs.Ytpoknlbnookhjaa.Gt
