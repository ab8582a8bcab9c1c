/- A select of receives of which several can proceed: the tape picks one of them. -/
import Derived.Test.YtpoknlbnookhjaaFl
set_option linter.unusedVariables false
set_option linter.unusedSimpArgs false
namespace Go.Spring
open Go.Conc

/-- What 'communicate' draws. -/
def pickS (R : List (Nat × CommCase × List Way)) : Sem (Nat × CommCase × Way) := do
  let a ← choose (.select R.length)
  let (k, c, ws) := R.getD a (0, default, [])
  let b ← choose (.extern "which waiting goroutine is the partner" ws.length)
  pure (k, c, ws.getD b .closed)

theorem pick_run {P : Program} {R : List (Nat × CommCase × List Way)} (hne : R ≠ []) (h1 : ∀ e ∈ R, ∃ x, e.2.2 = [x]) (w : World) :
    ∃ k cc x d, (k, cc, [x]) ∈ R ∧ (pickS R).run P w = .ok (k, cc, x) (w.at d) := by
  have hlen : 0 < R.length := List.length_pos_iff.2 hne
  have key : ∀ a, a < R.length → ∃ k cc x, (k, cc, [x]) ∈ R ∧ ∀ w : World, ((do
      let (k, c, ws) := R.getD a (0, default, [])
      let b ← choose (.extern "which waiting goroutine is the partner" ws.length)
      pure (k, c, ws.getD b .closed) : Sem (Nat × CommCase × Way)).run P w) = .ok (k, cc, x) w := by
    intro a ha
    have hm := List.getElem_mem ha
    obtain ⟨x, hx⟩ := h1 _ hm
    have he : R[a] = (R[a].1, R[a].2.1, [x]) := by rw [← hx]
    refine ⟨R[a].1, R[a].2.1, x, he ▸ hm, fun w => ?_⟩
    have hg : R.getD a (0, default, []) = (R[a].1, R[a].2.1, [x]) := by rw [← he]; simp [List.getD, List.getElem?_eq_getElem ha]
    rw [hg]
    simp [choose, bind, Sem.bind, pure, Sem.run, Question.forced]
  by_cases hf : (Question.select R.length).forced = true
  · obtain ⟨k, cc, x, hm, hr⟩ := key 0 hlen
    refine ⟨k, cc, x, w.drawn, hm, ?_⟩
    have := hr w
    unfold pickS
    simp only [choose, bind, Sem.bind, Sem.run, hf, if_true]
    exact this
  · have hlt : (Question.select R.length).cut (w.tape w.drawn (.select R.length)) < R.length := Nat.mod_lt _ hlen
    obtain ⟨k, cc, x, hm, hr⟩ := key _ hlt
    refine ⟨k, cc, x, w.drawn + 1, hm, ?_⟩
    have := hr { w with drawn := w.drawn + 1 }
    unfold pickS
    simp only [choose, bind, Sem.bind, Sem.run, hf, if_false]
    exact this

section
variable {P : Program} {gs : Array Goroutine} {w w₁ : World} {sl : Option (Nat × Nat)} {i : Nat} {g g₂ : Goroutine} {es : Array Event} {cases : Array CommCase} {shape : CommShape} {blocking : Bool}

/-- Goroutine j, and it alone, is parked at a send of v on channel c. -/
def Met (gs : Array Goroutine) (i : Nat) (w : World) (c j : Nat) (gj : Goroutine) (v zj : Value) (n : Nat) : Prop :=
  j ≠ i ∧ gs[j]? = some (parked gj #[scase c v zj] .send) ∧ partners (gs.setIfInBounds i ph) c true = [(j, 0)] ∧ w.heap[c]? = some (.chan 0 #[] false n n false)
/-- Channel c is closed. -/
def Shut (gs : Array Goroutine) (i : Nat) (w : World) (c n : Nat) : Prop := w.heap[c]? = some (.chan 0 #[] true n n false) ∧ partners (gs.setIfInBounds i ph) c true = []

theorem Met.ways {c j n : Nat} {gj : Goroutine} {v zj z : Value} (h : Met gs i w c j gj v zj n) : ways w (gs.setIfInBounds i ph) (rcase c z) = [.partner j 0] := by
  obtain ⟨_, _, hp, hc⟩ := h
  simp [Go.ways, rcase, hc, hp]
theorem Shut.ways {c n : Nat} {z : Value} (h : Shut gs i w c n) : ways w (gs.setIfInBounds i ph) (rcase c z) = [.closed] := by
  obtain ⟨hc, hp⟩ := h
  simp [Go.ways, rcase, hc, hp]

theorem crowd_sel (hi : gs[i]? = some g) (h : stepG P (i == 0) g w = .comm g₂ cases blocking shape w₁ es)
    (hall : ∀ cc ∈ cases, NoWays w₁ (gs.setIfInBounds i ph) cc ∨ ∃ c z, cc = rcase c z ∧ ((∃ j gj v zj n, Met gs i w₁ c j gj v zj n) ∨ ∃ n, Shut gs i w₁ c n))
    (hne : ∃ cc ∈ cases, ¬ NoWays w₁ (gs.setIfInBounds i ph) cc) :
    ∃ (k c : Nat) (z : Value) (d : Nat), cases[k]? = some (rcase c z) ∧
      ((∃ j gj v zj n, Met gs i w₁ c j gj v zj n ∧ runT P (crowd gs w sl) i = (.next (crowd ((gs.setIfInBounds j (Go.Conc.served gj undef)).setIfInBounds i (g₂.finishComm P cases shape (k : Int) v true)) ((w₁.at d).setChan c 0 #[] false (n + 1) (n + 1) false) sl),
          MemOp.ofEvents i g.frame.fn g.frame.place es ++ met j i gj.frame.fn gj.frame.place g₂.frame.fn g₂.frame.place c n 0)) ∨
       (∃ n, Shut gs i w₁ c n ∧ runT P (crowd gs w sl) i = (.next (crowd (gs.setIfInBounds i (g₂.finishComm P cases shape (k : Int) z false)) (w₁.at d) sl),
          MemOp.ofEvents i g.frame.fn g.frame.place es ++ #[{ g := i, fn := g₂.frame.fn, pos := g₂.frame.place, act := .recvClosed c }]))) := by
  have hmade : ∀ cc ∈ cases, illMade w₁ cc = false := by
    intro cc hcc
    rcases hall cc hcc with h | ⟨c, z, rfl, ⟨_, _, _, _, _, _, _, _, hc⟩ | ⟨_, hc, _⟩⟩
    · exact h.1
    · exact made_recv z hc
    · exact made_recv z hc
  obtain ⟨R, hR⟩ : ∃ R, ((cases.zipIdx.toList.map fun (c, k) => (k, c, ways w₁ (gs.setIfInBounds i ph) c)).filter fun (_, _, ws) => !ws.isEmpty) = R := ⟨_, rfl⟩
  have hmem : ∀ e ∈ R, cases[e.1]? = some e.2.1 ∧ e.2.2 = ways w₁ (gs.setIfInBounds i ph) e.2.1 ∧ e.2.2 ≠ [] := by
    intro e he
    rw [← hR] at he
    obtain ⟨he, hne⟩ := List.mem_filter.1 he
    obtain ⟨⟨cc, k⟩, hm, rfl⟩ := List.mem_map.1 he
    refine ⟨mem_of_zipIdx hm, rfl, fun e => ?_⟩
    simp only at e
    simp [e] at hne
  have hone : ∀ e ∈ R, ∃ x, e.2.2 = [x] := by
    intro e he
    obtain ⟨h1, h2, h3⟩ := hmem e he
    rcases hall _ (Array.mem_of_getElem? h1) with h | ⟨c, z, hc, ⟨_, _, _, _, _, hM⟩ | ⟨_, hS⟩⟩
    · exact absurd (h2.trans h.2) h3
    · exact ⟨_, by rw [h2, hc]; exact hM.ways⟩
    · exact ⟨_, by rw [h2, hc]; exact hS.ways⟩
  have hRne : R ≠ [] := by
    obtain ⟨cc, hcc, hn⟩ := hne
    obtain ⟨k, hk, ek⟩ := Array.mem_iff_getElem.1 hcc
    have hw : ways w₁ (gs.setIfInBounds i ph) cc ≠ [] := fun e => hn ⟨hmade cc hcc, e⟩
    have : (k, cc, ways w₁ (gs.setIfInBounds i ph) cc) ∈ R := by
      rw [← hR]
      refine List.mem_filter.2 ⟨List.mem_map.2 ⟨(cc, k), ?_, rfl⟩, ?_⟩
      · rw [Array.mem_toList_iff, Array.mem_zipIdx_iff_getElem?]
        simp [Array.getElem?_eq_getElem hk, ek]
      · cases e : ways w₁ (gs.setIfInBounds i ph) cc with
        | nil => exact absurd e hw
        | cons a l => rfl
    intro e
    rw [e] at this; cases this
  obtain ⟨k, cc, x, d, hm, hp⟩ := pick_run (P := P) hRne hone w₁
  obtain ⟨hk, hw, _⟩ := hmem _ hm
  simp only at hk hw
  have hRe : R.isEmpty = false := by
    cases R with
    | nil => exact absurd rfl hRne
    | cons a l => rfl
  unfold pickS at hp
  rcases hall cc (Array.mem_of_getElem? hk) with h' | ⟨c, z, rfl, ⟨j, gj, v, zj, n, hM⟩ | ⟨n, hS⟩⟩
  · rw [h'.2] at hw; cases hw
  · refine ⟨k, c, z, d, hk, .inl ⟨j, gj, v, zj, n, hM, ?_⟩⟩
    rw [hM.ways] at hw
    injection hw with hx _
    subst hx
    obtain ⟨hij, hj, hpp, hc⟩ := hM
    have hj' := stand_get (i := i) hij hj
    have hfp := finishPartner_at P (gs.setIfInBounds i ph) hj' (cs := #[scase c v zj]) (sh := .send) rfl 0 undef
    have hgd : (gs.setIfInBounds i ph).getD j default = parked gj #[scase c v zj] .send := by rw [Array.getD_eq_getD_getElem?, hj']; rfl
    have hov : offeredValue (gs.setIfInBounds i ph) j 0 = v := by simp [offeredValue, hj', parked, scase]
    rw [runT_crowd_comm hi h]
    unfold communicate
    simp only [hR]
    rw [if_neg]
    · simp only [hRe, Bool.false_eq_true, if_false, hp]
      have hcd : (w₁.at d).heap[c]? = some (.chan 0 #[] false n n false) := hc
      simp [rcase, hcd, hc, hfp, hgd, hov, set_stand2, finishComm_parked, World.setChan, crowd, parked, met, World.at, scase]
      rfl
    · rw [Bool.not_eq_true]; exact any_ill hmade
  · refine ⟨k, c, z, d, hk, .inr ⟨n, hS, ?_⟩⟩
    rw [hS.ways] at hw
    injection hw with hx _
    subst hx
    rw [runT_crowd_comm hi h]
    unfold communicate
    simp only [hR]
    rw [if_neg]
    · simp only [hRe, Bool.false_eq_true, if_false, hp]
      simp [rcase, set_stand, crowd]
    · rw [Bool.not_eq_true]; exact any_ill hmade
end
end Go.Spring
