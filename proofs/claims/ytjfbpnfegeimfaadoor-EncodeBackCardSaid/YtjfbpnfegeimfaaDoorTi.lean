/- Texts tell instructions apart. -/
import Derived.Test.YtjfbpnfegeimfaaDoorLw
set_option linter.unusedVariables false
set_option linter.unusedSimpArgs false
namespace Go.Proofs.YtjfbpnfegeimfaaDoor.Md
open Go.RowKit Go.Proofs.YtjfbpnfegeimfaaDoor.Ae Go.Proofs.YtjfbpnfegeimfaaDoor.Bv Go.Proofs.YtjfbpnfegeimfaaDoor
/-! Texts tell instructions apart. -/
theorem byte_digit {d : Nat} (h : d < 10) : (UInt8.ofNat (48 + d)).toNat = 48 + d := by
  rw [UInt8.toNat_ofNat']; omega
theorem digits_in (u : Nat) : ∀ b ∈ Lib.decDigits u, 48 ≤ b.toNat ∧ b.toNat ≤ 57 := by
  induction u using Nat.strongRecOn with
  | ind u ih =>
    intro b hb
    by_cases c : u < 10
    · rw [dec_small c] at hb
      rw [List.mem_singleton] at hb; subst hb
      rw [byte_digit c]; omega
    · rw [dec_big c] at hb
      rcases List.mem_append.1 hb with h | h
      · exact ih (u / 10) (by omega) b h
      · rw [List.mem_singleton] at h; subst h
        rw [byte_digit (show u % 10 < 10 by omega)]; omega
theorem digits_ne (u : Nat) : Lib.decDigits u ≠ [] := by
  rw [Lib.decDigits]; split <;> simp
theorem digits_inj : ∀ (u v : Nat), Lib.decDigits u = Lib.decDigits v → u = v := by
  intro u
  induction u using Nat.strongRecOn with
  | ind u ih =>
    intro v h
    by_cases c : u < 10
    · by_cases c' : v < 10
      · rw [dec_small c, dec_small c'] at h
        have := congrArg UInt8.toNat (List.cons.inj h).1
        rw [byte_digit c, byte_digit c'] at this; omega
      · exfalso
        rw [dec_small c, dec_big c'] at h
        have hl := congrArg List.length h
        have := List.length_pos_iff.2 (digits_ne (v / 10))
        rw [List.length_append, List.length_singleton, List.length_singleton] at hl; omega
    · by_cases c' : v < 10
      · exfalso
        rw [dec_big c, dec_small c'] at h
        have hl := congrArg List.length h
        have := List.length_pos_iff.2 (digits_ne (u / 10))
        rw [List.length_append, List.length_singleton, List.length_singleton] at hl; omega
      · rw [dec_big c, dec_big c'] at h
        obtain ⟨h1, h2⟩ := List.append_inj' h rfl
        have h3 := ih (u / 10) (by omega) (v / 10) h1
        have := congrArg UInt8.toNat (List.cons.inj h2).1
        rw [byte_digit (show u % 10 < 10 by omega), byte_digit (show v % 10 < 10 by omega)] at this
        omega
theorem itoa_no (n : Int) : ∀ b ∈ Lib.itoa n, b ≠ 32 := by
  intro b hb e
  subst e
  unfold Lib.itoa at hb
  split at hb
  · rcases List.mem_cons.1 hb with h | h
    · exact absurd h (by decide)
    · have := (digits_in _ _ h).1; exact absurd this (by decide)
  · have := (digits_in _ _ hb).1; exact absurd this (by decide)
theorem itoa_inj {m n : Int} (h : Lib.itoa m = Lib.itoa n) : m = n := by
  have key : ∀ (a b : Nat), 45 :: Lib.decDigits a ≠ Lib.decDigits b := by
    intro a b e
    have : (45 : UInt8) ∈ Lib.decDigits b := by rw [← e]; exact List.mem_cons_self
    have := (digits_in _ _ this).1
    exact absurd this (by decide)
  unfold Lib.itoa at h
  split at h
  · split at h
    · have := digits_inj _ _ (List.cons.inj h).2; omega
    · exact absurd h (key _ _)
  · split at h
    · exact absurd h.symm (key _ _)
    · have := digits_inj _ _ h; omega
theorem split32 : ∀ {a a' b b' : List UInt8}, (∀ x ∈ a, x ≠ 32) → (∀ x ∈ a', x ≠ 32) → a ++ 32 :: b = a' ++ 32 :: b' → a = a' ∧ b = b'
  | [], [], b, b', _, _, h => ⟨rfl, (List.cons.inj h).2⟩
  | [], y :: a', b, b', _, h2, h => absurd (List.cons.inj h).1.symm (h2 y List.mem_cons_self)
  | x :: a, [], b, b', h1, _, h => absurd (List.cons.inj h).1 (h1 x List.mem_cons_self)
  | x :: a, y :: a', b, b', h1, h2, h => by
    obtain ⟨e1, e2⟩ := List.cons.inj h
    obtain ⟨e3, e4⟩ := split32 (fun z hz => h1 z (List.mem_cons_of_mem _ hz)) (fun z hz => h2 z (List.mem_cons_of_mem _ hz)) e2
    exact ⟨by rw [e1, e3], e4⟩
theorem nm_no (op : Int) : ∀ b ∈ nm op, b ≠ 32 := by
  by_cases h : 1 ≤ op ∧ op ≤ 55
  · rcases fifty5 h with rfl | rfl | rfl | rfl | rfl | rfl | rfl | rfl | rfl | rfl | rfl | rfl | rfl | rfl | rfl | rfl | rfl | rfl | rfl | rfl | rfl | rfl | rfl | rfl | rfl | rfl | rfl | rfl | rfl | rfl | rfl | rfl | rfl | rfl | rfl | rfl | rfl | rfl | rfl | rfl | rfl | rfl | rfl | rfl | rfl | rfl | rfl | rfl | rfl | rfl | rfl | rfl | rfl | rfl | rfl <;> decide
  · rw [nm_none (by omega)]; simp
theorem nm_at {op : Int} (h : 1 ≤ op ∧ op ≤ 55) : (nmL.idxOf (nm op) : Int) = op := by
  rcases fifty5 h with rfl | rfl | rfl | rfl | rfl | rfl | rfl | rfl | rfl | rfl | rfl | rfl | rfl | rfl | rfl | rfl | rfl | rfl | rfl | rfl | rfl | rfl | rfl | rfl | rfl | rfl | rfl | rfl | rfl | rfl | rfl | rfl | rfl | rfl | rfl | rfl | rfl | rfl | rfl | rfl | rfl | rfl | rfl | rfl | rfl | rfl | rfl | rfl | rfl | rfl | rfl | rfl | rfl | rfl | rfl <;> decide
theorem nm_inj {a b : Int} (ha : 1 ≤ a ∧ a ≤ 55) (hb : 1 ≤ b ∧ b ≤ 55) (h : nm a = nm b) : a = b := by
  rw [← nm_at ha, ← nm_at hb, h]
/-- What stands behind the name. -/
def args (t : T5) : List UInt8 :=
  if fmt t.1 = 85 ∨ fmt t.1 = 74 then rg t.2.1 ++ sn t.2.2.2.2
  else if fmt t.1 = 67 ∧ 53 ≤ t.1 then rg t.2.1 ++ sn t.2.2.1 ++ sn t.2.2.2.2
  else if fmt t.1 = 73 ∨ fmt t.1 = 72 ∨ fmt t.1 = 67 then rg t.2.1 ++ rg t.2.2.1 ++ sn t.2.2.2.2
  else if fmt t.1 = 66 ∨ fmt t.1 = 83 then rg t.2.2.1 ++ rg t.2.2.2.1 ++ sn t.2.2.2.2
  else if fmt t.1 = 82 then rg t.2.1 ++ rg t.2.2.1 ++ rg t.2.2.2.1
  else []
theorem txt_args {t : T5} (h : valid t) : txt t = nm t.1 ++ args t := by
  unfold txt args
  rw [encT_pos h, if_neg (fun e => by cases e)]
  repeat' split
  all_goals simp
theorem args_head (t : T5) : args t = [] ∨ ∃ l, args t = 32 :: l := by
  unfold args
  split
  · exact .inr ⟨_, rfl⟩
  split
  · exact .inr ⟨_, rfl⟩
  split
  · exact .inr ⟨_, rfl⟩
  split
  · exact .inr ⟨_, rfl⟩
  split
  · exact .inr ⟨_, rfl⟩
  · exact .inl rfl
theorem split0 : ∀ {a a' b b' : List UInt8}, (∀ x ∈ a, x ≠ 32) → (∀ x ∈ a', x ≠ 32) → (b = [] ∨ ∃ l, b = 32 :: l) → (b' = [] ∨ ∃ l, b' = 32 :: l) → a ++ b = a' ++ b' → a = a' ∧ b = b'
  | [], [], b, b', _, _, _, _, h => ⟨rfl, h⟩
  | [], y :: a', b, b', _, h2, h3, _, h => by
    rcases h3 with rfl | ⟨l, rfl⟩
    · cases h
    · exact absurd (List.cons.inj h).1.symm (h2 y List.mem_cons_self)
  | x :: a, [], b, b', h1, _, _, h4, h => by
    rcases h4 with rfl | ⟨l, rfl⟩
    · cases h
    · exact absurd (List.cons.inj h).1 (h1 x List.mem_cons_self)
  | x :: a, y :: a', b, b', h1, h2, h3, h4, h => by
    obtain ⟨e1, e2⟩ := List.cons.inj h
    obtain ⟨e3, e4⟩ := split0 (fun z hz => h1 z (List.mem_cons_of_mem _ hz)) (fun z hz => h2 z (List.mem_cons_of_mem _ hz)) h3 h4 e2
    exact ⟨by rw [e1, e3], e4⟩
theorem two {a a' b b' : Int} (h : Lib.itoa a ++ 32 :: Lib.itoa b = Lib.itoa a' ++ 32 :: Lib.itoa b') : a = a' ∧ b = b' := by
  obtain ⟨h1, h2⟩ := split32 (itoa_no _) (itoa_no _) h
  exact ⟨itoa_inj h1, itoa_inj h2⟩
theorem three {a a' b b' c c' : Int} {p q : List UInt8} (h : Lib.itoa a ++ 32 :: (p ++ (Lib.itoa b ++ 32 :: (q ++ Lib.itoa c))) = Lib.itoa a' ++ 32 :: (p ++ (Lib.itoa b' ++ 32 :: (q ++ Lib.itoa c')))) : a = a' ∧ b = b' ∧ c = c' := by
  obtain ⟨h1, h2⟩ := split32 (itoa_no _) (itoa_no _) h
  have h2 := List.append_cancel_left h2
  obtain ⟨h3, h4⟩ := split32 (itoa_no _) (itoa_no _) h2
  exact ⟨itoa_inj h1, itoa_inj h3, itoa_inj (List.append_cancel_left h4)⟩
/-- Two valid instructions that read alike are one. -/
theorem txt_inj {t u : T5} (ht : valid t) (hu : valid u) (h : txt t = txt u) : t = u := by
  rw [txt_args ht, txt_args hu] at h
  obtain ⟨hn, ha⟩ := split0 (nm_no _) (nm_no _) (args_head t) (args_head u) h
  have ho := nm_inj (valid_op ht) (valid_op hu) hn
  obtain ⟨op, rd, r1, r2, im⟩ := t
  obtain ⟨op', rd', r1', r2', im'⟩ := u
  dsimp only at ho
  subst ho
  obtain ⟨v1, v2, _, _, _, hU, hJ, hI, hB, hS, hH, hR, hC, hN⟩ := ht
  obtain ⟨_, _, _, _, _, hU', hJ', hI', hB', hS', hH', hR', hC', hN'⟩ := hu
  dsimp only at hU hJ hI hB hS hH hR hC hN hU' hJ' hI' hB' hS' hH' hR' hC' hN'
  unfold args at ha
  dsimp only at ha
  have fin : rd = rd' ∧ r1 = r1' ∧ r2 = r2' ∧ im = im' → (op, rd, r1, r2, im) = (op, rd', r1', r2', im') := by rintro ⟨rfl, rfl, rfl, rfl⟩; rfl
  apply fin
  rcases fmt_cases op with ⟨g, e⟩ | ⟨g, e⟩ | ⟨g, e⟩ | ⟨g, e⟩ | ⟨g, e⟩ | ⟨g, e⟩ | ⟨g, e⟩ | ⟨g, e⟩ | ⟨g, e⟩ | ⟨g, e⟩
  case inl =>
    have qU := hU e
    have qU' := hU' e
    clear hU hJ hI hB hS hH hR hC hN hU' hJ' hI' hB' hS' hH' hR' hC' hN'
    rw [if_pos (by omega), if_pos (by omega)] at ha
    have := two (List.cons.inj (List.cons.inj ha).2).2
    omega
  case inr.inl =>
    have qJ := hJ e
    have qJ' := hJ' e
    clear hU hJ hI hB hS hH hR hC hN hU' hJ' hI' hB' hS' hH' hR' hC' hN'
    rw [if_pos (by omega), if_pos (by omega)] at ha
    have := two (List.cons.inj (List.cons.inj ha).2).2
    omega
  case inr.inr.inl =>
    have qI := hI e
    have qI' := hI' e
    clear hU hJ hI hB hS hH hR hC hN hU' hJ' hI' hB' hS' hH' hR' hC' hN'
    rw [if_neg (by omega), if_neg (by omega), if_pos (by omega), if_neg (by omega), if_neg (by omega), if_pos (by omega)] at ha
    have := three (p := [120]) (q := []) (by simpa [rg, sn] using ha)
    omega
  case inr.inr.inr.inr.inr.inl =>
    have qH := hH e
    have qH' := hH' e
    clear hU hJ hI hB hS hH hR hC hN hU' hJ' hI' hB' hS' hH' hR' hC' hN'
    rw [if_neg (by omega), if_neg (by omega), if_pos (by omega), if_neg (by omega), if_neg (by omega), if_pos (by omega)] at ha
    have := three (p := [120]) (q := []) (by simpa [rg, sn] using ha)
    omega
  case inr.inr.inr.inl =>
    have qB := hB e
    have qB' := hB' e
    clear hU hJ hI hB hS hH hR hC hN hU' hJ' hI' hB' hS' hH' hR' hC' hN'
    rw [if_neg (by omega), if_neg (by omega), if_neg (by omega), if_pos (by omega), if_neg (by omega), if_neg (by omega), if_neg (by omega), if_pos (by omega)] at ha
    have := three (p := [120]) (q := []) (by simpa [rg, sn] using ha)
    omega
  case inr.inr.inr.inr.inl =>
    have qS := hS e
    have qS' := hS' e
    clear hU hJ hI hB hS hH hR hC hN hU' hJ' hI' hB' hS' hH' hR' hC' hN'
    rw [if_neg (by omega), if_neg (by omega), if_neg (by omega), if_pos (by omega), if_neg (by omega), if_neg (by omega), if_neg (by omega), if_pos (by omega)] at ha
    have := three (p := [120]) (q := []) (by simpa [rg, sn] using ha)
    omega
  case inr.inr.inr.inr.inr.inr.inl =>
    have qR := hR e
    have qR' := hR' e
    clear hU hJ hI hB hS hH hR hC hN hU' hJ' hI' hB' hS' hH' hR' hC' hN'
    rw [if_neg (by omega), if_neg (by omega), if_neg (by omega), if_neg (by omega), if_pos (by omega), if_neg (by omega), if_neg (by omega), if_neg (by omega), if_neg (by omega), if_pos (by omega)] at ha
    have := three (p := [120]) (q := [120]) (by simpa [rg, sn] using ha)
    omega
  case inr.inr.inr.inr.inr.inr.inr.inl =>
    have qC := hC e
    have qC' := hC' e
    clear hU hJ hI hB hS hH hR hC hN hU' hJ' hI' hB' hS' hH' hR' hC' hN'
    by_cases c : 53 ≤ op
    · rw [if_neg (by omega), if_pos (by omega), if_neg (by omega), if_pos (by omega)] at ha
      have := three (p := []) (q := []) (by simpa [rg, sn] using ha)
      omega
    · rw [if_neg (by omega), if_neg (by omega), if_pos (by omega), if_neg (by omega), if_neg (by omega), if_pos (by omega)] at ha
      have := three (p := [120]) (q := []) (by simpa [rg, sn] using ha)
      omega
  case inr.inr.inr.inr.inr.inr.inr.inr.inl =>
    have qN := hN e
    have qN' := hN' e
    clear hU hJ hI hB hS hH hR hC hN hU' hJ' hI' hB' hS' hH' hR' hC' hN'
    omega
  case inr.inr.inr.inr.inr.inr.inr.inr.inr => exfalso; clear hU hJ hI hB hS hH hR hC hN hU' hJ' hI' hB' hS' hH' hR' hC' hN'; omega
end Go.Proofs.YtjfbpnfegeimfaaDoor.Md
