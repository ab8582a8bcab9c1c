/- The assembler's functions. -/
import Derived.Test.YtgglclmilocgcaaGreatDoorAs
set_option linter.unusedVariables false
set_option linter.unusedSimpArgs false
namespace Go.Proofs.YtgglclmilocgcaaGreatDoor.Md
open Go.RowKit Go.Proofs.YtgglclmilocgcaaGreatDoor.Ae Go.Proofs.YtgglclmilocgcaaGreatDoor.Bv Go.Proofs.YtgglclmilocgcaaGreatDoor
/-- A text cut at a byte. -/
def cutL (c : UInt8) : List UInt8 → List (List UInt8)
  | [] => [[]]
  | b :: l => if b = c then [] :: cutL c l else match cutL c l with
    | [] => [[b]]
    | p :: r => (b :: p) :: r
theorem cutL_split (c : UInt8) : ∀ s : List UInt8, Lib.splitK [c] 0 (Lib.count s [c]) s = cutL c s
  | [] => by rw [Lib.count_one]; rfl
  | b :: l => by
    by_cases h : b = c
    · subst h
      have hix : Lib.index (b :: l) [b] = 0 := by rw [Lib.index]; simp [List.isPrefixOf]
      rw [Lib.count_cons_eq, Nat.add_comm, Lib.splitK, hix, if_neg (by decide), cutL, if_pos rfl, ← cutL_split b l]
      rfl
    · have hp : ([c] : List UInt8).isPrefixOf (b :: l) = false := by simp [List.isPrefixOf, Ne.symm h]
      have hix : Lib.index (b :: l) [c] = if Lib.index l [c] == -1 then -1 else Lib.index l [c] + 1 := by rw [Lib.index, hp]; simp
      rw [Lib.count_cons_ne b c l h, cutL, if_neg h, ← cutL_split c l]
      cases hk : Lib.count l [c] with
      | zero => rfl
      | succ k =>
        have hm : Lib.index l [c] ≠ -1 := fun e => by rw [Lib.count_miss e] at hk; cases hk
        have hge := Lib.index_ge l [c]
        obtain ⟨j, hj⟩ : ∃ j : Nat, Lib.index l [c] = j := ⟨(Lib.index l [c]).toNat, by omega⟩
        have hix' : Lib.index (b :: l) [c] = ((j + 1 : Nat) : Int) := by rw [hix, if_neg (fun e => hm (beq_iff_eq.1 e)), hj]; omega
        have n1 : ¬ (((j + 1 : Nat) : Int) == -1) = true := fun e => by have := beq_iff_eq.1 e; omega
        have n2 : ¬ ((j : Int) == -1) = true := fun e => by have := beq_iff_eq.1 e; omega
        rw [Lib.splitK, Lib.splitK, hix', hj, if_neg n1, if_neg n2]
        simp
abbrev ba (l : List UInt8) : ByteArray := ⟨l.toArray⟩
theorem ba_data (s : ByteArray) : ba s.data.toList = s := by
  apply ByteArray.ext
  simp
theorem cutB_eq (s : ByteArray) (c : UInt8) : cutB s ⟨#[c]⟩ = (cutL c s.data.toList).map ba := by
  have h := Lib.splitB_data (⟨#[c]⟩ : ByteArray) 0 (Lib.countB s ⟨#[c]⟩) s
  have h2 : (cutB s ⟨#[c]⟩).map (·.data.toList) = cutL c s.data.toList := h.trans (cutL_split c s.data.toList)
  rw [← h2, List.map_map]
  conv => lhs; rw [← List.map_id (cutB s ⟨#[c]⟩)]
  apply List.map_congr_left
  intro x _
  exact (ba_data x).symm
theorem cutL_none {c : UInt8} : ∀ {p : List UInt8}, (∀ x ∈ p, x ≠ c) → cutL c p = [p]
  | [], _ => rfl
  | b :: p, h => by rw [cutL, if_neg (h b List.mem_cons_self), cutL_none fun x hx => h x (List.mem_cons_of_mem _ hx)]
theorem cutL_at {c : UInt8} {r : List UInt8} : ∀ {p : List UInt8}, (∀ x ∈ p, x ≠ c) → cutL c (p ++ c :: r) = p :: cutL c r
  | [], _ => by rw [List.nil_append, cutL, if_pos rfl]
  | b :: p, h => by rw [List.cons_append, cutL, if_neg (h b List.mem_cons_self), cutL_at fun x hx => h x (List.mem_cons_of_mem _ hx)]
theorem byte_digit {d : Nat} (h : d < 10) : (UInt8.ofNat (48 + d)).toNat = 48 + d := by
  rw [UInt8.toNat_ofNat']; omega
theorem parse_app {M : Nat} {m : List UInt8} : ∀ {l : List UInt8} {acc a : Nat}, Lib.parseUintM M acc l = .ok a → Lib.parseUintM M acc (l ++ m) = Lib.parseUintM M a m
  | [], acc, a, h => by
    rw [Lib.parseUintM] at h
    injection h with h; subst h; rfl
  | c :: r, acc, a, h => by
    rw [Lib.parseUintM] at h
    rw [List.cons_append, Lib.parseUintM]
    split
    · rename_i h1
      rw [if_pos h1] at h
      split
      · rename_i h2; rw [if_pos h2] at h; cases h
      · rename_i h2
        rw [if_neg h2] at h
        split
        · rename_i h3; rw [if_pos h3] at h; cases h
        · rename_i h3
          rw [if_neg h3] at h
          exact parse_app h
    · rename_i h1; rw [if_neg h1] at h; cases h
theorem parse_one {M acc d : Nat} (hd : d < 10) (h1 : acc < 1844674407370955162) (h2 : acc * 10 + d ≤ M) : Lib.parseUintM M acc [UInt8.ofNat (48 + d)] = .ok (acc * 10 + d) := by
  rw [Lib.parseUintM, byte_digit hd, if_pos (by omega), if_neg (by omega), if_neg (by omega), Lib.parseUintM]
  congr 1; omega
theorem parse_dec (u : Nat) (hu : u < 4294967296) : Lib.parseUintM 4294967295 0 (Lib.decDigits u) = .ok u := by
  induction u using Nat.strongRecOn with
  | ind u ih =>
    by_cases h : u < 10
    · rw [dec_small h]
      have := parse_one (M := 4294967295) (acc := 0) h (by decide) (by omega)
      rw [this]; congr 1; omega
    · rw [dec_big h, parse_app (ih (u / 10) (by omega) (by omega)), parse_one (by omega) (by omega) (by omega)]
      congr 1; omega
theorem dec_nil (u : Nat) : Lib.decDigits u ≠ [] := by
  by_cases h : u < 10
  · rw [dec_small h]; simp
  · rw [dec_big h]; simp
theorem parseB_dec (u : Nat) (hu : u < 4294967296) : Lib.parseUintB 32 (Lib.decDigits u) = .ok u := by
  unfold Lib.parseUintB
  rw [if_neg (dec_nil u)]
  exact parse_dec u hu
theorem dec_in (u : Nat) : ∀ b ∈ Lib.decDigits u, 48 ≤ b.toNat ∧ b.toNat ≤ 57 := by
  induction u using Nat.strongRecOn with
  | ind u ih =>
    intro b hb
    by_cases h : u < 10
    · rw [dec_small h] at hb
      rw [List.mem_singleton.1 hb, byte_digit h]; omega
    · rw [dec_big h] at hb
      rcases List.mem_append.1 hb with hb | hb
      · exact ih (u / 10) (by omega) b hb
      · rw [List.mem_singleton.1 hb, byte_digit (d := u % 10) (by omega)]; omega
theorem dec_no (u : Nat) (c : UInt8) (hc : c.toNat < 48) : ∀ b ∈ Lib.decDigits u, b ≠ c := by
  rintro b hb rfl
  have := dec_in u b hb
  omega
/-- What is listed of a word that has no text. -/
def wl (w : Nat) : List UInt8 := [46, 119, 111, 114, 100, 32] ++ Lib.decDigits w
theorem beq_refl (s : ByteArray) : (s.toList == s.toList) = true := by simp
theorem line_wl (w : Nat) (hw : w < 4294967296) : lineF (ba (wl w)) = ((w : Int), true) := by
  have e : cutB (ba (wl w)) sp = [dw, ba (Lib.decDigits w)] := by
    show cutB (ba (wl w)) ⟨#[32]⟩ = _
    rw [cutB_eq]
    show (cutL 32 ([46, 119, 111, 114, 100] ++ 32 :: Lib.decDigits w)).map ba = _
    rw [cutL_at (by decide), cutL_none (dec_no w 32 (by decide))]
    rfl
  unfold lineF
  rw [e]
  show (if dw.toList == dw.toList then wordF (ba (Lib.decDigits w)) else _) = _
  rw [beq_refl, if_pos rfl]
  unfold wordF
  show (match Lib.parseUintB 32 (Lib.decDigits w) with | .ok u => _ | _ => _) = _
  rw [parseB_dec w hw]
  show (if (ba (Lib.decDigits w)).toList == (ba (Lib.decDigits w)).toList then _ else _) = _
  rw [beq_refl, if_pos rfl]
  refine Prod.ext ?_ rfl
  show IntKind.u32.wrap w = w
  rw [IntKind.wrap_u32]; omega
end Go.Proofs.YtgglclmilocgcaaGreatDoor.Md
