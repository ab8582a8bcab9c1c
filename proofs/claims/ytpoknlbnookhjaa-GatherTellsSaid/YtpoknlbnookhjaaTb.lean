/- The types of this program, as far as the abstract machine asks for them. -/
import Derived.Test.YtpoknlbnookhjaaAe
import Derived.Test.YtpoknlbnookhjaaProg
set_option linter.unusedVariables false
namespace Go.Proofs.Ytpoknlbnookhjaa.Tb
open Go.RowKit Go.Proofs.Ytpoknlbnookhjaa.Ae
theorem info_of {P : Program} {t : TypeId} {Z : Value} {n m : Nat} (h : (P.info? t).map (fun i => (i.zero, i.size, i.bytes)) = some (some Z, n, m)) : ∃ i, P.info? t = some i ∧ i.size = n ∧ i.bytes = m ∧ i.zero = some Z := by
  cases e : P.info? t with
  | none => rw [e] at h; cases h
  | some i => rw [e] at h; injection h with h; injection h with h1 h2; injection h2 with h2 h3; exact ⟨i, rfl, h2, h3, h1⟩
def d3 : TyD := ⟨.int .i64, 1, 8, [.one (.int .i64 0)]⟩
theorem i3 : (Try.prog.info? 3).map (fun i => (i.zero, i.size, i.bytes)) = some (some (.int .i64 0), 1, 8) := by kernel_rfl
theorem is3 : d3.is Try.prog 3 := ⟨Try.underlying3, by obtain ⟨i, h1, h2, h3, h4⟩ := info_of i3; exact ⟨i, h1, h2, h3, _, h4, .cons rfl .nil⟩, oks_cons (s := .one (.int .i64 0)) trivial oks_nil, rfl⟩
def d4 : TyD := ⟨.bool, 1, 1, [.one (.bool false)]⟩
theorem i4 : (Try.prog.info? 4).map (fun i => (i.zero, i.size, i.bytes)) = some (some (.bool false), 1, 1) := by kernel_rfl
theorem is4 : d4.is Try.prog 4 := ⟨Try.underlying4, by obtain ⟨i, h1, h2, h3, h4⟩ := info_of i4; exact ⟨i, h1, h2, h3, _, h4, .cons rfl .nil⟩, oks_cons (s := .one (.bool false)) trivial oks_nil, rfl⟩
def d22 : TyD := ⟨.slice 25, 1, 24, [.one (.nilS)]⟩
theorem i22 : (Try.prog.info? 22).map (fun i => (i.zero, i.size, i.bytes)) = some (some (.slice none 0 0), 1, 24) := by kernel_rfl
theorem is22 : d22.is Try.prog 22 := ⟨Try.underlying22, by obtain ⟨i, h1, h2, h3, h4⟩ := info_of i22; exact ⟨i, h1, h2, h3, _, h4, .cons rfl .nil⟩, oks_cons (s := .one (.nilS)) trivial oks_nil, rfl⟩
def d23 : TyD := ⟨.int .u32, 1, 4, [.one (.int .u32 0)]⟩
theorem i23 : (Try.prog.info? 23).map (fun i => (i.zero, i.size, i.bytes)) = some (some (.int .u32 0), 1, 4) := by kernel_rfl
theorem is23 : d23.is Try.prog 23 := ⟨Try.underlying23, by obtain ⟨i, h1, h2, h3, h4⟩ := info_of i23; exact ⟨i, h1, h2, h3, _, h4, .cons rfl .nil⟩, oks_cons (s := .one (.int .u32 0)) trivial oks_nil, rfl⟩
def d25 : TyD := ⟨.struct [(0, 23), (1, 23), (2, 3), (3, 4), (4, 23), (5, 23), (6, 3)], 7, 40, [.one (.int .u32 0), .one (.int .u32 0), .one (.int .i64 0), .one (.bool false), .one (.int .u32 0), .one (.int .u32 0), .one (.int .i64 0)]⟩
theorem i25 : (Try.prog.info? 25).map (fun i => (i.zero, i.size, i.bytes)) = some (some (.agg #[.int .u32 0, .int .u32 0, .int .i64 0, .bool false, .int .u32 0, .int .u32 0, .int .i64 0]), 7, 40) := by kernel_rfl
theorem is25 : d25.is Try.prog 25 := ⟨⟨_, Try.underlying25, rfl⟩, by obtain ⟨i, h1, h2, h3, h4⟩ := info_of i25; exact ⟨i, h1, h2, h3, _, h4, .cons rfl (.cons rfl (.cons rfl (.cons rfl (.cons rfl (.cons rfl (.cons rfl .nil))))))⟩, oks_cons (s := .one (.int .u32 0)) trivial (oks_cons (s := .one (.int .u32 0)) trivial (oks_cons (s := .one (.int .i64 0)) trivial (oks_cons (s := .one (.bool false)) trivial (oks_cons (s := .one (.int .u32 0)) trivial (oks_cons (s := .one (.int .u32 0)) trivial (oks_cons (s := .one (.int .i64 0)) trivial oks_nil)))))), rfl⟩
def d31 : TyD := ⟨.slice 34, 1, 24, [.one (.nilS)]⟩
theorem i31 : (Try.prog.info? 31).map (fun i => (i.zero, i.size, i.bytes)) = some (some (.slice none 0 0), 1, 24) := by kernel_rfl
theorem is31 : d31.is Try.prog 31 := ⟨Try.underlying31, by obtain ⟨i, h1, h2, h3, h4⟩ := info_of i31; exact ⟨i, h1, h2, h3, _, h4, .cons rfl .nil⟩, oks_cons (s := .one (.nilS)) trivial oks_nil, rfl⟩
def d34 : TyD := ⟨.array 2 25, 14, 80, [.one (.int .u32 0), .one (.int .u32 0), .one (.int .i64 0), .one (.bool false), .one (.int .u32 0), .one (.int .u32 0), .one (.int .i64 0), .one (.int .u32 0), .one (.int .u32 0), .one (.int .i64 0), .one (.bool false), .one (.int .u32 0), .one (.int .u32 0), .one (.int .i64 0)]⟩
theorem i34 : (Try.prog.info? 34).map (fun i => (i.zero, i.size, i.bytes)) = some (some (.agg #[.int .u32 0, .int .u32 0, .int .i64 0, .bool false, .int .u32 0, .int .u32 0, .int .i64 0, .int .u32 0, .int .u32 0, .int .i64 0, .bool false, .int .u32 0, .int .u32 0, .int .i64 0]), 14, 80) := by kernel_rfl
theorem is34 : d34.is Try.prog 34 := ⟨Try.underlying34, by obtain ⟨i, h1, h2, h3, h4⟩ := info_of i34; exact ⟨i, h1, h2, h3, _, h4, .cons rfl (.cons rfl (.cons rfl (.cons rfl (.cons rfl (.cons rfl (.cons rfl (.cons rfl (.cons rfl (.cons rfl (.cons rfl (.cons rfl (.cons rfl (.cons rfl .nil)))))))))))))⟩, oks_cons (s := .one (.int .u32 0)) trivial (oks_cons (s := .one (.int .u32 0)) trivial (oks_cons (s := .one (.int .i64 0)) trivial (oks_cons (s := .one (.bool false)) trivial (oks_cons (s := .one (.int .u32 0)) trivial (oks_cons (s := .one (.int .u32 0)) trivial (oks_cons (s := .one (.int .i64 0)) trivial (oks_cons (s := .one (.int .u32 0)) trivial (oks_cons (s := .one (.int .u32 0)) trivial (oks_cons (s := .one (.int .i64 0)) trivial (oks_cons (s := .one (.bool false)) trivial (oks_cons (s := .one (.int .u32 0)) trivial (oks_cons (s := .one (.int .u32 0)) trivial (oks_cons (s := .one (.int .i64 0)) trivial oks_nil))))))))))))), rfl⟩
def TL : List (Nat × TyD) := [(3, d3), (4, d4), (22, d22), (23, d23), (25, d25), (31, d31), (34, d34)]
def look : List (Nat × TyD) → Nat → Option TyD
  | [], _ => none
  | (j, d) :: r, t => match Nat.beq j t with
    | true => some d
    | false => look r t
def T : TT := fun t => look TL t
theorem look_mem : ∀ {l : List (Nat × TyD)} {t : Nat} {d : TyD}, look l t = some d → (t, d) ∈ l
  | [], _, _, h => by cases h
  | (j, e) :: r, t, d, h => by
    simp only [look] at h
    split at h
    · rename_i q; have q := Nat.eq_of_beq_eq_true q; subst q; injection h with h; subst h; exact List.mem_cons_self ..
    · exact List.mem_cons_of_mem _ (look_mem h)
theorem all_is : ∀ p ∈ TL, p.2.is Try.prog p.1 := by
  unfold TL
  simp only [List.forall_mem_cons]
  exact ⟨is3, is4, is22, is23, is25, is31, is34, by simp⟩
theorem tok : TOK Try.prog T := fun t d h => all_is _ (look_mem h)
theorem all_st : ∀ p ∈ TL, match p.2.kind with | .struct l => allT T l = true | _ => True := by
  unfold TL
  simp only [List.forall_mem_cons]
  exact ⟨trivial, trivial, trivial, trivial, rfl, trivial, trivial, by simp⟩
theorem all_ok (t : TypeId) (d : TyD) (l : List (Nat × TypeId)) (h : T t = some d) (hk : d.kind = .struct l) : allT T l = true := by
  have := all_st _ (look_mem h)
  simp only [hk] at this
  exact this
end Go.Proofs.Ytpoknlbnookhjaa.Tb
