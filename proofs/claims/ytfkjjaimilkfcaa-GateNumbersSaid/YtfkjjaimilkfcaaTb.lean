/- The types of this program, as far as the abstract machine asks for them. -/
import Derived.Test.YtfkjjaimilkfcaaAe
import Derived.Test.YtfkjjaimilkfcaaProg
set_option linter.unusedVariables false
namespace Go.Proofs.Ytfkjjaimilkfcaa.Tb
open Go.RowKit Go.Proofs.Ytfkjjaimilkfcaa.Ae
theorem info_of {P : Program} {t : TypeId} {Z : Value} {n m : Nat} (h : (P.info? t).map (fun i => (i.zero, i.size, i.bytes)) = some (some Z, n, m)) : ∃ i, P.info? t = some i ∧ i.size = n ∧ i.bytes = m ∧ i.zero = some Z := by
  cases e : P.info? t with
  | none => rw [e] at h; cases h
  | some i => rw [e] at h; injection h with h; injection h with h1 h2; injection h2 with h2 h3; exact ⟨i, rfl, h2, h3, h1⟩
def d3 : TyD := ⟨.int .i64, 1, 8, [.one (.int .i64 0)]⟩
theorem i3 : (Try.prog.info? 3).map (fun i => (i.zero, i.size, i.bytes)) = some (some (.int .i64 0), 1, 8) := by kernel_rfl
theorem is3 : d3.is Try.prog 3 := ⟨Try.underlying3, by obtain ⟨i, h1, h2, h3, h4⟩ := info_of i3; exact ⟨i, h1, h2, h3, _, h4, .cons rfl .nil⟩, oks_cons (s := .one (.int .i64 0)) trivial oks_nil, rfl⟩
def d4 : TyD := ⟨.bool, 1, 1, [.one (.bool false)]⟩
theorem i4 : (Try.prog.info? 4).map (fun i => (i.zero, i.size, i.bytes)) = some (some (.bool false), 1, 1) := by kernel_rfl
theorem is4 : d4.is Try.prog 4 := ⟨Try.underlying4, by obtain ⟨i, h1, h2, h3, h4⟩ := info_of i4; exact ⟨i, h1, h2, h3, _, h4, .cons rfl .nil⟩, oks_cons (s := .one (.bool false)) trivial oks_nil, rfl⟩
def d5 : TyD := ⟨.int .u8, 1, 1, [.one (.int .u8 0)]⟩
theorem i5 : (Try.prog.info? 5).map (fun i => (i.zero, i.size, i.bytes)) = some (some (.int .u8 0), 1, 1) := by kernel_rfl
theorem is5 : d5.is Try.prog 5 := ⟨Try.underlying5, by obtain ⟨i, h1, h2, h3, h4⟩ := info_of i5; exact ⟨i, h1, h2, h3, _, h4, .cons rfl .nil⟩, oks_cons (s := .one (.int .u8 0)) trivial oks_nil, rfl⟩
def d22 : TyD := ⟨.slice 28, 1, 24, [.one (.nilS)]⟩
theorem i22 : (Try.prog.info? 22).map (fun i => (i.zero, i.size, i.bytes)) = some (some (.slice none 0 0), 1, 24) := by kernel_rfl
theorem is22 : d22.is Try.prog 22 := ⟨Try.underlying22, by obtain ⟨i, h1, h2, h3, h4⟩ := info_of i22; exact ⟨i, h1, h2, h3, _, h4, .cons rfl .nil⟩, oks_cons (s := .one (.nilS)) trivial oks_nil, rfl⟩
def d23 : TyD := ⟨.ptr 44, 1, 8, [.one (.nilP)]⟩
theorem i23 : (Try.prog.info? 23).map (fun i => (i.zero, i.size, i.bytes)) = some (some (.pointer none), 1, 8) := by kernel_rfl
theorem is23 : d23.is Try.prog 23 := ⟨Try.underlying23, by obtain ⟨i, h1, h2, h3, h4⟩ := info_of i23; exact ⟨i, h1, h2, h3, _, h4, .cons rfl .nil⟩, oks_cons (s := .one (.nilP)) trivial oks_nil, rfl⟩
def d26 : TyD := ⟨.int .u32, 1, 4, [.one (.int .u32 0)]⟩
theorem i26 : (Try.prog.info? 26).map (fun i => (i.zero, i.size, i.bytes)) = some (some (.int .u32 0), 1, 4) := by kernel_rfl
theorem is26 : d26.is Try.prog 26 := ⟨Try.underlying26, by obtain ⟨i, h1, h2, h3, h4⟩ := info_of i26; exact ⟨i, h1, h2, h3, _, h4, .cons rfl .nil⟩, oks_cons (s := .one (.int .u32 0)) trivial oks_nil, rfl⟩
def d28 : TyD := ⟨.struct [(0, 26), (1, 26), (2, 3), (3, 4), (4, 26), (5, 26), (6, 3)], 7, 40, [.one (.int .u32 0), .one (.int .u32 0), .one (.int .i64 0), .one (.bool false), .one (.int .u32 0), .one (.int .u32 0), .one (.int .i64 0)]⟩
theorem i28 : (Try.prog.info? 28).map (fun i => (i.zero, i.size, i.bytes)) = some (some (.agg #[.int .u32 0, .int .u32 0, .int .i64 0, .bool false, .int .u32 0, .int .u32 0, .int .i64 0]), 7, 40) := by kernel_rfl
theorem is28 : d28.is Try.prog 28 := ⟨⟨_, Try.underlying28, rfl⟩, by obtain ⟨i, h1, h2, h3, h4⟩ := info_of i28; exact ⟨i, h1, h2, h3, _, h4, .cons rfl (.cons rfl (.cons rfl (.cons rfl (.cons rfl (.cons rfl (.cons rfl .nil))))))⟩, oks_cons (s := .one (.int .u32 0)) trivial (oks_cons (s := .one (.int .u32 0)) trivial (oks_cons (s := .one (.int .i64 0)) trivial (oks_cons (s := .one (.bool false)) trivial (oks_cons (s := .one (.int .u32 0)) trivial (oks_cons (s := .one (.int .u32 0)) trivial (oks_cons (s := .one (.int .i64 0)) trivial oks_nil)))))), rfl⟩
def d35 : TyD := ⟨.array 4 5, 4, 4, [.ints .u8 4 [0, 0, 0, 0]]⟩
theorem i35 : (Try.prog.info? 35).map (fun i => (i.zero, i.size, i.bytes)) = some (some (.agg #[.int .u8 0, .int .u8 0, .int .u8 0, .int .u8 0]), 4, 4) := by kernel_rfl
theorem is35 : d35.is Try.prog 35 := ⟨Try.underlying35, by obtain ⟨i, h1, h2, h3, h4⟩ := info_of i35; exact ⟨i, h1, h2, h3, _, h4, .cons rfl (.cons rfl (.cons rfl (.cons rfl .nil)))⟩, oks_cons (s := .ints .u8 4 [0, 0, 0, 0]) rfl oks_nil, rfl⟩
def d36 : TyD := ⟨.int .u64, 1, 8, [.one (.int .u64 0)]⟩
theorem i36 : (Try.prog.info? 36).map (fun i => (i.zero, i.size, i.bytes)) = some (some (.int .u64 0), 1, 8) := by kernel_rfl
theorem is36 : d36.is Try.prog 36 := ⟨Try.underlying36, by obtain ⟨i, h1, h2, h3, h4⟩ := info_of i36; exact ⟨i, h1, h2, h3, _, h4, .cons rfl .nil⟩, oks_cons (s := .one (.int .u64 0)) trivial oks_nil, rfl⟩
def d39 : TyD := ⟨.slice 41, 1, 24, [.one (.nilS)]⟩
theorem i39 : (Try.prog.info? 39).map (fun i => (i.zero, i.size, i.bytes)) = some (some (.slice none 0 0), 1, 24) := by kernel_rfl
theorem is39 : d39.is Try.prog 39 := ⟨Try.underlying39, by obtain ⟨i, h1, h2, h3, h4⟩ := info_of i39; exact ⟨i, h1, h2, h3, _, h4, .cons rfl .nil⟩, oks_cons (s := .one (.nilS)) trivial oks_nil, rfl⟩
def d41 : TyD := ⟨.struct [(0, 3), (1, 28)], 8, 48, [.one (.int .i64 0), .one (.int .u32 0), .one (.int .u32 0), .one (.int .i64 0), .one (.bool false), .one (.int .u32 0), .one (.int .u32 0), .one (.int .i64 0)]⟩
theorem i41 : (Try.prog.info? 41).map (fun i => (i.zero, i.size, i.bytes)) = some (some (.agg #[.int .i64 0, .int .u32 0, .int .u32 0, .int .i64 0, .bool false, .int .u32 0, .int .u32 0, .int .i64 0]), 8, 48) := by kernel_rfl
theorem is41 : d41.is Try.prog 41 := ⟨⟨_, Try.underlying41, rfl⟩, by obtain ⟨i, h1, h2, h3, h4⟩ := info_of i41; exact ⟨i, h1, h2, h3, _, h4, .cons rfl (.cons rfl (.cons rfl (.cons rfl (.cons rfl (.cons rfl (.cons rfl (.cons rfl .nil)))))))⟩, oks_cons (s := .one (.int .i64 0)) trivial (oks_cons (s := .one (.int .u32 0)) trivial (oks_cons (s := .one (.int .u32 0)) trivial (oks_cons (s := .one (.int .i64 0)) trivial (oks_cons (s := .one (.bool false)) trivial (oks_cons (s := .one (.int .u32 0)) trivial (oks_cons (s := .one (.int .u32 0)) trivial (oks_cons (s := .one (.int .i64 0)) trivial oks_nil))))))), rfl⟩
def d44 : TyD := ⟨.struct [(0, 22)], 1, 24, [.one (.nilS)]⟩
theorem i44 : (Try.prog.info? 44).map (fun i => (i.zero, i.size, i.bytes)) = some (some (.agg #[.slice none 0 0]), 1, 24) := by kernel_rfl
theorem is44 : d44.is Try.prog 44 := ⟨⟨_, Try.underlying44, rfl⟩, by obtain ⟨i, h1, h2, h3, h4⟩ := info_of i44; exact ⟨i, h1, h2, h3, _, h4, .cons rfl .nil⟩, oks_cons (s := .one (.nilS)) trivial oks_nil, rfl⟩
def d50 : TyD := ⟨.struct [(0, 22)], 1, 24, [.one (.nilS)]⟩
theorem i50 : (Try.prog.info? 50).map (fun i => (i.zero, i.size, i.bytes)) = some (some (.agg #[.slice none 0 0]), 1, 24) := by kernel_rfl
theorem is50 : d50.is Try.prog 50 := ⟨⟨_, Try.underlying50, rfl⟩, by obtain ⟨i, h1, h2, h3, h4⟩ := info_of i50; exact ⟨i, h1, h2, h3, _, h4, .cons rfl .nil⟩, oks_cons (s := .one (.nilS)) trivial oks_nil, rfl⟩
def TL : List (Nat × TyD) := [(3, d3), (4, d4), (5, d5), (22, d22), (23, d23), (26, d26), (28, d28), (35, d35), (36, d36), (39, d39), (41, d41), (44, d44), (50, d50)]
def look : List (Nat × TyD) → Nat → Option TyD
  | [], _ => none
  | (j, d) :: r, t => match Nat.beq j t with
    | true => some d
    | false => look r t
def T : TT := fun t => look TL t
theorem look_mem : ∀ {l : List (Nat × TyD)} {t : Nat} {d : TyD}, look l t = some d → (t, d) ∈ l
  | [], _, _, h => by cases h
  | (j, e) :: r, t, d, h => by
    simp only [look] at h
    split at h
    · rename_i q; have q := Nat.eq_of_beq_eq_true q; subst q; injection h with h; subst h; exact List.mem_cons_self ..
    · exact List.mem_cons_of_mem _ (look_mem h)
theorem all_is : ∀ p ∈ TL, p.2.is Try.prog p.1 := by
  unfold TL
  simp only [List.forall_mem_cons]
  exact ⟨is3, is4, is5, is22, is23, is26, is28, is35, is36, is39, is41, is44, is50, by simp⟩
theorem tok : TOK Try.prog T := fun t d h => all_is _ (look_mem h)
theorem all_st : ∀ p ∈ TL, match p.2.kind with | .struct l => allT T l = true | _ => True := by
  unfold TL
  simp only [List.forall_mem_cons]
  exact ⟨trivial, trivial, trivial, trivial, trivial, trivial, rfl, trivial, trivial, trivial, rfl, rfl, rfl, by simp⟩
theorem all_ok (t : TypeId) (d : TyD) (l : List (Nat × TypeId)) (h : T t = some d) (hk : d.kind = .struct l) : allT T l = true := by
  have := all_st _ (look_mem h)
  simp only [hk] at this
  exact this
end Go.Proofs.Ytfkjjaimilkfcaa.Tb
