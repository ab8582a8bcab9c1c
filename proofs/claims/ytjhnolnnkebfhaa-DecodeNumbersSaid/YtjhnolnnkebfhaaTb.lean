/- The types of this program, as far as the abstract machine asks for them. -/
import Derived.Test.YtjhnolnnkebfhaaAe
import Derived.Test.YtjhnolnnkebfhaaProg
set_option linter.unusedVariables false
namespace Go.Proofs.Ytjhnolnnkebfhaa.Tb
open Go.RowKit Go.Proofs.Ytjhnolnnkebfhaa.Ae
theorem info_of {P : Program} {t : TypeId} {Z : Value} {n m : Nat} (h : (P.info? t).map (fun i => (i.zero, i.size, i.bytes)) = some (some Z, n, m)) : ∃ i, P.info? t = some i ∧ i.size = n ∧ i.bytes = m ∧ i.zero = some Z := by
  cases e : P.info? t with
  | none => rw [e] at h; cases h
  | some i => rw [e] at h; injection h with h; injection h with h1 h2; injection h2 with h2 h3; exact ⟨i, rfl, h2, h3, h1⟩
def d3 : TyD := ⟨.int .i64, 1, 8, [.one (.int .i64 0)]⟩
theorem i3 : (Try.prog.info? 3).map (fun i => (i.zero, i.size, i.bytes)) = some (some (.int .i64 0), 1, 8) := by kernel_rfl
theorem is3 : d3.is Try.prog 3 := ⟨Try.underlying3, by obtain ⟨i, h1, h2, h3, h4⟩ := info_of i3; exact ⟨i, h1, h2, h3, _, h4, .cons rfl .nil⟩, oks_cons (s := .one (.int .i64 0)) trivial oks_nil, rfl⟩
def d4 : TyD := ⟨.bool, 1, 1, [.one (.bool false)]⟩
theorem i4 : (Try.prog.info? 4).map (fun i => (i.zero, i.size, i.bytes)) = some (some (.bool false), 1, 1) := by kernel_rfl
theorem is4 : d4.is Try.prog 4 := ⟨Try.underlying4, by obtain ⟨i, h1, h2, h3, h4⟩ := info_of i4; exact ⟨i, h1, h2, h3, _, h4, .cons rfl .nil⟩, oks_cons (s := .one (.bool false)) trivial oks_nil, rfl⟩
def d5 : TyD := ⟨.int .u8, 1, 1, [.one (.int .u8 0)]⟩
theorem i5 : (Try.prog.info? 5).map (fun i => (i.zero, i.size, i.bytes)) = some (some (.int .u8 0), 1, 1) := by kernel_rfl
theorem is5 : d5.is Try.prog 5 := ⟨Try.underlying5, by obtain ⟨i, h1, h2, h3, h4⟩ := info_of i5; exact ⟨i, h1, h2, h3, _, h4, .cons rfl .nil⟩, oks_cons (s := .one (.int .u8 0)) trivial oks_nil, rfl⟩
def d21 : TyD := ⟨.int .i32, 1, 4, [.one (.int .i32 0)]⟩
theorem i21 : (Try.prog.info? 21).map (fun i => (i.zero, i.size, i.bytes)) = some (some (.int .i32 0), 1, 4) := by kernel_rfl
theorem is21 : d21.is Try.prog 21 := ⟨Try.underlying21, by obtain ⟨i, h1, h2, h3, h4⟩ := info_of i21; exact ⟨i, h1, h2, h3, _, h4, .cons rfl .nil⟩, oks_cons (s := .one (.int .i32 0)) trivial oks_nil, rfl⟩
def d22 : TyD := ⟨.int .u32, 1, 4, [.one (.int .u32 0)]⟩
theorem i22 : (Try.prog.info? 22).map (fun i => (i.zero, i.size, i.bytes)) = some (some (.int .u32 0), 1, 4) := by kernel_rfl
theorem is22 : d22.is Try.prog 22 := ⟨Try.underlying22, by obtain ⟨i, h1, h2, h3, h4⟩ := info_of i22; exact ⟨i, h1, h2, h3, _, h4, .cons rfl .nil⟩, oks_cons (s := .one (.int .u32 0)) trivial oks_nil, rfl⟩
def d24 : TyD := ⟨.struct [(0, 3), (1, 3), (2, 3), (3, 3), (4, 21)], 5, 40, [.one (.int .i64 0), .one (.int .i64 0), .one (.int .i64 0), .one (.int .i64 0), .one (.int .i32 0)]⟩
theorem i24 : (Try.prog.info? 24).map (fun i => (i.zero, i.size, i.bytes)) = some (some (.agg #[.int .i64 0, .int .i64 0, .int .i64 0, .int .i64 0, .int .i32 0]), 5, 40) := by kernel_rfl
theorem is24 : d24.is Try.prog 24 := ⟨⟨_, Try.underlying24, rfl⟩, by obtain ⟨i, h1, h2, h3, h4⟩ := info_of i24; exact ⟨i, h1, h2, h3, _, h4, .cons rfl (.cons rfl (.cons rfl (.cons rfl (.cons rfl .nil))))⟩, oks_cons (s := .one (.int .i64 0)) trivial (oks_cons (s := .one (.int .i64 0)) trivial (oks_cons (s := .one (.int .i64 0)) trivial (oks_cons (s := .one (.int .i64 0)) trivial (oks_cons (s := .one (.int .i32 0)) trivial oks_nil)))), rfl⟩
def d27 : TyD := ⟨.int .u64, 1, 8, [.one (.int .u64 0)]⟩
theorem i27 : (Try.prog.info? 27).map (fun i => (i.zero, i.size, i.bytes)) = some (some (.int .u64 0), 1, 8) := by kernel_rfl
theorem is27 : d27.is Try.prog 27 := ⟨Try.underlying27, by obtain ⟨i, h1, h2, h3, h4⟩ := info_of i27; exact ⟨i, h1, h2, h3, _, h4, .cons rfl .nil⟩, oks_cons (s := .one (.int .u64 0)) trivial oks_nil, rfl⟩
def d31 : TyD := ⟨.slice 22, 1, 24, [.one (.nilS)]⟩
theorem i31 : (Try.prog.info? 31).map (fun i => (i.zero, i.size, i.bytes)) = some (some (.slice none 0 0), 1, 24) := by kernel_rfl
theorem is31 : d31.is Try.prog 31 := ⟨Try.underlying31, by obtain ⟨i, h1, h2, h3, h4⟩ := info_of i31; exact ⟨i, h1, h2, h3, _, h4, .cons rfl .nil⟩, oks_cons (s := .one (.nilS)) trivial oks_nil, rfl⟩
def d33 : TyD := ⟨.slice 3, 1, 24, [.one (.nilS)]⟩
theorem i33 : (Try.prog.info? 33).map (fun i => (i.zero, i.size, i.bytes)) = some (some (.slice none 0 0), 1, 24) := by kernel_rfl
theorem is33 : d33.is Try.prog 33 := ⟨Try.underlying33, by obtain ⟨i, h1, h2, h3, h4⟩ := info_of i33; exact ⟨i, h1, h2, h3, _, h4, .cons rfl .nil⟩, oks_cons (s := .one (.nilS)) trivial oks_nil, rfl⟩
def d36 : TyD := ⟨.struct [(0, 33), (1, 3)], 2, 32, [.one (.nilS), .one (.int .i64 0)]⟩
theorem i36 : (Try.prog.info? 36).map (fun i => (i.zero, i.size, i.bytes)) = some (some (.agg #[.slice none 0 0, .int .i64 0]), 2, 32) := by kernel_rfl
theorem is36 : d36.is Try.prog 36 := ⟨⟨_, Try.underlying36, rfl⟩, by obtain ⟨i, h1, h2, h3, h4⟩ := info_of i36; exact ⟨i, h1, h2, h3, _, h4, .cons rfl (.cons rfl .nil)⟩, oks_cons (s := .one (.nilS)) trivial (oks_cons (s := .one (.int .i64 0)) trivial oks_nil), rfl⟩
def d46 : TyD := ⟨.struct [(0, 22), (1, 3), (2, 3), (3, 3), (4, 3), (5, 3), (6, 3)], 7, 56, [.one (.int .u32 0), .one (.int .i64 0), .one (.int .i64 0), .one (.int .i64 0), .one (.int .i64 0), .one (.int .i64 0), .one (.int .i64 0)]⟩
theorem i46 : (Try.prog.info? 46).map (fun i => (i.zero, i.size, i.bytes)) = some (some (.agg #[.int .u32 0, .int .i64 0, .int .i64 0, .int .i64 0, .int .i64 0, .int .i64 0, .int .i64 0]), 7, 56) := by kernel_rfl
theorem is46 : d46.is Try.prog 46 := ⟨⟨_, Try.underlying46, rfl⟩, by obtain ⟨i, h1, h2, h3, h4⟩ := info_of i46; exact ⟨i, h1, h2, h3, _, h4, .cons rfl (.cons rfl (.cons rfl (.cons rfl (.cons rfl (.cons rfl (.cons rfl .nil))))))⟩, oks_cons (s := .one (.int .u32 0)) trivial (oks_cons (s := .one (.int .i64 0)) trivial (oks_cons (s := .one (.int .i64 0)) trivial (oks_cons (s := .one (.int .i64 0)) trivial (oks_cons (s := .one (.int .i64 0)) trivial (oks_cons (s := .one (.int .i64 0)) trivial (oks_cons (s := .one (.int .i64 0)) trivial oks_nil)))))), rfl⟩
def d50 : TyD := ⟨.array 8 3, 8, 64, [.ints .i64 8 [0, 0, 0, 0, 0, 0, 0, 0]]⟩
theorem i50 : (Try.prog.info? 50).map (fun i => (i.zero, i.size, i.bytes)) = some (some (.agg #[.int .i64 0, .int .i64 0, .int .i64 0, .int .i64 0, .int .i64 0, .int .i64 0, .int .i64 0, .int .i64 0]), 8, 64) := by kernel_rfl
theorem is50 : d50.is Try.prog 50 := ⟨Try.underlying50, by obtain ⟨i, h1, h2, h3, h4⟩ := info_of i50; exact ⟨i, h1, h2, h3, _, h4, .cons rfl (.cons rfl (.cons rfl (.cons rfl (.cons rfl (.cons rfl (.cons rfl (.cons rfl .nil)))))))⟩, oks_cons (s := .ints .i64 8 [0, 0, 0, 0, 0, 0, 0, 0]) rfl oks_nil, rfl⟩
def d55 : TyD := ⟨.slice 21, 1, 24, [.one (.nilS)]⟩
theorem i55 : (Try.prog.info? 55).map (fun i => (i.zero, i.size, i.bytes)) = some (some (.slice none 0 0), 1, 24) := by kernel_rfl
theorem is55 : d55.is Try.prog 55 := ⟨Try.underlying55, by obtain ⟨i, h1, h2, h3, h4⟩ := info_of i55; exact ⟨i, h1, h2, h3, _, h4, .cons rfl .nil⟩, oks_cons (s := .one (.nilS)) trivial oks_nil, rfl⟩
def d57 : TyD := ⟨.array 6 3, 6, 48, [.ints .i64 6 [0, 0, 0, 0, 0, 0]]⟩
theorem i57 : (Try.prog.info? 57).map (fun i => (i.zero, i.size, i.bytes)) = some (some (.agg #[.int .i64 0, .int .i64 0, .int .i64 0, .int .i64 0, .int .i64 0, .int .i64 0]), 6, 48) := by kernel_rfl
theorem is57 : d57.is Try.prog 57 := ⟨Try.underlying57, by obtain ⟨i, h1, h2, h3, h4⟩ := info_of i57; exact ⟨i, h1, h2, h3, _, h4, .cons rfl (.cons rfl (.cons rfl (.cons rfl (.cons rfl (.cons rfl .nil)))))⟩, oks_cons (s := .ints .i64 6 [0, 0, 0, 0, 0, 0]) rfl oks_nil, rfl⟩
def d58 : TyD := ⟨.array 2 3, 2, 16, [.ints .i64 2 [0, 0]]⟩
theorem i58 : (Try.prog.info? 58).map (fun i => (i.zero, i.size, i.bytes)) = some (some (.agg #[.int .i64 0, .int .i64 0]), 2, 16) := by kernel_rfl
theorem is58 : d58.is Try.prog 58 := ⟨Try.underlying58, by obtain ⟨i, h1, h2, h3, h4⟩ := info_of i58; exact ⟨i, h1, h2, h3, _, h4, .cons rfl (.cons rfl .nil)⟩, oks_cons (s := .ints .i64 2 [0, 0]) rfl oks_nil, rfl⟩
def d59 : TyD := ⟨.array 6 58, 12, 96, [.ints .i64 12 [0, 0, 0, 0, 0, 0, 0, 0, 0, 0, 0, 0]]⟩
theorem i59 : (Try.prog.info? 59).map (fun i => (i.zero, i.size, i.bytes)) = some (some (.agg #[.int .i64 0, .int .i64 0, .int .i64 0, .int .i64 0, .int .i64 0, .int .i64 0, .int .i64 0, .int .i64 0, .int .i64 0, .int .i64 0, .int .i64 0, .int .i64 0]), 12, 96) := by kernel_rfl
theorem is59 : d59.is Try.prog 59 := ⟨Try.underlying59, by obtain ⟨i, h1, h2, h3, h4⟩ := info_of i59; exact ⟨i, h1, h2, h3, _, h4, .cons rfl (.cons rfl (.cons rfl (.cons rfl (.cons rfl (.cons rfl (.cons rfl (.cons rfl (.cons rfl (.cons rfl (.cons rfl (.cons rfl .nil)))))))))))⟩, oks_cons (s := .ints .i64 12 [0, 0, 0, 0, 0, 0, 0, 0, 0, 0, 0, 0]) rfl oks_nil, rfl⟩
def d68 : TyD := ⟨.int .u64, 1, 8, [.one (.int .u64 0)]⟩
theorem i68 : (Try.prog.info? 68).map (fun i => (i.zero, i.size, i.bytes)) = some (some (.int .u64 0), 1, 8) := by kernel_rfl
theorem is68 : d68.is Try.prog 68 := ⟨Try.underlying68, by obtain ⟨i, h1, h2, h3, h4⟩ := info_of i68; exact ⟨i, h1, h2, h3, _, h4, .cons rfl .nil⟩, oks_cons (s := .one (.int .u64 0)) trivial oks_nil, rfl⟩
def TL : List (Nat × TyD) := [(3, d3), (4, d4), (5, d5), (21, d21), (22, d22), (24, d24), (27, d27), (31, d31), (33, d33), (36, d36), (46, d46), (50, d50), (55, d55), (57, d57), (58, d58), (59, d59), (68, d68)]
def look : List (Nat × TyD) → Nat → Option TyD
  | [], _ => none
  | (j, d) :: r, t => match Nat.beq j t with
    | true => some d
    | false => look r t
def T : TT := fun t => look TL t
theorem look_mem : ∀ {l : List (Nat × TyD)} {t : Nat} {d : TyD}, look l t = some d → (t, d) ∈ l
  | [], _, _, h => by cases h
  | (j, e) :: r, t, d, h => by
    simp only [look] at h
    split at h
    · rename_i q; have q := Nat.eq_of_beq_eq_true q; subst q; injection h with h; subst h; exact List.mem_cons_self ..
    · exact List.mem_cons_of_mem _ (look_mem h)
theorem all_is : ∀ p ∈ TL, p.2.is Try.prog p.1 := by
  unfold TL
  simp only [List.forall_mem_cons]
  exact ⟨is3, is4, is5, is21, is22, is24, is27, is31, is33, is36, is46, is50, is55, is57, is58, is59, is68, by simp⟩
theorem tok : TOK Try.prog T := fun t d h => all_is _ (look_mem h)
theorem all_st : ∀ p ∈ TL, match p.2.kind with | .struct l => allT T l = true | _ => True := by
  unfold TL
  simp only [List.forall_mem_cons]
  exact ⟨trivial, trivial, trivial, trivial, trivial, rfl, trivial, trivial, trivial, rfl, rfl, trivial, trivial, trivial, trivial, trivial, trivial, by simp⟩
theorem all_ok (t : TypeId) (d : TyD) (l : List (Nat × TypeId)) (h : T t = some d) (hk : d.kind = .struct l) : allT T l = true := by
  have := all_st _ (look_mem h)
  simp only [hk] at this
  exact this
end Go.Proofs.Ytjhnolnnkebfhaa.Tb
