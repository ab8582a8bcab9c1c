/- Numbers told in digits: strconv.Itoa, and the document's Number. -/
import Derived.Test.YtgglclmilocgcaaGreatDoorSh
import Derived.Test.YtgglclmilocgcaaGreatDoorFm
set_option linter.unusedVariables false
set_option linter.unusedSimpArgs false
namespace Go.Proofs.YtgglclmilocgcaaGreatDoor.Md
open Go.RowKit Go.Proofs.YtgglclmilocgcaaGreatDoor.Ae Go.Proofs.YtgglclmilocgcaaGreatDoor.Bv Go.Proofs.YtgglclmilocgcaaGreatDoor
/-- A text of bytes. -/
abbrev tx (l : List UInt8) : AV := .v (.str ⟨l.toArray⟩)
theorem tab_of {R : Ren} {H : Hp} {w : World} (h : Rep R H w) : Lib.TabIs Tryz.prog w "internal/strconv.uint64pow10" .u64 Lib.pow10Tab := by
  obtain ⟨⟨cs, ty, fr, h1, rfl⟩, _⟩ := h.tab _ List.mem_cons_self
  unfold Lib.TabIs World.var?
  rw [show Tryz.prog.globalNamed "internal/strconv.uint64pow10" = some 0 by kernel_rfl]
  simp only [Option.bind]
  rw [h1]; rfl
theorem itoa1 (n : Int) (h0 : -9223372036854775808 ≤ n) (h1 : n ≤ 9223372036854775807) (H : Hp) : AC Tryz.prog 39 [i64 n] H (fun v H' => v = tx (Lib.itoa n) ∧ H' = H) := by
  refine AC.of_grown (r := .str ⟨(Lib.itoa n).toArray⟩) ⟨_, Tryz.func39, rfl, rfl⟩ (fun _ => rfl) (fun R H w vs ha hr => ?_) H
  cases ha with
  | cons hx ht =>
    cases ht
    have hx : _ = Value.int .i64 n := hx
    subst hx
    refine (Tryz.strconv_Itoa n h0 h1 w (tab_of hr)).mono ?_
    rintro e w' ⟨rfl, k, os, rfl⟩
    refine ⟨rfl, rfl, rfl, rfl, ?_, fun k hk => ?_⟩
    · simp [Go.Sort.grow, World.drewN]
    · simp [Go.Sort.grow, World.drewN, Array.getElem?_append, hk]
end Go.Proofs.YtgglclmilocgcaaGreatDoor.Md
