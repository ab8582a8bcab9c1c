/-
  No cell of these rows narrows 'for every input' (looked for: loops, veiled, ifaces, maps, wideKeys, modest, calm, conditions, laid).
  DERIVED. THE GIVEN ROWS OF THIS SEAT. 4 by the template 'for every input the law returns true; each argument reads behind the call as it read before'; 0 by the template 'total and deterministic' (their statements: YteabaipppalpjaaTotals.lean).
  GIVEN WITH THE SEED: the statements are not yours to turn. If you find one false, say at which input.
  Laid BY PROGRAM, IN A SANDBOX (cutbox-rows.mjs): the forced cells as the released guide's own fill.sh prints them over the translation 841dfb7d4fa4cdd7… (all of the seat's roots in one cut). By AI agents, Wed Nov 11 2026. No macro, syntax, notation, axiom, sorry.
-/
import Derived.Test.YteabaipppalpjaaChecked
import GoSem.Claim
import GoSem.ClaimJoined
import GoSem.ClaimMapViews
import Derived.JoinedTies
import Derived.KernelRfl
namespace Go.Proofs.Yteabaipppalpjaa
/- THE CELL 'sum', in the pinned program and in every row, IS THE sha256 OF THE DUMP (.gsa) THAT YteabaipppalpjaaProg.lean LOADS. Nothing in Lean hashes anything: it is a label: what it is worth is what the hold of that sum in a sandbox is worth. -/
noncomputable def Try.pinned : Pinned := { name := "yteabaipppalpjaa", sum := "841dfb7d4fa4cdd700d039391b410cbf05d69522d7700f197dc514699c848c2b", checked := Try.checked }
namespace Rows
def none {H : Type} : Left H := { results := [], args := [] }

/-- 'dioscurilaw9.AlignNumbers': WHATEVER THE INPUT: true; the input reads as it did. -/
def alignNumbersSpec : ChangeSpec := { name := "alignNumbers", fn := fun _ => fun
  | [] => { results := [.lit (.bool true)], args := [] }
  | _ => none }
def alignNumbersRow : OpenClaim := { program := "yteabaipppalpjaa", sum := "841dfb7d4fa4cdd700d039391b410cbf05d69522d7700f197dc514699c848c2b", func := "dioscuri/dioscurilaw9.AlignNumbers", spec := "alignNumbers", apart := false }
def AlignNumbersSaid : Prop := alignNumbersRow.holds Try.pinned (OpenSpec.ofChange alignNumbersSpec)

/-- ITS FALSE NEIGHBOUR: 'it returns false'. Refute it at one input. -/
def alignNumbersWrong : ChangeSpec := { name := "alignNumbers", fn := fun _ => fun
  | [] => { results := [.lit (.bool false)], args := [] }
  | _ => none }
def AlignNumbersWrongFalsely : Prop := alignNumbersRow.holds Try.pinned (OpenSpec.ofChange alignNumbersWrong)

/-- 'dioscurilaw9.AlignTells': WHATEVER THE INPUT: true; the input reads as it did. -/
def alignTellsSpec : ChangeSpec := { name := "alignTells", fn := fun _ => fun
  | [d1, d2, d3, d4, d5] => { results := [.lit (.bool true)], args := [d1, d2, d3, d4, d5] }
  | _ => none }
def alignTellsRow : OpenClaim := { program := "yteabaipppalpjaa", sum := "841dfb7d4fa4cdd700d039391b410cbf05d69522d7700f197dc514699c848c2b", func := "dioscuri/dioscurilaw9.AlignTells", spec := "alignTells", apart := false }
def AlignTellsSaid : Prop := alignTellsRow.holds Try.pinned (OpenSpec.ofChange alignTellsSpec)

/-- ITS FALSE NEIGHBOUR: 'it returns false'. Refute it at one input. -/
def alignTellsWrong : ChangeSpec := { name := "alignTells", fn := fun _ => fun
  | [d1, d2, d3, d4, d5] => { results := [.lit (.bool false)], args := [d1, d2, d3, d4, d5] }
  | _ => none }
def AlignTellsWrongFalsely : Prop := alignTellsRow.holds Try.pinned (OpenSpec.ofChange alignTellsWrong)

/-- 'dioscurilaw9.AlignBack': WHATEVER THE INPUT: true; the input reads as it did. -/
def alignBackSpec : ChangeSpec := { name := "alignBack", fn := fun _ => fun
  | [d1, d2, d3, d4] => { results := [.lit (.bool true)], args := [d1, d2, d3, d4] }
  | _ => none }
def alignBackRow : OpenClaim := { program := "yteabaipppalpjaa", sum := "841dfb7d4fa4cdd700d039391b410cbf05d69522d7700f197dc514699c848c2b", func := "dioscuri/dioscurilaw9.AlignBack", spec := "alignBack", apart := false }
def AlignBackSaid : Prop := alignBackRow.holds Try.pinned (OpenSpec.ofChange alignBackSpec)

/-- ITS FALSE NEIGHBOUR: 'it returns false'. Refute it at one input. -/
def alignBackWrong : ChangeSpec := { name := "alignBack", fn := fun _ => fun
  | [d1, d2, d3, d4] => { results := [.lit (.bool false)], args := [d1, d2, d3, d4] }
  | _ => none }
def AlignBackWrongFalsely : Prop := alignBackRow.holds Try.pinned (OpenSpec.ofChange alignBackWrong)

/-- 'dioscurilaw9.AlignParts': WHATEVER THE INPUT: true; the input reads as it did. -/
def alignPartsSpec : ChangeSpec := { name := "alignParts", fn := fun _ => fun
  | [d1, d2, d3] => { results := [.lit (.bool true)], args := [d1, d2, d3] }
  | _ => none }
def alignPartsRow : OpenClaim := { program := "yteabaipppalpjaa", sum := "841dfb7d4fa4cdd700d039391b410cbf05d69522d7700f197dc514699c848c2b", func := "dioscuri/dioscurilaw9.AlignParts", spec := "alignParts", apart := false }
def AlignPartsSaid : Prop := alignPartsRow.holds Try.pinned (OpenSpec.ofChange alignPartsSpec)

/-- ITS FALSE NEIGHBOUR: 'it returns false'. Refute it at one input. -/
def alignPartsWrong : ChangeSpec := { name := "alignParts", fn := fun _ => fun
  | [d1, d2, d3] => { results := [.lit (.bool false)], args := [d1, d2, d3] }
  | _ => none }
def AlignPartsWrongFalsely : Prop := alignPartsRow.holds Try.pinned (OpenSpec.ofChange alignPartsWrong)

/- THE SECOND FORM. 'bulk': how many values and letters a reading holds, each counted each time it is reached (what is shared counts as often as it is met; a slice's spare places count too). A statement '..UptoSaid' is the law's where the arguments, and the package variables that the reading takes, are together of bulk at most 1048576: NARROWER than '..Said'. Prove '..Said' where nothing that the law and all that it calls make is longer than what came in: it says more and counts as full. Else prove '..UptoSaid'. A law counts once. -/
mutual
def uptoBulk {H : Type} : DataW H → Nat
  | .lit (.string bytes) => bytes.length + 1
  | .lit _ => 1
  | .nil => 1
  | .ptr d => uptoBulk d + 1
  | .slice elems spare => uptoBulkAll elems + uptoBulkAll spare + 1
  | .agg parts => uptoBulkAll parts + 1
  | .iface _ d => uptoBulk d + 1
  | .map entries => uptoBulkEntries entries + 1
  | .held _ => 1
def uptoBulkAll {H : Type} : List (DataW H) → Nat
  | [] => 0
  | d :: r => uptoBulk d + uptoBulkAll r
def uptoBulkEntries {H : Type} : List (Lit × DataW H) → Nat
  | [] => 0
  | x :: r => uptoBulkEntry x + uptoBulkEntries r
def uptoBulkEntry {H : Type} : Lit × DataW H → Nat
  | (.string bytes, d) => bytes.length + uptoBulk d + 1
  | (_, d) => uptoBulk d + 1
 end
def uptoSmall : (H : Type) → List (DataW H) → Bool := fun _ ds => decide (uptoBulkAll ds ≤ 1048576)
def OpenSpec.upto (s : _root_.Go.ChangeSpec) : _root_.Go.OpenSpec := { _root_.Go.OpenSpec.ofChange s with cond := some uptoSmall }

/-- 'dioscurilaw9.AlignNumbers', WHERE WHAT IT READS IS OF BULK AT MOST 1048576: true; the input reads as it did. -/
def alignNumbersUptoRow : OpenClaim := { program := "yteabaipppalpjaa", sum := "841dfb7d4fa4cdd700d039391b410cbf05d69522d7700f197dc514699c848c2b", func := "dioscuri/dioscurilaw9.AlignNumbers", spec := "alignNumbers", apart := false, narrowed := true }
def AlignNumbersUptoSaid : Prop := alignNumbersUptoRow.holds Try.pinned (OpenSpec.upto alignNumbersSpec)

/-- 'dioscurilaw9.AlignTells', WHERE WHAT IT READS IS OF BULK AT MOST 1048576: true; the input reads as it did. -/
def alignTellsUptoRow : OpenClaim := { program := "yteabaipppalpjaa", sum := "841dfb7d4fa4cdd700d039391b410cbf05d69522d7700f197dc514699c848c2b", func := "dioscuri/dioscurilaw9.AlignTells", spec := "alignTells", apart := false, narrowed := true }
def AlignTellsUptoSaid : Prop := alignTellsUptoRow.holds Try.pinned (OpenSpec.upto alignTellsSpec)

/-- 'dioscurilaw9.AlignBack', WHERE WHAT IT READS IS OF BULK AT MOST 1048576: true; the input reads as it did. -/
def alignBackUptoRow : OpenClaim := { program := "yteabaipppalpjaa", sum := "841dfb7d4fa4cdd700d039391b410cbf05d69522d7700f197dc514699c848c2b", func := "dioscuri/dioscurilaw9.AlignBack", spec := "alignBack", apart := false, narrowed := true }
def AlignBackUptoSaid : Prop := alignBackUptoRow.holds Try.pinned (OpenSpec.upto alignBackSpec)

/-- 'dioscurilaw9.AlignParts', WHERE WHAT IT READS IS OF BULK AT MOST 1048576: true; the input reads as it did. -/
def alignPartsUptoRow : OpenClaim := { program := "yteabaipppalpjaa", sum := "841dfb7d4fa4cdd700d039391b410cbf05d69522d7700f197dc514699c848c2b", func := "dioscuri/dioscurilaw9.AlignParts", spec := "alignParts", apart := false, narrowed := true }
def AlignPartsUptoSaid : Prop := alignPartsUptoRow.holds Try.pinned (OpenSpec.upto alignPartsSpec)

end Rows
end Go.Proofs.Yteabaipppalpjaa
