/-
  No cell of these rows narrows 'for every input' (looked for: loops, veiled, ifaces, maps, wideKeys, modest, calm, conditions, laid).
  DERIVED. THE GIVEN ROWS OF THIS SEAT. 4 by the template 'for every input the law returns true; each argument reads behind the call as it read before'; 0 by the template 'total and deterministic' (their statements: YtjhnolnnkebfhaaTotals.lean).
  GIVEN WITH THE SEED: the statements are not yours to turn. If you find one false, say at which input.
  Laid BY PROGRAM, IN A SANDBOX (cutbox-rows.mjs): the forced cells as the released guide's own fill.sh prints them over the translation 9bd1ca3b34a781bf… (all of the seat's roots in one cut). By AI agents, Wed Nov 11 2026. No macro, syntax, notation, axiom, sorry.
-/
import Derived.Test.YtjhnolnnkebfhaaChecked
import GoSem.Claim
import GoSem.ClaimJoined
import GoSem.ClaimMapViews
import Derived.JoinedTies
import Derived.KernelRfl
namespace Go.Proofs.Ytjhnolnnkebfhaa
/- THE CELL 'sum', in the pinned program and in every row, IS THE sha256 OF THE DUMP (.gsa) THAT YtjhnolnnkebfhaaProg.lean LOADS. Nothing in Lean hashes anything: it is a label: what it is worth is what the hold of that sum in a sandbox is worth. -/
noncomputable def Try.pinned : Pinned := { name := "ytjhnolnnkebfhaa", sum := "9bd1ca3b34a781bf47a665a2e1e8cc20c0b31958276897311a93086780264130", checked := Try.checked }
namespace Rows
def none {H : Type} : Left H := { results := [], args := [] }

/-- 'dioscurilaw5.DecodeLoads': WHATEVER THE INPUT: true; the input reads as it did. -/
def decodeLoadsSpec : ChangeSpec := { name := "decodeLoads", fn := fun _ => fun
  | [d1, d2, d3] => { results := [.lit (.bool true)], args := [d1, d2, d3] }
  | _ => none }
def decodeLoadsRow : OpenClaim := { program := "ytjhnolnnkebfhaa", sum := "9bd1ca3b34a781bf47a665a2e1e8cc20c0b31958276897311a93086780264130", func := "dioscuri/dioscurilaw5.DecodeLoads", spec := "decodeLoads", apart := false }
def DecodeLoadsSaid : Prop := decodeLoadsRow.holds Try.pinned (OpenSpec.ofChange decodeLoadsSpec)

/-- ITS FALSE NEIGHBOUR: 'it returns false'. Refute it at one input. -/
def decodeLoadsWrong : ChangeSpec := { name := "decodeLoads", fn := fun _ => fun
  | [d1, d2, d3] => { results := [.lit (.bool false)], args := [d1, d2, d3] }
  | _ => none }
def DecodeLoadsWrongFalsely : Prop := decodeLoadsRow.holds Try.pinned (OpenSpec.ofChange decodeLoadsWrong)

/-- 'dioscurilaw5.DecodeNumbers': WHATEVER THE INPUT: true; the input reads as it did. -/
def decodeNumbersSpec : ChangeSpec := { name := "decodeNumbers", fn := fun _ => fun
  | [] => { results := [.lit (.bool true)], args := [] }
  | _ => none }
def decodeNumbersRow : OpenClaim := { program := "ytjhnolnnkebfhaa", sum := "9bd1ca3b34a781bf47a665a2e1e8cc20c0b31958276897311a93086780264130", func := "dioscuri/dioscurilaw5.DecodeNumbers", spec := "decodeNumbers", apart := false }
def DecodeNumbersSaid : Prop := decodeNumbersRow.holds Try.pinned (OpenSpec.ofChange decodeNumbersSpec)

/-- ITS FALSE NEIGHBOUR: 'it returns false'. Refute it at one input. -/
def decodeNumbersWrong : ChangeSpec := { name := "decodeNumbers", fn := fun _ => fun
  | [] => { results := [.lit (.bool false)], args := [] }
  | _ => none }
def DecodeNumbersWrongFalsely : Prop := decodeNumbersRow.holds Try.pinned (OpenSpec.ofChange decodeNumbersWrong)

/-- 'dioscurilaw5.DecodeTells': WHATEVER THE INPUT: true; the input reads as it did. -/
def decodeTellsSpec : ChangeSpec := { name := "decodeTells", fn := fun _ => fun
  | [d1, d2, d3] => { results := [.lit (.bool true)], args := [d1, d2, d3] }
  | _ => none }
def decodeTellsRow : OpenClaim := { program := "ytjhnolnnkebfhaa", sum := "9bd1ca3b34a781bf47a665a2e1e8cc20c0b31958276897311a93086780264130", func := "dioscuri/dioscurilaw5.DecodeTells", spec := "decodeTells", apart := false }
def DecodeTellsSaid : Prop := decodeTellsRow.holds Try.pinned (OpenSpec.ofChange decodeTellsSpec)

/-- ITS FALSE NEIGHBOUR: 'it returns false'. Refute it at one input. -/
def decodeTellsWrong : ChangeSpec := { name := "decodeTells", fn := fun _ => fun
  | [d1, d2, d3] => { results := [.lit (.bool false)], args := [d1, d2, d3] }
  | _ => none }
def DecodeTellsWrongFalsely : Prop := decodeTellsRow.holds Try.pinned (OpenSpec.ofChange decodeTellsWrong)

/-- 'dioscurilaw5.DecodeFields': WHATEVER THE INPUT: true; the input reads as it did. -/
def decodeFieldsSpec : ChangeSpec := { name := "decodeFields", fn := fun _ => fun
  | [d1, d2] => { results := [.lit (.bool true)], args := [d1, d2] }
  | _ => none }
def decodeFieldsRow : OpenClaim := { program := "ytjhnolnnkebfhaa", sum := "9bd1ca3b34a781bf47a665a2e1e8cc20c0b31958276897311a93086780264130", func := "dioscuri/dioscurilaw5.DecodeFields", spec := "decodeFields", apart := false }
def DecodeFieldsSaid : Prop := decodeFieldsRow.holds Try.pinned (OpenSpec.ofChange decodeFieldsSpec)

/-- ITS FALSE NEIGHBOUR: 'it returns false'. Refute it at one input. -/
def decodeFieldsWrong : ChangeSpec := { name := "decodeFields", fn := fun _ => fun
  | [d1, d2] => { results := [.lit (.bool false)], args := [d1, d2] }
  | _ => none }
def DecodeFieldsWrongFalsely : Prop := decodeFieldsRow.holds Try.pinned (OpenSpec.ofChange decodeFieldsWrong)

/- THE SECOND FORM. 'bulk': how many values and letters a reading holds, each counted each time it is reached (what is shared counts as often as it is met; a slice's spare places count too). A statement '..UptoSaid' is the law's where the arguments, and the package variables that the reading takes, are together of bulk at most 1048576: NARROWER than '..Said'. Prove '..Said' where nothing that the law and all that it calls make is longer than what came in: it says more and counts as full. Else prove '..UptoSaid'. A law counts once. -/
mutual
def uptoBulk {H : Type} : DataW H → Nat
  | .lit (.string bytes) => bytes.length + 1
  | .lit _ => 1
  | .nil => 1
  | .ptr d => uptoBulk d + 1
  | .slice elems spare => uptoBulkAll elems + uptoBulkAll spare + 1
  | .agg parts => uptoBulkAll parts + 1
  | .iface _ d => uptoBulk d + 1
  | .map entries => uptoBulkEntries entries + 1
  | .held _ => 1
def uptoBulkAll {H : Type} : List (DataW H) → Nat
  | [] => 0
  | d :: r => uptoBulk d + uptoBulkAll r
def uptoBulkEntries {H : Type} : List (Lit × DataW H) → Nat
  | [] => 0
  | x :: r => uptoBulkEntry x + uptoBulkEntries r
def uptoBulkEntry {H : Type} : Lit × DataW H → Nat
  | (.string bytes, d) => bytes.length + uptoBulk d + 1
  | (_, d) => uptoBulk d + 1
 end
def uptoSmall : (H : Type) → List (DataW H) → Bool := fun _ ds => decide (uptoBulkAll ds ≤ 1048576)
def OpenSpec.upto (s : _root_.Go.ChangeSpec) : _root_.Go.OpenSpec := { _root_.Go.OpenSpec.ofChange s with cond := some uptoSmall }

/-- 'dioscurilaw5.DecodeLoads', WHERE WHAT IT READS IS OF BULK AT MOST 1048576: true; the input reads as it did. -/
def decodeLoadsUptoRow : OpenClaim := { program := "ytjhnolnnkebfhaa", sum := "9bd1ca3b34a781bf47a665a2e1e8cc20c0b31958276897311a93086780264130", func := "dioscuri/dioscurilaw5.DecodeLoads", spec := "decodeLoads", apart := false, narrowed := true }
def DecodeLoadsUptoSaid : Prop := decodeLoadsUptoRow.holds Try.pinned (OpenSpec.upto decodeLoadsSpec)

/-- 'dioscurilaw5.DecodeNumbers', WHERE WHAT IT READS IS OF BULK AT MOST 1048576: true; the input reads as it did. -/
def decodeNumbersUptoRow : OpenClaim := { program := "ytjhnolnnkebfhaa", sum := "9bd1ca3b34a781bf47a665a2e1e8cc20c0b31958276897311a93086780264130", func := "dioscuri/dioscurilaw5.DecodeNumbers", spec := "decodeNumbers", apart := false, narrowed := true }
def DecodeNumbersUptoSaid : Prop := decodeNumbersUptoRow.holds Try.pinned (OpenSpec.upto decodeNumbersSpec)

/-- 'dioscurilaw5.DecodeTells', WHERE WHAT IT READS IS OF BULK AT MOST 1048576: true; the input reads as it did. -/
def decodeTellsUptoRow : OpenClaim := { program := "ytjhnolnnkebfhaa", sum := "9bd1ca3b34a781bf47a665a2e1e8cc20c0b31958276897311a93086780264130", func := "dioscuri/dioscurilaw5.DecodeTells", spec := "decodeTells", apart := false, narrowed := true }
def DecodeTellsUptoSaid : Prop := decodeTellsUptoRow.holds Try.pinned (OpenSpec.upto decodeTellsSpec)

/-- 'dioscurilaw5.DecodeFields', WHERE WHAT IT READS IS OF BULK AT MOST 1048576: true; the input reads as it did. -/
def decodeFieldsUptoRow : OpenClaim := { program := "ytjhnolnnkebfhaa", sum := "9bd1ca3b34a781bf47a665a2e1e8cc20c0b31958276897311a93086780264130", func := "dioscuri/dioscurilaw5.DecodeFields", spec := "decodeFields", apart := false, narrowed := true }
def DecodeFieldsUptoSaid : Prop := decodeFieldsUptoRow.holds Try.pinned (OpenSpec.upto decodeFieldsSpec)

end Rows
end Go.Proofs.Ytjhnolnnkebfhaa
