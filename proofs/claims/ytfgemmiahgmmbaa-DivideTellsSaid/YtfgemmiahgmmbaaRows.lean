/-
  No cell of these rows narrows 'for every input' (looked for: loops, veiled, ifaces, maps, wideKeys, modest, calm, conditions, laid).
  DERIVED. THE GIVEN ROWS OF THIS SEAT. 4 by the template 'for every input the law returns true; each argument reads behind the call as it read before'; 0 by the template 'total and deterministic' (their statements: YtfgemmiahgmmbaaTotals.lean).
  GIVEN WITH THE SEED: the statements are not yours to turn. If you find one false, say at which input.
  Laid BY PROGRAM, IN A SANDBOX (cutbox-rows.mjs): the forced cells as the released guide's own fill.sh prints them over the translation 1c1261a135ffc994… (all of the seat's roots in one cut). By AI agents, Wed Nov 11 2026. No macro, syntax, notation, axiom, sorry.
-/
import Derived.Test.YtfgemmiahgmmbaaChecked
import GoSem.Claim
import GoSem.ClaimJoined
import GoSem.ClaimMapViews
import Derived.JoinedTies
import Derived.KernelRfl
namespace Go.Proofs.Ytfgemmiahgmmbaa
/- THE CELL 'sum', in the pinned program and in every row, IS THE sha256 OF THE DUMP (.gsa) THAT YtfgemmiahgmmbaaProg.lean LOADS. Nothing in Lean hashes anything: it is a label: what it is worth is what the hold of that sum in a sandbox is worth. -/
noncomputable def Try.pinned : Pinned := { name := "ytfgemmiahgmmbaa", sum := "1c1261a135ffc994b743fbae198c5994cd5a0491a25d4cc07655cd8a612775ed", checked := Try.checked }
namespace Rows
def none {H : Type} : Left H := { results := [], args := [] }

/-- 'dioscurilaw8.DivideNumbers': WHATEVER THE INPUT: true; the input reads as it did. -/
def divideNumbersSpec : ChangeSpec := { name := "divideNumbers", fn := fun _ => fun
  | [] => { results := [.lit (.bool true)], args := [] }
  | _ => none }
def divideNumbersRow : OpenClaim := { program := "ytfgemmiahgmmbaa", sum := "1c1261a135ffc994b743fbae198c5994cd5a0491a25d4cc07655cd8a612775ed", func := "dioscuri/dioscurilaw8.DivideNumbers", spec := "divideNumbers", apart := false }
def DivideNumbersSaid : Prop := divideNumbersRow.holds Try.pinned (OpenSpec.ofChange divideNumbersSpec)

/-- ITS FALSE NEIGHBOUR: 'it returns false'. Refute it at one input. -/
def divideNumbersWrong : ChangeSpec := { name := "divideNumbers", fn := fun _ => fun
  | [] => { results := [.lit (.bool false)], args := [] }
  | _ => none }
def DivideNumbersWrongFalsely : Prop := divideNumbersRow.holds Try.pinned (OpenSpec.ofChange divideNumbersWrong)

/-- 'dioscurilaw8.DivideTells': WHATEVER THE INPUT: true; the input reads as it did. -/
def divideTellsSpec : ChangeSpec := { name := "divideTells", fn := fun _ => fun
  | [d1, d2, d3] => { results := [.lit (.bool true)], args := [d1, d2, d3] }
  | _ => none }
def divideTellsRow : OpenClaim := { program := "ytfgemmiahgmmbaa", sum := "1c1261a135ffc994b743fbae198c5994cd5a0491a25d4cc07655cd8a612775ed", func := "dioscuri/dioscurilaw8.DivideTells", spec := "divideTells", apart := false }
def DivideTellsSaid : Prop := divideTellsRow.holds Try.pinned (OpenSpec.ofChange divideTellsSpec)

/-- ITS FALSE NEIGHBOUR: 'it returns false'. Refute it at one input. -/
def divideTellsWrong : ChangeSpec := { name := "divideTells", fn := fun _ => fun
  | [d1, d2, d3] => { results := [.lit (.bool false)], args := [d1, d2, d3] }
  | _ => none }
def DivideTellsWrongFalsely : Prop := divideTellsRow.holds Try.pinned (OpenSpec.ofChange divideTellsWrong)

/-- 'dioscurilaw8.DivideSame': WHATEVER THE INPUT: true; the input reads as it did. -/
def divideSameSpec : ChangeSpec := { name := "divideSame", fn := fun _ => fun
  | [d1, d2, d3] => { results := [.lit (.bool true)], args := [d1, d2, d3] }
  | _ => none }
def divideSameRow : OpenClaim := { program := "ytfgemmiahgmmbaa", sum := "1c1261a135ffc994b743fbae198c5994cd5a0491a25d4cc07655cd8a612775ed", func := "dioscuri/dioscurilaw8.DivideSame", spec := "divideSame", apart := false }
def DivideSameSaid : Prop := divideSameRow.holds Try.pinned (OpenSpec.ofChange divideSameSpec)

/-- ITS FALSE NEIGHBOUR: 'it returns false'. Refute it at one input. -/
def divideSameWrong : ChangeSpec := { name := "divideSame", fn := fun _ => fun
  | [d1, d2, d3] => { results := [.lit (.bool false)], args := [d1, d2, d3] }
  | _ => none }
def DivideSameWrongFalsely : Prop := divideSameRow.holds Try.pinned (OpenSpec.ofChange divideSameWrong)

/-- 'dioscurilaw8.DivideParts': WHATEVER THE INPUT: true; the input reads as it did. -/
def dividePartsSpec : ChangeSpec := { name := "divideParts", fn := fun _ => fun
  | [d1, d2] => { results := [.lit (.bool true)], args := [d1, d2] }
  | _ => none }
def dividePartsRow : OpenClaim := { program := "ytfgemmiahgmmbaa", sum := "1c1261a135ffc994b743fbae198c5994cd5a0491a25d4cc07655cd8a612775ed", func := "dioscuri/dioscurilaw8.DivideParts", spec := "divideParts", apart := false }
def DividePartsSaid : Prop := dividePartsRow.holds Try.pinned (OpenSpec.ofChange dividePartsSpec)

/-- ITS FALSE NEIGHBOUR: 'it returns false'. Refute it at one input. -/
def dividePartsWrong : ChangeSpec := { name := "divideParts", fn := fun _ => fun
  | [d1, d2] => { results := [.lit (.bool false)], args := [d1, d2] }
  | _ => none }
def DividePartsWrongFalsely : Prop := dividePartsRow.holds Try.pinned (OpenSpec.ofChange dividePartsWrong)

/- THE SECOND FORM. 'bulk': how many values and letters a reading holds, each counted each time it is reached (what is shared counts as often as it is met; a slice's spare places count too). A statement '..UptoSaid' is the law's where the arguments, and the package variables that the reading takes, are together of bulk at most 1048576: NARROWER than '..Said'. Prove '..Said' where nothing that the law and all that it calls make is longer than what came in: it says more and counts as full. Else prove '..UptoSaid'. A law counts once. -/
mutual
def uptoBulk {H : Type} : DataW H → Nat
  | .lit (.string bytes) => bytes.length + 1
  | .lit _ => 1
  | .nil => 1
  | .ptr d => uptoBulk d + 1
  | .slice elems spare => uptoBulkAll elems + uptoBulkAll spare + 1
  | .agg parts => uptoBulkAll parts + 1
  | .iface _ d => uptoBulk d + 1
  | .map entries => uptoBulkEntries entries + 1
  | .held _ => 1
def uptoBulkAll {H : Type} : List (DataW H) → Nat
  | [] => 0
  | d :: r => uptoBulk d + uptoBulkAll r
def uptoBulkEntries {H : Type} : List (Lit × DataW H) → Nat
  | [] => 0
  | x :: r => uptoBulkEntry x + uptoBulkEntries r
def uptoBulkEntry {H : Type} : Lit × DataW H → Nat
  | (.string bytes, d) => bytes.length + uptoBulk d + 1
  | (_, d) => uptoBulk d + 1
 end
def uptoSmall : (H : Type) → List (DataW H) → Bool := fun _ ds => decide (uptoBulkAll ds ≤ 1048576)
def OpenSpec.upto (s : _root_.Go.ChangeSpec) : _root_.Go.OpenSpec := { _root_.Go.OpenSpec.ofChange s with cond := some uptoSmall }

/-- 'dioscurilaw8.DivideNumbers', WHERE WHAT IT READS IS OF BULK AT MOST 1048576: true; the input reads as it did. -/
def divideNumbersUptoRow : OpenClaim := { program := "ytfgemmiahgmmbaa", sum := "1c1261a135ffc994b743fbae198c5994cd5a0491a25d4cc07655cd8a612775ed", func := "dioscuri/dioscurilaw8.DivideNumbers", spec := "divideNumbers", apart := false, narrowed := true }
def DivideNumbersUptoSaid : Prop := divideNumbersUptoRow.holds Try.pinned (OpenSpec.upto divideNumbersSpec)

/-- 'dioscurilaw8.DivideTells', WHERE WHAT IT READS IS OF BULK AT MOST 1048576: true; the input reads as it did. -/
def divideTellsUptoRow : OpenClaim := { program := "ytfgemmiahgmmbaa", sum := "1c1261a135ffc994b743fbae198c5994cd5a0491a25d4cc07655cd8a612775ed", func := "dioscuri/dioscurilaw8.DivideTells", spec := "divideTells", apart := false, narrowed := true }
def DivideTellsUptoSaid : Prop := divideTellsUptoRow.holds Try.pinned (OpenSpec.upto divideTellsSpec)

/-- 'dioscurilaw8.DivideSame', WHERE WHAT IT READS IS OF BULK AT MOST 1048576: true; the input reads as it did. -/
def divideSameUptoRow : OpenClaim := { program := "ytfgemmiahgmmbaa", sum := "1c1261a135ffc994b743fbae198c5994cd5a0491a25d4cc07655cd8a612775ed", func := "dioscuri/dioscurilaw8.DivideSame", spec := "divideSame", apart := false, narrowed := true }
def DivideSameUptoSaid : Prop := divideSameUptoRow.holds Try.pinned (OpenSpec.upto divideSameSpec)

/-- 'dioscurilaw8.DivideParts', WHERE WHAT IT READS IS OF BULK AT MOST 1048576: true; the input reads as it did. -/
def dividePartsUptoRow : OpenClaim := { program := "ytfgemmiahgmmbaa", sum := "1c1261a135ffc994b743fbae198c5994cd5a0491a25d4cc07655cd8a612775ed", func := "dioscuri/dioscurilaw8.DivideParts", spec := "divideParts", apart := false, narrowed := true }
def DividePartsUptoSaid : Prop := dividePartsUptoRow.holds Try.pinned (OpenSpec.upto dividePartsSpec)

end Rows
end Go.Proofs.Ytfgemmiahgmmbaa
