/-
  No cell of these rows narrows 'for every input' (looked for: loops, veiled, ifaces, maps, wideKeys, modest, calm, conditions, laid).
  DERIVED. THE GIVEN ROWS OF THIS SEAT. 5 by the template 'for every input the law returns true; each argument reads behind the call as it read before'; 0 by the template 'total and deterministic' (their statements: YtmffkkanecpchaaTotals.lean).
  GIVEN WITH THE SEED: the statements are not yours to turn. If you find one false, say at which input.
  Laid BY PROGRAM, IN A SANDBOX (cutbox-rows.mjs): the forced cells as the released guide's own fill.sh prints them over the translation 1ac5349e5b86046b… (all of the seat's roots in one cut). By AI agents, Wed Nov 11 2026. No macro, syntax, notation, axiom, sorry.
-/
import Derived.Test.YtmffkkanecpchaaChecked
import GoSem.Claim
import GoSem.ClaimJoined
import GoSem.ClaimMapViews
import Derived.JoinedTies
import Derived.KernelRfl
namespace Go.Proofs.Ytmffkkanecpchaa
/- THE CELL 'sum', in the pinned program and in every row, IS THE sha256 OF THE DUMP (.gsa) THAT YtmffkkanecpchaaProg.lean LOADS. Nothing in Lean hashes anything: it is a label: what it is worth is what the hold of that sum in a sandbox is worth. -/
noncomputable def Try.pinned : Pinned := { name := "ytmffkkanecpchaa", sum := "1ac5349e5b86046b5e4c1885788c66edbd5c496e9c5e39f85e66430dede73ca0", checked := Try.checked }
namespace Rows
def none {H : Type} : Left H := { results := [], args := [] }

/-- 'dioscurilaw7.AluNumbers': WHATEVER THE INPUT: true; the input reads as it did. -/
def aluNumbersSpec : ChangeSpec := { name := "aluNumbers", fn := fun _ => fun
  | [] => { results := [.lit (.bool true)], args := [] }
  | _ => none }
def aluNumbersRow : OpenClaim := { program := "ytmffkkanecpchaa", sum := "1ac5349e5b86046b5e4c1885788c66edbd5c496e9c5e39f85e66430dede73ca0", func := "dioscuri/dioscurilaw7.AluNumbers", spec := "aluNumbers", apart := false }
def AluNumbersSaid : Prop := aluNumbersRow.holds Try.pinned (OpenSpec.ofChange aluNumbersSpec)

/-- ITS FALSE NEIGHBOUR: 'it returns false'. Refute it at one input. -/
def aluNumbersWrong : ChangeSpec := { name := "aluNumbers", fn := fun _ => fun
  | [] => { results := [.lit (.bool false)], args := [] }
  | _ => none }
def AluNumbersWrongFalsely : Prop := aluNumbersRow.holds Try.pinned (OpenSpec.ofChange aluNumbersWrong)

/-- 'dioscurilaw7.AluTells': WHATEVER THE INPUT: true; the input reads as it did. -/
def aluTellsSpec : ChangeSpec := { name := "aluTells", fn := fun _ => fun
  | [d1, d2, d3] => { results := [.lit (.bool true)], args := [d1, d2, d3] }
  | _ => none }
def aluTellsRow : OpenClaim := { program := "ytmffkkanecpchaa", sum := "1ac5349e5b86046b5e4c1885788c66edbd5c496e9c5e39f85e66430dede73ca0", func := "dioscuri/dioscurilaw7.AluTells", spec := "aluTells", apart := false }
def AluTellsSaid : Prop := aluTellsRow.holds Try.pinned (OpenSpec.ofChange aluTellsSpec)

/-- ITS FALSE NEIGHBOUR: 'it returns false'. Refute it at one input. -/
def aluTellsWrong : ChangeSpec := { name := "aluTells", fn := fun _ => fun
  | [d1, d2, d3] => { results := [.lit (.bool false)], args := [d1, d2, d3] }
  | _ => none }
def AluTellsWrongFalsely : Prop := aluTellsRow.holds Try.pinned (OpenSpec.ofChange aluTellsWrong)

/-- 'dioscurilaw7.AluDivides': WHATEVER THE INPUT: true; the input reads as it did. -/
def aluDividesSpec : ChangeSpec := { name := "aluDivides", fn := fun _ => fun
  | [d1, d2] => { results := [.lit (.bool true)], args := [d1, d2] }
  | _ => none }
def aluDividesRow : OpenClaim := { program := "ytmffkkanecpchaa", sum := "1ac5349e5b86046b5e4c1885788c66edbd5c496e9c5e39f85e66430dede73ca0", func := "dioscuri/dioscurilaw7.AluDivides", spec := "aluDivides", apart := false }
def AluDividesSaid : Prop := aluDividesRow.holds Try.pinned (OpenSpec.ofChange aluDividesSpec)

/-- ITS FALSE NEIGHBOUR: 'it returns false'. Refute it at one input. -/
def aluDividesWrong : ChangeSpec := { name := "aluDivides", fn := fun _ => fun
  | [d1, d2] => { results := [.lit (.bool false)], args := [d1, d2] }
  | _ => none }
def AluDividesWrongFalsely : Prop := aluDividesRow.holds Try.pinned (OpenSpec.ofChange aluDividesWrong)

/-- 'dioscurilaw7.AluPairs': WHATEVER THE INPUT: true; the input reads as it did. -/
def aluPairsSpec : ChangeSpec := { name := "aluPairs", fn := fun _ => fun
  | [d1, d2] => { results := [.lit (.bool true)], args := [d1, d2] }
  | _ => none }
def aluPairsRow : OpenClaim := { program := "ytmffkkanecpchaa", sum := "1ac5349e5b86046b5e4c1885788c66edbd5c496e9c5e39f85e66430dede73ca0", func := "dioscuri/dioscurilaw7.AluPairs", spec := "aluPairs", apart := false }
def AluPairsSaid : Prop := aluPairsRow.holds Try.pinned (OpenSpec.ofChange aluPairsSpec)

/-- ITS FALSE NEIGHBOUR: 'it returns false'. Refute it at one input. -/
def aluPairsWrong : ChangeSpec := { name := "aluPairs", fn := fun _ => fun
  | [d1, d2] => { results := [.lit (.bool false)], args := [d1, d2] }
  | _ => none }
def AluPairsWrongFalsely : Prop := aluPairsRow.holds Try.pinned (OpenSpec.ofChange aluPairsWrong)

/-- 'dioscurilaw7.AluZeros': WHATEVER THE INPUT: true; the input reads as it did. -/
def aluZerosSpec : ChangeSpec := { name := "aluZeros", fn := fun _ => fun
  | [d] => { results := [.lit (.bool true)], args := [d] }
  | _ => none }
def aluZerosRow : OpenClaim := { program := "ytmffkkanecpchaa", sum := "1ac5349e5b86046b5e4c1885788c66edbd5c496e9c5e39f85e66430dede73ca0", func := "dioscuri/dioscurilaw7.AluZeros", spec := "aluZeros", apart := false }
def AluZerosSaid : Prop := aluZerosRow.holds Try.pinned (OpenSpec.ofChange aluZerosSpec)

/-- ITS FALSE NEIGHBOUR: 'it returns false'. Refute it at one input. -/
def aluZerosWrong : ChangeSpec := { name := "aluZeros", fn := fun _ => fun
  | [d] => { results := [.lit (.bool false)], args := [d] }
  | _ => none }
def AluZerosWrongFalsely : Prop := aluZerosRow.holds Try.pinned (OpenSpec.ofChange aluZerosWrong)

/- THE SECOND FORM. 'bulk': how many values and letters a reading holds, each counted each time it is reached (what is shared counts as often as it is met; a slice's spare places count too). A statement '..UptoSaid' is the law's where the arguments, and the package variables that the reading takes, are together of bulk at most 1048576: NARROWER than '..Said'. Prove '..Said' where nothing that the law and all that it calls make is longer than what came in: it says more and counts as full. Else prove '..UptoSaid'. A law counts once. -/
mutual
def uptoBulk {H : Type} : DataW H → Nat
  | .lit (.string bytes) => bytes.length + 1
  | .lit _ => 1
  | .nil => 1
  | .ptr d => uptoBulk d + 1
  | .slice elems spare => uptoBulkAll elems + uptoBulkAll spare + 1
  | .agg parts => uptoBulkAll parts + 1
  | .iface _ d => uptoBulk d + 1
  | .map entries => uptoBulkEntries entries + 1
  | .held _ => 1
def uptoBulkAll {H : Type} : List (DataW H) → Nat
  | [] => 0
  | d :: r => uptoBulk d + uptoBulkAll r
def uptoBulkEntries {H : Type} : List (Lit × DataW H) → Nat
  | [] => 0
  | x :: r => uptoBulkEntry x + uptoBulkEntries r
def uptoBulkEntry {H : Type} : Lit × DataW H → Nat
  | (.string bytes, d) => bytes.length + uptoBulk d + 1
  | (_, d) => uptoBulk d + 1
 end
def uptoSmall : (H : Type) → List (DataW H) → Bool := fun _ ds => decide (uptoBulkAll ds ≤ 1048576)
def OpenSpec.upto (s : _root_.Go.ChangeSpec) : _root_.Go.OpenSpec := { _root_.Go.OpenSpec.ofChange s with cond := some uptoSmall }

/-- 'dioscurilaw7.AluNumbers', WHERE WHAT IT READS IS OF BULK AT MOST 1048576: true; the input reads as it did. -/
def aluNumbersUptoRow : OpenClaim := { program := "ytmffkkanecpchaa", sum := "1ac5349e5b86046b5e4c1885788c66edbd5c496e9c5e39f85e66430dede73ca0", func := "dioscuri/dioscurilaw7.AluNumbers", spec := "aluNumbers", apart := false, narrowed := true }
def AluNumbersUptoSaid : Prop := aluNumbersUptoRow.holds Try.pinned (OpenSpec.upto aluNumbersSpec)

/-- 'dioscurilaw7.AluTells', WHERE WHAT IT READS IS OF BULK AT MOST 1048576: true; the input reads as it did. -/
def aluTellsUptoRow : OpenClaim := { program := "ytmffkkanecpchaa", sum := "1ac5349e5b86046b5e4c1885788c66edbd5c496e9c5e39f85e66430dede73ca0", func := "dioscuri/dioscurilaw7.AluTells", spec := "aluTells", apart := false, narrowed := true }
def AluTellsUptoSaid : Prop := aluTellsUptoRow.holds Try.pinned (OpenSpec.upto aluTellsSpec)

/-- 'dioscurilaw7.AluDivides', WHERE WHAT IT READS IS OF BULK AT MOST 1048576: true; the input reads as it did. -/
def aluDividesUptoRow : OpenClaim := { program := "ytmffkkanecpchaa", sum := "1ac5349e5b86046b5e4c1885788c66edbd5c496e9c5e39f85e66430dede73ca0", func := "dioscuri/dioscurilaw7.AluDivides", spec := "aluDivides", apart := false, narrowed := true }
def AluDividesUptoSaid : Prop := aluDividesUptoRow.holds Try.pinned (OpenSpec.upto aluDividesSpec)

/-- 'dioscurilaw7.AluPairs', WHERE WHAT IT READS IS OF BULK AT MOST 1048576: true; the input reads as it did. -/
def aluPairsUptoRow : OpenClaim := { program := "ytmffkkanecpchaa", sum := "1ac5349e5b86046b5e4c1885788c66edbd5c496e9c5e39f85e66430dede73ca0", func := "dioscuri/dioscurilaw7.AluPairs", spec := "aluPairs", apart := false, narrowed := true }
def AluPairsUptoSaid : Prop := aluPairsUptoRow.holds Try.pinned (OpenSpec.upto aluPairsSpec)

/-- 'dioscurilaw7.AluZeros', WHERE WHAT IT READS IS OF BULK AT MOST 1048576: true; the input reads as it did. -/
def aluZerosUptoRow : OpenClaim := { program := "ytmffkkanecpchaa", sum := "1ac5349e5b86046b5e4c1885788c66edbd5c496e9c5e39f85e66430dede73ca0", func := "dioscuri/dioscurilaw7.AluZeros", spec := "aluZeros", apart := false, narrowed := true }
def AluZerosUptoSaid : Prop := aluZerosUptoRow.holds Try.pinned (OpenSpec.upto aluZerosSpec)

end Rows
end Go.Proofs.Ytmffkkanecpchaa
