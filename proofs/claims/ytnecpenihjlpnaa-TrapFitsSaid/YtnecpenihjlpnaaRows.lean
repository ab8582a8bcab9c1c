/-
  No cell of these rows narrows 'for every input' (looked for: loops, veiled, ifaces, maps, wideKeys, modest, calm, conditions, laid).
  DERIVED. THE GIVEN ROWS OF THIS SEAT. 3 by the template 'for every input the law returns true; each argument reads behind the call as it read before'; 0 by the template 'total and deterministic' (their statements: YtnecpenihjlpnaaTotals.lean).
  GIVEN WITH THE SEED: the statements are not yours to turn. If you find one false, say at which input.
  Laid BY PROGRAM, IN A SANDBOX (cutbox-rows.mjs): the forced cells as the released guide's own fill.sh prints them over the translation 49d848a9411defb9… (all of the seat's roots in one cut). By AI agents, Wed Nov 11 2026. No macro, syntax, notation, axiom, sorry.
-/
import Derived.Test.YtnecpenihjlpnaaChecked
import GoSem.Claim
import GoSem.ClaimJoined
import GoSem.ClaimMapViews
import Derived.JoinedTies
import Derived.KernelRfl
namespace Go.Proofs.Ytnecpenihjlpnaa
/- THE CELL 'sum', in the pinned program and in every row, IS THE sha256 OF THE DUMP (.gsa) THAT YtnecpenihjlpnaaProg.lean LOADS. Nothing in Lean hashes anything: it is a label: what it is worth is what the hold of that sum in a sandbox is worth. -/
noncomputable def Try.pinned : Pinned := { name := "ytnecpenihjlpnaa", sum := "49d848a9411defb92a993ffefb758f7529cc492f8dda8a890bc5dc654b20f60c", checked := Try.checked }
namespace Rows
def none {H : Type} : Left H := { results := [], args := [] }

/-- 'dioscurilaw10.TrapNumbers': WHATEVER THE INPUT: true; the input reads as it did. -/
def trapNumbersSpec : ChangeSpec := { name := "trapNumbers", fn := fun _ => fun
  | [] => { results := [.lit (.bool true)], args := [] }
  | _ => none }
def trapNumbersRow : OpenClaim := { program := "ytnecpenihjlpnaa", sum := "49d848a9411defb92a993ffefb758f7529cc492f8dda8a890bc5dc654b20f60c", func := "dioscuri/dioscurilaw10.TrapNumbers", spec := "trapNumbers", apart := false }
def TrapNumbersSaid : Prop := trapNumbersRow.holds Try.pinned (OpenSpec.ofChange trapNumbersSpec)

/-- ITS FALSE NEIGHBOUR: 'it returns false'. Refute it at one input. -/
def trapNumbersWrong : ChangeSpec := { name := "trapNumbers", fn := fun _ => fun
  | [] => { results := [.lit (.bool false)], args := [] }
  | _ => none }
def TrapNumbersWrongFalsely : Prop := trapNumbersRow.holds Try.pinned (OpenSpec.ofChange trapNumbersWrong)

/-- 'dioscurilaw10.TrapTells': WHATEVER THE INPUT: true; the input reads as it did. -/
def trapTellsSpec : ChangeSpec := { name := "trapTells", fn := fun _ => fun
  | [d1, d2, d3] => { results := [.lit (.bool true)], args := [d1, d2, d3] }
  | _ => none }
def trapTellsRow : OpenClaim := { program := "ytnecpenihjlpnaa", sum := "49d848a9411defb92a993ffefb758f7529cc492f8dda8a890bc5dc654b20f60c", func := "dioscuri/dioscurilaw10.TrapTells", spec := "trapTells", apart := false }
def TrapTellsSaid : Prop := trapTellsRow.holds Try.pinned (OpenSpec.ofChange trapTellsSpec)

/-- ITS FALSE NEIGHBOUR: 'it returns false'. Refute it at one input. -/
def trapTellsWrong : ChangeSpec := { name := "trapTells", fn := fun _ => fun
  | [d1, d2, d3] => { results := [.lit (.bool false)], args := [d1, d2, d3] }
  | _ => none }
def TrapTellsWrongFalsely : Prop := trapTellsRow.holds Try.pinned (OpenSpec.ofChange trapTellsWrong)

/-- 'dioscurilaw10.TrapFits': WHATEVER THE INPUT: true; the input reads as it did. -/
def trapFitsSpec : ChangeSpec := { name := "trapFits", fn := fun _ => fun
  | [d1, d2] => { results := [.lit (.bool true)], args := [d1, d2] }
  | _ => none }
def trapFitsRow : OpenClaim := { program := "ytnecpenihjlpnaa", sum := "49d848a9411defb92a993ffefb758f7529cc492f8dda8a890bc5dc654b20f60c", func := "dioscuri/dioscurilaw10.TrapFits", spec := "trapFits", apart := false }
def TrapFitsSaid : Prop := trapFitsRow.holds Try.pinned (OpenSpec.ofChange trapFitsSpec)

/-- ITS FALSE NEIGHBOUR: 'it returns false'. Refute it at one input. -/
def trapFitsWrong : ChangeSpec := { name := "trapFits", fn := fun _ => fun
  | [d1, d2] => { results := [.lit (.bool false)], args := [d1, d2] }
  | _ => none }
def TrapFitsWrongFalsely : Prop := trapFitsRow.holds Try.pinned (OpenSpec.ofChange trapFitsWrong)

/- THE SECOND FORM. 'bulk': how many values and letters a reading holds, each counted each time it is reached (what is shared counts as often as it is met; a slice's spare places count too). A statement '..UptoSaid' is the law's where the arguments, and the package variables that the reading takes, are together of bulk at most 1048576: NARROWER than '..Said'. Prove '..Said' where nothing that the law and all that it calls make is longer than what came in: it says more and counts as full. Else prove '..UptoSaid'. A law counts once. -/
mutual
def uptoBulk {H : Type} : DataW H → Nat
  | .lit (.string bytes) => bytes.length + 1
  | .lit _ => 1
  | .nil => 1
  | .ptr d => uptoBulk d + 1
  | .slice elems spare => uptoBulkAll elems + uptoBulkAll spare + 1
  | .agg parts => uptoBulkAll parts + 1
  | .iface _ d => uptoBulk d + 1
  | .map entries => uptoBulkEntries entries + 1
  | .held _ => 1
def uptoBulkAll {H : Type} : List (DataW H) → Nat
  | [] => 0
  | d :: r => uptoBulk d + uptoBulkAll r
def uptoBulkEntries {H : Type} : List (Lit × DataW H) → Nat
  | [] => 0
  | x :: r => uptoBulkEntry x + uptoBulkEntries r
def uptoBulkEntry {H : Type} : Lit × DataW H → Nat
  | (.string bytes, d) => bytes.length + uptoBulk d + 1
  | (_, d) => uptoBulk d + 1
 end
def uptoSmall : (H : Type) → List (DataW H) → Bool := fun _ ds => decide (uptoBulkAll ds ≤ 1048576)
def OpenSpec.upto (s : _root_.Go.ChangeSpec) : _root_.Go.OpenSpec := { _root_.Go.OpenSpec.ofChange s with cond := some uptoSmall }

/-- 'dioscurilaw10.TrapNumbers', WHERE WHAT IT READS IS OF BULK AT MOST 1048576: true; the input reads as it did. -/
def trapNumbersUptoRow : OpenClaim := { program := "ytnecpenihjlpnaa", sum := "49d848a9411defb92a993ffefb758f7529cc492f8dda8a890bc5dc654b20f60c", func := "dioscuri/dioscurilaw10.TrapNumbers", spec := "trapNumbers", apart := false, narrowed := true }
def TrapNumbersUptoSaid : Prop := trapNumbersUptoRow.holds Try.pinned (OpenSpec.upto trapNumbersSpec)

/-- 'dioscurilaw10.TrapTells', WHERE WHAT IT READS IS OF BULK AT MOST 1048576: true; the input reads as it did. -/
def trapTellsUptoRow : OpenClaim := { program := "ytnecpenihjlpnaa", sum := "49d848a9411defb92a993ffefb758f7529cc492f8dda8a890bc5dc654b20f60c", func := "dioscuri/dioscurilaw10.TrapTells", spec := "trapTells", apart := false, narrowed := true }
def TrapTellsUptoSaid : Prop := trapTellsUptoRow.holds Try.pinned (OpenSpec.upto trapTellsSpec)

/-- 'dioscurilaw10.TrapFits', WHERE WHAT IT READS IS OF BULK AT MOST 1048576: true; the input reads as it did. -/
def trapFitsUptoRow : OpenClaim := { program := "ytnecpenihjlpnaa", sum := "49d848a9411defb92a993ffefb758f7529cc492f8dda8a890bc5dc654b20f60c", func := "dioscuri/dioscurilaw10.TrapFits", spec := "trapFits", apart := false, narrowed := true }
def TrapFitsUptoSaid : Prop := trapFitsUptoRow.holds Try.pinned (OpenSpec.upto trapFitsSpec)

end Rows
end Go.Proofs.Ytnecpenihjlpnaa
