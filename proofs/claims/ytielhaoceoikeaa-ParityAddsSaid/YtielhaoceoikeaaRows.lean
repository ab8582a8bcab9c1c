/-
  No cell of these rows narrows 'for every input' (looked for: loops, veiled, ifaces, maps, wideKeys, modest, calm, conditions, laid).
  DERIVED. THE GIVEN ROWS OF THIS SEAT. 3 by the template 'for every input the law returns true; each argument reads behind the call as it read before'; 0 by the template 'total and deterministic' (their statements: YtielhaoceoikeaaTotals.lean).
  GIVEN WITH THE SEED: the statements are not yours to turn. If you find one false, say at which input.
  Laid BY PROGRAM, IN A SANDBOX (cutbox-rows.mjs): the forced cells as the released guide's own fill.sh prints them over the translation dc3b9fd925a907a2… (all of the seat's roots in one cut). By AI agents, Wed Nov 11 2026. No macro, syntax, notation, axiom, sorry.
-/
import Derived.Test.YtielhaoceoikeaaChecked
import GoSem.Claim
import GoSem.ClaimJoined
import GoSem.ClaimMapViews
import Derived.JoinedTies
import Derived.KernelRfl
namespace Go.Proofs.Ytielhaoceoikeaa
/- THE CELL 'sum', in the pinned program and in every row, IS THE sha256 OF THE DUMP (.gsa) THAT YtielhaoceoikeaaProg.lean LOADS. Nothing in Lean hashes anything: it is a label: what it is worth is what the hold of that sum in a sandbox is worth. -/
noncomputable def Try.pinned : Pinned := { name := "ytielhaoceoikeaa", sum := "dc3b9fd925a907a20a1a5cbea89097628774ac6a4a0e3b31e095518121e9f7ac", checked := Try.checked }
namespace Rows
def none {H : Type} : Left H := { results := [], args := [] }

/-- 'dioscurilaw1.ParityTurns': WHATEVER THE INPUT: true; the input reads as it did. -/
def parityTurnsSpec : ChangeSpec := { name := "parityTurns", fn := fun _ => fun
  | [d1, d2, d3] => { results := [.lit (.bool true)], args := [d1, d2, d3] }
  | _ => none }
def parityTurnsRow : OpenClaim := { program := "ytielhaoceoikeaa", sum := "dc3b9fd925a907a20a1a5cbea89097628774ac6a4a0e3b31e095518121e9f7ac", func := "dioscuri/dioscurilaw1.ParityTurns", spec := "parityTurns", apart := false }
def ParityTurnsSaid : Prop := parityTurnsRow.holds Try.pinned (OpenSpec.ofChange parityTurnsSpec)

/-- ITS FALSE NEIGHBOUR: 'it returns false'. Refute it at one input. -/
def parityTurnsWrong : ChangeSpec := { name := "parityTurns", fn := fun _ => fun
  | [d1, d2, d3] => { results := [.lit (.bool false)], args := [d1, d2, d3] }
  | _ => none }
def ParityTurnsWrongFalsely : Prop := parityTurnsRow.holds Try.pinned (OpenSpec.ofChange parityTurnsWrong)

/-- 'dioscurilaw1.ParityAdds': WHATEVER THE INPUT: true; the input reads as it did. -/
def parityAddsSpec : ChangeSpec := { name := "parityAdds", fn := fun _ => fun
  | [d] => { results := [.lit (.bool true)], args := [d] }
  | _ => none }
def parityAddsRow : OpenClaim := { program := "ytielhaoceoikeaa", sum := "dc3b9fd925a907a20a1a5cbea89097628774ac6a4a0e3b31e095518121e9f7ac", func := "dioscuri/dioscurilaw1.ParityAdds", spec := "parityAdds", apart := false }
def ParityAddsSaid : Prop := parityAddsRow.holds Try.pinned (OpenSpec.ofChange parityAddsSpec)

/-- ITS FALSE NEIGHBOUR: 'it returns false'. Refute it at one input. -/
def parityAddsWrong : ChangeSpec := { name := "parityAdds", fn := fun _ => fun
  | [d] => { results := [.lit (.bool false)], args := [d] }
  | _ => none }
def ParityAddsWrongFalsely : Prop := parityAddsRow.holds Try.pinned (OpenSpec.ofChange parityAddsWrong)

/-- 'dioscurilaw1.ParityRows': WHATEVER THE INPUT: true; the input reads as it did. -/
def parityRowsSpec : ChangeSpec := { name := "parityRows", fn := fun _ => fun
  | [d1, d2, d3] => { results := [.lit (.bool true)], args := [d1, d2, d3] }
  | _ => none }
def parityRowsRow : OpenClaim := { program := "ytielhaoceoikeaa", sum := "dc3b9fd925a907a20a1a5cbea89097628774ac6a4a0e3b31e095518121e9f7ac", func := "dioscuri/dioscurilaw1.ParityRows", spec := "parityRows", apart := false }
def ParityRowsSaid : Prop := parityRowsRow.holds Try.pinned (OpenSpec.ofChange parityRowsSpec)

/-- ITS FALSE NEIGHBOUR: 'it returns false'. Refute it at one input. -/
def parityRowsWrong : ChangeSpec := { name := "parityRows", fn := fun _ => fun
  | [d1, d2, d3] => { results := [.lit (.bool false)], args := [d1, d2, d3] }
  | _ => none }
def ParityRowsWrongFalsely : Prop := parityRowsRow.holds Try.pinned (OpenSpec.ofChange parityRowsWrong)

/- THE SECOND FORM. 'bulk': how many values and letters a reading holds, each counted each time it is reached (what is shared counts as often as it is met; a slice's spare places count too). A statement '..UptoSaid' is the law's where the arguments, and the package variables that the reading takes, are together of bulk at most 1048576: NARROWER than '..Said'. Prove '..Said' where nothing that the law and all that it calls make is longer than what came in: it says more and counts as full. Else prove '..UptoSaid'. A law counts once. -/
mutual
def uptoBulk {H : Type} : DataW H → Nat
  | .lit (.string bytes) => bytes.length + 1
  | .lit _ => 1
  | .nil => 1
  | .ptr d => uptoBulk d + 1
  | .slice elems spare => uptoBulkAll elems + uptoBulkAll spare + 1
  | .agg parts => uptoBulkAll parts + 1
  | .iface _ d => uptoBulk d + 1
  | .map entries => uptoBulkEntries entries + 1
  | .held _ => 1
def uptoBulkAll {H : Type} : List (DataW H) → Nat
  | [] => 0
  | d :: r => uptoBulk d + uptoBulkAll r
def uptoBulkEntries {H : Type} : List (Lit × DataW H) → Nat
  | [] => 0
  | x :: r => uptoBulkEntry x + uptoBulkEntries r
def uptoBulkEntry {H : Type} : Lit × DataW H → Nat
  | (.string bytes, d) => bytes.length + uptoBulk d + 1
  | (_, d) => uptoBulk d + 1
 end
def uptoSmall : (H : Type) → List (DataW H) → Bool := fun _ ds => decide (uptoBulkAll ds ≤ 1048576)
def OpenSpec.upto (s : _root_.Go.ChangeSpec) : _root_.Go.OpenSpec := { _root_.Go.OpenSpec.ofChange s with cond := some uptoSmall }

/-- 'dioscurilaw1.ParityTurns', WHERE WHAT IT READS IS OF BULK AT MOST 1048576: true; the input reads as it did. -/
def parityTurnsUptoRow : OpenClaim := { program := "ytielhaoceoikeaa", sum := "dc3b9fd925a907a20a1a5cbea89097628774ac6a4a0e3b31e095518121e9f7ac", func := "dioscuri/dioscurilaw1.ParityTurns", spec := "parityTurns", apart := false, narrowed := true }
def ParityTurnsUptoSaid : Prop := parityTurnsUptoRow.holds Try.pinned (OpenSpec.upto parityTurnsSpec)

/-- 'dioscurilaw1.ParityAdds', WHERE WHAT IT READS IS OF BULK AT MOST 1048576: true; the input reads as it did. -/
def parityAddsUptoRow : OpenClaim := { program := "ytielhaoceoikeaa", sum := "dc3b9fd925a907a20a1a5cbea89097628774ac6a4a0e3b31e095518121e9f7ac", func := "dioscuri/dioscurilaw1.ParityAdds", spec := "parityAdds", apart := false, narrowed := true }
def ParityAddsUptoSaid : Prop := parityAddsUptoRow.holds Try.pinned (OpenSpec.upto parityAddsSpec)

/-- 'dioscurilaw1.ParityRows', WHERE WHAT IT READS IS OF BULK AT MOST 1048576: true; the input reads as it did. -/
def parityRowsUptoRow : OpenClaim := { program := "ytielhaoceoikeaa", sum := "dc3b9fd925a907a20a1a5cbea89097628774ac6a4a0e3b31e095518121e9f7ac", func := "dioscuri/dioscurilaw1.ParityRows", spec := "parityRows", apart := false, narrowed := true }
def ParityRowsUptoSaid : Prop := parityRowsUptoRow.holds Try.pinned (OpenSpec.upto parityRowsSpec)

end Rows
end Go.Proofs.Ytielhaoceoikeaa
