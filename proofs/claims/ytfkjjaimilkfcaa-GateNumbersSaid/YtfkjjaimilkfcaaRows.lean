/-
  No cell of these rows narrows 'for every input' (looked for: loops, veiled, ifaces, maps, wideKeys, modest, calm, conditions, laid).
  DERIVED. THE GIVEN ROWS OF THIS SEAT. 4 by the template 'for every input the law returns true; each argument reads behind the call as it read before'; 0 by the template 'total and deterministic' (their statements: YtfkjjaimilkfcaaTotals.lean).
  GIVEN WITH THE SEED: the statements are not yours to turn. If you find one false, say at which input.
  Laid BY PROGRAM, IN A SANDBOX (cutbox-rows.mjs): the forced cells as the released guide's own fill.sh prints them over the translation 7d292b48da5878a6… (all of the seat's roots in one cut). By AI agents, Wed Nov 11 2026. No macro, syntax, notation, axiom, sorry.
-/
import Derived.Test.YtfkjjaimilkfcaaChecked
import GoSem.Claim
import GoSem.ClaimJoined
import GoSem.ClaimMapViews
import Derived.JoinedTies
import Derived.KernelRfl
namespace Go.Proofs.Ytfkjjaimilkfcaa
/- THE CELL 'sum', in the pinned program and in every row, IS THE sha256 OF THE DUMP (.gsa) THAT YtfkjjaimilkfcaaProg.lean LOADS. Nothing in Lean hashes anything: it is a label: what it is worth is what the hold of that sum in a sandbox is worth. -/
noncomputable def Try.pinned : Pinned := { name := "ytfkjjaimilkfcaa", sum := "7d292b48da5878a65bab24097e8ad75250ed9a8376ce97d7837762c4f7d6edb2", checked := Try.checked }
namespace Rows
def none {H : Type} : Left H := { results := [], args := [] }

/-- 'dioscurilaw16.GateOrder': WHATEVER THE INPUT: true; the input reads as it did. -/
def gateOrderSpec : ChangeSpec := { name := "gateOrder", fn := fun _ => fun
  | [d1, d2] => { results := [.lit (.bool true)], args := [d1, d2] }
  | _ => none }
def gateOrderRow : OpenClaim := { program := "ytfkjjaimilkfcaa", sum := "7d292b48da5878a65bab24097e8ad75250ed9a8376ce97d7837762c4f7d6edb2", func := "dioscuri/dioscurilaw16.GateOrder", spec := "gateOrder", apart := false }
def GateOrderSaid : Prop := gateOrderRow.holds Try.pinned (OpenSpec.ofChange gateOrderSpec)

/-- ITS FALSE NEIGHBOUR: 'it returns false'. Refute it at one input. -/
def gateOrderWrong : ChangeSpec := { name := "gateOrder", fn := fun _ => fun
  | [d1, d2] => { results := [.lit (.bool false)], args := [d1, d2] }
  | _ => none }
def GateOrderWrongFalsely : Prop := gateOrderRow.holds Try.pinned (OpenSpec.ofChange gateOrderWrong)

/-- 'dioscurilaw16.GateBytes': WHATEVER THE INPUT: true; the input reads as it did. -/
def gateBytesSpec : ChangeSpec := { name := "gateBytes", fn := fun _ => fun
  | [d1, d2] => { results := [.lit (.bool true)], args := [d1, d2] }
  | _ => none }
def gateBytesRow : OpenClaim := { program := "ytfkjjaimilkfcaa", sum := "7d292b48da5878a65bab24097e8ad75250ed9a8376ce97d7837762c4f7d6edb2", func := "dioscuri/dioscurilaw16.GateBytes", spec := "gateBytes", apart := false }
def GateBytesSaid : Prop := gateBytesRow.holds Try.pinned (OpenSpec.ofChange gateBytesSpec)

/-- ITS FALSE NEIGHBOUR: 'it returns false'. Refute it at one input. -/
def gateBytesWrong : ChangeSpec := { name := "gateBytes", fn := fun _ => fun
  | [d1, d2] => { results := [.lit (.bool false)], args := [d1, d2] }
  | _ => none }
def GateBytesWrongFalsely : Prop := gateBytesRow.holds Try.pinned (OpenSpec.ofChange gateBytesWrong)

/-- 'dioscurilaw16.GateNumbers': WHATEVER THE INPUT: true; the input reads as it did. -/
def gateNumbersSpec : ChangeSpec := { name := "gateNumbers", fn := fun _ => fun
  | [] => { results := [.lit (.bool true)], args := [] }
  | _ => none }
def gateNumbersRow : OpenClaim := { program := "ytfkjjaimilkfcaa", sum := "7d292b48da5878a65bab24097e8ad75250ed9a8376ce97d7837762c4f7d6edb2", func := "dioscuri/dioscurilaw16.GateNumbers", spec := "gateNumbers", apart := false }
def GateNumbersSaid : Prop := gateNumbersRow.holds Try.pinned (OpenSpec.ofChange gateNumbersSpec)

/-- ITS FALSE NEIGHBOUR: 'it returns false'. Refute it at one input. -/
def gateNumbersWrong : ChangeSpec := { name := "gateNumbers", fn := fun _ => fun
  | [] => { results := [.lit (.bool false)], args := [] }
  | _ => none }
def GateNumbersWrongFalsely : Prop := gateNumbersRow.holds Try.pinned (OpenSpec.ofChange gateNumbersWrong)

/-- 'dioscurilaw16.GatePlays': WHATEVER THE INPUT: true; the input reads as it did. -/
def gatePlaysSpec : ChangeSpec := { name := "gatePlays", fn := fun _ => fun
  | [d] => { results := [.lit (.bool true)], args := [d] }
  | _ => none }
def gatePlaysRow : OpenClaim := { program := "ytfkjjaimilkfcaa", sum := "7d292b48da5878a65bab24097e8ad75250ed9a8376ce97d7837762c4f7d6edb2", func := "dioscuri/dioscurilaw16.GatePlays", spec := "gatePlays", apart := false }
def GatePlaysSaid : Prop := gatePlaysRow.holds Try.pinned (OpenSpec.ofChange gatePlaysSpec)

/-- ITS FALSE NEIGHBOUR: 'it returns false'. Refute it at one input. -/
def gatePlaysWrong : ChangeSpec := { name := "gatePlays", fn := fun _ => fun
  | [d] => { results := [.lit (.bool false)], args := [d] }
  | _ => none }
def GatePlaysWrongFalsely : Prop := gatePlaysRow.holds Try.pinned (OpenSpec.ofChange gatePlaysWrong)

/- THE SECOND FORM. 'bulk': how many values and letters a reading holds, each counted each time it is reached (what is shared counts as often as it is met; a slice's spare places count too). A statement '..UptoSaid' is the law's where the arguments, and the package variables that the reading takes, are together of bulk at most 1048576: NARROWER than '..Said'. Prove '..Said' where nothing that the law and all that it calls make is longer than what came in: it says more and counts as full. Else prove '..UptoSaid'. A law counts once. -/
mutual
def uptoBulk {H : Type} : DataW H → Nat
  | .lit (.string bytes) => bytes.length + 1
  | .lit _ => 1
  | .nil => 1
  | .ptr d => uptoBulk d + 1
  | .slice elems spare => uptoBulkAll elems + uptoBulkAll spare + 1
  | .agg parts => uptoBulkAll parts + 1
  | .iface _ d => uptoBulk d + 1
  | .map entries => uptoBulkEntries entries + 1
  | .held _ => 1
def uptoBulkAll {H : Type} : List (DataW H) → Nat
  | [] => 0
  | d :: r => uptoBulk d + uptoBulkAll r
def uptoBulkEntries {H : Type} : List (Lit × DataW H) → Nat
  | [] => 0
  | x :: r => uptoBulkEntry x + uptoBulkEntries r
def uptoBulkEntry {H : Type} : Lit × DataW H → Nat
  | (.string bytes, d) => bytes.length + uptoBulk d + 1
  | (_, d) => uptoBulk d + 1
 end
def uptoSmall : (H : Type) → List (DataW H) → Bool := fun _ ds => decide (uptoBulkAll ds ≤ 1048576)
def OpenSpec.upto (s : _root_.Go.ChangeSpec) : _root_.Go.OpenSpec := { _root_.Go.OpenSpec.ofChange s with cond := some uptoSmall }

/-- 'dioscurilaw16.GateOrder', WHERE WHAT IT READS IS OF BULK AT MOST 1048576: true; the input reads as it did. -/
def gateOrderUptoRow : OpenClaim := { program := "ytfkjjaimilkfcaa", sum := "7d292b48da5878a65bab24097e8ad75250ed9a8376ce97d7837762c4f7d6edb2", func := "dioscuri/dioscurilaw16.GateOrder", spec := "gateOrder", apart := false, narrowed := true }
def GateOrderUptoSaid : Prop := gateOrderUptoRow.holds Try.pinned (OpenSpec.upto gateOrderSpec)

/-- 'dioscurilaw16.GateBytes', WHERE WHAT IT READS IS OF BULK AT MOST 1048576: true; the input reads as it did. -/
def gateBytesUptoRow : OpenClaim := { program := "ytfkjjaimilkfcaa", sum := "7d292b48da5878a65bab24097e8ad75250ed9a8376ce97d7837762c4f7d6edb2", func := "dioscuri/dioscurilaw16.GateBytes", spec := "gateBytes", apart := false, narrowed := true }
def GateBytesUptoSaid : Prop := gateBytesUptoRow.holds Try.pinned (OpenSpec.upto gateBytesSpec)

/-- 'dioscurilaw16.GateNumbers', WHERE WHAT IT READS IS OF BULK AT MOST 1048576: true; the input reads as it did. -/
def gateNumbersUptoRow : OpenClaim := { program := "ytfkjjaimilkfcaa", sum := "7d292b48da5878a65bab24097e8ad75250ed9a8376ce97d7837762c4f7d6edb2", func := "dioscuri/dioscurilaw16.GateNumbers", spec := "gateNumbers", apart := false, narrowed := true }
def GateNumbersUptoSaid : Prop := gateNumbersUptoRow.holds Try.pinned (OpenSpec.upto gateNumbersSpec)

/-- 'dioscurilaw16.GatePlays', WHERE WHAT IT READS IS OF BULK AT MOST 1048576: true; the input reads as it did. -/
def gatePlaysUptoRow : OpenClaim := { program := "ytfkjjaimilkfcaa", sum := "7d292b48da5878a65bab24097e8ad75250ed9a8376ce97d7837762c4f7d6edb2", func := "dioscuri/dioscurilaw16.GatePlays", spec := "gatePlays", apart := false, narrowed := true }
def GatePlaysUptoSaid : Prop := gatePlaysUptoRow.holds Try.pinned (OpenSpec.upto gatePlaysSpec)

end Rows
end Go.Proofs.Ytfkjjaimilkfcaa
