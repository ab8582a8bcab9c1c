/-
  DERIVED. GIVEN WITH THE SEED: THE CARDS: each row of YtjfbpnfegeimfaaDoorRows.lean that lists a variable, with what it lists TIED to the program's text (the seventh form; the later family's looks); each row that meets fmt, with fmt's text TOLD by the authors' own Lean function (tested against real Go, not proved from fmt's source: count such statements apart). THE CARD IS WHAT COUNTS. Prove the row's statement (the work); the ties are given (YtjfbpnfegeimfaaDoorTie.lean); close each card by the builder's one call (the guide's Derived/Test/ToyasCard.lean, 'card_holds'). Laid BY PROGRAM, IN A SANDBOX (cutbox-door.mjs). By AI agents, Wed Nov 11 2026. No macro, syntax, notation, axiom, sorry.
-/
import Derived.Test.YtjfbpnfegeimfaaDoorRows
import GoSem.ClaimSeven
namespace Go.Proofs.YtjfbpnfegeimfaaDoor
namespace Rows

/-- THE TIED CARD OF 'dioscurilaw6.EncodeNumbers'. -/
def encodeNumbersCard : Claim7 := { stood := { row := encodeNumbersRow, standIns := [], harness := (true, "72329f61fce1e8f934a2d3435eb849d701f8c012923e3b3b57bc31d66097e11a"), looks := false }, kinds := [], alts := [], laidByText := true, laidKinds := [.data, .data, .data], laidTests := true, laidLooks := .later }
def EncodeNumbersCardSaid : Prop := Claim7.holds Tryd.pinned (.plain (OpenSpec.ofChange encodeNumbersSpec)) encodeNumbersCard

/-- THE TIED CARD OF 'dioscurilaw6.EncodeTells'. -/
def encodeTellsCard : Claim7 := { stood := { row := encodeTellsRow, standIns := [], harness := (true, "72329f61fce1e8f934a2d3435eb849d701f8c012923e3b3b57bc31d66097e11a"), looks := false }, kinds := [], alts := [], laidByText := true, laidKinds := [.data, .data, .data], laidTests := true, laidLooks := .later }
def EncodeTellsCardSaid : Prop := Claim7.holds Tryd.pinned (.plain (OpenSpec.ofChange encodeTellsSpec)) encodeTellsCard

/-- THE TIED CARD OF 'dioscurilaw6.EncodeBack'. -/
def encodeBackCard : Claim7 := { stood := { row := encodeBackRow, standIns := [], harness := (true, "72329f61fce1e8f934a2d3435eb849d701f8c012923e3b3b57bc31d66097e11a"), looks := false }, kinds := [], alts := [], laidByText := true, laidKinds := [.data, .data, .data], laidTests := true, laidLooks := .later }
def EncodeBackCardSaid : Prop := Claim7.holds Tryd.pinned (.plain (OpenSpec.ofChange encodeBackSpec)) encodeBackCard

/-- THE TIED CARD OF 'dioscurilaw6.EncodeRanges'. -/
def encodeRangesCard : Claim7 := { stood := { row := encodeRangesRow, standIns := [], harness := (true, "72329f61fce1e8f934a2d3435eb849d701f8c012923e3b3b57bc31d66097e11a"), looks := false }, kinds := [], alts := [], laidByText := true, laidKinds := [.data, .data, .data], laidTests := true, laidLooks := .later }
def EncodeRangesCardSaid : Prop := Claim7.holds Tryd.pinned (.plain (OpenSpec.ofChange encodeRangesSpec)) encodeRangesCard

/-- THE SECOND FORM's CARD OF 'dioscurilaw6.EncodeNumbers'. -/
def encodeNumbersUptoCard : Claim7 := { stood := { row := encodeNumbersUptoRow, standIns := [], harness := (true, "72329f61fce1e8f934a2d3435eb849d701f8c012923e3b3b57bc31d66097e11a"), looks := false }, kinds := [], alts := [], laidByText := true, laidKinds := [.data, .data, .data], laidTests := true, laidLooks := .later }
def EncodeNumbersUptoCardSaid : Prop := Claim7.holds Tryd.pinned (.plain (OpenSpec.upto encodeNumbersSpec)) encodeNumbersUptoCard

/-- THE SECOND FORM's CARD OF 'dioscurilaw6.EncodeTells'. -/
def encodeTellsUptoCard : Claim7 := { stood := { row := encodeTellsUptoRow, standIns := [], harness := (true, "72329f61fce1e8f934a2d3435eb849d701f8c012923e3b3b57bc31d66097e11a"), looks := false }, kinds := [], alts := [], laidByText := true, laidKinds := [.data, .data, .data], laidTests := true, laidLooks := .later }
def EncodeTellsUptoCardSaid : Prop := Claim7.holds Tryd.pinned (.plain (OpenSpec.upto encodeTellsSpec)) encodeTellsUptoCard

/-- THE SECOND FORM's CARD OF 'dioscurilaw6.EncodeBack'. -/
def encodeBackUptoCard : Claim7 := { stood := { row := encodeBackUptoRow, standIns := [], harness := (true, "72329f61fce1e8f934a2d3435eb849d701f8c012923e3b3b57bc31d66097e11a"), looks := false }, kinds := [], alts := [], laidByText := true, laidKinds := [.data, .data, .data], laidTests := true, laidLooks := .later }
def EncodeBackUptoCardSaid : Prop := Claim7.holds Tryd.pinned (.plain (OpenSpec.upto encodeBackSpec)) encodeBackUptoCard

/-- THE SECOND FORM's CARD OF 'dioscurilaw6.EncodeRanges'. -/
def encodeRangesUptoCard : Claim7 := { stood := { row := encodeRangesUptoRow, standIns := [], harness := (true, "72329f61fce1e8f934a2d3435eb849d701f8c012923e3b3b57bc31d66097e11a"), looks := false }, kinds := [], alts := [], laidByText := true, laidKinds := [.data, .data, .data], laidTests := true, laidLooks := .later }
def EncodeRangesUptoCardSaid : Prop := Claim7.holds Tryd.pinned (.plain (OpenSpec.upto encodeRangesSpec)) encodeRangesUptoCard
end Rows
end Go.Proofs.YtjfbpnfegeimfaaDoor
