/-
  DERIVED. GIVEN WITH THE SEED: THE CARDS: each row of YtdkkbglfipkmdaaDoorRows.lean that lists a variable, with what it lists TIED to the program's text (the seventh form; the later family's looks); each row that meets fmt, with fmt's text TOLD by the authors' own Lean function (tested against real Go, not proved from fmt's source: count such statements apart). THE CARD IS WHAT COUNTS. Prove the row's statement (the work); the ties are given (YtdkkbglfipkmdaaDoorTie.lean); close each card by the builder's one call (the guide's Derived/Test/ToyasCard.lean, 'card_holds'). Laid BY PROGRAM, IN A SANDBOX (cutbox-door.mjs). By AI agents, Wed Nov 11 2026. No macro, syntax, notation, axiom, sorry.
-/
import Derived.Test.YtdkkbglfipkmdaaDoorRows
import GoSem.ClaimSeven
namespace Go.Proofs.YtdkkbglfipkmdaaDoor
namespace Rows

/-- THE TIED CARD OF 'clerestorylaw09.PackTurned'. -/
def packTurnedCard : Claim7 := { stood := { row := packTurnedRow, standIns := [], harness := (true, "226602b56afc4151056729997ee2531b289675b3c8a3b1572b85acf9ef810387"), looks := false }, kinds := [], alts := [], laidByText := true, laidKinds := [.data, .pinned], laidTests := true, laidLooks := .later }
def PackTurnedCardSaid : Prop := Claim7.holds Tryd.pinned (.plain (OpenSpec.ofChange packTurnedSpec)) packTurnedCard

/-- THE TIED CARD OF 'clerestorylaw09.PackAll'. -/
def packAllCard : Claim7 := { stood := { row := packAllRow, standIns := [], harness := (true, "226602b56afc4151056729997ee2531b289675b3c8a3b1572b85acf9ef810387"), looks := false }, kinds := [], alts := [], laidByText := true, laidKinds := [.data, .pinned], laidTests := true, laidLooks := .later }
def PackAllCardSaid : Prop := Claim7.holds Tryd.pinned (.plain (OpenSpec.ofChange packAllSpec)) packAllCard

/-- THE TIED CARD OF 'clerestorylaw09.PackBack'. -/
def packBackCard : Claim7 := { stood := { row := packBackRow, standIns := [], harness := (true, "226602b56afc4151056729997ee2531b289675b3c8a3b1572b85acf9ef810387"), looks := false }, kinds := [], alts := [], laidByText := true, laidKinds := [.data, .pinned], laidTests := true, laidLooks := .later }
def PackBackCardSaid : Prop := Claim7.holds Tryd.pinned (.plain (OpenSpec.ofChange packBackSpec)) packBackCard

/-- THE TIED CARD OF 'clerestorylaw09.PackNumbers'. -/
def packNumbersCard : Claim7 := { stood := { row := packNumbersRow, standIns := [], harness := (true, "226602b56afc4151056729997ee2531b289675b3c8a3b1572b85acf9ef810387"), looks := false }, kinds := [], alts := [], laidByText := true, laidKinds := [.data, .pinned], laidTests := true, laidLooks := .later }
def PackNumbersCardSaid : Prop := Claim7.holds Tryd.pinned (.plain (OpenSpec.ofChange packNumbersSpec)) packNumbersCard

/-- THE TIED CARD OF 'clerestorylaw21.WireBack'. -/
def wireBackCard : Claim7 := { stood := { row := wireBackRow, standIns := [], harness := (true, "226602b56afc4151056729997ee2531b289675b3c8a3b1572b85acf9ef810387"), looks := false }, kinds := [], alts := [], laidByText := true, laidKinds := [.data, .pinned], laidTests := true, laidLooks := .later }
def WireBackCardSaid : Prop := Claim7.holds Tryd.pinned (.plain (OpenSpec.ofChange wireBackSpec)) wireBackCard

/-- THE TIED CARD OF 'clerestorylaw21.WireCut'. -/
def wireCutCard : Claim7 := { stood := { row := wireCutRow, standIns := [], harness := (true, "226602b56afc4151056729997ee2531b289675b3c8a3b1572b85acf9ef810387"), looks := false }, kinds := [], alts := [], laidByText := true, laidKinds := [.data, .pinned], laidTests := true, laidLooks := .later }
def WireCutCardSaid : Prop := Claim7.holds Tryd.pinned (.plain (OpenSpec.ofChange wireCutSpec)) wireCutCard

/-- THE TIED CARD OF 'clerestorylaw23.TreeTexts'. -/
def treeTextsCard : Claim7 := { stood := { row := treeTextsRow, standIns := [], harness := (true, "226602b56afc4151056729997ee2531b289675b3c8a3b1572b85acf9ef810387"), looks := false }, kinds := [], alts := [], laidByText := true, laidKinds := [.data, .data, .data, .data, .pinned], laidTests := true, laidLooks := .later }
def TreeTextsCardSaid : Prop := Claim7.holds Tryd.pinned (.plain (OpenSpec.ofChange treeTextsSpec)) treeTextsCard

/-- THE TIED CARD OF 'clerestorylaw23.TreeAll'. -/
def treeAllCard : Claim7 := { stood := { row := treeAllRow, standIns := [], harness := (true, "226602b56afc4151056729997ee2531b289675b3c8a3b1572b85acf9ef810387"), looks := false }, kinds := [], alts := [], laidByText := true, laidKinds := [.data, .data, .data, .data, .pinned], laidTests := true, laidLooks := .later }
def TreeAllCardSaid : Prop := Claim7.holds Tryd.pinned (.plain (OpenSpec.ofChange treeAllSpec)) treeAllCard

/-- THE TIED CARD OF 'clerestorylaw23.TreeParts'. -/
def treePartsCard : Claim7 := { stood := { row := treePartsRow, standIns := [], harness := (true, "226602b56afc4151056729997ee2531b289675b3c8a3b1572b85acf9ef810387"), looks := false }, kinds := [], alts := [], laidByText := true, laidKinds := [.data, .data, .data, .data, .pinned], laidTests := true, laidLooks := .later }
def TreePartsCardSaid : Prop := Claim7.holds Tryd.pinned (.plain (OpenSpec.ofChange treePartsSpec)) treePartsCard

/-- THE TIED CARD OF 'clerestorylaw23.TreeSame'. -/
def treeSameCard : Claim7 := { stood := { row := treeSameRow, standIns := [], harness := (true, "226602b56afc4151056729997ee2531b289675b3c8a3b1572b85acf9ef810387"), looks := false }, kinds := [], alts := [], laidByText := true, laidKinds := [.data, .data, .data, .data, .pinned], laidTests := true, laidLooks := .later }
def TreeSameCardSaid : Prop := Claim7.holds Tryd.pinned (.plain (OpenSpec.ofChange treeSameSpec)) treeSameCard

/-- THE SECOND FORM's CARD OF 'clerestorylaw09.PackTurned'. -/
def packTurnedUptoCard : Claim7 := { stood := { row := packTurnedUptoRow, standIns := [], harness := (true, "226602b56afc4151056729997ee2531b289675b3c8a3b1572b85acf9ef810387"), looks := false }, kinds := [], alts := [], laidByText := true, laidKinds := [.data, .pinned], laidTests := true, laidLooks := .later }
def PackTurnedUptoCardSaid : Prop := Claim7.holds Tryd.pinned (.plain (OpenSpec.upto packTurnedSpec)) packTurnedUptoCard

/-- THE SECOND FORM's CARD OF 'clerestorylaw09.PackAll'. -/
def packAllUptoCard : Claim7 := { stood := { row := packAllUptoRow, standIns := [], harness := (true, "226602b56afc4151056729997ee2531b289675b3c8a3b1572b85acf9ef810387"), looks := false }, kinds := [], alts := [], laidByText := true, laidKinds := [.data, .pinned], laidTests := true, laidLooks := .later }
def PackAllUptoCardSaid : Prop := Claim7.holds Tryd.pinned (.plain (OpenSpec.upto packAllSpec)) packAllUptoCard

/-- THE SECOND FORM's CARD OF 'clerestorylaw09.PackBack'. -/
def packBackUptoCard : Claim7 := { stood := { row := packBackUptoRow, standIns := [], harness := (true, "226602b56afc4151056729997ee2531b289675b3c8a3b1572b85acf9ef810387"), looks := false }, kinds := [], alts := [], laidByText := true, laidKinds := [.data, .pinned], laidTests := true, laidLooks := .later }
def PackBackUptoCardSaid : Prop := Claim7.holds Tryd.pinned (.plain (OpenSpec.upto packBackSpec)) packBackUptoCard

/-- THE SECOND FORM's CARD OF 'clerestorylaw09.PackNumbers'. -/
def packNumbersUptoCard : Claim7 := { stood := { row := packNumbersUptoRow, standIns := [], harness := (true, "226602b56afc4151056729997ee2531b289675b3c8a3b1572b85acf9ef810387"), looks := false }, kinds := [], alts := [], laidByText := true, laidKinds := [.data, .pinned], laidTests := true, laidLooks := .later }
def PackNumbersUptoCardSaid : Prop := Claim7.holds Tryd.pinned (.plain (OpenSpec.upto packNumbersSpec)) packNumbersUptoCard

/-- THE SECOND FORM's CARD OF 'clerestorylaw21.WireBack'. -/
def wireBackUptoCard : Claim7 := { stood := { row := wireBackUptoRow, standIns := [], harness := (true, "226602b56afc4151056729997ee2531b289675b3c8a3b1572b85acf9ef810387"), looks := false }, kinds := [], alts := [], laidByText := true, laidKinds := [.data, .pinned], laidTests := true, laidLooks := .later }
def WireBackUptoCardSaid : Prop := Claim7.holds Tryd.pinned (.plain (OpenSpec.upto wireBackSpec)) wireBackUptoCard

/-- THE SECOND FORM's CARD OF 'clerestorylaw21.WireCut'. -/
def wireCutUptoCard : Claim7 := { stood := { row := wireCutUptoRow, standIns := [], harness := (true, "226602b56afc4151056729997ee2531b289675b3c8a3b1572b85acf9ef810387"), looks := false }, kinds := [], alts := [], laidByText := true, laidKinds := [.data, .pinned], laidTests := true, laidLooks := .later }
def WireCutUptoCardSaid : Prop := Claim7.holds Tryd.pinned (.plain (OpenSpec.upto wireCutSpec)) wireCutUptoCard

/-- THE SECOND FORM's CARD OF 'clerestorylaw23.TreeTexts'. -/
def treeTextsUptoCard : Claim7 := { stood := { row := treeTextsUptoRow, standIns := [], harness := (true, "226602b56afc4151056729997ee2531b289675b3c8a3b1572b85acf9ef810387"), looks := false }, kinds := [], alts := [], laidByText := true, laidKinds := [.data, .data, .data, .data, .pinned], laidTests := true, laidLooks := .later }
def TreeTextsUptoCardSaid : Prop := Claim7.holds Tryd.pinned (.plain (OpenSpec.upto treeTextsSpec)) treeTextsUptoCard

/-- THE SECOND FORM's CARD OF 'clerestorylaw23.TreeAll'. -/
def treeAllUptoCard : Claim7 := { stood := { row := treeAllUptoRow, standIns := [], harness := (true, "226602b56afc4151056729997ee2531b289675b3c8a3b1572b85acf9ef810387"), looks := false }, kinds := [], alts := [], laidByText := true, laidKinds := [.data, .data, .data, .data, .pinned], laidTests := true, laidLooks := .later }
def TreeAllUptoCardSaid : Prop := Claim7.holds Tryd.pinned (.plain (OpenSpec.upto treeAllSpec)) treeAllUptoCard

/-- THE SECOND FORM's CARD OF 'clerestorylaw23.TreeParts'. -/
def treePartsUptoCard : Claim7 := { stood := { row := treePartsUptoRow, standIns := [], harness := (true, "226602b56afc4151056729997ee2531b289675b3c8a3b1572b85acf9ef810387"), looks := false }, kinds := [], alts := [], laidByText := true, laidKinds := [.data, .data, .data, .data, .pinned], laidTests := true, laidLooks := .later }
def TreePartsUptoCardSaid : Prop := Claim7.holds Tryd.pinned (.plain (OpenSpec.upto treePartsSpec)) treePartsUptoCard

/-- THE SECOND FORM's CARD OF 'clerestorylaw23.TreeSame'. -/
def treeSameUptoCard : Claim7 := { stood := { row := treeSameUptoRow, standIns := [], harness := (true, "226602b56afc4151056729997ee2531b289675b3c8a3b1572b85acf9ef810387"), looks := false }, kinds := [], alts := [], laidByText := true, laidKinds := [.data, .data, .data, .data, .pinned], laidTests := true, laidLooks := .later }
def TreeSameUptoCardSaid : Prop := Claim7.holds Tryd.pinned (.plain (OpenSpec.upto treeSameSpec)) treeSameUptoCard
end Rows
end Go.Proofs.YtdkkbglfipkmdaaDoor
