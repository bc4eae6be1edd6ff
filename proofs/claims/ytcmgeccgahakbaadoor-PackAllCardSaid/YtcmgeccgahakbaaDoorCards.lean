/-
  DERIVED. GIVEN WITH THE SEED: THE CARDS: each row of YtcmgeccgahakbaaDoorRows.lean that lists a variable, with what it lists TIED to the program's text (the seventh form; the later family's looks); each row that meets fmt, with fmt's text TOLD by the authors' own Lean function (tested against real Go, not proved from fmt's source: count such statements apart). THE CARD IS WHAT COUNTS. Prove the row's statement (the work); the ties are given (YtcmgeccgahakbaaDoorTie.lean); close each card by the builder's one call (the guide's Derived/Test/ToyasCard.lean, 'card_holds'). Laid BY PROGRAM, IN A SANDBOX (cutbox-door.mjs). By AI agents, Wed Nov 11 2026. No macro, syntax, notation, axiom, sorry.
-/
import Derived.Test.YtcmgeccgahakbaaDoorRows
import GoSem.ClaimSeven
namespace Go.Proofs.YtcmgeccgahakbaaDoor
namespace Rows

/-- THE TIED CARD OF 'clerestorylaw09.PackAll'. -/
def packAllCard : Claim7 := { stood := { row := packAllRow, standIns := [], harness := (true, "8b3513174bbe880a1a8148b7b3ff595525b6d2fbe92da441300237b01a4fb144"), looks := false }, kinds := [], alts := [], laidByText := true, laidKinds := [.data, .pinned], laidTests := true, laidLooks := .later }
def PackAllCardSaid : Prop := Claim7.holds Tryd.pinned (.plain (OpenSpec.ofChange packAllSpec)) packAllCard

/-- THE TIED CARD OF 'clerestorylaw21.WireBack'. -/
def wireBackCard : Claim7 := { stood := { row := wireBackRow, standIns := [], harness := (true, "8b3513174bbe880a1a8148b7b3ff595525b6d2fbe92da441300237b01a4fb144"), looks := false }, kinds := [], alts := [], laidByText := true, laidKinds := [.data, .pinned], laidTests := true, laidLooks := .later }
def WireBackCardSaid : Prop := Claim7.holds Tryd.pinned (.plain (OpenSpec.ofChange wireBackSpec)) wireBackCard

/-- THE TIED CARD OF 'clerestorylaw21.WireCut'. -/
def wireCutCard : Claim7 := { stood := { row := wireCutRow, standIns := [], harness := (true, "8b3513174bbe880a1a8148b7b3ff595525b6d2fbe92da441300237b01a4fb144"), looks := false }, kinds := [], alts := [], laidByText := true, laidKinds := [.data, .pinned], laidTests := true, laidLooks := .later }
def WireCutCardSaid : Prop := Claim7.holds Tryd.pinned (.plain (OpenSpec.ofChange wireCutSpec)) wireCutCard

/-- THE TIED CARD OF 'clerestorylaw23.TreeAll'. -/
def treeAllCard : Claim7 := { stood := { row := treeAllRow, standIns := [], harness := (true, "8b3513174bbe880a1a8148b7b3ff595525b6d2fbe92da441300237b01a4fb144"), looks := false }, kinds := [], alts := [], laidByText := true, laidKinds := [.data, .data, .data, .data, .pinned], laidTests := true, laidLooks := .later }
def TreeAllCardSaid : Prop := Claim7.holds Tryd.pinned (.plain (OpenSpec.ofChange treeAllSpec)) treeAllCard

/-- THE TIED CARD OF 'clerestorylaw23.TreeParts'. -/
def treePartsCard : Claim7 := { stood := { row := treePartsRow, standIns := [], harness := (true, "8b3513174bbe880a1a8148b7b3ff595525b6d2fbe92da441300237b01a4fb144"), looks := false }, kinds := [], alts := [], laidByText := true, laidKinds := [.data, .data, .data, .data, .pinned], laidTests := true, laidLooks := .later }
def TreePartsCardSaid : Prop := Claim7.holds Tryd.pinned (.plain (OpenSpec.ofChange treePartsSpec)) treePartsCard

/-- THE TIED CARD OF 'clerestorylaw23.TreeSame'. -/
def treeSameCard : Claim7 := { stood := { row := treeSameRow, standIns := [], harness := (true, "8b3513174bbe880a1a8148b7b3ff595525b6d2fbe92da441300237b01a4fb144"), looks := false }, kinds := [], alts := [], laidByText := true, laidKinds := [.data, .data, .data, .data, .pinned], laidTests := true, laidLooks := .later }
def TreeSameCardSaid : Prop := Claim7.holds Tryd.pinned (.plain (OpenSpec.ofChange treeSameSpec)) treeSameCard

/-- THE SECOND FORM's CARD OF 'clerestorylaw09.PackAll'. -/
def packAllUptoCard : Claim7 := { stood := { row := packAllUptoRow, standIns := [], harness := (true, "8b3513174bbe880a1a8148b7b3ff595525b6d2fbe92da441300237b01a4fb144"), looks := false }, kinds := [], alts := [], laidByText := true, laidKinds := [.data, .pinned], laidTests := true, laidLooks := .later }
def PackAllUptoCardSaid : Prop := Claim7.holds Tryd.pinned (.plain (OpenSpec.upto packAllSpec)) packAllUptoCard

/-- THE SECOND FORM's CARD OF 'clerestorylaw21.WireBack'. -/
def wireBackUptoCard : Claim7 := { stood := { row := wireBackUptoRow, standIns := [], harness := (true, "8b3513174bbe880a1a8148b7b3ff595525b6d2fbe92da441300237b01a4fb144"), looks := false }, kinds := [], alts := [], laidByText := true, laidKinds := [.data, .pinned], laidTests := true, laidLooks := .later }
def WireBackUptoCardSaid : Prop := Claim7.holds Tryd.pinned (.plain (OpenSpec.upto wireBackSpec)) wireBackUptoCard

/-- THE SECOND FORM's CARD OF 'clerestorylaw21.WireCut'. -/
def wireCutUptoCard : Claim7 := { stood := { row := wireCutUptoRow, standIns := [], harness := (true, "8b3513174bbe880a1a8148b7b3ff595525b6d2fbe92da441300237b01a4fb144"), looks := false }, kinds := [], alts := [], laidByText := true, laidKinds := [.data, .pinned], laidTests := true, laidLooks := .later }
def WireCutUptoCardSaid : Prop := Claim7.holds Tryd.pinned (.plain (OpenSpec.upto wireCutSpec)) wireCutUptoCard

/-- THE SECOND FORM's CARD OF 'clerestorylaw23.TreeAll'. -/
def treeAllUptoCard : Claim7 := { stood := { row := treeAllUptoRow, standIns := [], harness := (true, "8b3513174bbe880a1a8148b7b3ff595525b6d2fbe92da441300237b01a4fb144"), looks := false }, kinds := [], alts := [], laidByText := true, laidKinds := [.data, .data, .data, .data, .pinned], laidTests := true, laidLooks := .later }
def TreeAllUptoCardSaid : Prop := Claim7.holds Tryd.pinned (.plain (OpenSpec.upto treeAllSpec)) treeAllUptoCard

/-- THE SECOND FORM's CARD OF 'clerestorylaw23.TreeParts'. -/
def treePartsUptoCard : Claim7 := { stood := { row := treePartsUptoRow, standIns := [], harness := (true, "8b3513174bbe880a1a8148b7b3ff595525b6d2fbe92da441300237b01a4fb144"), looks := false }, kinds := [], alts := [], laidByText := true, laidKinds := [.data, .data, .data, .data, .pinned], laidTests := true, laidLooks := .later }
def TreePartsUptoCardSaid : Prop := Claim7.holds Tryd.pinned (.plain (OpenSpec.upto treePartsSpec)) treePartsUptoCard

/-- THE SECOND FORM's CARD OF 'clerestorylaw23.TreeSame'. -/
def treeSameUptoCard : Claim7 := { stood := { row := treeSameUptoRow, standIns := [], harness := (true, "8b3513174bbe880a1a8148b7b3ff595525b6d2fbe92da441300237b01a4fb144"), looks := false }, kinds := [], alts := [], laidByText := true, laidKinds := [.data, .data, .data, .data, .pinned], laidTests := true, laidLooks := .later }
def TreeSameUptoCardSaid : Prop := Claim7.holds Tryd.pinned (.plain (OpenSpec.upto treeSameSpec)) treeSameUptoCard
end Rows
end Go.Proofs.YtcmgeccgahakbaaDoor
