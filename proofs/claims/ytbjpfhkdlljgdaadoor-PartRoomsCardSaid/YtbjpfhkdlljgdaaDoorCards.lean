/-
  DERIVED. GIVEN WITH THE SEED: THE CARDS: each row of YtbjpfhkdlljgdaaDoorRows.lean that lists a variable, with what it lists TIED to the program's text (the seventh form; the later family's looks); each row that meets fmt, with fmt's text TOLD by the authors' own Lean function (tested against real Go, not proved from fmt's source: count such statements apart). THE CARD IS WHAT COUNTS. Prove the row's statement (the work); the ties are given (YtbjpfhkdlljgdaaDoorTie.lean); close each card by the builder's one call (the guide's Derived/Test/ToyasCard.lean, 'card_holds'). Laid BY PROGRAM, IN A SANDBOX (cutbox-door.mjs). By AI agents, Wed Nov 11 2026. No macro, syntax, notation, axiom, sorry.
-/
import Derived.Test.YtbjpfhkdlljgdaaDoorRows
import GoSem.ClaimSeven
namespace Go.Proofs.YtbjpfhkdlljgdaaDoor
namespace Rows

/-- THE TIED CARD OF 'clerestorylaw07.RowJoins'. -/
def rowJoinsCard : Claim7 := { stood := { row := rowJoinsRow, standIns := [], harness := (true, "e573c298ff804e6ca89c2b924c51963a6ae542f21f623bc5b70e00e2c403829a"), looks := false }, kinds := [], alts := [], laidByText := true, laidKinds := [.data, .pinned], laidTests := true, laidLooks := .later }
def RowJoinsCardSaid : Prop := Claim7.holds Tryd.pinned (.plain (OpenSpec.ofChange rowJoinsSpec)) rowJoinsCard

/-- THE TIED CARD OF 'clerestorylaw08.PartRooms'. -/
def partRoomsCard : Claim7 := { stood := { row := partRoomsRow, standIns := [], harness := (true, "e573c298ff804e6ca89c2b924c51963a6ae542f21f623bc5b70e00e2c403829a"), looks := false }, kinds := [], alts := [], laidByText := true, laidKinds := [.data, .pinned], laidTests := true, laidLooks := .later }
def PartRoomsCardSaid : Prop := Claim7.holds Tryd.pinned (.plain (OpenSpec.ofChange partRoomsSpec)) partRoomsCard

/-- THE TIED CARD OF 'clerestorylaw08.PartJoins'. -/
def partJoinsCard : Claim7 := { stood := { row := partJoinsRow, standIns := [], harness := (true, "e573c298ff804e6ca89c2b924c51963a6ae542f21f623bc5b70e00e2c403829a"), looks := false }, kinds := [], alts := [], laidByText := true, laidKinds := [.data, .pinned], laidTests := true, laidLooks := .later }
def PartJoinsCardSaid : Prop := Claim7.holds Tryd.pinned (.plain (OpenSpec.ofChange partJoinsSpec)) partJoinsCard

/-- THE TIED CARD OF 'clerestorylaw07.RowNumbers'. -/
def rowNumbersCard : Claim7 := { stood := { row := rowNumbersRow, standIns := [], harness := (true, "e573c298ff804e6ca89c2b924c51963a6ae542f21f623bc5b70e00e2c403829a"), looks := false }, kinds := [], alts := [], laidByText := true, laidKinds := [.data, .pinned], laidTests := true, laidLooks := .later }
def RowNumbersCardSaid : Prop := Claim7.holds Tryd.pinned (.plain (OpenSpec.ofChange rowNumbersSpec)) rowNumbersCard

/-- THE SECOND FORM's CARD OF 'clerestorylaw07.RowJoins'. -/
def rowJoinsUptoCard : Claim7 := { stood := { row := rowJoinsUptoRow, standIns := [], harness := (true, "e573c298ff804e6ca89c2b924c51963a6ae542f21f623bc5b70e00e2c403829a"), looks := false }, kinds := [], alts := [], laidByText := true, laidKinds := [.data, .pinned], laidTests := true, laidLooks := .later }
def RowJoinsUptoCardSaid : Prop := Claim7.holds Tryd.pinned (.plain (OpenSpec.upto rowJoinsSpec)) rowJoinsUptoCard

/-- THE SECOND FORM's CARD OF 'clerestorylaw08.PartRooms'. -/
def partRoomsUptoCard : Claim7 := { stood := { row := partRoomsUptoRow, standIns := [], harness := (true, "e573c298ff804e6ca89c2b924c51963a6ae542f21f623bc5b70e00e2c403829a"), looks := false }, kinds := [], alts := [], laidByText := true, laidKinds := [.data, .pinned], laidTests := true, laidLooks := .later }
def PartRoomsUptoCardSaid : Prop := Claim7.holds Tryd.pinned (.plain (OpenSpec.upto partRoomsSpec)) partRoomsUptoCard

/-- THE SECOND FORM's CARD OF 'clerestorylaw08.PartJoins'. -/
def partJoinsUptoCard : Claim7 := { stood := { row := partJoinsUptoRow, standIns := [], harness := (true, "e573c298ff804e6ca89c2b924c51963a6ae542f21f623bc5b70e00e2c403829a"), looks := false }, kinds := [], alts := [], laidByText := true, laidKinds := [.data, .pinned], laidTests := true, laidLooks := .later }
def PartJoinsUptoCardSaid : Prop := Claim7.holds Tryd.pinned (.plain (OpenSpec.upto partJoinsSpec)) partJoinsUptoCard

/-- THE SECOND FORM's CARD OF 'clerestorylaw07.RowNumbers'. -/
def rowNumbersUptoCard : Claim7 := { stood := { row := rowNumbersUptoRow, standIns := [], harness := (true, "e573c298ff804e6ca89c2b924c51963a6ae542f21f623bc5b70e00e2c403829a"), looks := false }, kinds := [], alts := [], laidByText := true, laidKinds := [.data, .pinned], laidTests := true, laidLooks := .later }
def RowNumbersUptoCardSaid : Prop := Claim7.holds Tryd.pinned (.plain (OpenSpec.upto rowNumbersSpec)) rowNumbersUptoCard
end Rows
end Go.Proofs.YtbjpfhkdlljgdaaDoor
