/-
  DERIVED. GIVEN WITH THE SEED: THE CARDS: each row of YtimbikbbbfpeeaaGreatDoorRows.lean that lists a variable, with what it lists TIED to the program's text (the seventh form; the later family's looks); each row that meets fmt, with fmt's text TOLD by the authors' own Lean function (tested against real Go, not proved from fmt's source: count such statements apart). THE CARD IS WHAT COUNTS. Prove the row's statement (the work); the ties are given (YtimbikbbbfpeeaaGreatDoorTie.lean); close each card by the builder's one call (the guide's Derived/Test/ToyasCard.lean, 'card_holds'). Laid BY PROGRAM, IN A SANDBOX (cutbox-door.mjs). By AI agents, Wed Nov 11 2026. No macro, syntax, notation, axiom, sorry.
-/
import Derived.Test.YtimbikbbbfpeeaaGreatDoorRows
import GoSem.ClaimSeven
namespace Go.Proofs.YtimbikbbbfpeeaaGreatDoor
namespace Rows

/-- THE TIED CARD OF 'clerestorylaw12.StoreTorn'. -/
def storeTornCard : Claim7 := { stood := { row := storeTornRow, standIns := [], harness := (true, "3dfe16c6fa35bde831dc590d90bfe2a825a473a6d9f77aae723faec532519431"), looks := true }, kinds := [], alts := [], laidByText := true, laidKinds := [.data, .pinned], laidTests := true, laidLooks := .later }
def StoreTornCardSaid : Prop := Claim7.holds Tryz.pinned (.plain (OpenSpec.ofChange storeTornSpec)) storeTornCard

/-- THE TIED CARD OF 'clerestorylaw12.StoreNotes'. -/
def storeNotesCard : Claim7 := { stood := { row := storeNotesRow, standIns := [], harness := (true, "3dfe16c6fa35bde831dc590d90bfe2a825a473a6d9f77aae723faec532519431"), looks := true }, kinds := [], alts := [], laidByText := true, laidKinds := [.data, .pinned], laidTests := true, laidLooks := .later }
def StoreNotesCardSaid : Prop := Claim7.holds Tryz.pinned (.plain (OpenSpec.ofChange storeNotesSpec)) storeNotesCard

/-- THE TIED CARD OF 'clerestorylaw12.StoreFlushes'. -/
def storeFlushesCard : Claim7 := { stood := { row := storeFlushesRow, standIns := [], harness := (true, "3dfe16c6fa35bde831dc590d90bfe2a825a473a6d9f77aae723faec532519431"), looks := true }, kinds := [], alts := [], laidByText := true, laidKinds := [.data, .pinned], laidTests := true, laidLooks := .later }
def StoreFlushesCardSaid : Prop := Claim7.holds Tryz.pinned (.plain (OpenSpec.ofChange storeFlushesSpec)) storeFlushesCard

/-- THE TIED CARD OF 'clerestorylaw12.StoreRooms'. -/
def storeRoomsCard : Claim7 := { stood := { row := storeRoomsRow, standIns := [], harness := (true, "3dfe16c6fa35bde831dc590d90bfe2a825a473a6d9f77aae723faec532519431"), looks := true }, kinds := [], alts := [], laidByText := true, laidKinds := [.data, .pinned], laidTests := true, laidLooks := .later }
def StoreRoomsCardSaid : Prop := Claim7.holds Tryz.pinned (.plain (OpenSpec.ofChange storeRoomsSpec)) storeRoomsCard

/-- THE TIED CARD OF 'clerestorylaw12.StoreNumbers'. -/
def storeNumbersCard : Claim7 := { stood := { row := storeNumbersRow, standIns := [], harness := (true, "3dfe16c6fa35bde831dc590d90bfe2a825a473a6d9f77aae723faec532519431"), looks := true }, kinds := [], alts := [], laidByText := true, laidKinds := [.data, .pinned], laidTests := true, laidLooks := .later }
def StoreNumbersCardSaid : Prop := Claim7.holds Tryz.pinned (.plain (OpenSpec.ofChange storeNumbersSpec)) storeNumbersCard

/-- THE SECOND FORM's CARD OF 'clerestorylaw12.StoreTorn'. -/
def storeTornUptoCard : Claim7 := { stood := { row := storeTornUptoRow, standIns := [], harness := (true, "3dfe16c6fa35bde831dc590d90bfe2a825a473a6d9f77aae723faec532519431"), looks := true }, kinds := [], alts := [], laidByText := true, laidKinds := [.data, .pinned], laidTests := true, laidLooks := .later }
def StoreTornUptoCardSaid : Prop := Claim7.holds Tryz.pinned (.plain (OpenSpec.upto storeTornSpec)) storeTornUptoCard

/-- THE SECOND FORM's CARD OF 'clerestorylaw12.StoreNotes'. -/
def storeNotesUptoCard : Claim7 := { stood := { row := storeNotesUptoRow, standIns := [], harness := (true, "3dfe16c6fa35bde831dc590d90bfe2a825a473a6d9f77aae723faec532519431"), looks := true }, kinds := [], alts := [], laidByText := true, laidKinds := [.data, .pinned], laidTests := true, laidLooks := .later }
def StoreNotesUptoCardSaid : Prop := Claim7.holds Tryz.pinned (.plain (OpenSpec.upto storeNotesSpec)) storeNotesUptoCard

/-- THE SECOND FORM's CARD OF 'clerestorylaw12.StoreFlushes'. -/
def storeFlushesUptoCard : Claim7 := { stood := { row := storeFlushesUptoRow, standIns := [], harness := (true, "3dfe16c6fa35bde831dc590d90bfe2a825a473a6d9f77aae723faec532519431"), looks := true }, kinds := [], alts := [], laidByText := true, laidKinds := [.data, .pinned], laidTests := true, laidLooks := .later }
def StoreFlushesUptoCardSaid : Prop := Claim7.holds Tryz.pinned (.plain (OpenSpec.upto storeFlushesSpec)) storeFlushesUptoCard

/-- THE SECOND FORM's CARD OF 'clerestorylaw12.StoreRooms'. -/
def storeRoomsUptoCard : Claim7 := { stood := { row := storeRoomsUptoRow, standIns := [], harness := (true, "3dfe16c6fa35bde831dc590d90bfe2a825a473a6d9f77aae723faec532519431"), looks := true }, kinds := [], alts := [], laidByText := true, laidKinds := [.data, .pinned], laidTests := true, laidLooks := .later }
def StoreRoomsUptoCardSaid : Prop := Claim7.holds Tryz.pinned (.plain (OpenSpec.upto storeRoomsSpec)) storeRoomsUptoCard

/-- THE SECOND FORM's CARD OF 'clerestorylaw12.StoreNumbers'. -/
def storeNumbersUptoCard : Claim7 := { stood := { row := storeNumbersUptoRow, standIns := [], harness := (true, "3dfe16c6fa35bde831dc590d90bfe2a825a473a6d9f77aae723faec532519431"), looks := true }, kinds := [], alts := [], laidByText := true, laidKinds := [.data, .pinned], laidTests := true, laidLooks := .later }
def StoreNumbersUptoCardSaid : Prop := Claim7.holds Tryz.pinned (.plain (OpenSpec.upto storeNumbersSpec)) storeNumbersUptoCard
end Rows
end Go.Proofs.YtimbikbbbfpeeaaGreatDoor
