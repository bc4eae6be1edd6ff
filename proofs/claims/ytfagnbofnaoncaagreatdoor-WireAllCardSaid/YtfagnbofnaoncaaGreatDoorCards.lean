/-
  DERIVED. GIVEN WITH THE SEED: THE CARDS: each row of YtfagnbofnaoncaaGreatDoorRows.lean that lists a variable, with what it lists TIED to the program's text (the seventh form; the later family's looks); each row that meets fmt, with fmt's text TOLD by the authors' own Lean function (tested against real Go, not proved from fmt's source: count such statements apart). THE CARD IS WHAT COUNTS. Prove the row's statement (the work); the ties are given (YtfagnbofnaoncaaGreatDoorTie.lean); close each card by the builder's one call (the guide's Derived/Test/ToyasCard.lean, 'card_holds'). Laid BY PROGRAM, IN A SANDBOX (cutbox-door.mjs). By AI agents, Wed Nov 11 2026. No macro, syntax, notation, axiom, sorry.
-/
import Derived.Test.YtfagnbofnaoncaaGreatDoorRows
import GoSem.ClaimSeven
namespace Go.Proofs.YtfagnbofnaoncaaGreatDoor
namespace Rows

/-- THE TIED CARD OF 'clerestorylaw21.WireAll'. -/
def wireAllCard : Claim7 := { stood := { row := wireAllRow, standIns := [], harness := (true, "a9a3db899d2ba5d35032bec502bd056b5cc7da805741ee00e6a13e1b3c7ac656"), looks := false }, kinds := [], alts := [], laidByText := true, laidKinds := [.data, .pinned], laidTests := true, laidLooks := .later }
def WireAllCardSaid : Prop := Claim7.holds Tryz.pinned (.plain (OpenSpec.ofChange wireAllSpec)) wireAllCard

/-- THE TIED CARD OF 'clerestorylaw19.DeltaNumbers'. -/
def deltaNumbersCard : Claim7 := { stood := { row := deltaNumbersRow, standIns := [], harness := (true, "a9a3db899d2ba5d35032bec502bd056b5cc7da805741ee00e6a13e1b3c7ac656"), looks := false }, kinds := [], alts := [], laidByText := true, laidKinds := [.data, .data, .data], laidTests := true, laidLooks := .later }
def DeltaNumbersCardSaid : Prop := Claim7.holds Tryz.pinned (.plain (OpenSpec.ofChange deltaNumbersSpec)) deltaNumbersCard

/-- THE SECOND FORM's CARD OF 'clerestorylaw21.WireAll'. -/
def wireAllUptoCard : Claim7 := { stood := { row := wireAllUptoRow, standIns := [], harness := (true, "a9a3db899d2ba5d35032bec502bd056b5cc7da805741ee00e6a13e1b3c7ac656"), looks := false }, kinds := [], alts := [], laidByText := true, laidKinds := [.data, .pinned], laidTests := true, laidLooks := .later }
def WireAllUptoCardSaid : Prop := Claim7.holds Tryz.pinned (.plain (OpenSpec.upto wireAllSpec)) wireAllUptoCard

/-- THE SECOND FORM's CARD OF 'clerestorylaw19.DeltaNumbers'. -/
def deltaNumbersUptoCard : Claim7 := { stood := { row := deltaNumbersUptoRow, standIns := [], harness := (true, "a9a3db899d2ba5d35032bec502bd056b5cc7da805741ee00e6a13e1b3c7ac656"), looks := false }, kinds := [], alts := [], laidByText := true, laidKinds := [.data, .data, .data], laidTests := true, laidLooks := .later }
def DeltaNumbersUptoCardSaid : Prop := Claim7.holds Tryz.pinned (.plain (OpenSpec.upto deltaNumbersSpec)) deltaNumbersUptoCard
end Rows
end Go.Proofs.YtfagnbofnaoncaaGreatDoor
