/-
  DERIVED. GIVEN WITH THE SEED: THE CARDS: each row of YtolkhjdododdaaaGreatDoorRows.lean that lists a variable, with what it lists TIED to the program's text (the seventh form; the later family's looks); each row that meets fmt, with fmt's text TOLD by the authors' own Lean function (tested against real Go, not proved from fmt's source: count such statements apart). THE CARD IS WHAT COUNTS. Prove the row's statement (the work); the ties are given (YtolkhjdododdaaaGreatDoorTie.lean); close each card by the builder's one call (the guide's Derived/Test/ToyasCard.lean, 'card_holds'). Laid BY PROGRAM, IN A SANDBOX (cutbox-door.mjs). By AI agents, Wed Nov 11 2026. No macro, syntax, notation, axiom, sorry.
-/
import Derived.Test.YtolkhjdododdaaaGreatDoorRows
import GoSem.ClaimSeven
namespace Go.Proofs.YtolkhjdododdaaaGreatDoor
namespace Rows

/-- THE TIED CARD OF 'clerestorylaw19.DeltaNumbers'. -/
def deltaNumbersCard : Claim7 := { stood := { row := deltaNumbersRow, standIns := [], harness := (true, "47f503211be1c4c64f8f80fe6888a2c9dc44a71a90ab563d9abf63453a85807d"), looks := false }, kinds := [], alts := [], laidByText := true, laidKinds := [.data, .data, .data], laidTests := true, laidLooks := .later }
def DeltaNumbersCardSaid : Prop := Claim7.holds Tryz.pinned (.plain (OpenSpec.ofChange deltaNumbersSpec)) deltaNumbersCard

/-- THE SECOND FORM's CARD OF 'clerestorylaw19.DeltaNumbers'. -/
def deltaNumbersUptoCard : Claim7 := { stood := { row := deltaNumbersUptoRow, standIns := [], harness := (true, "47f503211be1c4c64f8f80fe6888a2c9dc44a71a90ab563d9abf63453a85807d"), looks := false }, kinds := [], alts := [], laidByText := true, laidKinds := [.data, .data, .data], laidTests := true, laidLooks := .later }
def DeltaNumbersUptoCardSaid : Prop := Claim7.holds Tryz.pinned (.plain (OpenSpec.upto deltaNumbersSpec)) deltaNumbersUptoCard
end Rows
end Go.Proofs.YtolkhjdododdaaaGreatDoor
