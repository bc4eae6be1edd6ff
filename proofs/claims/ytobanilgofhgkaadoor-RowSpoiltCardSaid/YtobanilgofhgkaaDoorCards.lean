/-
  DERIVED. GIVEN WITH THE SEED: THE CARDS: each row of YtobanilgofhgkaaDoorRows.lean that lists a variable, with what it lists TIED to the program's text (the seventh form; the later family's looks); each row that meets fmt, with fmt's text TOLD by the authors' own Lean function (tested against real Go, not proved from fmt's source: count such statements apart). THE CARD IS WHAT COUNTS. Prove the row's statement (the work); the ties are given (YtobanilgofhgkaaDoorTie.lean); close each card by the builder's one call (the guide's Derived/Test/ToyasCard.lean, 'card_holds'). Laid BY PROGRAM, IN A SANDBOX (cutbox-door.mjs). By AI agents, Wed Nov 11 2026. No macro, syntax, notation, axiom, sorry.
-/
import Derived.Test.YtobanilgofhgkaaDoorRows
import GoSem.ClaimSeven
namespace Go.Proofs.YtobanilgofhgkaaDoor
namespace Rows

/-- THE TIED CARD OF 'clerestorylaw07.RowSpoilt'. -/
def rowSpoiltCard : Claim7 := { stood := { row := rowSpoiltRow, standIns := [], harness := (true, "984f788fccba7c9531a291173f4b165ddb5f8253270a44f4fc9197487d03363b"), looks := false }, kinds := [], alts := [], laidByText := true, laidKinds := [.data, .pinned], laidTests := true, laidLooks := .later }
def RowSpoiltCardSaid : Prop := Claim7.holds Tryd.pinned (.plain (OpenSpec.ofChange rowSpoiltSpec)) rowSpoiltCard

/-- THE TIED CARD OF 'clerestorylaw07.RowShades'. -/
def rowShadesCard : Claim7 := { stood := { row := rowShadesRow, standIns := [], harness := (true, "984f788fccba7c9531a291173f4b165ddb5f8253270a44f4fc9197487d03363b"), looks := false }, kinds := [], alts := [], laidByText := true, laidKinds := [.data, .pinned], laidTests := true, laidLooks := .later }
def RowShadesCardSaid : Prop := Claim7.holds Tryd.pinned (.plain (OpenSpec.ofChange rowShadesSpec)) rowShadesCard

/-- THE SECOND FORM's CARD OF 'clerestorylaw07.RowSpoilt'. -/
def rowSpoiltUptoCard : Claim7 := { stood := { row := rowSpoiltUptoRow, standIns := [], harness := (true, "984f788fccba7c9531a291173f4b165ddb5f8253270a44f4fc9197487d03363b"), looks := false }, kinds := [], alts := [], laidByText := true, laidKinds := [.data, .pinned], laidTests := true, laidLooks := .later }
def RowSpoiltUptoCardSaid : Prop := Claim7.holds Tryd.pinned (.plain (OpenSpec.upto rowSpoiltSpec)) rowSpoiltUptoCard

/-- THE SECOND FORM's CARD OF 'clerestorylaw07.RowShades'. -/
def rowShadesUptoCard : Claim7 := { stood := { row := rowShadesUptoRow, standIns := [], harness := (true, "984f788fccba7c9531a291173f4b165ddb5f8253270a44f4fc9197487d03363b"), looks := false }, kinds := [], alts := [], laidByText := true, laidKinds := [.data, .pinned], laidTests := true, laidLooks := .later }
def RowShadesUptoCardSaid : Prop := Claim7.holds Tryd.pinned (.plain (OpenSpec.upto rowShadesSpec)) rowShadesUptoCard
end Rows
end Go.Proofs.YtobanilgofhgkaaDoor
