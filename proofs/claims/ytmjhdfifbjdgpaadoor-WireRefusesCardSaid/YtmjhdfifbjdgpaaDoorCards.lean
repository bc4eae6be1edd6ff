/-
  DERIVED. GIVEN WITH THE SEED: THE CARDS: each row of YtmjhdfifbjdgpaaDoorRows.lean that lists a variable, with what it lists TIED to the program's text (the seventh form; the later family's looks); each row that meets fmt, with fmt's text TOLD by the authors' own Lean function (tested against real Go, not proved from fmt's source: count such statements apart). THE CARD IS WHAT COUNTS. Prove the row's statement (the work); the ties are given (YtmjhdfifbjdgpaaDoorTie.lean); close each card by the builder's one call (the guide's Derived/Test/ToyasCard.lean, 'card_holds'). Laid BY PROGRAM, IN A SANDBOX (cutbox-door.mjs). By AI agents, Wed Nov 11 2026. No macro, syntax, notation, axiom, sorry.
-/
import Derived.Test.YtmjhdfifbjdgpaaDoorRows
import GoSem.ClaimSeven
namespace Go.Proofs.YtmjhdfifbjdgpaaDoor
namespace Rows

/-- THE TIED CARD OF 'clerestorylaw09.PackRefuses'. -/
def packRefusesCard : Claim7 := { stood := { row := packRefusesRow, standIns := [], harness := (true, "d6e65512459086f223709e869e26b08982098978419d531936175975b4438b68"), looks := false }, kinds := [], alts := [], laidByText := true, laidKinds := [.data, .pinned], laidTests := true, laidLooks := .later }
def PackRefusesCardSaid : Prop := Claim7.holds Tryd.pinned (.plain (OpenSpec.ofChange packRefusesSpec)) packRefusesCard

/-- THE TIED CARD OF 'clerestorylaw09.PackTurned'. -/
def packTurnedCard : Claim7 := { stood := { row := packTurnedRow, standIns := [], harness := (true, "d6e65512459086f223709e869e26b08982098978419d531936175975b4438b68"), looks := false }, kinds := [], alts := [], laidByText := true, laidKinds := [.data, .pinned], laidTests := true, laidLooks := .later }
def PackTurnedCardSaid : Prop := Claim7.holds Tryd.pinned (.plain (OpenSpec.ofChange packTurnedSpec)) packTurnedCard

/-- THE TIED CARD OF 'clerestorylaw09.PackAll'. -/
def packAllCard : Claim7 := { stood := { row := packAllRow, standIns := [], harness := (true, "d6e65512459086f223709e869e26b08982098978419d531936175975b4438b68"), looks := false }, kinds := [], alts := [], laidByText := true, laidKinds := [.data, .pinned], laidTests := true, laidLooks := .later }
def PackAllCardSaid : Prop := Claim7.holds Tryd.pinned (.plain (OpenSpec.ofChange packAllSpec)) packAllCard

/-- THE TIED CARD OF 'clerestorylaw09.PackBack'. -/
def packBackCard : Claim7 := { stood := { row := packBackRow, standIns := [], harness := (true, "d6e65512459086f223709e869e26b08982098978419d531936175975b4438b68"), looks := false }, kinds := [], alts := [], laidByText := true, laidKinds := [.data, .pinned], laidTests := true, laidLooks := .later }
def PackBackCardSaid : Prop := Claim7.holds Tryd.pinned (.plain (OpenSpec.ofChange packBackSpec)) packBackCard

/-- THE TIED CARD OF 'clerestorylaw09.PackNumbers'. -/
def packNumbersCard : Claim7 := { stood := { row := packNumbersRow, standIns := [], harness := (true, "d6e65512459086f223709e869e26b08982098978419d531936175975b4438b68"), looks := false }, kinds := [], alts := [], laidByText := true, laidKinds := [.data, .pinned], laidTests := true, laidLooks := .later }
def PackNumbersCardSaid : Prop := Claim7.holds Tryd.pinned (.plain (OpenSpec.ofChange packNumbersSpec)) packNumbersCard

/-- THE TIED CARD OF 'clerestorylaw21.WireRefuses'. -/
def wireRefusesCard : Claim7 := { stood := { row := wireRefusesRow, standIns := [], harness := (true, "d6e65512459086f223709e869e26b08982098978419d531936175975b4438b68"), looks := false }, kinds := [], alts := [], laidByText := true, laidKinds := [.data, .pinned], laidTests := true, laidLooks := .later }
def WireRefusesCardSaid : Prop := Claim7.holds Tryd.pinned (.plain (OpenSpec.ofChange wireRefusesSpec)) wireRefusesCard

/-- THE SECOND FORM's CARD OF 'clerestorylaw09.PackRefuses'. -/
def packRefusesUptoCard : Claim7 := { stood := { row := packRefusesUptoRow, standIns := [], harness := (true, "d6e65512459086f223709e869e26b08982098978419d531936175975b4438b68"), looks := false }, kinds := [], alts := [], laidByText := true, laidKinds := [.data, .pinned], laidTests := true, laidLooks := .later }
def PackRefusesUptoCardSaid : Prop := Claim7.holds Tryd.pinned (.plain (OpenSpec.upto packRefusesSpec)) packRefusesUptoCard

/-- THE SECOND FORM's CARD OF 'clerestorylaw09.PackTurned'. -/
def packTurnedUptoCard : Claim7 := { stood := { row := packTurnedUptoRow, standIns := [], harness := (true, "d6e65512459086f223709e869e26b08982098978419d531936175975b4438b68"), looks := false }, kinds := [], alts := [], laidByText := true, laidKinds := [.data, .pinned], laidTests := true, laidLooks := .later }
def PackTurnedUptoCardSaid : Prop := Claim7.holds Tryd.pinned (.plain (OpenSpec.upto packTurnedSpec)) packTurnedUptoCard

/-- THE SECOND FORM's CARD OF 'clerestorylaw09.PackAll'. -/
def packAllUptoCard : Claim7 := { stood := { row := packAllUptoRow, standIns := [], harness := (true, "d6e65512459086f223709e869e26b08982098978419d531936175975b4438b68"), looks := false }, kinds := [], alts := [], laidByText := true, laidKinds := [.data, .pinned], laidTests := true, laidLooks := .later }
def PackAllUptoCardSaid : Prop := Claim7.holds Tryd.pinned (.plain (OpenSpec.upto packAllSpec)) packAllUptoCard

/-- THE SECOND FORM's CARD OF 'clerestorylaw09.PackBack'. -/
def packBackUptoCard : Claim7 := { stood := { row := packBackUptoRow, standIns := [], harness := (true, "d6e65512459086f223709e869e26b08982098978419d531936175975b4438b68"), looks := false }, kinds := [], alts := [], laidByText := true, laidKinds := [.data, .pinned], laidTests := true, laidLooks := .later }
def PackBackUptoCardSaid : Prop := Claim7.holds Tryd.pinned (.plain (OpenSpec.upto packBackSpec)) packBackUptoCard

/-- THE SECOND FORM's CARD OF 'clerestorylaw09.PackNumbers'. -/
def packNumbersUptoCard : Claim7 := { stood := { row := packNumbersUptoRow, standIns := [], harness := (true, "d6e65512459086f223709e869e26b08982098978419d531936175975b4438b68"), looks := false }, kinds := [], alts := [], laidByText := true, laidKinds := [.data, .pinned], laidTests := true, laidLooks := .later }
def PackNumbersUptoCardSaid : Prop := Claim7.holds Tryd.pinned (.plain (OpenSpec.upto packNumbersSpec)) packNumbersUptoCard

/-- THE SECOND FORM's CARD OF 'clerestorylaw21.WireRefuses'. -/
def wireRefusesUptoCard : Claim7 := { stood := { row := wireRefusesUptoRow, standIns := [], harness := (true, "d6e65512459086f223709e869e26b08982098978419d531936175975b4438b68"), looks := false }, kinds := [], alts := [], laidByText := true, laidKinds := [.data, .pinned], laidTests := true, laidLooks := .later }
def WireRefusesUptoCardSaid : Prop := Claim7.holds Tryd.pinned (.plain (OpenSpec.upto wireRefusesSpec)) wireRefusesUptoCard
end Rows
end Go.Proofs.YtmjhdfifbjdgpaaDoor
