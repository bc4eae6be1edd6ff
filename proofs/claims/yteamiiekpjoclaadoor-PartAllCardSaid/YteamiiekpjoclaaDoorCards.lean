/-
  DERIVED. GIVEN WITH THE SEED: THE CARDS: each row of YteamiiekpjoclaaDoorRows.lean that lists a variable, with what it lists TIED to the program's text (the seventh form; the later family's looks); each row that meets fmt, with fmt's text TOLD by the authors' own Lean function (tested against real Go, not proved from fmt's source: count such statements apart). THE CARD IS WHAT COUNTS. Prove the row's statement (the work); the ties are given (YteamiiekpjoclaaDoorTie.lean); close each card by the builder's one call (the guide's Derived/Test/ToyasCard.lean, 'card_holds'). Laid BY PROGRAM, IN A SANDBOX (cutbox-door.mjs). By AI agents, Wed Nov 11 2026. No macro, syntax, notation, axiom, sorry.
-/
import Derived.Test.YteamiiekpjoclaaDoorRows
import GoSem.ClaimSeven
namespace Go.Proofs.YteamiiekpjoclaaDoor
namespace Rows

/-- THE TIED CARD OF 'clerestorylaw07.RowJoins'. -/
def rowJoinsCard : Claim7 := { stood := { row := rowJoinsRow, standIns := [], harness := (true, "d2045935843f912a5416da6ed0c63602236fe5d35367b64b9aac5c0c39efebb0"), looks := false }, kinds := [], alts := [], laidByText := true, laidKinds := [.data, .pinned], laidTests := true, laidLooks := .later }
def RowJoinsCardSaid : Prop := Claim7.holds Tryd.pinned (.plain (OpenSpec.ofChange rowJoinsSpec)) rowJoinsCard

/-- THE TIED CARD OF 'clerestorylaw09.PackRefuses'. -/
def packRefusesCard : Claim7 := { stood := { row := packRefusesRow, standIns := [], harness := (true, "d2045935843f912a5416da6ed0c63602236fe5d35367b64b9aac5c0c39efebb0"), looks := false }, kinds := [], alts := [], laidByText := true, laidKinds := [.data, .pinned], laidTests := true, laidLooks := .later }
def PackRefusesCardSaid : Prop := Claim7.holds Tryd.pinned (.plain (OpenSpec.ofChange packRefusesSpec)) packRefusesCard

/-- THE TIED CARD OF 'clerestorylaw07.RowAll'. -/
def rowAllCard : Claim7 := { stood := { row := rowAllRow, standIns := [], harness := (true, "d2045935843f912a5416da6ed0c63602236fe5d35367b64b9aac5c0c39efebb0"), looks := false }, kinds := [], alts := [], laidByText := true, laidKinds := [.data, .pinned], laidTests := true, laidLooks := .later }
def RowAllCardSaid : Prop := Claim7.holds Tryd.pinned (.plain (OpenSpec.ofChange rowAllSpec)) rowAllCard

/-- THE TIED CARD OF 'clerestorylaw07.RowNumbers'. -/
def rowNumbersCard : Claim7 := { stood := { row := rowNumbersRow, standIns := [], harness := (true, "d2045935843f912a5416da6ed0c63602236fe5d35367b64b9aac5c0c39efebb0"), looks := false }, kinds := [], alts := [], laidByText := true, laidKinds := [.data, .pinned], laidTests := true, laidLooks := .later }
def RowNumbersCardSaid : Prop := Claim7.holds Tryd.pinned (.plain (OpenSpec.ofChange rowNumbersSpec)) rowNumbersCard

/-- THE TIED CARD OF 'clerestorylaw08.PartAll'. -/
def partAllCard : Claim7 := { stood := { row := partAllRow, standIns := [], harness := (true, "d2045935843f912a5416da6ed0c63602236fe5d35367b64b9aac5c0c39efebb0"), looks := false }, kinds := [], alts := [], laidByText := true, laidKinds := [.data, .pinned], laidTests := true, laidLooks := .later }
def PartAllCardSaid : Prop := Claim7.holds Tryd.pinned (.plain (OpenSpec.ofChange partAllSpec)) partAllCard

/-- THE SECOND FORM's CARD OF 'clerestorylaw07.RowJoins'. -/
def rowJoinsUptoCard : Claim7 := { stood := { row := rowJoinsUptoRow, standIns := [], harness := (true, "d2045935843f912a5416da6ed0c63602236fe5d35367b64b9aac5c0c39efebb0"), looks := false }, kinds := [], alts := [], laidByText := true, laidKinds := [.data, .pinned], laidTests := true, laidLooks := .later }
def RowJoinsUptoCardSaid : Prop := Claim7.holds Tryd.pinned (.plain (OpenSpec.upto rowJoinsSpec)) rowJoinsUptoCard

/-- THE SECOND FORM's CARD OF 'clerestorylaw09.PackRefuses'. -/
def packRefusesUptoCard : Claim7 := { stood := { row := packRefusesUptoRow, standIns := [], harness := (true, "d2045935843f912a5416da6ed0c63602236fe5d35367b64b9aac5c0c39efebb0"), looks := false }, kinds := [], alts := [], laidByText := true, laidKinds := [.data, .pinned], laidTests := true, laidLooks := .later }
def PackRefusesUptoCardSaid : Prop := Claim7.holds Tryd.pinned (.plain (OpenSpec.upto packRefusesSpec)) packRefusesUptoCard

/-- THE SECOND FORM's CARD OF 'clerestorylaw07.RowAll'. -/
def rowAllUptoCard : Claim7 := { stood := { row := rowAllUptoRow, standIns := [], harness := (true, "d2045935843f912a5416da6ed0c63602236fe5d35367b64b9aac5c0c39efebb0"), looks := false }, kinds := [], alts := [], laidByText := true, laidKinds := [.data, .pinned], laidTests := true, laidLooks := .later }
def RowAllUptoCardSaid : Prop := Claim7.holds Tryd.pinned (.plain (OpenSpec.upto rowAllSpec)) rowAllUptoCard

/-- THE SECOND FORM's CARD OF 'clerestorylaw07.RowNumbers'. -/
def rowNumbersUptoCard : Claim7 := { stood := { row := rowNumbersUptoRow, standIns := [], harness := (true, "d2045935843f912a5416da6ed0c63602236fe5d35367b64b9aac5c0c39efebb0"), looks := false }, kinds := [], alts := [], laidByText := true, laidKinds := [.data, .pinned], laidTests := true, laidLooks := .later }
def RowNumbersUptoCardSaid : Prop := Claim7.holds Tryd.pinned (.plain (OpenSpec.upto rowNumbersSpec)) rowNumbersUptoCard

/-- THE SECOND FORM's CARD OF 'clerestorylaw08.PartAll'. -/
def partAllUptoCard : Claim7 := { stood := { row := partAllUptoRow, standIns := [], harness := (true, "d2045935843f912a5416da6ed0c63602236fe5d35367b64b9aac5c0c39efebb0"), looks := false }, kinds := [], alts := [], laidByText := true, laidKinds := [.data, .pinned], laidTests := true, laidLooks := .later }
def PartAllUptoCardSaid : Prop := Claim7.holds Tryd.pinned (.plain (OpenSpec.upto partAllSpec)) partAllUptoCard
end Rows
end Go.Proofs.YteamiiekpjoclaaDoor
