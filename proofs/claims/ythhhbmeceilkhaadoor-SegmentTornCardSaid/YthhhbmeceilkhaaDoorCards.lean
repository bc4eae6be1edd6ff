/-
  DERIVED. GIVEN WITH THE SEED: THE CARDS: each row of YthhhbmeceilkhaaDoorRows.lean that lists a variable, with what it lists TIED to the program's text (the seventh form; the later family's looks); each row that meets fmt, with fmt's text TOLD by the authors' own Lean function (tested against real Go, not proved from fmt's source: count such statements apart). THE CARD IS WHAT COUNTS. Prove the row's statement (the work); the ties are given (YthhhbmeceilkhaaDoorTie.lean); close each card by the builder's one call (the guide's Derived/Test/ToyasCard.lean, 'card_holds'). Laid BY PROGRAM, IN A SANDBOX (cutbox-door.mjs). By AI agents, Wed Nov 11 2026. No macro, syntax, notation, axiom, sorry.
-/
import Derived.Test.YthhhbmeceilkhaaDoorRows
import GoSem.ClaimSeven
namespace Go.Proofs.YthhhbmeceilkhaaDoor
namespace Rows

/-- THE TIED CARD OF 'clerestorylaw04.SegmentAll'. -/
def segmentAllCard : Claim7 := { stood := { row := segmentAllRow, standIns := [], harness := (true, "7a9e676bcdd992fd0f9fd59d8aa422d119a1442c5919f4f6d4bf56085c35d503"), looks := false }, kinds := [], alts := [], laidByText := true, laidKinds := [.data, .pinned], laidTests := true, laidLooks := .later }
def SegmentAllCardSaid : Prop := Claim7.holds Tryd.pinned (.plain (OpenSpec.ofChange segmentAllSpec)) segmentAllCard

/-- THE TIED CARD OF 'clerestorylaw04.SegmentTorn'. -/
def segmentTornCard : Claim7 := { stood := { row := segmentTornRow, standIns := [], harness := (true, "7a9e676bcdd992fd0f9fd59d8aa422d119a1442c5919f4f6d4bf56085c35d503"), looks := false }, kinds := [], alts := [], laidByText := true, laidKinds := [.data, .pinned], laidTests := true, laidLooks := .later }
def SegmentTornCardSaid : Prop := Claim7.holds Tryd.pinned (.plain (OpenSpec.ofChange segmentTornSpec)) segmentTornCard

/-- THE TIED CARD OF 'clerestorylaw04.SegmentMore'. -/
def segmentMoreCard : Claim7 := { stood := { row := segmentMoreRow, standIns := [], harness := (true, "7a9e676bcdd992fd0f9fd59d8aa422d119a1442c5919f4f6d4bf56085c35d503"), looks := false }, kinds := [], alts := [], laidByText := true, laidKinds := [.data, .pinned], laidTests := true, laidLooks := .later }
def SegmentMoreCardSaid : Prop := Claim7.holds Tryd.pinned (.plain (OpenSpec.ofChange segmentMoreSpec)) segmentMoreCard

/-- THE TIED CARD OF 'clerestorylaw04.SegmentSizes'. -/
def segmentSizesCard : Claim7 := { stood := { row := segmentSizesRow, standIns := [], harness := (true, "7a9e676bcdd992fd0f9fd59d8aa422d119a1442c5919f4f6d4bf56085c35d503"), looks := false }, kinds := [], alts := [], laidByText := true, laidKinds := [.data, .pinned], laidTests := true, laidLooks := .later }
def SegmentSizesCardSaid : Prop := Claim7.holds Tryd.pinned (.plain (OpenSpec.ofChange segmentSizesSpec)) segmentSizesCard

/-- THE TIED CARD OF 'clerestorylaw04.SegmentKinds'. -/
def segmentKindsCard : Claim7 := { stood := { row := segmentKindsRow, standIns := [], harness := (true, "7a9e676bcdd992fd0f9fd59d8aa422d119a1442c5919f4f6d4bf56085c35d503"), looks := false }, kinds := [], alts := [], laidByText := true, laidKinds := [.data, .pinned], laidTests := true, laidLooks := .later }
def SegmentKindsCardSaid : Prop := Claim7.holds Tryd.pinned (.plain (OpenSpec.ofChange segmentKindsSpec)) segmentKindsCard

/-- THE SECOND FORM's CARD OF 'clerestorylaw04.SegmentAll'. -/
def segmentAllUptoCard : Claim7 := { stood := { row := segmentAllUptoRow, standIns := [], harness := (true, "7a9e676bcdd992fd0f9fd59d8aa422d119a1442c5919f4f6d4bf56085c35d503"), looks := false }, kinds := [], alts := [], laidByText := true, laidKinds := [.data, .pinned], laidTests := true, laidLooks := .later }
def SegmentAllUptoCardSaid : Prop := Claim7.holds Tryd.pinned (.plain (OpenSpec.upto segmentAllSpec)) segmentAllUptoCard

/-- THE SECOND FORM's CARD OF 'clerestorylaw04.SegmentTorn'. -/
def segmentTornUptoCard : Claim7 := { stood := { row := segmentTornUptoRow, standIns := [], harness := (true, "7a9e676bcdd992fd0f9fd59d8aa422d119a1442c5919f4f6d4bf56085c35d503"), looks := false }, kinds := [], alts := [], laidByText := true, laidKinds := [.data, .pinned], laidTests := true, laidLooks := .later }
def SegmentTornUptoCardSaid : Prop := Claim7.holds Tryd.pinned (.plain (OpenSpec.upto segmentTornSpec)) segmentTornUptoCard

/-- THE SECOND FORM's CARD OF 'clerestorylaw04.SegmentMore'. -/
def segmentMoreUptoCard : Claim7 := { stood := { row := segmentMoreUptoRow, standIns := [], harness := (true, "7a9e676bcdd992fd0f9fd59d8aa422d119a1442c5919f4f6d4bf56085c35d503"), looks := false }, kinds := [], alts := [], laidByText := true, laidKinds := [.data, .pinned], laidTests := true, laidLooks := .later }
def SegmentMoreUptoCardSaid : Prop := Claim7.holds Tryd.pinned (.plain (OpenSpec.upto segmentMoreSpec)) segmentMoreUptoCard

/-- THE SECOND FORM's CARD OF 'clerestorylaw04.SegmentSizes'. -/
def segmentSizesUptoCard : Claim7 := { stood := { row := segmentSizesUptoRow, standIns := [], harness := (true, "7a9e676bcdd992fd0f9fd59d8aa422d119a1442c5919f4f6d4bf56085c35d503"), looks := false }, kinds := [], alts := [], laidByText := true, laidKinds := [.data, .pinned], laidTests := true, laidLooks := .later }
def SegmentSizesUptoCardSaid : Prop := Claim7.holds Tryd.pinned (.plain (OpenSpec.upto segmentSizesSpec)) segmentSizesUptoCard

/-- THE SECOND FORM's CARD OF 'clerestorylaw04.SegmentKinds'. -/
def segmentKindsUptoCard : Claim7 := { stood := { row := segmentKindsUptoRow, standIns := [], harness := (true, "7a9e676bcdd992fd0f9fd59d8aa422d119a1442c5919f4f6d4bf56085c35d503"), looks := false }, kinds := [], alts := [], laidByText := true, laidKinds := [.data, .pinned], laidTests := true, laidLooks := .later }
def SegmentKindsUptoCardSaid : Prop := Claim7.holds Tryd.pinned (.plain (OpenSpec.upto segmentKindsSpec)) segmentKindsUptoCard
end Rows
end Go.Proofs.YthhhbmeceilkhaaDoor
