/-
  NARROWER THAN 'FOR EVERY INPUT', by the rows' own cells (each row's printed sentence says how): SegmentAll: laid · SegmentTorn: laid · SegmentMore: laid · SegmentSizes: laid · SegmentKinds: laid.
  DERIVED. THE GIVEN ROWS OF THIS SEAT. 5 by the template 'for every input the law returns true; each argument reads behind the call as it read before'; 0 by the template 'total and deterministic' (their statements: YthhhbmeceilkhaaDoorTotals.lean).
  GIVEN WITH THE SEED: the statements are not yours to turn. If you find one false, say at which input.
  Laid BY PROGRAM, IN A SANDBOX (cutbox-rows.mjs): the forced cells as the released guide's own fill.sh prints them over the translation 5901b860c060c209… (all of the seat's roots in one cut). By AI agents, Wed Nov 11 2026. No macro, syntax, notation, axiom, sorry.
-/
import Derived.Test.YthhhbmeceilkhaaDoorChecked
import GoSem.PinnedTables
import GoSem.Claim
import GoSem.ClaimJoined
import GoSem.ClaimMapViews
import Derived.JoinedTies
import Derived.KernelRfl
namespace Go.Proofs.YthhhbmeceilkhaaDoor
/- THE CELL 'sum', in the pinned program and in every row, IS THE sha256 OF THE DUMP (.gsa) THAT YthhhbmeceilkhaaDoorProg.lean LOADS. Nothing in Lean hashes anything: it is a label: what it is worth is what the hold of that sum in a sandbox is worth. -/
noncomputable def Tryd.pinned : Pinned := { name := "ythhhbmeceilkhaadoor", sum := "5901b860c060c2093953b4b5c0edca901471e21704638fc5ed1fa51879160ee6", checked := Tryd.checked }
namespace Rows
def none {H : Type} : Left H := { results := [], args := [] }

/- WHAT THE LISTED PACKAGE-LEVEL VARIABLES READ AS WHEN THE CALL BEGINS. Each datum BY PROGRAM (the guide's laid-datum.mjs) off the statement by which the dump's own 'gosem.cut.vars' lays the variable. In a bare row this is a premise. The card (YthhhbmeceilkhaaDoorCards.lean) ties it to the program's text. -/
def laid_unicode_utf8_acceptRanges {H : Type} : DataW H := .agg [.agg [.lit (.int .u8 128), .lit (.int .u8 191)], .agg [.lit (.int .u8 160), .lit (.int .u8 191)], .agg [.lit (.int .u8 128), .lit (.int .u8 159)], .agg [.lit (.int .u8 144), .lit (.int .u8 191)], .agg [.lit (.int .u8 128), .lit (.int .u8 143)], .agg [.lit (.int .u8 0), .lit (.int .u8 0)], .agg [.lit (.int .u8 0), .lit (.int .u8 0)], .agg [.lit (.int .u8 0), .lit (.int .u8 0)], .agg [.lit (.int .u8 0), .lit (.int .u8 0)], .agg [.lit (.int .u8 0), .lit (.int .u8 0)], .agg [.lit (.int .u8 0), .lit (.int .u8 0)], .agg [.lit (.int .u8 0), .lit (.int .u8 0)], .agg [.lit (.int .u8 0), .lit (.int .u8 0)], .agg [.lit (.int .u8 0), .lit (.int .u8 0)], .agg [.lit (.int .u8 0), .lit (.int .u8 0)], .agg [.lit (.int .u8 0), .lit (.int .u8 0)]]
/-- One of Go's own tables, pinned by name: the form's constant. -/
def laid_unicode_utf8_first : DataW Unit := Go.Pinned.utf8First

/-- 'clerestorylaw04.SegmentAll': WHATEVER THE INPUT: true; the input reads as it did. -/
def segmentAllSpec : ChangeSpec := { name := "segmentAll", fn := fun _ => fun
  | [d1, d2] => { results := [.lit (.bool true)], args := [d1, d2] }
  | _ => none }
def segmentAllRow : OpenClaim := { program := "ythhhbmeceilkhaadoor", sum := "5901b860c060c2093953b4b5c0edca901471e21704638fc5ed1fa51879160ee6", func := "clerestory/clerestorylaw04.SegmentAll", spec := "segmentAll", inPlace := ["internal/bytealg.IndexByteString", "internal/bytealg.IndexString", "internal/abi.NoEscape"], unfollowed := true, recurses := true, named := ["unicode/utf8.first", "unicode/utf8.acceptRanges", "internal/bytealg.MaxLen"], apart := false, laid := [("unicode/utf8.acceptRanges", laid_unicode_utf8_acceptRanges), ("unicode/utf8.first", laid_unicode_utf8_first)] }
def SegmentAllSaid : Prop := segmentAllRow.holds Tryd.pinned (OpenSpec.ofChange segmentAllSpec)

/-- ITS FALSE NEIGHBOUR: 'it returns false'. Refute it at one input. -/
def segmentAllWrong : ChangeSpec := { name := "segmentAll", fn := fun _ => fun
  | [d1, d2] => { results := [.lit (.bool false)], args := [d1, d2] }
  | _ => none }
def SegmentAllWrongFalsely : Prop := segmentAllRow.holds Tryd.pinned (OpenSpec.ofChange segmentAllWrong)

/-- 'clerestorylaw04.SegmentTorn': WHATEVER THE INPUT: true; the input reads as it did. -/
def segmentTornSpec : ChangeSpec := { name := "segmentTorn", fn := fun _ => fun
  | [d1, d2, d3, d4] => { results := [.lit (.bool true)], args := [d1, d2, d3, d4] }
  | _ => none }
def segmentTornRow : OpenClaim := { program := "ythhhbmeceilkhaadoor", sum := "5901b860c060c2093953b4b5c0edca901471e21704638fc5ed1fa51879160ee6", func := "clerestory/clerestorylaw04.SegmentTorn", spec := "segmentTorn", inPlace := ["internal/bytealg.IndexByteString", "internal/bytealg.IndexString", "internal/abi.NoEscape"], unfollowed := true, recurses := true, named := ["unicode/utf8.first", "unicode/utf8.acceptRanges", "internal/bytealg.MaxLen"], apart := false, laid := [("unicode/utf8.acceptRanges", laid_unicode_utf8_acceptRanges), ("unicode/utf8.first", laid_unicode_utf8_first)] }
def SegmentTornSaid : Prop := segmentTornRow.holds Tryd.pinned (OpenSpec.ofChange segmentTornSpec)

/-- ITS FALSE NEIGHBOUR: 'it returns false'. Refute it at one input. -/
def segmentTornWrong : ChangeSpec := { name := "segmentTorn", fn := fun _ => fun
  | [d1, d2, d3, d4] => { results := [.lit (.bool false)], args := [d1, d2, d3, d4] }
  | _ => none }
def SegmentTornWrongFalsely : Prop := segmentTornRow.holds Tryd.pinned (OpenSpec.ofChange segmentTornWrong)

/-- 'clerestorylaw04.SegmentMore': WHATEVER THE INPUT: true; the input reads as it did. -/
def segmentMoreSpec : ChangeSpec := { name := "segmentMore", fn := fun _ => fun
  | [d1, d2, d3] => { results := [.lit (.bool true)], args := [d1, d2, d3] }
  | _ => none }
def segmentMoreRow : OpenClaim := { program := "ythhhbmeceilkhaadoor", sum := "5901b860c060c2093953b4b5c0edca901471e21704638fc5ed1fa51879160ee6", func := "clerestory/clerestorylaw04.SegmentMore", spec := "segmentMore", inPlace := ["internal/bytealg.IndexByteString", "internal/bytealg.IndexString", "internal/abi.NoEscape"], unfollowed := true, recurses := true, named := ["unicode/utf8.first", "unicode/utf8.acceptRanges", "internal/bytealg.MaxLen"], apart := false, laid := [("unicode/utf8.acceptRanges", laid_unicode_utf8_acceptRanges), ("unicode/utf8.first", laid_unicode_utf8_first)] }
def SegmentMoreSaid : Prop := segmentMoreRow.holds Tryd.pinned (OpenSpec.ofChange segmentMoreSpec)

/-- ITS FALSE NEIGHBOUR: 'it returns false'. Refute it at one input. -/
def segmentMoreWrong : ChangeSpec := { name := "segmentMore", fn := fun _ => fun
  | [d1, d2, d3] => { results := [.lit (.bool false)], args := [d1, d2, d3] }
  | _ => none }
def SegmentMoreWrongFalsely : Prop := segmentMoreRow.holds Tryd.pinned (OpenSpec.ofChange segmentMoreWrong)

/-- 'clerestorylaw04.SegmentSizes': WHATEVER THE INPUT: true; the input reads as it did. -/
def segmentSizesSpec : ChangeSpec := { name := "segmentSizes", fn := fun _ => fun
  | [d1, d2] => { results := [.lit (.bool true)], args := [d1, d2] }
  | _ => none }
def segmentSizesRow : OpenClaim := { program := "ythhhbmeceilkhaadoor", sum := "5901b860c060c2093953b4b5c0edca901471e21704638fc5ed1fa51879160ee6", func := "clerestory/clerestorylaw04.SegmentSizes", spec := "segmentSizes", inPlace := ["internal/bytealg.IndexByteString", "internal/bytealg.IndexString", "internal/abi.NoEscape"], unfollowed := true, recurses := true, named := ["unicode/utf8.first", "unicode/utf8.acceptRanges", "internal/bytealg.MaxLen"], apart := false, laid := [("unicode/utf8.acceptRanges", laid_unicode_utf8_acceptRanges), ("unicode/utf8.first", laid_unicode_utf8_first)] }
def SegmentSizesSaid : Prop := segmentSizesRow.holds Tryd.pinned (OpenSpec.ofChange segmentSizesSpec)

/-- ITS FALSE NEIGHBOUR: 'it returns false'. Refute it at one input. -/
def segmentSizesWrong : ChangeSpec := { name := "segmentSizes", fn := fun _ => fun
  | [d1, d2] => { results := [.lit (.bool false)], args := [d1, d2] }
  | _ => none }
def SegmentSizesWrongFalsely : Prop := segmentSizesRow.holds Tryd.pinned (OpenSpec.ofChange segmentSizesWrong)

/-- 'clerestorylaw04.SegmentKinds': WHATEVER THE INPUT: true; the input reads as it did. -/
def segmentKindsSpec : ChangeSpec := { name := "segmentKinds", fn := fun _ => fun
  | [d1, d2] => { results := [.lit (.bool true)], args := [d1, d2] }
  | _ => none }
def segmentKindsRow : OpenClaim := { program := "ythhhbmeceilkhaadoor", sum := "5901b860c060c2093953b4b5c0edca901471e21704638fc5ed1fa51879160ee6", func := "clerestory/clerestorylaw04.SegmentKinds", spec := "segmentKinds", inPlace := ["internal/bytealg.IndexByteString", "internal/bytealg.IndexString", "internal/abi.NoEscape"], unfollowed := true, recurses := true, named := ["unicode/utf8.first", "unicode/utf8.acceptRanges", "internal/bytealg.MaxLen"], apart := false, laid := [("unicode/utf8.acceptRanges", laid_unicode_utf8_acceptRanges), ("unicode/utf8.first", laid_unicode_utf8_first)] }
def SegmentKindsSaid : Prop := segmentKindsRow.holds Tryd.pinned (OpenSpec.ofChange segmentKindsSpec)

/-- ITS FALSE NEIGHBOUR: 'it returns false'. Refute it at one input. -/
def segmentKindsWrong : ChangeSpec := { name := "segmentKinds", fn := fun _ => fun
  | [d1, d2] => { results := [.lit (.bool false)], args := [d1, d2] }
  | _ => none }
def SegmentKindsWrongFalsely : Prop := segmentKindsRow.holds Tryd.pinned (OpenSpec.ofChange segmentKindsWrong)

/- THE SECOND FORM. 'bulk': how many values and letters a reading holds, each counted each time it is reached (what is shared counts as often as it is met; a slice's spare places count too). A statement '..UptoSaid' is the law's where the arguments, and the package variables that the reading takes, are together of bulk at most 1048576: NARROWER than '..Said'. Prove '..Said' where nothing that the law and all that it calls make is longer than what came in: it says more and counts as full. Else prove '..UptoSaid'. A law counts once. -/
mutual
def uptoBulk {H : Type} : DataW H → Nat
  | .lit (.string bytes) => bytes.length + 1
  | .lit _ => 1
  | .nil => 1
  | .ptr d => uptoBulk d + 1
  | .slice elems spare => uptoBulkAll elems + uptoBulkAll spare + 1
  | .agg parts => uptoBulkAll parts + 1
  | .iface _ d => uptoBulk d + 1
  | .map entries => uptoBulkEntries entries + 1
  | .held _ => 1
def uptoBulkAll {H : Type} : List (DataW H) → Nat
  | [] => 0
  | d :: r => uptoBulk d + uptoBulkAll r
def uptoBulkEntries {H : Type} : List (Lit × DataW H) → Nat
  | [] => 0
  | x :: r => uptoBulkEntry x + uptoBulkEntries r
def uptoBulkEntry {H : Type} : Lit × DataW H → Nat
  | (.string bytes, d) => bytes.length + uptoBulk d + 1
  | (_, d) => uptoBulk d + 1
 end
def uptoSmall : (H : Type) → List (DataW H) → Bool := fun _ ds => decide (uptoBulkAll ds ≤ 1048576)
def OpenSpec.upto (s : _root_.Go.ChangeSpec) : _root_.Go.OpenSpec := { _root_.Go.OpenSpec.ofChange s with cond := some uptoSmall }

/-- 'clerestorylaw04.SegmentAll', WHERE WHAT IT READS IS OF BULK AT MOST 1048576: true; the input reads as it did. -/
def segmentAllUptoRow : OpenClaim := { program := "ythhhbmeceilkhaadoor", sum := "5901b860c060c2093953b4b5c0edca901471e21704638fc5ed1fa51879160ee6", func := "clerestory/clerestorylaw04.SegmentAll", spec := "segmentAll", inPlace := ["internal/bytealg.IndexByteString", "internal/bytealg.IndexString", "internal/abi.NoEscape"], unfollowed := true, recurses := true, named := ["unicode/utf8.first", "unicode/utf8.acceptRanges", "internal/bytealg.MaxLen"], apart := false, laid := [("unicode/utf8.acceptRanges", laid_unicode_utf8_acceptRanges), ("unicode/utf8.first", laid_unicode_utf8_first)], narrowed := true }
def SegmentAllUptoSaid : Prop := segmentAllUptoRow.holds Tryd.pinned (OpenSpec.upto segmentAllSpec)

/-- 'clerestorylaw04.SegmentTorn', WHERE WHAT IT READS IS OF BULK AT MOST 1048576: true; the input reads as it did. -/
def segmentTornUptoRow : OpenClaim := { program := "ythhhbmeceilkhaadoor", sum := "5901b860c060c2093953b4b5c0edca901471e21704638fc5ed1fa51879160ee6", func := "clerestory/clerestorylaw04.SegmentTorn", spec := "segmentTorn", inPlace := ["internal/bytealg.IndexByteString", "internal/bytealg.IndexString", "internal/abi.NoEscape"], unfollowed := true, recurses := true, named := ["unicode/utf8.first", "unicode/utf8.acceptRanges", "internal/bytealg.MaxLen"], apart := false, laid := [("unicode/utf8.acceptRanges", laid_unicode_utf8_acceptRanges), ("unicode/utf8.first", laid_unicode_utf8_first)], narrowed := true }
def SegmentTornUptoSaid : Prop := segmentTornUptoRow.holds Tryd.pinned (OpenSpec.upto segmentTornSpec)

/-- 'clerestorylaw04.SegmentMore', WHERE WHAT IT READS IS OF BULK AT MOST 1048576: true; the input reads as it did. -/
def segmentMoreUptoRow : OpenClaim := { program := "ythhhbmeceilkhaadoor", sum := "5901b860c060c2093953b4b5c0edca901471e21704638fc5ed1fa51879160ee6", func := "clerestory/clerestorylaw04.SegmentMore", spec := "segmentMore", inPlace := ["internal/bytealg.IndexByteString", "internal/bytealg.IndexString", "internal/abi.NoEscape"], unfollowed := true, recurses := true, named := ["unicode/utf8.first", "unicode/utf8.acceptRanges", "internal/bytealg.MaxLen"], apart := false, laid := [("unicode/utf8.acceptRanges", laid_unicode_utf8_acceptRanges), ("unicode/utf8.first", laid_unicode_utf8_first)], narrowed := true }
def SegmentMoreUptoSaid : Prop := segmentMoreUptoRow.holds Tryd.pinned (OpenSpec.upto segmentMoreSpec)

/-- 'clerestorylaw04.SegmentSizes', WHERE WHAT IT READS IS OF BULK AT MOST 1048576: true; the input reads as it did. -/
def segmentSizesUptoRow : OpenClaim := { program := "ythhhbmeceilkhaadoor", sum := "5901b860c060c2093953b4b5c0edca901471e21704638fc5ed1fa51879160ee6", func := "clerestory/clerestorylaw04.SegmentSizes", spec := "segmentSizes", inPlace := ["internal/bytealg.IndexByteString", "internal/bytealg.IndexString", "internal/abi.NoEscape"], unfollowed := true, recurses := true, named := ["unicode/utf8.first", "unicode/utf8.acceptRanges", "internal/bytealg.MaxLen"], apart := false, laid := [("unicode/utf8.acceptRanges", laid_unicode_utf8_acceptRanges), ("unicode/utf8.first", laid_unicode_utf8_first)], narrowed := true }
def SegmentSizesUptoSaid : Prop := segmentSizesUptoRow.holds Tryd.pinned (OpenSpec.upto segmentSizesSpec)

/-- 'clerestorylaw04.SegmentKinds', WHERE WHAT IT READS IS OF BULK AT MOST 1048576: true; the input reads as it did. -/
def segmentKindsUptoRow : OpenClaim := { program := "ythhhbmeceilkhaadoor", sum := "5901b860c060c2093953b4b5c0edca901471e21704638fc5ed1fa51879160ee6", func := "clerestory/clerestorylaw04.SegmentKinds", spec := "segmentKinds", inPlace := ["internal/bytealg.IndexByteString", "internal/bytealg.IndexString", "internal/abi.NoEscape"], unfollowed := true, recurses := true, named := ["unicode/utf8.first", "unicode/utf8.acceptRanges", "internal/bytealg.MaxLen"], apart := false, laid := [("unicode/utf8.acceptRanges", laid_unicode_utf8_acceptRanges), ("unicode/utf8.first", laid_unicode_utf8_first)], narrowed := true }
def SegmentKindsUptoSaid : Prop := segmentKindsUptoRow.holds Tryd.pinned (OpenSpec.upto segmentKindsSpec)

end Rows
end Go.Proofs.YthhhbmeceilkhaaDoor
