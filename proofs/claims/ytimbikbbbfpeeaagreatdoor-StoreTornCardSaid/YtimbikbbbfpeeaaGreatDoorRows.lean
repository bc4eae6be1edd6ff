/-
  NARROWER THAN 'FOR EVERY INPUT', by the rows' own cells (each row's printed sentence says how): StoreTorn: laid · StoreNotes: laid · StoreFlushes: laid · StoreRooms: laid · StoreNumbers: laid.
  DERIVED. THE GIVEN ROWS OF THIS SEAT. 5 by the template 'for every input the law returns true; each argument reads behind the call as it read before'; 0 by the template 'total and deterministic' (their statements: YtimbikbbbfpeeaaGreatDoorTotals.lean).
  GIVEN WITH THE SEED: the statements are not yours to turn. If you find one false, say at which input.
  Laid BY PROGRAM, IN A SANDBOX (cutbox-rows.mjs): the forced cells as the released guide's own fill.sh prints them over the translation 380f500d076354c0… (all of the seat's roots in one cut). By AI agents, Wed Nov 11 2026. No macro, syntax, notation, axiom, sorry.
-/
import Derived.Test.YtimbikbbbfpeeaaGreatDoorChecked
import GoSem.PinnedTables
import GoSem.Claim
import GoSem.ClaimJoined
import GoSem.ClaimMapViews
import Derived.JoinedTies
import Derived.KernelRfl
namespace Go.Proofs.YtimbikbbbfpeeaaGreatDoor
/- THE CELL 'sum', in the pinned program and in every row, IS THE sha256 OF THE DUMP (.gsa) THAT YtimbikbbbfpeeaaGreatDoorProg.lean LOADS. Nothing in Lean hashes anything: it is a label: what it is worth is what the hold of that sum in a sandbox is worth. -/
noncomputable def Tryz.pinned : Pinned := { name := "ytimbikbbbfpeeaagreatdoor", sum := "380f500d076354c0006ef636b685b3941342bd65de96b9928ac80baa535c7004", checked := Tryz.checked }
namespace Rows
def none {H : Type} : Left H := { results := [], args := [] }

/- WHAT THE LISTED PACKAGE-LEVEL VARIABLES READ AS WHEN THE CALL BEGINS. Each datum BY PROGRAM (the guide's laid-datum.mjs) off the statement by which the dump's own 'gosem.cut.vars' lays the variable. In a bare row this is a premise. The card (YtimbikbbbfpeeaaGreatDoorCards.lean) ties it to the program's text. -/
def laid_unicode_utf8_acceptRanges {H : Type} : DataW H := .agg [.agg [.lit (.int .u8 128), .lit (.int .u8 191)], .agg [.lit (.int .u8 160), .lit (.int .u8 191)], .agg [.lit (.int .u8 128), .lit (.int .u8 159)], .agg [.lit (.int .u8 144), .lit (.int .u8 191)], .agg [.lit (.int .u8 128), .lit (.int .u8 143)], .agg [.lit (.int .u8 0), .lit (.int .u8 0)], .agg [.lit (.int .u8 0), .lit (.int .u8 0)], .agg [.lit (.int .u8 0), .lit (.int .u8 0)], .agg [.lit (.int .u8 0), .lit (.int .u8 0)], .agg [.lit (.int .u8 0), .lit (.int .u8 0)], .agg [.lit (.int .u8 0), .lit (.int .u8 0)], .agg [.lit (.int .u8 0), .lit (.int .u8 0)], .agg [.lit (.int .u8 0), .lit (.int .u8 0)], .agg [.lit (.int .u8 0), .lit (.int .u8 0)], .agg [.lit (.int .u8 0), .lit (.int .u8 0)], .agg [.lit (.int .u8 0), .lit (.int .u8 0)]]
/-- One of Go's own tables, pinned by name: the form's constant. -/
def laid_unicode_utf8_first : DataW Unit := Go.Pinned.utf8First

/-- 'clerestorylaw12.StoreTorn': WHATEVER THE INPUT: true; the input reads as it did. -/
def storeTornSpec : ChangeSpec := { name := "storeTorn", fn := fun _ => fun
  | [d1, d2, d3] => { results := [.lit (.bool true)], args := [d1, d2, d3] }
  | _ => none }
def storeTornRow : OpenClaim := { program := "ytimbikbbbfpeeaagreatdoor", sum := "380f500d076354c0006ef636b685b3941342bd65de96b9928ac80baa535c7004", func := "clerestory/clerestorylaw12.StoreTorn", spec := "storeTorn", inPlace := ["internal/bytealg.abigen_runtime_cmpstring", "internal/reflectlite.TypeOf", "internal/bytealg.IndexByteString", "internal/bytealg.IndexString", "internal/abi.NoEscape", "maps.clone"], unfollowed := true, recurses := true, named := ["unicode/utf8.first", "unicode/utf8.acceptRanges", "internal/bytealg.MaxLen"], apart := false, laid := [("unicode/utf8.acceptRanges", laid_unicode_utf8_acceptRanges), ("unicode/utf8.first", laid_unicode_utf8_first)] }
def StoreTornSaid : Prop := storeTornRow.holds Tryz.pinned (OpenSpec.ofChange storeTornSpec)

/-- ITS FALSE NEIGHBOUR: 'it returns false'. Refute it at one input. -/
def storeTornWrong : ChangeSpec := { name := "storeTorn", fn := fun _ => fun
  | [d1, d2, d3] => { results := [.lit (.bool false)], args := [d1, d2, d3] }
  | _ => none }
def StoreTornWrongFalsely : Prop := storeTornRow.holds Tryz.pinned (OpenSpec.ofChange storeTornWrong)

/-- 'clerestorylaw12.StoreNotes': WHATEVER THE INPUT: true; the input reads as it did. -/
def storeNotesSpec : ChangeSpec := { name := "storeNotes", fn := fun _ => fun
  | [d] => { results := [.lit (.bool true)], args := [d] }
  | _ => none }
def storeNotesRow : OpenClaim := { program := "ytimbikbbbfpeeaagreatdoor", sum := "380f500d076354c0006ef636b685b3941342bd65de96b9928ac80baa535c7004", func := "clerestory/clerestorylaw12.StoreNotes", spec := "storeNotes", inPlace := ["internal/bytealg.abigen_runtime_cmpstring", "internal/reflectlite.TypeOf", "internal/bytealg.IndexByteString", "internal/bytealg.IndexString", "internal/abi.NoEscape", "maps.clone"], unfollowed := true, recurses := true, named := ["unicode/utf8.first", "unicode/utf8.acceptRanges", "internal/bytealg.MaxLen"], apart := false, laid := [("unicode/utf8.acceptRanges", laid_unicode_utf8_acceptRanges), ("unicode/utf8.first", laid_unicode_utf8_first)] }
def StoreNotesSaid : Prop := storeNotesRow.holds Tryz.pinned (OpenSpec.ofChange storeNotesSpec)

/-- ITS FALSE NEIGHBOUR: 'it returns false'. Refute it at one input. -/
def storeNotesWrong : ChangeSpec := { name := "storeNotes", fn := fun _ => fun
  | [d] => { results := [.lit (.bool false)], args := [d] }
  | _ => none }
def StoreNotesWrongFalsely : Prop := storeNotesRow.holds Tryz.pinned (OpenSpec.ofChange storeNotesWrong)

/-- 'clerestorylaw12.StoreFlushes': WHATEVER THE INPUT: true; the input reads as it did. -/
def storeFlushesSpec : ChangeSpec := { name := "storeFlushes", fn := fun _ => fun
  | [d1, d2, d3] => { results := [.lit (.bool true)], args := [d1, d2, d3] }
  | _ => none }
def storeFlushesRow : OpenClaim := { program := "ytimbikbbbfpeeaagreatdoor", sum := "380f500d076354c0006ef636b685b3941342bd65de96b9928ac80baa535c7004", func := "clerestory/clerestorylaw12.StoreFlushes", spec := "storeFlushes", inPlace := ["internal/bytealg.abigen_runtime_cmpstring", "internal/reflectlite.TypeOf", "internal/bytealg.IndexByteString", "internal/bytealg.IndexString", "internal/abi.NoEscape", "maps.clone"], unfollowed := true, recurses := true, named := ["unicode/utf8.first", "unicode/utf8.acceptRanges", "internal/bytealg.MaxLen"], apart := false, laid := [("unicode/utf8.acceptRanges", laid_unicode_utf8_acceptRanges), ("unicode/utf8.first", laid_unicode_utf8_first)] }
def StoreFlushesSaid : Prop := storeFlushesRow.holds Tryz.pinned (OpenSpec.ofChange storeFlushesSpec)

/-- ITS FALSE NEIGHBOUR: 'it returns false'. Refute it at one input. -/
def storeFlushesWrong : ChangeSpec := { name := "storeFlushes", fn := fun _ => fun
  | [d1, d2, d3] => { results := [.lit (.bool false)], args := [d1, d2, d3] }
  | _ => none }
def StoreFlushesWrongFalsely : Prop := storeFlushesRow.holds Tryz.pinned (OpenSpec.ofChange storeFlushesWrong)

/-- 'clerestorylaw12.StoreRooms': WHATEVER THE INPUT: true; the input reads as it did. -/
def storeRoomsSpec : ChangeSpec := { name := "storeRooms", fn := fun _ => fun
  | [d1, d2, d3] => { results := [.lit (.bool true)], args := [d1, d2, d3] }
  | _ => none }
def storeRoomsRow : OpenClaim := { program := "ytimbikbbbfpeeaagreatdoor", sum := "380f500d076354c0006ef636b685b3941342bd65de96b9928ac80baa535c7004", func := "clerestory/clerestorylaw12.StoreRooms", spec := "storeRooms", inPlace := ["internal/bytealg.abigen_runtime_cmpstring", "internal/reflectlite.TypeOf", "internal/bytealg.IndexByteString", "internal/bytealg.IndexString", "internal/abi.NoEscape", "maps.clone"], unfollowed := true, recurses := true, named := ["unicode/utf8.first", "unicode/utf8.acceptRanges", "internal/bytealg.MaxLen"], apart := false, laid := [("unicode/utf8.acceptRanges", laid_unicode_utf8_acceptRanges), ("unicode/utf8.first", laid_unicode_utf8_first)] }
def StoreRoomsSaid : Prop := storeRoomsRow.holds Tryz.pinned (OpenSpec.ofChange storeRoomsSpec)

/-- ITS FALSE NEIGHBOUR: 'it returns false'. Refute it at one input. -/
def storeRoomsWrong : ChangeSpec := { name := "storeRooms", fn := fun _ => fun
  | [d1, d2, d3] => { results := [.lit (.bool false)], args := [d1, d2, d3] }
  | _ => none }
def StoreRoomsWrongFalsely : Prop := storeRoomsRow.holds Tryz.pinned (OpenSpec.ofChange storeRoomsWrong)

/-- 'clerestorylaw12.StoreNumbers': WHATEVER THE INPUT: true; the input reads as it did. -/
def storeNumbersSpec : ChangeSpec := { name := "storeNumbers", fn := fun _ => fun
  | [d1, d2, d3, d4] => { results := [.lit (.bool true)], args := [d1, d2, d3, d4] }
  | _ => none }
def storeNumbersRow : OpenClaim := { program := "ytimbikbbbfpeeaagreatdoor", sum := "380f500d076354c0006ef636b685b3941342bd65de96b9928ac80baa535c7004", func := "clerestory/clerestorylaw12.StoreNumbers", spec := "storeNumbers", inPlace := ["internal/bytealg.abigen_runtime_cmpstring", "internal/reflectlite.TypeOf", "internal/bytealg.IndexByteString", "internal/bytealg.IndexString", "internal/abi.NoEscape", "maps.clone"], unfollowed := true, recurses := true, named := ["unicode/utf8.first", "unicode/utf8.acceptRanges", "internal/bytealg.MaxLen"], apart := false, laid := [("unicode/utf8.acceptRanges", laid_unicode_utf8_acceptRanges), ("unicode/utf8.first", laid_unicode_utf8_first)] }
def StoreNumbersSaid : Prop := storeNumbersRow.holds Tryz.pinned (OpenSpec.ofChange storeNumbersSpec)

/-- ITS FALSE NEIGHBOUR: 'it returns false'. Refute it at one input. -/
def storeNumbersWrong : ChangeSpec := { name := "storeNumbers", fn := fun _ => fun
  | [d1, d2, d3, d4] => { results := [.lit (.bool false)], args := [d1, d2, d3, d4] }
  | _ => none }
def StoreNumbersWrongFalsely : Prop := storeNumbersRow.holds Tryz.pinned (OpenSpec.ofChange storeNumbersWrong)

/- THE SECOND FORM. 'bulk': how many values and letters a reading holds, each counted each time it is reached (what is shared counts as often as it is met; a slice's spare places count too). A statement '..UptoSaid' is the law's where the arguments, and the package variables that the reading takes, are together of bulk at most 1048576: NARROWER than '..Said'. Prove '..Said' where nothing that the law and all that it calls make is longer than what came in: it says more and counts as full. Else prove '..UptoSaid'. A law counts once. -/
mutual
def uptoBulk {H : Type} : DataW H → Nat
  | .lit (.string bytes) => bytes.length + 1
  | .lit _ => 1
  | .nil => 1
  | .ptr d => uptoBulk d + 1
  | .slice elems spare => uptoBulkAll elems + uptoBulkAll spare + 1
  | .agg parts => uptoBulkAll parts + 1
  | .iface _ d => uptoBulk d + 1
  | .map entries => uptoBulkEntries entries + 1
  | .held _ => 1
def uptoBulkAll {H : Type} : List (DataW H) → Nat
  | [] => 0
  | d :: r => uptoBulk d + uptoBulkAll r
def uptoBulkEntries {H : Type} : List (Lit × DataW H) → Nat
  | [] => 0
  | x :: r => uptoBulkEntry x + uptoBulkEntries r
def uptoBulkEntry {H : Type} : Lit × DataW H → Nat
  | (.string bytes, d) => bytes.length + uptoBulk d + 1
  | (_, d) => uptoBulk d + 1
 end
def uptoSmall : (H : Type) → List (DataW H) → Bool := fun _ ds => decide (uptoBulkAll ds ≤ 1048576)
def OpenSpec.upto (s : _root_.Go.ChangeSpec) : _root_.Go.OpenSpec := { _root_.Go.OpenSpec.ofChange s with cond := some uptoSmall }

/-- 'clerestorylaw12.StoreTorn', WHERE WHAT IT READS IS OF BULK AT MOST 1048576: true; the input reads as it did. -/
def storeTornUptoRow : OpenClaim := { program := "ytimbikbbbfpeeaagreatdoor", sum := "380f500d076354c0006ef636b685b3941342bd65de96b9928ac80baa535c7004", func := "clerestory/clerestorylaw12.StoreTorn", spec := "storeTorn", inPlace := ["internal/bytealg.abigen_runtime_cmpstring", "internal/reflectlite.TypeOf", "internal/bytealg.IndexByteString", "internal/bytealg.IndexString", "internal/abi.NoEscape", "maps.clone"], unfollowed := true, recurses := true, named := ["unicode/utf8.first", "unicode/utf8.acceptRanges", "internal/bytealg.MaxLen"], apart := false, laid := [("unicode/utf8.acceptRanges", laid_unicode_utf8_acceptRanges), ("unicode/utf8.first", laid_unicode_utf8_first)], narrowed := true }
def StoreTornUptoSaid : Prop := storeTornUptoRow.holds Tryz.pinned (OpenSpec.upto storeTornSpec)

/-- 'clerestorylaw12.StoreNotes', WHERE WHAT IT READS IS OF BULK AT MOST 1048576: true; the input reads as it did. -/
def storeNotesUptoRow : OpenClaim := { program := "ytimbikbbbfpeeaagreatdoor", sum := "380f500d076354c0006ef636b685b3941342bd65de96b9928ac80baa535c7004", func := "clerestory/clerestorylaw12.StoreNotes", spec := "storeNotes", inPlace := ["internal/bytealg.abigen_runtime_cmpstring", "internal/reflectlite.TypeOf", "internal/bytealg.IndexByteString", "internal/bytealg.IndexString", "internal/abi.NoEscape", "maps.clone"], unfollowed := true, recurses := true, named := ["unicode/utf8.first", "unicode/utf8.acceptRanges", "internal/bytealg.MaxLen"], apart := false, laid := [("unicode/utf8.acceptRanges", laid_unicode_utf8_acceptRanges), ("unicode/utf8.first", laid_unicode_utf8_first)], narrowed := true }
def StoreNotesUptoSaid : Prop := storeNotesUptoRow.holds Tryz.pinned (OpenSpec.upto storeNotesSpec)

/-- 'clerestorylaw12.StoreFlushes', WHERE WHAT IT READS IS OF BULK AT MOST 1048576: true; the input reads as it did. -/
def storeFlushesUptoRow : OpenClaim := { program := "ytimbikbbbfpeeaagreatdoor", sum := "380f500d076354c0006ef636b685b3941342bd65de96b9928ac80baa535c7004", func := "clerestory/clerestorylaw12.StoreFlushes", spec := "storeFlushes", inPlace := ["internal/bytealg.abigen_runtime_cmpstring", "internal/reflectlite.TypeOf", "internal/bytealg.IndexByteString", "internal/bytealg.IndexString", "internal/abi.NoEscape", "maps.clone"], unfollowed := true, recurses := true, named := ["unicode/utf8.first", "unicode/utf8.acceptRanges", "internal/bytealg.MaxLen"], apart := false, laid := [("unicode/utf8.acceptRanges", laid_unicode_utf8_acceptRanges), ("unicode/utf8.first", laid_unicode_utf8_first)], narrowed := true }
def StoreFlushesUptoSaid : Prop := storeFlushesUptoRow.holds Tryz.pinned (OpenSpec.upto storeFlushesSpec)

/-- 'clerestorylaw12.StoreRooms', WHERE WHAT IT READS IS OF BULK AT MOST 1048576: true; the input reads as it did. -/
def storeRoomsUptoRow : OpenClaim := { program := "ytimbikbbbfpeeaagreatdoor", sum := "380f500d076354c0006ef636b685b3941342bd65de96b9928ac80baa535c7004", func := "clerestory/clerestorylaw12.StoreRooms", spec := "storeRooms", inPlace := ["internal/bytealg.abigen_runtime_cmpstring", "internal/reflectlite.TypeOf", "internal/bytealg.IndexByteString", "internal/bytealg.IndexString", "internal/abi.NoEscape", "maps.clone"], unfollowed := true, recurses := true, named := ["unicode/utf8.first", "unicode/utf8.acceptRanges", "internal/bytealg.MaxLen"], apart := false, laid := [("unicode/utf8.acceptRanges", laid_unicode_utf8_acceptRanges), ("unicode/utf8.first", laid_unicode_utf8_first)], narrowed := true }
def StoreRoomsUptoSaid : Prop := storeRoomsUptoRow.holds Tryz.pinned (OpenSpec.upto storeRoomsSpec)

/-- 'clerestorylaw12.StoreNumbers', WHERE WHAT IT READS IS OF BULK AT MOST 1048576: true; the input reads as it did. -/
def storeNumbersUptoRow : OpenClaim := { program := "ytimbikbbbfpeeaagreatdoor", sum := "380f500d076354c0006ef636b685b3941342bd65de96b9928ac80baa535c7004", func := "clerestory/clerestorylaw12.StoreNumbers", spec := "storeNumbers", inPlace := ["internal/bytealg.abigen_runtime_cmpstring", "internal/reflectlite.TypeOf", "internal/bytealg.IndexByteString", "internal/bytealg.IndexString", "internal/abi.NoEscape", "maps.clone"], unfollowed := true, recurses := true, named := ["unicode/utf8.first", "unicode/utf8.acceptRanges", "internal/bytealg.MaxLen"], apart := false, laid := [("unicode/utf8.acceptRanges", laid_unicode_utf8_acceptRanges), ("unicode/utf8.first", laid_unicode_utf8_first)], narrowed := true }
def StoreNumbersUptoSaid : Prop := storeNumbersUptoRow.holds Tryz.pinned (OpenSpec.upto storeNumbersSpec)

end Rows
end Go.Proofs.YtimbikbbbfpeeaaGreatDoor
