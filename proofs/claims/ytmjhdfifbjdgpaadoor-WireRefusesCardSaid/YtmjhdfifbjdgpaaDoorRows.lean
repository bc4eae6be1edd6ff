/-
  NARROWER THAN 'FOR EVERY INPUT', by the rows' own cells (each row's printed sentence says how): PackRefuses: laid · PackTurned: laid · PackAll: laid · PackBack: laid · PackNumbers: laid · WireRefuses: laid.
  DERIVED. THE GIVEN ROWS OF THIS SEAT. 6 by the template 'for every input the law returns true; each argument reads behind the call as it read before'; 0 by the template 'total and deterministic' (their statements: YtmjhdfifbjdgpaaDoorTotals.lean).
  GIVEN WITH THE SEED: the statements are not yours to turn. If you find one false, say at which input.
  Laid BY PROGRAM, IN A SANDBOX (cutbox-rows.mjs): the forced cells as the released guide's own fill.sh prints them over the translation d3051b385000c04c… (all of the seat's roots in one cut). By AI agents, Wed Nov 11 2026. No macro, syntax, notation, axiom, sorry.
-/
import Derived.Test.YtmjhdfifbjdgpaaDoorChecked
import GoSem.PinnedTables
import GoSem.Claim
import GoSem.ClaimJoined
import GoSem.ClaimMapViews
import Derived.JoinedTies
import Derived.KernelRfl
namespace Go.Proofs.YtmjhdfifbjdgpaaDoor
/- THE CELL 'sum', in the pinned program and in every row, IS THE sha256 OF THE DUMP (.gsa) THAT YtmjhdfifbjdgpaaDoorProg.lean LOADS. Nothing in Lean hashes anything: it is a label: what it is worth is what the hold of that sum in a sandbox is worth. -/
noncomputable def Tryd.pinned : Pinned := { name := "ytmjhdfifbjdgpaadoor", sum := "d3051b385000c04ceac09e280e5b7372128911771de21330a11130f96ce56171", checked := Tryd.checked }
namespace Rows
def none {H : Type} : Left H := { results := [], args := [] }

/- WHAT THE LISTED PACKAGE-LEVEL VARIABLES READ AS WHEN THE CALL BEGINS. Each datum BY PROGRAM (the guide's laid-datum.mjs) off the statement by which the dump's own 'gosem.cut.vars' lays the variable. In a bare row this is a premise. The card (YtmjhdfifbjdgpaaDoorCards.lean) ties it to the program's text. -/
def laid_unicode_utf8_acceptRanges {H : Type} : DataW H := .agg [.agg [.lit (.int .u8 128), .lit (.int .u8 191)], .agg [.lit (.int .u8 160), .lit (.int .u8 191)], .agg [.lit (.int .u8 128), .lit (.int .u8 159)], .agg [.lit (.int .u8 144), .lit (.int .u8 191)], .agg [.lit (.int .u8 128), .lit (.int .u8 143)], .agg [.lit (.int .u8 0), .lit (.int .u8 0)], .agg [.lit (.int .u8 0), .lit (.int .u8 0)], .agg [.lit (.int .u8 0), .lit (.int .u8 0)], .agg [.lit (.int .u8 0), .lit (.int .u8 0)], .agg [.lit (.int .u8 0), .lit (.int .u8 0)], .agg [.lit (.int .u8 0), .lit (.int .u8 0)], .agg [.lit (.int .u8 0), .lit (.int .u8 0)], .agg [.lit (.int .u8 0), .lit (.int .u8 0)], .agg [.lit (.int .u8 0), .lit (.int .u8 0)], .agg [.lit (.int .u8 0), .lit (.int .u8 0)], .agg [.lit (.int .u8 0), .lit (.int .u8 0)]]
/-- One of Go's own tables, pinned by name: the form's constant. -/
def laid_unicode_utf8_first : DataW Unit := Go.Pinned.utf8First

/-- 'clerestorylaw09.PackRefuses': WHATEVER THE INPUT: true; the input reads as it did. -/
def packRefusesSpec : ChangeSpec := { name := "packRefuses", fn := fun _ => fun
  | [d1, d2] => { results := [.lit (.bool true)], args := [d1, d2] }
  | _ => none }
def packRefusesRow : OpenClaim := { program := "ytmjhdfifbjdgpaadoor", sum := "d3051b385000c04ceac09e280e5b7372128911771de21330a11130f96ce56171", func := "clerestory/clerestorylaw09.PackRefuses", spec := "packRefuses", named := ["unicode/utf8.first", "unicode/utf8.acceptRanges"], apart := false, laid := [("unicode/utf8.acceptRanges", laid_unicode_utf8_acceptRanges), ("unicode/utf8.first", laid_unicode_utf8_first)] }
def PackRefusesSaid : Prop := packRefusesRow.holds Tryd.pinned (OpenSpec.ofChange packRefusesSpec)

/-- ITS FALSE NEIGHBOUR: 'it returns false'. Refute it at one input. -/
def packRefusesWrong : ChangeSpec := { name := "packRefuses", fn := fun _ => fun
  | [d1, d2] => { results := [.lit (.bool false)], args := [d1, d2] }
  | _ => none }
def PackRefusesWrongFalsely : Prop := packRefusesRow.holds Tryd.pinned (OpenSpec.ofChange packRefusesWrong)

/-- 'clerestorylaw09.PackTurned': WHATEVER THE INPUT: true; the input reads as it did. -/
def packTurnedSpec : ChangeSpec := { name := "packTurned", fn := fun _ => fun
  | [d1, d2, d3] => { results := [.lit (.bool true)], args := [d1, d2, d3] }
  | _ => none }
def packTurnedRow : OpenClaim := { program := "ytmjhdfifbjdgpaadoor", sum := "d3051b385000c04ceac09e280e5b7372128911771de21330a11130f96ce56171", func := "clerestory/clerestorylaw09.PackTurned", spec := "packTurned", unfollowed := true, recurses := true, named := ["unicode/utf8.first", "unicode/utf8.acceptRanges"], apart := false, laid := [("unicode/utf8.acceptRanges", laid_unicode_utf8_acceptRanges), ("unicode/utf8.first", laid_unicode_utf8_first)] }
def PackTurnedSaid : Prop := packTurnedRow.holds Tryd.pinned (OpenSpec.ofChange packTurnedSpec)

/-- ITS FALSE NEIGHBOUR: 'it returns false'. Refute it at one input. -/
def packTurnedWrong : ChangeSpec := { name := "packTurned", fn := fun _ => fun
  | [d1, d2, d3] => { results := [.lit (.bool false)], args := [d1, d2, d3] }
  | _ => none }
def PackTurnedWrongFalsely : Prop := packTurnedRow.holds Tryd.pinned (OpenSpec.ofChange packTurnedWrong)

/-- 'clerestorylaw09.PackAll': WHATEVER THE INPUT: true; the input reads as it did. -/
def packAllSpec : ChangeSpec := { name := "packAll", fn := fun _ => fun
  | [d1, d2, d3] => { results := [.lit (.bool true)], args := [d1, d2, d3] }
  | _ => none }
def packAllRow : OpenClaim := { program := "ytmjhdfifbjdgpaadoor", sum := "d3051b385000c04ceac09e280e5b7372128911771de21330a11130f96ce56171", func := "clerestory/clerestorylaw09.PackAll", spec := "packAll", unfollowed := true, recurses := true, named := ["unicode/utf8.first", "unicode/utf8.acceptRanges"], apart := false, laid := [("unicode/utf8.acceptRanges", laid_unicode_utf8_acceptRanges), ("unicode/utf8.first", laid_unicode_utf8_first)] }
def PackAllSaid : Prop := packAllRow.holds Tryd.pinned (OpenSpec.ofChange packAllSpec)

/-- ITS FALSE NEIGHBOUR: 'it returns false'. Refute it at one input. -/
def packAllWrong : ChangeSpec := { name := "packAll", fn := fun _ => fun
  | [d1, d2, d3] => { results := [.lit (.bool false)], args := [d1, d2, d3] }
  | _ => none }
def PackAllWrongFalsely : Prop := packAllRow.holds Tryd.pinned (OpenSpec.ofChange packAllWrong)

/-- 'clerestorylaw09.PackBack': WHATEVER THE INPUT: true; the input reads as it did. -/
def packBackSpec : ChangeSpec := { name := "packBack", fn := fun _ => fun
  | [d1, d2, d3, d4] => { results := [.lit (.bool true)], args := [d1, d2, d3, d4] }
  | _ => none }
def packBackRow : OpenClaim := { program := "ytmjhdfifbjdgpaadoor", sum := "d3051b385000c04ceac09e280e5b7372128911771de21330a11130f96ce56171", func := "clerestory/clerestorylaw09.PackBack", spec := "packBack", unfollowed := true, recurses := true, named := ["unicode/utf8.first", "unicode/utf8.acceptRanges"], apart := false, laid := [("unicode/utf8.acceptRanges", laid_unicode_utf8_acceptRanges), ("unicode/utf8.first", laid_unicode_utf8_first)] }
def PackBackSaid : Prop := packBackRow.holds Tryd.pinned (OpenSpec.ofChange packBackSpec)

/-- ITS FALSE NEIGHBOUR: 'it returns false'. Refute it at one input. -/
def packBackWrong : ChangeSpec := { name := "packBack", fn := fun _ => fun
  | [d1, d2, d3, d4] => { results := [.lit (.bool false)], args := [d1, d2, d3, d4] }
  | _ => none }
def PackBackWrongFalsely : Prop := packBackRow.holds Tryd.pinned (OpenSpec.ofChange packBackWrong)

/-- 'clerestorylaw09.PackNumbers': WHATEVER THE INPUT: true; the input reads as it did. -/
def packNumbersSpec : ChangeSpec := { name := "packNumbers", fn := fun _ => fun
  | [d1, d2, d3] => { results := [.lit (.bool true)], args := [d1, d2, d3] }
  | _ => none }
def packNumbersRow : OpenClaim := { program := "ytmjhdfifbjdgpaadoor", sum := "d3051b385000c04ceac09e280e5b7372128911771de21330a11130f96ce56171", func := "clerestory/clerestorylaw09.PackNumbers", spec := "packNumbers", unfollowed := true, recurses := true, named := ["unicode/utf8.first", "unicode/utf8.acceptRanges"], apart := false, laid := [("unicode/utf8.acceptRanges", laid_unicode_utf8_acceptRanges), ("unicode/utf8.first", laid_unicode_utf8_first)] }
def PackNumbersSaid : Prop := packNumbersRow.holds Tryd.pinned (OpenSpec.ofChange packNumbersSpec)

/-- ITS FALSE NEIGHBOUR: 'it returns false'. Refute it at one input. -/
def packNumbersWrong : ChangeSpec := { name := "packNumbers", fn := fun _ => fun
  | [d1, d2, d3] => { results := [.lit (.bool false)], args := [d1, d2, d3] }
  | _ => none }
def PackNumbersWrongFalsely : Prop := packNumbersRow.holds Tryd.pinned (OpenSpec.ofChange packNumbersWrong)

/-- 'clerestorylaw21.WireRefuses': WHATEVER THE INPUT: true; the input reads as it did. -/
def wireRefusesSpec : ChangeSpec := { name := "wireRefuses", fn := fun _ => fun
  | [d1, d2] => { results := [.lit (.bool true)], args := [d1, d2] }
  | _ => none }
def wireRefusesRow : OpenClaim := { program := "ytmjhdfifbjdgpaadoor", sum := "d3051b385000c04ceac09e280e5b7372128911771de21330a11130f96ce56171", func := "clerestory/clerestorylaw21.WireRefuses", spec := "wireRefuses", unfollowed := true, recurses := true, named := ["unicode/utf8.first", "unicode/utf8.acceptRanges"], apart := false, laid := [("unicode/utf8.acceptRanges", laid_unicode_utf8_acceptRanges), ("unicode/utf8.first", laid_unicode_utf8_first)] }
def WireRefusesSaid : Prop := wireRefusesRow.holds Tryd.pinned (OpenSpec.ofChange wireRefusesSpec)

/-- ITS FALSE NEIGHBOUR: 'it returns false'. Refute it at one input. -/
def wireRefusesWrong : ChangeSpec := { name := "wireRefuses", fn := fun _ => fun
  | [d1, d2] => { results := [.lit (.bool false)], args := [d1, d2] }
  | _ => none }
def WireRefusesWrongFalsely : Prop := wireRefusesRow.holds Tryd.pinned (OpenSpec.ofChange wireRefusesWrong)

/- THE SECOND FORM. 'bulk': how many values and letters a reading holds, each counted each time it is reached (what is shared counts as often as it is met; a slice's spare places count too). A statement '..UptoSaid' is the law's where the arguments, and the package variables that the reading takes, are together of bulk at most 1048576: NARROWER than '..Said'. Prove '..Said' where nothing that the law and all that it calls make is longer than what came in: it says more and counts as full. Else prove '..UptoSaid'. A law counts once. -/
mutual
def uptoBulk {H : Type} : DataW H → Nat
  | .lit (.string bytes) => bytes.length + 1
  | .lit _ => 1
  | .nil => 1
  | .ptr d => uptoBulk d + 1
  | .slice elems spare => uptoBulkAll elems + uptoBulkAll spare + 1
  | .agg parts => uptoBulkAll parts + 1
  | .iface _ d => uptoBulk d + 1
  | .map entries => uptoBulkEntries entries + 1
  | .held _ => 1
def uptoBulkAll {H : Type} : List (DataW H) → Nat
  | [] => 0
  | d :: r => uptoBulk d + uptoBulkAll r
def uptoBulkEntries {H : Type} : List (Lit × DataW H) → Nat
  | [] => 0
  | x :: r => uptoBulkEntry x + uptoBulkEntries r
def uptoBulkEntry {H : Type} : Lit × DataW H → Nat
  | (.string bytes, d) => bytes.length + uptoBulk d + 1
  | (_, d) => uptoBulk d + 1
 end
def uptoSmall : (H : Type) → List (DataW H) → Bool := fun _ ds => decide (uptoBulkAll ds ≤ 1048576)
def OpenSpec.upto (s : _root_.Go.ChangeSpec) : _root_.Go.OpenSpec := { _root_.Go.OpenSpec.ofChange s with cond := some uptoSmall }

/-- 'clerestorylaw09.PackRefuses', WHERE WHAT IT READS IS OF BULK AT MOST 1048576: true; the input reads as it did. -/
def packRefusesUptoRow : OpenClaim := { program := "ytmjhdfifbjdgpaadoor", sum := "d3051b385000c04ceac09e280e5b7372128911771de21330a11130f96ce56171", func := "clerestory/clerestorylaw09.PackRefuses", spec := "packRefuses", named := ["unicode/utf8.first", "unicode/utf8.acceptRanges"], apart := false, laid := [("unicode/utf8.acceptRanges", laid_unicode_utf8_acceptRanges), ("unicode/utf8.first", laid_unicode_utf8_first)], narrowed := true }
def PackRefusesUptoSaid : Prop := packRefusesUptoRow.holds Tryd.pinned (OpenSpec.upto packRefusesSpec)

/-- 'clerestorylaw09.PackTurned', WHERE WHAT IT READS IS OF BULK AT MOST 1048576: true; the input reads as it did. -/
def packTurnedUptoRow : OpenClaim := { program := "ytmjhdfifbjdgpaadoor", sum := "d3051b385000c04ceac09e280e5b7372128911771de21330a11130f96ce56171", func := "clerestory/clerestorylaw09.PackTurned", spec := "packTurned", unfollowed := true, recurses := true, named := ["unicode/utf8.first", "unicode/utf8.acceptRanges"], apart := false, laid := [("unicode/utf8.acceptRanges", laid_unicode_utf8_acceptRanges), ("unicode/utf8.first", laid_unicode_utf8_first)], narrowed := true }
def PackTurnedUptoSaid : Prop := packTurnedUptoRow.holds Tryd.pinned (OpenSpec.upto packTurnedSpec)

/-- 'clerestorylaw09.PackAll', WHERE WHAT IT READS IS OF BULK AT MOST 1048576: true; the input reads as it did. -/
def packAllUptoRow : OpenClaim := { program := "ytmjhdfifbjdgpaadoor", sum := "d3051b385000c04ceac09e280e5b7372128911771de21330a11130f96ce56171", func := "clerestory/clerestorylaw09.PackAll", spec := "packAll", unfollowed := true, recurses := true, named := ["unicode/utf8.first", "unicode/utf8.acceptRanges"], apart := false, laid := [("unicode/utf8.acceptRanges", laid_unicode_utf8_acceptRanges), ("unicode/utf8.first", laid_unicode_utf8_first)], narrowed := true }
def PackAllUptoSaid : Prop := packAllUptoRow.holds Tryd.pinned (OpenSpec.upto packAllSpec)

/-- 'clerestorylaw09.PackBack', WHERE WHAT IT READS IS OF BULK AT MOST 1048576: true; the input reads as it did. -/
def packBackUptoRow : OpenClaim := { program := "ytmjhdfifbjdgpaadoor", sum := "d3051b385000c04ceac09e280e5b7372128911771de21330a11130f96ce56171", func := "clerestory/clerestorylaw09.PackBack", spec := "packBack", unfollowed := true, recurses := true, named := ["unicode/utf8.first", "unicode/utf8.acceptRanges"], apart := false, laid := [("unicode/utf8.acceptRanges", laid_unicode_utf8_acceptRanges), ("unicode/utf8.first", laid_unicode_utf8_first)], narrowed := true }
def PackBackUptoSaid : Prop := packBackUptoRow.holds Tryd.pinned (OpenSpec.upto packBackSpec)

/-- 'clerestorylaw09.PackNumbers', WHERE WHAT IT READS IS OF BULK AT MOST 1048576: true; the input reads as it did. -/
def packNumbersUptoRow : OpenClaim := { program := "ytmjhdfifbjdgpaadoor", sum := "d3051b385000c04ceac09e280e5b7372128911771de21330a11130f96ce56171", func := "clerestory/clerestorylaw09.PackNumbers", spec := "packNumbers", unfollowed := true, recurses := true, named := ["unicode/utf8.first", "unicode/utf8.acceptRanges"], apart := false, laid := [("unicode/utf8.acceptRanges", laid_unicode_utf8_acceptRanges), ("unicode/utf8.first", laid_unicode_utf8_first)], narrowed := true }
def PackNumbersUptoSaid : Prop := packNumbersUptoRow.holds Tryd.pinned (OpenSpec.upto packNumbersSpec)

/-- 'clerestorylaw21.WireRefuses', WHERE WHAT IT READS IS OF BULK AT MOST 1048576: true; the input reads as it did. -/
def wireRefusesUptoRow : OpenClaim := { program := "ytmjhdfifbjdgpaadoor", sum := "d3051b385000c04ceac09e280e5b7372128911771de21330a11130f96ce56171", func := "clerestory/clerestorylaw21.WireRefuses", spec := "wireRefuses", unfollowed := true, recurses := true, named := ["unicode/utf8.first", "unicode/utf8.acceptRanges"], apart := false, laid := [("unicode/utf8.acceptRanges", laid_unicode_utf8_acceptRanges), ("unicode/utf8.first", laid_unicode_utf8_first)], narrowed := true }
def WireRefusesUptoSaid : Prop := wireRefusesUptoRow.holds Tryd.pinned (OpenSpec.upto wireRefusesSpec)

end Rows
end Go.Proofs.YtmjhdfifbjdgpaaDoor
