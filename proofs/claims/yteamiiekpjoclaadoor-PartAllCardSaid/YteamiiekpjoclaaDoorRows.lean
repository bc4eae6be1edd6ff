/-
  NARROWER THAN 'FOR EVERY INPUT', by the rows' own cells (each row's printed sentence says how): RowJoins: laid · PackRefuses: laid · RowAll: laid · RowNumbers: laid · PartAll: laid.
  DERIVED. THE GIVEN ROWS OF THIS SEAT. 5 by the template 'for every input the law returns true; each argument reads behind the call as it read before'; 0 by the template 'total and deterministic' (their statements: YteamiiekpjoclaaDoorTotals.lean).
  GIVEN WITH THE SEED: the statements are not yours to turn. If you find one false, say at which input.
  Laid BY PROGRAM, IN A SANDBOX (cutbox-rows.mjs): the forced cells as the released guide's own fill.sh prints them over the translation 493a083f40eb8e95… (all of the seat's roots in one cut). By AI agents, Wed Nov 11 2026. No macro, syntax, notation, axiom, sorry.
-/
import Derived.Test.YteamiiekpjoclaaDoorChecked
import GoSem.PinnedTables
import GoSem.Claim
import GoSem.ClaimJoined
import GoSem.ClaimMapViews
import Derived.JoinedTies
import Derived.KernelRfl
namespace Go.Proofs.YteamiiekpjoclaaDoor
/- THE CELL 'sum', in the pinned program and in every row, IS THE sha256 OF THE DUMP (.gsa) THAT YteamiiekpjoclaaDoorProg.lean LOADS. Nothing in Lean hashes anything: it is a label: what it is worth is what the hold of that sum in a sandbox is worth. -/
noncomputable def Tryd.pinned : Pinned := { name := "yteamiiekpjoclaadoor", sum := "493a083f40eb8e953284df1bbf8c0635d2f23de12f65b1a2426dbee90a27416d", checked := Tryd.checked }
namespace Rows
def none {H : Type} : Left H := { results := [], args := [] }

/- WHAT THE LISTED PACKAGE-LEVEL VARIABLES READ AS WHEN THE CALL BEGINS. Each datum BY PROGRAM (the guide's laid-datum.mjs) off the statement by which the dump's own 'gosem.cut.vars' lays the variable. In a bare row this is a premise. The card (YteamiiekpjoclaaDoorCards.lean) ties it to the program's text. -/
def laid_unicode_utf8_acceptRanges {H : Type} : DataW H := .agg [.agg [.lit (.int .u8 128), .lit (.int .u8 191)], .agg [.lit (.int .u8 160), .lit (.int .u8 191)], .agg [.lit (.int .u8 128), .lit (.int .u8 159)], .agg [.lit (.int .u8 144), .lit (.int .u8 191)], .agg [.lit (.int .u8 128), .lit (.int .u8 143)], .agg [.lit (.int .u8 0), .lit (.int .u8 0)], .agg [.lit (.int .u8 0), .lit (.int .u8 0)], .agg [.lit (.int .u8 0), .lit (.int .u8 0)], .agg [.lit (.int .u8 0), .lit (.int .u8 0)], .agg [.lit (.int .u8 0), .lit (.int .u8 0)], .agg [.lit (.int .u8 0), .lit (.int .u8 0)], .agg [.lit (.int .u8 0), .lit (.int .u8 0)], .agg [.lit (.int .u8 0), .lit (.int .u8 0)], .agg [.lit (.int .u8 0), .lit (.int .u8 0)], .agg [.lit (.int .u8 0), .lit (.int .u8 0)], .agg [.lit (.int .u8 0), .lit (.int .u8 0)]]
/-- One of Go's own tables, pinned by name: the form's constant. -/
def laid_unicode_utf8_first : DataW Unit := Go.Pinned.utf8First

/-- 'clerestorylaw07.RowJoins': WHATEVER THE INPUT: true; the input reads as it did. -/
def rowJoinsSpec : ChangeSpec := { name := "rowJoins", fn := fun _ => fun
  | [d1, d2, d3] => { results := [.lit (.bool true)], args := [d1, d2, d3] }
  | _ => none }
def rowJoinsRow : OpenClaim := { program := "yteamiiekpjoclaadoor", sum := "493a083f40eb8e953284df1bbf8c0635d2f23de12f65b1a2426dbee90a27416d", func := "clerestory/clerestorylaw07.RowJoins", spec := "rowJoins", inPlace := ["internal/bytealg.abigen_runtime_cmpstring"], unfollowed := true, recurses := true, named := ["unicode/utf8.first", "unicode/utf8.acceptRanges"], apart := false, laid := [("unicode/utf8.acceptRanges", laid_unicode_utf8_acceptRanges), ("unicode/utf8.first", laid_unicode_utf8_first)] }
def RowJoinsSaid : Prop := rowJoinsRow.holds Tryd.pinned (OpenSpec.ofChange rowJoinsSpec)

/-- ITS FALSE NEIGHBOUR: 'it returns false'. Refute it at one input. -/
def rowJoinsWrong : ChangeSpec := { name := "rowJoins", fn := fun _ => fun
  | [d1, d2, d3] => { results := [.lit (.bool false)], args := [d1, d2, d3] }
  | _ => none }
def RowJoinsWrongFalsely : Prop := rowJoinsRow.holds Tryd.pinned (OpenSpec.ofChange rowJoinsWrong)

/-- 'clerestorylaw09.PackRefuses': WHATEVER THE INPUT: true; the input reads as it did. -/
def packRefusesSpec : ChangeSpec := { name := "packRefuses", fn := fun _ => fun
  | [d1, d2] => { results := [.lit (.bool true)], args := [d1, d2] }
  | _ => none }
def packRefusesRow : OpenClaim := { program := "yteamiiekpjoclaadoor", sum := "493a083f40eb8e953284df1bbf8c0635d2f23de12f65b1a2426dbee90a27416d", func := "clerestory/clerestorylaw09.PackRefuses", spec := "packRefuses", named := ["unicode/utf8.first", "unicode/utf8.acceptRanges"], apart := false, laid := [("unicode/utf8.acceptRanges", laid_unicode_utf8_acceptRanges), ("unicode/utf8.first", laid_unicode_utf8_first)] }
def PackRefusesSaid : Prop := packRefusesRow.holds Tryd.pinned (OpenSpec.ofChange packRefusesSpec)

/-- ITS FALSE NEIGHBOUR: 'it returns false'. Refute it at one input. -/
def packRefusesWrong : ChangeSpec := { name := "packRefuses", fn := fun _ => fun
  | [d1, d2] => { results := [.lit (.bool false)], args := [d1, d2] }
  | _ => none }
def PackRefusesWrongFalsely : Prop := packRefusesRow.holds Tryd.pinned (OpenSpec.ofChange packRefusesWrong)

/-- 'clerestorylaw07.RowAll': WHATEVER THE INPUT: true; the input reads as it did. -/
def rowAllSpec : ChangeSpec := { name := "rowAll", fn := fun _ => fun
  | [d1, d2, d3, d4, d5, d6] => { results := [.lit (.bool true)], args := [d1, d2, d3, d4, d5, d6] }
  | _ => none }
def rowAllRow : OpenClaim := { program := "yteamiiekpjoclaadoor", sum := "493a083f40eb8e953284df1bbf8c0635d2f23de12f65b1a2426dbee90a27416d", func := "clerestory/clerestorylaw07.RowAll", spec := "rowAll", inPlace := ["internal/bytealg.abigen_runtime_cmpstring"], unfollowed := true, recurses := true, named := ["unicode/utf8.first", "unicode/utf8.acceptRanges"], apart := false, laid := [("unicode/utf8.acceptRanges", laid_unicode_utf8_acceptRanges), ("unicode/utf8.first", laid_unicode_utf8_first)] }
def RowAllSaid : Prop := rowAllRow.holds Tryd.pinned (OpenSpec.ofChange rowAllSpec)

/-- ITS FALSE NEIGHBOUR: 'it returns false'. Refute it at one input. -/
def rowAllWrong : ChangeSpec := { name := "rowAll", fn := fun _ => fun
  | [d1, d2, d3, d4, d5, d6] => { results := [.lit (.bool false)], args := [d1, d2, d3, d4, d5, d6] }
  | _ => none }
def RowAllWrongFalsely : Prop := rowAllRow.holds Tryd.pinned (OpenSpec.ofChange rowAllWrong)

/-- 'clerestorylaw07.RowNumbers': WHATEVER THE INPUT: true; the input reads as it did. -/
def rowNumbersSpec : ChangeSpec := { name := "rowNumbers", fn := fun _ => fun
  | [d1, d2, d3] => { results := [.lit (.bool true)], args := [d1, d2, d3] }
  | _ => none }
def rowNumbersRow : OpenClaim := { program := "yteamiiekpjoclaadoor", sum := "493a083f40eb8e953284df1bbf8c0635d2f23de12f65b1a2426dbee90a27416d", func := "clerestory/clerestorylaw07.RowNumbers", spec := "rowNumbers", inPlace := ["internal/bytealg.abigen_runtime_cmpstring"], unfollowed := true, recurses := true, named := ["unicode/utf8.first", "unicode/utf8.acceptRanges"], apart := false, laid := [("unicode/utf8.acceptRanges", laid_unicode_utf8_acceptRanges), ("unicode/utf8.first", laid_unicode_utf8_first)] }
def RowNumbersSaid : Prop := rowNumbersRow.holds Tryd.pinned (OpenSpec.ofChange rowNumbersSpec)

/-- ITS FALSE NEIGHBOUR: 'it returns false'. Refute it at one input. -/
def rowNumbersWrong : ChangeSpec := { name := "rowNumbers", fn := fun _ => fun
  | [d1, d2, d3] => { results := [.lit (.bool false)], args := [d1, d2, d3] }
  | _ => none }
def RowNumbersWrongFalsely : Prop := rowNumbersRow.holds Tryd.pinned (OpenSpec.ofChange rowNumbersWrong)

/-- 'clerestorylaw08.PartAll': WHATEVER THE INPUT: true; the input reads as it did. -/
def partAllSpec : ChangeSpec := { name := "partAll", fn := fun _ => fun
  | [d1, d2, d3, d4, d5] => { results := [.lit (.bool true)], args := [d1, d2, d3, d4, d5] }
  | _ => none }
def partAllRow : OpenClaim := { program := "yteamiiekpjoclaadoor", sum := "493a083f40eb8e953284df1bbf8c0635d2f23de12f65b1a2426dbee90a27416d", func := "clerestory/clerestorylaw08.PartAll", spec := "partAll", inPlace := ["internal/bytealg.abigen_runtime_cmpstring"], unfollowed := true, recurses := true, named := ["unicode/utf8.first", "unicode/utf8.acceptRanges"], apart := false, laid := [("unicode/utf8.acceptRanges", laid_unicode_utf8_acceptRanges), ("unicode/utf8.first", laid_unicode_utf8_first)] }
def PartAllSaid : Prop := partAllRow.holds Tryd.pinned (OpenSpec.ofChange partAllSpec)

/-- ITS FALSE NEIGHBOUR: 'it returns false'. Refute it at one input. -/
def partAllWrong : ChangeSpec := { name := "partAll", fn := fun _ => fun
  | [d1, d2, d3, d4, d5] => { results := [.lit (.bool false)], args := [d1, d2, d3, d4, d5] }
  | _ => none }
def PartAllWrongFalsely : Prop := partAllRow.holds Tryd.pinned (OpenSpec.ofChange partAllWrong)

/- THE SECOND FORM. 'bulk': how many values and letters a reading holds, each counted each time it is reached (what is shared counts as often as it is met; a slice's spare places count too). A statement '..UptoSaid' is the law's where the arguments, and the package variables that the reading takes, are together of bulk at most 1048576: NARROWER than '..Said'. Prove '..Said' where nothing that the law and all that it calls make is longer than what came in: it says more and counts as full. Else prove '..UptoSaid'. A law counts once. -/
mutual
def uptoBulk {H : Type} : DataW H → Nat
  | .lit (.string bytes) => bytes.length + 1
  | .lit _ => 1
  | .nil => 1
  | .ptr d => uptoBulk d + 1
  | .slice elems spare => uptoBulkAll elems + uptoBulkAll spare + 1
  | .agg parts => uptoBulkAll parts + 1
  | .iface _ d => uptoBulk d + 1
  | .map entries => uptoBulkEntries entries + 1
  | .held _ => 1
def uptoBulkAll {H : Type} : List (DataW H) → Nat
  | [] => 0
  | d :: r => uptoBulk d + uptoBulkAll r
def uptoBulkEntries {H : Type} : List (Lit × DataW H) → Nat
  | [] => 0
  | x :: r => uptoBulkEntry x + uptoBulkEntries r
def uptoBulkEntry {H : Type} : Lit × DataW H → Nat
  | (.string bytes, d) => bytes.length + uptoBulk d + 1
  | (_, d) => uptoBulk d + 1
 end
def uptoSmall : (H : Type) → List (DataW H) → Bool := fun _ ds => decide (uptoBulkAll ds ≤ 1048576)
def OpenSpec.upto (s : _root_.Go.ChangeSpec) : _root_.Go.OpenSpec := { _root_.Go.OpenSpec.ofChange s with cond := some uptoSmall }

/-- 'clerestorylaw07.RowJoins', WHERE WHAT IT READS IS OF BULK AT MOST 1048576: true; the input reads as it did. -/
def rowJoinsUptoRow : OpenClaim := { program := "yteamiiekpjoclaadoor", sum := "493a083f40eb8e953284df1bbf8c0635d2f23de12f65b1a2426dbee90a27416d", func := "clerestory/clerestorylaw07.RowJoins", spec := "rowJoins", inPlace := ["internal/bytealg.abigen_runtime_cmpstring"], unfollowed := true, recurses := true, named := ["unicode/utf8.first", "unicode/utf8.acceptRanges"], apart := false, laid := [("unicode/utf8.acceptRanges", laid_unicode_utf8_acceptRanges), ("unicode/utf8.first", laid_unicode_utf8_first)], narrowed := true }
def RowJoinsUptoSaid : Prop := rowJoinsUptoRow.holds Tryd.pinned (OpenSpec.upto rowJoinsSpec)

/-- 'clerestorylaw09.PackRefuses', WHERE WHAT IT READS IS OF BULK AT MOST 1048576: true; the input reads as it did. -/
def packRefusesUptoRow : OpenClaim := { program := "yteamiiekpjoclaadoor", sum := "493a083f40eb8e953284df1bbf8c0635d2f23de12f65b1a2426dbee90a27416d", func := "clerestory/clerestorylaw09.PackRefuses", spec := "packRefuses", named := ["unicode/utf8.first", "unicode/utf8.acceptRanges"], apart := false, laid := [("unicode/utf8.acceptRanges", laid_unicode_utf8_acceptRanges), ("unicode/utf8.first", laid_unicode_utf8_first)], narrowed := true }
def PackRefusesUptoSaid : Prop := packRefusesUptoRow.holds Tryd.pinned (OpenSpec.upto packRefusesSpec)

/-- 'clerestorylaw07.RowAll', WHERE WHAT IT READS IS OF BULK AT MOST 1048576: true; the input reads as it did. -/
def rowAllUptoRow : OpenClaim := { program := "yteamiiekpjoclaadoor", sum := "493a083f40eb8e953284df1bbf8c0635d2f23de12f65b1a2426dbee90a27416d", func := "clerestory/clerestorylaw07.RowAll", spec := "rowAll", inPlace := ["internal/bytealg.abigen_runtime_cmpstring"], unfollowed := true, recurses := true, named := ["unicode/utf8.first", "unicode/utf8.acceptRanges"], apart := false, laid := [("unicode/utf8.acceptRanges", laid_unicode_utf8_acceptRanges), ("unicode/utf8.first", laid_unicode_utf8_first)], narrowed := true }
def RowAllUptoSaid : Prop := rowAllUptoRow.holds Tryd.pinned (OpenSpec.upto rowAllSpec)

/-- 'clerestorylaw07.RowNumbers', WHERE WHAT IT READS IS OF BULK AT MOST 1048576: true; the input reads as it did. -/
def rowNumbersUptoRow : OpenClaim := { program := "yteamiiekpjoclaadoor", sum := "493a083f40eb8e953284df1bbf8c0635d2f23de12f65b1a2426dbee90a27416d", func := "clerestory/clerestorylaw07.RowNumbers", spec := "rowNumbers", inPlace := ["internal/bytealg.abigen_runtime_cmpstring"], unfollowed := true, recurses := true, named := ["unicode/utf8.first", "unicode/utf8.acceptRanges"], apart := false, laid := [("unicode/utf8.acceptRanges", laid_unicode_utf8_acceptRanges), ("unicode/utf8.first", laid_unicode_utf8_first)], narrowed := true }
def RowNumbersUptoSaid : Prop := rowNumbersUptoRow.holds Tryd.pinned (OpenSpec.upto rowNumbersSpec)

/-- 'clerestorylaw08.PartAll', WHERE WHAT IT READS IS OF BULK AT MOST 1048576: true; the input reads as it did. -/
def partAllUptoRow : OpenClaim := { program := "yteamiiekpjoclaadoor", sum := "493a083f40eb8e953284df1bbf8c0635d2f23de12f65b1a2426dbee90a27416d", func := "clerestory/clerestorylaw08.PartAll", spec := "partAll", inPlace := ["internal/bytealg.abigen_runtime_cmpstring"], unfollowed := true, recurses := true, named := ["unicode/utf8.first", "unicode/utf8.acceptRanges"], apart := false, laid := [("unicode/utf8.acceptRanges", laid_unicode_utf8_acceptRanges), ("unicode/utf8.first", laid_unicode_utf8_first)], narrowed := true }
def PartAllUptoSaid : Prop := partAllUptoRow.holds Tryd.pinned (OpenSpec.upto partAllSpec)

end Rows
end Go.Proofs.YteamiiekpjoclaaDoor
