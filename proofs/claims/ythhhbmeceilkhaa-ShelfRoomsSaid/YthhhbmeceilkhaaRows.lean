/-
  No cell of these rows narrows 'for every input' (looked for: loops, veiled, ifaces, maps, wideKeys, modest, calm, conditions, laid).
  DERIVED. THE GIVEN ROWS OF THIS SEAT. 7 by the template 'for every input the law returns true; each argument reads behind the call as it read before'; 0 by the template 'total and deterministic' (their statements: YthhhbmeceilkhaaTotals.lean).
  GIVEN WITH THE SEED: the statements are not yours to turn. If you find one false, say at which input.
  Laid BY PROGRAM, IN A SANDBOX (cutbox-rows.mjs): the forced cells as the released guide's own fill.sh prints them over the translation 5c0a59e7ed9f2457… (all of the seat's roots in one cut). By AI agents, Wed Nov 11 2026. No macro, syntax, notation, axiom, sorry.
-/
import Derived.Test.YthhhbmeceilkhaaChecked
import GoSem.Claim
import GoSem.ClaimJoined
import GoSem.ClaimMapViews
import Derived.JoinedTies
import Derived.KernelRfl
namespace Go.Proofs.Ythhhbmeceilkhaa
/- THE CELL 'sum', in the pinned program and in every row, IS THE sha256 OF THE DUMP (.gsa) THAT YthhhbmeceilkhaaProg.lean LOADS. Nothing in Lean hashes anything: it is a label: what it is worth is what the hold of that sum in a sandbox is worth. -/
noncomputable def Try.pinned : Pinned := { name := "ythhhbmeceilkhaa", sum := "5c0a59e7ed9f2457aff1ea3ebe41ebc6900ec8f42d96b683512260315c0a18ed", checked := Try.checked }
namespace Rows
def none {H : Type} : Left H := { results := [], args := [] }

/-- 'clerestorylaw05.ShelfRooms': WHATEVER THE INPUT: true; the input reads as it did. -/
def shelfRoomsSpec : ChangeSpec := { name := "shelfRooms", fn := fun _ => fun
  | [d1, d2, d3] => { results := [.lit (.bool true)], args := [d1, d2, d3] }
  | _ => none }
def shelfRoomsRow : OpenClaim := { program := "ythhhbmeceilkhaa", sum := "5c0a59e7ed9f2457aff1ea3ebe41ebc6900ec8f42d96b683512260315c0a18ed", func := "clerestory/clerestorylaw05.ShelfRooms", spec := "shelfRooms", recurses := true, apart := false }
def ShelfRoomsSaid : Prop := shelfRoomsRow.holds Try.pinned (OpenSpec.ofChange shelfRoomsSpec)

/-- ITS FALSE NEIGHBOUR: 'it returns false'. Refute it at one input. -/
def shelfRoomsWrong : ChangeSpec := { name := "shelfRooms", fn := fun _ => fun
  | [d1, d2, d3] => { results := [.lit (.bool false)], args := [d1, d2, d3] }
  | _ => none }
def ShelfRoomsWrongFalsely : Prop := shelfRoomsRow.holds Try.pinned (OpenSpec.ofChange shelfRoomsWrong)

/-- 'clerestorylaw05.ShelfKeeps': WHATEVER THE INPUT: true; the input reads as it did. -/
def shelfKeepsSpec : ChangeSpec := { name := "shelfKeeps", fn := fun _ => fun
  | [d1, d2, d3, d4] => { results := [.lit (.bool true)], args := [d1, d2, d3, d4] }
  | _ => none }
def shelfKeepsRow : OpenClaim := { program := "ythhhbmeceilkhaa", sum := "5c0a59e7ed9f2457aff1ea3ebe41ebc6900ec8f42d96b683512260315c0a18ed", func := "clerestory/clerestorylaw05.ShelfKeeps", spec := "shelfKeeps", recurses := true, apart := false }
def ShelfKeepsSaid : Prop := shelfKeepsRow.holds Try.pinned (OpenSpec.ofChange shelfKeepsSpec)

/-- ITS FALSE NEIGHBOUR: 'it returns false'. Refute it at one input. -/
def shelfKeepsWrong : ChangeSpec := { name := "shelfKeeps", fn := fun _ => fun
  | [d1, d2, d3, d4] => { results := [.lit (.bool false)], args := [d1, d2, d3, d4] }
  | _ => none }
def ShelfKeepsWrongFalsely : Prop := shelfKeepsRow.holds Try.pinned (OpenSpec.ofChange shelfKeepsWrong)

/-- 'clerestorylaw05.ShelfPlays': WHATEVER THE INPUT: true; the input reads as it did. -/
def shelfPlaysSpec : ChangeSpec := { name := "shelfPlays", fn := fun _ => fun
  | [d1, d2] => { results := [.lit (.bool true)], args := [d1, d2] }
  | _ => none }
def shelfPlaysRow : OpenClaim := { program := "ythhhbmeceilkhaa", sum := "5c0a59e7ed9f2457aff1ea3ebe41ebc6900ec8f42d96b683512260315c0a18ed", func := "clerestory/clerestorylaw05.ShelfPlays", spec := "shelfPlays", recurses := true, apart := false }
def ShelfPlaysSaid : Prop := shelfPlaysRow.holds Try.pinned (OpenSpec.ofChange shelfPlaysSpec)

/-- ITS FALSE NEIGHBOUR: 'it returns false'. Refute it at one input. -/
def shelfPlaysWrong : ChangeSpec := { name := "shelfPlays", fn := fun _ => fun
  | [d1, d2] => { results := [.lit (.bool false)], args := [d1, d2] }
  | _ => none }
def ShelfPlaysWrongFalsely : Prop := shelfPlaysRow.holds Try.pinned (OpenSpec.ofChange shelfPlaysWrong)

/-- 'clerestorylaw05.ShelfTurns': WHATEVER THE INPUT: true; the input reads as it did. -/
def shelfTurnsSpec : ChangeSpec := { name := "shelfTurns", fn := fun _ => fun
  | [d1, d2, d3] => { results := [.lit (.bool true)], args := [d1, d2, d3] }
  | _ => none }
def shelfTurnsRow : OpenClaim := { program := "ythhhbmeceilkhaa", sum := "5c0a59e7ed9f2457aff1ea3ebe41ebc6900ec8f42d96b683512260315c0a18ed", func := "clerestory/clerestorylaw05.ShelfTurns", spec := "shelfTurns", recurses := true, apart := false }
def ShelfTurnsSaid : Prop := shelfTurnsRow.holds Try.pinned (OpenSpec.ofChange shelfTurnsSpec)

/-- ITS FALSE NEIGHBOUR: 'it returns false'. Refute it at one input. -/
def shelfTurnsWrong : ChangeSpec := { name := "shelfTurns", fn := fun _ => fun
  | [d1, d2, d3] => { results := [.lit (.bool false)], args := [d1, d2, d3] }
  | _ => none }
def ShelfTurnsWrongFalsely : Prop := shelfTurnsRow.holds Try.pinned (OpenSpec.ofChange shelfTurnsWrong)

/-- 'clerestorylaw11.NoteLast': WHATEVER THE INPUT: true; the input reads as it did. -/
def noteLastSpec : ChangeSpec := { name := "noteLast", fn := fun _ => fun
  | [d] => { results := [.lit (.bool true)], args := [d] }
  | _ => none }
def noteLastRow : OpenClaim := { program := "ythhhbmeceilkhaa", sum := "5c0a59e7ed9f2457aff1ea3ebe41ebc6900ec8f42d96b683512260315c0a18ed", func := "clerestory/clerestorylaw11.NoteLast", spec := "noteLast", unfollowed := true, recurses := true, apart := false }
def NoteLastSaid : Prop := noteLastRow.holds Try.pinned (OpenSpec.ofChange noteLastSpec)

/-- ITS FALSE NEIGHBOUR: 'it returns false'. Refute it at one input. -/
def noteLastWrong : ChangeSpec := { name := "noteLast", fn := fun _ => fun
  | [d] => { results := [.lit (.bool false)], args := [d] }
  | _ => none }
def NoteLastWrongFalsely : Prop := noteLastRow.holds Try.pinned (OpenSpec.ofChange noteLastWrong)

/-- 'clerestorylaw11.NotePlays': WHATEVER THE INPUT: true; the input reads as it did. -/
def notePlaysSpec : ChangeSpec := { name := "notePlays", fn := fun _ => fun
  | [d] => { results := [.lit (.bool true)], args := [d] }
  | _ => none }
def notePlaysRow : OpenClaim := { program := "ythhhbmeceilkhaa", sum := "5c0a59e7ed9f2457aff1ea3ebe41ebc6900ec8f42d96b683512260315c0a18ed", func := "clerestory/clerestorylaw11.NotePlays", spec := "notePlays", inPlace := ["maps.clone"], unfollowed := true, recurses := true, apart := false }
def NotePlaysSaid : Prop := notePlaysRow.holds Try.pinned (OpenSpec.ofChange notePlaysSpec)

/-- ITS FALSE NEIGHBOUR: 'it returns false'. Refute it at one input. -/
def notePlaysWrong : ChangeSpec := { name := "notePlays", fn := fun _ => fun
  | [d] => { results := [.lit (.bool false)], args := [d] }
  | _ => none }
def NotePlaysWrongFalsely : Prop := notePlaysRow.holds Try.pinned (OpenSpec.ofChange notePlaysWrong)

/-- 'clerestorylaw11.NoteRooms': WHATEVER THE INPUT: true; the input reads as it did. -/
def noteRoomsSpec : ChangeSpec := { name := "noteRooms", fn := fun _ => fun
  | [d1, d2] => { results := [.lit (.bool true)], args := [d1, d2] }
  | _ => none }
def noteRoomsRow : OpenClaim := { program := "ythhhbmeceilkhaa", sum := "5c0a59e7ed9f2457aff1ea3ebe41ebc6900ec8f42d96b683512260315c0a18ed", func := "clerestory/clerestorylaw11.NoteRooms", spec := "noteRooms", inPlace := ["maps.clone"], unfollowed := true, recurses := true, apart := false }
def NoteRoomsSaid : Prop := noteRoomsRow.holds Try.pinned (OpenSpec.ofChange noteRoomsSpec)

/-- ITS FALSE NEIGHBOUR: 'it returns false'. Refute it at one input. -/
def noteRoomsWrong : ChangeSpec := { name := "noteRooms", fn := fun _ => fun
  | [d1, d2] => { results := [.lit (.bool false)], args := [d1, d2] }
  | _ => none }
def NoteRoomsWrongFalsely : Prop := noteRoomsRow.holds Try.pinned (OpenSpec.ofChange noteRoomsWrong)

/- THE SECOND FORM. 'bulk': how many values and letters a reading holds, each counted each time it is reached (what is shared counts as often as it is met; a slice's spare places count too). A statement '..UptoSaid' is the law's where the arguments, and the package variables that the reading takes, are together of bulk at most 1048576: NARROWER than '..Said'. Prove '..Said' where nothing that the law and all that it calls make is longer than what came in: it says more and counts as full. Else prove '..UptoSaid'. A law counts once. -/
mutual
def uptoBulk {H : Type} : DataW H → Nat
  | .lit (.string bytes) => bytes.length + 1
  | .lit _ => 1
  | .nil => 1
  | .ptr d => uptoBulk d + 1
  | .slice elems spare => uptoBulkAll elems + uptoBulkAll spare + 1
  | .agg parts => uptoBulkAll parts + 1
  | .iface _ d => uptoBulk d + 1
  | .map entries => uptoBulkEntries entries + 1
  | .held _ => 1
def uptoBulkAll {H : Type} : List (DataW H) → Nat
  | [] => 0
  | d :: r => uptoBulk d + uptoBulkAll r
def uptoBulkEntries {H : Type} : List (Lit × DataW H) → Nat
  | [] => 0
  | x :: r => uptoBulkEntry x + uptoBulkEntries r
def uptoBulkEntry {H : Type} : Lit × DataW H → Nat
  | (.string bytes, d) => bytes.length + uptoBulk d + 1
  | (_, d) => uptoBulk d + 1
 end
def uptoSmall : (H : Type) → List (DataW H) → Bool := fun _ ds => decide (uptoBulkAll ds ≤ 1048576)
def OpenSpec.upto (s : _root_.Go.ChangeSpec) : _root_.Go.OpenSpec := { _root_.Go.OpenSpec.ofChange s with cond := some uptoSmall }

/-- 'clerestorylaw05.ShelfRooms', WHERE WHAT IT READS IS OF BULK AT MOST 1048576: true; the input reads as it did. -/
def shelfRoomsUptoRow : OpenClaim := { program := "ythhhbmeceilkhaa", sum := "5c0a59e7ed9f2457aff1ea3ebe41ebc6900ec8f42d96b683512260315c0a18ed", func := "clerestory/clerestorylaw05.ShelfRooms", spec := "shelfRooms", recurses := true, apart := false, narrowed := true }
def ShelfRoomsUptoSaid : Prop := shelfRoomsUptoRow.holds Try.pinned (OpenSpec.upto shelfRoomsSpec)

/-- 'clerestorylaw05.ShelfKeeps', WHERE WHAT IT READS IS OF BULK AT MOST 1048576: true; the input reads as it did. -/
def shelfKeepsUptoRow : OpenClaim := { program := "ythhhbmeceilkhaa", sum := "5c0a59e7ed9f2457aff1ea3ebe41ebc6900ec8f42d96b683512260315c0a18ed", func := "clerestory/clerestorylaw05.ShelfKeeps", spec := "shelfKeeps", recurses := true, apart := false, narrowed := true }
def ShelfKeepsUptoSaid : Prop := shelfKeepsUptoRow.holds Try.pinned (OpenSpec.upto shelfKeepsSpec)

/-- 'clerestorylaw05.ShelfPlays', WHERE WHAT IT READS IS OF BULK AT MOST 1048576: true; the input reads as it did. -/
def shelfPlaysUptoRow : OpenClaim := { program := "ythhhbmeceilkhaa", sum := "5c0a59e7ed9f2457aff1ea3ebe41ebc6900ec8f42d96b683512260315c0a18ed", func := "clerestory/clerestorylaw05.ShelfPlays", spec := "shelfPlays", recurses := true, apart := false, narrowed := true }
def ShelfPlaysUptoSaid : Prop := shelfPlaysUptoRow.holds Try.pinned (OpenSpec.upto shelfPlaysSpec)

/-- 'clerestorylaw05.ShelfTurns', WHERE WHAT IT READS IS OF BULK AT MOST 1048576: true; the input reads as it did. -/
def shelfTurnsUptoRow : OpenClaim := { program := "ythhhbmeceilkhaa", sum := "5c0a59e7ed9f2457aff1ea3ebe41ebc6900ec8f42d96b683512260315c0a18ed", func := "clerestory/clerestorylaw05.ShelfTurns", spec := "shelfTurns", recurses := true, apart := false, narrowed := true }
def ShelfTurnsUptoSaid : Prop := shelfTurnsUptoRow.holds Try.pinned (OpenSpec.upto shelfTurnsSpec)

/-- 'clerestorylaw11.NoteLast', WHERE WHAT IT READS IS OF BULK AT MOST 1048576: true; the input reads as it did. -/
def noteLastUptoRow : OpenClaim := { program := "ythhhbmeceilkhaa", sum := "5c0a59e7ed9f2457aff1ea3ebe41ebc6900ec8f42d96b683512260315c0a18ed", func := "clerestory/clerestorylaw11.NoteLast", spec := "noteLast", unfollowed := true, recurses := true, apart := false, narrowed := true }
def NoteLastUptoSaid : Prop := noteLastUptoRow.holds Try.pinned (OpenSpec.upto noteLastSpec)

/-- 'clerestorylaw11.NotePlays', WHERE WHAT IT READS IS OF BULK AT MOST 1048576: true; the input reads as it did. -/
def notePlaysUptoRow : OpenClaim := { program := "ythhhbmeceilkhaa", sum := "5c0a59e7ed9f2457aff1ea3ebe41ebc6900ec8f42d96b683512260315c0a18ed", func := "clerestory/clerestorylaw11.NotePlays", spec := "notePlays", inPlace := ["maps.clone"], unfollowed := true, recurses := true, apart := false, narrowed := true }
def NotePlaysUptoSaid : Prop := notePlaysUptoRow.holds Try.pinned (OpenSpec.upto notePlaysSpec)

/-- 'clerestorylaw11.NoteRooms', WHERE WHAT IT READS IS OF BULK AT MOST 1048576: true; the input reads as it did. -/
def noteRoomsUptoRow : OpenClaim := { program := "ythhhbmeceilkhaa", sum := "5c0a59e7ed9f2457aff1ea3ebe41ebc6900ec8f42d96b683512260315c0a18ed", func := "clerestory/clerestorylaw11.NoteRooms", spec := "noteRooms", inPlace := ["maps.clone"], unfollowed := true, recurses := true, apart := false, narrowed := true }
def NoteRoomsUptoSaid : Prop := noteRoomsUptoRow.holds Try.pinned (OpenSpec.upto noteRoomsSpec)

end Rows
end Go.Proofs.Ythhhbmeceilkhaa
