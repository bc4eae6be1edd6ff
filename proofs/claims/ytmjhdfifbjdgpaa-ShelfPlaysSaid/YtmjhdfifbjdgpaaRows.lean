/-
  No cell of these rows narrows 'for every input' (looked for: loops, veiled, ifaces, maps, wideKeys, modest, calm, conditions, laid).
  DERIVED. THE GIVEN ROWS OF THIS SEAT. 5 by the template 'for every input the law returns true; each argument reads behind the call as it read before'; 0 by the template 'total and deterministic' (their statements: YtmjhdfifbjdgpaaTotals.lean).
  GIVEN WITH THE SEED: the statements are not yours to turn. If you find one false, say at which input.
  Laid BY PROGRAM, IN A SANDBOX (cutbox-rows.mjs): the forced cells as the released guide's own fill.sh prints them over the translation 1fbc7933608940b9… (all of the seat's roots in one cut). By AI agents, Wed Nov 11 2026. No macro, syntax, notation, axiom, sorry.
-/
import Derived.Test.YtmjhdfifbjdgpaaChecked
import GoSem.Claim
import GoSem.ClaimJoined
import GoSem.ClaimMapViews
import Derived.JoinedTies
import Derived.KernelRfl
namespace Go.Proofs.Ytmjhdfifbjdgpaa
/- THE CELL 'sum', in the pinned program and in every row, IS THE sha256 OF THE DUMP (.gsa) THAT YtmjhdfifbjdgpaaProg.lean LOADS. Nothing in Lean hashes anything: it is a label: what it is worth is what the hold of that sum in a sandbox is worth. -/
noncomputable def Try.pinned : Pinned := { name := "ytmjhdfifbjdgpaa", sum := "1fbc7933608940b9d789c2309be265367ebb8becab3eac00ac1b5a1a7f85a569", checked := Try.checked }
namespace Rows
def none {H : Type} : Left H := { results := [], args := [] }

/-- 'clerestorylaw11.NoteLast': WHATEVER THE INPUT: true; the input reads as it did. -/
def noteLastSpec : ChangeSpec := { name := "noteLast", fn := fun _ => fun
  | [d] => { results := [.lit (.bool true)], args := [d] }
  | _ => none }
def noteLastRow : OpenClaim := { program := "ytmjhdfifbjdgpaa", sum := "1fbc7933608940b9d789c2309be265367ebb8becab3eac00ac1b5a1a7f85a569", func := "clerestory/clerestorylaw11.NoteLast", spec := "noteLast", unfollowed := true, recurses := true, apart := false }
def NoteLastSaid : Prop := noteLastRow.holds Try.pinned (OpenSpec.ofChange noteLastSpec)

/-- ITS FALSE NEIGHBOUR: 'it returns false'. Refute it at one input. -/
def noteLastWrong : ChangeSpec := { name := "noteLast", fn := fun _ => fun
  | [d] => { results := [.lit (.bool false)], args := [d] }
  | _ => none }
def NoteLastWrongFalsely : Prop := noteLastRow.holds Try.pinned (OpenSpec.ofChange noteLastWrong)

/-- 'clerestorylaw11.NotePlays': WHATEVER THE INPUT: true; the input reads as it did. -/
def notePlaysSpec : ChangeSpec := { name := "notePlays", fn := fun _ => fun
  | [d] => { results := [.lit (.bool true)], args := [d] }
  | _ => none }
def notePlaysRow : OpenClaim := { program := "ytmjhdfifbjdgpaa", sum := "1fbc7933608940b9d789c2309be265367ebb8becab3eac00ac1b5a1a7f85a569", func := "clerestory/clerestorylaw11.NotePlays", spec := "notePlays", inPlace := ["maps.clone"], unfollowed := true, recurses := true, apart := false }
def NotePlaysSaid : Prop := notePlaysRow.holds Try.pinned (OpenSpec.ofChange notePlaysSpec)

/-- ITS FALSE NEIGHBOUR: 'it returns false'. Refute it at one input. -/
def notePlaysWrong : ChangeSpec := { name := "notePlays", fn := fun _ => fun
  | [d] => { results := [.lit (.bool false)], args := [d] }
  | _ => none }
def NotePlaysWrongFalsely : Prop := notePlaysRow.holds Try.pinned (OpenSpec.ofChange notePlaysWrong)

/-- 'clerestorylaw11.NoteRooms': WHATEVER THE INPUT: true; the input reads as it did. -/
def noteRoomsSpec : ChangeSpec := { name := "noteRooms", fn := fun _ => fun
  | [d1, d2] => { results := [.lit (.bool true)], args := [d1, d2] }
  | _ => none }
def noteRoomsRow : OpenClaim := { program := "ytmjhdfifbjdgpaa", sum := "1fbc7933608940b9d789c2309be265367ebb8becab3eac00ac1b5a1a7f85a569", func := "clerestory/clerestorylaw11.NoteRooms", spec := "noteRooms", inPlace := ["maps.clone"], unfollowed := true, recurses := true, apart := false }
def NoteRoomsSaid : Prop := noteRoomsRow.holds Try.pinned (OpenSpec.ofChange noteRoomsSpec)

/-- ITS FALSE NEIGHBOUR: 'it returns false'. Refute it at one input. -/
def noteRoomsWrong : ChangeSpec := { name := "noteRooms", fn := fun _ => fun
  | [d1, d2] => { results := [.lit (.bool false)], args := [d1, d2] }
  | _ => none }
def NoteRoomsWrongFalsely : Prop := noteRoomsRow.holds Try.pinned (OpenSpec.ofChange noteRoomsWrong)

/-- 'clerestorylaw05.ShelfPlays': WHATEVER THE INPUT: true; the input reads as it did. -/
def shelfPlaysSpec : ChangeSpec := { name := "shelfPlays", fn := fun _ => fun
  | [d1, d2] => { results := [.lit (.bool true)], args := [d1, d2] }
  | _ => none }
def shelfPlaysRow : OpenClaim := { program := "ytmjhdfifbjdgpaa", sum := "1fbc7933608940b9d789c2309be265367ebb8becab3eac00ac1b5a1a7f85a569", func := "clerestory/clerestorylaw05.ShelfPlays", spec := "shelfPlays", recurses := true, apart := false }
def ShelfPlaysSaid : Prop := shelfPlaysRow.holds Try.pinned (OpenSpec.ofChange shelfPlaysSpec)

/-- ITS FALSE NEIGHBOUR: 'it returns false'. Refute it at one input. -/
def shelfPlaysWrong : ChangeSpec := { name := "shelfPlays", fn := fun _ => fun
  | [d1, d2] => { results := [.lit (.bool false)], args := [d1, d2] }
  | _ => none }
def ShelfPlaysWrongFalsely : Prop := shelfPlaysRow.holds Try.pinned (OpenSpec.ofChange shelfPlaysWrong)

/-- 'clerestorylaw18.ProjectAll': WHATEVER THE INPUT: true; the input reads as it did. -/
def projectAllSpec : ChangeSpec := { name := "projectAll", fn := fun _ => fun
  | [d1, d2, d3, d4, d5] => { results := [.lit (.bool true)], args := [d1, d2, d3, d4, d5] }
  | _ => none }
def projectAllRow : OpenClaim := { program := "ytmjhdfifbjdgpaa", sum := "1fbc7933608940b9d789c2309be265367ebb8becab3eac00ac1b5a1a7f85a569", func := "clerestory/clerestorylaw18.ProjectAll", spec := "projectAll", inPlace := ["internal/abi.NoEscape"], unfollowed := true, recurses := true, apart := false }
def ProjectAllSaid : Prop := projectAllRow.holds Try.pinned (OpenSpec.ofChange projectAllSpec)

/-- ITS FALSE NEIGHBOUR: 'it returns false'. Refute it at one input. -/
def projectAllWrong : ChangeSpec := { name := "projectAll", fn := fun _ => fun
  | [d1, d2, d3, d4, d5] => { results := [.lit (.bool false)], args := [d1, d2, d3, d4, d5] }
  | _ => none }
def ProjectAllWrongFalsely : Prop := projectAllRow.holds Try.pinned (OpenSpec.ofChange projectAllWrong)

/- THE SECOND FORM. 'bulk': how many values and letters a reading holds, each counted each time it is reached (what is shared counts as often as it is met; a slice's spare places count too). A statement '..UptoSaid' is the law's where the arguments, and the package variables that the reading takes, are together of bulk at most 1048576: NARROWER than '..Said'. Prove '..Said' where nothing that the law and all that it calls make is longer than what came in: it says more and counts as full. Else prove '..UptoSaid'. A law counts once. -/
mutual
def uptoBulk {H : Type} : DataW H → Nat
  | .lit (.string bytes) => bytes.length + 1
  | .lit _ => 1
  | .nil => 1
  | .ptr d => uptoBulk d + 1
  | .slice elems spare => uptoBulkAll elems + uptoBulkAll spare + 1
  | .agg parts => uptoBulkAll parts + 1
  | .iface _ d => uptoBulk d + 1
  | .map entries => uptoBulkEntries entries + 1
  | .held _ => 1
def uptoBulkAll {H : Type} : List (DataW H) → Nat
  | [] => 0
  | d :: r => uptoBulk d + uptoBulkAll r
def uptoBulkEntries {H : Type} : List (Lit × DataW H) → Nat
  | [] => 0
  | x :: r => uptoBulkEntry x + uptoBulkEntries r
def uptoBulkEntry {H : Type} : Lit × DataW H → Nat
  | (.string bytes, d) => bytes.length + uptoBulk d + 1
  | (_, d) => uptoBulk d + 1
 end
def uptoSmall : (H : Type) → List (DataW H) → Bool := fun _ ds => decide (uptoBulkAll ds ≤ 1048576)
def OpenSpec.upto (s : _root_.Go.ChangeSpec) : _root_.Go.OpenSpec := { _root_.Go.OpenSpec.ofChange s with cond := some uptoSmall }

/-- 'clerestorylaw11.NoteLast', WHERE WHAT IT READS IS OF BULK AT MOST 1048576: true; the input reads as it did. -/
def noteLastUptoRow : OpenClaim := { program := "ytmjhdfifbjdgpaa", sum := "1fbc7933608940b9d789c2309be265367ebb8becab3eac00ac1b5a1a7f85a569", func := "clerestory/clerestorylaw11.NoteLast", spec := "noteLast", unfollowed := true, recurses := true, apart := false, narrowed := true }
def NoteLastUptoSaid : Prop := noteLastUptoRow.holds Try.pinned (OpenSpec.upto noteLastSpec)

/-- 'clerestorylaw11.NotePlays', WHERE WHAT IT READS IS OF BULK AT MOST 1048576: true; the input reads as it did. -/
def notePlaysUptoRow : OpenClaim := { program := "ytmjhdfifbjdgpaa", sum := "1fbc7933608940b9d789c2309be265367ebb8becab3eac00ac1b5a1a7f85a569", func := "clerestory/clerestorylaw11.NotePlays", spec := "notePlays", inPlace := ["maps.clone"], unfollowed := true, recurses := true, apart := false, narrowed := true }
def NotePlaysUptoSaid : Prop := notePlaysUptoRow.holds Try.pinned (OpenSpec.upto notePlaysSpec)

/-- 'clerestorylaw11.NoteRooms', WHERE WHAT IT READS IS OF BULK AT MOST 1048576: true; the input reads as it did. -/
def noteRoomsUptoRow : OpenClaim := { program := "ytmjhdfifbjdgpaa", sum := "1fbc7933608940b9d789c2309be265367ebb8becab3eac00ac1b5a1a7f85a569", func := "clerestory/clerestorylaw11.NoteRooms", spec := "noteRooms", inPlace := ["maps.clone"], unfollowed := true, recurses := true, apart := false, narrowed := true }
def NoteRoomsUptoSaid : Prop := noteRoomsUptoRow.holds Try.pinned (OpenSpec.upto noteRoomsSpec)

/-- 'clerestorylaw05.ShelfPlays', WHERE WHAT IT READS IS OF BULK AT MOST 1048576: true; the input reads as it did. -/
def shelfPlaysUptoRow : OpenClaim := { program := "ytmjhdfifbjdgpaa", sum := "1fbc7933608940b9d789c2309be265367ebb8becab3eac00ac1b5a1a7f85a569", func := "clerestory/clerestorylaw05.ShelfPlays", spec := "shelfPlays", recurses := true, apart := false, narrowed := true }
def ShelfPlaysUptoSaid : Prop := shelfPlaysUptoRow.holds Try.pinned (OpenSpec.upto shelfPlaysSpec)

/-- 'clerestorylaw18.ProjectAll', WHERE WHAT IT READS IS OF BULK AT MOST 1048576: true; the input reads as it did. -/
def projectAllUptoRow : OpenClaim := { program := "ytmjhdfifbjdgpaa", sum := "1fbc7933608940b9d789c2309be265367ebb8becab3eac00ac1b5a1a7f85a569", func := "clerestory/clerestorylaw18.ProjectAll", spec := "projectAll", inPlace := ["internal/abi.NoEscape"], unfollowed := true, recurses := true, apart := false, narrowed := true }
def ProjectAllUptoSaid : Prop := projectAllUptoRow.holds Try.pinned (OpenSpec.upto projectAllSpec)

end Rows
end Go.Proofs.Ytmjhdfifbjdgpaa
