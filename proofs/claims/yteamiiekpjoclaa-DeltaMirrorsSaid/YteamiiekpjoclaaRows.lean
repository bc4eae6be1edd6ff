/-
  No cell of these rows narrows 'for every input' (looked for: loops, veiled, ifaces, maps, wideKeys, modest, calm, conditions, laid).
  DERIVED. THE GIVEN ROWS OF THIS SEAT. 6 by the template 'for every input the law returns true; each argument reads behind the call as it read before'; 0 by the template 'total and deterministic' (their statements: YteamiiekpjoclaaTotals.lean).
  GIVEN WITH THE SEED: the statements are not yours to turn. If you find one false, say at which input.
  Laid BY PROGRAM, IN A SANDBOX (cutbox-rows.mjs): the forced cells as the released guide's own fill.sh prints them over the translation ba2202fee6a94ff3… (all of the seat's roots in one cut). By AI agents, Wed Nov 11 2026. No macro, syntax, notation, axiom, sorry.
-/
import Derived.Test.YteamiiekpjoclaaChecked
import GoSem.Claim
import GoSem.ClaimJoined
import GoSem.ClaimMapViews
import Derived.JoinedTies
import Derived.KernelRfl
namespace Go.Proofs.Yteamiiekpjoclaa
/- THE CELL 'sum', in the pinned program and in every row, IS THE sha256 OF THE DUMP (.gsa) THAT YteamiiekpjoclaaProg.lean LOADS. Nothing in Lean hashes anything: it is a label: what it is worth is what the hold of that sum in a sandbox is worth. -/
noncomputable def Try.pinned : Pinned := { name := "yteamiiekpjoclaa", sum := "ba2202fee6a94ff3cedd842a0a9e532ad88e5a22237ef338a2fa77d50a0439b8", checked := Try.checked }
namespace Rows
def none {H : Type} : Left H := { results := [], args := [] }

/-- 'clerestorylaw19.DeltaMirrors': WHATEVER THE INPUT: true; the input reads as it did. -/
def deltaMirrorsSpec : ChangeSpec := { name := "deltaMirrors", fn := fun _ => fun
  | [d1, d2, d3, d4, d5] => { results := [.lit (.bool true)], args := [d1, d2, d3, d4, d5] }
  | _ => none }
def deltaMirrorsRow : OpenClaim := { program := "yteamiiekpjoclaa", sum := "ba2202fee6a94ff3cedd842a0a9e532ad88e5a22237ef338a2fa77d50a0439b8", func := "clerestory/clerestorylaw19.DeltaMirrors", spec := "deltaMirrors", unfollowed := true, recurses := true, apart := false }
def DeltaMirrorsSaid : Prop := deltaMirrorsRow.holds Try.pinned (OpenSpec.ofChange deltaMirrorsSpec)

/-- ITS FALSE NEIGHBOUR: 'it returns false'. Refute it at one input. -/
def deltaMirrorsWrong : ChangeSpec := { name := "deltaMirrors", fn := fun _ => fun
  | [d1, d2, d3, d4, d5] => { results := [.lit (.bool false)], args := [d1, d2, d3, d4, d5] }
  | _ => none }
def DeltaMirrorsWrongFalsely : Prop := deltaMirrorsRow.holds Try.pinned (OpenSpec.ofChange deltaMirrorsWrong)

/-- 'clerestorylaw19.DeltaSteps': WHATEVER THE INPUT: true; the input reads as it did. -/
def deltaStepsSpec : ChangeSpec := { name := "deltaSteps", fn := fun _ => fun
  | [d1, d2, d3] => { results := [.lit (.bool true)], args := [d1, d2, d3] }
  | _ => none }
def deltaStepsRow : OpenClaim := { program := "yteamiiekpjoclaa", sum := "ba2202fee6a94ff3cedd842a0a9e532ad88e5a22237ef338a2fa77d50a0439b8", func := "clerestory/clerestorylaw19.DeltaSteps", spec := "deltaSteps", unfollowed := true, recurses := true, apart := false }
def DeltaStepsSaid : Prop := deltaStepsRow.holds Try.pinned (OpenSpec.ofChange deltaStepsSpec)

/-- ITS FALSE NEIGHBOUR: 'it returns false'. Refute it at one input. -/
def deltaStepsWrong : ChangeSpec := { name := "deltaSteps", fn := fun _ => fun
  | [d1, d2, d3] => { results := [.lit (.bool false)], args := [d1, d2, d3] }
  | _ => none }
def DeltaStepsWrongFalsely : Prop := deltaStepsRow.holds Try.pinned (OpenSpec.ofChange deltaStepsWrong)

/-- 'clerestorylaw19.DeltaNothing': WHATEVER THE INPUT: true; the input reads as it did. -/
def deltaNothingSpec : ChangeSpec := { name := "deltaNothing", fn := fun _ => fun
  | [d1, d2, d3] => { results := [.lit (.bool true)], args := [d1, d2, d3] }
  | _ => none }
def deltaNothingRow : OpenClaim := { program := "yteamiiekpjoclaa", sum := "ba2202fee6a94ff3cedd842a0a9e532ad88e5a22237ef338a2fa77d50a0439b8", func := "clerestory/clerestorylaw19.DeltaNothing", spec := "deltaNothing", unfollowed := true, recurses := true, apart := false }
def DeltaNothingSaid : Prop := deltaNothingRow.holds Try.pinned (OpenSpec.ofChange deltaNothingSpec)

/-- ITS FALSE NEIGHBOUR: 'it returns false'. Refute it at one input. -/
def deltaNothingWrong : ChangeSpec := { name := "deltaNothing", fn := fun _ => fun
  | [d1, d2, d3] => { results := [.lit (.bool false)], args := [d1, d2, d3] }
  | _ => none }
def DeltaNothingWrongFalsely : Prop := deltaNothingRow.holds Try.pinned (OpenSpec.ofChange deltaNothingWrong)

/-- 'clerestorylaw08.PartSees': WHATEVER THE INPUT: true; the input reads as it did. -/
def partSeesSpec : ChangeSpec := { name := "partSees", fn := fun _ => fun
  | [d1, d2, d3] => { results := [.lit (.bool true)], args := [d1, d2, d3] }
  | _ => none }
def partSeesRow : OpenClaim := { program := "yteamiiekpjoclaa", sum := "ba2202fee6a94ff3cedd842a0a9e532ad88e5a22237ef338a2fa77d50a0439b8", func := "clerestory/clerestorylaw08.PartSees", spec := "partSees", inPlace := ["internal/bytealg.abigen_runtime_cmpstring"], unfollowed := true, recurses := true, apart := false }
def PartSeesSaid : Prop := partSeesRow.holds Try.pinned (OpenSpec.ofChange partSeesSpec)

/-- ITS FALSE NEIGHBOUR: 'it returns false'. Refute it at one input. -/
def partSeesWrong : ChangeSpec := { name := "partSees", fn := fun _ => fun
  | [d1, d2, d3] => { results := [.lit (.bool false)], args := [d1, d2, d3] }
  | _ => none }
def PartSeesWrongFalsely : Prop := partSeesRow.holds Try.pinned (OpenSpec.ofChange partSeesWrong)

/-- 'clerestorylaw18.ProjectAll': WHATEVER THE INPUT: true; the input reads as it did. -/
def projectAllSpec : ChangeSpec := { name := "projectAll", fn := fun _ => fun
  | [d1, d2, d3, d4, d5] => { results := [.lit (.bool true)], args := [d1, d2, d3, d4, d5] }
  | _ => none }
def projectAllRow : OpenClaim := { program := "yteamiiekpjoclaa", sum := "ba2202fee6a94ff3cedd842a0a9e532ad88e5a22237ef338a2fa77d50a0439b8", func := "clerestory/clerestorylaw18.ProjectAll", spec := "projectAll", inPlace := ["internal/abi.NoEscape"], unfollowed := true, recurses := true, apart := false }
def ProjectAllSaid : Prop := projectAllRow.holds Try.pinned (OpenSpec.ofChange projectAllSpec)

/-- ITS FALSE NEIGHBOUR: 'it returns false'. Refute it at one input. -/
def projectAllWrong : ChangeSpec := { name := "projectAll", fn := fun _ => fun
  | [d1, d2, d3, d4, d5] => { results := [.lit (.bool false)], args := [d1, d2, d3, d4, d5] }
  | _ => none }
def ProjectAllWrongFalsely : Prop := projectAllRow.holds Try.pinned (OpenSpec.ofChange projectAllWrong)

/-- 'clerestorylaw18.ProjectMirrors': WHATEVER THE INPUT: true; the input reads as it did. -/
def projectMirrorsSpec : ChangeSpec := { name := "projectMirrors", fn := fun _ => fun
  | [d1, d2] => { results := [.lit (.bool true)], args := [d1, d2] }
  | _ => none }
def projectMirrorsRow : OpenClaim := { program := "yteamiiekpjoclaa", sum := "ba2202fee6a94ff3cedd842a0a9e532ad88e5a22237ef338a2fa77d50a0439b8", func := "clerestory/clerestorylaw18.ProjectMirrors", spec := "projectMirrors", inPlace := ["internal/abi.NoEscape"], unfollowed := true, recurses := true, apart := false }
def ProjectMirrorsSaid : Prop := projectMirrorsRow.holds Try.pinned (OpenSpec.ofChange projectMirrorsSpec)

/-- ITS FALSE NEIGHBOUR: 'it returns false'. Refute it at one input. -/
def projectMirrorsWrong : ChangeSpec := { name := "projectMirrors", fn := fun _ => fun
  | [d1, d2] => { results := [.lit (.bool false)], args := [d1, d2] }
  | _ => none }
def ProjectMirrorsWrongFalsely : Prop := projectMirrorsRow.holds Try.pinned (OpenSpec.ofChange projectMirrorsWrong)

/- THE SECOND FORM. 'bulk': how many values and letters a reading holds, each counted each time it is reached (what is shared counts as often as it is met; a slice's spare places count too). A statement '..UptoSaid' is the law's where the arguments, and the package variables that the reading takes, are together of bulk at most 1048576: NARROWER than '..Said'. Prove '..Said' where nothing that the law and all that it calls make is longer than what came in: it says more and counts as full. Else prove '..UptoSaid'. A law counts once. -/
mutual
def uptoBulk {H : Type} : DataW H → Nat
  | .lit (.string bytes) => bytes.length + 1
  | .lit _ => 1
  | .nil => 1
  | .ptr d => uptoBulk d + 1
  | .slice elems spare => uptoBulkAll elems + uptoBulkAll spare + 1
  | .agg parts => uptoBulkAll parts + 1
  | .iface _ d => uptoBulk d + 1
  | .map entries => uptoBulkEntries entries + 1
  | .held _ => 1
def uptoBulkAll {H : Type} : List (DataW H) → Nat
  | [] => 0
  | d :: r => uptoBulk d + uptoBulkAll r
def uptoBulkEntries {H : Type} : List (Lit × DataW H) → Nat
  | [] => 0
  | x :: r => uptoBulkEntry x + uptoBulkEntries r
def uptoBulkEntry {H : Type} : Lit × DataW H → Nat
  | (.string bytes, d) => bytes.length + uptoBulk d + 1
  | (_, d) => uptoBulk d + 1
 end
def uptoSmall : (H : Type) → List (DataW H) → Bool := fun _ ds => decide (uptoBulkAll ds ≤ 1048576)
def OpenSpec.upto (s : _root_.Go.ChangeSpec) : _root_.Go.OpenSpec := { _root_.Go.OpenSpec.ofChange s with cond := some uptoSmall }

/-- 'clerestorylaw19.DeltaMirrors', WHERE WHAT IT READS IS OF BULK AT MOST 1048576: true; the input reads as it did. -/
def deltaMirrorsUptoRow : OpenClaim := { program := "yteamiiekpjoclaa", sum := "ba2202fee6a94ff3cedd842a0a9e532ad88e5a22237ef338a2fa77d50a0439b8", func := "clerestory/clerestorylaw19.DeltaMirrors", spec := "deltaMirrors", unfollowed := true, recurses := true, apart := false, narrowed := true }
def DeltaMirrorsUptoSaid : Prop := deltaMirrorsUptoRow.holds Try.pinned (OpenSpec.upto deltaMirrorsSpec)

/-- 'clerestorylaw19.DeltaSteps', WHERE WHAT IT READS IS OF BULK AT MOST 1048576: true; the input reads as it did. -/
def deltaStepsUptoRow : OpenClaim := { program := "yteamiiekpjoclaa", sum := "ba2202fee6a94ff3cedd842a0a9e532ad88e5a22237ef338a2fa77d50a0439b8", func := "clerestory/clerestorylaw19.DeltaSteps", spec := "deltaSteps", unfollowed := true, recurses := true, apart := false, narrowed := true }
def DeltaStepsUptoSaid : Prop := deltaStepsUptoRow.holds Try.pinned (OpenSpec.upto deltaStepsSpec)

/-- 'clerestorylaw19.DeltaNothing', WHERE WHAT IT READS IS OF BULK AT MOST 1048576: true; the input reads as it did. -/
def deltaNothingUptoRow : OpenClaim := { program := "yteamiiekpjoclaa", sum := "ba2202fee6a94ff3cedd842a0a9e532ad88e5a22237ef338a2fa77d50a0439b8", func := "clerestory/clerestorylaw19.DeltaNothing", spec := "deltaNothing", unfollowed := true, recurses := true, apart := false, narrowed := true }
def DeltaNothingUptoSaid : Prop := deltaNothingUptoRow.holds Try.pinned (OpenSpec.upto deltaNothingSpec)

/-- 'clerestorylaw08.PartSees', WHERE WHAT IT READS IS OF BULK AT MOST 1048576: true; the input reads as it did. -/
def partSeesUptoRow : OpenClaim := { program := "yteamiiekpjoclaa", sum := "ba2202fee6a94ff3cedd842a0a9e532ad88e5a22237ef338a2fa77d50a0439b8", func := "clerestory/clerestorylaw08.PartSees", spec := "partSees", inPlace := ["internal/bytealg.abigen_runtime_cmpstring"], unfollowed := true, recurses := true, apart := false, narrowed := true }
def PartSeesUptoSaid : Prop := partSeesUptoRow.holds Try.pinned (OpenSpec.upto partSeesSpec)

/-- 'clerestorylaw18.ProjectAll', WHERE WHAT IT READS IS OF BULK AT MOST 1048576: true; the input reads as it did. -/
def projectAllUptoRow : OpenClaim := { program := "yteamiiekpjoclaa", sum := "ba2202fee6a94ff3cedd842a0a9e532ad88e5a22237ef338a2fa77d50a0439b8", func := "clerestory/clerestorylaw18.ProjectAll", spec := "projectAll", inPlace := ["internal/abi.NoEscape"], unfollowed := true, recurses := true, apart := false, narrowed := true }
def ProjectAllUptoSaid : Prop := projectAllUptoRow.holds Try.pinned (OpenSpec.upto projectAllSpec)

/-- 'clerestorylaw18.ProjectMirrors', WHERE WHAT IT READS IS OF BULK AT MOST 1048576: true; the input reads as it did. -/
def projectMirrorsUptoRow : OpenClaim := { program := "yteamiiekpjoclaa", sum := "ba2202fee6a94ff3cedd842a0a9e532ad88e5a22237ef338a2fa77d50a0439b8", func := "clerestory/clerestorylaw18.ProjectMirrors", spec := "projectMirrors", inPlace := ["internal/abi.NoEscape"], unfollowed := true, recurses := true, apart := false, narrowed := true }
def ProjectMirrorsUptoSaid : Prop := projectMirrorsUptoRow.holds Try.pinned (OpenSpec.upto projectMirrorsSpec)

end Rows
end Go.Proofs.Yteamiiekpjoclaa
