/-
  No cell of these rows narrows 'for every input' (looked for: loops, veiled, ifaces, maps, wideKeys, modest, calm, conditions, laid).
  DERIVED. THE GIVEN ROWS OF THIS SEAT. 10 by the template 'for every input the law returns true; each argument reads behind the call as it read before'; 0 by the template 'total and deterministic' (their statements: YtiaoplehamjbkaaTotals.lean).
  GIVEN WITH THE SEED: the statements are not yours to turn. If you find one false, say at which input.
  Laid BY PROGRAM, IN A SANDBOX (cutbox-rows.mjs): the forced cells as the released guide's own fill.sh prints them over the translation e78d4777535e23bb… (all of the seat's roots in one cut). By AI agents, Wed Nov 11 2026. No macro, syntax, notation, axiom, sorry.
-/
import Derived.Test.YtiaoplehamjbkaaChecked
import GoSem.Claim
import GoSem.ClaimJoined
import GoSem.ClaimMapViews
import Derived.JoinedTies
import Derived.KernelRfl
namespace Go.Proofs.Ytiaoplehamjbkaa
/- THE CELL 'sum', in the pinned program and in every row, IS THE sha256 OF THE DUMP (.gsa) THAT YtiaoplehamjbkaaProg.lean LOADS. Nothing in Lean hashes anything: it is a label: what it is worth is what the hold of that sum in a sandbox is worth. -/
noncomputable def Try.pinned : Pinned := { name := "ytiaoplehamjbkaa", sum := "e78d4777535e23bb0f014fce41db8b9f9fab1b0a3430d89b63744fca6bddde63", checked := Try.checked }
namespace Rows
def none {H : Type} : Left H := { results := [], args := [] }

/-- 'clerestorylaw02.OrderStands': WHATEVER THE INPUT: true; the input reads as it did. -/
def orderStandsSpec : ChangeSpec := { name := "orderStands", fn := fun _ => fun
  | [d1, d2, d3, d4, d5, d6, d7, d8] => { results := [.lit (.bool true)], args := [d1, d2, d3, d4, d5, d6, d7, d8] }
  | _ => none }
def orderStandsRow : OpenClaim := { program := "ytiaoplehamjbkaa", sum := "e78d4777535e23bb0f014fce41db8b9f9fab1b0a3430d89b63744fca6bddde63", func := "clerestory/clerestorylaw02.OrderStands", spec := "orderStands", apart := false }
def OrderStandsSaid : Prop := orderStandsRow.holds Try.pinned (OpenSpec.ofChange orderStandsSpec)

/-- ITS FALSE NEIGHBOUR: 'it returns false'. Refute it at one input. -/
def orderStandsWrong : ChangeSpec := { name := "orderStands", fn := fun _ => fun
  | [d1, d2, d3, d4, d5, d6, d7, d8] => { results := [.lit (.bool false)], args := [d1, d2, d3, d4, d5, d6, d7, d8] }
  | _ => none }
def OrderStandsWrongFalsely : Prop := orderStandsRow.holds Try.pinned (OpenSpec.ofChange orderStandsWrong)

/-- 'clerestorylaw02.OrderSizes': WHATEVER THE INPUT: true; the input reads as it did. -/
def orderSizesSpec : ChangeSpec := { name := "orderSizes", fn := fun _ => fun
  | [d1, d2, d3] => { results := [.lit (.bool true)], args := [d1, d2, d3] }
  | _ => none }
def orderSizesRow : OpenClaim := { program := "ytiaoplehamjbkaa", sum := "e78d4777535e23bb0f014fce41db8b9f9fab1b0a3430d89b63744fca6bddde63", func := "clerestory/clerestorylaw02.OrderSizes", spec := "orderSizes", apart := false }
def OrderSizesSaid : Prop := orderSizesRow.holds Try.pinned (OpenSpec.ofChange orderSizesSpec)

/-- ITS FALSE NEIGHBOUR: 'it returns false'. Refute it at one input. -/
def orderSizesWrong : ChangeSpec := { name := "orderSizes", fn := fun _ => fun
  | [d1, d2, d3] => { results := [.lit (.bool false)], args := [d1, d2, d3] }
  | _ => none }
def OrderSizesWrongFalsely : Prop := orderSizesRow.holds Try.pinned (OpenSpec.ofChange orderSizesWrong)

/-- 'clerestorylaw02.OrderLists': WHATEVER THE INPUT: true; the input reads as it did. -/
def orderListsSpec : ChangeSpec := { name := "orderLists", fn := fun _ => fun
  | [d1, d2, d3, d4] => { results := [.lit (.bool true)], args := [d1, d2, d3, d4] }
  | _ => none }
def orderListsRow : OpenClaim := { program := "ytiaoplehamjbkaa", sum := "e78d4777535e23bb0f014fce41db8b9f9fab1b0a3430d89b63744fca6bddde63", func := "clerestory/clerestorylaw02.OrderLists", spec := "orderLists", apart := false }
def OrderListsSaid : Prop := orderListsRow.holds Try.pinned (OpenSpec.ofChange orderListsSpec)

/-- ITS FALSE NEIGHBOUR: 'it returns false'. Refute it at one input. -/
def orderListsWrong : ChangeSpec := { name := "orderLists", fn := fun _ => fun
  | [d1, d2, d3, d4] => { results := [.lit (.bool false)], args := [d1, d2, d3, d4] }
  | _ => none }
def OrderListsWrongFalsely : Prop := orderListsRow.holds Try.pinned (OpenSpec.ofChange orderListsWrong)

/-- 'clerestorylaw06.CellJoins': WHATEVER THE INPUT: true; the input reads as it did. -/
def cellJoinsSpec : ChangeSpec := { name := "cellJoins", fn := fun _ => fun
  | [d1, d2, d3] => { results := [.lit (.bool true)], args := [d1, d2, d3] }
  | _ => none }
def cellJoinsRow : OpenClaim := { program := "ytiaoplehamjbkaa", sum := "e78d4777535e23bb0f014fce41db8b9f9fab1b0a3430d89b63744fca6bddde63", func := "clerestory/clerestorylaw06.CellJoins", spec := "cellJoins", inPlace := ["internal/bytealg.abigen_runtime_cmpstring"], apart := false }
def CellJoinsSaid : Prop := cellJoinsRow.holds Try.pinned (OpenSpec.ofChange cellJoinsSpec)

/-- ITS FALSE NEIGHBOUR: 'it returns false'. Refute it at one input. -/
def cellJoinsWrong : ChangeSpec := { name := "cellJoins", fn := fun _ => fun
  | [d1, d2, d3] => { results := [.lit (.bool false)], args := [d1, d2, d3] }
  | _ => none }
def CellJoinsWrongFalsely : Prop := cellJoinsRow.holds Try.pinned (OpenSpec.ofChange cellJoinsWrong)

/-- 'clerestorylaw06.CellOrders': WHATEVER THE INPUT: true; the input reads as it did. -/
def cellOrdersSpec : ChangeSpec := { name := "cellOrders", fn := fun _ => fun
  | [d1, d2, d3] => { results := [.lit (.bool true)], args := [d1, d2, d3] }
  | _ => none }
def cellOrdersRow : OpenClaim := { program := "ytiaoplehamjbkaa", sum := "e78d4777535e23bb0f014fce41db8b9f9fab1b0a3430d89b63744fca6bddde63", func := "clerestory/clerestorylaw06.CellOrders", spec := "cellOrders", inPlace := ["internal/bytealg.abigen_runtime_cmpstring"], apart := false }
def CellOrdersSaid : Prop := cellOrdersRow.holds Try.pinned (OpenSpec.ofChange cellOrdersSpec)

/-- ITS FALSE NEIGHBOUR: 'it returns false'. Refute it at one input. -/
def cellOrdersWrong : ChangeSpec := { name := "cellOrders", fn := fun _ => fun
  | [d1, d2, d3] => { results := [.lit (.bool false)], args := [d1, d2, d3] }
  | _ => none }
def CellOrdersWrongFalsely : Prop := cellOrdersRow.holds Try.pinned (OpenSpec.ofChange cellOrdersWrong)

/-- 'clerestorylaw06.CellEnds': WHATEVER THE INPUT: true; the input reads as it did. -/
def cellEndsSpec : ChangeSpec := { name := "cellEnds", fn := fun _ => fun
  | [d1, d2, d3, d4] => { results := [.lit (.bool true)], args := [d1, d2, d3, d4] }
  | _ => none }
def cellEndsRow : OpenClaim := { program := "ytiaoplehamjbkaa", sum := "e78d4777535e23bb0f014fce41db8b9f9fab1b0a3430d89b63744fca6bddde63", func := "clerestory/clerestorylaw06.CellEnds", spec := "cellEnds", inPlace := ["internal/bytealg.abigen_runtime_cmpstring"], apart := false }
def CellEndsSaid : Prop := cellEndsRow.holds Try.pinned (OpenSpec.ofChange cellEndsSpec)

/-- ITS FALSE NEIGHBOUR: 'it returns false'. Refute it at one input. -/
def cellEndsWrong : ChangeSpec := { name := "cellEnds", fn := fun _ => fun
  | [d1, d2, d3, d4] => { results := [.lit (.bool false)], args := [d1, d2, d3, d4] }
  | _ => none }
def CellEndsWrongFalsely : Prop := cellEndsRow.holds Try.pinned (OpenSpec.ofChange cellEndsWrong)

/-- 'clerestorylaw06.CellAll': WHATEVER THE INPUT: true; the input reads as it did. -/
def cellAllSpec : ChangeSpec := { name := "cellAll", fn := fun _ => fun
  | [d1, d2, d3] => { results := [.lit (.bool true)], args := [d1, d2, d3] }
  | _ => none }
def cellAllRow : OpenClaim := { program := "ytiaoplehamjbkaa", sum := "e78d4777535e23bb0f014fce41db8b9f9fab1b0a3430d89b63744fca6bddde63", func := "clerestory/clerestorylaw06.CellAll", spec := "cellAll", inPlace := ["internal/bytealg.abigen_runtime_cmpstring"], apart := false }
def CellAllSaid : Prop := cellAllRow.holds Try.pinned (OpenSpec.ofChange cellAllSpec)

/-- ITS FALSE NEIGHBOUR: 'it returns false'. Refute it at one input. -/
def cellAllWrong : ChangeSpec := { name := "cellAll", fn := fun _ => fun
  | [d1, d2, d3] => { results := [.lit (.bool false)], args := [d1, d2, d3] }
  | _ => none }
def CellAllWrongFalsely : Prop := cellAllRow.holds Try.pinned (OpenSpec.ofChange cellAllWrong)

/-- 'clerestorylaw06.CellMany': WHATEVER THE INPUT: true; the input reads as it did. -/
def cellManySpec : ChangeSpec := { name := "cellMany", fn := fun _ => fun
  | [d1, d2] => { results := [.lit (.bool true)], args := [d1, d2] }
  | _ => none }
def cellManyRow : OpenClaim := { program := "ytiaoplehamjbkaa", sum := "e78d4777535e23bb0f014fce41db8b9f9fab1b0a3430d89b63744fca6bddde63", func := "clerestory/clerestorylaw06.CellMany", spec := "cellMany", inPlace := ["internal/bytealg.abigen_runtime_cmpstring"], apart := false }
def CellManySaid : Prop := cellManyRow.holds Try.pinned (OpenSpec.ofChange cellManySpec)

/-- ITS FALSE NEIGHBOUR: 'it returns false'. Refute it at one input. -/
def cellManyWrong : ChangeSpec := { name := "cellMany", fn := fun _ => fun
  | [d1, d2] => { results := [.lit (.bool false)], args := [d1, d2] }
  | _ => none }
def CellManyWrongFalsely : Prop := cellManyRow.holds Try.pinned (OpenSpec.ofChange cellManyWrong)

/-- 'clerestorylaw02.OrderAll': WHATEVER THE INPUT: true; the input reads as it did. -/
def orderAllSpec : ChangeSpec := { name := "orderAll", fn := fun _ => fun
  | [d1, d2, d3, d4, d5] => { results := [.lit (.bool true)], args := [d1, d2, d3, d4, d5] }
  | _ => none }
def orderAllRow : OpenClaim := { program := "ytiaoplehamjbkaa", sum := "e78d4777535e23bb0f014fce41db8b9f9fab1b0a3430d89b63744fca6bddde63", func := "clerestory/clerestorylaw02.OrderAll", spec := "orderAll", inPlace := ["internal/abi.NoEscape"], apart := false }
def OrderAllSaid : Prop := orderAllRow.holds Try.pinned (OpenSpec.ofChange orderAllSpec)

/-- ITS FALSE NEIGHBOUR: 'it returns false'. Refute it at one input. -/
def orderAllWrong : ChangeSpec := { name := "orderAll", fn := fun _ => fun
  | [d1, d2, d3, d4, d5] => { results := [.lit (.bool false)], args := [d1, d2, d3, d4, d5] }
  | _ => none }
def OrderAllWrongFalsely : Prop := orderAllRow.holds Try.pinned (OpenSpec.ofChange orderAllWrong)

/-- 'clerestorylaw02.OrderBack': WHATEVER THE INPUT: true; the input reads as it did. -/
def orderBackSpec : ChangeSpec := { name := "orderBack", fn := fun _ => fun
  | [d1, d2, d3, d4, d5] => { results := [.lit (.bool true)], args := [d1, d2, d3, d4, d5] }
  | _ => none }
def orderBackRow : OpenClaim := { program := "ytiaoplehamjbkaa", sum := "e78d4777535e23bb0f014fce41db8b9f9fab1b0a3430d89b63744fca6bddde63", func := "clerestory/clerestorylaw02.OrderBack", spec := "orderBack", inPlace := ["internal/abi.NoEscape"], apart := false }
def OrderBackSaid : Prop := orderBackRow.holds Try.pinned (OpenSpec.ofChange orderBackSpec)

/-- ITS FALSE NEIGHBOUR: 'it returns false'. Refute it at one input. -/
def orderBackWrong : ChangeSpec := { name := "orderBack", fn := fun _ => fun
  | [d1, d2, d3, d4, d5] => { results := [.lit (.bool false)], args := [d1, d2, d3, d4, d5] }
  | _ => none }
def OrderBackWrongFalsely : Prop := orderBackRow.holds Try.pinned (OpenSpec.ofChange orderBackWrong)

/- THE SECOND FORM. 'bulk': how many values and letters a reading holds, each counted each time it is reached (what is shared counts as often as it is met; a slice's spare places count too). A statement '..UptoSaid' is the law's where the arguments, and the package variables that the reading takes, are together of bulk at most 1048576: NARROWER than '..Said'. Prove '..Said' where nothing that the law and all that it calls make is longer than what came in: it says more and counts as full. Else prove '..UptoSaid'. A law counts once. -/
mutual
def uptoBulk {H : Type} : DataW H → Nat
  | .lit (.string bytes) => bytes.length + 1
  | .lit _ => 1
  | .nil => 1
  | .ptr d => uptoBulk d + 1
  | .slice elems spare => uptoBulkAll elems + uptoBulkAll spare + 1
  | .agg parts => uptoBulkAll parts + 1
  | .iface _ d => uptoBulk d + 1
  | .map entries => uptoBulkEntries entries + 1
  | .held _ => 1
def uptoBulkAll {H : Type} : List (DataW H) → Nat
  | [] => 0
  | d :: r => uptoBulk d + uptoBulkAll r
def uptoBulkEntries {H : Type} : List (Lit × DataW H) → Nat
  | [] => 0
  | x :: r => uptoBulkEntry x + uptoBulkEntries r
def uptoBulkEntry {H : Type} : Lit × DataW H → Nat
  | (.string bytes, d) => bytes.length + uptoBulk d + 1
  | (_, d) => uptoBulk d + 1
 end
def uptoSmall : (H : Type) → List (DataW H) → Bool := fun _ ds => decide (uptoBulkAll ds ≤ 1048576)
def OpenSpec.upto (s : _root_.Go.ChangeSpec) : _root_.Go.OpenSpec := { _root_.Go.OpenSpec.ofChange s with cond := some uptoSmall }

/-- 'clerestorylaw02.OrderStands', WHERE WHAT IT READS IS OF BULK AT MOST 1048576: true; the input reads as it did. -/
def orderStandsUptoRow : OpenClaim := { program := "ytiaoplehamjbkaa", sum := "e78d4777535e23bb0f014fce41db8b9f9fab1b0a3430d89b63744fca6bddde63", func := "clerestory/clerestorylaw02.OrderStands", spec := "orderStands", apart := false, narrowed := true }
def OrderStandsUptoSaid : Prop := orderStandsUptoRow.holds Try.pinned (OpenSpec.upto orderStandsSpec)

/-- 'clerestorylaw02.OrderSizes', WHERE WHAT IT READS IS OF BULK AT MOST 1048576: true; the input reads as it did. -/
def orderSizesUptoRow : OpenClaim := { program := "ytiaoplehamjbkaa", sum := "e78d4777535e23bb0f014fce41db8b9f9fab1b0a3430d89b63744fca6bddde63", func := "clerestory/clerestorylaw02.OrderSizes", spec := "orderSizes", apart := false, narrowed := true }
def OrderSizesUptoSaid : Prop := orderSizesUptoRow.holds Try.pinned (OpenSpec.upto orderSizesSpec)

/-- 'clerestorylaw02.OrderLists', WHERE WHAT IT READS IS OF BULK AT MOST 1048576: true; the input reads as it did. -/
def orderListsUptoRow : OpenClaim := { program := "ytiaoplehamjbkaa", sum := "e78d4777535e23bb0f014fce41db8b9f9fab1b0a3430d89b63744fca6bddde63", func := "clerestory/clerestorylaw02.OrderLists", spec := "orderLists", apart := false, narrowed := true }
def OrderListsUptoSaid : Prop := orderListsUptoRow.holds Try.pinned (OpenSpec.upto orderListsSpec)

/-- 'clerestorylaw06.CellJoins', WHERE WHAT IT READS IS OF BULK AT MOST 1048576: true; the input reads as it did. -/
def cellJoinsUptoRow : OpenClaim := { program := "ytiaoplehamjbkaa", sum := "e78d4777535e23bb0f014fce41db8b9f9fab1b0a3430d89b63744fca6bddde63", func := "clerestory/clerestorylaw06.CellJoins", spec := "cellJoins", inPlace := ["internal/bytealg.abigen_runtime_cmpstring"], apart := false, narrowed := true }
def CellJoinsUptoSaid : Prop := cellJoinsUptoRow.holds Try.pinned (OpenSpec.upto cellJoinsSpec)

/-- 'clerestorylaw06.CellOrders', WHERE WHAT IT READS IS OF BULK AT MOST 1048576: true; the input reads as it did. -/
def cellOrdersUptoRow : OpenClaim := { program := "ytiaoplehamjbkaa", sum := "e78d4777535e23bb0f014fce41db8b9f9fab1b0a3430d89b63744fca6bddde63", func := "clerestory/clerestorylaw06.CellOrders", spec := "cellOrders", inPlace := ["internal/bytealg.abigen_runtime_cmpstring"], apart := false, narrowed := true }
def CellOrdersUptoSaid : Prop := cellOrdersUptoRow.holds Try.pinned (OpenSpec.upto cellOrdersSpec)

/-- 'clerestorylaw06.CellEnds', WHERE WHAT IT READS IS OF BULK AT MOST 1048576: true; the input reads as it did. -/
def cellEndsUptoRow : OpenClaim := { program := "ytiaoplehamjbkaa", sum := "e78d4777535e23bb0f014fce41db8b9f9fab1b0a3430d89b63744fca6bddde63", func := "clerestory/clerestorylaw06.CellEnds", spec := "cellEnds", inPlace := ["internal/bytealg.abigen_runtime_cmpstring"], apart := false, narrowed := true }
def CellEndsUptoSaid : Prop := cellEndsUptoRow.holds Try.pinned (OpenSpec.upto cellEndsSpec)

/-- 'clerestorylaw06.CellAll', WHERE WHAT IT READS IS OF BULK AT MOST 1048576: true; the input reads as it did. -/
def cellAllUptoRow : OpenClaim := { program := "ytiaoplehamjbkaa", sum := "e78d4777535e23bb0f014fce41db8b9f9fab1b0a3430d89b63744fca6bddde63", func := "clerestory/clerestorylaw06.CellAll", spec := "cellAll", inPlace := ["internal/bytealg.abigen_runtime_cmpstring"], apart := false, narrowed := true }
def CellAllUptoSaid : Prop := cellAllUptoRow.holds Try.pinned (OpenSpec.upto cellAllSpec)

/-- 'clerestorylaw06.CellMany', WHERE WHAT IT READS IS OF BULK AT MOST 1048576: true; the input reads as it did. -/
def cellManyUptoRow : OpenClaim := { program := "ytiaoplehamjbkaa", sum := "e78d4777535e23bb0f014fce41db8b9f9fab1b0a3430d89b63744fca6bddde63", func := "clerestory/clerestorylaw06.CellMany", spec := "cellMany", inPlace := ["internal/bytealg.abigen_runtime_cmpstring"], apart := false, narrowed := true }
def CellManyUptoSaid : Prop := cellManyUptoRow.holds Try.pinned (OpenSpec.upto cellManySpec)

/-- 'clerestorylaw02.OrderAll', WHERE WHAT IT READS IS OF BULK AT MOST 1048576: true; the input reads as it did. -/
def orderAllUptoRow : OpenClaim := { program := "ytiaoplehamjbkaa", sum := "e78d4777535e23bb0f014fce41db8b9f9fab1b0a3430d89b63744fca6bddde63", func := "clerestory/clerestorylaw02.OrderAll", spec := "orderAll", inPlace := ["internal/abi.NoEscape"], apart := false, narrowed := true }
def OrderAllUptoSaid : Prop := orderAllUptoRow.holds Try.pinned (OpenSpec.upto orderAllSpec)

/-- 'clerestorylaw02.OrderBack', WHERE WHAT IT READS IS OF BULK AT MOST 1048576: true; the input reads as it did. -/
def orderBackUptoRow : OpenClaim := { program := "ytiaoplehamjbkaa", sum := "e78d4777535e23bb0f014fce41db8b9f9fab1b0a3430d89b63744fca6bddde63", func := "clerestory/clerestorylaw02.OrderBack", spec := "orderBack", inPlace := ["internal/abi.NoEscape"], apart := false, narrowed := true }
def OrderBackUptoSaid : Prop := orderBackUptoRow.holds Try.pinned (OpenSpec.upto orderBackSpec)

end Rows
end Go.Proofs.Ytiaoplehamjbkaa
