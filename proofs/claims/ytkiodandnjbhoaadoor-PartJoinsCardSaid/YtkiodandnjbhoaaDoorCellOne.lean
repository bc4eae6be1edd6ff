/- Cells as one thing; cell.Seen, cell.Check. -/
import Derived.Test.YtkiodandnjbhoaaDoorBase
import Derived.Test.YtkiodandnjbhoaaDoorProg
import Derived.Deep.Light
namespace Go.Proofs.YtkiodandnjbhoaaDoor
open Go Go.RowKit

structure Cl where
  val : ByteArray
  dead : Bool
  at_ : Int
  fin : Int
@[simp] theorem Cl.eta (c : Cl) : Cl.mk c.val c.dead c.at_ c.fin = c := rfl
def clCells : List Cl → List Value
  | [] => []
  | c :: l => .string c.val :: .bool c.dead :: .int .i64 c.at_ :: .int .i64 c.fin :: clCells l
theorem clCells_length (l : List Cl) : (clCells l).length = l.length * 4 := by
  induction l with
  | nil => rfl
  | cons c l ih => simp [clCells, ih]; omega
theorem clCells_get : ∀ (l : List Cl) (k : Nat) (h : k < l.length), (clCells l)[k * 4]? = some (.string l[k].val) ∧ (clCells l)[k * 4 + 1]? = some (.bool l[k].dead) ∧ (clCells l)[k * 4 + 2]? = some (.int .i64 l[k].at_) ∧ (clCells l)[k * 4 + 3]? = some (.int .i64 l[k].fin)
  | c :: l, 0, _ => by simp [clCells]
  | c :: l, k + 1, h => by
    have ih := clCells_get l k (by simpa using h)
    have e : (k + 1) * 4 = k * 4 + 4 := by omega
    simp only [e, clCells, List.getElem_cons_succ]
    exact ⟨by simpa using ih.1, by simpa using ih.2.1, by simpa using ih.2.2.1, by simpa using ih.2.2.2⟩
def ClsIn (w : World) (v : Value) (l : List Cl) : Prop := SliceIn w v l.length (clCells l)
theorem ClsIn.ext {w w' : World} (hE : Ext w w') {v : Value} {l : List Cl} (h : ClsIn w v l) : ClsIn w' v l := SliceIn.ext hE h
/-- A cell in memory. -/
structure CellAt (w : World) (b : Nat) (c : Cl) : Prop where
  c0 : w.cell? ⟨b, 0, none⟩ = some (.string c.val)
  c1 : w.cell? ⟨b, 1, none⟩ = some (.bool c.dead)
  c2 : w.cell? ⟨b, 2, none⟩ = some (.int .i64 c.at_)
  c3 : w.cell? ⟨b, 3, none⟩ = some (.int .i64 c.fin)
theorem CellAt.ext {w w' : World} (hE : Ext w w') {b : Nat} {c : Cl} (h : CellAt w b c) : CellAt w' b c := ⟨hE.cell h.c0, hE.cell h.c1, hE.cell h.c2, hE.cell h.c3⟩
theorem agg_congr {x y : Cl} (h : x = y) : ((.agg #[.string x.val, .bool x.dead, .int .i64 x.at_, .int .i64 x.fin]) : Value) = (.agg #[.string y.val, .bool y.dead, .int .i64 y.at_, .int .i64 y.fin]) := by rw [h]
theorem bool_congr {x y : Bool} (h : x = y) : Value.bool x = Value.bool y := by rw [h]
theorem int_congr {x y : Int} (h : x = y) : Value.int .i64 x = Value.int .i64 y := by rw [h]
def seenB (d : Bool) (a e now : Int) : Bool := decide (0 < a) && !d && (e == 0 || decide (now < e))
def stampB (v : Int) : Bool := decide (0 ≤ v) && decide (v ≤ 1099511627776)
def checkC (v : ByteArray) (d : Bool) (a e : Int) : Bool :=
  stampB a && stampB e && (if a = 0 then v.toList == [] && !d && e == 0 else if d then v.toList == [] && e == 0 else decide (v.size ≤ 100))

set_option maxHeartbeats 400000 in
theorem seen_any (v : ByteArray) (d : Bool) (a e n : Int) (w : World) :
    Calls Tryd.prog 72 #[.agg #[.string v, .bool d, .int .i64 a, .int .i64 e], .int .i64 n] w fun r w' => r = .returned (.bool (seenB d a e n)) ∧ Ext w w' := by
  go_enter Tryd.func72, Tryd.ntmps72
  go_wp2
  all_goals
    go_ret
    refine ⟨?_, (Ext.refl w).alloc _⟩
    refine ret_bool ?_
    first
    | (simp [seenB, *]; done)
    | (have h0 : ¬ 0 < a := by omega
       simp [seenB, h0])

end Go.Proofs.YtkiodandnjbhoaaDoor
