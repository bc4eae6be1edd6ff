/- row.Join's two closures over columns: which comes first, what two are together. -/
import Derived.Test.YtkiodandnjbhoaaDoorRowSeen
import Derived.Test.YtkiodandnjbhoaaDoorCellOrd
import Derived.Test.YtkiodandnjbhoaaDoorAppCols
import Derived.Test.YtkiodandnjbhoaaDoorRegionE
namespace Go.Proofs.YtkiodandnjbhoaaDoor
open Go Go.RowKit
attribute [local go_sem] yields yUpon co5

/-- Two lists in order, those that stand for the same put together. -/
def mergeG {α : Type} (cmp : α → α → Int) (join : α → α → α) : List α → List α → List α
  | [], m => m
  | a :: l, [] => a :: l
  | a :: l, b :: m => if cmp a b < 0 then a :: mergeG cmp join l (b :: m) else if 0 < cmp a b then b :: mergeG cmp join (a :: l) m else join a b :: mergeG cmp join l m
termination_by l m => l.length + m.length
theorem mergeG_nil_left {α : Type} (cmp : α → α → Int) (join : α → α → α) (m : List α) : mergeG cmp join [] m = m := by unfold mergeG; rfl
theorem mergeG_nil_right {α : Type} (cmp : α → α → Int) (join : α → α → α) (l : List α) : mergeG cmp join l [] = l := by cases l <;> (unfold mergeG; rfl)
theorem mergeG_lt {α : Type} {cmp : α → α → Int} {join : α → α → α} {a b : α} {l m : List α} (h : cmp a b < 0) : mergeG cmp join (a :: l) (b :: m) = a :: mergeG cmp join l (b :: m) := by conv => lhs; unfold mergeG; rw [if_pos h]
theorem mergeG_gt {α : Type} {cmp : α → α → Int} {join : α → α → α} {a b : α} {l m : List α} (h : 0 < cmp a b) : mergeG cmp join (a :: l) (b :: m) = b :: mergeG cmp join (a :: l) m := by conv => lhs; unfold mergeG; rw [if_neg (by omega), if_pos h]
theorem mergeG_eq {α : Type} {cmp : α → α → Int} {join : α → α → α} {a b : α} {l m : List α} (h : cmp a b = 0) : mergeG cmp join (a :: l) (b :: m) = join a b :: mergeG cmp join l m := by conv => lhs; unfold mergeG; rw [if_neg (by omega), if_neg (by omega)]
theorem mergeG_len {α : Type} (cmp : α → α → Int) (join : α → α → α) (l m : List α) : (mergeG cmp join l m).length ≤ l.length + m.length := by
  fun_induction mergeG cmp join l m <;> simp at * <;> omega

def keyC (a b : Co) : Int := cmpB a.name.data.toList b.name.data.toList
def joinCo (a b : Co) : Co := ⟨a.name, joinCl a.cell b.cell⟩
def mergeCo (l m : List Co) : List Co := mergeG keyC joinCo l m

set_option maxHeartbeats 1000000 in
theorem rj1_any (a b : Co) (w : World) : Calls Tryd.prog 62 #[(.agg #[.string a.name, .string a.cell.val, .bool a.cell.dead, .int .i64 a.cell.at_, .int .i64 a.cell.fin]), (.agg #[.string b.name, .string b.cell.val, .bool b.cell.dead, .int .i64 b.cell.at_, .int .i64 b.cell.fin])] w fun e w' => e = .returned (.int .i64 (keyC a b)) ∧ Ext w w' := by
  go_enter Tryd.func62, Tryd.ntmps62
  go_wp2_with fail
  refine (strCompare_any _ _ _).mono ?_
  rintro e w1 ⟨rfl, rfl⟩
  go_wp2_with fail
  go_ret
  exact ⟨rfl, ((Ext.refl w).alloc _).alloc _⟩

set_option maxRecDepth 100000 in
set_option maxHeartbeats 2000000 in
theorem rj2_any (a b : Co) (w : World) : Calls Tryd.prog 64 #[(.agg #[.string a.name, .string a.cell.val, .bool a.cell.dead, .int .i64 a.cell.at_, .int .i64 a.cell.fin]), (.agg #[.string b.name, .string b.cell.val, .bool b.cell.dead, .int .i64 b.cell.at_, .int .i64 b.cell.fin])] w fun e w' => e = .returned (.agg #[.string a.name, .string (joinCl a.cell b.cell).val, .bool (joinCl a.cell b.cell).dead, .int .i64 (joinCl a.cell b.cell).at_, .int .i64 (joinCl a.cell b.cell).fin]) ∧ Ext w w' := by
  obtain ⟨a0, a1, a2, hE⟩ := boxes3 w (co5 a) (co5 b) (co5 ⟨⟨#[]⟩, zeroCl⟩) 83 83 83
  obtain ⟨c, hc⟩ : ∃ c, c = joinCl a.cell b.cell := ⟨_, rfl⟩
  rw [← hc]
  have Hc := Lib.hid hc
  clear hc
  go_enter Tryd.func64, Tryd.ntmps64
  go_wp2_with fail
  refine wp_region_in 8 [(6, fun v _ => v = (.agg #[.string c.val, .bool c.dead, .int .i64 c.at_, .int .i64 c.fin]))] (fun w0 => BoxAt w0 w.heap.size (co5 a) 83 ∧ BoxAt w0 (w.heap.size + 1) (co5 b) 83 ∧ BoxAt w0 (w.heap.size + 1 + 1) (co5 ⟨⟨#[]⟩, zeroCl⟩) 83 ∧ Ext w w0) (by kernel_rfl) (by kernel_rfl) (by kernel_rfl) ⟨stays_eq _, trivial⟩ ⟨a0, a1, a2, hE⟩ ?_
  clear a0 a1 a2 hE
  rintro w2 ⟨c0, c1, c2, hE⟩
  have FIN : Hid (∀ wx, Ext w2 wx → BoxAt wx (w.heap.size + 1 + 1) (co5 ⟨⟨#[]⟩, zeroCl⟩) 83 ∧ Ext w wx) := fun wx h => ⟨c2.ext h, hE.trans h⟩
  obtain ⟨x0, x1, x2, x3, x4⟩ := c0.co
  obtain ⟨y0, y1, y2, y3, y4⟩ := c1.co
  clear c0 c1 c2 hE
  replace x0 := held x0
  replace x1 := held x1
  replace x2 := held x2
  replace x3 := held x3
  replace x4 := held x4
  replace y1 := held y1
  replace y2 := held y2
  replace y3 := held y3
  replace y4 := held y4
  clear y0
  refine rg_quiet rfl rfl rfl rfl ?_; intro K hK; go_big_quiet_op; go_big_quiet_on
  refine rg_quiet rfl rfl rfl rfl ?_; intro K hK; go_big_quiet_op; go_big_quiet_on
  refine rg_quiet rfl rfl rfl rfl ?_; intro K hK; go_big_quiet_op; go_big_quiet_on
  refine rg_quiet rfl rfl rfl rfl ?_; intro K hK; go_big_quiet_op; go_big_quiet_on
  refine rg_quiet rfl rfl rfl rfl ?_; intro K hK; go_big_quiet_op; go_big_quiet_on
  refine rg_quiet rfl rfl rfl rfl ?_; intro K hK; go_big_quiet_op; go_big_quiet_on
  refine rg_val [] rfl rfl rfl (by kernel_rfl) (fun w1 hE hf => ?_) ?_
  · go_simp
    exact (join_c a.cell.val a.cell.dead a.cell.at_ a.cell.fin b.cell.val b.cell.dead b.cell.at_ b.cell.fin w1).mono fun e w' ⟨he, hw⟩ => ⟨_, he, rg_done hE hw (by rw [Hc.out])⟩
  simp only [Act.put, List.setIfInBounds_toArray, List.set_cons_zero, List.set_cons_succ]
  refine rg_quiet rfl rfl rfl rfl ?_; intro K hK; go_big_quiet_op; go_big_quiet_on
  refine rel_tail rfl rfl fun w5 hE5 hG => ?_
  obtain ⟨c2, hE⟩ := FIN.out w5 hE5
  clear x0 x1 x2 x3 x4 y1 y2 y3 y4 hE5 hG FIN
  go_wp2_with ((guard_target =~ wpList _ _ _ (Oper.mk none (Op.store _ (Operand.tmp 4) (Operand.tmp 12)) _ _ _ _ :: _) _ _); go_must (refine storeBox rfl 83 (.tmp 4) (.tmp 12) rfl (w.heap.size + 1 + 1) _ _ _ (by rfl) (by rfl) (c2) (by kernel_rfl) (by rfl) (by simp [Value.oneCell']) ?_); intro w6 c6 g6)
  have hX6 := hE.grown g6 (fun q hq => by cases hq; omega)
  clear hE g6 c2
  obtain ⟨z0, z1, z2, z3, z4⟩ := c6.co (c := ⟨a.name, c⟩)
  refine bodyPost_ret (v := .agg #[.string a.name, .string c.val, .bool c.dead, .int .i64 c.at_, .int .i64 c.fin]) ?_ rfl ⟨rfl, hX6⟩
  simp [results, Tryd.results64, go_sem, Act.put, z0, z1, z2, z3, z4]
end Go.Proofs.YtkiodandnjbhoaaDoor
