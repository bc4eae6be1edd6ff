/- Cells as one thing; cell.Seen, cell.Check. (what a smaller cut has) -/
import Derived.Test.YtolkhjdododdaaaGreatDoorP2
import Derived.Test.YtolkhjdododdaaaGreatDoorP1
import Derived.Test.YtolkhjdododdaaaGreatDoorProg
import Derived.Deep.Light
import Derived.Test.YtolkhjdododdaaaGreatDoorP3
set_option linter.unusedSimpArgs false
set_option linter.unusedVariables false
namespace Go.Proofs.YtolkhjdododdaaaGreatDoor
open Go Go.RowKit

end Go.Proofs.YtolkhjdododdaaaGreatDoor

/- Rows and columns as plain data; how they lie in memory; row.Cell, row.Gone. -/
namespace Go.Proofs.YtolkhjdododdaaaGreatDoor
open Go Go.RowKit
attribute [local go_sem] yields yUpon

set_option maxRecDepth 100000 in
set_option maxHeartbeats 1000000 in
theorem rcell_any (r : Ro) (v : Value) (name : ByteArray) (w : World) (hin : ColsIn w v r.cols) :
  Calls Tryz.prog 97 #[(.agg #[.string r.key, .string r.live.val, .bool r.live.dead, .int .i64 r.live.at_, .int .i64 r.live.fin, .int .i64 r.gone, .int .i64 r.shade, v]), .string name] w fun e w' => e = .returned (.agg #[.string (cellOf r.cols name).val, .bool (cellOf r.cols name).dead, .int .i64 (cellOf r.cols name).at_, .int .i64 (cellOf r.cols name).fin]) ∧ Ext w w' := by
 obtain ⟨a, c, rfl, hc, hcm, hcell⟩ := hin.get
 obtain ⟨l, hl⟩ : ∃ l, l = r.cols := ⟨_, rfl⟩
 rw [← hl] at hcell hc ⊢
 have HC := Lib.hid hcell
 clear hcell hin hl
 go_enter Tryz.func97, Tryz.ntmps97
 go_wp2
 go_loopw [10] (fun i wr => ∃ k : Nat, k ≤ l.length ∧ i = .int .i64 k ∧ BoxAt wr (w.heap.size + 1) (cl4 zeroCl) 44 ∧ Ext w wr ∧ Hid (cellOf l name = cellOf (l.drop k) name)) (fun i _ => l.length - (intOf i).toNat)
 case atStart => exact ⟨0, Nat.zero_le _, rfl, by have := BoxAt.made (w.alloc (.cells #[.string r.key, .string r.live.val, .bool r.live.dead, .int .i64 r.live.at_, .int .i64 r.live.fin, .int .i64 r.gone, .int .i64 r.shade, .slice a l.length c] 47)) (cl4 zeroCl) 44; rw [Deep.nblk_alloc] at this; exact this, ((Ext.refl w).alloc _).alloc _, rfl⟩
 case round =>
  obtain ⟨k, hk, rfl, hbox, hE, HX⟩ := hrel
  have x0 := (hbox.cell 0).trans (show (cl4 zeroCl)[0]? = some (Value.string ⟨#[]⟩) from rfl)
  have x1 := (hbox.cell 1).trans (show (cl4 zeroCl)[1]? = some (Value.bool false) from rfl)
  have x2 := (hbox.cell 2).trans (show (cl4 zeroCl)[2]? = some (Value.int .i64 0) from rfl)
  have x3 := (hbox.cell 3).trans (show (cl4 zeroCl)[3]? = some (Value.int .i64 0) from rfl)
  have xf := hbox.free
  have yf : ∀ o i, (wr.alloc o).frozen? ⟨w.heap.size + 1, i, none⟩ = false := fun o i => (hbox.ext ((Ext.refl wr).alloc o)).free i
  have y0 : ∀ o, (wr.alloc o).cell? ⟨w.heap.size + 1, 0, none⟩ = some (.string ⟨#[]⟩) := fun o => (hbox.ext ((Ext.refl wr).alloc o)).cell 0
  have y1 : ∀ o, (wr.alloc o).cell? ⟨w.heap.size + 1, 1, none⟩ = some (.bool false) := fun o => (hbox.ext ((Ext.refl wr).alloc o)).cell 1
  have y2 : ∀ o, (wr.alloc o).cell? ⟨w.heap.size + 1, 2, none⟩ = some (.int .i64 0) := fun o => (hbox.ext ((Ext.refl wr).alloc o)).cell 2
  have y3 : ∀ o, (wr.alloc o).cell? ⟨w.heap.size + 1, 3, none⟩ = some (.int .i64 0) := fun o => (hbox.ext ((Ext.refl wr).alloc o)).cell 3
  by_cases hlt : k < l.length
  ·obtain ⟨b, o, rfl, hco⟩ := HC.out k hlt
   obtain ⟨M, hM⟩ : ∃ M, M = l[k] := ⟨_, rfl⟩
   rw [← hM] at hco
   have HD : Hid (l.drop k = M :: l.drop (k + 1)) := by rw [hM]; exact List.drop_eq_getElem_cons hlt
   clear hM
   replace hco := hco.ext hE
   obtain ⟨g0, g1, g2, g3, g4⟩ := hco
   cases hname : (M.name.toList == name.toList)
   ·go_wp2_with fail
    go_roundw
    case rel =>
     refine ⟨k + 1, by omega, by go_num, hbox.ext ((Ext.refl _).alloc _), hE.alloc _, ?_⟩
     show cellOf l name = _
     rw [HX.out, HD.out, cellOf, if_neg (by rw [hname]; decide)]
    case measure => simp [intOf] <;> omega
   ·go_wp2_with fail
    have e1 : cellOf l name = M.cell := by rw [HX.out, HD.out, cellOf, if_pos hname]
    rw [e1]
    refine bodyPost_ret (v := (.agg #[.string M.cell.val, .bool M.cell.dead, .int .i64 M.cell.at_, .int .i64 M.cell.fin])) ?_ rfl ⟨rfl, (hE.alloc _).put4 (Nat.le_succ _)⟩
    generalize hW : World.setCell _ _ _ = w9
    have hb : BoxAt w9 (w.heap.size + 1) (cl4 M.cell) 44 := by rw [← hW]; exact (hbox.ext ((Ext.refl _).alloc _)).put4 (d := M.cell)
    obtain ⟨z0, z1, z2, z3⟩ := hb.cl
    simp [results, Tryz.results97, go_sem, z0, z1, z2, z3]
  ·have e1 : cellOf l name = zeroCl := by rw [HX.out, List.drop_eq_nil_of_le (by omega)]; rfl
   go_wp2_with fail
   rw [e1]
   refine bodyPost_ret (v := (.agg #[.string zeroCl.val, .bool zeroCl.dead, .int .i64 zeroCl.at_, .int .i64 zeroCl.fin])) ?_ rfl ⟨rfl, hE.put4 (Nat.le_succ _)⟩
   generalize hW : World.setCell _ _ _ = w9
   have hb : BoxAt w9 (w.heap.size + 1) (cl4 zeroCl) 44 := by rw [← hW]; exact hbox.put4 (d := zeroCl)
   obtain ⟨z0, z1, z2, z3⟩ := hb.cl
   simp [results, Tryz.results97, go_sem, z0, z1, z2, z3]

set_option maxRecDepth 100000 in
set_option maxHeartbeats 1000000 in
theorem rgone_any (r : Ro) (v : Value) (part : Int) (w : World) :
  Calls Tryz.prog 38 #[(.agg #[.string r.key, .string r.live.val, .bool r.live.dead, .int .i64 r.live.at_, .int .i64 r.live.fin, .int .i64 r.gone, .int .i64 r.shade, v]), .int .i64 part] w fun e w' => e = .returned (.int .i64 (max r.gone part)) ∧ Ext w w' := by
 go_enter Tryz.func38, Tryz.ntmps38
 go_wp2
 all_goals
  go_ret
  exact ⟨ret_int (by omega), (Ext.refl w).alloc _⟩
end Go.Proofs.YtolkhjdododdaaaGreatDoor

/- row.Best. -/
namespace Go.Proofs.YtolkhjdododdaaaGreatDoor
open Go Go.RowKit
attribute [local go_sem] yields yUpon

/-- Does a cell count? -/
def bestB (c : Cl) (g : Int) : Bool := !(c.dead || decide (c.at_ < 1) || decide (c.at_ ≤ g))
def bestC (c : Cl) (g : Int) : Cl := if bestB c g then c else zeroCl

set_option maxRecDepth 100000 in
set_option maxHeartbeats 2000000 in
theorem best_any (r : Ro) (v : Value) (part : Int) (name : ByteArray) (w : World) (hin : ColsIn w v r.cols) :
  Calls Tryz.prog 94 #[(.agg #[.string r.key, .string r.live.val, .bool r.live.dead, .int .i64 r.live.at_, .int .i64 r.live.fin, .int .i64 r.gone, .int .i64 r.shade, v]), .int .i64 part, .string name] w fun e w' =>
   e = .returned (.tuple #[(.agg #[.string (bestC (cellOf r.cols name) (max r.gone part)).val, .bool (bestC (cellOf r.cols name) (max r.gone part)).dead, .int .i64 (bestC (cellOf r.cols name) (max r.gone part)).at_, .int .i64 (bestC (cellOf r.cols name) (max r.gone part)).fin]), .bool (bestB (cellOf r.cols name) (max r.gone part))]) ∧ Ext w w' := by
 obtain ⟨c, hc⟩ : ∃ c, c = cellOf r.cols name := ⟨_, rfl⟩
 rw [← hc]
 have HC := Lib.hid hc
 clear hc
 go_enter Tryz.func94, Tryz.ntmps94
 go_wp2_with fail
 refine (rcell_any r v name _ (hin.ext (((Ext.refl w).alloc _).alloc _))).mono ?_
 rw [← HC.out]
 rintro e w1 ⟨rfl, hE1⟩
 have b0 : BoxAt w1 w.heap.size (ro8 r v) 47 := ((BoxAt.made w (ro8 r v) 47).ext ((Ext.refl _).alloc _)).ext hE1
 have b1 : BoxAt w1 (w.heap.size + 1) (cl4 zeroCl) 44 := (by have := BoxAt.made (w.alloc (.cells (ro8 r v) 47)) (cl4 zeroCl) 44; rw [Deep.nblk_alloc] at this; exact this : BoxAt _ (w.heap.size + 1) (cl4 zeroCl) 44).ext hE1
 replace hE1 := (((Ext.refl w).alloc _).alloc _).trans hE1
 go_wp2_with fail
 refine wp_region_in 15 [(12, fun v _ => v = .int .i64 (max r.gone part))] (fun w0 => BoxAt w0 w1.heap.size (cl4 c) 44 ∧ BoxAt w0 w.heap.size (ro8 r v) 47 ∧ BoxAt w0 (w.heap.size + 1) (cl4 zeroCl) 44 ∧ Ext w w0) (by kernel_rfl) (by kernel_rfl) (by kernel_rfl) ⟨stays_eq _, trivial⟩ ?_ ?_
 ·exact ⟨BoxAt.made _ _ _, b0.ext ((Ext.refl _).alloc _), b1.ext ((Ext.refl _).alloc _), hE1.alloc _⟩
 clear b0 b1 hE1
 rintro w2 ⟨b2, b0, b1, hE⟩
 have fin : ∀ (wx : World), Ext w2 wx → BoxAt wx w1.heap.size (cl4 c) 44 ∧ BoxAt wx (w.heap.size + 1) (cl4 zeroCl) 44 ∧ Ext w wx := fun wx h => ⟨b2.ext h, b1.ext h, hE.trans h⟩
 have FIN := Lib.hid fin
 clear fin b1
 obtain ⟨x0, x1, x2, x3⟩ := b2.cl
 obtain ⟨y0, y1, y2, y3, y4, y5, y6, y7⟩ := b0.ro
 clear b2 b0
 replace x1 := held x1
 replace x2 := held x2
 replace y0 := held y0
 replace y1 := held y1
 replace y2 := held y2
 replace y3 := held y3
 replace y4 := held y4
 replace y5 := held y5
 replace y6 := held y6
 replace y7 := held y7
 clear x0 x3
 by_cases hb : bestB c (max r.gone part) = true
 ·have hb0 := hb
  simp only [bestB, Bool.not_eq_true', Bool.or_eq_false_iff] at hb0
  obtain ⟨⟨d0, d1⟩, d2⟩ := hb0
  have HB : Hid (bestC c (max r.gone part) = c ∧ bestB c (max r.gone part) = true) := ⟨by unfold bestC; rw [if_pos hb], hb⟩
  rw [d0] at x1
  clear hb
  refine rg_quiet rfl rfl rfl rfl ?_; intro K hK; go_big_quiet_op; go_big_quiet_on
  refine rg_quiet rfl rfl rfl rfl ?_; intro K hK; go_big_quiet_op; go_big_quiet_on
  refine rg_quiet rfl rfl rfl rfl ?_; intro K hK; go_big_quiet_op; go_big_quiet_on
  refine rg_quiet rfl rfl rfl rfl ?_; intro K hK; go_big_quiet_op; go_big_quiet_on
  refine rg_quiet rfl rfl rfl rfl ?_; intro K hK; go_big_quiet_op; go_big_quiet_on
  refine rg_quiet rfl rfl rfl rfl ?_; intro K hK; go_big_quiet_op; go_big_quiet_on
  refine rg_quiet rfl rfl rfl rfl ?_; intro K hK; go_big_quiet_op; go_big_quiet_on
  refine rg_quiet rfl rfl rfl rfl ?_; intro K hK; go_big_quiet_op; go_big_quiet_on
  refine rg_quiet rfl rfl rfl rfl ?_; intro K hK; go_big_quiet_op; go_big_quiet_on
  refine rg_quiet rfl rfl rfl rfl ?_; intro K hK; go_big_quiet_op; go_big_quiet_on
  refine rg_quiet rfl rfl rfl rfl ?_; intro K hK; go_big_quiet_op; go_big_quiet_on
  refine rg_quiet rfl rfl rfl rfl ?_; intro K hK; go_big_quiet_op; go_big_quiet_on
  refine rg_val [] rfl rfl rfl (by kernel_rfl) (fun w1 hE hf => ?_) ?_
  ·go_simp
   exact (rgone_any r v part w1).mono fun e w' ⟨he, hw⟩ => ⟨_, he, rg_done hE hw (rfl)⟩
  simp only [Act.put, List.setIfInBounds_toArray, List.set_cons_zero, List.set_cons_succ]
  refine rg_quiet rfl rfl rfl rfl ?_; intro K hK; go_big_quiet_op; go_big_quiet_on
  refine rg_quiet rfl rfl rfl rfl ?_; intro K hK; go_big_quiet_op; go_big_quiet_on
  refine rel_nil fun w5 hE5 _ => ?_
  obtain ⟨b2, b1, hX⟩ := FIN.out w5 hE5
  clear d0 d1 d2 x1 x2 y0 y1 y2 y3 y4 y5 y6 y7 hE5 FIN hE
  obtain ⟨x0, x1, x2, x3⟩ := b2.cl
  obtain ⟨z0, z1, z2, z3⟩ := b1.cl
  have xf := b1.free
  go_wp2_with fail
  rw [HB.out.1, HB.out.2]
  refine bodyPost_ret (v := .tuple #[(.agg #[.string c.val, .bool c.dead, .int .i64 c.at_, .int .i64 c.fin]), .bool true]) ?_ rfl ⟨rfl, hX.put4 (Nat.le_succ _)⟩
  generalize hW : World.setCell _ _ _ = w9
  have hb : BoxAt w9 (w.heap.size + 1) (cl4 c) 44 := by rw [← hW]; exact b1.put4 (d := c)
  obtain ⟨q0, q1, q2, q3⟩ := hb.cl
  simp [results, Tryz.results94, go_sem, q0, q1, q2, q3]
 ·have HB : Hid (bestC c (max r.gone part) = zeroCl ∧ bestB c (max r.gone part) = false) := by simp only [Bool.not_eq_true] at hb; exact ⟨by unfold bestC; rw [if_neg (by rw [hb]; decide)], hb⟩
  cases d0 : c.dead
  ·rw [d0] at x1
   cases d1 : decide (c.at_ < 1)
   ·have d2 : decide (c.at_ ≤ max r.gone part) = true := by
     simp only [bestB, Bool.not_eq_true', d0, d1] at hb
     simpa using hb
    clear hb
    refine rg_quiet rfl rfl rfl rfl ?_; intro K hK; go_big_quiet_op; go_big_quiet_on
    refine rg_quiet rfl rfl rfl rfl ?_; intro K hK; go_big_quiet_op; go_big_quiet_on
    refine rg_quiet rfl rfl rfl rfl ?_; intro K hK; go_big_quiet_op; go_big_quiet_on
    refine rg_quiet rfl rfl rfl rfl ?_; intro K hK; go_big_quiet_op; go_big_quiet_on
    refine rg_quiet rfl rfl rfl rfl ?_; intro K hK; go_big_quiet_op; go_big_quiet_on
    refine rg_quiet rfl rfl rfl rfl ?_; intro K hK; go_big_quiet_op; go_big_quiet_on
    refine rg_quiet rfl rfl rfl rfl ?_; intro K hK; go_big_quiet_op; go_big_quiet_on
    refine rg_quiet rfl rfl rfl rfl ?_; intro K hK; go_big_quiet_op; go_big_quiet_on
    refine rg_quiet rfl rfl rfl rfl ?_; intro K hK; go_big_quiet_op; go_big_quiet_on
    refine rg_quiet rfl rfl rfl rfl ?_; intro K hK; go_big_quiet_op; go_big_quiet_on
    refine rg_quiet rfl rfl rfl rfl ?_; intro K hK; go_big_quiet_op; go_big_quiet_on
    refine rg_quiet rfl rfl rfl rfl ?_; intro K hK; go_big_quiet_op; go_big_quiet_on
    refine rg_val [] rfl rfl rfl (by kernel_rfl) (fun w1 hE hf => ?_) ?_
    ·go_simp
     exact (rgone_any r v part w1).mono fun e w' ⟨he, hw⟩ => ⟨_, he, rg_done hE hw (rfl)⟩
    simp only [Act.put, List.setIfInBounds_toArray, List.set_cons_zero, List.set_cons_succ]
    refine rg_quiet rfl rfl rfl rfl ?_; intro K hK; go_big_quiet_op; go_big_quiet_on
    refine rg_quiet rfl rfl rfl rfl ?_; intro K hK; go_big_quiet_op; go_big_quiet_on
    refine rel_nil fun w5 hE5 _ => ?_
    obtain ⟨b2, b1, hX⟩ := FIN.out w5 hE5
    clear x1 x2 y0 y1 y2 y3 y4 y5 y6 y7 hE5 FIN hE
    obtain ⟨z0, z1, z2, z3⟩ := b1.cl
    have xf := b1.free
    go_wp2_with fail
    rw [HB.out.1, HB.out.2]
    refine bodyPost_ret (v := .tuple #[(.agg #[.string zeroCl.val, .bool zeroCl.dead, .int .i64 zeroCl.at_, .int .i64 zeroCl.fin]), .bool false]) ?_ rfl ⟨rfl, hX.put4 (Nat.le_succ _)⟩
    generalize hW : World.setCell _ _ _ = w9
    have hb : BoxAt w9 (w.heap.size + 1) (cl4 zeroCl) 44 := by rw [← hW]; exact b1.put4 (d := zeroCl)
    obtain ⟨q0, q1, q2, q3⟩ := hb.cl
    simp [results, Tryz.results94, go_sem, q0, q1, q2, q3]
   ·clear hb
    refine rg_quiet rfl rfl rfl rfl ?_; intro K hK; go_big_quiet_op; go_big_quiet_on
    refine rg_quiet rfl rfl rfl rfl ?_; intro K hK; go_big_quiet_op; go_big_quiet_on
    refine rg_quiet rfl rfl rfl rfl ?_; intro K hK; go_big_quiet_op; go_big_quiet_on
    refine rg_quiet rfl rfl rfl rfl ?_; intro K hK; go_big_quiet_op; go_big_quiet_on
    refine rg_quiet rfl rfl rfl rfl ?_; intro K hK; go_big_quiet_op; go_big_quiet_on
    refine rg_quiet rfl rfl rfl rfl ?_; intro K hK; go_big_quiet_op; go_big_quiet_on
    refine rg_quiet rfl rfl rfl rfl ?_; intro K hK; go_big_quiet_op; go_big_quiet_on
    refine rg_quiet rfl rfl rfl rfl ?_; intro K hK; go_big_quiet_op; go_big_quiet_on
    refine rel_skip rfl rfl ?_
    simp only [Act.put, List.setIfInBounds_toArray, List.set_cons_zero, List.set_cons_succ]
    refine rel_skip rfl rfl ?_
    simp only [Act.put, List.setIfInBounds_toArray, List.set_cons_zero, List.set_cons_succ]
    refine rel_skip rfl rfl ?_
    simp only [Act.put, List.setIfInBounds_toArray, List.set_cons_zero, List.set_cons_succ]
    refine rel_skip rfl rfl ?_
    simp only [Act.put, List.setIfInBounds_toArray, List.set_cons_zero, List.set_cons_succ]
    refine rel_skip rfl rfl ?_
    simp only [Act.put, List.setIfInBounds_toArray, List.set_cons_zero, List.set_cons_succ]
    refine rel_skip rfl rfl ?_
    simp only [Act.put, List.setIfInBounds_toArray, List.set_cons_zero, List.set_cons_succ]
    refine rg_quiet rfl rfl rfl rfl ?_; intro K hK; go_big_quiet_op; go_big_quiet_on
    refine rel_nil fun w5 hE5 _ => ?_
    obtain ⟨b2, b1, hX⟩ := FIN.out w5 hE5
    clear x1 x2 y0 y1 y2 y3 y4 y5 y6 y7 hE5 FIN hE
    obtain ⟨z0, z1, z2, z3⟩ := b1.cl
    have xf := b1.free
    go_wp2_with fail
    rw [HB.out.1, HB.out.2]
    refine bodyPost_ret (v := .tuple #[(.agg #[.string zeroCl.val, .bool zeroCl.dead, .int .i64 zeroCl.at_, .int .i64 zeroCl.fin]), .bool false]) ?_ rfl ⟨rfl, hX.put4 (Nat.le_succ _)⟩
    generalize hW : World.setCell _ _ _ = w9
    have hb : BoxAt w9 (w.heap.size + 1) (cl4 zeroCl) 44 := by rw [← hW]; exact b1.put4 (d := zeroCl)
    obtain ⟨q0, q1, q2, q3⟩ := hb.cl
    simp [results, Tryz.results94, go_sem, q0, q1, q2, q3]
  ·rw [d0] at x1
   clear hb
   refine rg_quiet rfl rfl rfl rfl ?_; intro K hK; go_big_quiet_op; go_big_quiet_on
   refine rg_quiet rfl rfl rfl rfl ?_; intro K hK; go_big_quiet_op; go_big_quiet_on
   refine rg_quiet rfl rfl rfl rfl ?_; intro K hK; go_big_quiet_op; go_big_quiet_on
   refine rel_skip rfl rfl ?_
   simp only [Act.put, List.setIfInBounds_toArray, List.set_cons_zero, List.set_cons_succ]
   refine rel_skip rfl rfl ?_
   simp only [Act.put, List.setIfInBounds_toArray, List.set_cons_zero, List.set_cons_succ]
   refine rel_skip rfl rfl ?_
   simp only [Act.put, List.setIfInBounds_toArray, List.set_cons_zero, List.set_cons_succ]
   refine rg_quiet rfl rfl rfl rfl ?_; intro K hK; go_big_quiet_op; go_big_quiet_on
   refine rg_quiet rfl rfl rfl rfl ?_; intro K hK; go_big_quiet_op; go_big_quiet_on
   refine rel_skip rfl rfl ?_
   simp only [Act.put, List.setIfInBounds_toArray, List.set_cons_zero, List.set_cons_succ]
   refine rel_skip rfl rfl ?_
   simp only [Act.put, List.setIfInBounds_toArray, List.set_cons_zero, List.set_cons_succ]
   refine rel_skip rfl rfl ?_
   simp only [Act.put, List.setIfInBounds_toArray, List.set_cons_zero, List.set_cons_succ]
   refine rel_skip rfl rfl ?_
   simp only [Act.put, List.setIfInBounds_toArray, List.set_cons_zero, List.set_cons_succ]
   refine rel_skip rfl rfl ?_
   simp only [Act.put, List.setIfInBounds_toArray, List.set_cons_zero, List.set_cons_succ]
   refine rel_skip rfl rfl ?_
   simp only [Act.put, List.setIfInBounds_toArray, List.set_cons_zero, List.set_cons_succ]
   refine rg_quiet rfl rfl rfl rfl ?_; intro K hK; go_big_quiet_op; go_big_quiet_on
   refine rel_nil fun w5 hE5 _ => ?_
   obtain ⟨b2, b1, hX⟩ := FIN.out w5 hE5
   clear x1 x2 y0 y1 y2 y3 y4 y5 y6 y7 hE5 FIN hE
   obtain ⟨z0, z1, z2, z3⟩ := b1.cl
   have xf := b1.free
   go_wp2_with fail
   rw [HB.out.1, HB.out.2]
   refine bodyPost_ret (v := .tuple #[(.agg #[.string zeroCl.val, .bool zeroCl.dead, .int .i64 zeroCl.at_, .int .i64 zeroCl.fin]), .bool false]) ?_ rfl ⟨rfl, hX.put4 (Nat.le_succ _)⟩
   generalize hW : World.setCell _ _ _ = w9
   have hb : BoxAt w9 (w.heap.size + 1) (cl4 zeroCl) 44 := by rw [← hW]; exact b1.put4 (d := zeroCl)
   obtain ⟨q0, q1, q2, q3⟩ := hb.cl
   simp [results, Tryz.results94, go_sem, q0, q1, q2, q3]
end Go.Proofs.YtolkhjdododdaaaGreatDoor

/- row.Seen, row.Is. (what a smaller cut has) -/
namespace Go.Proofs.YtolkhjdododdaaaGreatDoor
open Go Go.RowKit
attribute [local go_sem] yields yUpon

/-- Is a column's cell seen? -/
def seenCo (c : Co) (g now : Int) : Bool := !c.cell.dead && decide (g < c.cell.at_) && seenB c.cell.dead c.cell.at_ c.cell.fin now
def seenCos (l : List Co) (g now : Int) : List Co := l.filter fun c => seenCo c g now
end Go.Proofs.YtolkhjdododdaaaGreatDoor
