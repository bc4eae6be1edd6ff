/- clerestoryref08.Row. -/
import Derived.Test.YtolkhjdododdaaaGreatDoorP16
import Derived.Test.YtolkhjdododdaaaGreatDoorP24
import Derived.Test.YtolkhjdododdaaaGreatDoorP14
import Derived.Test.YtolkhjdododdaaaGreatDoorP5
import Derived.Test.YtolkhjdododdaaaGreatDoorP20
import Derived.Test.YtolkhjdododdaaaGreatDoorP8
import Derived.Test.YtolkhjdododdaaaGreatDoorP23
import Derived.Test.YtolkhjdododdaaaGreatDoorP15
set_option linter.unusedSimpArgs false
set_option linter.unusedVariables false
namespace Go.Proofs.YtolkhjdododdaaaGreatDoor
open Go Go.RowKit
attribute [local go_sem] yields yUpon ro8 pa3

set_option maxRecDepth 100000 in
set_option maxHeartbeats 4000000 in
theorem row8_any (pk : ByteArray) (pg : Int) (pu : Value) (ps : List (Ro × Value)) (key : ByteArray) (w : World) (hin : RowsIn w pu ps) :
  Calls Tryz.prog 42 #[.agg #[.string pk, .int .i64 pg, pu], .string key] w fun e w' => ∃ v', e = .returned (.tuple #[(.agg #[.string (rowOf (ps.map (·.1)) key).key, .string (rowOf (ps.map (·.1)) key).live.val, .bool (rowOf (ps.map (·.1)) key).live.dead, .int .i64 (rowOf (ps.map (·.1)) key).live.at_, .int .i64 (rowOf (ps.map (·.1)) key).live.fin, .int .i64 (rowOf (ps.map (·.1)) key).gone, .int .i64 (rowOf (ps.map (·.1)) key).shade, v']), .bool (hasRow (ps.map (·.1)) key)]) ∧ ColsIn w' v' (rowOf (ps.map (·.1)) key).cols ∧ Ext w w' := by
 obtain ⟨a0, a1, hE⟩ := boxes2 w (pa3 pk pg pu) (ro8 ⟨⟨#[]⟩, zeroCl, 0, 0, []⟩ (.slice none 0 0)) 39 47
 obtain ⟨aa, ca, rfl, hca, hcma, hget⟩ := hin.get
 obtain ⟨n, hn⟩ : ∃ n, n = ps.length := ⟨_, rfl⟩
 rw [← hn] at hca a0 a1 hE ⊢
 have HN := Lib.hid hn
 have HGET := Lib.hid hget
 have HC := Lib.hid hin.cols
 obtain ⟨R, hR⟩ : ∃ R, R = rowOf (ps.map (·.1)) key := ⟨_, rfl⟩
 obtain ⟨B, hB⟩ : ∃ B, B = hasRow (ps.map (·.1)) key := ⟨_, rfl⟩
 rw [← hR, ← hB]
 have HR := Lib.hid hR
 have HB := Lib.hid hB
 clear hn hget hin hR hB
 go_enter Tryz.func42, Tryz.ntmps42
 go_wp2_with fail
 go_loopw [6] (fun i wr => ∃ k : Nat, k ≤ n ∧ i = .int .i64 k ∧ BoxAt wr w.heap.size (pa3 pk pg (.slice aa n ca)) 39 ∧ BoxAt wr (w.heap.size + 1) (ro8 ⟨⟨#[]⟩, zeroCl, 0, 0, []⟩ (.slice none 0 0)) 47 ∧ Ext w wr ∧ Hid (R = rowOf ((ps.map (·.1)).drop k) key) ∧ Hid (B = hasRow ((ps.map (·.1)).drop k) key)) (fun i _ => n - (intOf i).toNat)
 case atStart => exact ⟨0, Nat.zero_le _, rfl, a0, a1, hE, HR.out, HB.out⟩
 case round =>
  obtain ⟨k, hk, rfl, b0, b1, hE1, HRk, HBk⟩ := hrel
  clear a0 a1
  obtain ⟨y0, y1, y2⟩ := b0.pa
  by_cases hlt : k < n
  ·have hkp : k < ps.length := by rw [← HN.out]; exact hlt
   have hcu := HC.out _ (List.getElem_mem hkp)
   obtain ⟨b, o, rfl, hat⟩ := HGET.out k hkp
   have hdrop : (ps.map (·.1)).drop k = ps[k].1 :: (ps.map (·.1)).drop (k + 1) := by
    rw [List.drop_eq_getElem_cons (by simpa using hkp)]
    simp
   obtain ⟨M, hM⟩ : ∃ M, M = ps[k].1 := ⟨_, rfl⟩
   obtain ⟨au, cu, hu⟩ := hcu.shape
   rw [← hM] at hcu hu hdrop hat
   rw [hu] at hcu hat
   have HDR := Lib.hid hdrop
   clear hM hu hdrop
   obtain ⟨L, hL⟩ : ∃ L, L = M.cols := ⟨_, rfl⟩
   rw [← hL] at hcu hat
   have HL := Lib.hid hL
   clear hL
   obtain ⟨m, hm⟩ : ∃ m, m = L.length := ⟨_, rfl⟩
   rw [← hm] at hcu hat
   clear hm
   have hcw := hcu
   replace hat := hat.ext hE1
   clear hcu
   obtain ⟨x0, x1, x2, x3, x4, x5, x6, x7⟩ := hat
   have hki : decide ((k : Int) < (n : Int)) = true := by simpa using hlt
   cases hkey : (M.key.toList == key.toList)
   ·go_wp2_with fail
    go_roundw
    case rel =>
     refine ⟨k + 1, hlt, rfl, b0, b1, hE1, ?_, ?_⟩
     ·show _ = _
      rw [HRk.out, HDR.out, rowOf, if_neg (by rw [hkey]; decide)]
     ·show _ = _
      rw [HBk.out, HDR.out, hasRow, if_neg (by rw [hkey]; decide)]
    case measure => simp [intOf]; omega
   ·have hR : R = M := by rw [HRk.out, HDR.out, rowOf, if_pos hkey]
    have hB : B = true := by rw [HBk.out, HDR.out, hasRow, if_pos hkey]
    rw [hR, hB]
    go_wp2_with (((guard_target =~ wpList _ _ _ (Oper.mk none (Op.store _ (Operand.tmp 4) (Operand.tmp 26)) _ _ _ _ :: _) _ _); go_must (refine storeBox rfl 47 (.tmp 4) (.tmp 26) rfl (w.heap.size + 1) _ _ _ (by rfl) (by rfl) (b1) (by kernel_rfl) (by rfl) (by simp [Value.oneCell']) ?_); intro w6 c6 g6))
    have hX6 := hE1.grown g6 (fun q hq => by cases hq; omega)
    obtain ⟨z0, z1, z2, z3, z4, z5, z6, z7⟩ := c6.ro (r := ⟨M.key, M.live, M.gone, M.shade, []⟩) (v := .slice au m cu)
    refine bodyPost_ret (v := .tuple #[.agg #[.string M.key, .string M.live.val, .bool M.live.dead, .int .i64 M.live.at_, .int .i64 M.live.fin, .int .i64 M.gone, .int .i64 M.shade, .slice au m cu], .bool true]) ?_ rfl ⟨_, rfl, ?_, hX6⟩
    ·simp [results, Tryz.results42, go_sem, z0, z1, z2, z3, z4, z5, z6, z7]
    ·rw [← HL.out]
     exact hcw.ext hX6
  ·have hR : R = ⟨key, zeroCl, 0, 0, []⟩ := by rw [HRk.out, List.drop_eq_nil_of_le (by simp; rw [← HN.out]; omega)]; rfl
   have hB : B = false := by rw [HBk.out, List.drop_eq_nil_of_le (by simp; rw [← HN.out]; omega)]; rfl
   go_wp2_with (((guard_target =~ wpList _ _ _ (Oper.mk none (Op.store _ (Operand.tmp 4) (Operand.tmp 28)) _ _ _ _ :: _) _ _); go_must (refine storeBox rfl 47 (.tmp 4) (.tmp 28) rfl (w.heap.size + 1) _ _ _ (by rfl) (by rfl) (b1) (by kernel_rfl) (by rfl) (by simp [Value.oneCell']) ?_); intro w6 c6 g6))
   obtain ⟨z0, z1, z2, z3, z4, z5, z6, z7⟩ := c6.ro (r := ⟨key, zeroCl, 0, 0, []⟩) (v := .slice none 0 0)
   refine bodyPost_ret (v := .tuple #[.agg #[.string key, .string ⟨#[]⟩, .bool false, .int .i64 0, .int .i64 0, .int .i64 0, .int .i64 0, .slice none 0 0], .bool false]) ?_ rfl ⟨_, by rw [hR, hB]; rfl, ?_, hE1.grown g6 (fun q hq => by cases hq; omega)⟩
   ·simp [results, Tryz.results42, go_sem, z0, z1, z2, z3, z4, z5, z6, z7, zeroCl]
   ·rw [hR]
    exact ColsIn.nil _
end Go.Proofs.YtolkhjdododdaaaGreatDoor

/- The reference's rows: Best. -/
namespace Go.Proofs.YtolkhjdododdaaaGreatDoor
open Go Go.RowKit
attribute [local go_sem] yields yUpon

set_option maxRecDepth 100000 in
set_option maxHeartbeats 2000000 in
theorem best7_any (r : Ro) (v : Value) (part : Int) (name : ByteArray) (w : World) (hin : ColsIn w v r.cols) :
  Calls Tryz.prog 82 #[(.agg #[.string r.key, .string r.live.val, .bool r.live.dead, .int .i64 r.live.at_, .int .i64 r.live.fin, .int .i64 r.gone, .int .i64 r.shade, v]), .int .i64 part, .string name] w fun e w' =>
   e = .returned (.tuple #[(.agg #[.string (bestC (cellOf r.cols name) (max r.gone part)).val, .bool (bestC (cellOf r.cols name) (max r.gone part)).dead, .int .i64 (bestC (cellOf r.cols name) (max r.gone part)).at_, .int .i64 (bestC (cellOf r.cols name) (max r.gone part)).fin]), .bool (bestB (cellOf r.cols name) (max r.gone part))]) ∧ Ext w w' := by
 obtain ⟨c, hc⟩ : ∃ c, c = cellOf r.cols name := ⟨_, rfl⟩
 rw [← hc]
 have HC := Lib.hid hc
 clear hc
 go_enter Tryz.func82, Tryz.ntmps82
 go_wp2_with fail
 refine (cell7_any r v name _ (hin.ext (((Ext.refl w).alloc _).alloc _))).mono ?_
 rw [← HC.out]
 rintro e w1 ⟨rfl, hE1⟩
 have b0 : BoxAt w1 w.heap.size (ro8 r v) 47 := ((BoxAt.made w (ro8 r v) 47).ext ((Ext.refl _).alloc _)).ext hE1
 have b1 : BoxAt w1 (w.heap.size + 1) (cl4 zeroCl) 44 := (by have := BoxAt.made (w.alloc (.cells (ro8 r v) 47)) (cl4 zeroCl) 44; rw [Deep.nblk_alloc] at this; exact this : BoxAt _ (w.heap.size + 1) (cl4 zeroCl) 44).ext hE1
 replace hE1 := (((Ext.refl w).alloc _).alloc _).trans hE1
 go_wp2_with fail
 refine wp_region_in 15 [(7, fun v _ => v = .int .i64 (max r.gone part))] (fun w0 => BoxAt w0 w1.heap.size (cl4 c) 44 ∧ BoxAt w0 w.heap.size (ro8 r v) 47 ∧ BoxAt w0 (w.heap.size + 1) (cl4 zeroCl) 44 ∧ Ext w w0) (by kernel_rfl) (by kernel_rfl) (by kernel_rfl) ⟨stays_eq _, trivial⟩ ?_ ?_
 ·exact ⟨BoxAt.made _ _ _, b0.ext ((Ext.refl _).alloc _), b1.ext ((Ext.refl _).alloc _), hE1.alloc _⟩
 clear b0 b1 hE1
 rintro w2 ⟨b2, b0, b1, hE⟩
 have fin : ∀ (wx : World), Ext w2 wx → BoxAt wx w1.heap.size (cl4 c) 44 ∧ BoxAt wx (w.heap.size + 1) (cl4 zeroCl) 44 ∧ Ext w wx := fun wx h => ⟨b2.ext h, b1.ext h, hE.trans h⟩
 have FIN := Lib.hid fin
 clear fin b1
 obtain ⟨x0, x1, x2, x3⟩ := b2.cl
 obtain ⟨y0, y1, y2, y3, y4, y5, y6, y7⟩ := b0.ro
 clear b2 b0
 replace x1 := held x1
 replace x2 := held x2
 replace y0 := held y0
 replace y1 := held y1
 replace y2 := held y2
 replace y3 := held y3
 replace y4 := held y4
 replace y5 := held y5
 replace y6 := held y6
 replace y7 := held y7
 clear x0 x3
 by_cases hb : bestB c (max r.gone part) = true
 ·have hb0 := hb
  simp only [bestB, Bool.not_eq_true', Bool.or_eq_false_iff] at hb0
  obtain ⟨⟨d0, d1⟩, d2⟩ := hb0
  have HB : Hid (bestC c (max r.gone part) = c ∧ bestB c (max r.gone part) = true) := ⟨by unfold bestC; rw [if_pos hb], hb⟩
  rw [d0] at x1
  clear hb
  refine rg_quiet rfl rfl rfl rfl ?_; intro K hK; go_big_quiet_op; go_big_quiet_on
  refine rg_quiet rfl rfl rfl rfl ?_; intro K hK; go_big_quiet_op; go_big_quiet_on
  refine rg_quiet rfl rfl rfl rfl ?_; intro K hK; go_big_quiet_op; go_big_quiet_on
  refine rg_quiet rfl rfl rfl rfl ?_; intro K hK; go_big_quiet_op; go_big_quiet_on
  refine rg_quiet rfl rfl rfl rfl ?_; intro K hK; go_big_quiet_op; go_big_quiet_on
  refine rg_quiet rfl rfl rfl rfl ?_; intro K hK; go_big_quiet_op; go_big_quiet_on
  refine rg_quiet rfl rfl rfl rfl ?_; intro K hK; go_big_quiet_op; go_big_quiet_on
  refine rg_val [] rfl rfl rfl (by kernel_rfl) (fun w1 hE hf => ?_) ?_
  ·go_simp
   exact (gone7_any r v part w1).mono fun e w' ⟨he, hw⟩ => ⟨_, he, rg_done hE hw (rfl)⟩
  simp only [Act.put, List.setIfInBounds_toArray, List.set_cons_zero, List.set_cons_succ]
  refine rg_quiet rfl rfl rfl rfl ?_; intro K hK; go_big_quiet_op; go_big_quiet_on
  refine rg_quiet rfl rfl rfl rfl ?_; intro K hK; go_big_quiet_op; go_big_quiet_on
  refine rg_quiet rfl rfl rfl rfl ?_; intro K hK; go_big_quiet_op; go_big_quiet_on
  refine rg_quiet rfl rfl rfl rfl ?_; intro K hK; go_big_quiet_op; go_big_quiet_on
  refine rg_quiet rfl rfl rfl rfl ?_; intro K hK; go_big_quiet_op; go_big_quiet_on
  refine rg_quiet rfl rfl rfl rfl ?_; intro K hK; go_big_quiet_op; go_big_quiet_on
  refine rg_quiet rfl rfl rfl rfl ?_; intro K hK; go_big_quiet_op; go_big_quiet_on
  refine rel_nil fun w5 hE5 _ => ?_
  obtain ⟨b2, b1, hX⟩ := FIN.out w5 hE5
  clear d0 d1 d2 x1 x2 y0 y1 y2 y3 y4 y5 y6 y7 hE5 FIN hE
  obtain ⟨x0, x1, x2, x3⟩ := b2.cl
  obtain ⟨z0, z1, z2, z3⟩ := b1.cl
  have xf := b1.free
  go_wp2_with fail
  rw [HB.out.1, HB.out.2]
  refine bodyPost_ret (v := .tuple #[(.agg #[.string c.val, .bool c.dead, .int .i64 c.at_, .int .i64 c.fin]), .bool true]) ?_ rfl ⟨rfl, hX.put4 (Nat.le_succ _)⟩
  generalize hW : World.setCell _ _ _ = w9
  have hb : BoxAt w9 (w.heap.size + 1) (cl4 c) 44 := by rw [← hW]; exact b1.put4 (d := c)
  obtain ⟨q0, q1, q2, q3⟩ := hb.cl
  simp [results, Tryz.results94, go_sem, q0, q1, q2, q3]
 ·have HB : Hid (bestC c (max r.gone part) = zeroCl ∧ bestB c (max r.gone part) = false) := by simp only [Bool.not_eq_true] at hb; exact ⟨by unfold bestC; rw [if_neg (by rw [hb]; decide)], hb⟩
  cases d0 : c.dead
  ·rw [d0] at x1
   cases d2 : decide (c.at_ ≤ max r.gone part)
   ·have d1 : decide (c.at_ < 1) = true := by
     simp only [bestB, Bool.not_eq_true', d0, d2] at hb
     simpa using hb
    clear hb
    refine rg_quiet rfl rfl rfl rfl ?_; intro K hK; go_big_quiet_op; go_big_quiet_on
    refine rg_quiet rfl rfl rfl rfl ?_; intro K hK; go_big_quiet_op; go_big_quiet_on
    refine rg_quiet rfl rfl rfl rfl ?_; intro K hK; go_big_quiet_op; go_big_quiet_on
    refine rg_quiet rfl rfl rfl rfl ?_; intro K hK; go_big_quiet_op; go_big_quiet_on
    refine rg_quiet rfl rfl rfl rfl ?_; intro K hK; go_big_quiet_op; go_big_quiet_on
    refine rg_quiet rfl rfl rfl rfl ?_; intro K hK; go_big_quiet_op; go_big_quiet_on
    refine rg_quiet rfl rfl rfl rfl ?_; intro K hK; go_big_quiet_op; go_big_quiet_on
    refine rg_val [] rfl rfl rfl (by kernel_rfl) (fun w1 hE hf => ?_) ?_
    ·go_simp
     exact (gone7_any r v part w1).mono fun e w' ⟨he, hw⟩ => ⟨_, he, rg_done hE hw (rfl)⟩
    simp only [Act.put, List.setIfInBounds_toArray, List.set_cons_zero, List.set_cons_succ]
    refine rg_quiet rfl rfl rfl rfl ?_; intro K hK; go_big_quiet_op; go_big_quiet_on
    refine rg_quiet rfl rfl rfl rfl ?_; intro K hK; go_big_quiet_op; go_big_quiet_on
    refine rg_quiet rfl rfl rfl rfl ?_; intro K hK; go_big_quiet_op; go_big_quiet_on
    refine rg_quiet rfl rfl rfl rfl ?_; intro K hK; go_big_quiet_op; go_big_quiet_on
    refine rg_quiet rfl rfl rfl rfl ?_; intro K hK; go_big_quiet_op; go_big_quiet_on
    refine rg_quiet rfl rfl rfl rfl ?_; intro K hK; go_big_quiet_op; go_big_quiet_on
    refine rg_quiet rfl rfl rfl rfl ?_; intro K hK; go_big_quiet_op; go_big_quiet_on
    refine rel_nil fun w5 hE5 _ => ?_
    obtain ⟨b2, b1, hX⟩ := FIN.out w5 hE5
    clear x1 x2 y0 y1 y2 y3 y4 y5 y6 y7 hE5 FIN hE
    obtain ⟨z0, z1, z2, z3⟩ := b1.cl
    have xf := b1.free
    go_wp2_with fail
    rw [HB.out.1, HB.out.2]
    refine bodyPost_ret (v := .tuple #[(.agg #[.string zeroCl.val, .bool zeroCl.dead, .int .i64 zeroCl.at_, .int .i64 zeroCl.fin]), .bool false]) ?_ rfl ⟨rfl, hX.put4 (Nat.le_succ _)⟩
    generalize hW : World.setCell _ _ _ = w9
    have hb : BoxAt w9 (w.heap.size + 1) (cl4 zeroCl) 44 := by rw [← hW]; exact b1.put4 (d := zeroCl)
    obtain ⟨q0, q1, q2, q3⟩ := hb.cl
    simp [results, Tryz.results94, go_sem, q0, q1, q2, q3]
   ·clear hb
    refine rg_quiet rfl rfl rfl rfl ?_; intro K hK; go_big_quiet_op; go_big_quiet_on
    refine rg_quiet rfl rfl rfl rfl ?_; intro K hK; go_big_quiet_op; go_big_quiet_on
    refine rg_quiet rfl rfl rfl rfl ?_; intro K hK; go_big_quiet_op; go_big_quiet_on
    refine rg_quiet rfl rfl rfl rfl ?_; intro K hK; go_big_quiet_op; go_big_quiet_on
    refine rg_quiet rfl rfl rfl rfl ?_; intro K hK; go_big_quiet_op; go_big_quiet_on
    refine rg_quiet rfl rfl rfl rfl ?_; intro K hK; go_big_quiet_op; go_big_quiet_on
    refine rg_quiet rfl rfl rfl rfl ?_; intro K hK; go_big_quiet_op; go_big_quiet_on
    refine rg_val [] rfl rfl rfl (by kernel_rfl) (fun w1 hE hf => ?_) ?_
    ·go_simp
     exact (gone7_any r v part w1).mono fun e w' ⟨he, hw⟩ => ⟨_, he, rg_done hE hw (rfl)⟩
    simp only [Act.put, List.setIfInBounds_toArray, List.set_cons_zero, List.set_cons_succ]
    refine rg_quiet rfl rfl rfl rfl ?_; intro K hK; go_big_quiet_op; go_big_quiet_on
    refine rg_quiet rfl rfl rfl rfl ?_; intro K hK; go_big_quiet_op; go_big_quiet_on
    refine rg_quiet rfl rfl rfl rfl ?_; intro K hK; go_big_quiet_op; go_big_quiet_on
    refine rel_skip rfl rfl ?_
    simp only [Act.put, List.setIfInBounds_toArray, List.set_cons_zero, List.set_cons_succ]
    refine rel_skip rfl rfl ?_
    simp only [Act.put, List.setIfInBounds_toArray, List.set_cons_zero, List.set_cons_succ]
    refine rel_skip rfl rfl ?_
    simp only [Act.put, List.setIfInBounds_toArray, List.set_cons_zero, List.set_cons_succ]
    refine rg_quiet rfl rfl rfl rfl ?_; intro K hK; go_big_quiet_op; go_big_quiet_on
    refine rel_nil fun w5 hE5 _ => ?_
    obtain ⟨b2, b1, hX⟩ := FIN.out w5 hE5
    clear x1 x2 y0 y1 y2 y3 y4 y5 y6 y7 hE5 FIN hE
    obtain ⟨z0, z1, z2, z3⟩ := b1.cl
    have xf := b1.free
    go_wp2_with fail
    rw [HB.out.1, HB.out.2]
    refine bodyPost_ret (v := .tuple #[(.agg #[.string zeroCl.val, .bool zeroCl.dead, .int .i64 zeroCl.at_, .int .i64 zeroCl.fin]), .bool false]) ?_ rfl ⟨rfl, hX.put4 (Nat.le_succ _)⟩
    generalize hW : World.setCell _ _ _ = w9
    have hb : BoxAt w9 (w.heap.size + 1) (cl4 zeroCl) 44 := by rw [← hW]; exact b1.put4 (d := zeroCl)
    obtain ⟨q0, q1, q2, q3⟩ := hb.cl
    simp [results, Tryz.results94, go_sem, q0, q1, q2, q3]
  ·rw [d0] at x1
   clear hb
   refine rg_quiet rfl rfl rfl rfl ?_; intro K hK; go_big_quiet_op; go_big_quiet_on
   refine rg_quiet rfl rfl rfl rfl ?_; intro K hK; go_big_quiet_op; go_big_quiet_on
   refine rg_quiet rfl rfl rfl rfl ?_; intro K hK; go_big_quiet_op; go_big_quiet_on
   refine rel_skip rfl rfl ?_
   simp only [Act.put, List.setIfInBounds_toArray, List.set_cons_zero, List.set_cons_succ]
   refine rel_skip rfl rfl ?_
   simp only [Act.put, List.setIfInBounds_toArray, List.set_cons_zero, List.set_cons_succ]
   refine rel_skip rfl rfl ?_
   simp only [Act.put, List.setIfInBounds_toArray, List.set_cons_zero, List.set_cons_succ]
   refine rel_skip rfl rfl ?_
   simp only [Act.put, List.setIfInBounds_toArray, List.set_cons_zero, List.set_cons_succ]
   refine rel_skip rfl rfl ?_
   simp only [Act.put, List.setIfInBounds_toArray, List.set_cons_zero, List.set_cons_succ]
   refine rel_skip rfl rfl ?_
   simp only [Act.put, List.setIfInBounds_toArray, List.set_cons_zero, List.set_cons_succ]
   refine rg_quiet rfl rfl rfl rfl ?_; intro K hK; go_big_quiet_op; go_big_quiet_on
   refine rg_quiet rfl rfl rfl rfl ?_; intro K hK; go_big_quiet_op; go_big_quiet_on
   refine rel_skip rfl rfl ?_
   simp only [Act.put, List.setIfInBounds_toArray, List.set_cons_zero, List.set_cons_succ]
   refine rel_skip rfl rfl ?_
   simp only [Act.put, List.setIfInBounds_toArray, List.set_cons_zero, List.set_cons_succ]
   refine rel_skip rfl rfl ?_
   simp only [Act.put, List.setIfInBounds_toArray, List.set_cons_zero, List.set_cons_succ]
   refine rg_quiet rfl rfl rfl rfl ?_; intro K hK; go_big_quiet_op; go_big_quiet_on
   refine rel_nil fun w5 hE5 _ => ?_
   obtain ⟨b2, b1, hX⟩ := FIN.out w5 hE5
   clear x1 x2 y0 y1 y2 y3 y4 y5 y6 y7 hE5 FIN hE
   obtain ⟨z0, z1, z2, z3⟩ := b1.cl
   have xf := b1.free
   go_wp2_with fail
   rw [HB.out.1, HB.out.2]
   refine bodyPost_ret (v := .tuple #[(.agg #[.string zeroCl.val, .bool zeroCl.dead, .int .i64 zeroCl.at_, .int .i64 zeroCl.fin]), .bool false]) ?_ rfl ⟨rfl, hX.put4 (Nat.le_succ _)⟩
   generalize hW : World.setCell _ _ _ = w9
   have hb : BoxAt w9 (w.heap.size + 1) (cl4 zeroCl) 44 := by rw [← hW]; exact b1.put4 (d := zeroCl)
   obtain ⟨q0, q1, q2, q3⟩ := hb.cl
   simp [results, Tryz.results94, go_sem, q0, q1, q2, q3]
end Go.Proofs.YtolkhjdododdaaaGreatDoor

/- The reference's text: clerestoryref02.Text. -/
namespace Go.Proofs.YtolkhjdododdaaaGreatDoor
open Go Go.RowKit
attribute [local go_sem] yields yUpon

theorem str_snoc (acc : List UInt8) (s : ByteArray) (k : Nat) (h : k < s.size) : str acc ++ s.extract k (k + 1) = str (acc ++ [s.data.toList[k]'h]) := by
 apply ByteArray.ext
 simp only [ByteArray.data_append, ByteArray.data_extract, str]
 apply Array.toList_inj.1
 simp
 rw [List.drop_eq_getElem_cons (by simpa using h)]
 rfl

set_option maxHeartbeats 400000 in
theorem r2text_any (s : ByteArray) (w : World) (hl : s.size ≤ 100000000) :
  Calls Tryz.prog 27 #[.string s] w fun e w' => e = .returned (.string (str (txt s.data.toList))) ∧ w = w' := by
 go_enter Tryz.func27, Tryz.ntmps27
 go_wp2
 go_loop [3, 4] (fun t n => ∃ (k : Nat), k ≤ s.size ∧ n = .int .i64 k ∧ t = .string (str (esc (s.data.toList.take k)))) (fun _ n => s.size - (intOf n).toNat)
 case atStart => exact ⟨0, by omega, rfl, rfl⟩
 case round =>
  obtain ⟨k, hk, rfl, rfl⟩ := hrel
  have hle : (esc (s.data.toList.take k)).length ≤ 2 * k := Nat.le_trans (esc_length_le _) (by simp; omega)
  have q1 : ¬ 9223372036854775807 < (esc (s.data.toList.take k)).length + (min (k + 1) s.size - k) := by omega
  have q2 : ¬ 9223372036854775807 < (esc (s.data.toList.take k)).length + 2 := by omega
  have q3 : ¬ 9223372036854775807 < (esc (s.data.toList.take k)).length + (min (k + 1) s.size - k) + 1 := by omega
  by_cases hlt : k < s.size
  ·have hts : Hid (esc (s.data.toList.take (k + 1)) = esc (s.data.toList.take k) ++ if s[k] = 0 then [0, 255] else [s[k]]) := by
    rw [← esc_snoc]
    congr 1
    exact List.take_succ_eq_append_getElem (by simpa using hlt)
   have hsn := Lib.hid (str_snoc (esc (s.data.toList.take k)) s k hlt)
   by_cases hz : s[k] = 0
   ·have z0 : ((s[k].toNat : Int) == 0) = true := byte_eq (c := 0) hz
    have HZ := Lib.hid hz
    clear hz
    go_wp2
    go_round
    case rel =>
     refine ⟨k + 1, by omega, by go_num, ?_⟩
     rw [hsn.out, hts.out, if_pos HZ.out]
     rw [show s.data.toList[k] = 0 from HZ.out, show (⟨#[255]⟩ : ByteArray) = str [255] from rfl, str_app, List.append_assoc]
     rfl
    case measure => simp [intOf] <;> omega
   ·have z0 : ((s[k].toNat : Int) == 0) = false := byte_ne (c := 0) hz
    have HZ := Lib.hid hz
    clear hz
    go_wp2
    go_round
    case rel =>
     refine ⟨k + 1, by omega, by go_num, ?_⟩
     rw [hsn.out, hts.out, if_neg HZ.out]
     rfl
    case measure => simp [intOf] <;> omega
  ·go_wp2
   go_ret
   refine ⟨?_, rfl⟩
   refine ret_str ?_
   rw [show (⟨#[0, 1]⟩ : ByteArray) = str [0, 1] from rfl, str_app, List.take_of_length_le (by simpa using hlt)]
   rfl
end Go.Proofs.YtolkhjdododdaaaGreatDoor

/- The reference's views: in, pick, Key, Mirror. -/
namespace Go.Proofs.YtolkhjdododdaaaGreatDoor
open Go Go.RowKit
attribute [local go_sem] yields yUpon co5 vw5

set_option maxRecDepth 100000 in
set_option maxHeartbeats 2000000 in
theorem in18_any (x : Vw) (u : Value) (ns : List ByteArray) (name : ByteArray) (w : World) (hns : StrsIn w u ns) :
  Calls Tryz.prog 99 #[.agg #[.string x.name, .int .i64 x.id, .string x.table, .string x.on, u], .string name] w fun e w' => e = .returned (.bool (hasS ns name)) ∧ Ext w w' := by
 obtain ⟨a, c, rfl, hc, hcm, hcell⟩ := hns.get
 obtain ⟨n, hn⟩ : ∃ n, n = ns.length := ⟨_, rfl⟩
 rw [← hn] at hc ⊢
 have HN := Lib.hid hn
 have HC := Lib.hid hcell
 clear hcell hns hn
 go_enter Tryz.func99, Tryz.ntmps99
 go_wp2
 go_loopw [5] (fun i wr => ∃ k : Nat, k ≤ n ∧ i = .int .i64 k ∧ BoxAt wr w.heap.size (vw5 x (.slice a n c)) 31 ∧ Ext w wr ∧ Hid (hasS ns name = hasS (ns.drop k) name)) (fun i _ => n - (intOf i).toNat)
 case atStart => exact ⟨0, Nat.zero_le _, rfl, BoxAt.made w _ _, (Ext.refl w).alloc _, rfl⟩
 case round =>
  obtain ⟨k, hk, rfl, hb, hE, HX⟩ := hrel
  obtain ⟨x0, x1, x2, x3, x4⟩ := hb.vw
  by_cases hlt : k < n
  ·have hkn : k < ns.length := by rw [← HN.out]; exact hlt
   obtain ⟨b, o, rfl, hco⟩ := HC.out k hkn
   replace hco := hE.cell hco
   have hD : hasS (ns.drop k) name = ((ns[k].toList == name.toList) || hasS (ns.drop (k + 1)) name) := by
    unfold hasS
    rw [List.drop_eq_getElem_cons hkn, List.any_cons]
    congr 1
    exact BEq.comm
   have HD := Lib.hid (HX.out.trans hD)
   clear hD HX
   obtain ⟨M, hM⟩ : ∃ M, M = ns[k] := ⟨_, rfl⟩
   rw [← hM] at hco HD
   clear hM
   cases hq : (M.toList == name.toList)
   ·go_wp2_with fail
    go_roundw
    case rel => exact ⟨k + 1, by omega, by go_num, hb, hE, HD.out.trans (by rw [hq]; rfl)⟩
    case measure => simp [intOf] <;> omega
   ·go_wp2_with fail
    go_ret
    exact ⟨ret_bool (HD.out.trans (by rw [hq]; rfl)).symm, hE⟩
  ·go_wp2_with fail
   go_ret
   exact ⟨ret_bool (by rw [HX.out, List.drop_eq_nil_of_le (by have := HN.out; omega)]; rfl), hE⟩

theorem keeps_take {ns : List ByteArray} {l : List Co} {k : Nat} (hk : k < l.length) : (l.take (k + 1)).filter (keeps ns) = (l.take k).filter (keeps ns) ++ if hasS ns l[k].name then [l[k]] else [] := by
 rw [List.take_succ_eq_append_getElem hk, List.filter_append]
 congr 1
 have : keeps ns l[k] = hasS ns l[k].name := by unfold keeps strikes; rw [Bool.not_not]
 cases h : hasS ns l[k].name <;> simp [this, h]

set_option maxRecDepth 100000 in
set_option maxHeartbeats 4000000 in
theorem pick18_any (x : Vw) (u : Value) (ns : List ByteArray) (v : Value) (l : List Co) (w : World) (hns : StrsIn w u ns) (hin : ColsIn w v l) (hlen : l.length ≤ 1000000) :
  Calls Tryz.prog 83 #[.agg #[.string x.name, .int .i64 x.id, .string x.table, .string x.on, u], v] w fun e w' => ∃ v', e = .returned v' ∧ w'.ownsRow (w.heap.size + 1) 69 5 v' (l.filter (keeps ns)).length (coCells (l.filter (keeps ns))) ∧ Ext w w' := by
 obtain ⟨a, c, rfl, hc, hcm, hcell⟩ := hin.get
 obtain ⟨n, hn⟩ : ∃ n, n = l.length := ⟨_, rfl⟩
 rw [← hn] at hc hlen ⊢
 have HN := Lib.hid hn
 have HC := Lib.hid hcell
 clear hcell hin hn
 go_enter Tryz.func83, Tryz.ntmps83
 go_wp2
 go_loopw [5, 6] (fun m i wr => ∃ k : Nat, k ≤ n ∧ i = .int .i64 k ∧ BoxAt wr w.heap.size (vw5 x u) 31 ∧ Ext w wr ∧ wr.ownsRow (w.heap.size + 1) 69 5 m ((l.take k).filter (keeps ns)).length (coCells ((l.take k).filter (keeps ns)))) (fun _ i _ => n - (intOf i).toNat)
 case atStart => exact ⟨0, Nat.zero_le _, rfl, BoxAt.made w _ _, (Ext.refl w).alloc _, World.ownsRow_nil _ _ _ _⟩
 case round =>
  obtain ⟨k, hk, rfl, hb, hE, hown⟩ := hrel
  by_cases hlt : k < n
  ·have hkn : k < l.length := by rw [← HN.out]; exact hlt
   obtain ⟨b, o, rfl, hco⟩ := HC.out k hkn
   have hT := keeps_take (ns := ns) hkn
   have hle : ((l.take k).filter (keeps ns)).length ≤ k := Nat.le_trans (List.length_filter_le _ _) (by simp; omega)
   obtain ⟨M, hM⟩ : ∃ M, M = l[k] := ⟨_, rfl⟩
   rw [← hM] at hco hT
   obtain ⟨S, hS⟩ : ∃ S, S = (l.take k).filter (keeps ns) := ⟨_, rfl⟩
   rw [← hS] at hT hle hown
   obtain ⟨B, hB⟩ : ∃ B, B = hasS ns M.name := ⟨_, rfl⟩
   rw [← hB] at hT
   have HT := Lib.hid hT
   have HB := Lib.hid hB
   clear hM hS hT hB
   have hco' := hco.ext hE
   obtain ⟨g0, g1, g2, g3, g4⟩ := hco'
   obtain ⟨x0, x1, x2, x3, x4⟩ := hb.vw
   go_wp2_with fail
   refine wp_region_tab 7 [(6, fun v _ => v = .bool B)] (by kernel_rfl) (by kernel_rfl) (by kernel_rfl) ⟨stays_eq _, trivial⟩ ?_
   replace g0 := held g0
   replace x0 := held x0
   replace x1 := held x1
   replace x2 := held x2
   replace x3 := held x3
   replace x4 := held x4
   refine rg_quiet rfl rfl rfl rfl ?_; intro K hK; go_big_quiet_op; go_big_quiet_on
   refine rg_quiet rfl rfl rfl rfl ?_; intro K hK; go_big_quiet_op; go_big_quiet_on
   refine rg_quiet rfl rfl rfl rfl ?_; intro K hK; go_big_quiet_op; go_big_quiet_on
   refine rg_quiet rfl rfl rfl rfl ?_; intro K hK; go_big_quiet_op; go_big_quiet_on
   refine rg_quiet rfl rfl rfl rfl ?_; intro K hK; go_big_quiet_op; go_big_quiet_on
   refine rg_quiet rfl rfl rfl rfl ?_; intro K hK; go_big_quiet_op; go_big_quiet_on
   refine rg_val [] rfl rfl rfl (by kernel_rfl) (fun y hY hf => ?_) ?_
   ·go_simp
    exact (in18_any x u ns M.name y (hns.ext (hE.trans hY))).mono fun e w' ⟨he, hw⟩ => ⟨_, he, rg_done hY hw (by rw [← HB.out])⟩
   simp only [Act.put, List.setIfInBounds_toArray, List.set_cons_zero, List.set_cons_succ]
   refine rel_nil fun w5 hE5 _ => ?_
   replace hb := hb.ext hE5
   replace hown := ownsRow_ext hown hE5
   replace hco := hco.ext (hE.trans hE5)
   replace hE := hE.trans hE5
   clear x0 x1 x2 x3 x4 g0 g1 g2 g3 g4 hE5
   cases B
   ·have hT2 := HT.out
    simp only [Bool.false_eq_true, if_false, List.append_nil] at hT2
    have HT2 := Lib.hid hT2
    clear hT2 HT
    go_wp2_with fail
    go_roundw
    case rel => exact ⟨k + 1, by omega, by go_num, hb, hE, by rw [HT2.out]; exact hown⟩
    case measure => simp [intOf] <;> omega
   ·have hT2 := HT.out
    simp only [if_true] at hT2
    have HT2 := Lib.hid hT2
    clear hT2 HT
    obtain ⟨g0, g1, g2, g3, g4⟩ := hco
    have hlb := hb.lt
    go_wp2_with (at_builtin; go_must (refine appR info_Col und_Cols rfl (by decide) w5 rfl (.tmp 20) (.tmp 25) rfl (w.heap.size + 1) hlb _ _ _ hown rfl 1 _ rfl rfl (by simp [Value.oneCell']) (by unfold maxLen; omega) (by omega) ?_); intro m3 w3 hown3 hg3)
    go_roundw
    case rel =>
     refine ⟨k + 1, by omega, by go_num, (hb.ext ((Ext.refl _).alloc _)).grown hg3 (fun h => ?_), (hE.alloc _).grown hg3 fun q hq => by have := (hown.lt q hq).1; omega, ?_⟩
     ·have := (hown.lt _ h.symm).1
      omega
     ·rw [HT2.out, coCells_append, List.length_append]
      exact hown3
    case measure => simp [intOf] <;> omega
  ·obtain rfl : k = n := by omega
   rw [HN.out, List.take_length] at hown
   go_wp2_with fail
   go_ret
   exact ⟨_, rfl, hown, hE⟩

set_option maxHeartbeats 1000000 in
theorem key18_any (a b : ByteArray) (w : World) (ha : a.size ≤ 10000000) (hb : b.size ≤ 10000000) :
  Calls Tryz.prog 9 #[.string a, .string b] w fun e w' => e = .returned (.string (vkey a b)) ∧ w = w' := by
 have hl : (txt a.data.toList).length ≤ 2 * a.size + 2 := txt_length_le a.data.toList
 have hm : ¬ 9223372036854775807 < (txt a.data.toList).length + b.size := by omega
 obtain ⟨T, hT⟩ : ∃ T, T = txt a.data.toList := ⟨_, rfl⟩
 have e1 : vkey a b = str T ++ b := by rw [hT]; rfl
 rw [e1]
 rw [← hT] at hm
 have HT := Lib.hid hT
 clear hT hl e1
 go_enter Tryz.func9, Tryz.ntmps9
 go_wp2_with fail
 refine (r2text_any a w (by omega)).mono ?_
 rw [← HT.out]
 rintro e w1 ⟨rfl, rfl⟩
 go_wp2
 go_ret
 exact ⟨rfl, rfl⟩
end Go.Proofs.YtolkhjdododdaaaGreatDoor
