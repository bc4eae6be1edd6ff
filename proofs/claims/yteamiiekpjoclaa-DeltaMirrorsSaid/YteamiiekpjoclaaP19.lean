/- The reference's rows: Is; its partitions: Seen. -/
import Derived.Test.YteamiiekpjoclaaP17
import Derived.Test.YteamiiekpjoclaaP5
import Derived.Test.YteamiiekpjoclaaP18
import Derived.Test.YteamiiekpjoclaaP14
import Derived.Test.YteamiiekpjoclaaP4
import Derived.Test.YteamiiekpjoclaaP16
import Derived.Test.YteamiiekpjoclaaP7
set_option linter.unusedSimpArgs false
set_option linter.unusedVariables false
namespace Go.Proofs.Yteamiiekpjoclaa
open Go Go.RowKit
attribute [local go_sem] yields yUpon
/-- Each column's name is its own. -/
def DistN (l : List Co) : Prop := ∀ (k : Nat) (h : k < l.length), cellOf l l[k].name = l[k].cell

set_option maxRecDepth 100000 in
set_option maxHeartbeats 4000000 in
theorem is7_any (r : Ro) (v : Value) (part now : Int) (strict : Bool) (w : World) (hin : ColsIn w v r.cols) (hlen : r.cols.length ≤ 400000) (hd : DistN r.cols) :
    Calls Try.prog 73 #[(.agg #[.string r.key, .string r.live.val, .bool r.live.dead, .int .i64 r.live.at_, .int .i64 r.live.fin, .int .i64 r.gone, .int .i64 r.shade, v]), .int .i64 part, .int .i64 now, .bool strict] w fun e w' => e = .returned (.bool (isB r (max r.gone part) now strict)) ∧ Ext w w' := by
  obtain ⟨G, hG⟩ : ∃ G, G = max r.gone part := ⟨_, rfl⟩
  rw [← hG]
  have HG := Lib.hid hG
  have HL := Lib.hid hlen
  have HD := Lib.hid hd
  clear hG hlen hd
  go_enter Try.func73, Try.ntmps73
  go_wp2_with fail
  refine wp_region_in 21 [(3, fun v _ => v = .bool (seenB r.live.dead r.live.at_ r.live.fin now)), (10, fun v _ => v = .int .i64 G)] (fun w0 => BoxAt w0 w.heap.size (ro8 r v) 55 ∧ Ext w w0 ∧ ColsIn w0 v r.cols) (by kernel_rfl) (by kernel_rfl) (by kernel_rfl) ⟨stays_eq _, stays_eq _, trivial⟩ ?_ ?_
  · exact ⟨BoxAt.made _ _ _, (Ext.refl w).alloc _, hin.ext ((Ext.refl w).alloc _)⟩
  clear hin
  rintro w2 ⟨b0, hE, hin⟩
  have FIN : Hid (∀ wx, Ext w2 wx → BoxAt wx w.heap.size (ro8 r v) 55 ∧ Ext w wx ∧ ColsIn wx v r.cols) := fun wx h => ⟨b0.ext h, hE.trans h, hin.ext h⟩
  obtain ⟨y0, y1, y2, y3, y4, y5, y6, y7⟩ := b0.ro
  clear b0 hE hin
  replace y0 := held y0
  replace y1 := held y1
  replace y2 := held y2
  replace y3 := held y3
  replace y4 := held y4
  replace y5 := held y5
  replace y6 := held y6
  replace y7 := held y7
  cases d0 : seenB r.live.dead r.live.at_ r.live.fin now
  · have HLV : Hid (liveB r G now = false) := by show liveB r G now = false; unfold liveB; rw [d0]; rfl
    refine rg_quiet rfl rfl rfl rfl ?_; intro K hK; go_big_quiet_op; go_big_quiet_on
    refine rg_quiet rfl rfl rfl rfl ?_; intro K hK; go_big_quiet_op; go_big_quiet_on
    refine rg_quiet rfl rfl rfl rfl ?_; intro K hK; go_big_quiet_op; go_big_quiet_on
    refine rg_val [] rfl rfl rfl (by kernel_rfl) (fun w1 hE hf => ?_) ?_
    · go_simp
      exact (rseen_any _ _ _ _ _ w1).mono fun e w' ⟨he, hw⟩ => ⟨_, he, rg_done hE hw (bool_congr d0)⟩
    simp only [Act.put, List.setIfInBounds_toArray, List.set_cons_zero, List.set_cons_succ]
    refine rg_quiet rfl rfl rfl rfl ?_; intro K hK; go_big_quiet_op; go_big_quiet_on
    refine rel_skip rfl rfl ?_
    simp only [Act.put, List.setIfInBounds_toArray, List.set_cons_zero, List.set_cons_succ]
    refine rel_skip rfl rfl ?_
    simp only [Act.put, List.setIfInBounds_toArray, List.set_cons_zero, List.set_cons_succ]
    refine rel_skip rfl rfl ?_
    simp only [Act.put, List.setIfInBounds_toArray, List.set_cons_zero, List.set_cons_succ]
    refine rel_skip rfl rfl ?_
    simp only [Act.put, List.setIfInBounds_toArray, List.set_cons_zero, List.set_cons_succ]
    refine rel_skip rfl rfl ?_
    simp only [Act.put, List.setIfInBounds_toArray, List.set_cons_zero, List.set_cons_succ]
    refine rel_skip rfl rfl ?_
    simp only [Act.put, List.setIfInBounds_toArray, List.set_cons_zero, List.set_cons_succ]
    refine rel_skip rfl rfl ?_
    simp only [Act.put, List.setIfInBounds_toArray, List.set_cons_zero, List.set_cons_succ]
    refine rg_quiet rfl rfl rfl rfl ?_; intro K hK; go_big_quiet_op; go_big_quiet_on
    refine rg_quiet rfl rfl rfl rfl ?_; intro K hK; go_big_quiet_op; go_big_quiet_on
    refine rel_skip rfl rfl ?_
    simp only [Act.put, List.setIfInBounds_toArray, List.set_cons_zero, List.set_cons_succ]
    refine rel_skip rfl rfl ?_
    simp only [Act.put, List.setIfInBounds_toArray, List.set_cons_zero, List.set_cons_succ]
    refine rel_skip rfl rfl ?_
    simp only [Act.put, List.setIfInBounds_toArray, List.set_cons_zero, List.set_cons_succ]
    refine rel_skip rfl rfl ?_
    simp only [Act.put, List.setIfInBounds_toArray, List.set_cons_zero, List.set_cons_succ]
    refine rel_skip rfl rfl ?_
    simp only [Act.put, List.setIfInBounds_toArray, List.set_cons_zero, List.set_cons_succ]
    refine rel_skip rfl rfl ?_
    simp only [Act.put, List.setIfInBounds_toArray, List.set_cons_zero, List.set_cons_succ]
    refine rg_quiet rfl rfl rfl rfl ?_; intro K hK; go_big_quiet_op; go_big_quiet_on
    refine rel_nil fun w5 hE5 _ => ?_
    obtain ⟨b0, hE, hin⟩ := FIN.out w5 hE5
    clear y0 y1 y2 y3 y4 y5 y6 y7 hE5 FIN
    clear d0
    obtain ⟨y0, y1, y2, y3, y4, y5, y6, y7⟩ := b0.ro
    cases strict
    · go_wp2_with fail
      refine (seen7_any r v part now _ hin HL.out HD.out).mono ?_
      rw [← HG.out]
      rintro e w6 ⟨v', rfl, hown, hE6⟩
      obtain ⟨a6, c6, rfl, _, _, _, _⟩ := SliceIn.of_owns hown
      have hq : isB r G now false = decide (0 < (seenCos r.cols G now).length) := by unfold isB; rw [HLV.out]; rfl
      have HQ := Lib.hid hq
      have HX := hE.trans hE6
      clear hown hq b0 hE hE6 hin
      go_wp2
      all_goals
        go_ret
        refine ⟨ret_bool (Eq.trans ?_ HQ.out.symm), HX⟩
        first | rfl | (simp; done) | (simp; omega)
    · have hq : isB r G now true = false := by unfold isB; rw [HLV.out]; rfl
      have HQ := Lib.hid hq
      clear hq
      go_wp2
      go_ret
      exact ⟨ret_bool HQ.out.symm, hE⟩
  · cases d1 : decide (G < r.live.at_)
    · have HLV : Hid (liveB r G now = false) := by show liveB r G now = false; unfold liveB; rw [d0, d1]; rfl
      refine rg_quiet rfl rfl rfl rfl ?_; intro K hK; go_big_quiet_op; go_big_quiet_on
      refine rg_quiet rfl rfl rfl rfl ?_; intro K hK; go_big_quiet_op; go_big_quiet_on
      refine rg_quiet rfl rfl rfl rfl ?_; intro K hK; go_big_quiet_op; go_big_quiet_on
      refine rg_val [] rfl rfl rfl (by kernel_rfl) (fun w1 hE hf => ?_) ?_
      · go_simp
        exact (rseen_any _ _ _ _ _ w1).mono fun e w' ⟨he, hw⟩ => ⟨_, he, rg_done hE hw (bool_congr d0)⟩
      simp only [Act.put, List.setIfInBounds_toArray, List.set_cons_zero, List.set_cons_succ]
      refine rg_quiet rfl rfl rfl rfl ?_; intro K hK; go_big_quiet_op; go_big_quiet_on
      refine rg_quiet rfl rfl rfl rfl ?_; intro K hK; go_big_quiet_op; go_big_quiet_on
      refine rg_quiet rfl rfl rfl rfl ?_; intro K hK; go_big_quiet_op; go_big_quiet_on
      refine rg_quiet rfl rfl rfl rfl ?_; intro K hK; go_big_quiet_op; go_big_quiet_on
      refine rg_quiet rfl rfl rfl rfl ?_; intro K hK; go_big_quiet_op; go_big_quiet_on
      refine rg_quiet rfl rfl rfl rfl ?_; intro K hK; go_big_quiet_op; go_big_quiet_on
      refine rg_val [] rfl rfl rfl (by kernel_rfl) (fun w1 hE hf => ?_) ?_
      · go_simp
        exact (gone7_any r v part w1).mono fun e w' ⟨he, hw⟩ => ⟨_, he, rg_done hE hw (int_congr HG.out.symm)⟩
      simp only [Act.put, List.setIfInBounds_toArray, List.set_cons_zero, List.set_cons_succ]
      refine rg_quiet rfl rfl rfl rfl ?_; intro K hK; go_big_quiet_op; go_big_quiet_on
      refine rg_quiet rfl rfl rfl rfl ?_; intro K hK; go_big_quiet_op; go_big_quiet_on
      refine rg_quiet rfl rfl rfl rfl ?_; intro K hK; go_big_quiet_op; go_big_quiet_on
      refine rel_skip rfl rfl ?_
      simp only [Act.put, List.setIfInBounds_toArray, List.set_cons_zero, List.set_cons_succ]
      refine rel_skip rfl rfl ?_
      simp only [Act.put, List.setIfInBounds_toArray, List.set_cons_zero, List.set_cons_succ]
      refine rel_skip rfl rfl ?_
      simp only [Act.put, List.setIfInBounds_toArray, List.set_cons_zero, List.set_cons_succ]
      refine rel_skip rfl rfl ?_
      simp only [Act.put, List.setIfInBounds_toArray, List.set_cons_zero, List.set_cons_succ]
      refine rel_skip rfl rfl ?_
      simp only [Act.put, List.setIfInBounds_toArray, List.set_cons_zero, List.set_cons_succ]
      refine rel_skip rfl rfl ?_
      simp only [Act.put, List.setIfInBounds_toArray, List.set_cons_zero, List.set_cons_succ]
      refine rg_quiet rfl rfl rfl rfl ?_; intro K hK; go_big_quiet_op; go_big_quiet_on
      refine rel_nil fun w5 hE5 _ => ?_
      obtain ⟨b0, hE, hin⟩ := FIN.out w5 hE5
      clear y0 y1 y2 y3 y4 y5 y6 y7 hE5 FIN
      clear d0 d1
      obtain ⟨y0, y1, y2, y3, y4, y5, y6, y7⟩ := b0.ro
      cases strict
      · go_wp2_with fail
        refine (seen7_any r v part now _ hin HL.out HD.out).mono ?_
        rw [← HG.out]
        rintro e w6 ⟨v', rfl, hown, hE6⟩
        obtain ⟨a6, c6, rfl, _, _, _, _⟩ := SliceIn.of_owns hown
        have hq : isB r G now false = decide (0 < (seenCos r.cols G now).length) := by unfold isB; rw [HLV.out]; rfl
        have HQ := Lib.hid hq
        have HX := hE.trans hE6
        clear hown hq b0 hE hE6 hin
        go_wp2
        all_goals
          go_ret
          refine ⟨ret_bool (Eq.trans ?_ HQ.out.symm), HX⟩
          first | rfl | (simp; done) | (simp; omega)
      · have hq : isB r G now true = false := by unfold isB; rw [HLV.out]; rfl
        have HQ := Lib.hid hq
        clear hq
        go_wp2
        go_ret
        exact ⟨ret_bool HQ.out.symm, hE⟩
    · cases d2 : decide (r.shade < r.live.at_)
      · have HLV : Hid (liveB r G now = false) := by show liveB r G now = false; unfold liveB; rw [d0, d1, d2]; rfl
        refine rg_quiet rfl rfl rfl rfl ?_; intro K hK; go_big_quiet_op; go_big_quiet_on
        refine rg_quiet rfl rfl rfl rfl ?_; intro K hK; go_big_quiet_op; go_big_quiet_on
        refine rg_quiet rfl rfl rfl rfl ?_; intro K hK; go_big_quiet_op; go_big_quiet_on
        refine rg_val [] rfl rfl rfl (by kernel_rfl) (fun w1 hE hf => ?_) ?_
        · go_simp
          exact (rseen_any _ _ _ _ _ w1).mono fun e w' ⟨he, hw⟩ => ⟨_, he, rg_done hE hw (bool_congr d0)⟩
        simp only [Act.put, List.setIfInBounds_toArray, List.set_cons_zero, List.set_cons_succ]
        refine rg_quiet rfl rfl rfl rfl ?_; intro K hK; go_big_quiet_op; go_big_quiet_on
        refine rg_quiet rfl rfl rfl rfl ?_; intro K hK; go_big_quiet_op; go_big_quiet_on
        refine rg_quiet rfl rfl rfl rfl ?_; intro K hK; go_big_quiet_op; go_big_quiet_on
        refine rg_quiet rfl rfl rfl rfl ?_; intro K hK; go_big_quiet_op; go_big_quiet_on
        refine rg_quiet rfl rfl rfl rfl ?_; intro K hK; go_big_quiet_op; go_big_quiet_on
        refine rg_quiet rfl rfl rfl rfl ?_; intro K hK; go_big_quiet_op; go_big_quiet_on
        refine rg_val [] rfl rfl rfl (by kernel_rfl) (fun w1 hE hf => ?_) ?_
        · go_simp
          exact (gone7_any r v part w1).mono fun e w' ⟨he, hw⟩ => ⟨_, he, rg_done hE hw (int_congr HG.out.symm)⟩
        simp only [Act.put, List.setIfInBounds_toArray, List.set_cons_zero, List.set_cons_succ]
        refine rg_quiet rfl rfl rfl rfl ?_; intro K hK; go_big_quiet_op; go_big_quiet_on
        refine rg_quiet rfl rfl rfl rfl ?_; intro K hK; go_big_quiet_op; go_big_quiet_on
        refine rg_quiet rfl rfl rfl rfl ?_; intro K hK; go_big_quiet_op; go_big_quiet_on
        refine rg_quiet rfl rfl rfl rfl ?_; intro K hK; go_big_quiet_op; go_big_quiet_on
        refine rg_quiet rfl rfl rfl rfl ?_; intro K hK; go_big_quiet_op; go_big_quiet_on
        refine rg_quiet rfl rfl rfl rfl ?_; intro K hK; go_big_quiet_op; go_big_quiet_on
        refine rg_quiet rfl rfl rfl rfl ?_; intro K hK; go_big_quiet_op; go_big_quiet_on
        refine rg_quiet rfl rfl rfl rfl ?_; intro K hK; go_big_quiet_op; go_big_quiet_on
        refine rg_quiet rfl rfl rfl rfl ?_; intro K hK; go_big_quiet_op; go_big_quiet_on
        refine rg_quiet rfl rfl rfl rfl ?_; intro K hK; go_big_quiet_op; go_big_quiet_on
        refine rel_nil fun w5 hE5 _ => ?_
        obtain ⟨b0, hE, hin⟩ := FIN.out w5 hE5
        clear y0 y1 y2 y3 y4 y5 y6 y7 hE5 FIN
        clear d0 d1 d2
        obtain ⟨y0, y1, y2, y3, y4, y5, y6, y7⟩ := b0.ro
        cases strict
        · go_wp2_with fail
          refine (seen7_any r v part now _ hin HL.out HD.out).mono ?_
          rw [← HG.out]
          rintro e w6 ⟨v', rfl, hown, hE6⟩
          obtain ⟨a6, c6, rfl, _, _, _, _⟩ := SliceIn.of_owns hown
          have hq : isB r G now false = decide (0 < (seenCos r.cols G now).length) := by unfold isB; rw [HLV.out]; rfl
          have HQ := Lib.hid hq
          have HX := hE.trans hE6
          clear hown hq b0 hE hE6 hin
          go_wp2
          all_goals
            go_ret
            refine ⟨ret_bool (Eq.trans ?_ HQ.out.symm), HX⟩
            first | rfl | (simp; done) | (simp; omega)
        · have hq : isB r G now true = false := by unfold isB; rw [HLV.out]; rfl
          have HQ := Lib.hid hq
          clear hq
          go_wp2
          go_ret
          exact ⟨ret_bool HQ.out.symm, hE⟩
      · have HLV : Hid (liveB r G now = true) := by show liveB r G now = true; unfold liveB; rw [d0, d1, d2]; rfl
        refine rg_quiet rfl rfl rfl rfl ?_; intro K hK; go_big_quiet_op; go_big_quiet_on
        refine rg_quiet rfl rfl rfl rfl ?_; intro K hK; go_big_quiet_op; go_big_quiet_on
        refine rg_quiet rfl rfl rfl rfl ?_; intro K hK; go_big_quiet_op; go_big_quiet_on
        refine rg_val [] rfl rfl rfl (by kernel_rfl) (fun w1 hE hf => ?_) ?_
        · go_simp
          exact (rseen_any _ _ _ _ _ w1).mono fun e w' ⟨he, hw⟩ => ⟨_, he, rg_done hE hw (bool_congr d0)⟩
        simp only [Act.put, List.setIfInBounds_toArray, List.set_cons_zero, List.set_cons_succ]
        refine rg_quiet rfl rfl rfl rfl ?_; intro K hK; go_big_quiet_op; go_big_quiet_on
        refine rg_quiet rfl rfl rfl rfl ?_; intro K hK; go_big_quiet_op; go_big_quiet_on
        refine rg_quiet rfl rfl rfl rfl ?_; intro K hK; go_big_quiet_op; go_big_quiet_on
        refine rg_quiet rfl rfl rfl rfl ?_; intro K hK; go_big_quiet_op; go_big_quiet_on
        refine rg_quiet rfl rfl rfl rfl ?_; intro K hK; go_big_quiet_op; go_big_quiet_on
        refine rg_quiet rfl rfl rfl rfl ?_; intro K hK; go_big_quiet_op; go_big_quiet_on
        refine rg_val [] rfl rfl rfl (by kernel_rfl) (fun w1 hE hf => ?_) ?_
        · go_simp
          exact (gone7_any r v part w1).mono fun e w' ⟨he, hw⟩ => ⟨_, he, rg_done hE hw (int_congr HG.out.symm)⟩
        simp only [Act.put, List.setIfInBounds_toArray, List.set_cons_zero, List.set_cons_succ]
        refine rg_quiet rfl rfl rfl rfl ?_; intro K hK; go_big_quiet_op; go_big_quiet_on
        refine rg_quiet rfl rfl rfl rfl ?_; intro K hK; go_big_quiet_op; go_big_quiet_on
        refine rg_quiet rfl rfl rfl rfl ?_; intro K hK; go_big_quiet_op; go_big_quiet_on
        refine rg_quiet rfl rfl rfl rfl ?_; intro K hK; go_big_quiet_op; go_big_quiet_on
        refine rg_quiet rfl rfl rfl rfl ?_; intro K hK; go_big_quiet_op; go_big_quiet_on
        refine rg_quiet rfl rfl rfl rfl ?_; intro K hK; go_big_quiet_op; go_big_quiet_on
        refine rg_quiet rfl rfl rfl rfl ?_; intro K hK; go_big_quiet_op; go_big_quiet_on
        refine rg_quiet rfl rfl rfl rfl ?_; intro K hK; go_big_quiet_op; go_big_quiet_on
        refine rg_quiet rfl rfl rfl rfl ?_; intro K hK; go_big_quiet_op; go_big_quiet_on
        refine rg_quiet rfl rfl rfl rfl ?_; intro K hK; go_big_quiet_op; go_big_quiet_on
        refine rel_nil fun w5 hE5 _ => ?_
        obtain ⟨b0, hE, hin⟩ := FIN.out w5 hE5
        clear y0 y1 y2 y3 y4 y5 y6 y7 hE5 FIN
        clear d0 d1 d2
        have hq : isB r G now strict = true := by unfold isB; rw [HLV.out]; rfl
        have HQ := Lib.hid hq
        clear hq
        go_wp2
        go_ret
        exact ⟨ret_bool HQ.out.symm, hE⟩
end Go.Proofs.Yteamiiekpjoclaa

/- ProjectMirrors: the plain law: what is seen of a mirror is what the view has of the row. -/
namespace Go.Proofs.Yteamiiekpjoclaa
open Go Go.RowKit

/-- What a view has of a row at a time. -/
def ofSeen (x : Vw) (ns : List ByteArray) (pk : ByteArray) (pg now : Int) (r : Ro) : Option (ByteArray × Ro) :=
  if bestB (cellOf r.cols x.on) (max r.gone pg) then if seenB false (cellOf r.cols x.on).at_ (cellOf r.cols x.on).fin now then some ((cellOf r.cols x.on).val, ⟨vkey pk r.key, ⟨⟨#[]⟩, false, (cellOf r.cols x.on).at_, (cellOf r.cols x.on).fin⟩, 0, 0, (seenCos r.cols (max r.gone pg) now).filter (keeps ns)⟩) else none else none
/-- What a view has of rows at a time. -/
def viewRs (x : Vw) (ns : List ByteArray) (pk : ByteArray) (pg now : Int) (l : List Ro) : List (ByteArray × Ro) := l.filterMap (ofSeen x ns pk pg now)
/-- All mirrors of rows. -/
def fullRs (x : Vw) (ns : List ByteArray) (pk : ByteArray) (pg : Int) (l : List Ro) : List (ByteArray × Ro) := l.filterMap (mirOf x ns pk pg)
/-- Partitions of one row each. -/
def outQ (l : List (ByteArray × Ro)) : List (ByteArray × Int × List Ro) := l.map fun p => (p.1, 0, [p.2])
/-- What is seen of a mirror. -/
def selP (now : Int) (p : ByteArray × Ro) : Option (ByteArray × Ro) := if isB p.2 (max p.2.gone 0) now true then some (p.1, seenRo p.2 0 now) else none
theorem viewRs_snoc (x : Vw) (ns : List ByteArray) (pk : ByteArray) (pg now : Int) (l : List Ro) (r : Ro) : viewRs x ns pk pg now (l ++ [r]) = viewRs x ns pk pg now l ++ (ofSeen x ns pk pg now r).toList := by
  unfold viewRs
  rw [List.filterMap_append]
  cases h : ofSeen x ns pk pg now r <;> simp [h]
theorem fullRs_snoc (x : Vw) (ns : List ByteArray) (pk : ByteArray) (pg : Int) (l : List Ro) (r : Ro) : fullRs x ns pk pg (l ++ [r]) = fullRs x ns pk pg l ++ (mirOf x ns pk pg r).toList := by
  unfold fullRs
  rw [List.filterMap_append]
  cases h : mirOf x ns pk pg r <;> simp [h]
theorem seenCo_max (c : Co) (g now : Int) : seenCo c (max g 0) now = seenCo c g now := by
  unfold seenCo seenB
  by_cases h : 0 < c.cell.at_
  · rw [show decide (max g 0 < c.cell.at_) = decide (g < c.cell.at_) from decide_eq_decide.2 (by omega)]
  · rw [show decide (0 < c.cell.at_) = false by simpa using h]
    simp
theorem seenCos_max (l : List Co) (g now : Int) : seenCos l (max g 0) now = seenCos l g now := by
  unfold seenCos
  congr 1
  funext c
  exact seenCo_max c g now
theorem seenCos_keeps (l : List Co) (ns : List ByteArray) (g now : Int) : seenCos (l.filter (keeps ns)) g now = (seenCos l g now).filter (keeps ns) := by
  unfold seenCos
  rw [List.filter_filter, List.filter_filter]
  congr 1
  funext c
  exact Bool.and_comm ..
theorem bestB_at {c : Cl} {g : Int} (h : bestB c g = true) : c.dead = false ∧ 1 ≤ c.at_ ∧ g < c.at_ := by
  unfold bestB at h
  simp only [Bool.not_eq_true', Bool.or_eq_false_iff, decide_eq_false_iff_not] at h
  exact ⟨h.1.1, by omega, by omega⟩
theorem sel_mir (x : Vw) (ns : List ByteArray) (pk : ByteArray) (pg now : Int) (r : Ro) : (mirOf x ns pk pg r).bind (selP now) = ofSeen x ns pk pg now r := by
  unfold mirOf ofSeen
  cases hb : bestB (cellOf r.cols x.on) (max r.gone pg) with
  | false => rfl
  | true =>
    obtain ⟨_, h1, h2⟩ := bestB_at hb
    rw [if_pos rfl, if_pos rfl]
    show selP now _ = _
    unfold selP isB liveB
    simp only
    rw [show decide (max (max r.gone pg) 0 < (cellOf r.cols x.on).at_) = true by simp; omega, show decide (0 < (cellOf r.cols x.on).at_) = true by simp; omega]
    cases hs : seenB false (cellOf r.cols x.on).at_ (cellOf r.cols x.on).fin now with
    | false => rfl
    | true =>
      rw [if_pos rfl, if_pos (by rfl)]
      unfold seenRo
      simp only
      rw [seenCos_keeps, seenCos_max]
theorem view_full (x : Vw) (ns : List ByteArray) (pk : ByteArray) (pg now : Int) (l : List Ro) : (fullRs x ns pk pg l).filterMap (selP now) = viewRs x ns pk pg now l := by
  unfold fullRs viewRs
  rw [List.filterMap_filterMap]
  congr 1
  funext r
  exact sel_mir x ns pk pg now r
section
variable {α β : Type} {f : α → Option β} {F : List α} {i : Nat}
theorem fm_next (hi : i < F.length) : (F.take (i + 1)).filterMap f = (F.take i).filterMap f ++ (f F[i]).toList := by
  rw [List.take_succ_eq_append_getElem hi, List.filterMap_append]
  congr 1
theorem fm_hit (hi : i < F.length) {q : β} (h : f F[i] = some q) : (F.filterMap f)[((F.take i).filterMap f).length]? = some q := by
  have e : F = F.take i ++ F[i] :: F.drop (i + 1) := by rw [← List.drop_eq_getElem_cons hi, List.take_append_drop]
  have e2 : F.filterMap f = (F.take i).filterMap f ++ q :: (F.drop (i + 1)).filterMap f := by
    conv => lhs; rw [e]
    rw [List.filterMap_append, List.filterMap_cons_some h]
  rw [e2, List.getElem?_append_right (Nat.le_refl _)]
  simp
theorem fm_le : ((F.take i).filterMap f).length ≤ (F.filterMap f).length := by
  conv => rhs; rw [← List.take_append_drop i F, List.filterMap_append, List.length_append]
  omega
end
end Go.Proofs.Yteamiiekpjoclaa

/- The reference's Seen of a view. -/
namespace Go.Proofs.Yteamiiekpjoclaa
open Go Go.RowKit
attribute [local go_sem] yields yUpon ro8 pa3 cl4 vw5

/-- What a view has of a row, if its key is not too long. -/
def seenF (x : Vw) (ns : List ByteArray) (pk : ByteArray) (pg now : Int) (r : Ro) : Option (ByteArray × Ro) := if 400 < (vkey pk r.key).size then none else ofSeen x ns pk pg now r
def viewF (x : Vw) (ns : List ByteArray) (pk : ByteArray) (pg now : Int) (l : List Ro) : List (ByteArray × Ro) := l.filterMap (seenF x ns pk pg now)
theorem viewF_snoc (x : Vw) (ns : List ByteArray) (pk : ByteArray) (pg now : Int) (l : List Ro) (r : Ro) : viewF x ns pk pg now (l ++ [r]) = viewF x ns pk pg now l ++ (seenF x ns pk pg now r).toList := by
  unfold viewF
  rw [List.filterMap_append]
  cases h : seenF x ns pk pg now r <;> simp [h]
theorem viewF_short {x : Vw} {ns : List ByteArray} {pk : ByteArray} {pg now : Int} {l : List Ro} (h : ∀ r ∈ l, (vkey pk r.key).size ≤ 400) : viewF x ns pk pg now l = viewRs x ns pk pg now l := by
  unfold viewF viewRs
  induction l with
  | nil => rfl
  | cons r l ih =>
    have e : seenF x ns pk pg now r = ofSeen x ns pk pg now r := by unfold seenF; rw [if_neg (by have := h r (List.mem_cons_self ..); omega)]
    rw [List.filterMap_cons, List.filterMap_cons, e, ih fun q hq => h q (List.mem_cons_of_mem _ hq)]
structure VS (w : World) (x : Vw) (u : Value) (pk : ByteArray) (pg : Int) (pu : Value) (vl : Value) (L : List Pa) (y : World) : Prop where
  ext : Ext w y
  view : BoxAt y w.heap.size (vw5 x u) 31
  part : BoxAt y (w.heap.size + 1) (pa3 pk pg pu) 39
  own : y.ownsRow (w.heap.size + 2) 39 3 vl L.length (paCells L)
  rows : ∀ p ∈ L, RowsT y p.rv p.ps
section
variable {w : World} {x : Vw} {u : Value} {pk : ByteArray} {pg : Int} {pu : Value} {vl : Value} {L : List Pa}
theorem VS.ext' {y z : World} (hE : Ext y z) (h : VS w x u pk pg pu vl L y) : VS w x u pk pg pu vl L z :=
  ⟨h.ext.trans hE, h.view.ext hE, h.part.ext hE, ownsRow_ext h.own hE, fun p hp => (h.rows p hp).ext hE⟩
theorem VS.app {y z : World} {v' : Value} {P : Pa} (h : VS w x u pk pg pu vl L y) (hg : y.grownBy z vl.ownBlock) (hown : z.ownsRow (w.heap.size + 2) 39 3 v' (L.length + 1) (paCells (L ++ [P]))) (hP : RowsT y P.rv P.ps) : VS w x u pk pg pu v' (L ++ [P]) z := by
  have hlt : ∀ q, vl.ownBlock = some q → w.heap.size + 2 ≤ q := fun q hq => (h.own.lt q hq).1
  refine ⟨h.ext.grown hg (fun q hq => by have := hlt q hq; omega), h.view.grown hg (fun e => by have := hlt _ e.symm; omega), h.part.grown hg (fun e => by have := hlt _ e.symm; omega), by rw [List.length_append]; exact hown, fun p hp => ?_⟩
  rcases List.mem_append.1 hp with hp | hp
  · exact (h.rows p hp).keepOwn h.own hg (by decide) (by decide)
  · rw [List.mem_singleton.1 hp]; exact hP.keepOwn h.own hg (by decide) (by decide)
end

set_option maxRecDepth 100000 in
set_option maxHeartbeats 8000000 in
theorem seen18_any (x : Vw) (u : Value) (ns : List ByteArray) (pk : ByteArray) (pg : Int) (pu : Value) (ps : List (Ro × Value)) (now : Int) (w : World) (hrows : RowsIn w pu ps) (hlen : ps.length ≤ 100000) (hlc : ∀ p ∈ ps, p.1.cols.length ≤ 400000) (hdc : ∀ p ∈ ps, DistN p.1.cols) (hns : StrsIn w u ns)
    (hk : pk.size ≤ 10000000) (hkeys : ∀ p ∈ ps, p.1.key.size ≤ 10000000) :
    Calls Try.prog 38 #[.agg #[.string x.name, .int .i64 x.id, .string x.table, .string x.on, u], .agg #[.string pk, .int .i64 pg, pu], .int .i64 now] w fun e w' => ∃ v', e = .returned v' ∧ ∃ L : List Pa,
      w'.ownsRow w.heap.size 39 3 v' L.length (paCells L) ∧ (∀ p ∈ L, RowsT w' p.rv p.ps) ∧ L.map Pa.data = outQ (viewF x ns pk pg now (ps.map (·.1))) ∧ Ext w w' := by
  obtain ⟨aa, ca, rfl, hca, hcma, hget⟩ := hrows.get
  obtain ⟨n, hn⟩ : ∃ n, n = ps.length := ⟨_, rfl⟩
  rw [← hn] at hlen hca ⊢
  obtain ⟨a0, a1, hE⟩ := boxes2 w (vw5 x u) (pa3 pk pg (.slice aa n ca)) 31 39
  have HN := Lib.hid hn
  have HGET := Lib.hid hget
  have HLC := Lib.hid hlc
  have HDC := Lib.hid hdc
  have HKEY := Lib.hid hkeys
  have HCOLS := Lib.hid hrows.cols
  clear hn hget hlc hdc hkeys hrows
  go_enter Try.func38, Try.ntmps38
  go_wp2
  go_loopw [7, 8] (fun m i wr => ∃ (k : Nat) (L : List Pa), k ≤ n ∧ i = .int .i64 k ∧ VS w x u pk pg (.slice aa n ca) m L wr ∧ Hid (L.map Pa.data = outQ (viewF x ns pk pg now ((ps.map (·.1)).take k))) ∧ L.length ≤ k) (fun _ i _ => n - (intOf i).toNat)
  case atStart => exact ⟨0, [], Nat.zero_le _, rfl, ⟨hE, a0, a1, World.ownsRow_nil _ _ _ _, nofun⟩, rfl, by simp⟩
  case round =>
    obtain ⟨k, L, hkn, rfl, hS, HO, hLk⟩ := hrel
    obtain ⟨p0, p1, p2⟩ := hS.part.pa
    obtain ⟨z0, z1, z2, z3, z4⟩ := hS.view.vw
    clear a0 a1 hE
    by_cases hlt : k < n
    · have hkp : k < ps.length := by rw [← HN.out]; exact hlt
      have hkc := HLC.out _ (List.getElem_mem hkp)
      have hkd := HDC.out _ (List.getElem_mem hkp)
      have hkk := HKEY.out _ (List.getElem_mem hkp)
      have hcu := HCOLS.out _ (List.getElem_mem hkp)
      obtain ⟨b, o, rfl, hat⟩ := HGET.out k hkp
      have hsnoc : (ps.map (·.1)).take (k + 1) = (ps.map (·.1)).take k ++ [ps[k].1] := by
        rw [List.take_succ_eq_append_getElem (by simpa using hkp)]
        simp
      obtain ⟨M, hM⟩ : ∃ M, M = ps[k].1 := ⟨_, rfl⟩
      obtain ⟨au, cu, hu⟩ := hcu.shape
      rw [← hM] at hkc hkd hcu hu hsnoc hat hkk
      rw [hu] at hcu hat
      have HSN : Hid (viewF x ns pk pg now ((ps.map (·.1)).take (k + 1)) = viewF x ns pk pg now ((ps.map (·.1)).take k) ++ (seenF x ns pk pg now M).toList) := by
        show _ = _
        rw [hsnoc, viewF_snoc]
      clear hM hu hsnoc
      obtain ⟨m, hm⟩ : ∃ m, m = M.cols.length := ⟨_, rfl⟩
      rw [← hm] at hcu hat
      have HMM := Lib.hid hm
      clear hm
      replace hcu := hcu.ext hS.ext
      have hn0 := hns.ext hS.ext
      obtain ⟨g0, g1, g2, g3, g4, g5, g6, g7⟩ := hat.ext hS.ext
      have hki : decide ((k : Int) < (n : Int)) = true := by simpa using hlt
      have HKD := Lib.hid hkd
      obtain ⟨G, hG⟩ : ∃ G, G = max M.gone pg := ⟨_, rfl⟩
      obtain ⟨C, hC⟩ : ∃ C, C = bestC (cellOf M.cols x.on) G := ⟨_, rfl⟩
      obtain ⟨S, hSe⟩ : ∃ S, S = seenCos M.cols G now := ⟨_, rfl⟩
      obtain ⟨mr, hmr⟩ : ∃ mr, mr = mirF x ns pk pg M := ⟨_, rfl⟩
      have hnone : mr = none → seenF x ns pk pg now M = none := by
        intro h
        rw [hmr] at h
        unfold mirF mirOf at h
        unfold seenF ofSeen
        by_cases h4 : 400 < (vkey pk M.key).size
        · rw [if_pos h4]
        · rw [if_neg h4] at h ⊢
          by_cases hb : bestB (cellOf M.cols x.on) (max M.gone pg) = true
          · rw [if_pos hb] at h; cases h
          · rw [if_neg hb]
      have hsome : ∀ q, mr = some q → q.1 = C.val ∧ C.dead = false ∧ q.2.key = vkey pk M.key ∧ q.2.live = ⟨⟨#[]⟩, false, C.at_, C.fin⟩ ∧ seenF x ns pk pg now M = if seenB false C.at_ C.fin now then some (C.val, ⟨vkey pk M.key, ⟨⟨#[]⟩, false, C.at_, C.fin⟩, 0, 0, S.filter (keeps ns)⟩) else none := by
        intro q h
        rw [hmr] at h
        unfold mirF mirOf at h
        unfold seenF ofSeen
        by_cases h4 : 400 < (vkey pk M.key).size
        · rw [if_pos h4] at h; cases h
        · rw [if_neg h4] at h ⊢
          by_cases hb : bestB (cellOf M.cols x.on) (max M.gone pg) = true
          · rw [if_pos hb] at h ⊢
            have hCc : C = cellOf M.cols x.on := by rw [hC, hG]; unfold bestC; rw [if_pos hb]
            have := (bestB_at hb).1
            cases h
            rw [hCc, hSe, hG]
            exact ⟨rfl, this, rfl, rfl, rfl⟩
          · rw [if_neg hb] at h; cases h
      have HNONE := Lib.hid hnone
      have HSOME := Lib.hid hsome
      have HG := Lib.hid hG
      have HC := Lib.hid hC
      have HSE := Lib.hid hSe
      have HMR := Lib.hid hmr
      obtain ⟨okB, hokB⟩ : ∃ B, B = bestB (cellOf M.cols x.on) G := ⟨_, rfl⟩
      have HOKB := Lib.hid hokB
      clear hG hC hSe hmr hnone hsome hokB
      clear hat hkd z0 z1 z2 z3 z4
      go_wp2_with (((guard_target =~ wpList _ _ _ (Oper.mk none (Op.store _ (Operand.tmp 9) (Operand.tmp 26)) _ _ _ _ :: _) _ _); go_must (refine storeBox rfl 55 (.tmp 9) (.tmp 26) rfl (wr.heap.size) _ _ _ (by rfl) (by rfl) ((BoxAt.made wr (ro8 ⟨⟨#[]⟩, zeroCl, 0, 0, []⟩ (.slice none 0 0)) 55)) (by kernel_rfl) (by rfl) (by simp [Value.oneCell']) ?_); intro w4 c4 h4); have hX4 : Ext wr w4 := ((Ext.refl wr).alloc _).grown h4 (fun q hq => by cases hq; exact Nat.le_refl _); have hS4 := hS.ext' hX4; have d4 : BoxAt w4 wr.heap.size (ro8 M (.slice au m cu)) 55 := c4; have hcu4 := hcu.ext hX4; have hn4 := hn0.ext hX4; obtain ⟨x0, x1, x2, x3, x4, x5, x6, x7⟩ := d4.ro; obtain ⟨z0, z1, z2, z3, z4⟩ := hS4.view.vw; obtain ⟨q0, q1, q2⟩ := hS4.part.pa)
      clear hS hcu hn0 g0 g1 g2 g3 g4 g5 g6 g7 c4 h4 hX4
      refine (mirror18_any x u ns pk pg _ M _ w4 hcu4 (by omega) hn4 hk hkk).mono ?_
      rw [← HMR.out]
      rintro e w5 ⟨rv, rfl, qs, hqs, hqm, hE5⟩
      obtain ⟨ar, cr, rfl⟩ := hqs.shape
      obtain ⟨ml, hml⟩ : ∃ ml, ml = qs.length := ⟨_, rfl⟩
      rw [← hml] at hqs ⊢
      have HML := Lib.hid hml
      have HQM := Lib.hid hqm
      clear hml hqm x0 x1 x2 x3 x4 x5 x6 x7 z0 z1 z2 z3 z4 q0 q1 q2
      have hS5 := hS4.ext' hE5
      have d5 := d4.ext hE5
      clear hS4 d4 p0 p1 p2
      go_wp2_with (((guard_target =~ wpList _ _ _ (Oper.mk none (Op.store _ (Operand.tmp 10) (Operand.tmp 32)) _ _ _ _ :: _) _ _); go_must (refine storeBox rfl 39 (.tmp 10) (.tmp 32) rfl (w5.heap.size) _ _ _ (by rfl) (by rfl) ((BoxAt.made w5 (pa3 ⟨#[]⟩ 0 (.slice none 0 0)) 39)) (by kernel_rfl) (by rfl) (by simp [Value.oneCell']) ?_); intro w6 c6 h6); have hX6 : Ext w5 w6 := ((Ext.refl w5).alloc _).grown h6 (fun q hq => by cases hq; exact Nat.le_refl _); have hS6 := hS5.ext' hX6; have d6 := d5.ext hX6; have e6 : BoxAt w6 w5.heap.size (pa3 (mirK mr) 0 (.slice ar ml cr)) 39 := c6; obtain ⟨x0, x1, x2, x3, x4, x5, x6, x7⟩ := d6.ro; obtain ⟨z0, z1, z2, z3, z4⟩ := hS6.view.vw; obtain ⟨q0, q1, q2⟩ := hS6.part.pa)
      have hcu6 := hcu4.ext (hE5.trans hX6)
      have hn6 := hn4.ext (hE5.trans hX6)
      have hq6 := hqs.ext hX6
      clear hcu4 hn4 hqs hE5 hX6 c6 h6 hS5 d5
      refine (best7_any M _ pg x.on w6 hcu6).mono ?_
      rw [← HG.out, ← HC.out, ← HOKB.out]
      rintro e w7 ⟨rfl, hE7⟩
      have hS7 := hS6.ext' hE7
      have d7 := d6.ext hE7
      have e7 := e6.ext hE7
      have hcu7 := hcu6.ext hE7
      have hn7 := hn6.ext hE7
      have hq7 := hq6.ext hE7
      clear hcu6 hn6 hq6 hE7 hS6 d6 e6 x0 x1 x2 x3 x4 x5 x6 x7 z0 z1 z2 z3 z4 q0 q1 q2
      cases mr with
      | none =>
        have HSN2 : Hid (viewF x ns pk pg now ((ps.map (·.1)).take (k + 1)) = viewF x ns pk pg now ((ps.map (·.1)).take k)) := by
          show _ = _
          rw [HSN.out, HNONE.out rfl]
          exact List.append_nil _
        simp only [mirK, Option.isSome]
        go_wp2_with (((guard_target =~ wpList _ _ _ (Oper.mk none (Op.store _ (Operand.tmp 12) (Operand.tmp 41)) _ _ _ _ :: _) _ _); go_must (refine storeBox rfl 52 (.tmp 12) (.tmp 41) rfl (w7.heap.size) _ _ _ (by rfl) (by rfl) ((BoxAt.made w7 (cl4 zeroCl) 52)) (by kernel_rfl) (by rfl) (by simp [Value.oneCell']) ?_); intro w8 c8 h8); have hX8 : Ext w7 w8 := ((Ext.refl w7).alloc _).grown h8 (fun q hq => by cases hq; exact Nat.le_refl _); have hS8 := hS7.ext' hX8)
        go_roundw
        case rel => exact ⟨k + 1, L, by omega, by go_num, hS8, by show _ = _; rw [HSN2.out]; exact HO.out, by omega⟩
        case measure => simp [intOf] <;> omega
      | some q =>
        obtain ⟨h1, h2, h3, h4, h5⟩ := HSOME.out q rfl
        simp only [mirK, Option.isSome]
        have H1 := Lib.hid h1
        have H2 := Lib.hid h2
        have H3 := Lib.hid h3
        have H4 := Lib.hid h4
        have H5 := Lib.hid h5
        clear h1 h2 h3 h4 h5
        go_wp2_with (((guard_target =~ wpList _ _ _ (Oper.mk none (Op.store _ (Operand.tmp 12) (Operand.tmp 41)) _ _ _ _ :: _) _ _); go_must (refine storeBox rfl 52 (.tmp 12) (.tmp 41) rfl (w7.heap.size) _ _ _ (by rfl) (by rfl) ((BoxAt.made w7 (cl4 zeroCl) 52)) (by kernel_rfl) (by rfl) (by simp [Value.oneCell']) ?_); intro w8 c8 h8); have hX8 : Ext w7 w8 := ((Ext.refl w7).alloc _).grown h8 (fun q hq => by cases hq; exact Nat.le_refl _); have hS8 := hS7.ext' hX8; have d8 := d7.ext hX8; have e8 := e7.ext hX8; have f8 : BoxAt w8 w7.heap.size (cl4 C) 52 := c8; obtain ⟨y0, y1, y2, y3⟩ := f8.cl)
        have hcu8 := hcu7.ext hX8
        have hn8 := hn7.ext hX8
        have hq8 := hq7.ext hX8
        clear hcu7 hn7 hq7 hX8 c8 h8 hS7 d7 e7
        refine (rseen_any C.val C.dead C.at_ C.fin now w8).mono ?_
        rw [H2.out]
        obtain ⟨SB, hSB⟩ : ∃ B, B = seenB false C.at_ C.fin now := ⟨_, rfl⟩
        rw [← hSB]
        have HSB := Lib.hid hSB
        clear hSB
        rintro e w9 ⟨rfl, hE9⟩
        have hS9 := hS8.ext' hE9
        have d9 := d8.ext hE9
        have e9 := e8.ext hE9
        have hcu9 := hcu8.ext hE9
        have hn9 := hn8.ext hE9
        have hq9 := hq8.ext hE9
        clear hcu8 hn8 hq8 hE9 hS8 d8 e8 f8 y0 y1 y2 y3
        cases SB
        · have HSN2 : Hid (viewF x ns pk pg now ((ps.map (·.1)).take (k + 1)) = viewF x ns pk pg now ((ps.map (·.1)).take k)) := by
            show _ = _
            rw [HSN.out, H5.out, ← HSB.out]
            exact List.append_nil _
          go_wp2_with fail
          go_roundw
          case rel => exact ⟨k + 1, L, by omega, by go_num, hS9, by show _ = _; rw [HSN2.out]; exact HO.out, by omega⟩
          case measure => simp [intOf] <;> omega
        · have HSN2 : Hid (viewF x ns pk pg now ((ps.map (·.1)).take (k + 1)) = viewF x ns pk pg now ((ps.map (·.1)).take k) ++ [(C.val, ⟨vkey pk M.key, ⟨⟨#[]⟩, false, C.at_, C.fin⟩, 0, 0, S.filter (keeps ns)⟩)]) := by
            show _ = _
            rw [HSN.out, H5.out, ← HSB.out]
            rfl
          obtain ⟨K, hK⟩ : ∃ K, K = S.filter (keeps ns) := ⟨_, rfl⟩
          rw [← hK] at HSN2
          have HK := Lib.hid hK
          have hSl : S.length ≤ 400000 := by rw [HSE.out]; exact Nat.le_trans (List.length_filter_le _ _) (by have := HMM.out; omega)
          have HSL := Lib.hid hSl
          clear hK hSl HSN
          -- the mirror's row
          obtain ⟨aq, cq, eq1, hcq, hcqm, hgq⟩ := hq9.rows.get
          have hl1 : qs.length = 1 := by have := congrArg List.length HQM.out; simpa [mirR] using this
          obtain ⟨bq, oq, e0, hrq⟩ := hgq 0 (by omega)
          have hq0 : qs[0].1 = q.2 := by
            have h := HQM.out
            simp only [mirR] at h
            have h2 : (qs.map (·.1))[0]? = some q.2 := by rw [h]; rfl
            rw [List.getElem?_map, List.getElem?_eq_getElem (by omega)] at h2
            exact Option.some.inj h2
          injection eq1 with e1 e2 e3
          subst e1 e3 e0
          have hml1 : ml = 1 := by rw [HML.out]; exact hl1
          subst hml1
          simp only [Nat.zero_mul, Nat.add_zero] at hrq
          have r0 : w9.cell? ⟨bq, oq, none⟩ = some (.string (vkey pk M.key)) := by have := hrq.c0; rw [hq0, H3.out] at this; exact this
          have r1 : w9.cell? ⟨bq, oq + 1, none⟩ = some (.string ⟨#[]⟩) := by have := hrq.c1; rw [hq0, H4.out] at this; exact this
          have r2 : w9.cell? ⟨bq, oq + 2, none⟩ = some (.bool false) := by have := hrq.c2; rw [hq0, H4.out] at this; exact this
          have r3 : w9.cell? ⟨bq, oq + 3, none⟩ = some (.int .i64 C.at_) := by have := hrq.c3; rw [hq0, H4.out] at this; exact this
          have r4 : w9.cell? ⟨bq, oq + 4, none⟩ = some (.int .i64 C.fin) := by have := hrq.c4; rw [hq0, H4.out] at this; exact this
          clear hrq hgq hq0 hcq hcqm e2 hq9
          obtain ⟨key, hkey⟩ : ∃ key, key = vkey pk M.key := ⟨_, rfl⟩
          rw [← hkey] at r0 HSN2
          clear hkey
          obtain ⟨x0, x1, x2, x3, x4, x5, x6, x7⟩ := d9.ro
          obtain ⟨z0, z1, z2, z3, z4⟩ := hS9.view.vw
          obtain ⟨q0, q1, q2⟩ := hS9.part.pa
          obtain ⟨t0, t1, t2⟩ := e9.pa
          go_wp2_with fail
          refine wp_region_tab 19 [(15, fun v y => ColsT y v S), (16, fun v y => ColsT y v K), (18, fun v y => ∃ q, v = .pointer (some ⟨q, 0, none⟩) ∧ w9.heap.size ≤ q ∧ BoxAt y q (ro8 ⟨⟨#[]⟩, zeroCl, 0, 0, []⟩ (.slice none 0 0)) 55)] (by kernel_rfl) (by kernel_rfl) (by kernel_rfl) ⟨fun _ _ _ hE h => h.ext hE, fun _ _ _ hE h => h.ext hE, fun _ _ _ hE ⟨q, e, h1, h2⟩ => ⟨q, e, h1, h2.ext hE⟩, trivial⟩ ?_
          replace r0 := held r0
          replace r1 := held r1
          replace r2 := held r2
          replace r3 := held r3
          replace r4 := held r4
          replace x0 := held x0
          replace x1 := held x1
          replace x2 := held x2
          replace x3 := held x3
          replace x4 := held x4
          replace x5 := held x5
          replace x6 := held x6
          replace x7 := held x7
          replace z0 := held z0
          replace z1 := held z1
          replace z2 := held z2
          replace z3 := held z3
          replace z4 := held z4
          replace q1 := held q1
          replace t2 := held t2
          refine rg_quiet rfl rfl rfl rfl ?_; intro K hK; go_big_quiet_op; go_big_quiet_on
          refine rg_quiet rfl rfl rfl rfl ?_; intro K hK; go_big_quiet_op; go_big_quiet_on
          refine rg_quiet rfl rfl rfl rfl ?_; intro K hK; go_big_quiet_op; go_big_quiet_on
          refine rg_quiet rfl rfl rfl rfl ?_; intro K hK; go_big_quiet_op; go_big_quiet_on
          refine rg_quiet rfl rfl rfl rfl ?_; intro K hK; go_big_quiet_op; go_big_quiet_on
          refine rg_quiet rfl rfl rfl rfl ?_; intro K hK; go_big_quiet_op; go_big_quiet_on
          refine rg_quiet rfl rfl rfl rfl ?_; intro K hK; go_big_quiet_op; go_big_quiet_on
          refine rg_quiet rfl rfl rfl rfl ?_; intro K hK; go_big_quiet_op; go_big_quiet_on
          refine rg_quiet rfl rfl rfl rfl ?_; intro K hK; go_big_quiet_op; go_big_quiet_on
          refine rg_quiet rfl rfl rfl rfl ?_; intro K hK; go_big_quiet_op; go_big_quiet_on
          refine rg_quiet rfl rfl rfl rfl ?_; intro K hK; go_big_quiet_op; go_big_quiet_on
          refine rg_quiet rfl rfl rfl rfl ?_; intro K hK; go_big_quiet_op; go_big_quiet_on
          refine rg_quiet rfl rfl rfl rfl ?_; intro K hK; go_big_quiet_op; go_big_quiet_on
          refine rg_quiet rfl rfl rfl rfl ?_; intro K hK; go_big_quiet_op; go_big_quiet_on
          refine rg_quiet rfl rfl rfl rfl ?_; intro K hK; go_big_quiet_op; go_big_quiet_on
          refine rg_fact [] rfl rfl rfl (by kernel_rfl) (fun y hY hf => ?_) (fun v15 y15 hE15 hG15 h15 => ?_)
          · go_simp
            refine (seen7_any M (.slice au m cu) pg now y (hcu9.ext hY) (by have := HMM.out; omega) HKD.out).mono ?_
            rw [← HG.out, ← HSE.out]
            rintro e y' ⟨v', he, hown', hy⟩
            exact ⟨_, he, rg_doneR hY hy (TIn.own hown')⟩
          obtain ⟨a15, c15, rfl⟩ := TIn.shape h15
          clear hE15 hG15 h15
          simp only [Act.put, List.setIfInBounds_toArray, List.set_cons_zero, List.set_cons_succ]
          refine rg_fact [15] rfl rfl rfl (by kernel_rfl) (fun y hY hf => ?_) (fun v16 y16 hE16 hG16 h16 => ?_)
          · have hc15 : ColsT y (.slice a15 S.length c15) S := (hf 15 (by simp)).2 rfl
            go_simp
            refine (pick18_any x u ns _ S y (hn9.ext hY) hc15.cols (by have := HSL.out; omega)).mono ?_
            rw [← HK.out]
            rintro e y' ⟨v', he, hown', hy⟩
            exact ⟨_, he, rg_doneR hY hy (TIn.own hown')⟩
          obtain ⟨a16, c16, rfl⟩ := TIn.shape h16
          clear hE16 hG16 h16
          simp only [Act.put, List.setIfInBounds_toArray, List.set_cons_zero, List.set_cons_succ]
          refine rg_quiet rfl rfl rfl rfl ?_; intro K hK; go_big_quiet_op; go_big_quiet_on
          refine rg_fact [] rfl rfl rfl (by kernel_rfl) (fun y hY hf => ?_) (fun v18 y18 hE18 hG18 h18 => ?_)
          · go_simp
            exact rg_doneR hY ((Ext.refl y).alloc _) ⟨_, rfl, hY.le, BoxAt.made y _ _⟩
          obtain ⟨q18, rfl, _⟩ := h18
          clear hE18 hG18
          simp only [Act.put, List.setIfInBounds_toArray, List.set_cons_zero, List.set_cons_succ]
          refine rel_tail rfl rfl fun w10 hE10 hG => ?_
          have hcT : ColsT w10 (.slice a16 K.length c16) K := (hG 16).1.2 rfl
          obtain ⟨q18', e18, hq18, hbx⟩ := (hG 18).2 rfl
          cases e18
          clear hG r0 r1 r2 r3 r4 x0 x1 x2 x3 x4 x5 x6 x7 z0 z1 z2 z3 z4 q0 q1 q2 t0 t1 t2
          obtain ⟨kl, hkl⟩ : ∃ kl, kl = K.length := ⟨_, rfl⟩
          have HKL := Lib.hid hkl
          rw [← hkl] at hcT ⊢
          clear hkl d9 hcu9 hn9
          go_wp2_with (first
            | (((guard_target =~ wpList _ _ _ (Oper.mk none (Op.store _ (Operand.tmp 14) (Operand.tmp 68)) _ _ _ _ :: _) _ _); go_must (refine storeBox rfl 55 (.tmp 14) (.tmp 68) rfl (q18) _ _ _ (by rfl) (by rfl) (hbx) (by kernel_rfl) (by rfl) (by simp [Value.oneCell']) ?_); intro w11 c11 h11); have d11 : BoxAt w11 q18 (ro8 ⟨key, ⟨⟨#[]⟩, false, C.at_, C.fin⟩, 0, 0, K⟩ (.slice a16 kl c16)) 55 := c11; have hE11 : Ext w9 w11 := hE10.grown h11 (fun q hq => by cases hq; exact hq18); have hS11 := hS9.ext' hE11; have hc11 : ColsT w11 (.slice a16 kl c16) K := hcT.keep h11 hbx (by decide); obtain ⟨t0, t1, t2⟩ := (e9.ext hE11).pa; have hl11 := hS11.part.lt; obtain ⟨y0, y1, y2, y3, y4, y5, y6, y7⟩ := d11.ro)
            | (at_builtin; go_must (refine appR info_Part und_Parts rfl (by decide) (w11.alloc (.cells (ro8 ⟨key, ⟨⟨#[]⟩, false, C.at_, C.fin⟩, 0, 0, K⟩ (.slice a16 kl c16)) 55)) rfl (.tmp 69) (.tmp 75) rfl (w.heap.size + 2) (by rw [Deep.nblk_alloc]; omega) _ L.length (paCells L) (hS11.ext' ((Ext.refl _).alloc _)).own (by rfl) 1 (pa3 q.1 0 (.slice (some ⟨w11.heap.size, 0, none⟩) 1 1)) (by rw [Deep.nblk_alloc]; rfl) (by rfl) (by simp [pa3, Value.oneCell']) (by unfold maxLen; omega) (by omega) ?_); intro m3 w13 hown13 hg13))
          have e3 : paCells L ++ [Value.string q.1, .int .i64 0, .slice (some ⟨w11.heap.size, 0, none⟩) 1 1] = paCells (L ++ [⟨q.1, 0, .slice (some ⟨w11.heap.size, 0, none⟩) 1 1, [(⟨key, ⟨⟨#[]⟩, false, C.at_, C.fin⟩, 0, 0, K⟩, .slice a16 kl c16)]⟩]) := by rw [paCells_append]; rfl
          have E3 := Lib.hid e3
          clear e3
          have hX12 : Ext w11 (w11.alloc (.cells (ro8 ⟨key, ⟨⟨#[]⟩, false, C.at_, C.fin⟩, 0, 0, K⟩ (.slice a16 kl c16)) 55)) := (Ext.refl _).alloc _
          have hrow : RowsT (w11.alloc (.cells (ro8 ⟨key, ⟨⟨#[]⟩, false, C.at_, C.fin⟩, 0, 0, K⟩ (.slice a16 kl c16)) 55)) (.slice (some ⟨w11.heap.size, 0, none⟩) 1 1) [(⟨key, ⟨⟨#[]⟩, false, C.at_, C.fin⟩, 0, 0, K⟩, .slice a16 kl c16)] :=
            RowsT.one (BoxAt.made w11 _ _) (ColsT.ext hX12 hc11)
          clear y0 y1 y2 y3 y4 y5 y6 y7 t0 t1 t2 d11 c11 h11 hbx hcT
          go_roundw
          case rel =>
            refine ⟨k + 1, _, by omega, by go_num, ((hS11.ext' hX12).ext' ((Ext.refl _).alloc _)).app hg13 (by rw [← E3.out]; exact hown13) (hrow.ext ((Ext.refl _).alloc _)), ?_, by simp; omega⟩
            show List.map Pa.data (L ++ [_]) = _
            rw [HSN2.out, List.map_append, HO.out]
            unfold outQ
            rw [List.map_append]
            simp [Pa.data, H1.out]
          case measure => simp [intOf] <;> omega
    · obtain rfl : k = n := by omega
      have hki : decide ((k : Int) < (k : Int)) = false := by simp
      go_wp2_with fail
      go_ret
      refine ⟨_, rfl, L, ownsRow_base hS.own (by omega), hS.rows, ?_, hS.ext⟩
      rw [HO.out, HN.out, List.take_of_length_le (by simp)]
end Go.Proofs.Yteamiiekpjoclaa
