/- row.Is. -/
import Derived.Test.YteamiiekpjoclaaM3
import Derived.Test.YteamiiekpjoclaaM11
import Derived.Test.YteamiiekpjoclaaM13
import Derived.Test.YteamiiekpjoclaaM17
namespace Go.Proofs.Yteamiiekpjoclaa
open Go Go.RowKit
attribute [local go_sem] yields yUpon

/-- Is what makes a row be counted? -/
def liveB (r : Ro) (G now : Int) : Bool := seenB r.live.dead r.live.at_ r.live.fin now && decide (G < r.live.at_) && decide (r.shade < r.live.at_)
def isB (r : Ro) (G now : Int) (strict : Bool) : Bool := liveB r G now || (!strict && decide (0 < (seenCos r.cols G now).length))

set_option maxRecDepth 100000 in
set_option maxHeartbeats 4000000 in
theorem ris_any (r : Ro) (v : Value) (part now : Int) (strict : Bool) (w : World) (hin : ColsIn w v r.cols) (hlen : r.cols.length ≤ 1000000) :
    Calls Try.prog 59 #[(.agg #[.string r.key, .string r.live.val, .bool r.live.dead, .int .i64 r.live.at_, .int .i64 r.live.fin, .int .i64 r.gone, .int .i64 r.shade, v]), .int .i64 part, .int .i64 now, .bool strict] w fun e w' => e = .returned (.bool (isB r (max r.gone part) now strict)) ∧ Ext w w' := by
  obtain ⟨G, hG⟩ : ∃ G, G = max r.gone part := ⟨_, rfl⟩
  rw [← hG]
  have HG := Lib.hid hG
  have HL := Lib.hid hlen
  clear hG hlen
  go_enter Try.func59, Try.ntmps59
  go_wp2_with fail
  refine wp_region_in 22 [(3, fun v _ => v = .bool (seenB r.live.dead r.live.at_ r.live.fin now)), (10, fun v _ => v = .int .i64 G)] (fun w0 => BoxAt w0 w.heap.size (ro8 r v) 55 ∧ Ext w w0 ∧ ColsIn w0 v r.cols) (by kernel_rfl) (by kernel_rfl) (by kernel_rfl) ⟨stays_eq _, stays_eq _, trivial⟩ ?_ ?_
  · exact ⟨BoxAt.made _ _ _, (Ext.refl w).alloc _, hin.ext ((Ext.refl w).alloc _)⟩
  clear hin
  rintro w2 ⟨b0, hE, hin⟩
  have FIN : Hid (∀ wx, Ext w2 wx → BoxAt wx w.heap.size (ro8 r v) 55 ∧ Ext w wx ∧ ColsIn wx v r.cols) := fun wx h => ⟨b0.ext h, hE.trans h, hin.ext h⟩
  obtain ⟨y0, y1, y2, y3, y4, y5, y6, y7⟩ := b0.ro
  clear b0 hE hin
  replace y0 := held y0
  replace y1 := held y1
  replace y2 := held y2
  replace y3 := held y3
  replace y4 := held y4
  replace y5 := held y5
  replace y6 := held y6
  replace y7 := held y7
  cases d0 : seenB r.live.dead r.live.at_ r.live.fin now
  · have HLV : Hid (liveB r G now = false) := by show liveB r G now = false; unfold liveB; rw [d0]; rfl
    refine rg_quiet rfl rfl rfl rfl ?_; intro K hK; go_big_quiet_op; go_big_quiet_on
    refine rg_quiet rfl rfl rfl rfl ?_; intro K hK; go_big_quiet_op; go_big_quiet_on
    refine rg_quiet rfl rfl rfl rfl ?_; intro K hK; go_big_quiet_op; go_big_quiet_on
    refine rg_val [] rfl rfl rfl (by kernel_rfl) (fun w1 hE hf => ?_) ?_
    · go_simp
      exact (seen_any _ _ _ _ _ w1).mono fun e w' ⟨he, hw⟩ => ⟨_, he, rg_done hE hw (bool_congr d0)⟩
    simp only [Act.put, List.setIfInBounds_toArray, List.set_cons_zero, List.set_cons_succ]
    refine rg_quiet rfl rfl rfl rfl ?_; intro K hK; go_big_quiet_op; go_big_quiet_on
    refine rel_skip rfl rfl ?_
    simp only [Act.put, List.setIfInBounds_toArray, List.set_cons_zero, List.set_cons_succ]
    refine rel_skip rfl rfl ?_
    simp only [Act.put, List.setIfInBounds_toArray, List.set_cons_zero, List.set_cons_succ]
    refine rel_skip rfl rfl ?_
    simp only [Act.put, List.setIfInBounds_toArray, List.set_cons_zero, List.set_cons_succ]
    refine rel_skip rfl rfl ?_
    simp only [Act.put, List.setIfInBounds_toArray, List.set_cons_zero, List.set_cons_succ]
    refine rel_skip rfl rfl ?_
    simp only [Act.put, List.setIfInBounds_toArray, List.set_cons_zero, List.set_cons_succ]
    refine rel_skip rfl rfl ?_
    simp only [Act.put, List.setIfInBounds_toArray, List.set_cons_zero, List.set_cons_succ]
    refine rel_skip rfl rfl ?_
    simp only [Act.put, List.setIfInBounds_toArray, List.set_cons_zero, List.set_cons_succ]
    refine rg_quiet rfl rfl rfl rfl ?_; intro K hK; go_big_quiet_op; go_big_quiet_on
    refine rg_quiet rfl rfl rfl rfl ?_; intro K hK; go_big_quiet_op; go_big_quiet_on
    refine rel_skip rfl rfl ?_
    simp only [Act.put, List.setIfInBounds_toArray, List.set_cons_zero, List.set_cons_succ]
    refine rel_skip rfl rfl ?_
    simp only [Act.put, List.setIfInBounds_toArray, List.set_cons_zero, List.set_cons_succ]
    refine rel_skip rfl rfl ?_
    simp only [Act.put, List.setIfInBounds_toArray, List.set_cons_zero, List.set_cons_succ]
    refine rel_skip rfl rfl ?_
    simp only [Act.put, List.setIfInBounds_toArray, List.set_cons_zero, List.set_cons_succ]
    refine rel_skip rfl rfl ?_
    simp only [Act.put, List.setIfInBounds_toArray, List.set_cons_zero, List.set_cons_succ]
    refine rel_skip rfl rfl ?_
    simp only [Act.put, List.setIfInBounds_toArray, List.set_cons_zero, List.set_cons_succ]
    refine rg_quiet rfl rfl rfl rfl ?_; intro K hK; go_big_quiet_op; go_big_quiet_on
    refine rg_quiet rfl rfl rfl rfl ?_; intro K hK; go_big_quiet_op; go_big_quiet_on
    refine rel_nil fun w5 hE5 _ => ?_
    obtain ⟨b0, hE, hin⟩ := FIN.out w5 hE5
    clear y0 y1 y2 y3 y4 y5 y6 y7 hE5 FIN
    clear d0
    obtain ⟨y0, y1, y2, y3, y4, y5, y6, y7⟩ := b0.ro
    cases strict
    · go_wp2_with fail
      refine (rwseen_any r v part now _ hin HL.out).mono ?_
      rw [← HG.out]
      rintro e w6 ⟨v', rfl, hown, hE6⟩
      obtain ⟨a6, c6, rfl, _, _, _, _⟩ := SliceIn.of_owns hown
      have hq : isB r G now false = decide (0 < (seenCos r.cols G now).length) := by unfold isB; rw [HLV.out]; rfl
      have HQ := Lib.hid hq
      have HX := hE.trans hE6
      clear hown hq b0 hE hE6 hin
      go_wp2
      all_goals
        go_ret
        refine ⟨ret_bool (Eq.trans ?_ HQ.out.symm), HX⟩
        first | rfl | (simp; done) | (simp; omega)
    · have hq : isB r G now true = false := by unfold isB; rw [HLV.out]; rfl
      have HQ := Lib.hid hq
      clear hq
      go_wp2
      go_ret
      exact ⟨ret_bool HQ.out.symm, hE⟩
  · cases d1 : decide (G < r.live.at_)
    · have HLV : Hid (liveB r G now = false) := by show liveB r G now = false; unfold liveB; rw [d0, d1]; rfl
      refine rg_quiet rfl rfl rfl rfl ?_; intro K hK; go_big_quiet_op; go_big_quiet_on
      refine rg_quiet rfl rfl rfl rfl ?_; intro K hK; go_big_quiet_op; go_big_quiet_on
      refine rg_quiet rfl rfl rfl rfl ?_; intro K hK; go_big_quiet_op; go_big_quiet_on
      refine rg_val [] rfl rfl rfl (by kernel_rfl) (fun w1 hE hf => ?_) ?_
      · go_simp
        exact (seen_any _ _ _ _ _ w1).mono fun e w' ⟨he, hw⟩ => ⟨_, he, rg_done hE hw (bool_congr d0)⟩
      simp only [Act.put, List.setIfInBounds_toArray, List.set_cons_zero, List.set_cons_succ]
      refine rg_quiet rfl rfl rfl rfl ?_; intro K hK; go_big_quiet_op; go_big_quiet_on
      refine rg_quiet rfl rfl rfl rfl ?_; intro K hK; go_big_quiet_op; go_big_quiet_on
      refine rg_quiet rfl rfl rfl rfl ?_; intro K hK; go_big_quiet_op; go_big_quiet_on
      refine rg_quiet rfl rfl rfl rfl ?_; intro K hK; go_big_quiet_op; go_big_quiet_on
      refine rg_quiet rfl rfl rfl rfl ?_; intro K hK; go_big_quiet_op; go_big_quiet_on
      refine rg_quiet rfl rfl rfl rfl ?_; intro K hK; go_big_quiet_op; go_big_quiet_on
      refine rg_val [] rfl rfl rfl (by kernel_rfl) (fun w1 hE hf => ?_) ?_
      · go_simp
        exact (rgone_any r v part w1).mono fun e w' ⟨he, hw⟩ => ⟨_, he, rg_done hE hw (int_congr HG.out.symm)⟩
      simp only [Act.put, List.setIfInBounds_toArray, List.set_cons_zero, List.set_cons_succ]
      refine rg_quiet rfl rfl rfl rfl ?_; intro K hK; go_big_quiet_op; go_big_quiet_on
      refine rg_quiet rfl rfl rfl rfl ?_; intro K hK; go_big_quiet_op; go_big_quiet_on
      refine rg_quiet rfl rfl rfl rfl ?_; intro K hK; go_big_quiet_op; go_big_quiet_on
      refine rel_skip rfl rfl ?_
      simp only [Act.put, List.setIfInBounds_toArray, List.set_cons_zero, List.set_cons_succ]
      refine rel_skip rfl rfl ?_
      simp only [Act.put, List.setIfInBounds_toArray, List.set_cons_zero, List.set_cons_succ]
      refine rel_skip rfl rfl ?_
      simp only [Act.put, List.setIfInBounds_toArray, List.set_cons_zero, List.set_cons_succ]
      refine rel_skip rfl rfl ?_
      simp only [Act.put, List.setIfInBounds_toArray, List.set_cons_zero, List.set_cons_succ]
      refine rel_skip rfl rfl ?_
      simp only [Act.put, List.setIfInBounds_toArray, List.set_cons_zero, List.set_cons_succ]
      refine rel_skip rfl rfl ?_
      simp only [Act.put, List.setIfInBounds_toArray, List.set_cons_zero, List.set_cons_succ]
      refine rg_quiet rfl rfl rfl rfl ?_; intro K hK; go_big_quiet_op; go_big_quiet_on
      refine rg_quiet rfl rfl rfl rfl ?_; intro K hK; go_big_quiet_op; go_big_quiet_on
      refine rel_nil fun w5 hE5 _ => ?_
      obtain ⟨b0, hE, hin⟩ := FIN.out w5 hE5
      clear y0 y1 y2 y3 y4 y5 y6 y7 hE5 FIN
      clear d0 d1
      obtain ⟨y0, y1, y2, y3, y4, y5, y6, y7⟩ := b0.ro
      cases strict
      · go_wp2_with fail
        refine (rwseen_any r v part now _ hin HL.out).mono ?_
        rw [← HG.out]
        rintro e w6 ⟨v', rfl, hown, hE6⟩
        obtain ⟨a6, c6, rfl, _, _, _, _⟩ := SliceIn.of_owns hown
        have hq : isB r G now false = decide (0 < (seenCos r.cols G now).length) := by unfold isB; rw [HLV.out]; rfl
        have HQ := Lib.hid hq
        have HX := hE.trans hE6
        clear hown hq b0 hE hE6 hin
        go_wp2
        all_goals
          go_ret
          refine ⟨ret_bool (Eq.trans ?_ HQ.out.symm), HX⟩
          first | rfl | (simp; done) | (simp; omega)
      · have hq : isB r G now true = false := by unfold isB; rw [HLV.out]; rfl
        have HQ := Lib.hid hq
        clear hq
        go_wp2
        go_ret
        exact ⟨ret_bool HQ.out.symm, hE⟩
    · cases d2 : decide (r.shade < r.live.at_)
      · have HLV : Hid (liveB r G now = false) := by show liveB r G now = false; unfold liveB; rw [d0, d1, d2]; rfl
        refine rg_quiet rfl rfl rfl rfl ?_; intro K hK; go_big_quiet_op; go_big_quiet_on
        refine rg_quiet rfl rfl rfl rfl ?_; intro K hK; go_big_quiet_op; go_big_quiet_on
        refine rg_quiet rfl rfl rfl rfl ?_; intro K hK; go_big_quiet_op; go_big_quiet_on
        refine rg_val [] rfl rfl rfl (by kernel_rfl) (fun w1 hE hf => ?_) ?_
        · go_simp
          exact (seen_any _ _ _ _ _ w1).mono fun e w' ⟨he, hw⟩ => ⟨_, he, rg_done hE hw (bool_congr d0)⟩
        simp only [Act.put, List.setIfInBounds_toArray, List.set_cons_zero, List.set_cons_succ]
        refine rg_quiet rfl rfl rfl rfl ?_; intro K hK; go_big_quiet_op; go_big_quiet_on
        refine rg_quiet rfl rfl rfl rfl ?_; intro K hK; go_big_quiet_op; go_big_quiet_on
        refine rg_quiet rfl rfl rfl rfl ?_; intro K hK; go_big_quiet_op; go_big_quiet_on
        refine rg_quiet rfl rfl rfl rfl ?_; intro K hK; go_big_quiet_op; go_big_quiet_on
        refine rg_quiet rfl rfl rfl rfl ?_; intro K hK; go_big_quiet_op; go_big_quiet_on
        refine rg_quiet rfl rfl rfl rfl ?_; intro K hK; go_big_quiet_op; go_big_quiet_on
        refine rg_val [] rfl rfl rfl (by kernel_rfl) (fun w1 hE hf => ?_) ?_
        · go_simp
          exact (rgone_any r v part w1).mono fun e w' ⟨he, hw⟩ => ⟨_, he, rg_done hE hw (int_congr HG.out.symm)⟩
        simp only [Act.put, List.setIfInBounds_toArray, List.set_cons_zero, List.set_cons_succ]
        refine rg_quiet rfl rfl rfl rfl ?_; intro K hK; go_big_quiet_op; go_big_quiet_on
        refine rg_quiet rfl rfl rfl rfl ?_; intro K hK; go_big_quiet_op; go_big_quiet_on
        refine rg_quiet rfl rfl rfl rfl ?_; intro K hK; go_big_quiet_op; go_big_quiet_on
        refine rg_quiet rfl rfl rfl rfl ?_; intro K hK; go_big_quiet_op; go_big_quiet_on
        refine rg_quiet rfl rfl rfl rfl ?_; intro K hK; go_big_quiet_op; go_big_quiet_on
        refine rg_quiet rfl rfl rfl rfl ?_; intro K hK; go_big_quiet_op; go_big_quiet_on
        refine rg_quiet rfl rfl rfl rfl ?_; intro K hK; go_big_quiet_op; go_big_quiet_on
        refine rg_quiet rfl rfl rfl rfl ?_; intro K hK; go_big_quiet_op; go_big_quiet_on
        refine rg_quiet rfl rfl rfl rfl ?_; intro K hK; go_big_quiet_op; go_big_quiet_on
        refine rg_quiet rfl rfl rfl rfl ?_; intro K hK; go_big_quiet_op; go_big_quiet_on
        refine rg_quiet rfl rfl rfl rfl ?_; intro K hK; go_big_quiet_op; go_big_quiet_on
        refine rel_nil fun w5 hE5 _ => ?_
        obtain ⟨b0, hE, hin⟩ := FIN.out w5 hE5
        clear y0 y1 y2 y3 y4 y5 y6 y7 hE5 FIN
        clear d0 d1 d2
        obtain ⟨y0, y1, y2, y3, y4, y5, y6, y7⟩ := b0.ro
        cases strict
        · go_wp2_with fail
          refine (rwseen_any r v part now _ hin HL.out).mono ?_
          rw [← HG.out]
          rintro e w6 ⟨v', rfl, hown, hE6⟩
          obtain ⟨a6, c6, rfl, _, _, _, _⟩ := SliceIn.of_owns hown
          have hq : isB r G now false = decide (0 < (seenCos r.cols G now).length) := by unfold isB; rw [HLV.out]; rfl
          have HQ := Lib.hid hq
          have HX := hE.trans hE6
          clear hown hq b0 hE hE6 hin
          go_wp2
          all_goals
            go_ret
            refine ⟨ret_bool (Eq.trans ?_ HQ.out.symm), HX⟩
            first | rfl | (simp; done) | (simp; omega)
        · have hq : isB r G now true = false := by unfold isB; rw [HLV.out]; rfl
          have HQ := Lib.hid hq
          clear hq
          go_wp2
          go_ret
          exact ⟨ret_bool HQ.out.symm, hE⟩
      · have HLV : Hid (liveB r G now = true) := by show liveB r G now = true; unfold liveB; rw [d0, d1, d2]; rfl
        refine rg_quiet rfl rfl rfl rfl ?_; intro K hK; go_big_quiet_op; go_big_quiet_on
        refine rg_quiet rfl rfl rfl rfl ?_; intro K hK; go_big_quiet_op; go_big_quiet_on
        refine rg_quiet rfl rfl rfl rfl ?_; intro K hK; go_big_quiet_op; go_big_quiet_on
        refine rg_val [] rfl rfl rfl (by kernel_rfl) (fun w1 hE hf => ?_) ?_
        · go_simp
          exact (seen_any _ _ _ _ _ w1).mono fun e w' ⟨he, hw⟩ => ⟨_, he, rg_done hE hw (bool_congr d0)⟩
        simp only [Act.put, List.setIfInBounds_toArray, List.set_cons_zero, List.set_cons_succ]
        refine rg_quiet rfl rfl rfl rfl ?_; intro K hK; go_big_quiet_op; go_big_quiet_on
        refine rg_quiet rfl rfl rfl rfl ?_; intro K hK; go_big_quiet_op; go_big_quiet_on
        refine rg_quiet rfl rfl rfl rfl ?_; intro K hK; go_big_quiet_op; go_big_quiet_on
        refine rg_quiet rfl rfl rfl rfl ?_; intro K hK; go_big_quiet_op; go_big_quiet_on
        refine rg_quiet rfl rfl rfl rfl ?_; intro K hK; go_big_quiet_op; go_big_quiet_on
        refine rg_quiet rfl rfl rfl rfl ?_; intro K hK; go_big_quiet_op; go_big_quiet_on
        refine rg_val [] rfl rfl rfl (by kernel_rfl) (fun w1 hE hf => ?_) ?_
        · go_simp
          exact (rgone_any r v part w1).mono fun e w' ⟨he, hw⟩ => ⟨_, he, rg_done hE hw (int_congr HG.out.symm)⟩
        simp only [Act.put, List.setIfInBounds_toArray, List.set_cons_zero, List.set_cons_succ]
        refine rg_quiet rfl rfl rfl rfl ?_; intro K hK; go_big_quiet_op; go_big_quiet_on
        refine rg_quiet rfl rfl rfl rfl ?_; intro K hK; go_big_quiet_op; go_big_quiet_on
        refine rg_quiet rfl rfl rfl rfl ?_; intro K hK; go_big_quiet_op; go_big_quiet_on
        refine rg_quiet rfl rfl rfl rfl ?_; intro K hK; go_big_quiet_op; go_big_quiet_on
        refine rg_quiet rfl rfl rfl rfl ?_; intro K hK; go_big_quiet_op; go_big_quiet_on
        refine rg_quiet rfl rfl rfl rfl ?_; intro K hK; go_big_quiet_op; go_big_quiet_on
        refine rg_quiet rfl rfl rfl rfl ?_; intro K hK; go_big_quiet_op; go_big_quiet_on
        refine rg_quiet rfl rfl rfl rfl ?_; intro K hK; go_big_quiet_op; go_big_quiet_on
        refine rg_quiet rfl rfl rfl rfl ?_; intro K hK; go_big_quiet_op; go_big_quiet_on
        refine rg_quiet rfl rfl rfl rfl ?_; intro K hK; go_big_quiet_op; go_big_quiet_on
        refine rg_quiet rfl rfl rfl rfl ?_; intro K hK; go_big_quiet_op; go_big_quiet_on
        refine rel_nil fun w5 hE5 _ => ?_
        obtain ⟨b0, hE, hin⟩ := FIN.out w5 hE5
        clear y0 y1 y2 y3 y4 y5 y6 y7 hE5 FIN
        clear d0 d1 d2
        have hq : isB r G now strict = true := by unfold isB; rw [HLV.out]; rfl
        have HQ := Lib.hid hq
        clear hq
        go_wp2
        go_ret
        exact ⟨ret_bool HQ.out.symm, hE⟩
end Go.Proofs.Yteamiiekpjoclaa

/- part.Seen. -/
namespace Go.Proofs.Yteamiiekpjoclaa
open Go Go.RowKit
attribute [local go_sem] yields yUpon ro8 pa3

/-- A row as it is seen. -/
def seenRo (r : Ro) (g now : Int) : Ro := ⟨r.key, r.live, 0, 0, seenCos r.cols (max r.gone g) now⟩
/-- The rows that are there at a time, with what is seen of them. -/
def seenRs (l : List Ro) (g now : Int) (strict : Bool) : List Ro := (l.filter fun r => isB r (max r.gone g) now strict).map fun r => seenRo r g now
theorem seenRs_snoc (l : List Ro) (r : Ro) (g now : Int) (strict : Bool) : seenRs (l ++ [r]) g now strict = seenRs l g now strict ++ if isB r (max r.gone g) now strict then [seenRo r g now] else [] := by
  unfold seenRs
  rw [List.filter_append, List.map_append]
  congr 1
  by_cases h : isB r (max r.gone g) now strict <;> simp [h]

/-- What stays true in the region: the list under way may be appended to; the row and the partition stay. -/
structure SR (w wr : World) (vo : Value) (out : List (Ro × Value)) (k : ByteArray) (g : Int) (pu : Value) (M : Ro) (u : Value) (x : World) : Prop where
  mr : MR w wr vo out x
  part : BoxAt x w.heap.size (pa3 k g pu) 39
  row : BoxAt x wr.heap.size (ro8 M u) 55
theorem SR.ext' {w wr : World} {vo : Value} {out : List (Ro × Value)} {k : ByteArray} {g : Int} {pu : Value} {M : Ro} {u : Value} {x y : World} (hE : Ext x y) (h : SR w wr vo out k g pu M u x) : SR w wr vo out k g pu M u y := ⟨h.mr.ext' hE, h.part.ext hE, h.row.ext hE⟩

set_option maxRecDepth 100000 in
set_option maxHeartbeats 8000000 in
theorem pseen_any (pk : ByteArray) (pg : Int) (pu : Value) (ps : List (Ro × Value)) (now : Int) (strict : Bool) (w : World) (hin : RowsIn w pu ps) (hlen : ps.length ≤ 1000000) (hcl : ∀ p ∈ ps, p.1.cols.length ≤ 1000000) :
    Calls Try.prog 23 #[.agg #[.string pk, .int .i64 pg, pu], .int .i64 now, .bool strict] w fun e w' => ∃ v', e = .returned v' ∧ ∃ qs, w'.ownsRow w.heap.size 55 8 v' qs.length (roCells qs) ∧ (∀ p ∈ qs, SafeC w w' p) ∧ qs.map (·.1) = seenRs (ps.map (·.1)) pg now strict ∧ Ext w w' := by
  have a0 := BoxAt.made w (pa3 pk pg pu) 39
  have hE := (Ext.refl w).alloc (.cells (pa3 pk pg pu) 39)
  obtain ⟨aa, ca, rfl, hca, hcma, hget⟩ := hin.get
  have c0 := a0.pa
  obtain ⟨n, hn⟩ : ∃ n, n = ps.length := ⟨_, rfl⟩
  rw [← hn] at hlen hca a0 hE c0 ⊢
  have HN := Lib.hid hn
  have HGET := Lib.hid hget
  clear hn hget
  go_enter Try.func23, Try.ntmps23
  go_wp2
  go_loopw [7, 13] (fun so i wr => ∃ (k : Nat) (out : List (Ro × Value)), k ≤ n ∧ i = .int .i64 k ∧ wr.ownsRow w.heap.size 55 8 so out.length (roCells out) ∧ Hid (∀ p ∈ out, SafeC w wr p) ∧ Ext w wr ∧ BoxAt wr w.heap.size (pa3 pk pg (.slice aa n ca)) 39 ∧ Hid (out.map (·.1) = seenRs ((ps.map (·.1)).take k) pg now strict) ∧ out.length ≤ k) (fun _ i _ => n - (intOf i).toNat)
  case atStart => exact ⟨0, [], Nat.zero_le _, rfl, World.ownsRow_nil _ _ _ _, nofun, hE, a0, rfl, by simp⟩
  case round =>
    obtain ⟨k, out, hk, rfl, hown, HS, hE1, b0, HO, hok⟩ := hrel
    by_cases hlt : k < n
    · have hkp : k < ps.length := by rw [← HN.out]; exact hlt
      have hkc := hcl _ (List.getElem_mem hkp)
      have hcu := hin.cols _ (List.getElem_mem hkp)
      obtain ⟨b, o, rfl, hat⟩ := HGET.out k hkp
      have hsnoc : (ps.map (·.1)).take (k + 1) = (ps.map (·.1)).take k ++ [ps[k].1] := by
        rw [List.take_succ_eq_append_getElem (by simpa using hkp)]
        simp
      obtain ⟨M, hM⟩ : ∃ M, M = ps[k].1 := ⟨_, rfl⟩
      obtain ⟨au, cu, hu⟩ := hcu.shape
      rw [← hM] at hkc hcu hu hsnoc hat
      rw [hu] at hcu hat
      have HSN := Lib.hid hsnoc
      clear hM hu hsnoc
      obtain ⟨m, hm⟩ : ∃ m, m = M.cols.length := ⟨_, rfl⟩
      rw [← hm] at hcu hat
      clear hm
      have hcu0 := hcu
      replace hcu := hcu.ext hE1
      replace hat := hat.ext hE1
      obtain ⟨x0, x1, x2, x3, x4, x5, x6, x7⟩ := hat
      obtain ⟨sB, hsB⟩ : ∃ sB, sB = isB M (max M.gone pg) now strict := ⟨_, rfl⟩
      have HB := Lib.hid hsB
      clear hsB
      go_wp2_with (((guard_target =~ wpList _ _ _ (Oper.mk none (Op.store _ (Operand.tmp 9) (Operand.tmp 16)) _ _ _ _ :: _) _ _); go_must (refine storeBox rfl 55 (.tmp 9) (.tmp 16) rfl (wr.heap.size) _ _ _ (by rfl) (by rfl) ((BoxAt.made wr (ro8 ⟨⟨#[]⟩, zeroCl, 0, 0, []⟩ (.slice none 0 0)) 55)) (by kernel_rfl) (by rfl) (by simp [Value.oneCell']) ?_); intro w4 c4 g4); have hX4 : Ext wr w4 := ((Ext.refl wr).alloc _).grown g4 (fun q hq => by cases hq; omega); have d4 := c4.ro (r := M) (v := .slice au m cu); have e4 := (b0.ext hX4).pa)
      refine (ris_any M (.slice au m cu) pg now strict w4 (hcu.ext hX4) hkc).mono ?_
      rw [← HB.out]
      rintro e w5 ⟨rfl, hE5⟩
      have hX5 := hX4.trans hE5
      have b5 := b0.ext hX5
      have r5 : BoxAt w5 wr.heap.size (ro8 M (.slice au m cu)) 55 := c4.ext hE5
      have hown5 := ownsRow_ext hown hX5
      have hS5 : ∀ p ∈ out, SafeC w w5 p := fun p hp => (HS.out p hp).ext hX5
      have hcu5 := hcu.ext hX5
      have hW5 := hE1.trans hX5
      have hle5 := hX5.le
      clear d4 e4 c4 x0 x1 x2 x3 x4 x5 x6 x7 hX4 hE5 b0
      cases sB with
      | false =>
        go_wp2_with fail
        go_roundw
        case rel =>
          refine ⟨k + 1, out, hlt, rfl, hown5, hS5, hW5, b5, ?_, by omega⟩
          show _ = _
          rw [HSN.out, seenRs_snoc, ← HB.out, if_neg (by decide), List.append_nil]
          exact HO.out
        case measure => simp [intOf]; omega
      | true =>
        obtain ⟨S, hS⟩ : ∃ S, S = seenCos M.cols (max M.gone pg) now := ⟨_, rfl⟩
        have HSS := Lib.hid hS
        clear hS
        go_wp2_with fail
        refine wp_region_relE (SR w wr u7 out pk pg (.slice (some ⟨b, o, none⟩) n ca) M (.slice au m cu)) (ME u7 12) (Tab.atE [(2, fun v _ => v = .string M.key), (4, fun v _ => v = (.agg #[.string M.live.val, .bool M.live.dead, .int .i64 M.live.at_, .int .i64 M.live.fin])), (5, fun v _ => v = (.agg #[.string M.key, .string M.live.val, .bool M.live.dead, .int .i64 M.live.at_, .int .i64 M.live.fin, .int .i64 M.gone, .int .i64 M.shade, (.slice au m cu)])), (7, fun v _ => v = .int .i64 pg), (9, fun v x => x.ownsRow wr.heap.size 58 5 v S.length (coCells S)), (11, fun v x => ∃ b u, v = .slice (some ⟨b, 0, none⟩) 1 1 ∧ wr.heap.size ≤ b ∧ BoxAt x b (ro8 ⟨M.key, M.live, 0, 0, S⟩ u) 55 ∧ x.ownsRow wr.heap.size 58 5 u S.length (coCells S)), (12, fun v x => ∃ u, x.ownsRow w.heap.size 55 8 v (out.length + 1) (roCells (out ++ [(⟨M.key, M.live, 0, 0, S⟩, u)])) ∧ x.ownsRow wr.heap.size 58 5 u S.length (coCells S))])
          (Tab.staysE ⟨fun _ _ _ _ _ _ h => h, fun _ _ _ _ _ _ h => h, fun _ _ _ _ _ _ h => h, fun _ _ _ _ _ _ h => h, fun j _ v x y hR h => ME_own hown hR h, fun j _ v x y hR ⟨b, u, e, hb, hx, h⟩ => ⟨b, u, e, hb, ME_box hown hR hb hx, ME_own hown hR h⟩, fun j hj v x y hR ⟨u, h, h'⟩ => ⟨u, ownsRow_ext h (ME_off hj hR), ownsRow_ext h' (ME_off hj hR)⟩, trivial⟩)
          14 (by kernel_rfl) (by kernel_rfl) (by kernel_rfl) ((⟨⟨hW5, hown5, hle5, hS5⟩, b5, r5⟩ : SR w wr u7 out pk pg (.slice (some ⟨b, o, none⟩) n ca) M (.slice au m cu) w5).ext' (Ext.refl w5).drew) ?_
        refine relE_quiet rfl rfl rfl rfl ?_; intro K hK; go_big_quiet_op; (first | refine ⟨_, fun _ _ => rfl, hK _ ?_⟩ | refine hK _ ?_); clear hK K
        refine relE_quiet rfl rfl rfl rfl ?_; intro K hK; go_big_quiet_op; (first | refine ⟨_, fun _ _ => rfl, hK _ ?_⟩ | refine hK _ ?_); clear hK K
        refine relE_val [] rfl rfl rfl (by kernel_rfl) (fun z hz hf => ?_) ?_
        · obtain ⟨x0, x1, x2, x3, x4, x5, x6, x7⟩ := hz.row.ro
          go_simp
          exact ⟨hz, ME_ext (Ext.refl z), rfl⟩
        simp only [Act.put, List.setIfInBounds_toArray, List.set_cons_zero, List.set_cons_succ]
        refine relE_quiet rfl rfl rfl rfl ?_; intro K hK; go_big_quiet_op; (first | refine ⟨_, fun _ _ => rfl, hK _ ?_⟩ | refine hK _ ?_); clear hK K
        refine relE_val [] rfl rfl rfl (by kernel_rfl) (fun z hz hf => ?_) ?_
        · obtain ⟨x0, x1, x2, x3, x4, x5, x6, x7⟩ := hz.row.ro
          go_simp
          exact ⟨hz, ME_ext (Ext.refl z), rfl⟩
        simp only [Act.put, List.setIfInBounds_toArray, List.set_cons_zero, List.set_cons_succ]
        refine relE_val [] rfl rfl rfl (by kernel_rfl) (fun z hz hf => ?_) ?_
        · obtain ⟨x0, x1, x2, x3, x4, x5, x6, x7⟩ := hz.row.ro
          go_simp
          exact ⟨hz, ME_ext (Ext.refl z), rfl⟩
        simp only [Act.put, List.setIfInBounds_toArray, List.set_cons_zero, List.set_cons_succ]
        refine relE_quiet rfl rfl rfl rfl ?_; intro K hK; go_big_quiet_op; (first | refine ⟨_, fun _ _ => rfl, hK _ ?_⟩ | refine hK _ ?_); clear hK K
        refine relE_val [] rfl rfl rfl (by kernel_rfl) (fun z hz hf => ?_) ?_
        · obtain ⟨x0, x1, x2⟩ := hz.part.pa
          go_simp
          exact ⟨hz, ME_ext (Ext.refl z), rfl⟩
        simp only [Act.put, List.setIfInBounds_toArray, List.set_cons_zero, List.set_cons_succ]
        refine relE_quiet rfl rfl rfl rfl ?_; intro K hK; go_big_quiet_op; (first | refine ⟨_, fun _ _ => rfl, hK _ ?_⟩ | refine hK _ ?_); clear hK K
        refine relE_fact [] rfl rfl rfl (by kernel_rfl) (fun z hz hf => ?_) (fun v8 z8 hC8 hG8 h8 => ?_)
        · go_simp
          refine (rwseen_any M (.slice au m cu) pg now z (hcu0.ext hz.mr.ext) hkc).mono ?_
          rintro e y ⟨v', he, hown', hy⟩
          rw [← HSS.out] at hown'
          exact ⟨_, he, hz.ext' hy, ME_ext hy, ownsRow_base hown' (Nat.le_trans hz.mr.size (Nat.le_succ _))⟩
        obtain ⟨a8, cc8, rfl⟩ := own_shape h8
        clear hC8 hG8 h8
        simp only [Act.put, List.setIfInBounds_toArray, List.set_cons_zero, List.set_cons_succ]
        refine relE_quiet rfl rfl rfl rfl ?_; intro K hK; go_big_quiet_op; (first | refine ⟨_, fun _ _ => rfl, hK _ ?_⟩ | refine hK _ ?_); clear hK K
        refine relE_fact [9] rfl rfl rfl (by kernel_rfl) (fun z hz hf => ?_) (fun v4 z4 hC4 hG4 h4 => ?_)
        · have hu := (hf 9 (by simp)).2 rfl
          go_simp
          exact ⟨hz.ext' ((Ext.refl z).alloc _), ME_ext ((Ext.refl z).alloc _), _, rfl, hz.mr.size, _, BoxAt.made z _ _, ownsRow_ext hu ((Ext.refl z).alloc _)⟩
        obtain ⟨b4, u4, rfl, hb4, _, _⟩ := h4
        clear hC4 hG4 hb4
        simp only [Act.put, List.setIfInBounds_toArray, List.set_cons_zero, List.set_cons_succ]
        refine relE_fact [11] rfl rfl rfl (by kernel_rfl) (fun z hz hf => ?_) (fun v5 z5 hC5 hG5 h5 => ?_)
        · obtain ⟨bb, u, e, _, hbox, hu⟩ := (hf 11 (by simp)).2 rfl
          cases e
          obtain ⟨au, cu, rfl⟩ := own_shape hu
          refine yields_append info_Row und_Rows rfl (by decide) (.tmp 23) (.tmp 34) rfl w.heap.size hz.mr.ext.le u7 out.length (roCells out) hz.mr.own (by rfl) b4 1 1 (ro8 ⟨M.key, M.live, 0, 0, S⟩ (.slice au S.length cu)).toList (by rfl) (by rfl) (fun j u hj => by rw [hbox.cell j]; simpa using hj) (by simp [ro8, Value.oneCell']) (by unfold maxLen; omega) (by omega) ?_
          intro v' y hown' hg hkeep
          refine ⟨⟨⟨hz.mr.ext.grown hg (fun q hq => (hz.mr.own.lt q hq).1), hkeep, Nat.le_trans hz.mr.size hg.size, fun p hp => (hz.mr.safe p hp).grown hz.mr.own hg⟩, ?_, ?_⟩, by unfold ME; rw [if_pos rfl]; exact hg, _, ?_, hu.kept hg (own_ne_own hu hz.mr.own (by decide))⟩
          · refine hz.part.grown hg (fun e => ?_)
            rcases own_ne_box hz.mr.own hz.part (by decide) with h | h
            · rw [h] at e; cases e
            · exact h e.symm
          · exact hz.row.grown hg (fun e => by have := (hown.lt _ e.symm).2; omega)
          · rw [roCells_append]
            exact hown'
        obtain ⟨u5, h5, _⟩ := h5
        obtain ⟨a5, c5, rfl⟩ := own_shape h5
        clear hC5 hG5 h5
        simp only [Act.put, List.setIfInBounds_toArray, List.set_cons_zero, List.set_cons_succ]
        refine relE_quiet rfl rfl rfl rfl ?_; intro K hK; go_big_quiet_op; (first | refine ⟨_, fun _ _ => rfl, hK _ ?_⟩ | refine hK _ ?_); clear hK K
        refine relE_nil fun w9 hC hG => ?_
        obtain ⟨u9, hown9, hu9'⟩ := (hG 12).2 rfl
        have hu9 := ownsRow_base hu9' hE1.le
        have hE9 := hC.mr.ext
        have hs9 := hC.mr.safe
        have b9 := hC.part
        clear hC hG hown hown5 hS5 b5 r5
        go_wp2_with fail
        go_roundw
        case rel =>
          refine ⟨k + 1, out ++ [(⟨M.key, M.live, 0, 0, S⟩, u9)], hlt, rfl, by rw [List.length_append]; exact hown9, fun p hp => ?_, hE9, b9, ?_, by simp; omega⟩
          · rcases List.mem_append.1 hp with h | h
            · exact hs9 p h
            · rw [List.mem_singleton.1 h]; exact .inr hu9
          · show _ = _
            rw [HSN.out, seenRs_snoc, ← HB.out, if_pos rfl, List.map_append, HO.out, HSS.out]
            rfl
        case measure => simp [intOf]; omega
    · go_wp2_with fail
      obtain rfl : k = n := by omega
      go_ret
      refine ⟨_, rfl, out, hown, fun p v hp => HS.out (p, v) hp, ?_, hE1⟩
      rw [HO.out, List.take_of_length_le (by simp; rw [← HN.out]; exact Nat.le_refl _)]
end Go.Proofs.Yteamiiekpjoclaa

/- Plain laws of rising rows: what a merge holds. -/
namespace Go.Proofs.Yteamiiekpjoclaa
open Go Go.RowKit

theorem key_of {a b : ByteArray} (h : a.data.toList = b.data.toList) : a = b := by
  apply ByteArray.ext
  exact Array.toList_inj.1 h
theorem keyR_zero {a b : Ro} : keyR a b = 0 ↔ a.key = b.key := ⟨fun h => key_of (cmpB_zero h), fun h => by unfold keyR; rw [h]; exact cmpB_self _⟩
theorem keyR_anti (a b : Ro) : keyR b a = -keyR a b := cmpB_anti _ _
theorem keyR_lt_trans {a b c : Ro} (h1 : keyR a b < 0) (h2 : keyR b c < 0) : keyR a c < 0 := by
  have h := cmpB_trans (x := a.key.data.toList) (y := b.key.data.toList) (z := c.key.data.toList) (by unfold keyR at h1; omega) (by unfold keyR at h2; omega)
  by_cases h0 : keyR a c = 0
  · have e := keyR_zero.1 h0
    have h3 := keyR_anti b c
    unfold keyR at h1 h2 h3
    rw [e] at h1
    omega
  · unfold keyR at *
    omega
/-- Rows whose keys rise. -/
def Rise (l : List Ro) : Prop := l.Pairwise fun a b => keyR a b < 0
theorem Rise.tail {a : Ro} {l : List Ro} (h : Rise (a :: l)) : Rise l := (List.pairwise_cons.1 h).2
theorem Rise.head {a : Ro} {l : List Ro} (h : Rise (a :: l)) : ∀ b ∈ l, keyR a b < 0 := (List.pairwise_cons.1 h).1

/-- What a merge of rising rows holds: rows of one that the other lacks, and joins. -/
theorem mem_mergeRo : ∀ {l m : List Ro} {x : Ro}, Rise l → Rise m → x ∈ mergeRo l m → (x ∈ l ∧ ∀ b ∈ m, b.key ≠ x.key) ∨ (x ∈ m ∧ ∀ a ∈ l, a.key ≠ x.key) ∨ ∃ a ∈ l, ∃ b ∈ m, a.key = b.key ∧ x = joinRo a b
  | [], m, x, _, _, h => by
    unfold mergeRo at h
    rw [mergeG_nil_left] at h
    exact .inr (.inl ⟨h, nofun⟩)
  | a :: l, [], x, _, _, h => by
    unfold mergeRo at h
    rw [mergeG_nil_right] at h
    exact .inl ⟨h, nofun⟩
  | a :: l, b :: m, x, hl, hm, h => by
    unfold mergeRo at h
    rcases Int.lt_trichotomy (keyR a b) 0 with hc | hc | hc
    · rw [mergeG_lt hc] at h
      rcases List.mem_cons.1 h with rfl | h
      · refine .inl ⟨List.mem_cons_self .., fun y hy e => ?_⟩
        have hk : keyR x y < 0 := by
          rcases List.mem_cons.1 hy with rfl | hy
          · exact hc
          · exact keyR_lt_trans hc (hm.head y hy)
        rw [keyR_zero.2 e.symm] at hk
        omega
      · rcases mem_mergeRo hl.tail hm h with ⟨h1, h2⟩ | ⟨h1, h2⟩ | ⟨p, hp, q, hq, e, hx⟩
        · exact .inl ⟨List.mem_cons_of_mem _ h1, h2⟩
        · refine .inr (.inl ⟨h1, fun y hy e => ?_⟩)
          rcases List.mem_cons.1 hy with rfl | hy
          · have hk : keyR y x < 0 := by
              rcases List.mem_cons.1 h1 with rfl | h1
              · exact hc
              · exact keyR_lt_trans hc (hm.head x h1)
            rw [keyR_zero.2 e] at hk
            omega
          · exact h2 y hy e
        · exact .inr (.inr ⟨p, List.mem_cons_of_mem _ hp, q, hq, e, hx⟩)
    · rw [mergeG_eq hc] at h
      rcases List.mem_cons.1 h with rfl | h
      · exact .inr (.inr ⟨a, List.mem_cons_self .., b, List.mem_cons_self .., keyR_zero.1 hc, rfl⟩)
      · have hab := keyR_zero.1 hc
        rcases mem_mergeRo hl.tail hm.tail h with ⟨h1, h2⟩ | ⟨h1, h2⟩ | ⟨p, hp, q, hq, e, hx⟩
        · refine .inl ⟨List.mem_cons_of_mem _ h1, fun y hy e => ?_⟩
          rcases List.mem_cons.1 hy with rfl | hy
          · have hk := hl.head x h1
            rw [keyR_zero.2 (hab.trans e)] at hk
            omega
          · exact h2 y hy e
        · refine .inr (.inl ⟨List.mem_cons_of_mem _ h1, fun y hy e => ?_⟩)
          rcases List.mem_cons.1 hy with rfl | hy
          · have hk := hm.head x h1
            rw [keyR_zero.2 (hab.symm.trans e)] at hk
            omega
          · exact h2 y hy e
        · exact .inr (.inr ⟨p, List.mem_cons_of_mem _ hp, q, List.mem_cons_of_mem _ hq, e, hx⟩)
    · rw [mergeG_gt hc] at h
      have hba : keyR b a < 0 := by rw [keyR_anti a b]; omega
      rcases List.mem_cons.1 h with rfl | h
      · refine .inr (.inl ⟨List.mem_cons_self .., fun y hy e => ?_⟩)
        have hk : keyR x y < 0 := by
          rcases List.mem_cons.1 hy with rfl | hy
          · exact hba
          · exact keyR_lt_trans hba (hl.head y hy)
        rw [keyR_zero.2 e.symm] at hk
        omega
      · rcases mem_mergeRo hl hm.tail h with ⟨h1, h2⟩ | ⟨h1, h2⟩ | ⟨p, hp, q, hq, e, hx⟩
        · refine .inl ⟨h1, fun y hy e => ?_⟩
          rcases List.mem_cons.1 hy with rfl | hy
          · have hk : keyR y x < 0 := by
              rcases List.mem_cons.1 h1 with rfl | h1
              · exact hba
              · exact keyR_lt_trans hba (hl.head x h1)
            rw [keyR_zero.2 e] at hk
            omega
          · exact h2 y hy e
        · exact .inr (.inl ⟨List.mem_cons_of_mem _ h1, h2⟩)
        · exact .inr (.inr ⟨p, hp, q, List.mem_cons_of_mem _ hq, e, hx⟩)
/-- A merge rises, and has no keys of its own. -/
theorem key_mergeRo {l m : List Ro} {x : Ro} (h : x ∈ mergeRo l m) : (∃ a ∈ l, a.key = x.key) ∨ ∃ b ∈ m, b.key = x.key := by
  rcases mem_mergeG h with h | h | ⟨a, ha, b, hb, _, rfl⟩
  · exact .inl ⟨x, h, rfl⟩
  · exact .inr ⟨x, h, rfl⟩
  · exact .inl ⟨a, ha, rfl⟩
theorem keyR_congr {a a' b b' : Ro} (h1 : a.key = a'.key) (h2 : b.key = b'.key) : keyR a b = keyR a' b' := by unfold keyR; rw [h1, h2]
theorem rise_mergeRo : ∀ {l m : List Ro}, Rise l → Rise m → Rise (mergeRo l m)
  | [], m, _, hm => by unfold mergeRo; rw [mergeG_nil_left]; exact hm
  | a :: l, [], hl, _ => by unfold mergeRo; rw [mergeG_nil_right]; exact hl
  | a :: l, b :: m, hl, hm => by
    have far : ∀ {y : Ro} {l m : List Ro}, (∀ a ∈ l, keyR y a < 0) → (∀ b ∈ m, keyR y b < 0) → ∀ x ∈ mergeRo l m, keyR y x < 0 := by
      intro y l m h1 h2 x hx
      rcases key_mergeRo hx with ⟨c, hc, e⟩ | ⟨c, hc, e⟩
      · rw [← keyR_congr rfl e]; exact h1 c hc
      · rw [← keyR_congr rfl e]; exact h2 c hc
    have hlt : ∀ {x y : Ro} {m : List Ro}, keyR x y < 0 → (∀ b ∈ m, keyR y b < 0) → ∀ b ∈ y :: m, keyR x b < 0 := by
      intro x y m h1 h2 b hb
      rcases List.mem_cons.1 hb with rfl | hb
      · exact h1
      · exact keyR_lt_trans h1 (h2 b hb)
    rcases Int.lt_trichotomy (keyR a b) 0 with hc | hc | hc
    · unfold mergeRo
      rw [mergeG_lt hc]
      exact List.pairwise_cons.2 ⟨far hl.head (hlt hc hm.head), rise_mergeRo hl.tail hm⟩
    · unfold mergeRo
      rw [mergeG_eq hc]
      refine List.pairwise_cons.2 ⟨fun x hx => ?_, rise_mergeRo hl.tail hm.tail⟩
      have hab := keyR_zero.1 hc
      rw [keyR_congr (show (joinRo a b).key = a.key from rfl) rfl]
      exact far hl.head (fun y hy => by rw [keyR_congr hab rfl]; exact hm.head y hy) x hx
    · have hba : keyR b a < 0 := by rw [keyR_anti a b]; omega
      unfold mergeRo
      rw [mergeG_gt hc]
      exact List.pairwise_cons.2 ⟨far (hlt hba hl.head) hm.head, rise_mergeRo hl hm.tail⟩
/-- The row of a key, where keys rise. -/
theorem rowOf_mem : ∀ {l : List Ro} {r : Ro}, Rise l → r ∈ l → rowOf l r.key = r
  | a :: l, r, h, hr => by
    unfold rowOf
    rcases List.mem_cons.1 hr with rfl | hr
    · rw [if_pos (by simp)]
    · have hne : ¬ a.key = r.key := fun e => by
        have := h.head r hr
        rw [keyR_zero.2 e] at this
        omega
      rw [if_neg (by simpa [← ByteArray.toList_eq] using fun e => hne (by apply key_of; rw [← ByteArray.toList_eq, ← ByteArray.toList_eq]; exact e)), rowOf_mem h.tail hr]
theorem rowOf_none : ∀ {l : List Ro} {k : ByteArray}, (∀ a ∈ l, a.key ≠ k) → rowOf l k = ⟨k, zeroCl, 0, 0, []⟩
  | [], k, _ => rfl
  | a :: l, k, h => by
    unfold rowOf
    rw [if_neg (by
      have hne := h a (List.mem_cons_self ..)
      intro e
      exact hne (by apply key_of; rw [← ByteArray.toList_eq, ← ByteArray.toList_eq]; simpa using e)), rowOf_none fun b hb => h b (List.mem_cons_of_mem _ hb)]
end Go.Proofs.Yteamiiekpjoclaa
