/- row.Is. -/
import Derived.Test.YteamiiekpjoclaaDoorM3
import Derived.Test.YteamiiekpjoclaaDoorM10
import Derived.Test.YteamiiekpjoclaaDoorM9
import Derived.Test.YteamiiekpjoclaaDoorM6
namespace Go.Proofs.YteamiiekpjoclaaDoor
open Go Go.RowKit
attribute [local go_sem] yields yUpon

/-- Is what makes a row be counted? -/
def liveB (r : Ro) (G now : Int) : Bool := seenB r.live.dead r.live.at_ r.live.fin now && decide (G < r.live.at_) && decide (r.shade < r.live.at_)
def isB (r : Ro) (G now : Int) (strict : Bool) : Bool := liveB r G now || (!strict && decide (0 < (seenCos r.cols G now).length))

set_option maxRecDepth 100000 in
set_option maxHeartbeats 4000000 in
theorem ris_any (r : Ro) (v : Value) (part now : Int) (strict : Bool) (w : World) (hin : ColsIn w v r.cols) (hlen : r.cols.length ≤ 1000000) :
    Calls Tryd.prog 30 #[(.agg #[.string r.key, .string r.live.val, .bool r.live.dead, .int .i64 r.live.at_, .int .i64 r.live.fin, .int .i64 r.gone, .int .i64 r.shade, v]), .int .i64 part, .int .i64 now, .bool strict] w fun e w' => e = .returned (.bool (isB r (max r.gone part) now strict)) ∧ Ext w w' := by
  obtain ⟨G, hG⟩ : ∃ G, G = max r.gone part := ⟨_, rfl⟩
  rw [← hG]
  have HG := Lib.hid hG
  have HL := Lib.hid hlen
  clear hG hlen
  go_enter Tryd.func30, Tryd.ntmps30
  go_wp2_with fail
  refine wp_region_in 22 [(3, fun v _ => v = .bool (seenB r.live.dead r.live.at_ r.live.fin now)), (10, fun v _ => v = .int .i64 G)] (fun w0 => BoxAt w0 w.heap.size (ro8 r v) 26 ∧ Ext w w0 ∧ ColsIn w0 v r.cols) (by kernel_rfl) (by kernel_rfl) (by kernel_rfl) ⟨stays_eq _, stays_eq _, trivial⟩ ?_ ?_
  · exact ⟨BoxAt.made _ _ _, (Ext.refl w).alloc _, hin.ext ((Ext.refl w).alloc _)⟩
  clear hin
  rintro w2 ⟨b0, hE, hin⟩
  have FIN : Hid (∀ wx, Ext w2 wx → BoxAt wx w.heap.size (ro8 r v) 26 ∧ Ext w wx ∧ ColsIn wx v r.cols) := fun wx h => ⟨b0.ext h, hE.trans h, hin.ext h⟩
  obtain ⟨y0, y1, y2, y3, y4, y5, y6, y7⟩ := b0.ro
  clear b0 hE hin
  replace y0 := held y0
  replace y1 := held y1
  replace y2 := held y2
  replace y3 := held y3
  replace y4 := held y4
  replace y5 := held y5
  replace y6 := held y6
  replace y7 := held y7
  cases d0 : seenB r.live.dead r.live.at_ r.live.fin now
  · have HLV : Hid (liveB r G now = false) := by show liveB r G now = false; unfold liveB; rw [d0]; rfl
    refine rg_quiet rfl rfl rfl rfl ?_; intro K hK; go_big_quiet_op; go_big_quiet_on
    refine rg_quiet rfl rfl rfl rfl ?_; intro K hK; go_big_quiet_op; go_big_quiet_on
    refine rg_quiet rfl rfl rfl rfl ?_; intro K hK; go_big_quiet_op; go_big_quiet_on
    refine rg_val [] rfl rfl rfl (by kernel_rfl) (fun w1 hE hf => ?_) ?_
    · go_simp
      exact (seen_any _ _ _ _ _ w1).mono fun e w' ⟨he, hw⟩ => ⟨_, he, rg_done hE hw (bool_congr d0)⟩
    simp only [Act.put, List.setIfInBounds_toArray, List.set_cons_zero, List.set_cons_succ]
    refine rg_quiet rfl rfl rfl rfl ?_; intro K hK; go_big_quiet_op; go_big_quiet_on
    refine rel_skip rfl rfl ?_
    simp only [Act.put, List.setIfInBounds_toArray, List.set_cons_zero, List.set_cons_succ]
    refine rel_skip rfl rfl ?_
    simp only [Act.put, List.setIfInBounds_toArray, List.set_cons_zero, List.set_cons_succ]
    refine rel_skip rfl rfl ?_
    simp only [Act.put, List.setIfInBounds_toArray, List.set_cons_zero, List.set_cons_succ]
    refine rel_skip rfl rfl ?_
    simp only [Act.put, List.setIfInBounds_toArray, List.set_cons_zero, List.set_cons_succ]
    refine rel_skip rfl rfl ?_
    simp only [Act.put, List.setIfInBounds_toArray, List.set_cons_zero, List.set_cons_succ]
    refine rel_skip rfl rfl ?_
    simp only [Act.put, List.setIfInBounds_toArray, List.set_cons_zero, List.set_cons_succ]
    refine rel_skip rfl rfl ?_
    simp only [Act.put, List.setIfInBounds_toArray, List.set_cons_zero, List.set_cons_succ]
    refine rg_quiet rfl rfl rfl rfl ?_; intro K hK; go_big_quiet_op; go_big_quiet_on
    refine rg_quiet rfl rfl rfl rfl ?_; intro K hK; go_big_quiet_op; go_big_quiet_on
    refine rel_skip rfl rfl ?_
    simp only [Act.put, List.setIfInBounds_toArray, List.set_cons_zero, List.set_cons_succ]
    refine rel_skip rfl rfl ?_
    simp only [Act.put, List.setIfInBounds_toArray, List.set_cons_zero, List.set_cons_succ]
    refine rel_skip rfl rfl ?_
    simp only [Act.put, List.setIfInBounds_toArray, List.set_cons_zero, List.set_cons_succ]
    refine rel_skip rfl rfl ?_
    simp only [Act.put, List.setIfInBounds_toArray, List.set_cons_zero, List.set_cons_succ]
    refine rel_skip rfl rfl ?_
    simp only [Act.put, List.setIfInBounds_toArray, List.set_cons_zero, List.set_cons_succ]
    refine rel_skip rfl rfl ?_
    simp only [Act.put, List.setIfInBounds_toArray, List.set_cons_zero, List.set_cons_succ]
    refine rg_quiet rfl rfl rfl rfl ?_; intro K hK; go_big_quiet_op; go_big_quiet_on
    refine rg_quiet rfl rfl rfl rfl ?_; intro K hK; go_big_quiet_op; go_big_quiet_on
    refine rel_nil fun w5 hE5 _ => ?_
    obtain ⟨b0, hE, hin⟩ := FIN.out w5 hE5
    clear y0 y1 y2 y3 y4 y5 y6 y7 hE5 FIN
    clear d0
    obtain ⟨y0, y1, y2, y3, y4, y5, y6, y7⟩ := b0.ro
    cases strict
    · go_wp2_with fail
      refine (rwseen_any r v part now _ hin HL.out).mono ?_
      rw [← HG.out]
      rintro e w6 ⟨v', rfl, hown, hE6⟩
      obtain ⟨a6, c6, rfl, _, _, _, _⟩ := SliceIn.of_owns hown
      have hq : isB r G now false = decide (0 < (seenCos r.cols G now).length) := by unfold isB; rw [HLV.out]; rfl
      have HQ := Lib.hid hq
      have HX := hE.trans hE6
      clear hown hq b0 hE hE6 hin
      go_wp2
      all_goals
        go_ret
        refine ⟨ret_bool (Eq.trans ?_ HQ.out.symm), HX⟩
        first | rfl | (simp; done) | (simp; omega)
    · have hq : isB r G now true = false := by unfold isB; rw [HLV.out]; rfl
      have HQ := Lib.hid hq
      clear hq
      go_wp2
      go_ret
      exact ⟨ret_bool HQ.out.symm, hE⟩
  · cases d1 : decide (G < r.live.at_)
    · have HLV : Hid (liveB r G now = false) := by show liveB r G now = false; unfold liveB; rw [d0, d1]; rfl
      refine rg_quiet rfl rfl rfl rfl ?_; intro K hK; go_big_quiet_op; go_big_quiet_on
      refine rg_quiet rfl rfl rfl rfl ?_; intro K hK; go_big_quiet_op; go_big_quiet_on
      refine rg_quiet rfl rfl rfl rfl ?_; intro K hK; go_big_quiet_op; go_big_quiet_on
      refine rg_val [] rfl rfl rfl (by kernel_rfl) (fun w1 hE hf => ?_) ?_
      · go_simp
        exact (seen_any _ _ _ _ _ w1).mono fun e w' ⟨he, hw⟩ => ⟨_, he, rg_done hE hw (bool_congr d0)⟩
      simp only [Act.put, List.setIfInBounds_toArray, List.set_cons_zero, List.set_cons_succ]
      refine rg_quiet rfl rfl rfl rfl ?_; intro K hK; go_big_quiet_op; go_big_quiet_on
      refine rg_quiet rfl rfl rfl rfl ?_; intro K hK; go_big_quiet_op; go_big_quiet_on
      refine rg_quiet rfl rfl rfl rfl ?_; intro K hK; go_big_quiet_op; go_big_quiet_on
      refine rg_quiet rfl rfl rfl rfl ?_; intro K hK; go_big_quiet_op; go_big_quiet_on
      refine rg_quiet rfl rfl rfl rfl ?_; intro K hK; go_big_quiet_op; go_big_quiet_on
      refine rg_quiet rfl rfl rfl rfl ?_; intro K hK; go_big_quiet_op; go_big_quiet_on
      refine rg_val [] rfl rfl rfl (by kernel_rfl) (fun w1 hE hf => ?_) ?_
      · go_simp
        exact (rgone_any r v part w1).mono fun e w' ⟨he, hw⟩ => ⟨_, he, rg_done hE hw (int_congr HG.out.symm)⟩
      simp only [Act.put, List.setIfInBounds_toArray, List.set_cons_zero, List.set_cons_succ]
      refine rg_quiet rfl rfl rfl rfl ?_; intro K hK; go_big_quiet_op; go_big_quiet_on
      refine rg_quiet rfl rfl rfl rfl ?_; intro K hK; go_big_quiet_op; go_big_quiet_on
      refine rg_quiet rfl rfl rfl rfl ?_; intro K hK; go_big_quiet_op; go_big_quiet_on
      refine rel_skip rfl rfl ?_
      simp only [Act.put, List.setIfInBounds_toArray, List.set_cons_zero, List.set_cons_succ]
      refine rel_skip rfl rfl ?_
      simp only [Act.put, List.setIfInBounds_toArray, List.set_cons_zero, List.set_cons_succ]
      refine rel_skip rfl rfl ?_
      simp only [Act.put, List.setIfInBounds_toArray, List.set_cons_zero, List.set_cons_succ]
      refine rel_skip rfl rfl ?_
      simp only [Act.put, List.setIfInBounds_toArray, List.set_cons_zero, List.set_cons_succ]
      refine rel_skip rfl rfl ?_
      simp only [Act.put, List.setIfInBounds_toArray, List.set_cons_zero, List.set_cons_succ]
      refine rel_skip rfl rfl ?_
      simp only [Act.put, List.setIfInBounds_toArray, List.set_cons_zero, List.set_cons_succ]
      refine rg_quiet rfl rfl rfl rfl ?_; intro K hK; go_big_quiet_op; go_big_quiet_on
      refine rg_quiet rfl rfl rfl rfl ?_; intro K hK; go_big_quiet_op; go_big_quiet_on
      refine rel_nil fun w5 hE5 _ => ?_
      obtain ⟨b0, hE, hin⟩ := FIN.out w5 hE5
      clear y0 y1 y2 y3 y4 y5 y6 y7 hE5 FIN
      clear d0 d1
      obtain ⟨y0, y1, y2, y3, y4, y5, y6, y7⟩ := b0.ro
      cases strict
      · go_wp2_with fail
        refine (rwseen_any r v part now _ hin HL.out).mono ?_
        rw [← HG.out]
        rintro e w6 ⟨v', rfl, hown, hE6⟩
        obtain ⟨a6, c6, rfl, _, _, _, _⟩ := SliceIn.of_owns hown
        have hq : isB r G now false = decide (0 < (seenCos r.cols G now).length) := by unfold isB; rw [HLV.out]; rfl
        have HQ := Lib.hid hq
        have HX := hE.trans hE6
        clear hown hq b0 hE hE6 hin
        go_wp2
        all_goals
          go_ret
          refine ⟨ret_bool (Eq.trans ?_ HQ.out.symm), HX⟩
          first | rfl | (simp; done) | (simp; omega)
      · have hq : isB r G now true = false := by unfold isB; rw [HLV.out]; rfl
        have HQ := Lib.hid hq
        clear hq
        go_wp2
        go_ret
        exact ⟨ret_bool HQ.out.symm, hE⟩
    · cases d2 : decide (r.shade < r.live.at_)
      · have HLV : Hid (liveB r G now = false) := by show liveB r G now = false; unfold liveB; rw [d0, d1, d2]; rfl
        refine rg_quiet rfl rfl rfl rfl ?_; intro K hK; go_big_quiet_op; go_big_quiet_on
        refine rg_quiet rfl rfl rfl rfl ?_; intro K hK; go_big_quiet_op; go_big_quiet_on
        refine rg_quiet rfl rfl rfl rfl ?_; intro K hK; go_big_quiet_op; go_big_quiet_on
        refine rg_val [] rfl rfl rfl (by kernel_rfl) (fun w1 hE hf => ?_) ?_
        · go_simp
          exact (seen_any _ _ _ _ _ w1).mono fun e w' ⟨he, hw⟩ => ⟨_, he, rg_done hE hw (bool_congr d0)⟩
        simp only [Act.put, List.setIfInBounds_toArray, List.set_cons_zero, List.set_cons_succ]
        refine rg_quiet rfl rfl rfl rfl ?_; intro K hK; go_big_quiet_op; go_big_quiet_on
        refine rg_quiet rfl rfl rfl rfl ?_; intro K hK; go_big_quiet_op; go_big_quiet_on
        refine rg_quiet rfl rfl rfl rfl ?_; intro K hK; go_big_quiet_op; go_big_quiet_on
        refine rg_quiet rfl rfl rfl rfl ?_; intro K hK; go_big_quiet_op; go_big_quiet_on
        refine rg_quiet rfl rfl rfl rfl ?_; intro K hK; go_big_quiet_op; go_big_quiet_on
        refine rg_quiet rfl rfl rfl rfl ?_; intro K hK; go_big_quiet_op; go_big_quiet_on
        refine rg_val [] rfl rfl rfl (by kernel_rfl) (fun w1 hE hf => ?_) ?_
        · go_simp
          exact (rgone_any r v part w1).mono fun e w' ⟨he, hw⟩ => ⟨_, he, rg_done hE hw (int_congr HG.out.symm)⟩
        simp only [Act.put, List.setIfInBounds_toArray, List.set_cons_zero, List.set_cons_succ]
        refine rg_quiet rfl rfl rfl rfl ?_; intro K hK; go_big_quiet_op; go_big_quiet_on
        refine rg_quiet rfl rfl rfl rfl ?_; intro K hK; go_big_quiet_op; go_big_quiet_on
        refine rg_quiet rfl rfl rfl rfl ?_; intro K hK; go_big_quiet_op; go_big_quiet_on
        refine rg_quiet rfl rfl rfl rfl ?_; intro K hK; go_big_quiet_op; go_big_quiet_on
        refine rg_quiet rfl rfl rfl rfl ?_; intro K hK; go_big_quiet_op; go_big_quiet_on
        refine rg_quiet rfl rfl rfl rfl ?_; intro K hK; go_big_quiet_op; go_big_quiet_on
        refine rg_quiet rfl rfl rfl rfl ?_; intro K hK; go_big_quiet_op; go_big_quiet_on
        refine rg_quiet rfl rfl rfl rfl ?_; intro K hK; go_big_quiet_op; go_big_quiet_on
        refine rg_quiet rfl rfl rfl rfl ?_; intro K hK; go_big_quiet_op; go_big_quiet_on
        refine rg_quiet rfl rfl rfl rfl ?_; intro K hK; go_big_quiet_op; go_big_quiet_on
        refine rg_quiet rfl rfl rfl rfl ?_; intro K hK; go_big_quiet_op; go_big_quiet_on
        refine rel_nil fun w5 hE5 _ => ?_
        obtain ⟨b0, hE, hin⟩ := FIN.out w5 hE5
        clear y0 y1 y2 y3 y4 y5 y6 y7 hE5 FIN
        clear d0 d1 d2
        obtain ⟨y0, y1, y2, y3, y4, y5, y6, y7⟩ := b0.ro
        cases strict
        · go_wp2_with fail
          refine (rwseen_any r v part now _ hin HL.out).mono ?_
          rw [← HG.out]
          rintro e w6 ⟨v', rfl, hown, hE6⟩
          obtain ⟨a6, c6, rfl, _, _, _, _⟩ := SliceIn.of_owns hown
          have hq : isB r G now false = decide (0 < (seenCos r.cols G now).length) := by unfold isB; rw [HLV.out]; rfl
          have HQ := Lib.hid hq
          have HX := hE.trans hE6
          clear hown hq b0 hE hE6 hin
          go_wp2
          all_goals
            go_ret
            refine ⟨ret_bool (Eq.trans ?_ HQ.out.symm), HX⟩
            first | rfl | (simp; done) | (simp; omega)
        · have hq : isB r G now true = false := by unfold isB; rw [HLV.out]; rfl
          have HQ := Lib.hid hq
          clear hq
          go_wp2
          go_ret
          exact ⟨ret_bool HQ.out.symm, hE⟩
      · have HLV : Hid (liveB r G now = true) := by show liveB r G now = true; unfold liveB; rw [d0, d1, d2]; rfl
        refine rg_quiet rfl rfl rfl rfl ?_; intro K hK; go_big_quiet_op; go_big_quiet_on
        refine rg_quiet rfl rfl rfl rfl ?_; intro K hK; go_big_quiet_op; go_big_quiet_on
        refine rg_quiet rfl rfl rfl rfl ?_; intro K hK; go_big_quiet_op; go_big_quiet_on
        refine rg_val [] rfl rfl rfl (by kernel_rfl) (fun w1 hE hf => ?_) ?_
        · go_simp
          exact (seen_any _ _ _ _ _ w1).mono fun e w' ⟨he, hw⟩ => ⟨_, he, rg_done hE hw (bool_congr d0)⟩
        simp only [Act.put, List.setIfInBounds_toArray, List.set_cons_zero, List.set_cons_succ]
        refine rg_quiet rfl rfl rfl rfl ?_; intro K hK; go_big_quiet_op; go_big_quiet_on
        refine rg_quiet rfl rfl rfl rfl ?_; intro K hK; go_big_quiet_op; go_big_quiet_on
        refine rg_quiet rfl rfl rfl rfl ?_; intro K hK; go_big_quiet_op; go_big_quiet_on
        refine rg_quiet rfl rfl rfl rfl ?_; intro K hK; go_big_quiet_op; go_big_quiet_on
        refine rg_quiet rfl rfl rfl rfl ?_; intro K hK; go_big_quiet_op; go_big_quiet_on
        refine rg_quiet rfl rfl rfl rfl ?_; intro K hK; go_big_quiet_op; go_big_quiet_on
        refine rg_val [] rfl rfl rfl (by kernel_rfl) (fun w1 hE hf => ?_) ?_
        · go_simp
          exact (rgone_any r v part w1).mono fun e w' ⟨he, hw⟩ => ⟨_, he, rg_done hE hw (int_congr HG.out.symm)⟩
        simp only [Act.put, List.setIfInBounds_toArray, List.set_cons_zero, List.set_cons_succ]
        refine rg_quiet rfl rfl rfl rfl ?_; intro K hK; go_big_quiet_op; go_big_quiet_on
        refine rg_quiet rfl rfl rfl rfl ?_; intro K hK; go_big_quiet_op; go_big_quiet_on
        refine rg_quiet rfl rfl rfl rfl ?_; intro K hK; go_big_quiet_op; go_big_quiet_on
        refine rg_quiet rfl rfl rfl rfl ?_; intro K hK; go_big_quiet_op; go_big_quiet_on
        refine rg_quiet rfl rfl rfl rfl ?_; intro K hK; go_big_quiet_op; go_big_quiet_on
        refine rg_quiet rfl rfl rfl rfl ?_; intro K hK; go_big_quiet_op; go_big_quiet_on
        refine rg_quiet rfl rfl rfl rfl ?_; intro K hK; go_big_quiet_op; go_big_quiet_on
        refine rg_quiet rfl rfl rfl rfl ?_; intro K hK; go_big_quiet_op; go_big_quiet_on
        refine rg_quiet rfl rfl rfl rfl ?_; intro K hK; go_big_quiet_op; go_big_quiet_on
        refine rg_quiet rfl rfl rfl rfl ?_; intro K hK; go_big_quiet_op; go_big_quiet_on
        refine rg_quiet rfl rfl rfl rfl ?_; intro K hK; go_big_quiet_op; go_big_quiet_on
        refine rel_nil fun w5 hE5 _ => ?_
        obtain ⟨b0, hE, hin⟩ := FIN.out w5 hE5
        clear y0 y1 y2 y3 y4 y5 y6 y7 hE5 FIN
        clear d0 d1 d2
        have hq : isB r G now strict = true := by unfold isB; rw [HLV.out]; rfl
        have HQ := Lib.hid hq
        clear hq
        go_wp2
        go_ret
        exact ⟨ret_bool HQ.out.symm, hE⟩
end Go.Proofs.YteamiiekpjoclaaDoor

/- Plain laws of a row's cells under joins. -/
namespace Go.Proofs.YteamiiekpjoclaaDoor
open Go Go.RowKit

theorem cellOf_get (l : List Co) (n : ByteArray) : cellOf l n = ((getK kCo l n.data.toList).map (·.cell)).getD zeroCl := by
  induction l with
  | nil => rfl
  | cons c l ih =>
    unfold cellOf getK
    by_cases h : kCo c = n.data.toList
    · rw [if_pos h, if_pos (by unfold kCo at h; rw [ByteArray.toList_eq, ByteArray.toList_eq]; simpa using h)]
      rfl
    · rw [if_neg h, if_neg (by unfold kCo at h; rw [ByteArray.toList_eq, ByteArray.toList_eq]; simpa using h)]
      exact ih
theorem le_at {x y : Cl} (h : cmpCl x y ≤ 0) : x.at_ ≤ y.at_ := by
  unfold cmpCl cmpC at h
  rw [or4_le] at h
  unfold cmpI at h
  split at h
  · omega
  · split at h
    · omega
    · omega
theorem joinCl_at (x y : Cl) : x.at_ ≤ (joinCl x y).at_ ∧ y.at_ ≤ (joinCl x y).at_ :=
  ⟨le_at (ge_le (le_joinCl_left x y)), le_at (ge_le (le_joinCl_right x y))⟩
/-- What a join's cell of a name is: one of the two's, and older than neither. -/
theorem cell_joined {a b : List Co} (ha : Up kCo a) (hb : Up kCo b) (pa : ∀ c ∈ a, 0 ≤ c.cell.at_) (pb : ∀ c ∈ b, 0 ≤ c.cell.at_) (n : ByteArray) :
    (cellOf a n).at_ ≤ (cellOf (mergeCo a b) n).at_ ∧ (cellOf b n).at_ ≤ (cellOf (mergeCo a b) n).at_ ∧ (cellOf (mergeCo a b) n = cellOf a n ∨ cellOf (mergeCo a b) n = cellOf b n) := by
  rw [cellOf_get a, cellOf_get b, cellOf_get (mergeCo a b), mergeCo_K, getK_merge kCo_join ha hb]
  cases h1 : getK kCo a n.data.toList with
  | none =>
    cases h2 : getK kCo b n.data.toList with
    | none => exact ⟨Int.le_refl _, Int.le_refl _, .inl rfl⟩
    | some y => exact ⟨pb y (getK_mem h2).1, Int.le_refl _, .inr rfl⟩
  | some x =>
    cases h2 : getK kCo b n.data.toList with
    | none => exact ⟨Int.le_refl _, pa x (getK_mem h1).1, .inl rfl⟩
    | some y => exact ⟨(joinCl_at _ _).1, (joinCl_at _ _).2, joinCl_or _ _⟩
theorem best_law (c : Cl) (g : Int) (hg : 0 ≤ g) : bestB c g = decide (0 < (bestC c g).at_) ∧ (bestB c g = true → g < (bestC c g).at_ ∧ (bestC c g).dead = false) := by
  unfold bestC
  cases h : bestB c g with
  | false => exact ⟨by rfl, nofun⟩
  | true =>
    rw [if_pos rfl]
    unfold bestB at h
    simp only [Bool.not_eq_true', Bool.or_eq_false_iff, decide_eq_false_iff_not] at h
    obtain ⟨⟨h1, h2⟩, h3⟩ := h
    refine ⟨?_, fun _ => ⟨by omega, h1⟩⟩
    rw [eq_comm, decide_eq_true_iff]
    omega
theorem is_law (r : Ro) (g t : Int) : (isB r g t false || !isB r g t true) = true ∧ (isB r g t false = true ∨ (seenCos r.cols g t).length = 0) := by
  unfold isB
  constructor
  · cases liveB r g t <;> simp
  · by_cases h : (seenCos r.cols g t).length = 0
    · exact .inr h
    · left
      rw [show decide (0 < (seenCos r.cols g t).length) = true by simp; omega]
      simp
end Go.Proofs.YteamiiekpjoclaaDoor

/- slices.Equal over columns, row.Same, slices.EqualFunc over rows, part.Same. -/
namespace Go.Proofs.YteamiiekpjoclaaDoor
open Go Go.RowKit
attribute [local go_sem] yields yUpon ro8 pa3

/-- Alike. -/
noncomputable def eqB {α : Type} (a b : α) : Bool := @decide (a = b) (Classical.propDecidable _)
theorem eqB_iff {α : Type} {a b : α} : eqB a b = true ↔ a = b := by unfold eqB; exact @decide_eq_true_iff _ (Classical.propDecidable _)
theorem eqB_true {α : Type} {a b : α} (h : a = b) : eqB a b = true := eqB_iff.2 h
theorem eqB_false {α : Type} {a b : α} (h : a ≠ b) : eqB a b = false := by
  cases e : eqB a b with
  | false => rfl
  | true => exact absurd (eqB_iff.1 e) h

theorem bytes_ext {a b : ByteArray} (h : a.toList = b.toList) : a = b := by
  rw [ByteArray.toList_eq, ByteArray.toList_eq] at h
  cases a; cases b
  simp at h
  rw [h]
theorem cl_ext {c d : Cl} (h2 : c.val.toList = d.val.toList) (h3 : c.dead = d.dead) (h4 : c.at_ = d.at_) (h5 : c.fin = d.fin) : c = d := by
  cases c; cases d
  simp only at *
  rw [bytes_ext h2, h3, h4, h5]
theorem co_ext {c d : Co} (h1 : c.name.toList = d.name.toList) (h2 : c.cell.val.toList = d.cell.val.toList) (h3 : c.cell.dead = d.cell.dead) (h4 : c.cell.at_ = d.cell.at_) (h5 : c.cell.fin = d.cell.fin) : c = d := by
  have := cl_ext h2 h3 h4 h5
  cases c; cases d
  simp only at *
  rw [bytes_ext h1, this]

set_option maxRecDepth 100000 in
set_option maxHeartbeats 2000000 in
theorem eqCols_any (v v' : Value) (l l' : List Co) (w : World) (hin : ColsIn w v l) (hin' : ColsIn w v' l') :
    Calls Tryd.prog 64 #[v, v'] w fun e w' => e = .returned (.bool (eqB l l')) ∧ Ext w w' := by
  obtain ⟨a, c, rfl, hc, hcm, hcell⟩ := hin.get
  obtain ⟨a', c', rfl, hc', hcm', hcell'⟩ := hin'.get
  have HC := Lib.hid hcell
  have HC' := Lib.hid hcell'
  clear hcell hin hcell' hin'
  by_cases hlen : l.length = l'.length
  · obtain ⟨n, hn⟩ : ∃ n, n = l.length := ⟨_, rfl⟩
    rw [← hn] at hlen hc ⊢
    rw [← hlen] at hc' ⊢
    have HN := Lib.hid hn
    have HN' := Lib.hid hlen
    clear hn hlen
    go_enter Tryd.func64, Tryd.ntmps64
    go_wp2
    go_loopw [13] (fun i wr => ∃ k : Nat, k ≤ n ∧ i = .int .i64 k ∧ Ext w wr ∧ Hid (l.take k = l'.take k)) (fun i _ => n - (intOf i).toNat)
    case atStart => exact ⟨0, Nat.zero_le _, rfl, Ext.refl w, rfl⟩
    case round =>
      obtain ⟨k, hk, rfl, hE, HT⟩ := hrel
      by_cases hlt : k < n
      · have hl1 : k < l.length := by rw [← HN.out]; exact hlt
        have hl2 : k < l'.length := by rw [← HN'.out]; exact hlt
        obtain ⟨b, o, rfl, hco⟩ := HC.out k hl1
        obtain ⟨b', o', rfl, hco'⟩ := HC'.out k hl2
        obtain ⟨M, hM⟩ : ∃ M, M = l[k] := ⟨_, rfl⟩
        obtain ⟨M', hM'⟩ : ∃ M', M' = l'[k] := ⟨_, rfl⟩
        rw [← hM] at hco
        rw [← hM'] at hco'
        have HM := Lib.hid hM
        have HM' := Lib.hid hM'
        clear hM hM'
        obtain ⟨g0, g1, g2, g3, g4⟩ := hco.ext hE
        obtain ⟨y0, y1, y2, y3, y4⟩ := hco'.ext hE
        clear hco hco'
        have hki : decide ((k : Int) < (n : Int)) = true := by simpa using hlt
        replace g0 := held g0
        replace g1 := held g1
        replace g2 := held g2
        replace g3 := held g3
        replace g4 := held g4
        replace y0 := held y0
        replace y1 := held y1
        replace y2 := held y2
        replace y3 := held y3
        replace y4 := held y4
        go_wp2_with fail
        refine wp_region_tab 9 [] (by kernel_rfl) (by kernel_rfl) (by kernel_rfl) trivial ?_
        refine rg_quiet rfl rfl rfl rfl ?_; intro K hK; go_big_quiet_op; go_big_quiet_on
        refine rg_quiet rfl rfl rfl rfl ?_; intro K hK; go_big_quiet_op; go_big_quiet_on
        refine rg_quiet rfl rfl rfl rfl ?_; intro K hK; go_big_quiet_op; go_big_quiet_on
        refine rg_quiet rfl rfl rfl rfl ?_; intro K hK; go_big_quiet_op; go_big_quiet_on
        refine rg_quiet rfl rfl rfl rfl ?_; intro K hK; go_big_quiet_op; go_big_quiet_on
        refine rg_quiet rfl rfl rfl rfl ?_; intro K hK; go_big_quiet_op; go_big_quiet_on
        refine rg_quiet rfl rfl rfl rfl ?_; intro K hK; go_big_quiet_op; go_big_quiet_on
        refine rg_quiet rfl rfl rfl rfl ?_; intro K hK; go_big_quiet_op; go_big_quiet_on
        refine rg_quiet rfl rfl rfl rfl ?_; intro K hK; go_big_quiet_op
        refine ⟨.bool (!eqB M M'), fun q => ?_, hK _ ?_⟩
        · by_cases h1 : M.name.toList = M'.name.toList
          · by_cases h2 : M.cell.val.toList = M'.cell.val.toList
            · by_cases h3 : M.cell.dead = M'.cell.dead
              · by_cases h4 : M.cell.at_ = M'.cell.at_
                · by_cases h5 : M.cell.fin = M'.cell.fin
                  · have e : M = M' := co_ext h1 h2 h3 h4 h5
                    rw [if_pos h1, if_pos h2, if_pos h3, if_pos h4, if_pos h5, eqB_true e]
                    exact ⟨rfl, rfl⟩
                  · rw [if_pos h1, if_pos h2, if_pos h3, if_pos h4, if_neg h5, eqB_false (fun e => h5 (by rw [e]))]
                    exact ⟨rfl, rfl⟩
                · rw [if_pos h1, if_pos h2, if_pos h3, if_neg h4, eqB_false (fun e => h4 (by rw [e]))]
                  exact ⟨rfl, rfl⟩
              · rw [if_pos h1, if_pos h2, if_neg h3, eqB_false (fun e => h3 (by rw [e]))]
                exact ⟨rfl, rfl⟩
            · rw [if_pos h1, if_neg h2, eqB_false (fun e => h2 (by rw [e]))]
              exact ⟨rfl, rfl⟩
          · rw [if_neg h1, eqB_false (fun e => h1 (by rw [e]))]
            exact ⟨rfl, rfl⟩
        clear hK K
        refine rel_nil fun w5 hE5 _ => ?_
        clear g0 g1 g2 g3 g4 y0 y1 y2 y3 y4
        by_cases hMM : M = M'
        · rw [eqB_true hMM]
          go_wp2_with fail
          go_roundw
          case rel =>
            refine ⟨k + 1, hlt, rfl, hE.trans hE5, ?_⟩
            show _ = _
            rw [List.take_succ_eq_append_getElem hl1, List.take_succ_eq_append_getElem hl2, HT.out, ← HM.out, ← HM'.out, hMM]
          case measure => simp [intOf]; omega
        · rw [eqB_false hMM]
          go_wp2_with fail
          go_ret
          rw [eqB_false (fun e => hMM (by rw [HM.out, HM'.out]; simp only [e]))]
          exact ⟨rfl, hE.trans hE5⟩
      · go_wp2_with fail
        go_ret
        rw [eqB_true (by
          have := HT.out
          rwa [List.take_of_length_le (by rw [← HN.out]; omega), List.take_of_length_le (by rw [← HN'.out]; omega)] at this)]
        exact ⟨rfl, hE⟩
  · have hne : l ≠ l' := fun e => hlen (by rw [e])
    have HB := Lib.hid (eqB_false hne)
    go_enter Tryd.func64, Tryd.ntmps64
    go_wp2
    go_ret
    exact ⟨by rw [HB.out]; rfl, Ext.refl w⟩

theorem ro_ext {a b : Ro} (h1 : a.key.toList = b.key.toList) (h2 : a.live.val.toList = b.live.val.toList) (h3 : a.live.dead = b.live.dead) (h4 : a.live.at_ = b.live.at_) (h5 : a.live.fin = b.live.fin) (h6 : a.gone = b.gone) (h7 : a.shade = b.shade) (h8 : a.cols = b.cols) : a = b := by
  have := cl_ext h2 h3 h4 h5
  cases a; cases b
  simp only at *
  rw [bytes_ext h1, this, h6, h7, h8]

set_option maxRecDepth 100000 in
set_option maxHeartbeats 4000000 in
theorem rowSame_any (a b : Ro) (va vb : Value) (w : World) (ha : ColsIn w va a.cols) (hb : ColsIn w vb b.cols) :
    Calls Tryd.prog 14 #[(.agg #[.string a.key, .string a.live.val, .bool a.live.dead, .int .i64 a.live.at_, .int .i64 a.live.fin, .int .i64 a.gone, .int .i64 a.shade, va]), (.agg #[.string b.key, .string b.live.val, .bool b.live.dead, .int .i64 b.live.at_, .int .i64 b.live.fin, .int .i64 b.gone, .int .i64 b.shade, vb])] w fun e w' => e = .returned (.bool (eqB a b)) ∧ Ext w w' := by
  go_enter Tryd.func14, Tryd.ntmps14
  go_wp2_with fail
  rotate_left
  all_goals try
    rename_i h
    go_ret
    exact ⟨by rw [eqB_false (fun e => h (by rw [e]))]; rfl, ((Ext.refl w).alloc _).alloc _⟩
  rename_i h1 h2 h3 h4 h5 h6 h7 _ _
  refine (eqCols_any va vb a.cols b.cols _ (ha.ext (((Ext.refl w).alloc _).alloc _)) (hb.ext (((Ext.refl w).alloc _).alloc _))).mono ?_
  rintro e w1 ⟨rfl, hE1⟩
  have he : eqB a.cols b.cols = eqB a b := by
    by_cases h : a.cols = b.cols
    · rw [eqB_true h, eqB_true (ro_ext h1 h2 h3 h4 h5 h6 h7 h)]
    · rw [eqB_false h, eqB_false (fun e => h (by rw [e]))]
  rw [he]
  obtain ⟨B, hB⟩ : ∃ B, B = eqB a b := ⟨_, rfl⟩
  rw [← hB]
  have HB := Lib.hid hB
  clear hB he h1 h2 h3 h4 h5 h6 h7
  go_wp2_with fail
  go_ret
  exact ⟨by rw [← HB.out]; rfl, (((Ext.refl w).alloc _).alloc _).trans hE1⟩

set_option maxRecDepth 100000 in
set_option maxHeartbeats 4000000 in
theorem eqRows_any (v v' : Value) (ps ps' : List (Ro × Value)) (w : World) (hin : RowsIn w v ps) (hin' : RowsIn w v' ps') :
    Calls Tryd.prog 74 #[v, v', .func (.func 14) #[] #[]] w fun e w' => e = .returned (.bool (eqB (ps.map (·.1)) (ps'.map (·.1)))) ∧ Ext w w' := by
  obtain ⟨a, c, rfl, hc, hcm, hcell⟩ := hin.get
  obtain ⟨a', c', rfl, hc', hcm', hcell'⟩ := hin'.get
  have HC := Lib.hid hcell
  have HC' := Lib.hid hcell'
  have HK := Lib.hid hin.cols
  have HK' := Lib.hid hin'.cols
  clear hcell hin hcell' hin'
  by_cases hlen : ps.length = ps'.length
  · obtain ⟨n, hn⟩ : ∃ n, n = ps.length := ⟨_, rfl⟩
    rw [← hn] at hlen hc ⊢
    rw [← hlen] at hc' ⊢
    have HN := Lib.hid hn
    have HN' := Lib.hid hlen
    clear hn hlen
    obtain ⟨l, hl⟩ : ∃ l, l = ps.map (·.1) := ⟨_, rfl⟩
    obtain ⟨l', hl'⟩ : ∃ l', l' = ps'.map (·.1) := ⟨_, rfl⟩
    rw [← hl, ← hl']
    have HL := Lib.hid hl
    have HL' := Lib.hid hl'
    clear hl hl'
    go_enter Tryd.func74, Tryd.ntmps74
    go_wp2
    go_loopw [17] (fun i wr => ∃ k : Nat, k ≤ n ∧ i = .int .i64 k ∧ Ext w wr ∧ Hid (l.take k = l'.take k)) (fun i _ => n - (intOf i).toNat)
    case atStart => exact ⟨0, Nat.zero_le _, rfl, Ext.refl w, rfl⟩
    case round =>
      obtain ⟨k, hk, rfl, hE, HT⟩ := hrel
      by_cases hlt : k < n
      · have hl1 : k < ps.length := by rw [← HN.out]; exact hlt
        have hl2 : k < ps'.length := by rw [← HN'.out]; exact hlt
        have hll : k < l.length := by rw [HL.out]; simpa using hl1
        have hll' : k < l'.length := by rw [HL'.out]; simpa using hl2
        obtain ⟨b, o, rfl, hco⟩ := HC.out k hl1
        obtain ⟨b', o', rfl, hco'⟩ := HC'.out k hl2
        have hk1 := HK.out _ (List.getElem_mem hl1)
        have hk2 := HK'.out _ (List.getElem_mem hl2)
        obtain ⟨M, hM⟩ : ∃ M, M = ps[k].1 := ⟨_, rfl⟩
        obtain ⟨M', hM'⟩ : ∃ M', M' = ps'[k].1 := ⟨_, rfl⟩
        obtain ⟨au, cu, hu⟩ := hk1.shape
        obtain ⟨au', cu', hu'⟩ := hk2.shape
        rw [← hM] at hco hk1 hu
        rw [← hM'] at hco' hk2 hu'
        rw [hu] at hco hk1
        rw [hu'] at hco' hk2
        have hM1 : M = l[k] := by simp only [HL.out, List.getElem_map]; exact hM
        have hM1' : M' = l'[k] := by simp only [HL'.out, List.getElem_map]; exact hM'
        have HM := Lib.hid hM1
        have HM' := Lib.hid hM1'
        clear hM hM' hu hu' hM1 hM1'
        obtain ⟨mm, hmm⟩ : ∃ mm, mm = M.cols.length := ⟨_, rfl⟩
        obtain ⟨mm', hmm'⟩ : ∃ mm', mm' = M'.cols.length := ⟨_, rfl⟩
        rw [← hmm] at hco hk1
        rw [← hmm'] at hco' hk2
        clear hmm hmm'
        obtain ⟨g0, g1, g2, g3, g4, g5, g6, g7⟩ := hco.ext hE
        have hco2 := hco'.ext hE
        go_wp2_with (first
          | (((guard_target =~ wpList _ _ _ (Oper.mk none (Op.store _ (Operand.tmp 8) (Operand.tmp 21)) _ _ _ _ :: _) _ _); go_must (refine storeBox rfl 26 (.tmp 8) (.tmp 21) rfl (wr.heap.size) _ _ _ (by rfl) (by rfl) ((BoxAt.made wr (ro8 ⟨⟨#[]⟩, zeroCl, 0, 0, []⟩ (.slice none 0 0)) 26)) (by kernel_rfl) (by rfl) (by simp [Value.oneCell']) ?_); intro w4 c4 gg4); have hX4 : Ext wr w4 := ((Ext.refl wr).alloc _).grown gg4 (fun q hq => by cases hq; omega); obtain ⟨y0, y1, y2, y3, y4, y5, y6, y7⟩ := hco2.ext hX4)
          | (((guard_target =~ wpList _ _ _ (Oper.mk none (Op.store _ (Operand.tmp 9) (Operand.tmp 25)) _ _ _ _ :: _) _ _); go_must (refine storeBox rfl 26 (.tmp 9) (.tmp 25) rfl (w4.heap.size) _ _ _ (by rfl) (by rfl) ((BoxAt.made w4 (ro8 ⟨⟨#[]⟩, zeroCl, 0, 0, []⟩ (.slice none 0 0)) 26)) (by kernel_rfl) (by rfl) (by simp [Value.oneCell']) ?_); intro w5 c5 gg5); have hX5 : Ext w4 w5 := ((Ext.refl w4).alloc _).grown gg5 (fun q hq => by cases hq; omega); have d4 := (c4.ext hX5).ro (r := ⟨M.key, M.live, M.gone, M.shade, []⟩) (v := .slice au mm cu); have d5 := c5.ro (r := ⟨M'.key, M'.live, M'.gone, M'.shade, []⟩) (v := .slice au' mm' cu')))
        refine (rowSame_any M M' _ _ w5 (hk1.ext ((hE.trans hX4).trans hX5)) (hk2.ext ((hE.trans hX4).trans hX5))).mono ?_
        rintro e w6 ⟨rfl, hE6⟩
        have hX6 := ((hE.trans hX4).trans hX5).trans hE6
        clear d4 d5 g0 g1 g2 g3 g4 g5 g6 g7 y0 y1 y2 y3 y4 y5 y6 y7 c4 c5 gg4 gg5
        by_cases hMM : M = M'
        · rw [eqB_true hMM]
          go_wp2_with fail
          go_roundw
          case rel =>
            refine ⟨k + 1, hlt, rfl, hX6, ?_⟩
            show _ = _
            rw [List.take_succ_eq_append_getElem hll, List.take_succ_eq_append_getElem hll', HT.out, ← HM.out, ← HM'.out, hMM]
          case measure => simp [intOf]; omega
        · rw [eqB_false hMM]
          go_wp2_with fail
          go_ret
          rw [eqB_false (fun e => hMM (by rw [HM.out, HM'.out]; simp only [e]))]
          exact ⟨rfl, hX6⟩
      · go_wp2_with fail
        go_ret
        rw [eqB_true (by
          have := HT.out
          rwa [List.take_of_length_le (by rw [HL.out]; simp; rw [← HN.out]; omega), List.take_of_length_le (by rw [HL'.out]; simp; rw [← HN'.out]; omega)] at this)]
        exact ⟨rfl, hE⟩
  · have hne : ps.map (·.1) ≠ ps'.map (·.1) := fun e => hlen (by have := congrArg List.length e; simpa using this)
    have HB := Lib.hid (eqB_false hne)
    go_enter Tryd.func74, Tryd.ntmps74
    go_wp2
    go_ret
    exact ⟨by rw [HB.out]; rfl, Ext.refl w⟩

set_option maxRecDepth 100000 in
set_option maxHeartbeats 4000000 in
theorem partSame_any (k k' : ByteArray) (g g' : Int) (u u' : Value) (ps ps' : List (Ro × Value)) (w : World) (hin : RowsIn w u ps) (hin' : RowsIn w u' ps') :
    Calls Tryd.prog 38 #[.agg #[.string k, .int .i64 g, u], .agg #[.string k', .int .i64 g', u']] w fun e w' => e = .returned (.bool (eqB (k, g, ps.map (·.1)) (k', g', ps'.map (·.1)))) ∧ Ext w w' := by
  by_cases hg : g = g'
  · subst hg
    go_enter Tryd.func38, Tryd.ntmps38
    go_wp2_with fail
    rotate_left
    · rename_i h
      go_ret
      exact ⟨by rw [eqB_false (fun e => h (congrArg ByteArray.toList (congrArg Prod.fst e)))]; rfl, ((Ext.refl w).alloc _).alloc _⟩
    rename_i h1 _ _
    refine (eqRows_any u u' ps ps' _ (hin.ext (((Ext.refl w).alloc _).alloc _)) (hin'.ext (((Ext.refl w).alloc _).alloc _))).mono ?_
    rintro e w1 ⟨rfl, hE1⟩
    have he : eqB (ps.map (·.1)) (ps'.map (·.1)) = eqB (k, g, ps.map (·.1)) (k', g, ps'.map (·.1)) := by
      by_cases h : ps.map (·.1) = ps'.map (·.1)
      · rw [eqB_true h, eqB_true (by rw [bytes_ext h1, h])]
      · rw [eqB_false h, eqB_false (fun e => h (congrArg (fun p => p.2.2) e))]
    rw [he]
    obtain ⟨B, hB⟩ : ∃ B, B = eqB (k, g, ps.map (·.1)) (k', g, ps'.map (·.1)) := ⟨_, rfl⟩
    rw [← hB]
    have HB := Lib.hid hB
    clear hB he h1
    go_wp2_with fail
    go_ret
    exact ⟨by rw [← HB.out]; rfl, (((Ext.refl w).alloc _).alloc _).trans hE1⟩
  · have hgb : (g == g') = false := by simpa using hg
    have hne := Lib.hid (eqB_false (fun e : (k, g, ps.map (·.1)) = (k', g', ps'.map (·.1)) => hg (congrArg (fun p => p.2.1) e)))
    clear hg
    go_enter Tryd.func38, Tryd.ntmps38
    go_wp2_with fail
    all_goals
      go_ret
      exact ⟨by rw [hne.out]; rfl, ((Ext.refl w).alloc _).alloc _⟩
end Go.Proofs.YteamiiekpjoclaaDoor
