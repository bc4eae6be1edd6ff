/- CellJoins: joins are one way: the law's walk. -/
import Derived.Test.YtiaoplehamjbkaaCellCl
namespace Go.Proofs.Ytiaoplehamjbkaa
open Go Go.RowKit
attribute [local go_sem] yields yUpon

set_option maxRecDepth 100000 in
set_option maxHeartbeats 1000000 in
theorem law_cellJoins (a b c : Cl) (h3 : fewB [a, b, c] = true) (w : World) :
    Calls Try.prog 6 #[(.agg #[.string a.val, .bool a.dead, .int .i64 a.at_, .int .i64 a.fin]), (.agg #[.string b.val, .bool b.dead, .int .i64 b.at_, .int .i64 b.fin]), (.agg #[.string c.val, .bool c.dead, .int .i64 c.at_, .int .i64 c.fin])] w fun e w' => e = .returned (.bool true) ∧ Ext w w' := by
  obtain ⟨J, hJ⟩ : ∃ J, J = joinCl a b := ⟨_, rfl⟩
  obtain ⟨M, hM⟩ : ∃ M, M = joinCl b c := ⟨_, rfl⟩
  obtain ⟨K, hK⟩ : ∃ K, K = joinCl J c := ⟨_, rfl⟩
  obtain ⟨p1, hp1⟩ : ∃ p, p = cmpCl J a := ⟨_, rfl⟩
  obtain ⟨p2, hp2⟩ : ∃ p, p = cmpCl J b := ⟨_, rfl⟩
  have hp1' : 0 ≤ p1 := by rw [hp1, hJ]; exact le_joinCl_left a b
  have hp2' : 0 ≤ p2 := by rw [hp2, hJ]; exact le_joinCl_right a b
  have J1 : Hid (joinCl b a = J) := by rw [hJ]; exact joinCl_comm b a
  have J2 : Hid (joinCl a b = J) := hJ.symm
  have J3 : Hid (joinCl J c = K) := hK.symm
  have J4 : Hid (joinCl b c = M) := hM.symm
  have J5 : Hid (joinCl a M = K) := by rw [hK, hM, hJ]; exact (joinCl_assoc a b c).symm
  have J6 : Hid (joinCl J a = J) := by rw [hJ]; exact joinCl_again a b
  have P1 := Lib.hid hp1.symm
  have P2 := Lib.hid hp2.symm
  have hor : J = a ∨ J = b := by rw [hJ]; exact joinCl_or a b
  have HO : Hid (J = a ∨ J = b) := hor
  clear hJ hM hK hp1 hp2 hor
  go_enter Try.func6, Try.ntmps6
  go_wp2_with fail
  refine (few_any _ [a, b, c] _ (cls3 _ a b c _ _ (by simp)) (by simp)).mono ?_
  rw [h3]
  rintro e w1 ⟨rfl, rfl⟩
  go_wp2_with fail
  refine (join_c _ _ _ _ _ _ _ _ _).mono ?_
  rw [show joinCl ⟨a.val, a.dead, a.at_, a.fin⟩ ⟨b.val, b.dead, b.at_, b.fin⟩ = J from J2.out]
  rintro e w2 ⟨rfl, hE⟩
  go_wp2_with fail
  have hX := ((((Ext.refl w).alloc _).alloc _).alloc _).alloc _ |>.trans hE
  have hA : CellAt w2 w.heap.size a := by
    refine CellAt.ext hE ?_
    constructor <;> simp [go_sem]
  have hB : CellAt w2 (w.heap.size + 1) b := by
    refine CellAt.ext hE ?_
    constructor <;> simp [go_sem]
  have hC : CellAt w2 (w.heap.size + 1 + 1) c := by
    refine CellAt.ext hE ?_
    constructor <;> simp [go_sem]
  clear hE
  cases hs : sameCl J a
  · have HB : Hid (sameCl J b = true) := by
      rcases HO.out with h | h
      · rw [h, (sameCl_iff a a).2 rfl] at hs; cases hs
      · rw [h]; exact (sameCl_iff b b).2 rfl
    have HA := Lib.hid hs
    clear hs HO
    refine wp_region_in 56 [(3, fun v _ => v = (.agg #[.string J.val, .bool J.dead, .int .i64 J.at_, .int .i64 J.fin])), (4, fun v _ => v = .bool true), (8, fun v _ => v = (.agg #[.string K.val, .bool K.dead, .int .i64 K.at_, .int .i64 K.fin])), (12, fun v _ => v = (.agg #[.string M.val, .bool M.dead, .int .i64 M.at_, .int .i64 M.fin])), (13, fun v _ => v = (.agg #[.string K.val, .bool K.dead, .int .i64 K.at_, .int .i64 K.fin])), (14, fun v _ => v = .bool true), (19, fun v _ => v = (.agg #[.string J.val, .bool J.dead, .int .i64 J.at_, .int .i64 J.fin])), (21, fun v _ => v = .bool true), (26, fun v _ => v = (.agg #[.string a.val, .bool a.dead, .int .i64 a.at_, .int .i64 a.fin])), (28, fun v _ => v = .bool true), (33, fun v _ => v = .int .i64 p1), (39, fun v _ => v = .int .i64 p2), (45, fun v _ => v = .bool false), (49, fun v _ => v = .bool true), (53, fun v _ => v = .bool true)] (fun w0 => Ext w w0 ∧ CellAt w0 w.heap.size a ∧ CellAt w0 (w.heap.size + 1) b ∧ CellAt w0 (w.heap.size + 1 + 1) c ∧ CellAt w0 w2.heap.size J) (by kernel_rfl) (by kernel_rfl) (by kernel_rfl) ⟨stays_eq _, stays_eq _, stays_eq _, stays_eq _, stays_eq _, stays_eq _, stays_eq _, stays_eq _, stays_eq _, stays_eq _, stays_eq _, stays_eq _, stays_eq _, stays_eq _, stays_eq _, trivial⟩ ?_ ?_
    · exact ⟨hX.alloc _, hA.ext ((Ext.refl w2).alloc _), hB.ext ((Ext.refl w2).alloc _), hC.ext ((Ext.refl w2).alloc _), ⟨by simp, by simp, by simp, by simp⟩⟩
    clear hX hA hB hC
    rintro w0 ⟨hX, hA, hB, hC, hJ⟩
    have a0 := held hA.c0
    have a1 := held hA.c1
    have a2 := held hA.c2
    have a3 := held hA.c3
    have b0 := held hB.c0
    have b1 := held hB.c1
    have b2 := held hB.c2
    have b3 := held hB.c3
    have c0 := held hC.c0
    have c1 := held hC.c1
    have c2 := held hC.c2
    have c3 := held hC.c3
    have j0 := held hJ.c0
    have j1 := held hJ.c1
    have j2 := held hJ.c2
    have j3 := held hJ.c3
    clear hA hB hC hJ
    have g1 : decide (0 ≤ p1) = true := by simpa using hp1'
    have g2 : decide (0 ≤ p2) = true := by simpa using hp2'
    refine rg_quiet rfl rfl rfl rfl ?_; intro K hK; go_big_quiet_op; go_big_quiet_on
    refine rg_quiet rfl rfl rfl rfl ?_; intro K hK; go_big_quiet_op; go_big_quiet_on
    refine rg_quiet rfl rfl rfl rfl ?_; intro K hK; go_big_quiet_op; go_big_quiet_on
    refine rg_val [] rfl rfl rfl (by kernel_rfl) (fun w1 hE hf => ?_) ?_
    · go_simp
      exact (join_c _ _ _ _ _ _ _ _ w1).mono fun e w' ⟨he, hw⟩ => ⟨_, he, rg_done hE hw (agg_congr J1.out)⟩
    simp only [Act.put, List.setIfInBounds_toArray, List.set_cons_zero, List.set_cons_succ]
    refine rg_val [] rfl rfl rfl (by kernel_rfl) (fun w1 hE hf => ?_) ?_
    · go_simp
      exact (same_c _ _ _ _ _ _ _ _ w1).mono fun e w' ⟨he, hw⟩ => ⟨_, he, rg_done hE hw (bool_congr ((sameCl_iff J J).2 rfl))⟩
    simp only [Act.put, List.setIfInBounds_toArray, List.set_cons_zero, List.set_cons_succ]
    refine rg_quiet rfl rfl rfl rfl ?_; intro K hK; go_big_quiet_op; go_big_quiet_on
    refine rg_quiet rfl rfl rfl rfl ?_; intro K hK; go_big_quiet_op; go_big_quiet_on
    refine rg_quiet rfl rfl rfl rfl ?_; intro K hK; go_big_quiet_op; go_big_quiet_on
    refine rg_val [] rfl rfl rfl (by kernel_rfl) (fun w1 hE hf => ?_) ?_
    · go_simp
      exact (join_c _ _ _ _ _ _ _ _ w1).mono fun e w' ⟨he, hw⟩ => ⟨_, he, rg_done hE hw (agg_congr J3.out)⟩
    simp only [Act.put, List.setIfInBounds_toArray, List.set_cons_zero, List.set_cons_succ]
    refine rg_quiet rfl rfl rfl rfl ?_; intro K hK; go_big_quiet_op; go_big_quiet_on
    refine rg_quiet rfl rfl rfl rfl ?_; intro K hK; go_big_quiet_op; go_big_quiet_on
    refine rg_quiet rfl rfl rfl rfl ?_; intro K hK; go_big_quiet_op; go_big_quiet_on
    refine rg_val [] rfl rfl rfl (by kernel_rfl) (fun w1 hE hf => ?_) ?_
    · go_simp
      exact (join_c _ _ _ _ _ _ _ _ w1).mono fun e w' ⟨he, hw⟩ => ⟨_, he, rg_done hE hw (agg_congr J4.out)⟩
    simp only [Act.put, List.setIfInBounds_toArray, List.set_cons_zero, List.set_cons_succ]
    refine rg_val [] rfl rfl rfl (by kernel_rfl) (fun w1 hE hf => ?_) ?_
    · go_simp
      exact (join_c _ _ _ _ _ _ _ _ w1).mono fun e w' ⟨he, hw⟩ => ⟨_, he, rg_done hE hw (agg_congr J5.out)⟩
    simp only [Act.put, List.setIfInBounds_toArray, List.set_cons_zero, List.set_cons_succ]
    refine rg_val [] rfl rfl rfl (by kernel_rfl) (fun w1 hE hf => ?_) ?_
    · go_simp
      exact (same_c _ _ _ _ _ _ _ _ w1).mono fun e w' ⟨he, hw⟩ => ⟨_, he, rg_done hE hw (bool_congr ((sameCl_iff K K).2 rfl))⟩
    simp only [Act.put, List.setIfInBounds_toArray, List.set_cons_zero, List.set_cons_succ]
    refine rg_quiet rfl rfl rfl rfl ?_; intro K hK; go_big_quiet_op; go_big_quiet_on
    refine rg_quiet rfl rfl rfl rfl ?_; intro K hK; go_big_quiet_op; go_big_quiet_on
    refine rg_quiet rfl rfl rfl rfl ?_; intro K hK; go_big_quiet_op; go_big_quiet_on
    refine rg_quiet rfl rfl rfl rfl ?_; intro K hK; go_big_quiet_op; go_big_quiet_on
    refine rg_val [] rfl rfl rfl (by kernel_rfl) (fun w1 hE hf => ?_) ?_
    · go_simp
      exact (join_c _ _ _ _ _ _ _ _ w1).mono fun e w' ⟨he, hw⟩ => ⟨_, he, rg_done hE hw (agg_congr J6.out)⟩
    simp only [Act.put, List.setIfInBounds_toArray, List.set_cons_zero, List.set_cons_succ]
    refine rg_quiet rfl rfl rfl rfl ?_; intro K hK; go_big_quiet_op; go_big_quiet_on
    refine rg_val [] rfl rfl rfl (by kernel_rfl) (fun w1 hE hf => ?_) ?_
    · go_simp
      exact (same_c _ _ _ _ _ _ _ _ w1).mono fun e w' ⟨he, hw⟩ => ⟨_, he, rg_done hE hw (bool_congr ((sameCl_iff J J).2 rfl))⟩
    simp only [Act.put, List.setIfInBounds_toArray, List.set_cons_zero, List.set_cons_succ]
    refine rg_quiet rfl rfl rfl rfl ?_; intro K hK; go_big_quiet_op; go_big_quiet_on
    refine rg_quiet rfl rfl rfl rfl ?_; intro K hK; go_big_quiet_op; go_big_quiet_on
    refine rg_quiet rfl rfl rfl rfl ?_; intro K hK; go_big_quiet_op; go_big_quiet_on
    refine rg_quiet rfl rfl rfl rfl ?_; intro K hK; go_big_quiet_op; go_big_quiet_on
    refine rg_val [] rfl rfl rfl (by kernel_rfl) (fun w1 hE hf => ?_) ?_
    · go_simp
      exact (join_c _ _ _ _ _ _ _ _ w1).mono fun e w' ⟨he, hw⟩ => ⟨_, he, rg_done hE hw (agg_congr (joinCl_self a))⟩
    simp only [Act.put, List.setIfInBounds_toArray, List.set_cons_zero, List.set_cons_succ]
    refine rg_quiet rfl rfl rfl rfl ?_; intro K hK; go_big_quiet_op; go_big_quiet_on
    refine rg_val [] rfl rfl rfl (by kernel_rfl) (fun w1 hE hf => ?_) ?_
    · go_simp
      exact (same_c _ _ _ _ _ _ _ _ w1).mono fun e w' ⟨he, hw⟩ => ⟨_, he, rg_done hE hw (bool_congr ((sameCl_iff a a).2 rfl))⟩
    simp only [Act.put, List.setIfInBounds_toArray, List.set_cons_zero, List.set_cons_succ]
    refine rg_quiet rfl rfl rfl rfl ?_; intro K hK; go_big_quiet_op; go_big_quiet_on
    refine rg_quiet rfl rfl rfl rfl ?_; intro K hK; go_big_quiet_op; go_big_quiet_on
    refine rg_quiet rfl rfl rfl rfl ?_; intro K hK; go_big_quiet_op; go_big_quiet_on
    refine rg_quiet rfl rfl rfl rfl ?_; intro K hK; go_big_quiet_op; go_big_quiet_on
    refine rg_val [] rfl rfl rfl (by kernel_rfl) (fun w1 hE hf => ?_) ?_
    · go_simp
      exact (cmp_c _ _ _ _ _ _ _ _ w1).mono fun e w' ⟨he, hw⟩ => ⟨_, he, rg_done hE hw (int_congr P1.out)⟩
    simp only [Act.put, List.setIfInBounds_toArray, List.set_cons_zero, List.set_cons_succ]
    refine rg_quiet rfl rfl rfl rfl ?_; intro K hK; go_big_quiet_op; go_big_quiet_on
    refine rg_quiet rfl rfl rfl rfl ?_; intro K hK; go_big_quiet_op; go_big_quiet_on
    refine rg_quiet rfl rfl rfl rfl ?_; intro K hK; go_big_quiet_op; go_big_quiet_on
    refine rg_quiet rfl rfl rfl rfl ?_; intro K hK; go_big_quiet_op; go_big_quiet_on
    refine rg_quiet rfl rfl rfl rfl ?_; intro K hK; go_big_quiet_op; go_big_quiet_on
    refine rg_val [] rfl rfl rfl (by kernel_rfl) (fun w1 hE hf => ?_) ?_
    · go_simp
      exact (cmp_c _ _ _ _ _ _ _ _ w1).mono fun e w' ⟨he, hw⟩ => ⟨_, he, rg_done hE hw (int_congr P2.out)⟩
    simp only [Act.put, List.setIfInBounds_toArray, List.set_cons_zero, List.set_cons_succ]
    refine rg_quiet rfl rfl rfl rfl ?_; intro K hK; go_big_quiet_op; go_big_quiet_on
    refine rg_quiet rfl rfl rfl rfl ?_; intro K hK; go_big_quiet_op; go_big_quiet_on
    refine rg_quiet rfl rfl rfl rfl ?_; intro K hK; go_big_quiet_op; go_big_quiet_on
    refine rg_quiet rfl rfl rfl rfl ?_; intro K hK; go_big_quiet_op; go_big_quiet_on
    refine rg_quiet rfl rfl rfl rfl ?_; intro K hK; go_big_quiet_op; go_big_quiet_on
    refine rg_val [] rfl rfl rfl (by kernel_rfl) (fun w1 hE hf => ?_) ?_
    · go_simp
      exact (same_c _ _ _ _ _ _ _ _ w1).mono fun e w' ⟨he, hw⟩ => ⟨_, he, rg_done hE hw (bool_congr HA.out)⟩
    simp only [Act.put, List.setIfInBounds_toArray, List.set_cons_zero, List.set_cons_succ]
    refine rg_quiet rfl rfl rfl rfl ?_; intro K hK; go_big_quiet_op; go_big_quiet_on
    refine rg_quiet rfl rfl rfl rfl ?_; intro K hK; go_big_quiet_op; go_big_quiet_on
    refine rg_quiet rfl rfl rfl rfl ?_; intro K hK; go_big_quiet_op; go_big_quiet_on
    refine rg_val [] rfl rfl rfl (by kernel_rfl) (fun w1 hE hf => ?_) ?_
    · go_simp
      exact (same_c _ _ _ _ _ _ _ _ w1).mono fun e w' ⟨he, hw⟩ => ⟨_, he, rg_done hE hw (bool_congr HB.out)⟩
    simp only [Act.put, List.setIfInBounds_toArray, List.set_cons_zero, List.set_cons_succ]
    refine rg_quiet rfl rfl rfl rfl ?_; intro K hK; go_big_quiet_op; go_big_quiet_on
    refine rg_quiet rfl rfl rfl rfl ?_; intro K hK; go_big_quiet_op; go_big_quiet_on
    refine rg_quiet rfl rfl rfl rfl ?_; intro K hK; go_big_quiet_op; go_big_quiet_on
    refine rg_val [] rfl rfl rfl (by kernel_rfl) (fun w1 hE hf => ?_) ?_
    · go_simp
      exact (cawake_any w1).mono fun e w' ⟨he, hw⟩ => ⟨_, he, rg_done hE hw (rfl)⟩
    simp only [Act.put, List.setIfInBounds_toArray, List.set_cons_zero, List.set_cons_succ]
    refine rg_quiet rfl rfl rfl rfl ?_; intro K hK; go_big_quiet_op; go_big_quiet_on
    refine rg_quiet rfl rfl rfl rfl ?_; intro K hK; go_big_quiet_op; go_big_quiet_on
    refine rel_nil fun w3 hE3 _ => ?_
    replace hX := hX.trans hE3
    go_wp2
    go_ret
    exact ⟨rfl, hX⟩
  · have HA := Lib.hid hs
    clear hs HO
    refine wp_region_in 56 [(3, fun v _ => v = (.agg #[.string J.val, .bool J.dead, .int .i64 J.at_, .int .i64 J.fin])), (4, fun v _ => v = .bool true), (8, fun v _ => v = (.agg #[.string K.val, .bool K.dead, .int .i64 K.at_, .int .i64 K.fin])), (12, fun v _ => v = (.agg #[.string M.val, .bool M.dead, .int .i64 M.at_, .int .i64 M.fin])), (13, fun v _ => v = (.agg #[.string K.val, .bool K.dead, .int .i64 K.at_, .int .i64 K.fin])), (14, fun v _ => v = .bool true), (19, fun v _ => v = (.agg #[.string J.val, .bool J.dead, .int .i64 J.at_, .int .i64 J.fin])), (21, fun v _ => v = .bool true), (26, fun v _ => v = (.agg #[.string a.val, .bool a.dead, .int .i64 a.at_, .int .i64 a.fin])), (28, fun v _ => v = .bool true), (33, fun v _ => v = .int .i64 p1), (39, fun v _ => v = .int .i64 p2), (45, fun v _ => v = .bool true), (53, fun v _ => v = .bool true)] (fun w0 => Ext w w0 ∧ CellAt w0 w.heap.size a ∧ CellAt w0 (w.heap.size + 1) b ∧ CellAt w0 (w.heap.size + 1 + 1) c ∧ CellAt w0 w2.heap.size J) (by kernel_rfl) (by kernel_rfl) (by kernel_rfl) ⟨stays_eq _, stays_eq _, stays_eq _, stays_eq _, stays_eq _, stays_eq _, stays_eq _, stays_eq _, stays_eq _, stays_eq _, stays_eq _, stays_eq _, stays_eq _, stays_eq _, trivial⟩ ?_ ?_
    · exact ⟨hX.alloc _, hA.ext ((Ext.refl w2).alloc _), hB.ext ((Ext.refl w2).alloc _), hC.ext ((Ext.refl w2).alloc _), ⟨by simp, by simp, by simp, by simp⟩⟩
    clear hX hA hB hC
    rintro w0 ⟨hX, hA, hB, hC, hJ⟩
    have a0 := held hA.c0
    have a1 := held hA.c1
    have a2 := held hA.c2
    have a3 := held hA.c3
    have b0 := held hB.c0
    have b1 := held hB.c1
    have b2 := held hB.c2
    have b3 := held hB.c3
    have c0 := held hC.c0
    have c1 := held hC.c1
    have c2 := held hC.c2
    have c3 := held hC.c3
    have j0 := held hJ.c0
    have j1 := held hJ.c1
    have j2 := held hJ.c2
    have j3 := held hJ.c3
    clear hA hB hC hJ
    have g1 : decide (0 ≤ p1) = true := by simpa using hp1'
    have g2 : decide (0 ≤ p2) = true := by simpa using hp2'
    refine rg_quiet rfl rfl rfl rfl ?_; intro K hK; go_big_quiet_op; go_big_quiet_on
    refine rg_quiet rfl rfl rfl rfl ?_; intro K hK; go_big_quiet_op; go_big_quiet_on
    refine rg_quiet rfl rfl rfl rfl ?_; intro K hK; go_big_quiet_op; go_big_quiet_on
    refine rg_val [] rfl rfl rfl (by kernel_rfl) (fun w1 hE hf => ?_) ?_
    · go_simp
      exact (join_c _ _ _ _ _ _ _ _ w1).mono fun e w' ⟨he, hw⟩ => ⟨_, he, rg_done hE hw (agg_congr J1.out)⟩
    simp only [Act.put, List.setIfInBounds_toArray, List.set_cons_zero, List.set_cons_succ]
    refine rg_val [] rfl rfl rfl (by kernel_rfl) (fun w1 hE hf => ?_) ?_
    · go_simp
      exact (same_c _ _ _ _ _ _ _ _ w1).mono fun e w' ⟨he, hw⟩ => ⟨_, he, rg_done hE hw (bool_congr ((sameCl_iff J J).2 rfl))⟩
    simp only [Act.put, List.setIfInBounds_toArray, List.set_cons_zero, List.set_cons_succ]
    refine rg_quiet rfl rfl rfl rfl ?_; intro K hK; go_big_quiet_op; go_big_quiet_on
    refine rg_quiet rfl rfl rfl rfl ?_; intro K hK; go_big_quiet_op; go_big_quiet_on
    refine rg_quiet rfl rfl rfl rfl ?_; intro K hK; go_big_quiet_op; go_big_quiet_on
    refine rg_val [] rfl rfl rfl (by kernel_rfl) (fun w1 hE hf => ?_) ?_
    · go_simp
      exact (join_c _ _ _ _ _ _ _ _ w1).mono fun e w' ⟨he, hw⟩ => ⟨_, he, rg_done hE hw (agg_congr J3.out)⟩
    simp only [Act.put, List.setIfInBounds_toArray, List.set_cons_zero, List.set_cons_succ]
    refine rg_quiet rfl rfl rfl rfl ?_; intro K hK; go_big_quiet_op; go_big_quiet_on
    refine rg_quiet rfl rfl rfl rfl ?_; intro K hK; go_big_quiet_op; go_big_quiet_on
    refine rg_quiet rfl rfl rfl rfl ?_; intro K hK; go_big_quiet_op; go_big_quiet_on
    refine rg_val [] rfl rfl rfl (by kernel_rfl) (fun w1 hE hf => ?_) ?_
    · go_simp
      exact (join_c _ _ _ _ _ _ _ _ w1).mono fun e w' ⟨he, hw⟩ => ⟨_, he, rg_done hE hw (agg_congr J4.out)⟩
    simp only [Act.put, List.setIfInBounds_toArray, List.set_cons_zero, List.set_cons_succ]
    refine rg_val [] rfl rfl rfl (by kernel_rfl) (fun w1 hE hf => ?_) ?_
    · go_simp
      exact (join_c _ _ _ _ _ _ _ _ w1).mono fun e w' ⟨he, hw⟩ => ⟨_, he, rg_done hE hw (agg_congr J5.out)⟩
    simp only [Act.put, List.setIfInBounds_toArray, List.set_cons_zero, List.set_cons_succ]
    refine rg_val [] rfl rfl rfl (by kernel_rfl) (fun w1 hE hf => ?_) ?_
    · go_simp
      exact (same_c _ _ _ _ _ _ _ _ w1).mono fun e w' ⟨he, hw⟩ => ⟨_, he, rg_done hE hw (bool_congr ((sameCl_iff K K).2 rfl))⟩
    simp only [Act.put, List.setIfInBounds_toArray, List.set_cons_zero, List.set_cons_succ]
    refine rg_quiet rfl rfl rfl rfl ?_; intro K hK; go_big_quiet_op; go_big_quiet_on
    refine rg_quiet rfl rfl rfl rfl ?_; intro K hK; go_big_quiet_op; go_big_quiet_on
    refine rg_quiet rfl rfl rfl rfl ?_; intro K hK; go_big_quiet_op; go_big_quiet_on
    refine rg_quiet rfl rfl rfl rfl ?_; intro K hK; go_big_quiet_op; go_big_quiet_on
    refine rg_val [] rfl rfl rfl (by kernel_rfl) (fun w1 hE hf => ?_) ?_
    · go_simp
      exact (join_c _ _ _ _ _ _ _ _ w1).mono fun e w' ⟨he, hw⟩ => ⟨_, he, rg_done hE hw (agg_congr J6.out)⟩
    simp only [Act.put, List.setIfInBounds_toArray, List.set_cons_zero, List.set_cons_succ]
    refine rg_quiet rfl rfl rfl rfl ?_; intro K hK; go_big_quiet_op; go_big_quiet_on
    refine rg_val [] rfl rfl rfl (by kernel_rfl) (fun w1 hE hf => ?_) ?_
    · go_simp
      exact (same_c _ _ _ _ _ _ _ _ w1).mono fun e w' ⟨he, hw⟩ => ⟨_, he, rg_done hE hw (bool_congr ((sameCl_iff J J).2 rfl))⟩
    simp only [Act.put, List.setIfInBounds_toArray, List.set_cons_zero, List.set_cons_succ]
    refine rg_quiet rfl rfl rfl rfl ?_; intro K hK; go_big_quiet_op; go_big_quiet_on
    refine rg_quiet rfl rfl rfl rfl ?_; intro K hK; go_big_quiet_op; go_big_quiet_on
    refine rg_quiet rfl rfl rfl rfl ?_; intro K hK; go_big_quiet_op; go_big_quiet_on
    refine rg_quiet rfl rfl rfl rfl ?_; intro K hK; go_big_quiet_op; go_big_quiet_on
    refine rg_val [] rfl rfl rfl (by kernel_rfl) (fun w1 hE hf => ?_) ?_
    · go_simp
      exact (join_c _ _ _ _ _ _ _ _ w1).mono fun e w' ⟨he, hw⟩ => ⟨_, he, rg_done hE hw (agg_congr (joinCl_self a))⟩
    simp only [Act.put, List.setIfInBounds_toArray, List.set_cons_zero, List.set_cons_succ]
    refine rg_quiet rfl rfl rfl rfl ?_; intro K hK; go_big_quiet_op; go_big_quiet_on
    refine rg_val [] rfl rfl rfl (by kernel_rfl) (fun w1 hE hf => ?_) ?_
    · go_simp
      exact (same_c _ _ _ _ _ _ _ _ w1).mono fun e w' ⟨he, hw⟩ => ⟨_, he, rg_done hE hw (bool_congr ((sameCl_iff a a).2 rfl))⟩
    simp only [Act.put, List.setIfInBounds_toArray, List.set_cons_zero, List.set_cons_succ]
    refine rg_quiet rfl rfl rfl rfl ?_; intro K hK; go_big_quiet_op; go_big_quiet_on
    refine rg_quiet rfl rfl rfl rfl ?_; intro K hK; go_big_quiet_op; go_big_quiet_on
    refine rg_quiet rfl rfl rfl rfl ?_; intro K hK; go_big_quiet_op; go_big_quiet_on
    refine rg_quiet rfl rfl rfl rfl ?_; intro K hK; go_big_quiet_op; go_big_quiet_on
    refine rg_val [] rfl rfl rfl (by kernel_rfl) (fun w1 hE hf => ?_) ?_
    · go_simp
      exact (cmp_c _ _ _ _ _ _ _ _ w1).mono fun e w' ⟨he, hw⟩ => ⟨_, he, rg_done hE hw (int_congr P1.out)⟩
    simp only [Act.put, List.setIfInBounds_toArray, List.set_cons_zero, List.set_cons_succ]
    refine rg_quiet rfl rfl rfl rfl ?_; intro K hK; go_big_quiet_op; go_big_quiet_on
    refine rg_quiet rfl rfl rfl rfl ?_; intro K hK; go_big_quiet_op; go_big_quiet_on
    refine rg_quiet rfl rfl rfl rfl ?_; intro K hK; go_big_quiet_op; go_big_quiet_on
    refine rg_quiet rfl rfl rfl rfl ?_; intro K hK; go_big_quiet_op; go_big_quiet_on
    refine rg_quiet rfl rfl rfl rfl ?_; intro K hK; go_big_quiet_op; go_big_quiet_on
    refine rg_val [] rfl rfl rfl (by kernel_rfl) (fun w1 hE hf => ?_) ?_
    · go_simp
      exact (cmp_c _ _ _ _ _ _ _ _ w1).mono fun e w' ⟨he, hw⟩ => ⟨_, he, rg_done hE hw (int_congr P2.out)⟩
    simp only [Act.put, List.setIfInBounds_toArray, List.set_cons_zero, List.set_cons_succ]
    refine rg_quiet rfl rfl rfl rfl ?_; intro K hK; go_big_quiet_op; go_big_quiet_on
    refine rg_quiet rfl rfl rfl rfl ?_; intro K hK; go_big_quiet_op; go_big_quiet_on
    refine rg_quiet rfl rfl rfl rfl ?_; intro K hK; go_big_quiet_op; go_big_quiet_on
    refine rg_quiet rfl rfl rfl rfl ?_; intro K hK; go_big_quiet_op; go_big_quiet_on
    refine rg_quiet rfl rfl rfl rfl ?_; intro K hK; go_big_quiet_op; go_big_quiet_on
    refine rg_val [] rfl rfl rfl (by kernel_rfl) (fun w1 hE hf => ?_) ?_
    · go_simp
      exact (same_c _ _ _ _ _ _ _ _ w1).mono fun e w' ⟨he, hw⟩ => ⟨_, he, rg_done hE hw (bool_congr HA.out)⟩
    simp only [Act.put, List.setIfInBounds_toArray, List.set_cons_zero, List.set_cons_succ]
    refine rg_quiet rfl rfl rfl rfl ?_; intro K hK; go_big_quiet_op; go_big_quiet_on
    refine rel_skip rfl rfl ?_
    simp only [Act.put, List.setIfInBounds_toArray, List.set_cons_zero, List.set_cons_succ]
    refine rel_skip rfl rfl ?_
    simp only [Act.put, List.setIfInBounds_toArray, List.set_cons_zero, List.set_cons_succ]
    refine rel_skip rfl rfl ?_
    simp only [Act.put, List.setIfInBounds_toArray, List.set_cons_zero, List.set_cons_succ]
    refine rg_quiet rfl rfl rfl rfl ?_; intro K hK; go_big_quiet_op; go_big_quiet_on
    refine rg_quiet rfl rfl rfl rfl ?_; intro K hK; go_big_quiet_op; go_big_quiet_on
    refine rg_quiet rfl rfl rfl rfl ?_; intro K hK; go_big_quiet_op; go_big_quiet_on
    refine rg_val [] rfl rfl rfl (by kernel_rfl) (fun w1 hE hf => ?_) ?_
    · go_simp
      exact (cawake_any w1).mono fun e w' ⟨he, hw⟩ => ⟨_, he, rg_done hE hw (rfl)⟩
    simp only [Act.put, List.setIfInBounds_toArray, List.set_cons_zero, List.set_cons_succ]
    refine rg_quiet rfl rfl rfl rfl ?_; intro K hK; go_big_quiet_op; go_big_quiet_on
    refine rg_quiet rfl rfl rfl rfl ?_; intro K hK; go_big_quiet_op; go_big_quiet_on
    refine rel_nil fun w3 hE3 _ => ?_
    replace hX := hX.trans hE3
    go_wp2
    go_ret
    exact ⟨rfl, hX⟩

set_option maxHeartbeats 1000000 in
theorem law_cellJoins_big (a b c : Cl) (h3 : fewB [a, b, c] = false) (w : World) :
    Calls Try.prog 6 #[(.agg #[.string a.val, .bool a.dead, .int .i64 a.at_, .int .i64 a.fin]), (.agg #[.string b.val, .bool b.dead, .int .i64 b.at_, .int .i64 b.fin]), (.agg #[.string c.val, .bool c.dead, .int .i64 c.at_, .int .i64 c.fin])] w fun e w' => e = .returned (.bool true) ∧ Ext w w' := by
  go_enter Try.func6, Try.ntmps6
  go_wp2_with fail
  refine (few_any _ [a, b, c] _ (cls3 _ a b c _ _ (by simp)) (by simp)).mono ?_
  rw [h3]
  rintro e w1 ⟨rfl, rfl⟩
  go_wp2_with fail
  refine (cawake_any _).mono ?_
  rintro e w1 ⟨rfl, hE⟩
  go_wp2
  go_ret
  exact ⟨rfl, ((((Ext.refl w).alloc _).alloc _).alloc _).alloc _ |>.trans hE⟩

theorem walk_cellJoins (a b c : Cl) (w : World) :
    Calls Try.prog 6 #[(.agg #[.string a.val, .bool a.dead, .int .i64 a.at_, .int .i64 a.fin]), (.agg #[.string b.val, .bool b.dead, .int .i64 b.at_, .int .i64 b.fin]), (.agg #[.string c.val, .bool c.dead, .int .i64 c.at_, .int .i64 c.fin])] w fun e w' => e = .returned (.bool true) ∧ Ext w w' := by
  cases h : fewB [a, b, c]
  · exact law_cellJoins_big a b c h w
  · exact law_cellJoins a b c h w
end Go.Proofs.Ytiaoplehamjbkaa
