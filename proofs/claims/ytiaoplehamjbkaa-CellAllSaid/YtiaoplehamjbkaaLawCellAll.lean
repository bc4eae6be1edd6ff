/- CellAll: any cells, any time, as the document's answer has it: the law's walk. -/
import Derived.Test.YtiaoplehamjbkaaCellCl
namespace Go.Proofs.Ytiaoplehamjbkaa
open Go Go.RowKit
attribute [local go_sem] yields yUpon

set_option maxRecDepth 100000 in
set_option maxHeartbeats 1000000 in
theorem law_cellAll (a b : Cl) (now : Int) (h3 : fewB [a, b] = true) (w : World) :
    Calls Try.prog 9 #[(.agg #[.string a.val, .bool a.dead, .int .i64 a.at_, .int .i64 a.fin]), (.agg #[.string b.val, .bool b.dead, .int .i64 b.at_, .int .i64 b.fin]), .int .i64 now] w fun e w' => e = .returned (.bool true) ∧ Ext w w' := by
  obtain ⟨J, hJ⟩ : ∃ J, J = joinCl a b := ⟨_, rfl⟩
  obtain ⟨k, hk⟩ : ∃ k, k = checkC a.val a.dead a.at_ a.fin := ⟨_, rfl⟩
  obtain ⟨p, hp⟩ : ∃ p, p = cmpCl a b := ⟨_, rfl⟩
  obtain ⟨s, hs⟩ : ∃ s, s = seenB a.dead a.at_ a.fin now := ⟨_, rfl⟩
  obtain ⟨m, hm⟩ : ∃ m, m = sameCl a b := ⟨_, rfl⟩
  have HJ := Lib.hid hJ.symm
  have HK := Lib.hid hk.symm
  have HP := Lib.hid hp.symm
  have HS := Lib.hid hs.symm
  have HM := Lib.hid hm.symm
  clear hJ hk hp hs hm
  go_enter Try.func9, Try.ntmps9
  go_wp2_with fail
  refine (few_any _ [a, b] _ (cls2 _ a b _ _ (by simp)) (by simp)).mono ?_
  rw [h3]
  rintro e w1 ⟨rfl, rfl⟩
  go_wp2_with fail
  refine wp_region_in 45 [(2, fun v _ => v = (.agg #[.string J.val, .bool J.dead, .int .i64 J.at_, .int .i64 J.fin])), (5, fun v _ => v = (.agg #[.string J.val, .bool J.dead, .int .i64 J.at_, .int .i64 J.fin])), (6, fun v _ => v = .bool true), (9, fun v _ => v = .bool k), (11, fun v _ => v = .bool k), (17, fun v _ => v = .int .i64 p), (20, fun v _ => v = .int .i64 p), (26, fun v _ => v = .bool s), (29, fun v _ => v = .bool s), (35, fun v _ => v = .bool m), (38, fun v _ => v = .bool m), (42, fun v _ => v = .bool true)] (fun w0 => Ext w w0 ∧ CellAt w0 w.heap.size a ∧ CellAt w0 (w.heap.size + 1) b) (by kernel_rfl) (by kernel_rfl) (by kernel_rfl) ⟨stays_eq _, stays_eq _, stays_eq _, stays_eq _, stays_eq _, stays_eq _, stays_eq _, stays_eq _, stays_eq _, stays_eq _, stays_eq _, stays_eq _, trivial⟩ ?_ ?_
  · exact ⟨((Ext.refl w).alloc _).alloc _ |>.alloc _, by constructor <;> simp [go_sem], by constructor <;> simp [go_sem]⟩
  rintro w0 ⟨hX, hA, hB⟩
  have a0 := held hA.c0
  have a1 := held hA.c1
  have a2 := held hA.c2
  have a3 := held hA.c3
  have b0 := held hB.c0
  have b1 := held hB.c1
  have b2 := held hB.c2
  have b3 := held hB.c3
  clear hA hB
  refine rg_quiet rfl rfl rfl rfl ?_; intro K hK; go_big_quiet_op; go_big_quiet_on
  refine rg_quiet rfl rfl rfl rfl ?_; intro K hK; go_big_quiet_op; go_big_quiet_on
  refine rg_val [] rfl rfl rfl (by kernel_rfl) (fun w1 hE hf => ?_) ?_
  · go_simp
    exact (join_c _ _ _ _ _ _ _ _ w1).mono fun e w' ⟨he, hw⟩ => ⟨_, he, rg_done hE hw (agg_congr HJ.out)⟩
  simp only [Act.put, List.setIfInBounds_toArray, List.set_cons_zero, List.set_cons_succ]
  refine rg_quiet rfl rfl rfl rfl ?_; intro K hK; go_big_quiet_op; go_big_quiet_on
  refine rg_quiet rfl rfl rfl rfl ?_; intro K hK; go_big_quiet_op; go_big_quiet_on
  refine rg_val [] rfl rfl rfl (by kernel_rfl) (fun w1 hE hf => ?_) ?_
  · go_simp
    exact (rjoin_c _ _ _ _ _ _ _ _ w1).mono fun e w' ⟨he, hw⟩ => ⟨_, he, rg_done hE hw (agg_congr HJ.out)⟩
  simp only [Act.put, List.setIfInBounds_toArray, List.set_cons_zero, List.set_cons_succ]
  refine rg_val [] rfl rfl rfl (by kernel_rfl) (fun w1 hE hf => ?_) ?_
  · go_simp
    exact (rsame_c _ _ _ _ _ _ _ _ w1).mono fun e w' ⟨he, hw⟩ => ⟨_, he, rg_done hE hw (bool_congr ((sameCl_iff J J).2 rfl))⟩
  simp only [Act.put, List.setIfInBounds_toArray, List.set_cons_zero, List.set_cons_succ]
  refine rg_quiet rfl rfl rfl rfl ?_; intro K hK; go_big_quiet_op; go_big_quiet_on
  refine rg_quiet rfl rfl rfl rfl ?_; intro K hK; go_big_quiet_op; go_big_quiet_on
  refine rg_val [] rfl rfl rfl (by kernel_rfl) (fun w1 hE hf => ?_) ?_
  · go_simp
    exact (check_any _ _ _ _ w1).mono fun e w' ⟨he, hw⟩ => ⟨_, he, rg_done hE hw (bool_congr HK.out)⟩
  simp only [Act.put, List.setIfInBounds_toArray, List.set_cons_zero, List.set_cons_succ]
  refine rg_quiet rfl rfl rfl rfl ?_; intro K hK; go_big_quiet_op; go_big_quiet_on
  refine rg_val [] rfl rfl rfl (by kernel_rfl) (fun w1 hE hf => ?_) ?_
  · go_simp
    exact (rcheck_any _ _ _ _ w1).mono fun e w' ⟨he, hw⟩ => ⟨_, he, rg_done hE hw (bool_congr HK.out)⟩
  simp only [Act.put, List.setIfInBounds_toArray, List.set_cons_zero, List.set_cons_succ]
  refine rg_quiet rfl rfl rfl rfl ?_; intro K hK; go_big_quiet_op; go_big_quiet_on
  refine rg_quiet rfl rfl rfl rfl ?_; intro K hK; go_big_quiet_op; go_big_quiet_on
  refine rg_quiet rfl rfl rfl rfl ?_; intro K hK; go_big_quiet_op; go_big_quiet_on
  refine rg_quiet rfl rfl rfl rfl ?_; intro K hK; go_big_quiet_op; go_big_quiet_on
  refine rg_quiet rfl rfl rfl rfl ?_; intro K hK; go_big_quiet_op; go_big_quiet_on
  refine rg_val [] rfl rfl rfl (by kernel_rfl) (fun w1 hE hf => ?_) ?_
  · go_simp
    exact (cmp_c _ _ _ _ _ _ _ _ w1).mono fun e w' ⟨he, hw⟩ => ⟨_, he, rg_done hE hw (int_congr HP.out)⟩
  simp only [Act.put, List.setIfInBounds_toArray, List.set_cons_zero, List.set_cons_succ]
  refine rg_quiet rfl rfl rfl rfl ?_; intro K hK; go_big_quiet_op; go_big_quiet_on
  refine rg_quiet rfl rfl rfl rfl ?_; intro K hK; go_big_quiet_op; go_big_quiet_on
  refine rg_val [] rfl rfl rfl (by kernel_rfl) (fun w1 hE hf => ?_) ?_
  · go_simp
    exact (rcmp_c _ _ _ _ _ _ _ _ w1).mono fun e w' ⟨he, hw⟩ => ⟨_, he, rg_done hE hw (int_congr HP.out)⟩
  simp only [Act.put, List.setIfInBounds_toArray, List.set_cons_zero, List.set_cons_succ]
  refine rg_quiet rfl rfl rfl rfl ?_; intro K hK; go_big_quiet_op; go_big_quiet_on
  refine rg_quiet rfl rfl rfl rfl ?_; intro K hK; go_big_quiet_op; go_big_quiet_on
  refine rg_quiet rfl rfl rfl rfl ?_; intro K hK; go_big_quiet_op; go_big_quiet_on
  refine rg_quiet rfl rfl rfl rfl ?_; intro K hK; go_big_quiet_op; go_big_quiet_on
  refine rg_quiet rfl rfl rfl rfl ?_; intro K hK; go_big_quiet_op; go_big_quiet_on
  refine rg_val [] rfl rfl rfl (by kernel_rfl) (fun w1 hE hf => ?_) ?_
  · go_simp
    exact (seen_any _ _ _ _ _ w1).mono fun e w' ⟨he, hw⟩ => ⟨_, he, rg_done hE hw (bool_congr HS.out)⟩
  simp only [Act.put, List.setIfInBounds_toArray, List.set_cons_zero, List.set_cons_succ]
  refine rg_quiet rfl rfl rfl rfl ?_; intro K hK; go_big_quiet_op; go_big_quiet_on
  refine rg_quiet rfl rfl rfl rfl ?_; intro K hK; go_big_quiet_op; go_big_quiet_on
  refine rg_val [] rfl rfl rfl (by kernel_rfl) (fun w1 hE hf => ?_) ?_
  · go_simp
    exact (rseen_any _ _ _ _ _ w1).mono fun e w' ⟨he, hw⟩ => ⟨_, he, rg_done hE hw (bool_congr HS.out)⟩
  simp only [Act.put, List.setIfInBounds_toArray, List.set_cons_zero, List.set_cons_succ]
  refine rg_quiet rfl rfl rfl rfl ?_; intro K hK; go_big_quiet_op; go_big_quiet_on
  refine rg_quiet rfl rfl rfl rfl ?_; intro K hK; go_big_quiet_op; go_big_quiet_on
  refine rg_quiet rfl rfl rfl rfl ?_; intro K hK; go_big_quiet_op; go_big_quiet_on
  refine rg_quiet rfl rfl rfl rfl ?_; intro K hK; go_big_quiet_op; go_big_quiet_on
  refine rg_quiet rfl rfl rfl rfl ?_; intro K hK; go_big_quiet_op; go_big_quiet_on
  refine rg_val [] rfl rfl rfl (by kernel_rfl) (fun w1 hE hf => ?_) ?_
  · go_simp
    exact (same_c _ _ _ _ _ _ _ _ w1).mono fun e w' ⟨he, hw⟩ => ⟨_, he, rg_done hE hw (bool_congr HM.out)⟩
  simp only [Act.put, List.setIfInBounds_toArray, List.set_cons_zero, List.set_cons_succ]
  refine rg_quiet rfl rfl rfl rfl ?_; intro K hK; go_big_quiet_op; go_big_quiet_on
  refine rg_quiet rfl rfl rfl rfl ?_; intro K hK; go_big_quiet_op; go_big_quiet_on
  refine rg_val [] rfl rfl rfl (by kernel_rfl) (fun w1 hE hf => ?_) ?_
  · go_simp
    exact (rsame_c _ _ _ _ _ _ _ _ w1).mono fun e w' ⟨he, hw⟩ => ⟨_, he, rg_done hE hw (bool_congr HM.out)⟩
  simp only [Act.put, List.setIfInBounds_toArray, List.set_cons_zero, List.set_cons_succ]
  refine rg_quiet rfl rfl rfl rfl ?_; intro K hK; go_big_quiet_op; go_big_quiet_on
  refine rg_quiet rfl rfl rfl rfl ?_; intro K hK; go_big_quiet_op; go_big_quiet_on
  refine rg_quiet rfl rfl rfl rfl ?_; intro K hK; go_big_quiet_op; go_big_quiet_on
  refine rg_val [] rfl rfl rfl (by kernel_rfl) (fun w1 hE hf => ?_) ?_
  · go_simp
    exact (cawake_any w1).mono fun e w' ⟨he, hw⟩ => ⟨_, he, rg_done hE hw (rfl)⟩
  simp only [Act.put, List.setIfInBounds_toArray, List.set_cons_zero, List.set_cons_succ]
  refine rg_quiet rfl rfl rfl rfl ?_; intro K hK; go_big_quiet_op; go_big_quiet_on
  refine rg_quiet rfl rfl rfl rfl ?_; intro K hK; go_big_quiet_op; go_big_quiet_on
  refine rel_nil fun w3 hE3 _ => ?_
  replace hX := hX.trans hE3
  go_wp2
  go_ret
  exact ⟨rfl, hX⟩

set_option maxHeartbeats 1000000 in
theorem law_cellAll_big (a b : Cl) (now : Int) (h3 : fewB [a, b] = false) (w : World) :
    Calls Try.prog 9 #[(.agg #[.string a.val, .bool a.dead, .int .i64 a.at_, .int .i64 a.fin]), (.agg #[.string b.val, .bool b.dead, .int .i64 b.at_, .int .i64 b.fin]), .int .i64 now] w fun e w' => e = .returned (.bool true) ∧ Ext w w' := by
  go_enter Try.func9, Try.ntmps9
  go_wp2_with fail
  refine (few_any _ [a, b] _ (cls2 _ a b _ _ (by simp)) (by simp)).mono ?_
  rw [h3]
  rintro e w1 ⟨rfl, rfl⟩
  go_wp2_with fail
  refine (cawake_any _).mono ?_
  rintro e w1 ⟨rfl, hE⟩
  go_wp2
  go_ret
  exact ⟨rfl, (((Ext.refl w).alloc _).alloc _).alloc _ |>.trans hE⟩

theorem walk_cellAll (a b : Cl) (now : Int) (_ : (Lit.int .i64 now).wf = true) (w : World) :
    Calls Try.prog 9 #[(.agg #[.string a.val, .bool a.dead, .int .i64 a.at_, .int .i64 a.fin]), (.agg #[.string b.val, .bool b.dead, .int .i64 b.at_, .int .i64 b.fin]), .int .i64 now] w fun e w' => e = .returned (.bool true) ∧ Ext w w' := by
  cases h : fewB [a, b]
  · exact law_cellAll_big a b now h w
  · exact law_cellAll a b now h w
end Go.Proofs.Ytiaoplehamjbkaa
