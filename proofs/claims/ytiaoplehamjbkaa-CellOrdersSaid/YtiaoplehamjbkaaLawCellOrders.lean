/- CellOrders: the order of cells is one: the law's walk. -/
import Derived.Test.YtiaoplehamjbkaaCellCl
namespace Go.Proofs.Ytiaoplehamjbkaa
open Go Go.RowKit
attribute [local go_sem] yields yUpon

theorem endC_small (l m : Int) : -1 ≤ endC l m ∧ endC l m ≤ 1 := by unfold endC; split <;> (try split) <;> first | exact cmpI_small _ _ | (have := cmpI_small l m; omega)
theorem cmpCl_small (x y : Cl) : -1 ≤ cmpCl x y ∧ cmpCl x y ≤ 1 := by
  unfold cmpCl cmpC or4
  have h1 := cmpI_small x.at_ y.at_
  have h2 := cmpI_small (bit x.dead) (bit y.dead)
  have h3 := cmpB_small x.val.data.toList y.val.data.toList
  have h4 := endC_small x.fin y.fin
  split
  · split
    · split <;> omega
    · omega
  · omega

set_option maxRecDepth 100000 in
set_option maxHeartbeats 2000000 in
theorem law_cellOrders (a b c : Cl) (h3 : fewB [a, b, c] = true) (w : World) :
    Calls Try.prog 7 #[(.agg #[.string a.val, .bool a.dead, .int .i64 a.at_, .int .i64 a.fin]), (.agg #[.string b.val, .bool b.dead, .int .i64 b.at_, .int .i64 b.fin]), (.agg #[.string c.val, .bool c.dead, .int .i64 c.at_, .int .i64 c.fin])] w fun e w' => e = .returned (.bool true) ∧ Ext w w' := by
  obtain ⟨x, hx⟩ : ∃ x, x = cmpCl a b := ⟨_, rfl⟩
  obtain ⟨y, hy⟩ : ∃ x, x = cmpCl b c := ⟨_, rfl⟩
  obtain ⟨z, hz⟩ : ∃ x, x = cmpCl a c := ⟨_, rfl⟩
  have X1 : Hid (cmpCl a b = x) := hx.symm
  have X2 : Hid (cmpCl b c = y) := hy.symm
  have X3 : Hid (cmpCl a c = z) := hz.symm
  have X4 : Hid (cmpCl b a = -x) := by rw [hx]; exact cmpCl_anti a b
  have X5 : Hid (sameCl a b = decide (x = 0)) := by
    rw [hx]
    by_cases h : cmpCl a b = 0
    · rw [decide_eq_true h]; exact (sameCl_iff a b).2 (cmpCl_zero h)
    · rw [decide_eq_false h]
      cases hs : sameCl a b
      · rfl
      · rw [(sameCl_iff a b).1 hs, cmpCl_self] at h; exact absurd rfl h
  have Z1 : Hid (x ≤ 0 → y ≤ 0 → z ≤ 0) := by rw [hx, hy, hz]; exact fun h1 h2 => cmpCl_trans h1 h2
  have Z2 : Hid (0 ≤ x → 0 ≤ y → 0 ≤ z) := by
    rw [hx, hy, hz]
    intro h1 h2
    have h := cmpCl_trans (ge_le h2) (ge_le h1)
    have := cmpCl_anti a c
    omega
  have Y1 : Hid (-1 ≤ x ∧ x ≤ 1) := by rw [hx]; exact cmpCl_small a b
  have Y2 : Hid (-1 ≤ y ∧ y ≤ 1) := by rw [hy]; exact cmpCl_small b c
  clear hx hy hz
  go_enter Try.func7, Try.ntmps7
  go_wp2_with fail
  refine (few_any _ [a, b, c] _ (cls3 _ a b c _ _ (by simp)) (by simp)).mono ?_
  rw [h3]
  rintro e w1 ⟨rfl, rfl⟩
  go_wp2_with fail
  refine wp_region_in 12 [(2, fun v _ => v = .int .i64 x), (5, fun v _ => v = .int .i64 y), (8, fun v _ => v = .int .i64 z)] (fun w0 => Ext w w0 ∧ CellAt w0 w.heap.size a ∧ CellAt w0 (w.heap.size + 1) b ∧ CellAt w0 (w.heap.size + 1 + 1) c) (by kernel_rfl) (by kernel_rfl) (by kernel_rfl) ⟨stays_eq _, stays_eq _, stays_eq _, trivial⟩ ?_ ?_
  · exact ⟨(((Ext.refl w).alloc _).alloc _).alloc _ |>.alloc _, by constructor <;> simp [go_sem], by constructor <;> simp [go_sem], by constructor <;> simp [go_sem]⟩
  rintro w0 ⟨hX, hA, hB, hC⟩
  have a0 := held hA.c0
  have a1 := held hA.c1
  have a2 := held hA.c2
  have a3 := held hA.c3
  have b0 := held hB.c0
  have b1 := held hB.c1
  have b2 := held hB.c2
  have b3 := held hB.c3
  have c0 := held hC.c0
  have c1 := held hC.c1
  have c2 := held hC.c2
  have c3 := held hC.c3
  refine rg_quiet rfl rfl rfl rfl ?_; intro K hK; go_big_quiet_op; go_big_quiet_on
  refine rg_quiet rfl rfl rfl rfl ?_; intro K hK; go_big_quiet_op; go_big_quiet_on
  refine rg_val [] rfl rfl rfl (by kernel_rfl) (fun w1 hE hf => ?_) ?_
  · go_simp
    exact (cmp_c _ _ _ _ _ _ _ _ w1).mono fun e w' ⟨he, hw⟩ => ⟨_, he, rg_done hE hw (int_congr X1.out)⟩
  simp only [Act.put, List.setIfInBounds_toArray, List.set_cons_zero, List.set_cons_succ]
  refine rg_quiet rfl rfl rfl rfl ?_; intro K hK; go_big_quiet_op; go_big_quiet_on
  refine rg_quiet rfl rfl rfl rfl ?_; intro K hK; go_big_quiet_op; go_big_quiet_on
  refine rg_val [] rfl rfl rfl (by kernel_rfl) (fun w1 hE hf => ?_) ?_
  · go_simp
    exact (cmp_c _ _ _ _ _ _ _ _ w1).mono fun e w' ⟨he, hw⟩ => ⟨_, he, rg_done hE hw (int_congr X2.out)⟩
  simp only [Act.put, List.setIfInBounds_toArray, List.set_cons_zero, List.set_cons_succ]
  refine rg_quiet rfl rfl rfl rfl ?_; intro K hK; go_big_quiet_op; go_big_quiet_on
  refine rg_quiet rfl rfl rfl rfl ?_; intro K hK; go_big_quiet_op; go_big_quiet_on
  refine rg_val [] rfl rfl rfl (by kernel_rfl) (fun w1 hE hf => ?_) ?_
  · go_simp
    exact (cmp_c _ _ _ _ _ _ _ _ w1).mono fun e w' ⟨he, hw⟩ => ⟨_, he, rg_done hE hw (int_congr X3.out)⟩
  simp only [Act.put, List.setIfInBounds_toArray, List.set_cons_zero, List.set_cons_succ]
  refine rg_quiet rfl rfl rfl rfl ?_; intro K hK; go_big_quiet_op; go_big_quiet_on
  refine rg_quiet rfl rfl rfl rfl ?_; intro K hK; go_big_quiet_op; go_big_quiet_on
  refine rg_quiet rfl rfl rfl rfl ?_; intro K hK; go_big_quiet_op; go_big_quiet_on
  refine rel_nil fun w3 hE _ => ?_
  replace hA := hA.ext hE
  replace hB := hB.ext hE
  replace hC := hC.ext hE
  clear a0 a1 a2 a3 b0 b1 b2 b3 c0 c1 c2 c3
  have a0 := hA.c0
  have a1 := hA.c1
  have a2 := hA.c2
  have a3 := hA.c3
  have b0 := hB.c0
  have b1 := hB.c1
  have b2 := hB.c2
  have b3 := hB.c3
  have c0 := hC.c0
  have c1 := hC.c1
  have c2 := hC.c2
  have c3 := hC.c3
  replace hX := hX.trans hE
  clear hE
  have G1 : x ≤ 0 → y ≤ 0 → decide (0 < z) = false := fun h1 h2 => by have := Z1.out h1 h2; simp; omega
  have G2 : 0 ≤ x → 0 ≤ y → decide (z < 0) = false := fun h1 h2 => by have := Z2.out h1 h2; simp; omega
  clear Z1 Z2
  rcases (by have := Y1.out; omega : x = -1 ∨ x = 0 ∨ x = 1) with hx | hx | hx <;> rcases (by have := Y2.out; omega : y = -1 ∨ y = 0 ∨ y = 1) with hy | hy | hy <;> subst hx <;> subst hy
  all_goals
    clear Y1 Y2
    first | replace G1 := G1 (by decide) (by decide) | clear G1
    first | replace G2 := G2 (by decide) (by decide) | clear G2
    go_wp2_with fail
    refine (cmp_c _ _ _ _ _ _ _ _ _).mono ?_
    rw [show cmpCl ⟨b.val, b.dead, b.at_, b.fin⟩ ⟨a.val, a.dead, a.at_, a.fin⟩ = _ from X4.out]
    rintro e w4 ⟨rfl, hE⟩
    replace hA := hA.ext hE
    replace hB := hB.ext hE
    replace hC := hC.ext hE
    clear a0 a1 a2 a3 b0 b1 b2 b3 c0 c1 c2 c3
    have a0 := hA.c0
    have a1 := hA.c1
    have a2 := hA.c2
    have a3 := hA.c3
    have b0 := hB.c0
    have b1 := hB.c1
    have b2 := hB.c2
    have b3 := hB.c3
    have c0 := hC.c0
    have c1 := hC.c1
    have c2 := hC.c2
    have c3 := hC.c3
    replace hX := hX.trans hE
    clear hE
    go_wp2_with fail
    refine (same_c _ _ _ _ _ _ _ _ _).mono ?_
    rw [show sameCl ⟨a.val, a.dead, a.at_, a.fin⟩ ⟨b.val, b.dead, b.at_, b.fin⟩ = _ from X5.out]
    rintro e w5 ⟨rfl, hE⟩
    replace hA := hA.ext hE
    replace hB := hB.ext hE
    replace hC := hC.ext hE
    clear a0 a1 a2 a3 b0 b1 b2 b3 c0 c1 c2 c3
    have a0 := hA.c0
    have a1 := hA.c1
    have a2 := hA.c2
    have a3 := hA.c3
    have b0 := hB.c0
    have b1 := hB.c1
    have b2 := hB.c2
    have b3 := hB.c3
    have c0 := hC.c0
    have c1 := hC.c1
    have c2 := hC.c2
    have c3 := hC.c3
    replace hX := hX.trans hE
    clear hE
    go_wp2_with fail
    refine (cmp_c _ _ _ _ _ _ _ _ _).mono ?_
    rw [show cmpCl ⟨a.val, a.dead, a.at_, a.fin⟩ ⟨a.val, a.dead, a.at_, a.fin⟩ = _ from cmpCl_self a]
    rintro e w6 ⟨rfl, hE⟩
    replace hX := hX.trans hE
    clear hE
    go_wp2_with fail
    refine (cawake_any _).mono ?_
    rintro e w7 ⟨rfl, hE⟩
    go_wp2
    go_ret
    exact ⟨rfl, hX.trans hE⟩

set_option maxHeartbeats 1000000 in
theorem law_cellOrders_big (a b c : Cl) (h3 : fewB [a, b, c] = false) (w : World) :
    Calls Try.prog 7 #[(.agg #[.string a.val, .bool a.dead, .int .i64 a.at_, .int .i64 a.fin]), (.agg #[.string b.val, .bool b.dead, .int .i64 b.at_, .int .i64 b.fin]), (.agg #[.string c.val, .bool c.dead, .int .i64 c.at_, .int .i64 c.fin])] w fun e w' => e = .returned (.bool true) ∧ Ext w w' := by
  go_enter Try.func7, Try.ntmps7
  go_wp2_with fail
  refine (few_any _ [a, b, c] _ (cls3 _ a b c _ _ (by simp)) (by simp)).mono ?_
  rw [h3]
  rintro e w1 ⟨rfl, rfl⟩
  go_wp2_with fail
  refine (cawake_any _).mono ?_
  rintro e w1 ⟨rfl, hE⟩
  go_wp2
  go_ret
  exact ⟨rfl, ((((Ext.refl w).alloc _).alloc _).alloc _).alloc _ |>.trans hE⟩

theorem walk_cellOrders (a b c : Cl) (w : World) :
    Calls Try.prog 7 #[(.agg #[.string a.val, .bool a.dead, .int .i64 a.at_, .int .i64 a.fin]), (.agg #[.string b.val, .bool b.dead, .int .i64 b.at_, .int .i64 b.fin]), (.agg #[.string c.val, .bool c.dead, .int .i64 c.at_, .int .i64 c.fin])] w fun e w' => e = .returned (.bool true) ∧ Ext w w' := by
  cases h : fewB [a, b, c]
  · exact law_cellOrders_big a b c h w
  · exact law_cellOrders a b c h w
end Go.Proofs.Ytiaoplehamjbkaa
