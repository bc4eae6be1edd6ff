/- CellEnds: a cell is seen until it ends: the law's walk. -/
import Derived.Test.YtiaoplehamjbkaaCellCl
import Derived.Test.YtiaoplehamjbkaaOrd
namespace Go.Proofs.Ytiaoplehamjbkaa
open Go Go.RowKit
attribute [local go_sem] yields yUpon

theorem jagg {x y : Cl} (h : x = y) : ((.agg #[.string x.val, .bool x.dead, .int .i64 x.at_, .int .i64 x.fin]) : Value) = (.agg #[.string y.val, .bool y.dead, .int .i64 y.at_, .int .i64 y.fin]) := by rw [h]
theorem cmpCl_neg {x y : Cl} (h : cmpCl x y < 0) : cmpCl x y = -1 := by
  have h : or4 _ _ _ _ < 0 := h
  show or4 _ _ _ _ = -1
  have h1 := cmpI_small x.at_ y.at_
  have h2 := cmpI_small (bit x.dead) (bit y.dead)
  have h3 := cmpB_small x.val.data.toList y.val.data.toList
  have h4 : -1 ≤ endC x.fin y.fin := by
    unfold endC
    split
    · exact (cmpI_small _ _).1
    · exact (cmpI_small _ _).1
  unfold or4 at *
  split at h
  · split at h
    · split at h <;> simp_all <;> omega
    · simp_all; omega
  · simp_all; omega

set_option maxRecDepth 100000 in
set_option maxHeartbeats 4000000 in
theorem law_cellEnds (vv : ByteArray) (a0 e0 t0 A E T : Int) (hv : vv.size ≤ 100) (hA : A = 1 + a0 % 1000) (hE0 : E = 1 + e0 % 1000) (hT : T = t0 % 1200)
    (S1 : Hid (seenB false A E T = decide (T < E)))
    (S2 : Hid (seenB false A 0 T = true))
    (S3 : Hid (seenB true A 0 T = false))
    (S4 : Hid (seenB false 0 0 T = false))
    (P1 : Hid (cmpCl ⟨vv, false, A, E⟩ ⟨vv, false, A, 0⟩ = -1))
    (P2 : Hid (cmpCl ⟨vv, false, A, 0⟩ ⟨⟨#[]⟩, true, A, 0⟩ = -1))
    (P3 : Hid (cmpCl ⟨vv, false, A, E⟩ ⟨vv, false, A, E + 1⟩ = -1))
    (J1 : Hid (joinCl ⟨vv, false, A, E⟩ ⟨vv, false, A, 0⟩ = ⟨vv, false, A, 0⟩))
    (M1 : Hid (sameCl ⟨vv, false, A, 0⟩ ⟨vv, false, A, 0⟩ = true))
    (J2 : Hid (joinCl ⟨vv, false, A, 0⟩ ⟨⟨#[]⟩, true, A, 0⟩ = ⟨⟨#[]⟩, true, A, 0⟩))
    (M2 : Hid (sameCl ⟨⟨#[]⟩, true, A, 0⟩ ⟨⟨#[]⟩, true, A, 0⟩ = true))
    (P4 : Hid (cmpCl ⟨⟨#[]⟩, true, A, 0⟩ ⟨⟨#[]⟩, false, A + 1, 1⟩ = -1))
    (w : World) :
    Calls Try.prog 8 #[.int .i64 a0, .int .i64 e0, .int .i64 t0, .string vv] w fun e w' => e = .returned (.bool true) ∧ Ext w w' := by
  have A1 : 1 ≤ A := by omega
  have A2 : A ≤ 1000 := by omega
  have E1 : 1 ≤ E := by omega
  have E2 : E ≤ 1000 := by omega
  have HA := Lib.hid hA
  have HE := Lib.hid hE0
  have HT := Lib.hid hT
  have hv' : decide ((100 : Int) < (vv.size : Int)) = false := by simp; omega
  clear hA hE0 hT hv
  go_enter Try.func8, Try.ntmps8
  go_wp2_with fail
  refine (place_any _ _ (by omega) (by omega) _).mono ?_
  rintro e w1 ⟨rfl, rfl⟩
  have n1 : IntKind.i64.wrap (1 + a0 % 1000) = A := by have := HA.out; rw [IntKind.wrap_i64]; omega
  go_wp2_with fail
  refine (place_any _ _ (by omega) (by omega) _).mono ?_
  rintro e w1 ⟨rfl, rfl⟩
  have n2 : IntKind.i64.wrap (1 + e0 % 1000) = E := by have := HE.out; rw [IntKind.wrap_i64]; omega
  go_wp2_with fail
  refine (place_any _ _ (by omega) (by omega) _).mono ?_
  rw [show t0 % 1200 = T from HT.out.symm]
  rintro e w1 ⟨rfl, rfl⟩
  go_wp2_with fail
  have n3 : IntKind.i64.wrap (A + 1) = A + 1 := by rw [IntKind.wrap_i64]; omega
  have n4 : IntKind.i64.wrap (E + 1) = E + 1 := by rw [IntKind.wrap_i64]; omega
  clear HA HE HT n1 n2
  refine wp_region_in 72 [(2, fun v _ => v = .bool (decide (T < E))), (10, fun v _ => v = .bool true), (15, fun v _ => v = .bool false), (21, fun v _ => v = .bool false), (27, fun v _ => v = .int .i64 (-1)), (33, fun v _ => v = .int .i64 (-1)), (43, fun v _ => v = .int .i64 (-1)), (49, fun v _ => v = .agg #[.string vv, .bool false, .int .i64 A, .int .i64 0]), (51, fun v _ => v = .bool true), (56, fun v _ => v = .agg #[.string ⟨#[]⟩, .bool true, .int .i64 A, .int .i64 0]), (58, fun v _ => v = .bool true), (65, fun v _ => v = .int .i64 (-1)), (69, fun v _ => v = .bool true)] (fun w0 => Ext w w0 ∧ CellAt w0 w.heap.size ⟨vv, false, A, E⟩ ∧ CellAt w0 (w.heap.size + 1) ⟨vv, false, A, 0⟩ ∧ CellAt w0 (w.heap.size + 1 + 1) ⟨⟨#[]⟩, true, A, 0⟩) (by kernel_rfl) (by kernel_rfl) (by kernel_rfl) ⟨stays_eq _, stays_eq _, stays_eq _, stays_eq _, stays_eq _, stays_eq _, stays_eq _, stays_eq _, stays_eq _, stays_eq _, stays_eq _, stays_eq _, stays_eq _, trivial⟩ ?_ ?_
  · exact ⟨((Ext.refl w).alloc _).alloc _ |>.alloc _, by constructor <;> simp [go_sem], by constructor <;> simp [go_sem], by constructor <;> simp [go_sem]⟩
  rintro w0 ⟨hX, hC, hD, hY⟩
  have c0 := held hC.c0
  have c1 := held hC.c1
  have c2 := held hC.c2
  have c3 := held hC.c3
  have d0 := held hD.c0
  have d1 := held hD.c1
  have d2 := held hD.c2
  have d3 := held hD.c3
  have y0 := held hY.c0
  have y1 := held hY.c1
  have y2 := held hY.c2
  have y3 := held hY.c3
  clear hC hD hY
  refine rg_quiet rfl rfl rfl rfl ?_; intro K hK; go_big_quiet_op; go_big_quiet_on
  refine rg_quiet rfl rfl rfl rfl ?_; intro K hK; go_big_quiet_op; go_big_quiet_on
  refine rg_val [] rfl rfl rfl (by kernel_rfl) (fun w1 hE hf => ?_) ?_
  · go_simp
    exact (seen_any _ _ _ _ _ w1).mono fun e w' ⟨he, hw⟩ => ⟨_, he, rg_done hE hw (bool_congr S1.out)⟩
  simp only [Act.put, List.setIfInBounds_toArray, List.set_cons_zero, List.set_cons_succ]
  refine rg_quiet rfl rfl rfl rfl ?_; intro K hK; go_big_quiet_op; go_big_quiet_on
  refine rg_quiet rfl rfl rfl rfl ?_; intro K hK; go_big_quiet_op; go_big_quiet_on
  refine rg_quiet rfl rfl rfl rfl ?_; intro K hK; go_big_quiet_op; go_big_quiet_on
  refine rg_quiet rfl rfl rfl rfl ?_; intro K hK; go_big_quiet_op; go_big_quiet_on
  refine rg_quiet rfl rfl rfl rfl ?_; intro K hK; go_big_quiet_op; go_big_quiet_on
  refine rg_quiet rfl rfl rfl rfl ?_; intro K hK; go_big_quiet_op; go_big_quiet_on
  refine rg_quiet rfl rfl rfl rfl ?_; intro K hK; go_big_quiet_op; go_big_quiet_on
  refine rg_val [] rfl rfl rfl (by kernel_rfl) (fun w1 hE hf => ?_) ?_
  · go_simp
    exact (seen_any _ _ _ _ _ w1).mono fun e w' ⟨he, hw⟩ => ⟨_, he, rg_done hE hw (bool_congr S2.out)⟩
  simp only [Act.put, List.setIfInBounds_toArray, List.set_cons_zero, List.set_cons_succ]
  refine rg_quiet rfl rfl rfl rfl ?_; intro K hK; go_big_quiet_op; go_big_quiet_on
  refine rg_quiet rfl rfl rfl rfl ?_; intro K hK; go_big_quiet_op; go_big_quiet_on
  refine rg_quiet rfl rfl rfl rfl ?_; intro K hK; go_big_quiet_op; go_big_quiet_on
  refine rg_quiet rfl rfl rfl rfl ?_; intro K hK; go_big_quiet_op; go_big_quiet_on
  refine rg_val [] rfl rfl rfl (by kernel_rfl) (fun w1 hE hf => ?_) ?_
  · go_simp
    exact (seen_any _ _ _ _ _ w1).mono fun e w' ⟨he, hw⟩ => ⟨_, he, rg_done hE hw (bool_congr S3.out)⟩
  simp only [Act.put, List.setIfInBounds_toArray, List.set_cons_zero, List.set_cons_succ]
  refine rg_quiet rfl rfl rfl rfl ?_; intro K hK; go_big_quiet_op; go_big_quiet_on
  refine rg_quiet rfl rfl rfl rfl ?_; intro K hK; go_big_quiet_op; go_big_quiet_on
  refine rg_quiet rfl rfl rfl rfl ?_; intro K hK; go_big_quiet_op; go_big_quiet_on
  refine rg_quiet rfl rfl rfl rfl ?_; intro K hK; go_big_quiet_op; go_big_quiet_on
  refine rg_quiet rfl rfl rfl rfl ?_; intro K hK; go_big_quiet_op; go_big_quiet_on
  refine rg_val [] rfl rfl rfl (by kernel_rfl) (fun w1 hE hf => ?_) ?_
  · go_simp
    exact (seen_any _ _ _ _ _ w1).mono fun e w' ⟨he, hw⟩ => ⟨_, he, rg_done hE hw (bool_congr S4.out)⟩
  simp only [Act.put, List.setIfInBounds_toArray, List.set_cons_zero, List.set_cons_succ]
  refine rg_quiet rfl rfl rfl rfl ?_; intro K hK; go_big_quiet_op; go_big_quiet_on
  refine rg_quiet rfl rfl rfl rfl ?_; intro K hK; go_big_quiet_op; go_big_quiet_on
  refine rg_quiet rfl rfl rfl rfl ?_; intro K hK; go_big_quiet_op; go_big_quiet_on
  refine rg_quiet rfl rfl rfl rfl ?_; intro K hK; go_big_quiet_op; go_big_quiet_on
  refine rg_quiet rfl rfl rfl rfl ?_; intro K hK; go_big_quiet_op; go_big_quiet_on
  refine rg_val [] rfl rfl rfl (by kernel_rfl) (fun w1 hE hf => ?_) ?_
  · go_simp
    exact (cmp_c _ _ _ _ _ _ _ _ w1).mono fun e w' ⟨he, hw⟩ => ⟨_, he, rg_done hE hw (int_congr P1.out)⟩
  simp only [Act.put, List.setIfInBounds_toArray, List.set_cons_zero, List.set_cons_succ]
  refine rg_quiet rfl rfl rfl rfl ?_; intro K hK; go_big_quiet_op; go_big_quiet_on
  refine rg_quiet rfl rfl rfl rfl ?_; intro K hK; go_big_quiet_op; go_big_quiet_on
  refine rg_quiet rfl rfl rfl rfl ?_; intro K hK; go_big_quiet_op; go_big_quiet_on
  refine rg_quiet rfl rfl rfl rfl ?_; intro K hK; go_big_quiet_op; go_big_quiet_on
  refine rg_quiet rfl rfl rfl rfl ?_; intro K hK; go_big_quiet_op; go_big_quiet_on
  refine rg_val [] rfl rfl rfl (by kernel_rfl) (fun w1 hE hf => ?_) ?_
  · go_simp
    exact (cmp_c _ _ _ _ _ _ _ _ w1).mono fun e w' ⟨he, hw⟩ => ⟨_, he, rg_done hE hw (int_congr P2.out)⟩
  simp only [Act.put, List.setIfInBounds_toArray, List.set_cons_zero, List.set_cons_succ]
  refine rg_quiet rfl rfl rfl rfl ?_; intro K hK; go_big_quiet_op; go_big_quiet_on
  refine rg_quiet rfl rfl rfl rfl ?_; intro K hK; go_big_quiet_op; go_big_quiet_on
  refine rg_quiet rfl rfl rfl rfl ?_; intro K hK; go_big_quiet_op; go_big_quiet_on
  refine rg_quiet rfl rfl rfl rfl ?_; intro K hK; go_big_quiet_op; go_big_quiet_on
  refine rg_quiet rfl rfl rfl rfl ?_; intro K hK; go_big_quiet_op; go_big_quiet_on
  refine rg_quiet rfl rfl rfl rfl ?_; intro K hK; go_big_quiet_op; go_big_quiet_on
  refine rg_quiet rfl rfl rfl rfl ?_; intro K hK; go_big_quiet_op; go_big_quiet_on
  refine rg_quiet rfl rfl rfl rfl ?_; intro K hK; go_big_quiet_op; go_big_quiet_on
  refine rg_quiet rfl rfl rfl rfl ?_; intro K hK; go_big_quiet_op; go_big_quiet_on
  refine rg_val [] rfl rfl rfl (by kernel_rfl) (fun w1 hE hf => ?_) ?_
  · go_simp
    exact (cmp_c _ _ _ _ _ _ _ _ w1).mono fun e w' ⟨he, hw⟩ => ⟨_, he, rg_done hE hw (int_congr P3.out)⟩
  simp only [Act.put, List.setIfInBounds_toArray, List.set_cons_zero, List.set_cons_succ]
  refine rg_quiet rfl rfl rfl rfl ?_; intro K hK; go_big_quiet_op; go_big_quiet_on
  refine rg_quiet rfl rfl rfl rfl ?_; intro K hK; go_big_quiet_op; go_big_quiet_on
  refine rg_quiet rfl rfl rfl rfl ?_; intro K hK; go_big_quiet_op; go_big_quiet_on
  refine rg_quiet rfl rfl rfl rfl ?_; intro K hK; go_big_quiet_op; go_big_quiet_on
  refine rg_quiet rfl rfl rfl rfl ?_; intro K hK; go_big_quiet_op; go_big_quiet_on
  refine rg_val [] rfl rfl rfl (by kernel_rfl) (fun w1 hE hf => ?_) ?_
  · go_simp
    exact (join_c _ _ _ _ _ _ _ _ w1).mono fun e w' ⟨he, hw⟩ => ⟨_, he, rg_done hE hw (jagg J1.out)⟩
  simp only [Act.put, List.setIfInBounds_toArray, List.set_cons_zero, List.set_cons_succ]
  refine rg_quiet rfl rfl rfl rfl ?_; intro K hK; go_big_quiet_op; go_big_quiet_on
  refine rg_val [] rfl rfl rfl (by kernel_rfl) (fun w1 hE hf => ?_) ?_
  · go_simp
    exact (same_c _ _ _ _ _ _ _ _ w1).mono fun e w' ⟨he, hw⟩ => ⟨_, he, rg_done hE hw (bool_congr M1.out)⟩
  simp only [Act.put, List.setIfInBounds_toArray, List.set_cons_zero, List.set_cons_succ]
  refine rg_quiet rfl rfl rfl rfl ?_; intro K hK; go_big_quiet_op; go_big_quiet_on
  refine rg_quiet rfl rfl rfl rfl ?_; intro K hK; go_big_quiet_op; go_big_quiet_on
  refine rg_quiet rfl rfl rfl rfl ?_; intro K hK; go_big_quiet_op; go_big_quiet_on
  refine rg_quiet rfl rfl rfl rfl ?_; intro K hK; go_big_quiet_op; go_big_quiet_on
  refine rg_val [] rfl rfl rfl (by kernel_rfl) (fun w1 hE hf => ?_) ?_
  · go_simp
    exact (join_c _ _ _ _ _ _ _ _ w1).mono fun e w' ⟨he, hw⟩ => ⟨_, he, rg_done hE hw (jagg J2.out)⟩
  simp only [Act.put, List.setIfInBounds_toArray, List.set_cons_zero, List.set_cons_succ]
  refine rg_quiet rfl rfl rfl rfl ?_; intro K hK; go_big_quiet_op; go_big_quiet_on
  refine rg_val [] rfl rfl rfl (by kernel_rfl) (fun w1 hE hf => ?_) ?_
  · go_simp
    exact (same_c _ _ _ _ _ _ _ _ w1).mono fun e w' ⟨he, hw⟩ => ⟨_, he, rg_done hE hw (bool_congr M2.out)⟩
  simp only [Act.put, List.setIfInBounds_toArray, List.set_cons_zero, List.set_cons_succ]
  refine rg_quiet rfl rfl rfl rfl ?_; intro K hK; go_big_quiet_op; go_big_quiet_on
  refine rg_quiet rfl rfl rfl rfl ?_; intro K hK; go_big_quiet_op; go_big_quiet_on
  refine rg_quiet rfl rfl rfl rfl ?_; intro K hK; go_big_quiet_op; go_big_quiet_on
  refine rg_quiet rfl rfl rfl rfl ?_; intro K hK; go_big_quiet_op; go_big_quiet_on
  refine rg_quiet rfl rfl rfl rfl ?_; intro K hK; go_big_quiet_op; go_big_quiet_on
  refine rg_quiet rfl rfl rfl rfl ?_; intro K hK; go_big_quiet_op; go_big_quiet_on
  refine rg_val [] rfl rfl rfl (by kernel_rfl) (fun w1 hE hf => ?_) ?_
  · go_simp
    exact (cmp_c _ _ _ _ _ _ _ _ w1).mono fun e w' ⟨he, hw⟩ => ⟨_, he, rg_done hE hw (int_congr P4.out)⟩
  simp only [Act.put, List.setIfInBounds_toArray, List.set_cons_zero, List.set_cons_succ]
  refine rg_quiet rfl rfl rfl rfl ?_; intro K hK; go_big_quiet_op; go_big_quiet_on
  refine rg_quiet rfl rfl rfl rfl ?_; intro K hK; go_big_quiet_op; go_big_quiet_on
  refine rg_quiet rfl rfl rfl rfl ?_; intro K hK; go_big_quiet_op; go_big_quiet_on
  refine rg_val [] rfl rfl rfl (by kernel_rfl) (fun w1 hE hf => ?_) ?_
  · go_simp
    exact (cawake_any w1).mono fun e w' ⟨he, hw⟩ => ⟨_, he, rg_done hE hw (rfl)⟩
  simp only [Act.put, List.setIfInBounds_toArray, List.set_cons_zero, List.set_cons_succ]
  refine rg_quiet rfl rfl rfl rfl ?_; intro K hK; go_big_quiet_op; go_big_quiet_on
  refine rg_quiet rfl rfl rfl rfl ?_; intro K hK; go_big_quiet_op; go_big_quiet_on
  refine rel_nil fun w3 hE3 _ => ?_
  replace hX := hX.trans hE3
  go_wp2
  go_ret
  exact ⟨rfl, hX⟩

theorem cmpCl_at {x y : Cl} (h : x.at_ < y.at_) : cmpCl x y = -1 := by
  unfold cmpCl cmpC or4
  rw [show cmpI x.at_ y.at_ = -1 by unfold cmpI; rw [if_pos h]]
  rfl
theorem cmpCl_dead (v v' : ByteArray) (A e e' : Int) : cmpCl ⟨v, false, A, e⟩ ⟨v', true, A, e'⟩ = -1 := by
  unfold cmpCl cmpC or4
  simp [cmpI_self, cmpI, bit]
theorem cmpCl_end (v : ByteArray) (d : Bool) (A e e' : Int) (h : endC e e' = -1) : cmpCl ⟨v, d, A, e⟩ ⟨v, d, A, e'⟩ = -1 := by
  unfold cmpCl cmpC or4
  simp [cmpI_self, cmpB_self, h]
theorem joinCl_neg {x y : Cl} (h : cmpCl x y = -1) : joinCl x y = y := by unfold joinCl; rw [h]; rfl

theorem law_cellEnds' (v : ByteArray) (a0 e0 t0 : Int) (hv : v.size ≤ 100) (w : World) :
    Calls Try.prog 8 #[.int .i64 a0, .int .i64 e0, .int .i64 t0, .string v] w fun e w' => e = .returned (.bool true) ∧ Ext w w' := by
  obtain ⟨A, hA⟩ : ∃ A, A = 1 + a0 % 1000 := ⟨_, rfl⟩
  obtain ⟨E, hE⟩ : ∃ A, A = 1 + e0 % 1000 := ⟨_, rfl⟩
  obtain ⟨T, hT⟩ : ∃ A, A = t0 % 1200 := ⟨_, rfl⟩
  have A1 : 1 ≤ A := by omega
  have E1 : 1 ≤ E := by omega
  have P1 : cmpCl ⟨v, false, A, E⟩ ⟨v, false, A, 0⟩ = -1 := cmpCl_end _ _ _ _ _ (by
    have h : ¬ E = 0 := by omega
    unfold endC
    simp [h, bit, cmpI])
  have P2 : cmpCl ⟨v, false, A, 0⟩ ⟨⟨#[]⟩, true, A, 0⟩ = -1 := cmpCl_dead _ _ _ _ _
  refine law_cellEnds v a0 e0 t0 A E T hv hA hE hT ?_ ?_ ?_ ?_ P1 P2 ?_ (joinCl_neg P1) ((sameCl_iff _ _).2 rfl) (joinCl_neg P2) ((sameCl_iff _ _).2 rfl) (cmpCl_at (by show A < A + 1; omega)) w
  · show seenB false A E T = decide (T < E)
    have h : ¬ E = 0 := by omega
    have h' : 0 < A := by omega
    unfold seenB
    simp [h, h']
  · show seenB false A 0 T = true
    have h' : 0 < A := by omega
    unfold seenB
    simp [h']
  · show seenB true A 0 T = false
    simp [seenB]
  · show seenB false 0 0 T = false
    simp [seenB]
  · refine cmpCl_end _ _ _ _ _ ?_
    have h : ¬ E = 0 := by omega
    have h2 : ¬ E + 1 = 0 := by omega
    unfold endC
    rw [if_neg (by omega)]
    unfold cmpI
    rw [if_pos (by omega)]

set_option maxHeartbeats 1000000 in
theorem law_cellEnds_big (v : ByteArray) (a0 e0 t0 : Int) (hv : 100 < v.size) (w : World) :
    Calls Try.prog 8 #[.int .i64 a0, .int .i64 e0, .int .i64 t0, .string v] w fun e w' => e = .returned (.bool true) ∧ Ext w w' := by
  have hv' : decide ((100 : Int) < (v.size : Int)) = true := by simp; omega
  clear hv
  go_enter Try.func8, Try.ntmps8
  go_wp2_with fail
  refine (cawake_any _).mono ?_
  rintro e w1 ⟨rfl, hE⟩
  go_wp2
  go_ret
  exact ⟨rfl, hE⟩

theorem walk_cellEnds (a0 e0 t0 : Int) (v : ByteArray) (_ : (Lit.int .i64 a0).wf = true) (_ : (Lit.int .i64 e0).wf = true) (_ : (Lit.int .i64 t0).wf = true) (_ : v.size ≤ maxLen) (w : World) :
    Calls Try.prog 8 #[.int .i64 a0, .int .i64 e0, .int .i64 t0, .string v] w fun e w' => e = .returned (.bool true) ∧ Ext w w' := by
  by_cases h : 100 < v.size
  · exact law_cellEnds_big v a0 e0 t0 h w
  · exact law_cellEnds' v a0 e0 t0 (by omega) w
end Go.Proofs.Ytiaoplehamjbkaa
