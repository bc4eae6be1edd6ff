/- The walks over the reference of cell, and over what the laws of cell ask beside. -/
import Derived.Test.YteamiiekpjoclaaP6
import Derived.Test.YteamiiekpjoclaaP5
set_option linter.unusedSimpArgs false
set_option linter.unusedVariables false
namespace Go.Proofs.Yteamiiekpjoclaa
open Go Go.RowKit
attribute [local go_sem] yields yUpon

set_option maxHeartbeats 400000 in
theorem rorder_any (x y : Int) (w : World) : Calls Try.prog 120 #[.int .i64 x, .int .i64 y] w fun e w' => e = .returned (.int .i64 (cmpI x y)) ∧ w = w' := by
  go_enter Try.func120, Try.ntmps120
  go_wp2
  all_goals
    go_ret
    refine ⟨ret_int ?_, rfl⟩
    go_light
    unfold cmpI
    split <;> (try split) <;> omega

set_option maxHeartbeats 400000 in
theorem rbit_any (b : Bool) (w : World) : Calls Try.prog 121 #[.bool b] w fun e w' => e = .returned (.int .i64 (bit b)) ∧ w = w' := by
  cases b
  all_goals
    go_enter Try.func121, Try.ntmps121
    go_wp2
    go_ret
    exact ⟨rfl, rfl⟩

theorem cmpB_less : ∀ (l m : List UInt8), cmpB l m = if less l m then -1 else if less m l then 1 else 0
  | [], [] => rfl
  | [], _ :: _ => rfl
  | _ :: _, [] => rfl
  | a :: l, b :: m => by
    have ih := cmpB_less l m
    unfold cmpB at *
    unfold Lib.compareBytes
    by_cases h1 : a < b
    · rw [if_pos h1, less_lt h1]; rfl
    · by_cases h2 : b < a
      · rw [if_neg h1, if_pos h2, less_gt h2, less_lt h2]; rfl
      · have : a = b := UInt8.le_antisymm (UInt8.not_lt.1 h2) (UInt8.not_lt.1 h1)
        subst this
        rw [if_neg h1, if_neg h1, less_same, less_same]
        exact ih

set_option maxHeartbeats 400000 in
theorem rtext_any (x y : ByteArray) (w : World) : Calls Try.prog 122 #[.string x, .string y] w fun e w' => e = .returned (.int .i64 (cmpB x.data.toList y.data.toList)) ∧ w = w' := by
  have h := cmpB_less x.toList y.toList
  rw [ByteArray.toList_eq, ByteArray.toList_eq] at h
  have H := Lib.hid h
  clear h
  rcases less_tri x.toList y.toList with h1 | h1 | h1
  · have h2 : Op.bytesLess x.toList y.toList = true := h1
    have E : Hid (cmpB x.data.toList y.data.toList = -1) := by rw [H.out, ← ByteArray.toList_eq, ← ByteArray.toList_eq, if_pos h1]; rfl
    clear h1 H
    go_enter Try.func122, Try.ntmps122
    go_wp2
    go_ret
    exact ⟨ret_int E.out.symm, rfl⟩
  · have h2 : Op.bytesLess x.toList y.toList = false := by rw [h1]; exact less_irrefl _
    have h3 : (x.toList == y.toList) = true := by simp [h1]
    have E : Hid (cmpB x.data.toList y.data.toList = 0) := by
      rw [H.out, ← ByteArray.toList_eq, ← ByteArray.toList_eq, h1, if_neg (by rw [less_irrefl]; simp), if_neg (by rw [less_irrefl]; simp)]; rfl
    clear h1 H
    go_enter Try.func122, Try.ntmps122
    go_wp2
    go_ret
    exact ⟨ret_int E.out.symm, rfl⟩
  · have h2 : Op.bytesLess x.toList y.toList = false := less_asymm h1
    have h3 : (x.toList == y.toList) = false := by have := less_ne h1; simp; exact fun h => this h.symm
    have E : Hid (cmpB x.data.toList y.data.toList = 1) := by
      rw [H.out, ← ByteArray.toList_eq, ← ByteArray.toList_eq, if_neg (by rw [show less x.toList y.toList = false from h2]; simp), if_pos h1]; rfl
    clear h1 H
    go_enter Try.func122, Try.ntmps122
    go_wp2
    go_ret
    exact ⟨ret_int E.out.symm, rfl⟩

set_option maxHeartbeats 400000 in
theorem r6check_any (v : ByteArray) (d : Bool) (a e : Int) (w : World) :
    Calls Try.prog 82 #[.agg #[.string v, .bool d, .int .i64 a, .int .i64 e]] w fun r w' =>
      r = .returned (.bool (checkC v d a e)) ∧ Ext w w' := by
  go_enter Try.func82, Try.ntmps82
  cases d
  all_goals
    go_wp2
  all_goals
    go_ret
    refine ⟨?_, (Ext.refl w).alloc _⟩
    refine ret_bool ?_
    go_light
    simp_all [checkC, stampB] <;> omega

/-- First of five that is not 0. -/
def or5 (x y z s t : Int) : Int := if x = 0 then (if y = 0 then (if z = 0 then (if s = 0 then t else s) else z) else y) else x
theorem or5_end (v : ByteArray) (d : Bool) (a e : Int) (v' : ByteArray) (d' : Bool) (a' e' : Int) (_ : True) :
    or5 (cmpI a a') (cmpI (bit d) (bit d')) (cmpB v.data.toList v'.data.toList) (cmpI (bit (e == 0)) (bit (e' == 0))) (cmpI e e') = cmpC v d a e v' d' a' e' := by
  unfold or5 cmpC or4
  have h : (if cmpI (bit (e == 0)) (bit (e' == 0)) = 0 then cmpI e e' else cmpI (bit (e == 0)) (bit (e' == 0))) = endC e e' := by
    unfold endC
    by_cases h1 : e = 0 <;> by_cases h2 : e' = 0 <;> simp [h1, h2, cmpI, bit]
  rw [h]

set_option maxRecDepth 100000 in
set_option maxHeartbeats 1000000 in
theorem rcmp_any (v : ByteArray) (d : Bool) (a e : Int) (v' : ByteArray) (d' : Bool) (a' e' : Int) (w : World) :
    Calls Try.prog 112 #[.agg #[.string v, .bool d, .int .i64 a, .int .i64 e], .agg #[.string v', .bool d', .int .i64 a', .int .i64 e']] w fun r w' =>
      r = .returned (.int .i64 (cmpC v d a e v' d' a' e')) ∧ Ext w w' := by
  go_enter Try.func112, Try.ntmps112
  go_wp2
  obtain ⟨q0, hq0⟩ : ∃ q, q = cmpI a a' := ⟨_, rfl⟩
  obtain ⟨q1, hq1⟩ : ∃ q, q = cmpI (bit d) (bit d') := ⟨_, rfl⟩
  obtain ⟨q2, hq2⟩ : ∃ q, q = cmpB v.data.toList v'.data.toList := ⟨_, rfl⟩
  obtain ⟨q3, hq3⟩ : ∃ q, q = cmpI (bit (e == 0)) (bit (e' == 0)) := ⟨_, rfl⟩
  obtain ⟨q4, hq4⟩ : ∃ q, q = cmpI e e' := ⟨_, rfl⟩
  have HQ : Hid (or5 q0 q1 q2 q3 q4 = cmpC v d a e v' d' a' e') := by rw [hq0, hq1, hq2, hq3, hq4]; exact or5_end v d a e v' d' a' e' trivial
  have H0 := Lib.hid hq0.symm
  have H1 := Lib.hid hq1.symm
  have H2 := Lib.hid hq2.symm
  have H3 := Lib.hid hq3.symm
  have H4 := Lib.hid hq4.symm
  clear hq0 hq1 hq2 hq3 hq4
  refine wp_region_in 33 [(4, fun v _ => v = .int .i64 q0), (7, fun v _ => v = .int .i64 (bit d)), (10, fun v _ => v = .int .i64 (bit d')), (11, fun v _ => v = .int .i64 q1), (16, fun v _ => v = .int .i64 q2), (20, fun v _ => v = .int .i64 (bit (e == 0))), (24, fun v _ => v = .int .i64 (bit (e' == 0))), (25, fun v _ => v = .int .i64 q3), (30, fun v _ => v = .int .i64 q4), (32, fun v w1 => VarIn w1 (w.heap.size + 2) v #[.int .i64 0, .int .i64 0, .int .i64 0, .int .i64 0, .int .i64 0] 159)] (fun w0 => Ext w w0 ∧ Params w w0 v d a e v' d' a' e' ∧ w.heap.size + 2 ≤ w0.heap.size) (by kernel_rfl) (by kernel_rfl) (by kernel_rfl) ⟨stays_eq _, stays_eq _, stays_eq _, stays_eq _, stays_eq _, stays_eq _, stays_eq _, stays_eq _, stays_eq _, stays_var _ _ _, trivial⟩ ?_ ?_
  · exact ⟨((Ext.refl w).alloc _).alloc _, Params.mk' _ _ _ _ _ _ _ _ _ _, by simp⟩
  rintro w0 ⟨hX, hP, hz⟩
  have k0 := held hP.c0
  have k1 := held hP.c1
  have k2 := held hP.c2
  have k3 := held hP.c3
  have j0 := held hP.b0
  have j1 := held hP.b1
  have j2 := held hP.b2
  have j3 := held hP.b3
  clear hP
  refine rg_quiet rfl rfl rfl rfl ?_; intro K hK; go_big_quiet_op; go_big_quiet_on
  refine rg_quiet rfl rfl rfl rfl ?_; intro K hK; go_big_quiet_op; go_big_quiet_on
  refine rg_quiet rfl rfl rfl rfl ?_; intro K hK; go_big_quiet_op; go_big_quiet_on
  refine rg_quiet rfl rfl rfl rfl ?_; intro K hK; go_big_quiet_op; go_big_quiet_on
  refine rg_callv (vals := #[.int .i64 a, .int .i64 a']) [] _ rfl rfl rfl rfl Try.func120 rfl (by kernel_rfl) rfl (by kernel_rfl) (fun w1 hE hf => ?_) ?_
  · exact (rorder_any _ _ w1).mono fun e w' ⟨he, hw⟩ => ⟨by rw [he, H0.out], hw ▸ Ext.refl w1⟩
  simp only [Act.put, List.setIfInBounds_toArray, List.set_cons_zero, List.set_cons_succ]
  refine rg_quiet rfl rfl rfl rfl ?_; intro K hK; go_big_quiet_op; go_big_quiet_on
  refine rg_quiet rfl rfl rfl rfl ?_; intro K hK; go_big_quiet_op; go_big_quiet_on
  refine rg_callv (vals := #[.bool d]) [] _ rfl rfl rfl rfl Try.func121 rfl (by kernel_rfl) rfl (by kernel_rfl) (fun w1 hE hf => ?_) ?_
  · exact (rbit_any _ w1).mono fun e w' ⟨he, hw⟩ => ⟨he, hw ▸ Ext.refl w1⟩
  simp only [Act.put, List.setIfInBounds_toArray, List.set_cons_zero, List.set_cons_succ]
  refine rg_quiet rfl rfl rfl rfl ?_; intro K hK; go_big_quiet_op; go_big_quiet_on
  refine rg_quiet rfl rfl rfl rfl ?_; intro K hK; go_big_quiet_op; go_big_quiet_on
  refine rg_callv (vals := #[.bool d']) [] _ rfl rfl rfl rfl Try.func121 rfl (by kernel_rfl) rfl (by kernel_rfl) (fun w1 hE hf => ?_) ?_
  · exact (rbit_any _ w1).mono fun e w' ⟨he, hw⟩ => ⟨he, hw ▸ Ext.refl w1⟩
  simp only [Act.put, List.setIfInBounds_toArray, List.set_cons_zero, List.set_cons_succ]
  refine rg_callv (vals := #[.int .i64 (bit d), .int .i64 (bit d')]) [] _ rfl rfl rfl rfl Try.func120 rfl (by kernel_rfl) rfl (by kernel_rfl) (fun w1 hE hf => ?_) ?_
  · exact (rorder_any _ _ w1).mono fun e w' ⟨he, hw⟩ => ⟨by rw [he, H1.out], hw ▸ Ext.refl w1⟩
  simp only [Act.put, List.setIfInBounds_toArray, List.set_cons_zero, List.set_cons_succ]
  refine rg_quiet rfl rfl rfl rfl ?_; intro K hK; go_big_quiet_op; go_big_quiet_on
  refine rg_quiet rfl rfl rfl rfl ?_; intro K hK; go_big_quiet_op; go_big_quiet_on
  refine rg_quiet rfl rfl rfl rfl ?_; intro K hK; go_big_quiet_op; go_big_quiet_on
  refine rg_quiet rfl rfl rfl rfl ?_; intro K hK; go_big_quiet_op; go_big_quiet_on
  refine rg_callv (vals := #[.string v, .string v']) [] _ rfl rfl rfl rfl Try.func122 rfl (by kernel_rfl) rfl (by kernel_rfl) (fun w1 hE hf => ?_) ?_
  · exact (rtext_any _ _ w1).mono fun e w' ⟨he, hw⟩ => ⟨by rw [he, H2.out], hw ▸ Ext.refl w1⟩
  simp only [Act.put, List.setIfInBounds_toArray, List.set_cons_zero, List.set_cons_succ]
  refine rg_quiet rfl rfl rfl rfl ?_; intro K hK; go_big_quiet_op; go_big_quiet_on
  refine rg_quiet rfl rfl rfl rfl ?_; intro K hK; go_big_quiet_op; go_big_quiet_on
  refine rg_quiet rfl rfl rfl rfl ?_; intro K hK; go_big_quiet_op; go_big_quiet_on
  refine rg_callv (vals := #[.bool (e == 0)]) [] _ rfl rfl rfl rfl Try.func121 rfl (by kernel_rfl) rfl (by kernel_rfl) (fun w1 hE hf => ?_) ?_
  · exact (rbit_any _ w1).mono fun e w' ⟨he, hw⟩ => ⟨he, hw ▸ Ext.refl w1⟩
  simp only [Act.put, List.setIfInBounds_toArray, List.set_cons_zero, List.set_cons_succ]
  refine rg_quiet rfl rfl rfl rfl ?_; intro K hK; go_big_quiet_op; go_big_quiet_on
  refine rg_quiet rfl rfl rfl rfl ?_; intro K hK; go_big_quiet_op; go_big_quiet_on
  refine rg_quiet rfl rfl rfl rfl ?_; intro K hK; go_big_quiet_op; go_big_quiet_on
  refine rg_callv (vals := #[.bool (e' == 0)]) [] _ rfl rfl rfl rfl Try.func121 rfl (by kernel_rfl) rfl (by kernel_rfl) (fun w1 hE hf => ?_) ?_
  · exact (rbit_any _ w1).mono fun e w' ⟨he, hw⟩ => ⟨he, hw ▸ Ext.refl w1⟩
  simp only [Act.put, List.setIfInBounds_toArray, List.set_cons_zero, List.set_cons_succ]
  refine rg_callv (vals := #[.int .i64 (bit (e == 0)), .int .i64 (bit (e' == 0))]) [] _ rfl rfl rfl rfl Try.func120 rfl (by kernel_rfl) rfl (by kernel_rfl) (fun w1 hE hf => ?_) ?_
  · exact (rorder_any _ _ w1).mono fun e w' ⟨he, hw⟩ => ⟨by rw [he, H3.out], hw ▸ Ext.refl w1⟩
  simp only [Act.put, List.setIfInBounds_toArray, List.set_cons_zero, List.set_cons_succ]
  refine rg_quiet rfl rfl rfl rfl ?_; intro K hK; go_big_quiet_op; go_big_quiet_on
  refine rg_quiet rfl rfl rfl rfl ?_; intro K hK; go_big_quiet_op; go_big_quiet_on
  refine rg_quiet rfl rfl rfl rfl ?_; intro K hK; go_big_quiet_op; go_big_quiet_on
  refine rg_quiet rfl rfl rfl rfl ?_; intro K hK; go_big_quiet_op; go_big_quiet_on
  refine rg_callv (vals := #[.int .i64 e, .int .i64 e']) [] _ rfl rfl rfl rfl Try.func120 rfl (by kernel_rfl) rfl (by kernel_rfl) (fun w1 hE hf => ?_) ?_
  · exact (rorder_any _ _ w1).mono fun e w' ⟨he, hw⟩ => ⟨by rw [he, H4.out], hw ▸ Ext.refl w1⟩
  simp only [Act.put, List.setIfInBounds_toArray, List.set_cons_zero, List.set_cons_succ]
  refine rg_quiet rfl rfl rfl rfl ?_; intro K hK; go_big_quiet_op; go_big_quiet_on
  refine rel_call [] _ rfl rfl rfl rfl (fun w1 hE hf => ?_) (fun x w1 hE hG hx => ?_)
  · go_simp
    exact ⟨hE.alloc _, (Ext.refl w1).alloc _, VarIn.made w1 _ _ _ (by have := hE.le; omega)⟩
  simp only [Act.put, List.setIfInBounds_toArray, List.set_cons_zero, List.set_cons_succ]
  clear hE hG w1 hx k0 k1 k2 k3 j0 j1 j2 j3
  refine rel_tail rfl rfl fun w1 hE hG => ?_
  obtain ⟨b, rfl, hb, hw1⟩ := (hG 32).2 rfl
  have c0 : w1.cell? ⟨b, 0, none⟩ = some (.int .i64 0) := by rw [var_cell hw1]; rfl
  have c1 : w1.cell? ⟨b, 1, none⟩ = some (.int .i64 0) := by rw [var_cell hw1]; rfl
  have c2 : w1.cell? ⟨b, 2, none⟩ = some (.int .i64 0) := by rw [var_cell hw1]; rfl
  have c3 : w1.cell? ⟨b, 3, none⟩ = some (.int .i64 0) := by rw [var_cell hw1]; rfl
  have c4 : w1.cell? ⟨b, 4, none⟩ = some (.int .i64 0) := by rw [var_cell hw1]; rfl
  have cf := var_free hw1
  replace hX := hX.trans hE
  have hb' : w.heap.size ≤ b := by omega
  have hY : ∀ x0 x1 x2 x3 x4 : Value, Ext w (((((w1.setCell ⟨b, 0, none⟩ x0).setCell ⟨b, 1, none⟩ x1).setCell ⟨b, 2, none⟩ x2).setCell ⟨b, 3, none⟩ x3).setCell ⟨b, 4, none⟩ x4) :=
    fun _ _ _ _ _ => ((((hX.setCell hb' _).setCell hb' _).setCell hb' _).setCell hb' _).setCell hb' _
  replace hY := hY (.int .i64 q0) (.int .i64 q1) (.int .i64 q2) (.int .i64 q3) (.int .i64 q4)
  clear hG hE hw1 hX hz H0 H1 H2 H3 H4
  unfold or5 at HQ
  by_cases h0 : q0 = 0
  · have g0 : ((q0 : Int) != 0) = false := by simpa using h0
    rw [if_pos h0] at HQ
    clear h0
    by_cases h1 : q1 = 0
    · have g1 : ((q1 : Int) != 0) = false := by simpa using h1
      rw [if_pos h1] at HQ
      clear h1
      by_cases h2 : q2 = 0
      · have g2 : ((q2 : Int) != 0) = false := by simpa using h2
        rw [if_pos h2] at HQ
        clear h2
        by_cases h3 : q3 = 0
        · have g3 : ((q3 : Int) != 0) = false := by simpa using h3
          rw [if_pos h3] at HQ
          clear h3
          by_cases h4 : q4 = 0
          · have g4 : ((q4 : Int) != 0) = false := by simpa using h4
            rw [h4] at HQ
            clear h4
            go_wp2
            refine wp_loop_rounds 6 ?_
            rw [rounds_succ]
            go_wp2
            rw [rounds_succ]
            go_wp2
            rw [rounds_succ]
            go_wp2
            rw [rounds_succ]
            go_wp2
            rw [rounds_succ]
            go_wp2
            rw [rounds_succ]
            go_wp2
            go_ret
            exact ⟨ret_int HQ.out, hY⟩
          · have g4 : ((q4 : Int) != 0) = true := by simpa using h4
            clear h4
            go_wp2
            refine wp_loop_rounds 5 ?_
            rw [rounds_succ]
            go_wp2
            rw [rounds_succ]
            go_wp2
            rw [rounds_succ]
            go_wp2
            rw [rounds_succ]
            go_wp2
            rw [rounds_succ]
            go_wp2
            go_ret
            exact ⟨ret_int HQ.out, hY⟩
        · have g3 : ((q3 : Int) != 0) = true := by simpa using h3
          rw [if_neg h3] at HQ
          clear h3
          go_wp2
          refine wp_loop_rounds 4 ?_
          rw [rounds_succ]
          go_wp2
          rw [rounds_succ]
          go_wp2
          rw [rounds_succ]
          go_wp2
          rw [rounds_succ]
          go_wp2
          go_ret
          exact ⟨ret_int HQ.out, hY⟩
      · have g2 : ((q2 : Int) != 0) = true := by simpa using h2
        rw [if_neg h2] at HQ
        clear h2
        go_wp2
        refine wp_loop_rounds 3 ?_
        rw [rounds_succ]
        go_wp2
        rw [rounds_succ]
        go_wp2
        rw [rounds_succ]
        go_wp2
        go_ret
        exact ⟨ret_int HQ.out, hY⟩
    · have g1 : ((q1 : Int) != 0) = true := by simpa using h1
      rw [if_neg h1] at HQ
      clear h1
      go_wp2
      refine wp_loop_rounds 2 ?_
      rw [rounds_succ]
      go_wp2
      rw [rounds_succ]
      go_wp2
      go_ret
      exact ⟨ret_int HQ.out, hY⟩
  · have g0 : ((q0 : Int) != 0) = true := by simpa using h0
    rw [if_neg h0] at HQ
    clear h0
    go_wp2
    refine wp_loop_rounds 1 ?_
    rw [rounds_succ]
    go_wp2
    go_ret
    exact ⟨ret_int HQ.out, hY⟩

set_option maxHeartbeats 400000 in
theorem rjoin_any (v : ByteArray) (d : Bool) (a e : Int) (v' : ByteArray) (d' : Bool) (a' e' : Int) (w : World) :
    Calls Try.prog 101 #[.agg #[.string v, .bool d, .int .i64 a, .int .i64 e], .agg #[.string v', .bool d', .int .i64 a', .int .i64 e']] w fun r w' =>
      r = .returned (if cmpC v d a e v' d' a' e' < 0 then .agg #[.string v', .bool d', .int .i64 a', .int .i64 e'] else .agg #[.string v, .bool d, .int .i64 a, .int .i64 e]) ∧ Ext w w' := by
  by_cases h : cmpC v d a e v' d' a' e' < 0
  · rw [if_pos h]
    go_enter Try.func101, Try.ntmps101
    go_wp2_with (go_at_call 112; go_must (refine (rcmp_any _ _ _ _ _ _ _ _ _).mono ?_); rintro r w1 ⟨rfl, hE⟩; obtain ⟨hc, hf⟩ := And.intro hE.cells hE.frozens)
    refine bodyPost_ret (v := .agg #[.string v', .bool d', .int .i64 a', .int .i64 e']) (by simp [results, Try.results101, go_sem, hc]) rfl ⟨rfl, ?_⟩
    have hX := ((((Ext.refl w).alloc _).alloc _).alloc _).trans hE
    exact (((hX.setCell (Nat.le_add_right _ 2) _).setCell (Nat.le_add_right _ 2) _).setCell (Nat.le_add_right _ 2) _).setCell (Nat.le_add_right _ 2) _
  · rw [if_neg h]
    go_enter Try.func101, Try.ntmps101
    go_wp2_with (go_at_call 112; go_must (refine (rcmp_any _ _ _ _ _ _ _ _ _).mono ?_); rintro r w1 ⟨rfl, hE⟩; obtain ⟨hc, hf⟩ := And.intro hE.cells hE.frozens)
    refine bodyPost_ret (v := .agg #[.string v, .bool d, .int .i64 a, .int .i64 e]) (by simp [results, Try.results101, go_sem, hc]) rfl ⟨rfl, ?_⟩
    have hX := ((((Ext.refl w).alloc _).alloc _).alloc _).trans hE
    exact (((hX.setCell (Nat.le_add_right _ 2) _).setCell (Nat.le_add_right _ 2) _).setCell (Nat.le_add_right _ 2) _).setCell (Nat.le_add_right _ 2) _

set_option maxHeartbeats 400000 in
theorem rsame_any (v : ByteArray) (d : Bool) (a e : Int) (v' : ByteArray) (d' : Bool) (a' e' : Int) (w : World) :
    Calls Try.prog 90 #[.agg #[.string v, .bool d, .int .i64 a, .int .i64 e], .agg #[.string v', .bool d', .int .i64 a', .int .i64 e']] w fun r w' =>
      r = .returned (.bool (sameC v d a e v' d' a' e')) ∧ Ext w w' := by
  go_enter Try.func90, Try.ntmps90
  go_wp2
  all_goals
    go_ret
    refine ⟨?_, ((Ext.refl w).alloc _).alloc _⟩
    refine ret_bool ?_
    simp [sameC, *]
end Go.Proofs.Yteamiiekpjoclaa

/- The reference's cell: is it seen? -/
namespace Go.Proofs.Yteamiiekpjoclaa
open Go Go.RowKit
attribute [local go_sem] yields yUpon
set_option maxHeartbeats 400000 in
theorem rseen_any (v : ByteArray) (d : Bool) (a e n : Int) (w : World) :
    Calls Try.prog 40 #[.agg #[.string v, .bool d, .int .i64 a, .int .i64 e], .int .i64 n] w fun r w' => r = .returned (.bool (seenB d a e n)) ∧ Ext w w' := by
  go_enter Try.func40, Try.ntmps40
  go_wp2
  all_goals
    go_ret
    refine ⟨?_, (Ext.refl w).alloc _⟩
    refine ret_bool ?_
    first
    | (simp [seenB, *]; done)
    | (have h0 : ¬ 0 < a := by omega
       simp [seenB, h0])
end Go.Proofs.Yteamiiekpjoclaa

/- The reference's rows: Cell, Gone. -/
namespace Go.Proofs.Yteamiiekpjoclaa
open Go Go.RowKit
attribute [local go_sem] yields yUpon ro8

set_option maxRecDepth 100000 in
set_option maxHeartbeats 1000000 in
theorem gone7_any (r : Ro) (v : Value) (part : Int) (w : World) :
    Calls Try.prog 69 #[(.agg #[.string r.key, .string r.live.val, .bool r.live.dead, .int .i64 r.live.at_, .int .i64 r.live.fin, .int .i64 r.gone, .int .i64 r.shade, v]), .int .i64 part] w fun e w' => e = .returned (.int .i64 (max r.gone part)) ∧ Ext w w' := by
  go_enter Try.func69, Try.ntmps69
  go_wp2
  all_goals
    go_ret
    exact ⟨ret_int (by omega), (Ext.refl w).alloc _⟩

set_option maxRecDepth 100000 in
set_option maxHeartbeats 1000000 in
theorem cell7_any (r : Ro) (v : Value) (name : ByteArray) (w : World) (hin : ColsIn w v r.cols) :
    Calls Try.prog 97 #[(.agg #[.string r.key, .string r.live.val, .bool r.live.dead, .int .i64 r.live.at_, .int .i64 r.live.fin, .int .i64 r.gone, .int .i64 r.shade, v]), .string name] w fun e w' => e = .returned (.agg #[.string (cellOf r.cols name).val, .bool (cellOf r.cols name).dead, .int .i64 (cellOf r.cols name).at_, .int .i64 (cellOf r.cols name).fin]) ∧ Ext w w' := by
  obtain ⟨a, c, rfl, hc, hcm, hcell⟩ := hin.get
  obtain ⟨l, hl⟩ : ∃ l, l = r.cols := ⟨_, rfl⟩
  rw [← hl] at hcell hc ⊢
  have HC := Lib.hid hcell
  clear hcell hin hl
  obtain ⟨a0, a1, hE0⟩ := boxes2 w (ro8 r (.slice a l.length c)) (cl4 zeroCl) 55 52
  go_enter Try.func97, Try.ntmps97
  go_wp2
  go_loopw [5] (fun i wr => ∃ k : Nat, k ≤ l.length ∧ i = .int .i64 k ∧ BoxAt wr w.heap.size (ro8 r (.slice a l.length c)) 55 ∧ BoxAt wr (w.heap.size + 1) (cl4 zeroCl) 52 ∧ Ext w wr ∧ Hid (cellOf l name = cellOf (l.drop k) name)) (fun i _ => l.length - (intOf i).toNat)
  case atStart => exact ⟨0, Nat.zero_le _, rfl, a0, a1, hE0, rfl⟩
  case round =>
    obtain ⟨k, hk, rfl, hro, hbox, hE, HX⟩ := hrel
    obtain ⟨x0, x1, x2, x3⟩ := hbox.cl
    have xf := hbox.free
    obtain ⟨y0, y1, y2, y3, y4, y5, y6, y7⟩ := hro.ro
    by_cases hlt : k < l.length
    · obtain ⟨b, o, rfl, hco⟩ := HC.out k hlt
      obtain ⟨M, hM⟩ : ∃ M, M = l[k] := ⟨_, rfl⟩
      rw [← hM] at hco
      have HD : Hid (l.drop k = M :: l.drop (k + 1)) := by rw [hM]; exact List.drop_eq_getElem_cons hlt
      clear hM
      replace hco := hco.ext hE
      obtain ⟨g0, g1, g2, g3, g4⟩ := hco
      cases hname : (M.name.toList == name.toList)
      · go_wp2_with fail
        go_roundw
        case rel =>
          refine ⟨k + 1, by omega, by go_num, hro, hbox, hE, ?_⟩
          show cellOf l name = _
          rw [HX.out, HD.out, cellOf, if_neg (by rw [hname]; decide)]
        case measure => simp [intOf] <;> omega
      · go_wp2_with fail
        have e1 : cellOf l name = M.cell := by rw [HX.out, HD.out, cellOf, if_pos hname]
        rw [e1]
        refine bodyPost_ret (v := (.agg #[.string M.cell.val, .bool M.cell.dead, .int .i64 M.cell.at_, .int .i64 M.cell.fin])) ?_ rfl ⟨rfl, hE.put4 (Nat.le_succ _)⟩
        generalize hW : World.setCell _ _ _ = w9
        have hb : BoxAt w9 (w.heap.size + 1) (cl4 M.cell) 52 := by rw [← hW]; exact hbox.put4 (d := M.cell)
        obtain ⟨z0, z1, z2, z3⟩ := hb.cl
        simp [results, Try.results97, go_sem, z0, z1, z2, z3]
    · have e1 : cellOf l name = zeroCl := by rw [HX.out, List.drop_eq_nil_of_le (by omega)]; rfl
      go_wp2_with fail
      rw [e1]
      refine bodyPost_ret (v := (.agg #[.string zeroCl.val, .bool zeroCl.dead, .int .i64 zeroCl.at_, .int .i64 zeroCl.fin])) ?_ rfl ⟨rfl, hE.put4 (Nat.le_succ _)⟩
      generalize hW : World.setCell _ _ _ = w9
      have hb : BoxAt w9 (w.heap.size + 1) (cl4 zeroCl) 52 := by rw [← hW]; exact hbox.put4 (d := zeroCl)
      obtain ⟨z0, z1, z2, z3⟩ := hb.cl
      simp [results, Try.results97, go_sem, z0, z1, z2, z3]
end Go.Proofs.Yteamiiekpjoclaa
