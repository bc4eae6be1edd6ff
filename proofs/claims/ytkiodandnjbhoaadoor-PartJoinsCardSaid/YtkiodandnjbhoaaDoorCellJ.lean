/- The walks over cell.Cmp, cell.Join. -/
import Derived.Test.YtkiodandnjbhoaaDoorBytes
import Derived.Test.YtkiodandnjbhoaaDoorShelfC
import Derived.Test.YtkiodandnjbhoaaDoorOrdLaws
import Derived.Test.YtkiodandnjbhoaaDoorCellOne
import Derived.Deep.Light
namespace Go.Proofs.YtkiodandnjbhoaaDoor
open Go Go.RowKit

def cmpI (x y : Int) : Int := if x < y then -1 else if x > y then 1 else 0
def bit (b : Bool) : Int := if b then 1 else 0
def or4 (x y z t : Int) : Int := if x = 0 then (if y = 0 then (if z = 0 then t else z) else y) else x
def endC (e e' : Int) : Int := if e = 0 ∨ e' = 0 then cmpI (bit (e == 0)) (bit (e' == 0)) else cmpI e e'
def cmpB (l m : List UInt8) : Int := Lib.compareBytes l m
/-- cell.Cmp. -/
def cmpC (v : ByteArray) (d : Bool) (a e : Int) (v' : ByteArray) (d' : Bool) (a' e' : Int) : Int := or4 (cmpI a a') (cmpI (bit d) (bit d')) (cmpB v.data.toList v'.data.toList) (endC e e')
def sameC (v : ByteArray) (d : Bool) (a e : Int) (v' : ByteArray) (d' : Bool) (a' e' : Int) : Bool := v.toList == v'.toList && d == d' && a == a' && e == e'

theorem cmpCompare_any (x y : Int) (w : World) : Calls Tryd.prog 101 #[.int .i64 x, .int .i64 y] w fun e w' => e = .returned (.int .i64 (cmpI x y)) ∧ w = w' :=
  (Tryd.cmp_Compare_int x y w).mono fun _ _ h => ⟨h.1, h.2.symm⟩
theorem strCompare_any (x y : ByteArray) (w : World) : Calls Tryd.prog 63 #[.string x, .string y] w fun e w' => e = .returned (.int .i64 (cmpB x.data.toList y.data.toList)) ∧ w = w' :=
  (Tryd.strings_Compare x y w).mono fun _ _ h => ⟨h.1, h.2.symm⟩

set_option maxHeartbeats 400000 in
theorem truth_any (b : Bool) (w : World) : Calls Tryd.prog 102 #[.bool b] w fun e w' => e = .returned (.int .i64 (bit b)) ∧ w = w' := by
  cases b
  all_goals
    go_enter Tryd.func102, Tryd.ntmps102
    go_wp2
    go_ret
    exact ⟨rfl, rfl⟩

/-- A slice of four ints. -/
def Ints (w : World) (v : Value) (l : List Int) : Prop := SliceIn w v l.length (l.map (Value.int .i64))

set_option maxHeartbeats 400000 in
theorem cmpOr_any (x y z t : Int) (v : Value) (w : World) (hv : SliceIn w v 4 [.int .i64 x, .int .i64 y, .int .i64 z, .int .i64 t]) :
    Calls Tryd.prog 103 #[v] w fun e w' => e = .returned (.int .i64 (or4 x y z t)) ∧ w = w' := by
  obtain ⟨a, c, rfl, hc, hcm, ha, hcell⟩ := hv
  obtain ⟨b, o, rfl, h0⟩ := hcell 0 _ rfl
  obtain ⟨b1, o1, e1, h1⟩ := hcell 1 _ rfl
  obtain ⟨b2, o2, e2, h2⟩ := hcell 2 _ rfl
  obtain ⟨b3, o3, e3, h3⟩ := hcell 3 _ rfl
  cases e1; cases e2; cases e3
  rw [Nat.add_zero] at h0
  clear hcell ha
  unfold or4
  by_cases hx : x = 0
  · subst hx
    rw [if_pos rfl]
    by_cases hy : y = 0
    · subst hy
      rw [if_pos rfl]
      by_cases hz : z = 0
      · subst hz
        rw [if_pos rfl]
        by_cases ht : t = 0
        · subst ht
          go_enter Tryd.func103, Tryd.ntmps103
          go_wp2
          refine wp_loop_rounds 5 ?_
          rw [rounds_succ]
          go_wp2
          rw [rounds_succ]
          go_wp2
          rw [rounds_succ]
          go_wp2
          rw [rounds_succ]
          go_wp2
          rw [rounds_succ]
          go_wp2
          go_ret
          exact ⟨rfl, rfl⟩
        · have ht' : ((t : Int) != 0) = true := by simpa using ht
          go_enter Tryd.func103, Tryd.ntmps103
          go_wp2
          refine wp_loop_rounds 4 ?_
          rw [rounds_succ]
          go_wp2
          rw [rounds_succ]
          go_wp2
          rw [rounds_succ]
          go_wp2
          rw [rounds_succ]
          go_wp2
          go_ret
          exact ⟨rfl, rfl⟩
      · have hz' : ((z : Int) != 0) = true := by simpa using hz
        rw [if_neg hz]
        go_enter Tryd.func103, Tryd.ntmps103
        go_wp2
        refine wp_loop_rounds 3 ?_
        rw [rounds_succ]
        go_wp2
        rw [rounds_succ]
        go_wp2
        rw [rounds_succ]
        go_wp2
        go_ret
        exact ⟨rfl, rfl⟩
    · have hy' : ((y : Int) != 0) = true := by simpa using hy
      rw [if_neg hy]
      go_enter Tryd.func103, Tryd.ntmps103
      go_wp2
      refine wp_loop_rounds 2 ?_
      rw [rounds_succ]
      go_wp2
      rw [rounds_succ]
      go_wp2
      go_ret
      exact ⟨rfl, rfl⟩
  · have hx' : ((x : Int) != 0) = true := by simpa using hx
    rw [if_neg hx]
    go_enter Tryd.func103, Tryd.ntmps103
    go_wp2
    refine wp_loop_rounds 1 ?_
    rw [rounds_succ]
    go_wp2
    go_ret
    exact ⟨rfl, rfl⟩

attribute [local go_sem] yields yUpon

/-- The two cells that came in, in the blocks that the call has laid for them. -/
structure Params (w w0 : World) (v : ByteArray) (d : Bool) (a e : Int) (v' : ByteArray) (d' : Bool) (a' e' : Int) : Prop where
  c0 : w0.cell? ⟨w.heap.size, 0, none⟩ = some (.string v)
  c1 : w0.cell? ⟨w.heap.size, 1, none⟩ = some (.bool d)
  c2 : w0.cell? ⟨w.heap.size, 2, none⟩ = some (.int .i64 a)
  c3 : w0.cell? ⟨w.heap.size, 3, none⟩ = some (.int .i64 e)
  b0 : w0.cell? ⟨w.heap.size + 1, 0, none⟩ = some (.string v')
  b1 : w0.cell? ⟨w.heap.size + 1, 1, none⟩ = some (.bool d')
  b2 : w0.cell? ⟨w.heap.size + 1, 2, none⟩ = some (.int .i64 a')
  b3 : w0.cell? ⟨w.heap.size + 1, 3, none⟩ = some (.int .i64 e')
theorem Params.mk' (w : World) (v : ByteArray) (d : Bool) (a e : Int) (v' : ByteArray) (d' : Bool) (a' e' : Int) (t : TypeId) :
    Params w ((w.alloc (.cells #[.string v, .bool d, .int .i64 a, .int .i64 e] t)).alloc (.cells #[.string v', .bool d', .int .i64 a', .int .i64 e'] t)) v d a e v' d' a' e' := by
  constructor <;> simp
theorem Params.ext {w w0 w1 : World} {v : ByteArray} {d : Bool} {a e : Int} {v' : ByteArray} {d' : Bool} {a' e' : Int} (h : Params w w0 v d a e v' d' a' e') (hE : Ext w0 w1) : Params w w1 v d a e v' d' a' e' :=
  ⟨hE.cell h.c0, hE.cell h.c1, hE.cell h.c2, hE.cell h.c3, hE.cell h.b0, hE.cell h.b1, hE.cell h.b2, hE.cell h.b3⟩

theorem endC_one {e e' : Int} (h : (e == 0) = true) : cmpI (bit true) (bit (e' == 0)) = endC e e' := by
  have : e = 0 := by simpa using h
  subst this
  simp [endC]
theorem endC_two {e e' : Int} (h : (e == 0) = false) (h' : (e' == 0) = true) : cmpI (bit false) (bit true) = endC e e' := by
  have h1 : e ≠ 0 := by simpa using h
  have : e' = 0 := by simpa using h'
  subst this
  simp [endC, h1, h]
theorem endC_three {e e' : Int} (h : (e == 0) = false) (h' : (e' == 0) = false) : cmpI e e' = endC e e' := by
  have h1 : e ≠ 0 := by simpa using h
  have h2 : e' ≠ 0 := by simpa using h'
  simp [endC, h1, h2]

set_option maxRecDepth 100000 in
set_option maxHeartbeats 1000000 in
theorem cmp_any (v : ByteArray) (d : Bool) (a e : Int) (v' : ByteArray) (d' : Bool) (a' e' : Int) (w : World) :
    Calls Tryd.prog 90 #[.agg #[.string v, .bool d, .int .i64 a, .int .i64 e], .agg #[.string v', .bool d', .int .i64 a', .int .i64 e']] w fun r w' =>
      r = .returned (.int .i64 (cmpC v d a e v' d' a' e')) ∧ Ext w w' := by
  go_enter Tryd.func90, Tryd.ntmps90
  rcases (show (e == 0) = true ∨ (e == 0) = false ∧ (e' == 0) = true ∨ (e == 0) = false ∧ (e' == 0) = false by cases e == 0 <;> cases e' == 0 <;> simp) with he | ⟨he, he'⟩ | ⟨he, he'⟩
  · have HE := Lib.hid (endC_one (e' := e') he)
    go_wp2_with (go_at_call 101; go_must (refine (cmpCompare_any _ _ _).mono ?_); rintro r w1 ⟨rfl, rfl⟩)
    refine wp_region_in 10 [(3, fun v _ => v = .int .i64 (bit true)), (7, fun v _ => v = .int .i64 (bit (e' == 0))), (8, fun v _ => v = .int .i64 (endC e e'))] (fun w0 => Ext w w0 ∧ Params w w0 v d a e v' d' a' e') (by kernel_rfl) (by kernel_rfl) (by kernel_rfl) ⟨stays_eq _, stays_eq _, stays_eq _, trivial⟩ ?_ ?_
    · exact ⟨((Ext.refl w).alloc _).alloc _, Params.mk' _ _ _ _ _ _ _ _ _ _⟩
    rintro w0 ⟨hX, hP⟩
    have k3 := held hP.c3
    have k3' := held hP.b3
    refine rg_quiet rfl rfl rfl rfl ?_; intro K hK; go_big_quiet_op; go_big_quiet_on
    refine rg_quiet rfl rfl rfl rfl ?_; intro K hK; go_big_quiet_op; go_big_quiet_on
    refine rg_quiet rfl rfl rfl rfl ?_; intro K hK; go_big_quiet_op; go_big_quiet_on
    refine rg_callv (vals := #[.bool true]) [] _ rfl rfl rfl rfl Tryd.func102 rfl (by kernel_rfl) rfl (by kernel_rfl) (fun w1 hE hf => ?_) ?_
    · exact (truth_any _ w1).mono fun e w' ⟨he, hw⟩ => ⟨he, hw ▸ Ext.refl w1⟩
    simp only [Act.put, List.setIfInBounds_toArray, List.set_cons_zero, List.set_cons_succ]
    refine rg_quiet rfl rfl rfl rfl ?_; intro K hK; go_big_quiet_op; go_big_quiet_on
    refine rg_quiet rfl rfl rfl rfl ?_; intro K hK; go_big_quiet_op; go_big_quiet_on
    refine rg_quiet rfl rfl rfl rfl ?_; intro K hK; go_big_quiet_op; go_big_quiet_on
    refine rg_callv (vals := #[.bool (e' == 0)]) [] _ rfl rfl rfl rfl Tryd.func102 rfl (by kernel_rfl) rfl (by kernel_rfl) (fun w1 hE hf => ?_) ?_
    · exact (truth_any _ w1).mono fun e w' ⟨he, hw⟩ => ⟨he, hw ▸ Ext.refl w1⟩
    simp only [Act.put, List.setIfInBounds_toArray, List.set_cons_zero, List.set_cons_succ]
    refine rg_callv (vals := #[.int .i64 (bit true), .int .i64 (bit (e' == 0))]) [] _ rfl rfl rfl rfl Tryd.func101 rfl (by kernel_rfl) rfl (by kernel_rfl) (fun w1 hE hf => ?_) ?_
    · exact (cmpCompare_any _ _ w1).mono fun e w' ⟨he, hw⟩ => ⟨by rw [he, HE.out], hw ▸ Ext.refl w1⟩
    simp only [Act.put, List.setIfInBounds_toArray, List.set_cons_zero, List.set_cons_succ]
    refine rg_quiet rfl rfl rfl rfl ?_; intro K hK; go_big_quiet_op; go_big_quiet_on
    refine rel_nil fun w2 hE2 _ => ?_
    replace hP := hP.ext hE2
    replace hX := hX.trans hE2
    clear k3 k3' hE2 he HE
    go_wp2_with fail
    obtain ⟨q0, hq0⟩ : ∃ q, q = cmpI a a' := ⟨_, rfl⟩
    obtain ⟨q1, hq1⟩ : ∃ q, q = cmpI (bit d) (bit d') := ⟨_, rfl⟩
    obtain ⟨q2, hq2⟩ : ∃ q, q = cmpB v.data.toList v'.data.toList := ⟨_, rfl⟩
    have HQ : Hid (or4 q0 q1 q2 (endC e e') = cmpC v d a e v' d' a' e') := by rw [hq0, hq1, hq2]; rfl
    have H0 := Lib.hid hq0.symm
    have H1 := Lib.hid hq1.symm
    have H2 := Lib.hid hq2.symm
    clear hq0 hq1 hq2
    refine wp_region_in 21 [(4, fun v _ => v = .int .i64 q0), (7, fun v _ => v = .int .i64 (bit d)), (10, fun v _ => v = .int .i64 (bit d')), (11, fun v _ => v = .int .i64 q1), (16, fun v _ => v = .int .i64 q2), (18, fun v w => SliceIn w v 4 [.int .i64 q0, .int .i64 q1, .int .i64 q2, .int .i64 (endC e e')]), (19, fun x _ => x = .int .i64 (or4 q0 q1 q2 (endC e e')))] (fun w0 => Ext w w0 ∧ Params w w0 v d a e v' d' a' e') (by kernel_rfl) (by kernel_rfl) (by kernel_rfl) ⟨stays_eq _, stays_eq _, stays_eq _, stays_eq _, stays_eq _, stays_slice _ _, stays_eq _, trivial⟩ ?_ ?_
    · exact ⟨hX, hP⟩
    clear hX hP
    rintro w0 ⟨hX, hP⟩
    have k0 := held hP.c0
    have k1 := held hP.c1
    have k2 := held hP.c2
    have j0 := held hP.b0
    have j1 := held hP.b1
    have j2 := held hP.b2
    clear hP
    refine rg_quiet rfl rfl rfl rfl ?_; intro K hK; go_big_quiet_op; go_big_quiet_on
    refine rg_quiet rfl rfl rfl rfl ?_; intro K hK; go_big_quiet_op; go_big_quiet_on
    refine rg_quiet rfl rfl rfl rfl ?_; intro K hK; go_big_quiet_op; go_big_quiet_on
    refine rg_quiet rfl rfl rfl rfl ?_; intro K hK; go_big_quiet_op; go_big_quiet_on
    refine rg_callv (vals := #[.int .i64 a, .int .i64 a']) [] _ rfl rfl rfl rfl Tryd.func101 rfl (by kernel_rfl) rfl (by kernel_rfl) (fun w1 hE hf => ?_) ?_
    · exact (cmpCompare_any _ _ w1).mono fun e w' ⟨he, hw⟩ => ⟨by rw [he, H0.out], hw ▸ Ext.refl w1⟩
    simp only [Act.put, List.setIfInBounds_toArray, List.set_cons_zero, List.set_cons_succ]
    refine rg_quiet rfl rfl rfl rfl ?_; intro K hK; go_big_quiet_op; go_big_quiet_on
    refine rg_quiet rfl rfl rfl rfl ?_; intro K hK; go_big_quiet_op; go_big_quiet_on
    refine rg_callv (vals := #[.bool d]) [] _ rfl rfl rfl rfl Tryd.func102 rfl (by kernel_rfl) rfl (by kernel_rfl) (fun w1 hE hf => ?_) ?_
    · exact (truth_any _ w1).mono fun e w' ⟨he, hw⟩ => ⟨he, hw ▸ Ext.refl w1⟩
    simp only [Act.put, List.setIfInBounds_toArray, List.set_cons_zero, List.set_cons_succ]
    refine rg_quiet rfl rfl rfl rfl ?_; intro K hK; go_big_quiet_op; go_big_quiet_on
    refine rg_quiet rfl rfl rfl rfl ?_; intro K hK; go_big_quiet_op; go_big_quiet_on
    refine rg_callv (vals := #[.bool d']) [] _ rfl rfl rfl rfl Tryd.func102 rfl (by kernel_rfl) rfl (by kernel_rfl) (fun w1 hE hf => ?_) ?_
    · exact (truth_any _ w1).mono fun e w' ⟨he, hw⟩ => ⟨he, hw ▸ Ext.refl w1⟩
    simp only [Act.put, List.setIfInBounds_toArray, List.set_cons_zero, List.set_cons_succ]
    refine rg_callv (vals := #[.int .i64 (bit d), .int .i64 (bit d')]) [] _ rfl rfl rfl rfl Tryd.func101 rfl (by kernel_rfl) rfl (by kernel_rfl) (fun w1 hE hf => ?_) ?_
    · exact (cmpCompare_any _ _ w1).mono fun e w' ⟨he, hw⟩ => ⟨by rw [he, H1.out], hw ▸ Ext.refl w1⟩
    simp only [Act.put, List.setIfInBounds_toArray, List.set_cons_zero, List.set_cons_succ]
    refine rg_quiet rfl rfl rfl rfl ?_; intro K hK; go_big_quiet_op; go_big_quiet_on
    refine rg_quiet rfl rfl rfl rfl ?_; intro K hK; go_big_quiet_op; go_big_quiet_on
    refine rg_quiet rfl rfl rfl rfl ?_; intro K hK; go_big_quiet_op; go_big_quiet_on
    refine rg_quiet rfl rfl rfl rfl ?_; intro K hK; go_big_quiet_op; go_big_quiet_on
    refine rg_callv (vals := #[.string v, .string v']) [] _ rfl rfl rfl rfl Tryd.func63 rfl (by kernel_rfl) rfl (by kernel_rfl) (fun w1 hE hf => ?_) ?_
    · exact (strCompare_any _ _ w1).mono fun e w' ⟨he, hw⟩ => ⟨by rw [he, H2.out], hw ▸ Ext.refl w1⟩
    simp only [Act.put, List.setIfInBounds_toArray, List.set_cons_zero, List.set_cons_succ]
    refine rg_quiet rfl rfl rfl rfl ?_; intro K hK; go_big_quiet_op; go_big_quiet_on
    refine rel_call [] _ rfl rfl rfl rfl (fun w1 hE hf => ?_) (fun x w1 hE hG hx => ?_)
    · go_simp
      exact ⟨hE.alloc _, (Ext.refl w1).alloc _, SliceIn.made w1 #[_, _, _, _] _ 4 (by unfold maxLen; omega)⟩
    simp only [Act.put, List.setIfInBounds_toArray, List.set_cons_zero, List.set_cons_succ]
    refine rg_callv (vals := #[x]) [18] _ rfl rfl rfl rfl Tryd.func103 rfl (by kernel_rfl) rfl (by kernel_rfl) (fun w1 hE hf => ?_) ?_
    · exact (cmpOr_any _ _ _ _ _ w1 ((hf 18 (by simp)).2 rfl)).mono fun e w' ⟨he, hw⟩ => ⟨he, hw ▸ Ext.refl w1⟩
    simp only [Act.put, List.setIfInBounds_toArray, List.set_cons_zero, List.set_cons_succ]
    refine rg_quiet rfl rfl rfl rfl ?_; intro K hK; go_big_quiet_op; go_big_quiet_on
    refine rel_nil fun w2 hE2 _ => ?_
    replace hX := hX.trans hE2
    go_wp2
    go_ret
    exact ⟨ret_int HQ.out, hX⟩
  · have HE := Lib.hid (endC_two he he')
    go_wp2_with (go_at_call 101; go_must (refine (cmpCompare_any _ _ _).mono ?_); rintro r w1 ⟨rfl, rfl⟩)
    refine wp_region_in 10 [(3, fun v _ => v = .int .i64 (bit false)), (7, fun v _ => v = .int .i64 (bit true)), (8, fun v _ => v = .int .i64 (endC e e'))] (fun w0 => Ext w w0 ∧ Params w w0 v d a e v' d' a' e') (by kernel_rfl) (by kernel_rfl) (by kernel_rfl) ⟨stays_eq _, stays_eq _, stays_eq _, trivial⟩ ?_ ?_
    · exact ⟨((Ext.refl w).alloc _).alloc _, Params.mk' _ _ _ _ _ _ _ _ _ _⟩
    rintro w0 ⟨hX, hP⟩
    have k3 := held hP.c3
    have k3' := held hP.b3
    refine rg_quiet rfl rfl rfl rfl ?_; intro K hK; go_big_quiet_op; go_big_quiet_on
    refine rg_quiet rfl rfl rfl rfl ?_; intro K hK; go_big_quiet_op; go_big_quiet_on
    refine rg_quiet rfl rfl rfl rfl ?_; intro K hK; go_big_quiet_op; go_big_quiet_on
    refine rg_callv (vals := #[.bool false]) [] _ rfl rfl rfl rfl Tryd.func102 rfl (by kernel_rfl) rfl (by kernel_rfl) (fun w1 hE hf => ?_) ?_
    · exact (truth_any _ w1).mono fun e w' ⟨he, hw⟩ => ⟨he, hw ▸ Ext.refl w1⟩
    simp only [Act.put, List.setIfInBounds_toArray, List.set_cons_zero, List.set_cons_succ]
    refine rg_quiet rfl rfl rfl rfl ?_; intro K hK; go_big_quiet_op; go_big_quiet_on
    refine rg_quiet rfl rfl rfl rfl ?_; intro K hK; go_big_quiet_op; go_big_quiet_on
    refine rg_quiet rfl rfl rfl rfl ?_; intro K hK; go_big_quiet_op; go_big_quiet_on
    refine rg_callv (vals := #[.bool true]) [] _ rfl rfl rfl rfl Tryd.func102 rfl (by kernel_rfl) rfl (by kernel_rfl) (fun w1 hE hf => ?_) ?_
    · exact (truth_any _ w1).mono fun e w' ⟨he, hw⟩ => ⟨he, hw ▸ Ext.refl w1⟩
    simp only [Act.put, List.setIfInBounds_toArray, List.set_cons_zero, List.set_cons_succ]
    refine rg_callv (vals := #[.int .i64 (bit false), .int .i64 (bit true)]) [] _ rfl rfl rfl rfl Tryd.func101 rfl (by kernel_rfl) rfl (by kernel_rfl) (fun w1 hE hf => ?_) ?_
    · exact (cmpCompare_any _ _ w1).mono fun e w' ⟨he, hw⟩ => ⟨by rw [he, HE.out], hw ▸ Ext.refl w1⟩
    simp only [Act.put, List.setIfInBounds_toArray, List.set_cons_zero, List.set_cons_succ]
    refine rg_quiet rfl rfl rfl rfl ?_; intro K hK; go_big_quiet_op; go_big_quiet_on
    refine rel_nil fun w2 hE2 _ => ?_
    replace hP := hP.ext hE2
    replace hX := hX.trans hE2
    clear k3 k3' hE2 he he' HE
    go_wp2_with fail
    obtain ⟨q0, hq0⟩ : ∃ q, q = cmpI a a' := ⟨_, rfl⟩
    obtain ⟨q1, hq1⟩ : ∃ q, q = cmpI (bit d) (bit d') := ⟨_, rfl⟩
    obtain ⟨q2, hq2⟩ : ∃ q, q = cmpB v.data.toList v'.data.toList := ⟨_, rfl⟩
    have HQ : Hid (or4 q0 q1 q2 (endC e e') = cmpC v d a e v' d' a' e') := by rw [hq0, hq1, hq2]; rfl
    have H0 := Lib.hid hq0.symm
    have H1 := Lib.hid hq1.symm
    have H2 := Lib.hid hq2.symm
    clear hq0 hq1 hq2
    refine wp_region_in 21 [(4, fun v _ => v = .int .i64 q0), (7, fun v _ => v = .int .i64 (bit d)), (10, fun v _ => v = .int .i64 (bit d')), (11, fun v _ => v = .int .i64 q1), (16, fun v _ => v = .int .i64 q2), (18, fun v w => SliceIn w v 4 [.int .i64 q0, .int .i64 q1, .int .i64 q2, .int .i64 (endC e e')]), (19, fun x _ => x = .int .i64 (or4 q0 q1 q2 (endC e e')))] (fun w0 => Ext w w0 ∧ Params w w0 v d a e v' d' a' e') (by kernel_rfl) (by kernel_rfl) (by kernel_rfl) ⟨stays_eq _, stays_eq _, stays_eq _, stays_eq _, stays_eq _, stays_slice _ _, stays_eq _, trivial⟩ ?_ ?_
    · exact ⟨hX, hP⟩
    clear hX hP
    rintro w0 ⟨hX, hP⟩
    have k0 := held hP.c0
    have k1 := held hP.c1
    have k2 := held hP.c2
    have j0 := held hP.b0
    have j1 := held hP.b1
    have j2 := held hP.b2
    clear hP
    refine rg_quiet rfl rfl rfl rfl ?_; intro K hK; go_big_quiet_op; go_big_quiet_on
    refine rg_quiet rfl rfl rfl rfl ?_; intro K hK; go_big_quiet_op; go_big_quiet_on
    refine rg_quiet rfl rfl rfl rfl ?_; intro K hK; go_big_quiet_op; go_big_quiet_on
    refine rg_quiet rfl rfl rfl rfl ?_; intro K hK; go_big_quiet_op; go_big_quiet_on
    refine rg_callv (vals := #[.int .i64 a, .int .i64 a']) [] _ rfl rfl rfl rfl Tryd.func101 rfl (by kernel_rfl) rfl (by kernel_rfl) (fun w1 hE hf => ?_) ?_
    · exact (cmpCompare_any _ _ w1).mono fun e w' ⟨he, hw⟩ => ⟨by rw [he, H0.out], hw ▸ Ext.refl w1⟩
    simp only [Act.put, List.setIfInBounds_toArray, List.set_cons_zero, List.set_cons_succ]
    refine rg_quiet rfl rfl rfl rfl ?_; intro K hK; go_big_quiet_op; go_big_quiet_on
    refine rg_quiet rfl rfl rfl rfl ?_; intro K hK; go_big_quiet_op; go_big_quiet_on
    refine rg_callv (vals := #[.bool d]) [] _ rfl rfl rfl rfl Tryd.func102 rfl (by kernel_rfl) rfl (by kernel_rfl) (fun w1 hE hf => ?_) ?_
    · exact (truth_any _ w1).mono fun e w' ⟨he, hw⟩ => ⟨he, hw ▸ Ext.refl w1⟩
    simp only [Act.put, List.setIfInBounds_toArray, List.set_cons_zero, List.set_cons_succ]
    refine rg_quiet rfl rfl rfl rfl ?_; intro K hK; go_big_quiet_op; go_big_quiet_on
    refine rg_quiet rfl rfl rfl rfl ?_; intro K hK; go_big_quiet_op; go_big_quiet_on
    refine rg_callv (vals := #[.bool d']) [] _ rfl rfl rfl rfl Tryd.func102 rfl (by kernel_rfl) rfl (by kernel_rfl) (fun w1 hE hf => ?_) ?_
    · exact (truth_any _ w1).mono fun e w' ⟨he, hw⟩ => ⟨he, hw ▸ Ext.refl w1⟩
    simp only [Act.put, List.setIfInBounds_toArray, List.set_cons_zero, List.set_cons_succ]
    refine rg_callv (vals := #[.int .i64 (bit d), .int .i64 (bit d')]) [] _ rfl rfl rfl rfl Tryd.func101 rfl (by kernel_rfl) rfl (by kernel_rfl) (fun w1 hE hf => ?_) ?_
    · exact (cmpCompare_any _ _ w1).mono fun e w' ⟨he, hw⟩ => ⟨by rw [he, H1.out], hw ▸ Ext.refl w1⟩
    simp only [Act.put, List.setIfInBounds_toArray, List.set_cons_zero, List.set_cons_succ]
    refine rg_quiet rfl rfl rfl rfl ?_; intro K hK; go_big_quiet_op; go_big_quiet_on
    refine rg_quiet rfl rfl rfl rfl ?_; intro K hK; go_big_quiet_op; go_big_quiet_on
    refine rg_quiet rfl rfl rfl rfl ?_; intro K hK; go_big_quiet_op; go_big_quiet_on
    refine rg_quiet rfl rfl rfl rfl ?_; intro K hK; go_big_quiet_op; go_big_quiet_on
    refine rg_callv (vals := #[.string v, .string v']) [] _ rfl rfl rfl rfl Tryd.func63 rfl (by kernel_rfl) rfl (by kernel_rfl) (fun w1 hE hf => ?_) ?_
    · exact (strCompare_any _ _ w1).mono fun e w' ⟨he, hw⟩ => ⟨by rw [he, H2.out], hw ▸ Ext.refl w1⟩
    simp only [Act.put, List.setIfInBounds_toArray, List.set_cons_zero, List.set_cons_succ]
    refine rg_quiet rfl rfl rfl rfl ?_; intro K hK; go_big_quiet_op; go_big_quiet_on
    refine rel_call [] _ rfl rfl rfl rfl (fun w1 hE hf => ?_) (fun x w1 hE hG hx => ?_)
    · go_simp
      exact ⟨hE.alloc _, (Ext.refl w1).alloc _, SliceIn.made w1 #[_, _, _, _] _ 4 (by unfold maxLen; omega)⟩
    simp only [Act.put, List.setIfInBounds_toArray, List.set_cons_zero, List.set_cons_succ]
    refine rg_callv (vals := #[x]) [18] _ rfl rfl rfl rfl Tryd.func103 rfl (by kernel_rfl) rfl (by kernel_rfl) (fun w1 hE hf => ?_) ?_
    · exact (cmpOr_any _ _ _ _ _ w1 ((hf 18 (by simp)).2 rfl)).mono fun e w' ⟨he, hw⟩ => ⟨he, hw ▸ Ext.refl w1⟩
    simp only [Act.put, List.setIfInBounds_toArray, List.set_cons_zero, List.set_cons_succ]
    refine rg_quiet rfl rfl rfl rfl ?_; intro K hK; go_big_quiet_op; go_big_quiet_on
    refine rel_nil fun w2 hE2 _ => ?_
    replace hX := hX.trans hE2
    go_wp2
    go_ret
    exact ⟨ret_int HQ.out, hX⟩
  · have HE := endC_three he he'
    go_wp2_with (go_at_call 101; go_must (refine (cmpCompare_any _ _ _).mono ?_); rintro r w1 ⟨rfl, rfl⟩)
    have hP : Params w _ v d a e v' d' a' e' := Params.mk' w v d a e v' d' a' e' 23
    have hX := ((Ext.refl w).alloc (.cells #[.string v, .bool d, .int .i64 a, .int .i64 e] 23)).alloc (.cells #[.string v', .bool d', .int .i64 a', .int .i64 e'] 23)
    clear he he' HE
    obtain ⟨q0, hq0⟩ : ∃ q, q = cmpI a a' := ⟨_, rfl⟩
    obtain ⟨q1, hq1⟩ : ∃ q, q = cmpI (bit d) (bit d') := ⟨_, rfl⟩
    obtain ⟨q2, hq2⟩ : ∃ q, q = cmpB v.data.toList v'.data.toList := ⟨_, rfl⟩
    have HQ : Hid (or4 q0 q1 q2 (endC e e') = cmpC v d a e v' d' a' e') := by rw [hq0, hq1, hq2]; rfl
    have H0 := Lib.hid hq0.symm
    have H1 := Lib.hid hq1.symm
    have H2 := Lib.hid hq2.symm
    clear hq0 hq1 hq2
    refine wp_region_in 21 [(4, fun v _ => v = .int .i64 q0), (7, fun v _ => v = .int .i64 (bit d)), (10, fun v _ => v = .int .i64 (bit d')), (11, fun v _ => v = .int .i64 q1), (16, fun v _ => v = .int .i64 q2), (18, fun v w => SliceIn w v 4 [.int .i64 q0, .int .i64 q1, .int .i64 q2, .int .i64 (endC e e')]), (19, fun x _ => x = .int .i64 (or4 q0 q1 q2 (endC e e')))] (fun w0 => Ext w w0 ∧ Params w w0 v d a e v' d' a' e') (by kernel_rfl) (by kernel_rfl) (by kernel_rfl) ⟨stays_eq _, stays_eq _, stays_eq _, stays_eq _, stays_eq _, stays_slice _ _, stays_eq _, trivial⟩ ?_ ?_
    · exact ⟨hX, hP⟩
    clear hX hP
    rintro w0 ⟨hX, hP⟩
    have k0 := held hP.c0
    have k1 := held hP.c1
    have k2 := held hP.c2
    have j0 := held hP.b0
    have j1 := held hP.b1
    have j2 := held hP.b2
    clear hP
    refine rg_quiet rfl rfl rfl rfl ?_; intro K hK; go_big_quiet_op; go_big_quiet_on
    refine rg_quiet rfl rfl rfl rfl ?_; intro K hK; go_big_quiet_op; go_big_quiet_on
    refine rg_quiet rfl rfl rfl rfl ?_; intro K hK; go_big_quiet_op; go_big_quiet_on
    refine rg_quiet rfl rfl rfl rfl ?_; intro K hK; go_big_quiet_op; go_big_quiet_on
    refine rg_callv (vals := #[.int .i64 a, .int .i64 a']) [] _ rfl rfl rfl rfl Tryd.func101 rfl (by kernel_rfl) rfl (by kernel_rfl) (fun w1 hE hf => ?_) ?_
    · exact (cmpCompare_any _ _ w1).mono fun e w' ⟨he, hw⟩ => ⟨by rw [he, H0.out], hw ▸ Ext.refl w1⟩
    simp only [Act.put, List.setIfInBounds_toArray, List.set_cons_zero, List.set_cons_succ]
    refine rg_quiet rfl rfl rfl rfl ?_; intro K hK; go_big_quiet_op; go_big_quiet_on
    refine rg_quiet rfl rfl rfl rfl ?_; intro K hK; go_big_quiet_op; go_big_quiet_on
    refine rg_callv (vals := #[.bool d]) [] _ rfl rfl rfl rfl Tryd.func102 rfl (by kernel_rfl) rfl (by kernel_rfl) (fun w1 hE hf => ?_) ?_
    · exact (truth_any _ w1).mono fun e w' ⟨he, hw⟩ => ⟨he, hw ▸ Ext.refl w1⟩
    simp only [Act.put, List.setIfInBounds_toArray, List.set_cons_zero, List.set_cons_succ]
    refine rg_quiet rfl rfl rfl rfl ?_; intro K hK; go_big_quiet_op; go_big_quiet_on
    refine rg_quiet rfl rfl rfl rfl ?_; intro K hK; go_big_quiet_op; go_big_quiet_on
    refine rg_callv (vals := #[.bool d']) [] _ rfl rfl rfl rfl Tryd.func102 rfl (by kernel_rfl) rfl (by kernel_rfl) (fun w1 hE hf => ?_) ?_
    · exact (truth_any _ w1).mono fun e w' ⟨he, hw⟩ => ⟨he, hw ▸ Ext.refl w1⟩
    simp only [Act.put, List.setIfInBounds_toArray, List.set_cons_zero, List.set_cons_succ]
    refine rg_callv (vals := #[.int .i64 (bit d), .int .i64 (bit d')]) [] _ rfl rfl rfl rfl Tryd.func101 rfl (by kernel_rfl) rfl (by kernel_rfl) (fun w1 hE hf => ?_) ?_
    · exact (cmpCompare_any _ _ w1).mono fun e w' ⟨he, hw⟩ => ⟨by rw [he, H1.out], hw ▸ Ext.refl w1⟩
    simp only [Act.put, List.setIfInBounds_toArray, List.set_cons_zero, List.set_cons_succ]
    refine rg_quiet rfl rfl rfl rfl ?_; intro K hK; go_big_quiet_op; go_big_quiet_on
    refine rg_quiet rfl rfl rfl rfl ?_; intro K hK; go_big_quiet_op; go_big_quiet_on
    refine rg_quiet rfl rfl rfl rfl ?_; intro K hK; go_big_quiet_op; go_big_quiet_on
    refine rg_quiet rfl rfl rfl rfl ?_; intro K hK; go_big_quiet_op; go_big_quiet_on
    refine rg_callv (vals := #[.string v, .string v']) [] _ rfl rfl rfl rfl Tryd.func63 rfl (by kernel_rfl) rfl (by kernel_rfl) (fun w1 hE hf => ?_) ?_
    · exact (strCompare_any _ _ w1).mono fun e w' ⟨he, hw⟩ => ⟨by rw [he, H2.out], hw ▸ Ext.refl w1⟩
    simp only [Act.put, List.setIfInBounds_toArray, List.set_cons_zero, List.set_cons_succ]
    refine rg_quiet rfl rfl rfl rfl ?_; intro K hK; go_big_quiet_op; go_big_quiet_on
    refine rel_call [] _ rfl rfl rfl rfl (fun w1 hE hf => ?_) (fun x w1 hE hG hx => ?_)
    · go_simp
      exact ⟨hE.alloc _, (Ext.refl w1).alloc _, SliceIn.made w1 #[_, _, _, _] _ 4 (by unfold maxLen; omega)⟩
    simp only [Act.put, List.setIfInBounds_toArray, List.set_cons_zero, List.set_cons_succ]
    refine rg_callv (vals := #[x]) [18] _ rfl rfl rfl rfl Tryd.func103 rfl (by kernel_rfl) rfl (by kernel_rfl) (fun w1 hE hf => ?_) ?_
    · exact (cmpOr_any _ _ _ _ _ w1 ((hf 18 (by simp)).2 rfl)).mono fun e w' ⟨he, hw⟩ => ⟨he, hw ▸ Ext.refl w1⟩
    simp only [Act.put, List.setIfInBounds_toArray, List.set_cons_zero, List.set_cons_succ]
    refine rg_quiet rfl rfl rfl rfl ?_; intro K hK; go_big_quiet_op; go_big_quiet_on
    refine rel_nil fun w2 hE2 _ => ?_
    replace hX := hX.trans hE2
    go_wp2
    go_ret
    exact ⟨ret_int HQ.out, hX⟩

set_option maxHeartbeats 400000 in
theorem join_any (v : ByteArray) (d : Bool) (a e : Int) (v' : ByteArray) (d' : Bool) (a' e' : Int) (w : World) :
    Calls Tryd.prog 65 #[.agg #[.string v, .bool d, .int .i64 a, .int .i64 e], .agg #[.string v', .bool d', .int .i64 a', .int .i64 e']] w fun r w' =>
      r = .returned (if cmpC v d a e v' d' a' e' < 0 then .agg #[.string v', .bool d', .int .i64 a', .int .i64 e'] else .agg #[.string v, .bool d, .int .i64 a, .int .i64 e]) ∧ Ext w w' := by
  by_cases h : cmpC v d a e v' d' a' e' < 0
  · rw [if_pos h]
    go_enter Tryd.func65, Tryd.ntmps65
    go_wp2_with (go_at_call 90; go_must (refine (cmp_any _ _ _ _ _ _ _ _ _).mono ?_); rintro r w1 ⟨rfl, hE⟩; obtain ⟨hc, hf⟩ := And.intro hE.cells hE.frozens)
    refine bodyPost_ret (v := .agg #[.string v', .bool d', .int .i64 a', .int .i64 e']) (by simp [results, Tryd.results65, go_sem, hc]) rfl ⟨rfl, ?_⟩
    have hX := ((((Ext.refl w).alloc _).alloc _).alloc _).trans hE
    exact (((hX.setCell (Nat.le_add_right _ 2) _).setCell (Nat.le_add_right _ 2) _).setCell (Nat.le_add_right _ 2) _).setCell (Nat.le_add_right _ 2) _
  · rw [if_neg h]
    go_enter Tryd.func65, Tryd.ntmps65
    go_wp2_with (go_at_call 90; go_must (refine (cmp_any _ _ _ _ _ _ _ _ _).mono ?_); rintro r w1 ⟨rfl, hE⟩; obtain ⟨hc, hf⟩ := And.intro hE.cells hE.frozens)
    refine bodyPost_ret (v := .agg #[.string v, .bool d, .int .i64 a, .int .i64 e]) (by simp [results, Tryd.results65, go_sem, hc]) rfl ⟨rfl, ?_⟩
    have hX := ((((Ext.refl w).alloc _).alloc _).alloc _).trans hE
    exact (((hX.setCell (Nat.le_add_right _ 2) _).setCell (Nat.le_add_right _ 2) _).setCell (Nat.le_add_right _ 2) _).setCell (Nat.le_add_right _ 2) _
end Go.Proofs.YtkiodandnjbhoaaDoor
