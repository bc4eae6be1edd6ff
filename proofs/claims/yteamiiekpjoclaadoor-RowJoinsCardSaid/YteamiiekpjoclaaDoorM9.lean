/- The walks over cell.Cmp, cell.Join. -/
import Derived.Test.YteamiiekpjoclaaDoorM8
import Derived.Test.YteamiiekpjoclaaDoorM1
import Derived.Deep.Light
namespace Go.Proofs.YteamiiekpjoclaaDoor
open Go Go.RowKit

def cmpI (x y : Int) : Int := if x < y then -1 else if x > y then 1 else 0
def bit (b : Bool) : Int := if b then 1 else 0
def or4 (x y z t : Int) : Int := if x = 0 then (if y = 0 then (if z = 0 then t else z) else y) else x
def endC (e e' : Int) : Int := if e = 0 ∨ e' = 0 then cmpI (bit (e == 0)) (bit (e' == 0)) else cmpI e e'
def cmpB (l m : List UInt8) : Int := Lib.compareBytes l m
/-- cell.Cmp. -/
def cmpC (v : ByteArray) (d : Bool) (a e : Int) (v' : ByteArray) (d' : Bool) (a' e' : Int) : Int := or4 (cmpI a a') (cmpI (bit d) (bit d')) (cmpB v.data.toList v'.data.toList) (endC e e')
def sameC (v : ByteArray) (d : Bool) (a e : Int) (v' : ByteArray) (d' : Bool) (a' e' : Int) : Bool := v.toList == v'.toList && d == d' && a == a' && e == e'

theorem cmpCompare_any (x y : Int) (w : World) : Calls Tryd.prog 97 #[.int .i64 x, .int .i64 y] w fun e w' => e = .returned (.int .i64 (cmpI x y)) ∧ w = w' :=
  (Tryd.cmp_Compare_int x y w).mono fun _ _ h => ⟨h.1, h.2.symm⟩
theorem strCompare_any (x y : ByteArray) (w : World) : Calls Tryd.prog 61 #[.string x, .string y] w fun e w' => e = .returned (.int .i64 (cmpB x.data.toList y.data.toList)) ∧ w = w' :=
  (Tryd.strings_Compare x y w).mono fun _ _ h => ⟨h.1, h.2.symm⟩

set_option maxHeartbeats 400000 in
theorem truth_any (b : Bool) (w : World) : Calls Tryd.prog 98 #[.bool b] w fun e w' => e = .returned (.int .i64 (bit b)) ∧ w = w' := by
  cases b
  all_goals
    go_enter Tryd.func98, Tryd.ntmps98
    go_wp2
    go_ret
    exact ⟨rfl, rfl⟩

/-- A slice of four ints. -/
def Ints (w : World) (v : Value) (l : List Int) : Prop := SliceIn w v l.length (l.map (Value.int .i64))

set_option maxHeartbeats 400000 in
theorem cmpOr_any (x y z t : Int) (v : Value) (w : World) (hv : SliceIn w v 4 [.int .i64 x, .int .i64 y, .int .i64 z, .int .i64 t]) :
    Calls Tryd.prog 99 #[v] w fun e w' => e = .returned (.int .i64 (or4 x y z t)) ∧ w = w' := by
  obtain ⟨a, c, rfl, hc, hcm, ha, hcell⟩ := hv
  obtain ⟨b, o, rfl, h0⟩ := hcell 0 _ rfl
  obtain ⟨b1, o1, e1, h1⟩ := hcell 1 _ rfl
  obtain ⟨b2, o2, e2, h2⟩ := hcell 2 _ rfl
  obtain ⟨b3, o3, e3, h3⟩ := hcell 3 _ rfl
  cases e1; cases e2; cases e3
  rw [Nat.add_zero] at h0
  clear hcell ha
  unfold or4
  by_cases hx : x = 0
  · subst hx
    rw [if_pos rfl]
    by_cases hy : y = 0
    · subst hy
      rw [if_pos rfl]
      by_cases hz : z = 0
      · subst hz
        rw [if_pos rfl]
        by_cases ht : t = 0
        · subst ht
          go_enter Tryd.func99, Tryd.ntmps99
          go_wp2
          refine wp_loop_rounds 5 ?_
          rw [rounds_succ]
          go_wp2
          rw [rounds_succ]
          go_wp2
          rw [rounds_succ]
          go_wp2
          rw [rounds_succ]
          go_wp2
          rw [rounds_succ]
          go_wp2
          go_ret
          exact ⟨rfl, rfl⟩
        · have ht' : ((t : Int) != 0) = true := by simpa using ht
          go_enter Tryd.func99, Tryd.ntmps99
          go_wp2
          refine wp_loop_rounds 4 ?_
          rw [rounds_succ]
          go_wp2
          rw [rounds_succ]
          go_wp2
          rw [rounds_succ]
          go_wp2
          rw [rounds_succ]
          go_wp2
          go_ret
          exact ⟨rfl, rfl⟩
      · have hz' : ((z : Int) != 0) = true := by simpa using hz
        rw [if_neg hz]
        go_enter Tryd.func99, Tryd.ntmps99
        go_wp2
        refine wp_loop_rounds 3 ?_
        rw [rounds_succ]
        go_wp2
        rw [rounds_succ]
        go_wp2
        rw [rounds_succ]
        go_wp2
        go_ret
        exact ⟨rfl, rfl⟩
    · have hy' : ((y : Int) != 0) = true := by simpa using hy
      rw [if_neg hy]
      go_enter Tryd.func99, Tryd.ntmps99
      go_wp2
      refine wp_loop_rounds 2 ?_
      rw [rounds_succ]
      go_wp2
      rw [rounds_succ]
      go_wp2
      go_ret
      exact ⟨rfl, rfl⟩
  · have hx' : ((x : Int) != 0) = true := by simpa using hx
    rw [if_neg hx]
    go_enter Tryd.func99, Tryd.ntmps99
    go_wp2
    refine wp_loop_rounds 1 ?_
    rw [rounds_succ]
    go_wp2
    go_ret
    exact ⟨rfl, rfl⟩

attribute [local go_sem] yields yUpon

/-- The two cells that came in, in the blocks that the call has laid for them. -/
structure Params (w w0 : World) (v : ByteArray) (d : Bool) (a e : Int) (v' : ByteArray) (d' : Bool) (a' e' : Int) : Prop where
  c0 : w0.cell? ⟨w.heap.size, 0, none⟩ = some (.string v)
  c1 : w0.cell? ⟨w.heap.size, 1, none⟩ = some (.bool d)
  c2 : w0.cell? ⟨w.heap.size, 2, none⟩ = some (.int .i64 a)
  c3 : w0.cell? ⟨w.heap.size, 3, none⟩ = some (.int .i64 e)
  b0 : w0.cell? ⟨w.heap.size + 1, 0, none⟩ = some (.string v')
  b1 : w0.cell? ⟨w.heap.size + 1, 1, none⟩ = some (.bool d')
  b2 : w0.cell? ⟨w.heap.size + 1, 2, none⟩ = some (.int .i64 a')
  b3 : w0.cell? ⟨w.heap.size + 1, 3, none⟩ = some (.int .i64 e')
theorem Params.mk' (w : World) (v : ByteArray) (d : Bool) (a e : Int) (v' : ByteArray) (d' : Bool) (a' e' : Int) (t : TypeId) :
    Params w ((w.alloc (.cells #[.string v, .bool d, .int .i64 a, .int .i64 e] t)).alloc (.cells #[.string v', .bool d', .int .i64 a', .int .i64 e'] t)) v d a e v' d' a' e' := by
  constructor <;> simp
theorem Params.ext {w w0 w1 : World} {v : ByteArray} {d : Bool} {a e : Int} {v' : ByteArray} {d' : Bool} {a' e' : Int} (h : Params w w0 v d a e v' d' a' e') (hE : Ext w0 w1) : Params w w1 v d a e v' d' a' e' :=
  ⟨hE.cell h.c0, hE.cell h.c1, hE.cell h.c2, hE.cell h.c3, hE.cell h.b0, hE.cell h.b1, hE.cell h.b2, hE.cell h.b3⟩

theorem endC_one {e e' : Int} (h : (e == 0) = true) : cmpI (bit true) (bit (e' == 0)) = endC e e' := by
  have : e = 0 := by simpa using h
  subst this
  simp [endC]
theorem endC_two {e e' : Int} (h : (e == 0) = false) (h' : (e' == 0) = true) : cmpI (bit false) (bit true) = endC e e' := by
  have h1 : e ≠ 0 := by simpa using h
  have : e' = 0 := by simpa using h'
  subst this
  simp [endC, h1, h]
theorem endC_three {e e' : Int} (h : (e == 0) = false) (h' : (e' == 0) = false) : cmpI e e' = endC e e' := by
  have h1 : e ≠ 0 := by simpa using h
  have h2 : e' ≠ 0 := by simpa using h'
  simp [endC, h1, h2]

set_option maxRecDepth 100000 in
set_option maxHeartbeats 1000000 in
theorem cmp_any (v : ByteArray) (d : Bool) (a e : Int) (v' : ByteArray) (d' : Bool) (a' e' : Int) (w : World) :
    Calls Tryd.prog 87 #[.agg #[.string v, .bool d, .int .i64 a, .int .i64 e], .agg #[.string v', .bool d', .int .i64 a', .int .i64 e']] w fun r w' =>
      r = .returned (.int .i64 (cmpC v d a e v' d' a' e')) ∧ Ext w w' := by
  go_enter Tryd.func87, Tryd.ntmps87
  rcases (show (e == 0) = true ∨ (e == 0) = false ∧ (e' == 0) = true ∨ (e == 0) = false ∧ (e' == 0) = false by cases e == 0 <;> cases e' == 0 <;> simp) with he | ⟨he, he'⟩ | ⟨he, he'⟩
  · have HE := Lib.hid (endC_one (e' := e') he)
    go_wp2_with (go_at_call 97; go_must (refine (cmpCompare_any _ _ _).mono ?_); rintro r w1 ⟨rfl, rfl⟩)
    refine wp_region_in 10 [(3, fun v _ => v = .int .i64 (bit true)), (7, fun v _ => v = .int .i64 (bit (e' == 0))), (8, fun v _ => v = .int .i64 (endC e e'))] (fun w0 => Ext w w0 ∧ Params w w0 v d a e v' d' a' e') (by kernel_rfl) (by kernel_rfl) (by kernel_rfl) ⟨stays_eq _, stays_eq _, stays_eq _, trivial⟩ ?_ ?_
    · exact ⟨((Ext.refl w).alloc _).alloc _, Params.mk' _ _ _ _ _ _ _ _ _ _⟩
    rintro w0 ⟨hX, hP⟩
    have k3 := held hP.c3
    have k3' := held hP.b3
    refine rg_quiet rfl rfl rfl rfl ?_; intro K hK; go_big_quiet_op; go_big_quiet_on
    refine rg_quiet rfl rfl rfl rfl ?_; intro K hK; go_big_quiet_op; go_big_quiet_on
    refine rg_quiet rfl rfl rfl rfl ?_; intro K hK; go_big_quiet_op; go_big_quiet_on
    refine rg_callv (vals := #[.bool true]) [] _ rfl rfl rfl rfl Tryd.func98 rfl (by kernel_rfl) rfl (by kernel_rfl) (fun w1 hE hf => ?_) ?_
    · exact (truth_any _ w1).mono fun e w' ⟨he, hw⟩ => ⟨he, hw ▸ Ext.refl w1⟩
    simp only [Act.put, List.setIfInBounds_toArray, List.set_cons_zero, List.set_cons_succ]
    refine rg_quiet rfl rfl rfl rfl ?_; intro K hK; go_big_quiet_op; go_big_quiet_on
    refine rg_quiet rfl rfl rfl rfl ?_; intro K hK; go_big_quiet_op; go_big_quiet_on
    refine rg_quiet rfl rfl rfl rfl ?_; intro K hK; go_big_quiet_op; go_big_quiet_on
    refine rg_callv (vals := #[.bool (e' == 0)]) [] _ rfl rfl rfl rfl Tryd.func98 rfl (by kernel_rfl) rfl (by kernel_rfl) (fun w1 hE hf => ?_) ?_
    · exact (truth_any _ w1).mono fun e w' ⟨he, hw⟩ => ⟨he, hw ▸ Ext.refl w1⟩
    simp only [Act.put, List.setIfInBounds_toArray, List.set_cons_zero, List.set_cons_succ]
    refine rg_callv (vals := #[.int .i64 (bit true), .int .i64 (bit (e' == 0))]) [] _ rfl rfl rfl rfl Tryd.func97 rfl (by kernel_rfl) rfl (by kernel_rfl) (fun w1 hE hf => ?_) ?_
    · exact (cmpCompare_any _ _ w1).mono fun e w' ⟨he, hw⟩ => ⟨by rw [he, HE.out], hw ▸ Ext.refl w1⟩
    simp only [Act.put, List.setIfInBounds_toArray, List.set_cons_zero, List.set_cons_succ]
    refine rg_quiet rfl rfl rfl rfl ?_; intro K hK; go_big_quiet_op; go_big_quiet_on
    refine rel_nil fun w2 hE2 _ => ?_
    replace hP := hP.ext hE2
    replace hX := hX.trans hE2
    clear k3 k3' hE2 he HE
    go_wp2_with fail
    obtain ⟨q0, hq0⟩ : ∃ q, q = cmpI a a' := ⟨_, rfl⟩
    obtain ⟨q1, hq1⟩ : ∃ q, q = cmpI (bit d) (bit d') := ⟨_, rfl⟩
    obtain ⟨q2, hq2⟩ : ∃ q, q = cmpB v.data.toList v'.data.toList := ⟨_, rfl⟩
    have HQ : Hid (or4 q0 q1 q2 (endC e e') = cmpC v d a e v' d' a' e') := by rw [hq0, hq1, hq2]; rfl
    have H0 := Lib.hid hq0.symm
    have H1 := Lib.hid hq1.symm
    have H2 := Lib.hid hq2.symm
    clear hq0 hq1 hq2
    refine wp_region_in 21 [(4, fun v _ => v = .int .i64 q0), (7, fun v _ => v = .int .i64 (bit d)), (10, fun v _ => v = .int .i64 (bit d')), (11, fun v _ => v = .int .i64 q1), (16, fun v _ => v = .int .i64 q2), (18, fun v w => SliceIn w v 4 [.int .i64 q0, .int .i64 q1, .int .i64 q2, .int .i64 (endC e e')]), (19, fun x _ => x = .int .i64 (or4 q0 q1 q2 (endC e e')))] (fun w0 => Ext w w0 ∧ Params w w0 v d a e v' d' a' e') (by kernel_rfl) (by kernel_rfl) (by kernel_rfl) ⟨stays_eq _, stays_eq _, stays_eq _, stays_eq _, stays_eq _, stays_slice _ _, stays_eq _, trivial⟩ ?_ ?_
    · exact ⟨hX, hP⟩
    clear hX hP
    rintro w0 ⟨hX, hP⟩
    have k0 := held hP.c0
    have k1 := held hP.c1
    have k2 := held hP.c2
    have j0 := held hP.b0
    have j1 := held hP.b1
    have j2 := held hP.b2
    clear hP
    refine rg_quiet rfl rfl rfl rfl ?_; intro K hK; go_big_quiet_op; go_big_quiet_on
    refine rg_quiet rfl rfl rfl rfl ?_; intro K hK; go_big_quiet_op; go_big_quiet_on
    refine rg_quiet rfl rfl rfl rfl ?_; intro K hK; go_big_quiet_op; go_big_quiet_on
    refine rg_quiet rfl rfl rfl rfl ?_; intro K hK; go_big_quiet_op; go_big_quiet_on
    refine rg_callv (vals := #[.int .i64 a, .int .i64 a']) [] _ rfl rfl rfl rfl Tryd.func97 rfl (by kernel_rfl) rfl (by kernel_rfl) (fun w1 hE hf => ?_) ?_
    · exact (cmpCompare_any _ _ w1).mono fun e w' ⟨he, hw⟩ => ⟨by rw [he, H0.out], hw ▸ Ext.refl w1⟩
    simp only [Act.put, List.setIfInBounds_toArray, List.set_cons_zero, List.set_cons_succ]
    refine rg_quiet rfl rfl rfl rfl ?_; intro K hK; go_big_quiet_op; go_big_quiet_on
    refine rg_quiet rfl rfl rfl rfl ?_; intro K hK; go_big_quiet_op; go_big_quiet_on
    refine rg_callv (vals := #[.bool d]) [] _ rfl rfl rfl rfl Tryd.func98 rfl (by kernel_rfl) rfl (by kernel_rfl) (fun w1 hE hf => ?_) ?_
    · exact (truth_any _ w1).mono fun e w' ⟨he, hw⟩ => ⟨he, hw ▸ Ext.refl w1⟩
    simp only [Act.put, List.setIfInBounds_toArray, List.set_cons_zero, List.set_cons_succ]
    refine rg_quiet rfl rfl rfl rfl ?_; intro K hK; go_big_quiet_op; go_big_quiet_on
    refine rg_quiet rfl rfl rfl rfl ?_; intro K hK; go_big_quiet_op; go_big_quiet_on
    refine rg_callv (vals := #[.bool d']) [] _ rfl rfl rfl rfl Tryd.func98 rfl (by kernel_rfl) rfl (by kernel_rfl) (fun w1 hE hf => ?_) ?_
    · exact (truth_any _ w1).mono fun e w' ⟨he, hw⟩ => ⟨he, hw ▸ Ext.refl w1⟩
    simp only [Act.put, List.setIfInBounds_toArray, List.set_cons_zero, List.set_cons_succ]
    refine rg_callv (vals := #[.int .i64 (bit d), .int .i64 (bit d')]) [] _ rfl rfl rfl rfl Tryd.func97 rfl (by kernel_rfl) rfl (by kernel_rfl) (fun w1 hE hf => ?_) ?_
    · exact (cmpCompare_any _ _ w1).mono fun e w' ⟨he, hw⟩ => ⟨by rw [he, H1.out], hw ▸ Ext.refl w1⟩
    simp only [Act.put, List.setIfInBounds_toArray, List.set_cons_zero, List.set_cons_succ]
    refine rg_quiet rfl rfl rfl rfl ?_; intro K hK; go_big_quiet_op; go_big_quiet_on
    refine rg_quiet rfl rfl rfl rfl ?_; intro K hK; go_big_quiet_op; go_big_quiet_on
    refine rg_quiet rfl rfl rfl rfl ?_; intro K hK; go_big_quiet_op; go_big_quiet_on
    refine rg_quiet rfl rfl rfl rfl ?_; intro K hK; go_big_quiet_op; go_big_quiet_on
    refine rg_callv (vals := #[.string v, .string v']) [] _ rfl rfl rfl rfl Tryd.func61 rfl (by kernel_rfl) rfl (by kernel_rfl) (fun w1 hE hf => ?_) ?_
    · exact (strCompare_any _ _ w1).mono fun e w' ⟨he, hw⟩ => ⟨by rw [he, H2.out], hw ▸ Ext.refl w1⟩
    simp only [Act.put, List.setIfInBounds_toArray, List.set_cons_zero, List.set_cons_succ]
    refine rg_quiet rfl rfl rfl rfl ?_; intro K hK; go_big_quiet_op; go_big_quiet_on
    refine rel_call [] _ rfl rfl rfl rfl (fun w1 hE hf => ?_) (fun x w1 hE hG hx => ?_)
    · go_simp
      exact ⟨hE.alloc _, (Ext.refl w1).alloc _, SliceIn.made w1 #[_, _, _, _] _ 4 (by unfold maxLen; omega)⟩
    simp only [Act.put, List.setIfInBounds_toArray, List.set_cons_zero, List.set_cons_succ]
    refine rg_callv (vals := #[x]) [18] _ rfl rfl rfl rfl Tryd.func99 rfl (by kernel_rfl) rfl (by kernel_rfl) (fun w1 hE hf => ?_) ?_
    · exact (cmpOr_any _ _ _ _ _ w1 ((hf 18 (by simp)).2 rfl)).mono fun e w' ⟨he, hw⟩ => ⟨he, hw ▸ Ext.refl w1⟩
    simp only [Act.put, List.setIfInBounds_toArray, List.set_cons_zero, List.set_cons_succ]
    refine rg_quiet rfl rfl rfl rfl ?_; intro K hK; go_big_quiet_op; go_big_quiet_on
    refine rel_nil fun w2 hE2 _ => ?_
    replace hX := hX.trans hE2
    go_wp2
    go_ret
    exact ⟨ret_int HQ.out, hX⟩
  · have HE := Lib.hid (endC_two he he')
    go_wp2_with (go_at_call 97; go_must (refine (cmpCompare_any _ _ _).mono ?_); rintro r w1 ⟨rfl, rfl⟩)
    refine wp_region_in 10 [(3, fun v _ => v = .int .i64 (bit false)), (7, fun v _ => v = .int .i64 (bit true)), (8, fun v _ => v = .int .i64 (endC e e'))] (fun w0 => Ext w w0 ∧ Params w w0 v d a e v' d' a' e') (by kernel_rfl) (by kernel_rfl) (by kernel_rfl) ⟨stays_eq _, stays_eq _, stays_eq _, trivial⟩ ?_ ?_
    · exact ⟨((Ext.refl w).alloc _).alloc _, Params.mk' _ _ _ _ _ _ _ _ _ _⟩
    rintro w0 ⟨hX, hP⟩
    have k3 := held hP.c3
    have k3' := held hP.b3
    refine rg_quiet rfl rfl rfl rfl ?_; intro K hK; go_big_quiet_op; go_big_quiet_on
    refine rg_quiet rfl rfl rfl rfl ?_; intro K hK; go_big_quiet_op; go_big_quiet_on
    refine rg_quiet rfl rfl rfl rfl ?_; intro K hK; go_big_quiet_op; go_big_quiet_on
    refine rg_callv (vals := #[.bool false]) [] _ rfl rfl rfl rfl Tryd.func98 rfl (by kernel_rfl) rfl (by kernel_rfl) (fun w1 hE hf => ?_) ?_
    · exact (truth_any _ w1).mono fun e w' ⟨he, hw⟩ => ⟨he, hw ▸ Ext.refl w1⟩
    simp only [Act.put, List.setIfInBounds_toArray, List.set_cons_zero, List.set_cons_succ]
    refine rg_quiet rfl rfl rfl rfl ?_; intro K hK; go_big_quiet_op; go_big_quiet_on
    refine rg_quiet rfl rfl rfl rfl ?_; intro K hK; go_big_quiet_op; go_big_quiet_on
    refine rg_quiet rfl rfl rfl rfl ?_; intro K hK; go_big_quiet_op; go_big_quiet_on
    refine rg_callv (vals := #[.bool true]) [] _ rfl rfl rfl rfl Tryd.func98 rfl (by kernel_rfl) rfl (by kernel_rfl) (fun w1 hE hf => ?_) ?_
    · exact (truth_any _ w1).mono fun e w' ⟨he, hw⟩ => ⟨he, hw ▸ Ext.refl w1⟩
    simp only [Act.put, List.setIfInBounds_toArray, List.set_cons_zero, List.set_cons_succ]
    refine rg_callv (vals := #[.int .i64 (bit false), .int .i64 (bit true)]) [] _ rfl rfl rfl rfl Tryd.func97 rfl (by kernel_rfl) rfl (by kernel_rfl) (fun w1 hE hf => ?_) ?_
    · exact (cmpCompare_any _ _ w1).mono fun e w' ⟨he, hw⟩ => ⟨by rw [he, HE.out], hw ▸ Ext.refl w1⟩
    simp only [Act.put, List.setIfInBounds_toArray, List.set_cons_zero, List.set_cons_succ]
    refine rg_quiet rfl rfl rfl rfl ?_; intro K hK; go_big_quiet_op; go_big_quiet_on
    refine rel_nil fun w2 hE2 _ => ?_
    replace hP := hP.ext hE2
    replace hX := hX.trans hE2
    clear k3 k3' hE2 he he' HE
    go_wp2_with fail
    obtain ⟨q0, hq0⟩ : ∃ q, q = cmpI a a' := ⟨_, rfl⟩
    obtain ⟨q1, hq1⟩ : ∃ q, q = cmpI (bit d) (bit d') := ⟨_, rfl⟩
    obtain ⟨q2, hq2⟩ : ∃ q, q = cmpB v.data.toList v'.data.toList := ⟨_, rfl⟩
    have HQ : Hid (or4 q0 q1 q2 (endC e e') = cmpC v d a e v' d' a' e') := by rw [hq0, hq1, hq2]; rfl
    have H0 := Lib.hid hq0.symm
    have H1 := Lib.hid hq1.symm
    have H2 := Lib.hid hq2.symm
    clear hq0 hq1 hq2
    refine wp_region_in 21 [(4, fun v _ => v = .int .i64 q0), (7, fun v _ => v = .int .i64 (bit d)), (10, fun v _ => v = .int .i64 (bit d')), (11, fun v _ => v = .int .i64 q1), (16, fun v _ => v = .int .i64 q2), (18, fun v w => SliceIn w v 4 [.int .i64 q0, .int .i64 q1, .int .i64 q2, .int .i64 (endC e e')]), (19, fun x _ => x = .int .i64 (or4 q0 q1 q2 (endC e e')))] (fun w0 => Ext w w0 ∧ Params w w0 v d a e v' d' a' e') (by kernel_rfl) (by kernel_rfl) (by kernel_rfl) ⟨stays_eq _, stays_eq _, stays_eq _, stays_eq _, stays_eq _, stays_slice _ _, stays_eq _, trivial⟩ ?_ ?_
    · exact ⟨hX, hP⟩
    clear hX hP
    rintro w0 ⟨hX, hP⟩
    have k0 := held hP.c0
    have k1 := held hP.c1
    have k2 := held hP.c2
    have j0 := held hP.b0
    have j1 := held hP.b1
    have j2 := held hP.b2
    clear hP
    refine rg_quiet rfl rfl rfl rfl ?_; intro K hK; go_big_quiet_op; go_big_quiet_on
    refine rg_quiet rfl rfl rfl rfl ?_; intro K hK; go_big_quiet_op; go_big_quiet_on
    refine rg_quiet rfl rfl rfl rfl ?_; intro K hK; go_big_quiet_op; go_big_quiet_on
    refine rg_quiet rfl rfl rfl rfl ?_; intro K hK; go_big_quiet_op; go_big_quiet_on
    refine rg_callv (vals := #[.int .i64 a, .int .i64 a']) [] _ rfl rfl rfl rfl Tryd.func97 rfl (by kernel_rfl) rfl (by kernel_rfl) (fun w1 hE hf => ?_) ?_
    · exact (cmpCompare_any _ _ w1).mono fun e w' ⟨he, hw⟩ => ⟨by rw [he, H0.out], hw ▸ Ext.refl w1⟩
    simp only [Act.put, List.setIfInBounds_toArray, List.set_cons_zero, List.set_cons_succ]
    refine rg_quiet rfl rfl rfl rfl ?_; intro K hK; go_big_quiet_op; go_big_quiet_on
    refine rg_quiet rfl rfl rfl rfl ?_; intro K hK; go_big_quiet_op; go_big_quiet_on
    refine rg_callv (vals := #[.bool d]) [] _ rfl rfl rfl rfl Tryd.func98 rfl (by kernel_rfl) rfl (by kernel_rfl) (fun w1 hE hf => ?_) ?_
    · exact (truth_any _ w1).mono fun e w' ⟨he, hw⟩ => ⟨he, hw ▸ Ext.refl w1⟩
    simp only [Act.put, List.setIfInBounds_toArray, List.set_cons_zero, List.set_cons_succ]
    refine rg_quiet rfl rfl rfl rfl ?_; intro K hK; go_big_quiet_op; go_big_quiet_on
    refine rg_quiet rfl rfl rfl rfl ?_; intro K hK; go_big_quiet_op; go_big_quiet_on
    refine rg_callv (vals := #[.bool d']) [] _ rfl rfl rfl rfl Tryd.func98 rfl (by kernel_rfl) rfl (by kernel_rfl) (fun w1 hE hf => ?_) ?_
    · exact (truth_any _ w1).mono fun e w' ⟨he, hw⟩ => ⟨he, hw ▸ Ext.refl w1⟩
    simp only [Act.put, List.setIfInBounds_toArray, List.set_cons_zero, List.set_cons_succ]
    refine rg_callv (vals := #[.int .i64 (bit d), .int .i64 (bit d')]) [] _ rfl rfl rfl rfl Tryd.func97 rfl (by kernel_rfl) rfl (by kernel_rfl) (fun w1 hE hf => ?_) ?_
    · exact (cmpCompare_any _ _ w1).mono fun e w' ⟨he, hw⟩ => ⟨by rw [he, H1.out], hw ▸ Ext.refl w1⟩
    simp only [Act.put, List.setIfInBounds_toArray, List.set_cons_zero, List.set_cons_succ]
    refine rg_quiet rfl rfl rfl rfl ?_; intro K hK; go_big_quiet_op; go_big_quiet_on
    refine rg_quiet rfl rfl rfl rfl ?_; intro K hK; go_big_quiet_op; go_big_quiet_on
    refine rg_quiet rfl rfl rfl rfl ?_; intro K hK; go_big_quiet_op; go_big_quiet_on
    refine rg_quiet rfl rfl rfl rfl ?_; intro K hK; go_big_quiet_op; go_big_quiet_on
    refine rg_callv (vals := #[.string v, .string v']) [] _ rfl rfl rfl rfl Tryd.func61 rfl (by kernel_rfl) rfl (by kernel_rfl) (fun w1 hE hf => ?_) ?_
    · exact (strCompare_any _ _ w1).mono fun e w' ⟨he, hw⟩ => ⟨by rw [he, H2.out], hw ▸ Ext.refl w1⟩
    simp only [Act.put, List.setIfInBounds_toArray, List.set_cons_zero, List.set_cons_succ]
    refine rg_quiet rfl rfl rfl rfl ?_; intro K hK; go_big_quiet_op; go_big_quiet_on
    refine rel_call [] _ rfl rfl rfl rfl (fun w1 hE hf => ?_) (fun x w1 hE hG hx => ?_)
    · go_simp
      exact ⟨hE.alloc _, (Ext.refl w1).alloc _, SliceIn.made w1 #[_, _, _, _] _ 4 (by unfold maxLen; omega)⟩
    simp only [Act.put, List.setIfInBounds_toArray, List.set_cons_zero, List.set_cons_succ]
    refine rg_callv (vals := #[x]) [18] _ rfl rfl rfl rfl Tryd.func99 rfl (by kernel_rfl) rfl (by kernel_rfl) (fun w1 hE hf => ?_) ?_
    · exact (cmpOr_any _ _ _ _ _ w1 ((hf 18 (by simp)).2 rfl)).mono fun e w' ⟨he, hw⟩ => ⟨he, hw ▸ Ext.refl w1⟩
    simp only [Act.put, List.setIfInBounds_toArray, List.set_cons_zero, List.set_cons_succ]
    refine rg_quiet rfl rfl rfl rfl ?_; intro K hK; go_big_quiet_op; go_big_quiet_on
    refine rel_nil fun w2 hE2 _ => ?_
    replace hX := hX.trans hE2
    go_wp2
    go_ret
    exact ⟨ret_int HQ.out, hX⟩
  · have HE := endC_three he he'
    go_wp2_with (go_at_call 97; go_must (refine (cmpCompare_any _ _ _).mono ?_); rintro r w1 ⟨rfl, rfl⟩)
    have hP : Params w _ v d a e v' d' a' e' := Params.mk' w v d a e v' d' a' e' 23
    have hX := ((Ext.refl w).alloc (.cells #[.string v, .bool d, .int .i64 a, .int .i64 e] 23)).alloc (.cells #[.string v', .bool d', .int .i64 a', .int .i64 e'] 23)
    clear he he' HE
    obtain ⟨q0, hq0⟩ : ∃ q, q = cmpI a a' := ⟨_, rfl⟩
    obtain ⟨q1, hq1⟩ : ∃ q, q = cmpI (bit d) (bit d') := ⟨_, rfl⟩
    obtain ⟨q2, hq2⟩ : ∃ q, q = cmpB v.data.toList v'.data.toList := ⟨_, rfl⟩
    have HQ : Hid (or4 q0 q1 q2 (endC e e') = cmpC v d a e v' d' a' e') := by rw [hq0, hq1, hq2]; rfl
    have H0 := Lib.hid hq0.symm
    have H1 := Lib.hid hq1.symm
    have H2 := Lib.hid hq2.symm
    clear hq0 hq1 hq2
    refine wp_region_in 21 [(4, fun v _ => v = .int .i64 q0), (7, fun v _ => v = .int .i64 (bit d)), (10, fun v _ => v = .int .i64 (bit d')), (11, fun v _ => v = .int .i64 q1), (16, fun v _ => v = .int .i64 q2), (18, fun v w => SliceIn w v 4 [.int .i64 q0, .int .i64 q1, .int .i64 q2, .int .i64 (endC e e')]), (19, fun x _ => x = .int .i64 (or4 q0 q1 q2 (endC e e')))] (fun w0 => Ext w w0 ∧ Params w w0 v d a e v' d' a' e') (by kernel_rfl) (by kernel_rfl) (by kernel_rfl) ⟨stays_eq _, stays_eq _, stays_eq _, stays_eq _, stays_eq _, stays_slice _ _, stays_eq _, trivial⟩ ?_ ?_
    · exact ⟨hX, hP⟩
    clear hX hP
    rintro w0 ⟨hX, hP⟩
    have k0 := held hP.c0
    have k1 := held hP.c1
    have k2 := held hP.c2
    have j0 := held hP.b0
    have j1 := held hP.b1
    have j2 := held hP.b2
    clear hP
    refine rg_quiet rfl rfl rfl rfl ?_; intro K hK; go_big_quiet_op; go_big_quiet_on
    refine rg_quiet rfl rfl rfl rfl ?_; intro K hK; go_big_quiet_op; go_big_quiet_on
    refine rg_quiet rfl rfl rfl rfl ?_; intro K hK; go_big_quiet_op; go_big_quiet_on
    refine rg_quiet rfl rfl rfl rfl ?_; intro K hK; go_big_quiet_op; go_big_quiet_on
    refine rg_callv (vals := #[.int .i64 a, .int .i64 a']) [] _ rfl rfl rfl rfl Tryd.func97 rfl (by kernel_rfl) rfl (by kernel_rfl) (fun w1 hE hf => ?_) ?_
    · exact (cmpCompare_any _ _ w1).mono fun e w' ⟨he, hw⟩ => ⟨by rw [he, H0.out], hw ▸ Ext.refl w1⟩
    simp only [Act.put, List.setIfInBounds_toArray, List.set_cons_zero, List.set_cons_succ]
    refine rg_quiet rfl rfl rfl rfl ?_; intro K hK; go_big_quiet_op; go_big_quiet_on
    refine rg_quiet rfl rfl rfl rfl ?_; intro K hK; go_big_quiet_op; go_big_quiet_on
    refine rg_callv (vals := #[.bool d]) [] _ rfl rfl rfl rfl Tryd.func98 rfl (by kernel_rfl) rfl (by kernel_rfl) (fun w1 hE hf => ?_) ?_
    · exact (truth_any _ w1).mono fun e w' ⟨he, hw⟩ => ⟨he, hw ▸ Ext.refl w1⟩
    simp only [Act.put, List.setIfInBounds_toArray, List.set_cons_zero, List.set_cons_succ]
    refine rg_quiet rfl rfl rfl rfl ?_; intro K hK; go_big_quiet_op; go_big_quiet_on
    refine rg_quiet rfl rfl rfl rfl ?_; intro K hK; go_big_quiet_op; go_big_quiet_on
    refine rg_callv (vals := #[.bool d']) [] _ rfl rfl rfl rfl Tryd.func98 rfl (by kernel_rfl) rfl (by kernel_rfl) (fun w1 hE hf => ?_) ?_
    · exact (truth_any _ w1).mono fun e w' ⟨he, hw⟩ => ⟨he, hw ▸ Ext.refl w1⟩
    simp only [Act.put, List.setIfInBounds_toArray, List.set_cons_zero, List.set_cons_succ]
    refine rg_callv (vals := #[.int .i64 (bit d), .int .i64 (bit d')]) [] _ rfl rfl rfl rfl Tryd.func97 rfl (by kernel_rfl) rfl (by kernel_rfl) (fun w1 hE hf => ?_) ?_
    · exact (cmpCompare_any _ _ w1).mono fun e w' ⟨he, hw⟩ => ⟨by rw [he, H1.out], hw ▸ Ext.refl w1⟩
    simp only [Act.put, List.setIfInBounds_toArray, List.set_cons_zero, List.set_cons_succ]
    refine rg_quiet rfl rfl rfl rfl ?_; intro K hK; go_big_quiet_op; go_big_quiet_on
    refine rg_quiet rfl rfl rfl rfl ?_; intro K hK; go_big_quiet_op; go_big_quiet_on
    refine rg_quiet rfl rfl rfl rfl ?_; intro K hK; go_big_quiet_op; go_big_quiet_on
    refine rg_quiet rfl rfl rfl rfl ?_; intro K hK; go_big_quiet_op; go_big_quiet_on
    refine rg_callv (vals := #[.string v, .string v']) [] _ rfl rfl rfl rfl Tryd.func61 rfl (by kernel_rfl) rfl (by kernel_rfl) (fun w1 hE hf => ?_) ?_
    · exact (strCompare_any _ _ w1).mono fun e w' ⟨he, hw⟩ => ⟨by rw [he, H2.out], hw ▸ Ext.refl w1⟩
    simp only [Act.put, List.setIfInBounds_toArray, List.set_cons_zero, List.set_cons_succ]
    refine rg_quiet rfl rfl rfl rfl ?_; intro K hK; go_big_quiet_op; go_big_quiet_on
    refine rel_call [] _ rfl rfl rfl rfl (fun w1 hE hf => ?_) (fun x w1 hE hG hx => ?_)
    · go_simp
      exact ⟨hE.alloc _, (Ext.refl w1).alloc _, SliceIn.made w1 #[_, _, _, _] _ 4 (by unfold maxLen; omega)⟩
    simp only [Act.put, List.setIfInBounds_toArray, List.set_cons_zero, List.set_cons_succ]
    refine rg_callv (vals := #[x]) [18] _ rfl rfl rfl rfl Tryd.func99 rfl (by kernel_rfl) rfl (by kernel_rfl) (fun w1 hE hf => ?_) ?_
    · exact (cmpOr_any _ _ _ _ _ w1 ((hf 18 (by simp)).2 rfl)).mono fun e w' ⟨he, hw⟩ => ⟨he, hw ▸ Ext.refl w1⟩
    simp only [Act.put, List.setIfInBounds_toArray, List.set_cons_zero, List.set_cons_succ]
    refine rg_quiet rfl rfl rfl rfl ?_; intro K hK; go_big_quiet_op; go_big_quiet_on
    refine rel_nil fun w2 hE2 _ => ?_
    replace hX := hX.trans hE2
    go_wp2
    go_ret
    exact ⟨ret_int HQ.out, hX⟩

set_option maxHeartbeats 400000 in
theorem join_any (v : ByteArray) (d : Bool) (a e : Int) (v' : ByteArray) (d' : Bool) (a' e' : Int) (w : World) :
    Calls Tryd.prog 63 #[.agg #[.string v, .bool d, .int .i64 a, .int .i64 e], .agg #[.string v', .bool d', .int .i64 a', .int .i64 e']] w fun r w' =>
      r = .returned (if cmpC v d a e v' d' a' e' < 0 then .agg #[.string v', .bool d', .int .i64 a', .int .i64 e'] else .agg #[.string v, .bool d, .int .i64 a, .int .i64 e]) ∧ Ext w w' := by
  by_cases h : cmpC v d a e v' d' a' e' < 0
  · rw [if_pos h]
    go_enter Tryd.func63, Tryd.ntmps63
    go_wp2_with (go_at_call 87; go_must (refine (cmp_any _ _ _ _ _ _ _ _ _).mono ?_); rintro r w1 ⟨rfl, hE⟩; obtain ⟨hc, hf⟩ := And.intro hE.cells hE.frozens)
    refine bodyPost_ret (v := .agg #[.string v', .bool d', .int .i64 a', .int .i64 e']) (by simp [results, Tryd.results63, go_sem, hc]) rfl ⟨rfl, ?_⟩
    have hX := ((((Ext.refl w).alloc _).alloc _).alloc _).trans hE
    exact (((hX.setCell (Nat.le_add_right _ 2) _).setCell (Nat.le_add_right _ 2) _).setCell (Nat.le_add_right _ 2) _).setCell (Nat.le_add_right _ 2) _
  · rw [if_neg h]
    go_enter Tryd.func63, Tryd.ntmps63
    go_wp2_with (go_at_call 87; go_must (refine (cmp_any _ _ _ _ _ _ _ _ _).mono ?_); rintro r w1 ⟨rfl, hE⟩; obtain ⟨hc, hf⟩ := And.intro hE.cells hE.frozens)
    refine bodyPost_ret (v := .agg #[.string v, .bool d, .int .i64 a, .int .i64 e]) (by simp [results, Tryd.results63, go_sem, hc]) rfl ⟨rfl, ?_⟩
    have hX := ((((Ext.refl w).alloc _).alloc _).alloc _).trans hE
    exact (((hX.setCell (Nat.le_add_right _ 2) _).setCell (Nat.le_add_right _ 2) _).setCell (Nat.le_add_right _ 2) _).setCell (Nat.le_add_right _ 2) _
end Go.Proofs.YteamiiekpjoclaaDoor

/- The walks over the reference of cell, and over what the laws of cell ask beside. -/
namespace Go.Proofs.YteamiiekpjoclaaDoor
open Go Go.RowKit
attribute [local go_sem] yields yUpon

set_option maxHeartbeats 400000 in
theorem rorder_any (x y : Int) (w : World) : Calls Tryd.prog 93 #[.int .i64 x, .int .i64 y] w fun e w' => e = .returned (.int .i64 (cmpI x y)) ∧ w = w' := by
  go_enter Tryd.func93, Tryd.ntmps93
  go_wp2
  all_goals
    go_ret
    refine ⟨ret_int ?_, rfl⟩
    go_light
    unfold cmpI
    split <;> (try split) <;> omega

set_option maxHeartbeats 400000 in
theorem rbit_any (b : Bool) (w : World) : Calls Tryd.prog 94 #[.bool b] w fun e w' => e = .returned (.int .i64 (bit b)) ∧ w = w' := by
  cases b
  all_goals
    go_enter Tryd.func94, Tryd.ntmps94
    go_wp2
    go_ret
    exact ⟨rfl, rfl⟩

theorem cmpB_less : ∀ (l m : List UInt8), cmpB l m = if less l m then -1 else if less m l then 1 else 0
  | [], [] => rfl
  | [], _ :: _ => rfl
  | _ :: _, [] => rfl
  | a :: l, b :: m => by
    have ih := cmpB_less l m
    unfold cmpB at *
    unfold Lib.compareBytes
    by_cases h1 : a < b
    · rw [if_pos h1, less_lt h1]; rfl
    · by_cases h2 : b < a
      · rw [if_neg h1, if_pos h2, less_gt h2, less_lt h2]; rfl
      · have : a = b := UInt8.le_antisymm (UInt8.not_lt.1 h2) (UInt8.not_lt.1 h1)
        subst this
        rw [if_neg h1, if_neg h1, less_same, less_same]
        exact ih

set_option maxHeartbeats 400000 in
theorem rtext_any (x y : ByteArray) (w : World) : Calls Tryd.prog 95 #[.string x, .string y] w fun e w' => e = .returned (.int .i64 (cmpB x.data.toList y.data.toList)) ∧ w = w' := by
  have h := cmpB_less x.toList y.toList
  rw [ByteArray.toList_eq, ByteArray.toList_eq] at h
  have H := Lib.hid h
  clear h
  rcases less_tri x.toList y.toList with h1 | h1 | h1
  · have h2 : Op.bytesLess x.toList y.toList = true := h1
    have E : Hid (cmpB x.data.toList y.data.toList = -1) := by rw [H.out, ← ByteArray.toList_eq, ← ByteArray.toList_eq, if_pos h1]; rfl
    clear h1 H
    go_enter Tryd.func95, Tryd.ntmps95
    go_wp2
    go_ret
    exact ⟨ret_int E.out.symm, rfl⟩
  · have h2 : Op.bytesLess x.toList y.toList = false := by rw [h1]; exact less_irrefl _
    have h3 : (x.toList == y.toList) = true := by simp [h1]
    have E : Hid (cmpB x.data.toList y.data.toList = 0) := by
      rw [H.out, ← ByteArray.toList_eq, ← ByteArray.toList_eq, h1, if_neg (by rw [less_irrefl]; simp), if_neg (by rw [less_irrefl]; simp)]; rfl
    clear h1 H
    go_enter Tryd.func95, Tryd.ntmps95
    go_wp2
    go_ret
    exact ⟨ret_int E.out.symm, rfl⟩
  · have h2 : Op.bytesLess x.toList y.toList = false := less_asymm h1
    have h3 : (x.toList == y.toList) = false := by have := less_ne h1; simp; exact fun h => this h.symm
    have E : Hid (cmpB x.data.toList y.data.toList = 1) := by
      rw [H.out, ← ByteArray.toList_eq, ← ByteArray.toList_eq, if_neg (by rw [show less x.toList y.toList = false from h2]; simp), if_pos h1]; rfl
    clear h1 H
    go_enter Tryd.func95, Tryd.ntmps95
    go_wp2
    go_ret
    exact ⟨ret_int E.out.symm, rfl⟩

set_option maxHeartbeats 400000 in
theorem r6check_any (v : ByteArray) (d : Bool) (a e : Int) (w : World) :
    Calls Tryd.prog 54 #[.agg #[.string v, .bool d, .int .i64 a, .int .i64 e]] w fun r w' =>
      r = .returned (.bool (checkC v d a e)) ∧ Ext w w' := by
  go_enter Tryd.func54, Tryd.ntmps54
  cases d
  all_goals
    go_wp2
  all_goals
    go_ret
    refine ⟨?_, (Ext.refl w).alloc _⟩
    refine ret_bool ?_
    go_light
    simp_all [checkC, stampB] <;> omega

/-- First of five that is not 0. -/
def or5 (x y z s t : Int) : Int := if x = 0 then (if y = 0 then (if z = 0 then (if s = 0 then t else s) else z) else y) else x
theorem or5_end (v : ByteArray) (d : Bool) (a e : Int) (v' : ByteArray) (d' : Bool) (a' e' : Int) (_ : True) :
    or5 (cmpI a a') (cmpI (bit d) (bit d')) (cmpB v.data.toList v'.data.toList) (cmpI (bit (e == 0)) (bit (e' == 0))) (cmpI e e') = cmpC v d a e v' d' a' e' := by
  unfold or5 cmpC or4
  have h : (if cmpI (bit (e == 0)) (bit (e' == 0)) = 0 then cmpI e e' else cmpI (bit (e == 0)) (bit (e' == 0))) = endC e e' := by
    unfold endC
    by_cases h1 : e = 0 <;> by_cases h2 : e' = 0 <;> simp [h1, h2, cmpI, bit]
  rw [h]

set_option maxRecDepth 100000 in
set_option maxHeartbeats 1000000 in
theorem rcmp_any (v : ByteArray) (d : Bool) (a e : Int) (v' : ByteArray) (d' : Bool) (a' e' : Int) (w : World) :
    Calls Tryd.prog 85 #[.agg #[.string v, .bool d, .int .i64 a, .int .i64 e], .agg #[.string v', .bool d', .int .i64 a', .int .i64 e']] w fun r w' =>
      r = .returned (.int .i64 (cmpC v d a e v' d' a' e')) ∧ Ext w w' := by
  go_enter Tryd.func85, Tryd.ntmps85
  go_wp2
  obtain ⟨q0, hq0⟩ : ∃ q, q = cmpI a a' := ⟨_, rfl⟩
  obtain ⟨q1, hq1⟩ : ∃ q, q = cmpI (bit d) (bit d') := ⟨_, rfl⟩
  obtain ⟨q2, hq2⟩ : ∃ q, q = cmpB v.data.toList v'.data.toList := ⟨_, rfl⟩
  obtain ⟨q3, hq3⟩ : ∃ q, q = cmpI (bit (e == 0)) (bit (e' == 0)) := ⟨_, rfl⟩
  obtain ⟨q4, hq4⟩ : ∃ q, q = cmpI e e' := ⟨_, rfl⟩
  have HQ : Hid (or5 q0 q1 q2 q3 q4 = cmpC v d a e v' d' a' e') := by rw [hq0, hq1, hq2, hq3, hq4]; exact or5_end v d a e v' d' a' e' trivial
  have H0 := Lib.hid hq0.symm
  have H1 := Lib.hid hq1.symm
  have H2 := Lib.hid hq2.symm
  have H3 := Lib.hid hq3.symm
  have H4 := Lib.hid hq4.symm
  clear hq0 hq1 hq2 hq3 hq4
  refine wp_region_in 33 [(4, fun v _ => v = .int .i64 q0), (7, fun v _ => v = .int .i64 (bit d)), (10, fun v _ => v = .int .i64 (bit d')), (11, fun v _ => v = .int .i64 q1), (16, fun v _ => v = .int .i64 q2), (20, fun v _ => v = .int .i64 (bit (e == 0))), (24, fun v _ => v = .int .i64 (bit (e' == 0))), (25, fun v _ => v = .int .i64 q3), (30, fun v _ => v = .int .i64 q4), (32, fun v w1 => VarIn w1 (w.heap.size + 2) v #[.int .i64 0, .int .i64 0, .int .i64 0, .int .i64 0, .int .i64 0] 119)] (fun w0 => Ext w w0 ∧ Params w w0 v d a e v' d' a' e' ∧ w.heap.size + 2 ≤ w0.heap.size) (by kernel_rfl) (by kernel_rfl) (by kernel_rfl) ⟨stays_eq _, stays_eq _, stays_eq _, stays_eq _, stays_eq _, stays_eq _, stays_eq _, stays_eq _, stays_eq _, stays_var _ _ _, trivial⟩ ?_ ?_
  · exact ⟨((Ext.refl w).alloc _).alloc _, Params.mk' _ _ _ _ _ _ _ _ _ _, by simp⟩
  rintro w0 ⟨hX, hP, hz⟩
  have k0 := held hP.c0
  have k1 := held hP.c1
  have k2 := held hP.c2
  have k3 := held hP.c3
  have j0 := held hP.b0
  have j1 := held hP.b1
  have j2 := held hP.b2
  have j3 := held hP.b3
  clear hP
  refine rg_quiet rfl rfl rfl rfl ?_; intro K hK; go_big_quiet_op; go_big_quiet_on
  refine rg_quiet rfl rfl rfl rfl ?_; intro K hK; go_big_quiet_op; go_big_quiet_on
  refine rg_quiet rfl rfl rfl rfl ?_; intro K hK; go_big_quiet_op; go_big_quiet_on
  refine rg_quiet rfl rfl rfl rfl ?_; intro K hK; go_big_quiet_op; go_big_quiet_on
  refine rg_callv (vals := #[.int .i64 a, .int .i64 a']) [] _ rfl rfl rfl rfl Tryd.func93 rfl (by kernel_rfl) rfl (by kernel_rfl) (fun w1 hE hf => ?_) ?_
  · exact (rorder_any _ _ w1).mono fun e w' ⟨he, hw⟩ => ⟨by rw [he, H0.out], hw ▸ Ext.refl w1⟩
  simp only [Act.put, List.setIfInBounds_toArray, List.set_cons_zero, List.set_cons_succ]
  refine rg_quiet rfl rfl rfl rfl ?_; intro K hK; go_big_quiet_op; go_big_quiet_on
  refine rg_quiet rfl rfl rfl rfl ?_; intro K hK; go_big_quiet_op; go_big_quiet_on
  refine rg_callv (vals := #[.bool d]) [] _ rfl rfl rfl rfl Tryd.func94 rfl (by kernel_rfl) rfl (by kernel_rfl) (fun w1 hE hf => ?_) ?_
  · exact (rbit_any _ w1).mono fun e w' ⟨he, hw⟩ => ⟨he, hw ▸ Ext.refl w1⟩
  simp only [Act.put, List.setIfInBounds_toArray, List.set_cons_zero, List.set_cons_succ]
  refine rg_quiet rfl rfl rfl rfl ?_; intro K hK; go_big_quiet_op; go_big_quiet_on
  refine rg_quiet rfl rfl rfl rfl ?_; intro K hK; go_big_quiet_op; go_big_quiet_on
  refine rg_callv (vals := #[.bool d']) [] _ rfl rfl rfl rfl Tryd.func94 rfl (by kernel_rfl) rfl (by kernel_rfl) (fun w1 hE hf => ?_) ?_
  · exact (rbit_any _ w1).mono fun e w' ⟨he, hw⟩ => ⟨he, hw ▸ Ext.refl w1⟩
  simp only [Act.put, List.setIfInBounds_toArray, List.set_cons_zero, List.set_cons_succ]
  refine rg_callv (vals := #[.int .i64 (bit d), .int .i64 (bit d')]) [] _ rfl rfl rfl rfl Tryd.func93 rfl (by kernel_rfl) rfl (by kernel_rfl) (fun w1 hE hf => ?_) ?_
  · exact (rorder_any _ _ w1).mono fun e w' ⟨he, hw⟩ => ⟨by rw [he, H1.out], hw ▸ Ext.refl w1⟩
  simp only [Act.put, List.setIfInBounds_toArray, List.set_cons_zero, List.set_cons_succ]
  refine rg_quiet rfl rfl rfl rfl ?_; intro K hK; go_big_quiet_op; go_big_quiet_on
  refine rg_quiet rfl rfl rfl rfl ?_; intro K hK; go_big_quiet_op; go_big_quiet_on
  refine rg_quiet rfl rfl rfl rfl ?_; intro K hK; go_big_quiet_op; go_big_quiet_on
  refine rg_quiet rfl rfl rfl rfl ?_; intro K hK; go_big_quiet_op; go_big_quiet_on
  refine rg_callv (vals := #[.string v, .string v']) [] _ rfl rfl rfl rfl Tryd.func95 rfl (by kernel_rfl) rfl (by kernel_rfl) (fun w1 hE hf => ?_) ?_
  · exact (rtext_any _ _ w1).mono fun e w' ⟨he, hw⟩ => ⟨by rw [he, H2.out], hw ▸ Ext.refl w1⟩
  simp only [Act.put, List.setIfInBounds_toArray, List.set_cons_zero, List.set_cons_succ]
  refine rg_quiet rfl rfl rfl rfl ?_; intro K hK; go_big_quiet_op; go_big_quiet_on
  refine rg_quiet rfl rfl rfl rfl ?_; intro K hK; go_big_quiet_op; go_big_quiet_on
  refine rg_quiet rfl rfl rfl rfl ?_; intro K hK; go_big_quiet_op; go_big_quiet_on
  refine rg_callv (vals := #[.bool (e == 0)]) [] _ rfl rfl rfl rfl Tryd.func94 rfl (by kernel_rfl) rfl (by kernel_rfl) (fun w1 hE hf => ?_) ?_
  · exact (rbit_any _ w1).mono fun e w' ⟨he, hw⟩ => ⟨he, hw ▸ Ext.refl w1⟩
  simp only [Act.put, List.setIfInBounds_toArray, List.set_cons_zero, List.set_cons_succ]
  refine rg_quiet rfl rfl rfl rfl ?_; intro K hK; go_big_quiet_op; go_big_quiet_on
  refine rg_quiet rfl rfl rfl rfl ?_; intro K hK; go_big_quiet_op; go_big_quiet_on
  refine rg_quiet rfl rfl rfl rfl ?_; intro K hK; go_big_quiet_op; go_big_quiet_on
  refine rg_callv (vals := #[.bool (e' == 0)]) [] _ rfl rfl rfl rfl Tryd.func94 rfl (by kernel_rfl) rfl (by kernel_rfl) (fun w1 hE hf => ?_) ?_
  · exact (rbit_any _ w1).mono fun e w' ⟨he, hw⟩ => ⟨he, hw ▸ Ext.refl w1⟩
  simp only [Act.put, List.setIfInBounds_toArray, List.set_cons_zero, List.set_cons_succ]
  refine rg_callv (vals := #[.int .i64 (bit (e == 0)), .int .i64 (bit (e' == 0))]) [] _ rfl rfl rfl rfl Tryd.func93 rfl (by kernel_rfl) rfl (by kernel_rfl) (fun w1 hE hf => ?_) ?_
  · exact (rorder_any _ _ w1).mono fun e w' ⟨he, hw⟩ => ⟨by rw [he, H3.out], hw ▸ Ext.refl w1⟩
  simp only [Act.put, List.setIfInBounds_toArray, List.set_cons_zero, List.set_cons_succ]
  refine rg_quiet rfl rfl rfl rfl ?_; intro K hK; go_big_quiet_op; go_big_quiet_on
  refine rg_quiet rfl rfl rfl rfl ?_; intro K hK; go_big_quiet_op; go_big_quiet_on
  refine rg_quiet rfl rfl rfl rfl ?_; intro K hK; go_big_quiet_op; go_big_quiet_on
  refine rg_quiet rfl rfl rfl rfl ?_; intro K hK; go_big_quiet_op; go_big_quiet_on
  refine rg_callv (vals := #[.int .i64 e, .int .i64 e']) [] _ rfl rfl rfl rfl Tryd.func93 rfl (by kernel_rfl) rfl (by kernel_rfl) (fun w1 hE hf => ?_) ?_
  · exact (rorder_any _ _ w1).mono fun e w' ⟨he, hw⟩ => ⟨by rw [he, H4.out], hw ▸ Ext.refl w1⟩
  simp only [Act.put, List.setIfInBounds_toArray, List.set_cons_zero, List.set_cons_succ]
  refine rg_quiet rfl rfl rfl rfl ?_; intro K hK; go_big_quiet_op; go_big_quiet_on
  refine rel_call [] _ rfl rfl rfl rfl (fun w1 hE hf => ?_) (fun x w1 hE hG hx => ?_)
  · go_simp
    exact ⟨hE.alloc _, (Ext.refl w1).alloc _, VarIn.made w1 _ _ _ (by have := hE.le; omega)⟩
  simp only [Act.put, List.setIfInBounds_toArray, List.set_cons_zero, List.set_cons_succ]
  clear hE hG w1 hx k0 k1 k2 k3 j0 j1 j2 j3
  refine rel_tail rfl rfl fun w1 hE hG => ?_
  obtain ⟨b, rfl, hb, hw1⟩ := (hG 32).2 rfl
  have c0 : w1.cell? ⟨b, 0, none⟩ = some (.int .i64 0) := by rw [var_cell hw1]; rfl
  have c1 : w1.cell? ⟨b, 1, none⟩ = some (.int .i64 0) := by rw [var_cell hw1]; rfl
  have c2 : w1.cell? ⟨b, 2, none⟩ = some (.int .i64 0) := by rw [var_cell hw1]; rfl
  have c3 : w1.cell? ⟨b, 3, none⟩ = some (.int .i64 0) := by rw [var_cell hw1]; rfl
  have c4 : w1.cell? ⟨b, 4, none⟩ = some (.int .i64 0) := by rw [var_cell hw1]; rfl
  have cf := var_free hw1
  replace hX := hX.trans hE
  have hb' : w.heap.size ≤ b := by omega
  have hY : ∀ x0 x1 x2 x3 x4 : Value, Ext w (((((w1.setCell ⟨b, 0, none⟩ x0).setCell ⟨b, 1, none⟩ x1).setCell ⟨b, 2, none⟩ x2).setCell ⟨b, 3, none⟩ x3).setCell ⟨b, 4, none⟩ x4) :=
    fun _ _ _ _ _ => ((((hX.setCell hb' _).setCell hb' _).setCell hb' _).setCell hb' _).setCell hb' _
  replace hY := hY (.int .i64 q0) (.int .i64 q1) (.int .i64 q2) (.int .i64 q3) (.int .i64 q4)
  clear hG hE hw1 hX hz H0 H1 H2 H3 H4
  unfold or5 at HQ
  by_cases h0 : q0 = 0
  · have g0 : ((q0 : Int) != 0) = false := by simpa using h0
    rw [if_pos h0] at HQ
    clear h0
    by_cases h1 : q1 = 0
    · have g1 : ((q1 : Int) != 0) = false := by simpa using h1
      rw [if_pos h1] at HQ
      clear h1
      by_cases h2 : q2 = 0
      · have g2 : ((q2 : Int) != 0) = false := by simpa using h2
        rw [if_pos h2] at HQ
        clear h2
        by_cases h3 : q3 = 0
        · have g3 : ((q3 : Int) != 0) = false := by simpa using h3
          rw [if_pos h3] at HQ
          clear h3
          by_cases h4 : q4 = 0
          · have g4 : ((q4 : Int) != 0) = false := by simpa using h4
            rw [h4] at HQ
            clear h4
            go_wp2
            refine wp_loop_rounds 6 ?_
            rw [rounds_succ]
            go_wp2
            rw [rounds_succ]
            go_wp2
            rw [rounds_succ]
            go_wp2
            rw [rounds_succ]
            go_wp2
            rw [rounds_succ]
            go_wp2
            rw [rounds_succ]
            go_wp2
            go_ret
            exact ⟨ret_int HQ.out, hY⟩
          · have g4 : ((q4 : Int) != 0) = true := by simpa using h4
            clear h4
            go_wp2
            refine wp_loop_rounds 5 ?_
            rw [rounds_succ]
            go_wp2
            rw [rounds_succ]
            go_wp2
            rw [rounds_succ]
            go_wp2
            rw [rounds_succ]
            go_wp2
            rw [rounds_succ]
            go_wp2
            go_ret
            exact ⟨ret_int HQ.out, hY⟩
        · have g3 : ((q3 : Int) != 0) = true := by simpa using h3
          rw [if_neg h3] at HQ
          clear h3
          go_wp2
          refine wp_loop_rounds 4 ?_
          rw [rounds_succ]
          go_wp2
          rw [rounds_succ]
          go_wp2
          rw [rounds_succ]
          go_wp2
          rw [rounds_succ]
          go_wp2
          go_ret
          exact ⟨ret_int HQ.out, hY⟩
      · have g2 : ((q2 : Int) != 0) = true := by simpa using h2
        rw [if_neg h2] at HQ
        clear h2
        go_wp2
        refine wp_loop_rounds 3 ?_
        rw [rounds_succ]
        go_wp2
        rw [rounds_succ]
        go_wp2
        rw [rounds_succ]
        go_wp2
        go_ret
        exact ⟨ret_int HQ.out, hY⟩
    · have g1 : ((q1 : Int) != 0) = true := by simpa using h1
      rw [if_neg h1] at HQ
      clear h1
      go_wp2
      refine wp_loop_rounds 2 ?_
      rw [rounds_succ]
      go_wp2
      rw [rounds_succ]
      go_wp2
      go_ret
      exact ⟨ret_int HQ.out, hY⟩
  · have g0 : ((q0 : Int) != 0) = true := by simpa using h0
    rw [if_neg h0] at HQ
    clear h0
    go_wp2
    refine wp_loop_rounds 1 ?_
    rw [rounds_succ]
    go_wp2
    go_ret
    exact ⟨ret_int HQ.out, hY⟩

set_option maxHeartbeats 400000 in
theorem rjoin_any (v : ByteArray) (d : Bool) (a e : Int) (v' : ByteArray) (d' : Bool) (a' e' : Int) (w : World) :
    Calls Tryd.prog 57 #[.agg #[.string v, .bool d, .int .i64 a, .int .i64 e], .agg #[.string v', .bool d', .int .i64 a', .int .i64 e']] w fun r w' =>
      r = .returned (if cmpC v d a e v' d' a' e' < 0 then .agg #[.string v', .bool d', .int .i64 a', .int .i64 e'] else .agg #[.string v, .bool d, .int .i64 a, .int .i64 e]) ∧ Ext w w' := by
  by_cases h : cmpC v d a e v' d' a' e' < 0
  · rw [if_pos h]
    go_enter Tryd.func57, Tryd.ntmps57
    go_wp2_with (go_at_call 85; go_must (refine (rcmp_any _ _ _ _ _ _ _ _ _).mono ?_); rintro r w1 ⟨rfl, hE⟩; obtain ⟨hc, hf⟩ := And.intro hE.cells hE.frozens)
    refine bodyPost_ret (v := .agg #[.string v', .bool d', .int .i64 a', .int .i64 e']) (by simp [results, Tryd.results57, go_sem, hc]) rfl ⟨rfl, ?_⟩
    have hX := ((((Ext.refl w).alloc _).alloc _).alloc _).trans hE
    exact (((hX.setCell (Nat.le_add_right _ 2) _).setCell (Nat.le_add_right _ 2) _).setCell (Nat.le_add_right _ 2) _).setCell (Nat.le_add_right _ 2) _
  · rw [if_neg h]
    go_enter Tryd.func57, Tryd.ntmps57
    go_wp2_with (go_at_call 85; go_must (refine (rcmp_any _ _ _ _ _ _ _ _ _).mono ?_); rintro r w1 ⟨rfl, hE⟩; obtain ⟨hc, hf⟩ := And.intro hE.cells hE.frozens)
    refine bodyPost_ret (v := .agg #[.string v, .bool d, .int .i64 a, .int .i64 e]) (by simp [results, Tryd.results57, go_sem, hc]) rfl ⟨rfl, ?_⟩
    have hX := ((((Ext.refl w).alloc _).alloc _).alloc _).trans hE
    exact (((hX.setCell (Nat.le_add_right _ 2) _).setCell (Nat.le_add_right _ 2) _).setCell (Nat.le_add_right _ 2) _).setCell (Nat.le_add_right _ 2) _

set_option maxHeartbeats 400000 in
theorem rsame_any (v : ByteArray) (d : Bool) (a e : Int) (v' : ByteArray) (d' : Bool) (a' e' : Int) (w : World) :
    Calls Tryd.prog 24 #[.agg #[.string v, .bool d, .int .i64 a, .int .i64 e], .agg #[.string v', .bool d', .int .i64 a', .int .i64 e']] w fun r w' =>
      r = .returned (.bool (sameC v d a e v' d' a' e')) ∧ Ext w w' := by
  go_enter Tryd.func24, Tryd.ntmps24
  go_wp2
  all_goals
    go_ret
    refine ⟨?_, ((Ext.refl w).alloc _).alloc _⟩
    refine ret_bool ?_
    simp [sameC, *]
end Go.Proofs.YteamiiekpjoclaaDoor

/- Cells as one thing: their joins, their order; the plain laws; the walks again, so said. -/
namespace Go.Proofs.YteamiiekpjoclaaDoor
open Go Go.RowKit

def cmpCl (x y : Cl) : Int := cmpC x.val x.dead x.at_ x.fin y.val y.dead y.at_ y.fin
def joinCl (x y : Cl) : Cl := if cmpCl x y < 0 then y else x
def sameCl (x y : Cl) : Bool := sameC x.val x.dead x.at_ x.fin y.val y.dead y.at_ y.fin

theorem join_c (v : ByteArray) (d : Bool) (a e : Int) (v' : ByteArray) (d' : Bool) (a' e' : Int) (w : World) :
    Calls Tryd.prog 63 #[.agg #[.string v, .bool d, .int .i64 a, .int .i64 e], .agg #[.string v', .bool d', .int .i64 a', .int .i64 e']] w fun r w' =>
      r = .returned (.agg #[.string (joinCl ⟨v, d, a, e⟩ ⟨v', d', a', e'⟩).val, .bool (joinCl ⟨v, d, a, e⟩ ⟨v', d', a', e'⟩).dead, .int .i64 (joinCl ⟨v, d, a, e⟩ ⟨v', d', a', e'⟩).at_, .int .i64 (joinCl ⟨v, d, a, e⟩ ⟨v', d', a', e'⟩).fin]) ∧ Ext w w' :=
  (join_any v d a e v' d' a' e' w).mono fun r w' h => ⟨by
    rw [h.1]
    unfold joinCl cmpCl
    split <;> rfl, h.2⟩

/-! ### The order of cells -/
theorem cmpI_anti (x y : Int) : cmpI y x = -cmpI x y := by unfold cmpI; split <;> split <;> (try split) <;> (try split) <;> omega
theorem cmpI_zero {x y : Int} (h : cmpI x y = 0) : x = y := by unfold cmpI at h; split at h <;> (try split at h) <;> omega
theorem cmpI_self (x : Int) : cmpI x x = 0 := by unfold cmpI; split <;> (try split) <;> omega
theorem cmpI_trans {x y z : Int} (h1 : cmpI x y ≤ 0) (h2 : cmpI y z ≤ 0) : cmpI x z ≤ 0 := by
  unfold cmpI at *
  split at h1 <;> split at h2 <;> (try split at h1) <;> (try split at h2) <;> split <;> (try split) <;> omega
theorem cmpB_anti (l m : List UInt8) : cmpB m l = -cmpB l m := by
  rw [cmpB_less, cmpB_less]
  rcases less_tri l m with h | h | h
  · rw [h, less_asymm h]; rfl
  · subst h; rw [less_irrefl]; rfl
  · rw [h, less_asymm h]; rfl
theorem cmpB_zero {l m : List UInt8} (h : cmpB l m = 0) : l = m := by
  rw [cmpB_less] at h
  rcases less_tri l m with g | g | g
  · rw [g] at h; simp at h
  · exact g
  · rw [g, less_asymm g] at h; simp at h
theorem cmpB_self (l : List UInt8) : cmpB l l = 0 := by rw [cmpB_less, less_irrefl]; rfl
theorem cmpB_le {l m : List UInt8} : cmpB l m ≤ 0 ↔ less m l = false := by
  rw [cmpB_less]
  rcases less_tri l m with h | h | h
  · rw [h, less_asymm h]; simp
  · subst h; rw [less_irrefl]; simp
  · rw [h, less_asymm h]; simp
theorem cmpB_trans {x y z : List UInt8} (h1 : cmpB x y ≤ 0) (h2 : cmpB y z ≤ 0) : cmpB x z ≤ 0 := by
  rw [cmpB_le] at *
  cases h : less z x with
  | false => rfl
  | true =>
    rcases less_tri y x with g | g | g
    · rw [h1] at g; cases g
    · subst g; rw [h2] at h; cases h
    · rw [less_trans h g] at h2; cases h2
theorem cmpB_small (l m : List UInt8) : -1 ≤ cmpB l m ∧ cmpB l m ≤ 1 := by rw [cmpB_less]; split <;> (try split) <;> omega
theorem cmpI_small (l m : Int) : -1 ≤ cmpI l m ∧ cmpI l m ≤ 1 := by unfold cmpI; split <;> (try split) <;> omega
theorem bit_inj {a b : Bool} (h : bit a = bit b) : a = b := by cases a <;> cases b <;> simp [bit] at h ⊢

/-- The end, as a number by which it is compared: none is above all. -/
theorem endC_anti (x y : Int) : endC y x = -endC x y := by
  unfold endC
  by_cases hx : x = 0 <;> by_cases hy : y = 0 <;> simp [hx, hy, cmpI, bit]
  exact cmpI_anti x y
theorem endC_zero {x y : Int} (h : endC x y = 0) : x = y := by
  unfold endC at h
  by_cases hx : x = 0 <;> by_cases hy : y = 0 <;> simp [hx, hy, cmpI, bit] at h ⊢
  exact cmpI_zero h
theorem endC_self (x : Int) : endC x x = 0 := by
  unfold endC
  by_cases hx : x = 0 <;> simp [hx, cmpI, bit]
theorem endC_trans {x y z : Int} (h1 : endC x y ≤ 0) (h2 : endC y z ≤ 0) : endC x z ≤ 0 := by
  unfold endC at *
  by_cases hx : x = 0 <;> by_cases hy : y = 0 <;> by_cases hz : z = 0 <;> simp [hx, hy, hz, cmpI, bit] at h1 h2 ⊢
  exact cmpI_trans h1 h2

theorem cmpCl_anti (x y : Cl) : cmpCl y x = -cmpCl x y := by
  unfold cmpCl cmpC or4
  rw [cmpI_anti x.at_ y.at_, cmpI_anti (bit x.dead) (bit y.dead), cmpB_anti x.val.data.toList y.val.data.toList, endC_anti x.fin y.fin]
  simp only [Int.neg_eq_zero]
  split
  · split
    · split <;> rfl
    · rfl
  · rfl
theorem cmpCl_zero {x y : Cl} (h : cmpCl x y = 0) : x = y := by
  unfold cmpCl cmpC or4 at h
  split at h
  · rename_i h1
    split at h
    · rename_i h2
      split at h
      · rename_i h3
        have e1 := cmpI_zero h1
        have e2 := bit_inj (cmpI_zero h2)
        have e3 : x.val = y.val := ByteArray.ext (Array.toList_inj.1 (cmpB_zero h3))
        have e4 := endC_zero h
        cases x; cases y
        simp at e1 e2 e3 e4
        subst e1 e2 e3 e4
        rfl
      · exact absurd h ‹_›
    · exact absurd h ‹_›
  · exact absurd h ‹_›
theorem cmpCl_self (x : Cl) : cmpCl x x = 0 := by unfold cmpCl cmpC or4; simp [cmpI_self, cmpB_self, endC_self]
theorem or4_le {a b c d : Int} : or4 a b c d ≤ 0 ↔ a < 0 ∨ a = 0 ∧ (b < 0 ∨ b = 0 ∧ (c < 0 ∨ c = 0 ∧ d ≤ 0)) := by
  unfold or4
  split
  · split
    · split <;> omega
    · omega
  · omega
theorem strict3 {α : Type} {c : α → α → Int} (anti : ∀ x y, c y x = -c x y) (zero : ∀ {x y}, c x y = 0 → x = y) (trans : ∀ {x y z}, c x y ≤ 0 → c y z ≤ 0 → c x z ≤ 0) {x y z : α} (h1 : c x y ≤ 0) (h2 : c y z ≤ 0) :
    c x z ≤ 0 ∧ (c x z = 0 → c x y = 0 ∧ c y z = 0) := by
  refine ⟨trans h1 h2, fun h => ?_⟩
  have e := zero h
  subst e
  have := anti x y
  omega
theorem cmpCl_trans {x y z : Cl} (h1 : cmpCl x y ≤ 0) (h2 : cmpCl y z ≤ 0) : cmpCl x z ≤ 0 := by
  unfold cmpCl cmpC at *
  rw [or4_le] at *
  have t1 := @strict3 Int cmpI cmpI_anti (fun h => cmpI_zero h) (fun a b => cmpI_trans a b) x.at_ y.at_ z.at_
  have t2 := @strict3 Int cmpI cmpI_anti (fun h => cmpI_zero h) (fun a b => cmpI_trans a b) (bit x.dead) (bit y.dead) (bit z.dead)
  have t3 := @strict3 (List UInt8) cmpB cmpB_anti (fun h => cmpB_zero h) (fun a b => cmpB_trans a b) x.val.data.toList y.val.data.toList z.val.data.toList
  have t4 := @endC_trans x.fin y.fin z.fin
  generalize cmpI x.at_ y.at_ = a1 at *
  generalize cmpI y.at_ z.at_ = a2 at *
  generalize cmpI x.at_ z.at_ = a3 at *
  generalize cmpI (bit x.dead) (bit y.dead) = b1 at *
  generalize cmpI (bit y.dead) (bit z.dead) = b2 at *
  generalize cmpI (bit x.dead) (bit z.dead) = b3 at *
  generalize cmpB x.val.data.toList y.val.data.toList = c1 at *
  generalize cmpB y.val.data.toList z.val.data.toList = c2 at *
  generalize cmpB x.val.data.toList z.val.data.toList = c3 at *
  generalize endC x.fin y.fin = d1 at *
  generalize endC y.fin z.fin = d2 at *
  generalize endC x.fin z.fin = d3 at *
  have t1 := t1 (by omega) (by omega)
  by_cases k1 : a3 = 0
  · have := t1.2 k1
    have t2 := t2 (by omega) (by omega)
    by_cases k2 : b3 = 0
    · have := t2.2 k2
      have t3 := t3 (by omega) (by omega)
      by_cases k3 : c3 = 0
      · have := t3.2 k3
        have t4 := t4 (by omega) (by omega)
        omega
      · omega
    · omega
  · omega
/-! ### Joins -/
theorem joinCl_comm (x y : Cl) : joinCl x y = joinCl y x := by
  unfold joinCl
  have h := cmpCl_anti x y
  by_cases h1 : cmpCl x y < 0
  · rw [if_pos h1, if_neg (by omega)]
  · by_cases h2 : cmpCl y x < 0
    · rw [if_neg h1, if_pos h2]
    · rw [if_neg h1, if_neg h2]; exact cmpCl_zero (by omega)
theorem joinCl_self (x : Cl) : joinCl x x = x := by unfold joinCl; split <;> rfl
theorem joinCl_or (x y : Cl) : joinCl x y = x ∨ joinCl x y = y := by unfold joinCl; split <;> simp
theorem le_joinCl_left (x y : Cl) : 0 ≤ cmpCl (joinCl x y) x := by
  unfold joinCl
  have h := cmpCl_anti x y
  split
  · omega
  · rw [cmpCl_self]; omega
theorem le_joinCl_right (x y : Cl) : 0 ≤ cmpCl (joinCl x y) y := by rw [joinCl_comm]; exact le_joinCl_left y x
/-- The join is the least that is above both. -/
theorem joinCl_le {x y z : Cl} (h1 : cmpCl x z ≤ 0) (h2 : cmpCl y z ≤ 0) : cmpCl (joinCl x y) z ≤ 0 := by
  rcases joinCl_or x y with h | h <;> rw [h] <;> assumption
theorem le_antisymm {x y : Cl} (h1 : cmpCl x y ≤ 0) (h2 : cmpCl y x ≤ 0) : x = y := cmpCl_zero (by have := cmpCl_anti x y; omega)
theorem ge_le {x y : Cl} (h : 0 ≤ cmpCl x y) : cmpCl y x ≤ 0 := by have := cmpCl_anti x y; omega
theorem joinCl_assoc (x y z : Cl) : joinCl (joinCl x y) z = joinCl x (joinCl y z) := by
  have a1 := ge_le (le_joinCl_left x y)
  have a2 := ge_le (le_joinCl_right x y)
  have a3 := ge_le (le_joinCl_left (joinCl x y) z)
  have a4 := ge_le (le_joinCl_right (joinCl x y) z)
  have b1 := ge_le (le_joinCl_left y z)
  have b2 := ge_le (le_joinCl_right y z)
  have b3 := ge_le (le_joinCl_left x (joinCl y z))
  have b4 := ge_le (le_joinCl_right x (joinCl y z))
  exact le_antisymm (joinCl_le (joinCl_le b3 (cmpCl_trans b1 b4)) (cmpCl_trans b2 b4)) (joinCl_le (cmpCl_trans a1 a3) (joinCl_le (cmpCl_trans a2 a3) a4))
theorem joinCl_again (x y : Cl) : joinCl (joinCl x y) x = joinCl x y := by
  rw [joinCl_comm (joinCl x y) x, ← joinCl_assoc, joinCl_self]
theorem sameCl_iff (x y : Cl) : sameCl x y = true ↔ x = y := by
  unfold sameCl sameC
  simp only [Bool.and_eq_true, beq_iff_eq]
  constructor
  · rintro ⟨⟨⟨e3, e2⟩, e1⟩, e4⟩
    rw [ByteArray.toList_eq, ByteArray.toList_eq] at e3
    replace e3 : x.val = y.val := ByteArray.ext (Array.toList_inj.1 e3)
    cases x; cases y
    simp at e1 e2 e3 e4
    subst e1 e2 e3 e4
    rfl
  · rintro rfl; simp

theorem rjoin_c (v : ByteArray) (d : Bool) (a e : Int) (v' : ByteArray) (d' : Bool) (a' e' : Int) (w : World) :
    Calls Tryd.prog 57 #[.agg #[.string v, .bool d, .int .i64 a, .int .i64 e], .agg #[.string v', .bool d', .int .i64 a', .int .i64 e']] w fun r w' =>
      r = .returned (.agg #[.string (joinCl ⟨v, d, a, e⟩ ⟨v', d', a', e'⟩).val, .bool (joinCl ⟨v, d, a, e⟩ ⟨v', d', a', e'⟩).dead, .int .i64 (joinCl ⟨v, d, a, e⟩ ⟨v', d', a', e'⟩).at_, .int .i64 (joinCl ⟨v, d, a, e⟩ ⟨v', d', a', e'⟩).fin]) ∧ Ext w w' :=
  (rjoin_any v d a e v' d' a' e' w).mono fun r w' h => ⟨by
    rw [h.1]
    unfold joinCl cmpCl
    split <;> rfl, h.2⟩
theorem rsame_c (v : ByteArray) (d : Bool) (a e : Int) (v' : ByteArray) (d' : Bool) (a' e' : Int) (w : World) :
    Calls Tryd.prog 24 #[.agg #[.string v, .bool d, .int .i64 a, .int .i64 e], .agg #[.string v', .bool d', .int .i64 a', .int .i64 e']] w fun r w' =>
      r = .returned (.bool (sameCl ⟨v, d, a, e⟩ ⟨v', d', a', e'⟩)) ∧ Ext w w' := rsame_any v d a e v' d' a' e' w
theorem rcmp_c (v : ByteArray) (d : Bool) (a e : Int) (v' : ByteArray) (d' : Bool) (a' e' : Int) (w : World) :
    Calls Tryd.prog 85 #[.agg #[.string v, .bool d, .int .i64 a, .int .i64 e], .agg #[.string v', .bool d', .int .i64 a', .int .i64 e']] w fun r w' =>
      r = .returned (.int .i64 (cmpCl ⟨v, d, a, e⟩ ⟨v', d', a', e'⟩)) ∧ Ext w w' := rcmp_any v d a e v' d' a' e' w
end Go.Proofs.YteamiiekpjoclaaDoor
