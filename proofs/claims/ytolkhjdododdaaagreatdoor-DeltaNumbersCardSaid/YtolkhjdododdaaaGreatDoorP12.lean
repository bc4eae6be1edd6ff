/- Contracts of the library, laid at this program: strings.Compare, cmp.Compare: each is one application of a theorem of the shelf (the text is the tool's, its numbers by name). -/
import Derived.Shelf.Small.Strs
import Derived.Shelf.Small.Wraps
import Derived.Shelf.Strconv.Itoa0
import Derived.Test.YtolkhjdododdaaaGreatDoorProg
import Derived.Test.YtolkhjdododdaaaGreatDoorP10
import Derived.Test.YtolkhjdododdaaaGreatDoorP5
import Derived.Test.YtolkhjdododdaaaGreatDoorP7
import Derived.Deep.Light
import Derived.Test.YtolkhjdododdaaaGreatDoorP11
set_option linter.unusedSimpArgs false
set_option linter.unusedVariables false
namespace Go.Proofs
open Go.Shelf
def Tryz.lays106_ren : Go.Shelf.Ren := ⟨fun | 106 => 65 | 213 => 91 | 265 => 102 | n => n, fun | 9 => 9 | 3 => 3 | n => n, fun | n => n⟩
theorem Tryz.lays106 : Go.Proofs.Lays.n106 Tryz.prog Tryz.lays106_ren := {
 mixed := by kernel_rfl
 f106 := Tryz.func65.trans (congrArg some (by kernel_rfl))
 f213 := Tryz.func91.trans (congrArg some (by kernel_rfl))
 f265 := Tryz.func102.trans (congrArg some (by kernel_rfl))
 t3 := Tryz.underlying3
 a3 := Tryz.isAgg3
 z3 := Tryz.sizeOf3
 v3 := Tryz.zeroValue3
 t9 := Tryz.underlying9
 a9 := Tryz.isAgg9
 z9 := Tryz.sizeOf9
 v9 := Tryz.zeroValue9 }
open Go.RowKit in
theorem Tryz.strings_Compare (a b : ByteArray) (w : World) :
  Calls Tryz.prog 65 #[.string a, .string b] w fun e w' => e = .returned (.int .i64 (Lib.compareBytes a.data.toList b.data.toList)) ∧ w' = w := Any.strings_Compare Tryz.lays106 a b w
def Tryz.lays122_ren : Go.Shelf.Ren := ⟨fun | 122 => 103 | 215 => 116 | n => n, fun | 3 => 3 | 4 => 4 | n => n, fun | n => n⟩
theorem Tryz.lays122 : Go.Proofs.Lays.n122 Tryz.prog Tryz.lays122_ren := {
 mixed := by kernel_rfl
 f122 := Tryz.func103.trans (congrArg some (by kernel_rfl))
 f215 := Tryz.func116.trans (congrArg some (by kernel_rfl))
 t3 := Tryz.underlying3
 a3 := Tryz.isAgg3
 z3 := Tryz.sizeOf3
 v3 := Tryz.zeroValue3
 t4 := Tryz.underlying4
 a4 := Tryz.isAgg4
 z4 := Tryz.sizeOf4
 v4 := Tryz.zeroValue4 }
open Go.RowKit in
theorem Tryz.cmp_Compare_int (x y : Int) (w : World) :
  Calls Tryz.prog 103 #[.int .i64 x, .int .i64 y] w fun e w' => e = .returned (.int .i64 (Lib.compareInt x y)) ∧ w' = w := Any.cmp_Compare_int Tryz.lays122 x y w
end Go.Proofs

/- The walks over cell.Cmp, cell.Join. -/
namespace Go.Proofs.YtolkhjdododdaaaGreatDoor
open Go Go.RowKit
theorem cmpCompare_any (x y : Int) (w : World) : Calls Tryz.prog 103 #[.int .i64 x, .int .i64 y] w fun e w' => e = .returned (.int .i64 (cmpI x y)) ∧ w = w' :=
 (Tryz.cmp_Compare_int x y w).mono fun _ _ h => ⟨h.1, h.2.symm⟩
theorem strCompare_any (x y : ByteArray) (w : World) : Calls Tryz.prog 65 #[.string x, .string y] w fun e w' => e = .returned (.int .i64 (cmpB x.data.toList y.data.toList)) ∧ w = w' :=
 (Tryz.strings_Compare x y w).mono fun _ _ h => ⟨h.1, h.2.symm⟩

set_option maxHeartbeats 400000 in
theorem truth_any (b : Bool) (w : World) : Calls Tryz.prog 104 #[.bool b] w fun e w' => e = .returned (.int .i64 (bit b)) ∧ w = w' := by
 cases b
 all_goals
  go_enter Tryz.func104, Tryz.ntmps104
  go_wp2
  go_ret
  exact ⟨rfl, rfl⟩

set_option maxHeartbeats 400000 in
theorem cmpOr_any (x y z t : Int) (v : Value) (w : World) (hv : SliceIn w v 4 [.int .i64 x, .int .i64 y, .int .i64 z, .int .i64 t]) :
  Calls Tryz.prog 105 #[v] w fun e w' => e = .returned (.int .i64 (or4 x y z t)) ∧ w = w' := by
 obtain ⟨a, c, rfl, hc, hcm, ha, hcell⟩ := hv
 obtain ⟨b, o, rfl, h0⟩ := hcell 0 _ rfl
 obtain ⟨b1, o1, e1, h1⟩ := hcell 1 _ rfl
 obtain ⟨b2, o2, e2, h2⟩ := hcell 2 _ rfl
 obtain ⟨b3, o3, e3, h3⟩ := hcell 3 _ rfl
 cases e1; cases e2; cases e3
 rw [Nat.add_zero] at h0
 clear hcell ha
 unfold or4
 by_cases hx : x = 0
 ·subst hx
  rw [if_pos rfl]
  by_cases hy : y = 0
  ·subst hy
   rw [if_pos rfl]
   by_cases hz : z = 0
   ·subst hz
    rw [if_pos rfl]
    by_cases ht : t = 0
    ·subst ht
     go_enter Tryz.func105, Tryz.ntmps105
     go_wp2
     refine wp_loop_rounds 5 ?_
     rw [rounds_succ]
     go_wp2
     rw [rounds_succ]
     go_wp2
     rw [rounds_succ]
     go_wp2
     rw [rounds_succ]
     go_wp2
     rw [rounds_succ]
     go_wp2
     go_ret
     exact ⟨rfl, rfl⟩
    ·have ht' : ((t : Int) != 0) = true := by simpa using ht
     go_enter Tryz.func105, Tryz.ntmps105
     go_wp2
     refine wp_loop_rounds 4 ?_
     rw [rounds_succ]
     go_wp2
     rw [rounds_succ]
     go_wp2
     rw [rounds_succ]
     go_wp2
     rw [rounds_succ]
     go_wp2
     go_ret
     exact ⟨rfl, rfl⟩
   ·have hz' : ((z : Int) != 0) = true := by simpa using hz
    rw [if_neg hz]
    go_enter Tryz.func105, Tryz.ntmps105
    go_wp2
    refine wp_loop_rounds 3 ?_
    rw [rounds_succ]
    go_wp2
    rw [rounds_succ]
    go_wp2
    rw [rounds_succ]
    go_wp2
    go_ret
    exact ⟨rfl, rfl⟩
  ·have hy' : ((y : Int) != 0) = true := by simpa using hy
   rw [if_neg hy]
   go_enter Tryz.func105, Tryz.ntmps105
   go_wp2
   refine wp_loop_rounds 2 ?_
   rw [rounds_succ]
   go_wp2
   rw [rounds_succ]
   go_wp2
   go_ret
   exact ⟨rfl, rfl⟩
 ·have hx' : ((x : Int) != 0) = true := by simpa using hx
  rw [if_neg hx]
  go_enter Tryz.func105, Tryz.ntmps105
  go_wp2
  refine wp_loop_rounds 1 ?_
  rw [rounds_succ]
  go_wp2
  go_ret
  exact ⟨rfl, rfl⟩

attribute [local go_sem] yields yUpon
set_option maxRecDepth 100000 in
set_option maxHeartbeats 1000000 in
theorem cmp_any (v : ByteArray) (d : Bool) (a e : Int) (v' : ByteArray) (d' : Bool) (a' e' : Int) (w : World) :
  Calls Tryz.prog 92 #[.agg #[.string v, .bool d, .int .i64 a, .int .i64 e], .agg #[.string v', .bool d', .int .i64 a', .int .i64 e']] w fun r w' =>
   r = .returned (.int .i64 (cmpC v d a e v' d' a' e')) ∧ Ext w w' := by
 go_enter Tryz.func92, Tryz.ntmps92
 rcases (show (e == 0) = true ∨ (e == 0) = false ∧ (e' == 0) = true ∨ (e == 0) = false ∧ (e' == 0) = false by cases e == 0 <;> cases e' == 0 <;> simp) with he | ⟨he, he'⟩ | ⟨he, he'⟩
 ·have HE := Lib.hid (endC_one (e' := e') he)
  go_wp2_with (go_at_call 103; go_must (refine (cmpCompare_any _ _ _).mono ?_); rintro r w1 ⟨rfl, rfl⟩)
  refine wp_region_in 10 [(3, fun v _ => v = .int .i64 (bit true)), (7, fun v _ => v = .int .i64 (bit (e' == 0))), (8, fun v _ => v = .int .i64 (endC e e'))] (fun w0 => Ext w w0 ∧ Params w w0 v d a e v' d' a' e') (by kernel_rfl) (by kernel_rfl) (by kernel_rfl) ⟨stays_eq _, stays_eq _, stays_eq _, trivial⟩ ?_ ?_
  ·exact ⟨((Ext.refl w).alloc _).alloc _, Params.mk' _ _ _ _ _ _ _ _ _ _⟩
  rintro w0 ⟨hX, hP⟩
  have k3 := held hP.c3
  have k3' := held hP.b3
  refine rg_quiet rfl rfl rfl rfl ?_; intro K hK; go_big_quiet_op; go_big_quiet_on
  refine rg_quiet rfl rfl rfl rfl ?_; intro K hK; go_big_quiet_op; go_big_quiet_on
  refine rg_quiet rfl rfl rfl rfl ?_; intro K hK; go_big_quiet_op; go_big_quiet_on
  refine rg_callv (vals := #[.bool true]) [] _ rfl rfl rfl rfl Tryz.func104 rfl (by kernel_rfl) rfl (by kernel_rfl) (fun w1 hE hf => ?_) ?_
  ·exact (truth_any _ w1).mono fun e w' ⟨he, hw⟩ => ⟨he, hw ▸ Ext.refl w1⟩
  simp only [Act.put, List.setIfInBounds_toArray, List.set_cons_zero, List.set_cons_succ]
  refine rg_quiet rfl rfl rfl rfl ?_; intro K hK; go_big_quiet_op; go_big_quiet_on
  refine rg_quiet rfl rfl rfl rfl ?_; intro K hK; go_big_quiet_op; go_big_quiet_on
  refine rg_quiet rfl rfl rfl rfl ?_; intro K hK; go_big_quiet_op; go_big_quiet_on
  refine rg_callv (vals := #[.bool (e' == 0)]) [] _ rfl rfl rfl rfl Tryz.func104 rfl (by kernel_rfl) rfl (by kernel_rfl) (fun w1 hE hf => ?_) ?_
  ·exact (truth_any _ w1).mono fun e w' ⟨he, hw⟩ => ⟨he, hw ▸ Ext.refl w1⟩
  simp only [Act.put, List.setIfInBounds_toArray, List.set_cons_zero, List.set_cons_succ]
  refine rg_callv (vals := #[.int .i64 (bit true), .int .i64 (bit (e' == 0))]) [] _ rfl rfl rfl rfl Tryz.func103 rfl (by kernel_rfl) rfl (by kernel_rfl) (fun w1 hE hf => ?_) ?_
  ·exact (cmpCompare_any _ _ w1).mono fun e w' ⟨he, hw⟩ => ⟨by rw [he, HE.out], hw ▸ Ext.refl w1⟩
  simp only [Act.put, List.setIfInBounds_toArray, List.set_cons_zero, List.set_cons_succ]
  refine rg_quiet rfl rfl rfl rfl ?_; intro K hK; go_big_quiet_op; go_big_quiet_on
  refine rel_nil fun w2 hE2 _ => ?_
  replace hP := hP.ext hE2
  replace hX := hX.trans hE2
  clear k3 k3' hE2 he HE
  go_wp2_with fail
  obtain ⟨q0, hq0⟩ : ∃ q, q = cmpI a a' := ⟨_, rfl⟩
  obtain ⟨q1, hq1⟩ : ∃ q, q = cmpI (bit d) (bit d') := ⟨_, rfl⟩
  obtain ⟨q2, hq2⟩ : ∃ q, q = cmpB v.data.toList v'.data.toList := ⟨_, rfl⟩
  have HQ : Hid (or4 q0 q1 q2 (endC e e') = cmpC v d a e v' d' a' e') := by rw [hq0, hq1, hq2]; rfl
  have H0 := Lib.hid hq0.symm
  have H1 := Lib.hid hq1.symm
  have H2 := Lib.hid hq2.symm
  clear hq0 hq1 hq2
  refine wp_region_in 21 [(4, fun v _ => v = .int .i64 q0), (7, fun v _ => v = .int .i64 (bit d)), (10, fun v _ => v = .int .i64 (bit d')), (11, fun v _ => v = .int .i64 q1), (16, fun v _ => v = .int .i64 q2), (18, fun v w => SliceIn w v 4 [.int .i64 q0, .int .i64 q1, .int .i64 q2, .int .i64 (endC e e')]), (19, fun x _ => x = .int .i64 (or4 q0 q1 q2 (endC e e')))] (fun w0 => Ext w w0 ∧ Params w w0 v d a e v' d' a' e') (by kernel_rfl) (by kernel_rfl) (by kernel_rfl) ⟨stays_eq _, stays_eq _, stays_eq _, stays_eq _, stays_eq _, stays_slice _ _, stays_eq _, trivial⟩ ?_ ?_
  ·exact ⟨hX, hP⟩
  clear hX hP
  rintro w0 ⟨hX, hP⟩
  have k0 := held hP.c0
  have k1 := held hP.c1
  have k2 := held hP.c2
  have j0 := held hP.b0
  have j1 := held hP.b1
  have j2 := held hP.b2
  clear hP
  refine rg_quiet rfl rfl rfl rfl ?_; intro K hK; go_big_quiet_op; go_big_quiet_on
  refine rg_quiet rfl rfl rfl rfl ?_; intro K hK; go_big_quiet_op; go_big_quiet_on
  refine rg_quiet rfl rfl rfl rfl ?_; intro K hK; go_big_quiet_op; go_big_quiet_on
  refine rg_quiet rfl rfl rfl rfl ?_; intro K hK; go_big_quiet_op; go_big_quiet_on
  refine rg_callv (vals := #[.int .i64 a, .int .i64 a']) [] _ rfl rfl rfl rfl Tryz.func103 rfl (by kernel_rfl) rfl (by kernel_rfl) (fun w1 hE hf => ?_) ?_
  ·exact (cmpCompare_any _ _ w1).mono fun e w' ⟨he, hw⟩ => ⟨by rw [he, H0.out], hw ▸ Ext.refl w1⟩
  simp only [Act.put, List.setIfInBounds_toArray, List.set_cons_zero, List.set_cons_succ]
  refine rg_quiet rfl rfl rfl rfl ?_; intro K hK; go_big_quiet_op; go_big_quiet_on
  refine rg_quiet rfl rfl rfl rfl ?_; intro K hK; go_big_quiet_op; go_big_quiet_on
  refine rg_callv (vals := #[.bool d]) [] _ rfl rfl rfl rfl Tryz.func104 rfl (by kernel_rfl) rfl (by kernel_rfl) (fun w1 hE hf => ?_) ?_
  ·exact (truth_any _ w1).mono fun e w' ⟨he, hw⟩ => ⟨he, hw ▸ Ext.refl w1⟩
  simp only [Act.put, List.setIfInBounds_toArray, List.set_cons_zero, List.set_cons_succ]
  refine rg_quiet rfl rfl rfl rfl ?_; intro K hK; go_big_quiet_op; go_big_quiet_on
  refine rg_quiet rfl rfl rfl rfl ?_; intro K hK; go_big_quiet_op; go_big_quiet_on
  refine rg_callv (vals := #[.bool d']) [] _ rfl rfl rfl rfl Tryz.func104 rfl (by kernel_rfl) rfl (by kernel_rfl) (fun w1 hE hf => ?_) ?_
  ·exact (truth_any _ w1).mono fun e w' ⟨he, hw⟩ => ⟨he, hw ▸ Ext.refl w1⟩
  simp only [Act.put, List.setIfInBounds_toArray, List.set_cons_zero, List.set_cons_succ]
  refine rg_callv (vals := #[.int .i64 (bit d), .int .i64 (bit d')]) [] _ rfl rfl rfl rfl Tryz.func103 rfl (by kernel_rfl) rfl (by kernel_rfl) (fun w1 hE hf => ?_) ?_
  ·exact (cmpCompare_any _ _ w1).mono fun e w' ⟨he, hw⟩ => ⟨by rw [he, H1.out], hw ▸ Ext.refl w1⟩
  simp only [Act.put, List.setIfInBounds_toArray, List.set_cons_zero, List.set_cons_succ]
  refine rg_quiet rfl rfl rfl rfl ?_; intro K hK; go_big_quiet_op; go_big_quiet_on
  refine rg_quiet rfl rfl rfl rfl ?_; intro K hK; go_big_quiet_op; go_big_quiet_on
  refine rg_quiet rfl rfl rfl rfl ?_; intro K hK; go_big_quiet_op; go_big_quiet_on
  refine rg_quiet rfl rfl rfl rfl ?_; intro K hK; go_big_quiet_op; go_big_quiet_on
  refine rg_callv (vals := #[.string v, .string v']) [] _ rfl rfl rfl rfl Tryz.func65 rfl (by kernel_rfl) rfl (by kernel_rfl) (fun w1 hE hf => ?_) ?_
  ·exact (strCompare_any _ _ w1).mono fun e w' ⟨he, hw⟩ => ⟨by rw [he, H2.out], hw ▸ Ext.refl w1⟩
  simp only [Act.put, List.setIfInBounds_toArray, List.set_cons_zero, List.set_cons_succ]
  refine rg_quiet rfl rfl rfl rfl ?_; intro K hK; go_big_quiet_op; go_big_quiet_on
  refine rel_call [] _ rfl rfl rfl rfl (fun w1 hE hf => ?_) (fun x w1 hE hG hx => ?_)
  ·go_simp
   exact ⟨hE.alloc _, (Ext.refl w1).alloc _, SliceIn.made w1 #[_, _, _, _] _ 4 (by unfold maxLen; omega)⟩
  simp only [Act.put, List.setIfInBounds_toArray, List.set_cons_zero, List.set_cons_succ]
  refine rg_callv (vals := #[x]) [18] _ rfl rfl rfl rfl Tryz.func105 rfl (by kernel_rfl) rfl (by kernel_rfl) (fun w1 hE hf => ?_) ?_
  ·exact (cmpOr_any _ _ _ _ _ w1 ((hf 18 (by simp)).2 rfl)).mono fun e w' ⟨he, hw⟩ => ⟨he, hw ▸ Ext.refl w1⟩
  simp only [Act.put, List.setIfInBounds_toArray, List.set_cons_zero, List.set_cons_succ]
  refine rg_quiet rfl rfl rfl rfl ?_; intro K hK; go_big_quiet_op; go_big_quiet_on
  refine rel_nil fun w2 hE2 _ => ?_
  replace hX := hX.trans hE2
  go_wp2
  go_ret
  exact ⟨ret_int HQ.out, hX⟩
 ·have HE := Lib.hid (endC_two he he')
  go_wp2_with (go_at_call 103; go_must (refine (cmpCompare_any _ _ _).mono ?_); rintro r w1 ⟨rfl, rfl⟩)
  refine wp_region_in 10 [(3, fun v _ => v = .int .i64 (bit false)), (7, fun v _ => v = .int .i64 (bit true)), (8, fun v _ => v = .int .i64 (endC e e'))] (fun w0 => Ext w w0 ∧ Params w w0 v d a e v' d' a' e') (by kernel_rfl) (by kernel_rfl) (by kernel_rfl) ⟨stays_eq _, stays_eq _, stays_eq _, trivial⟩ ?_ ?_
  ·exact ⟨((Ext.refl w).alloc _).alloc _, Params.mk' _ _ _ _ _ _ _ _ _ _⟩
  rintro w0 ⟨hX, hP⟩
  have k3 := held hP.c3
  have k3' := held hP.b3
  refine rg_quiet rfl rfl rfl rfl ?_; intro K hK; go_big_quiet_op; go_big_quiet_on
  refine rg_quiet rfl rfl rfl rfl ?_; intro K hK; go_big_quiet_op; go_big_quiet_on
  refine rg_quiet rfl rfl rfl rfl ?_; intro K hK; go_big_quiet_op; go_big_quiet_on
  refine rg_callv (vals := #[.bool false]) [] _ rfl rfl rfl rfl Tryz.func104 rfl (by kernel_rfl) rfl (by kernel_rfl) (fun w1 hE hf => ?_) ?_
  ·exact (truth_any _ w1).mono fun e w' ⟨he, hw⟩ => ⟨he, hw ▸ Ext.refl w1⟩
  simp only [Act.put, List.setIfInBounds_toArray, List.set_cons_zero, List.set_cons_succ]
  refine rg_quiet rfl rfl rfl rfl ?_; intro K hK; go_big_quiet_op; go_big_quiet_on
  refine rg_quiet rfl rfl rfl rfl ?_; intro K hK; go_big_quiet_op; go_big_quiet_on
  refine rg_quiet rfl rfl rfl rfl ?_; intro K hK; go_big_quiet_op; go_big_quiet_on
  refine rg_callv (vals := #[.bool true]) [] _ rfl rfl rfl rfl Tryz.func104 rfl (by kernel_rfl) rfl (by kernel_rfl) (fun w1 hE hf => ?_) ?_
  ·exact (truth_any _ w1).mono fun e w' ⟨he, hw⟩ => ⟨he, hw ▸ Ext.refl w1⟩
  simp only [Act.put, List.setIfInBounds_toArray, List.set_cons_zero, List.set_cons_succ]
  refine rg_callv (vals := #[.int .i64 (bit false), .int .i64 (bit true)]) [] _ rfl rfl rfl rfl Tryz.func103 rfl (by kernel_rfl) rfl (by kernel_rfl) (fun w1 hE hf => ?_) ?_
  ·exact (cmpCompare_any _ _ w1).mono fun e w' ⟨he, hw⟩ => ⟨by rw [he, HE.out], hw ▸ Ext.refl w1⟩
  simp only [Act.put, List.setIfInBounds_toArray, List.set_cons_zero, List.set_cons_succ]
  refine rg_quiet rfl rfl rfl rfl ?_; intro K hK; go_big_quiet_op; go_big_quiet_on
  refine rel_nil fun w2 hE2 _ => ?_
  replace hP := hP.ext hE2
  replace hX := hX.trans hE2
  clear k3 k3' hE2 he he' HE
  go_wp2_with fail
  obtain ⟨q0, hq0⟩ : ∃ q, q = cmpI a a' := ⟨_, rfl⟩
  obtain ⟨q1, hq1⟩ : ∃ q, q = cmpI (bit d) (bit d') := ⟨_, rfl⟩
  obtain ⟨q2, hq2⟩ : ∃ q, q = cmpB v.data.toList v'.data.toList := ⟨_, rfl⟩
  have HQ : Hid (or4 q0 q1 q2 (endC e e') = cmpC v d a e v' d' a' e') := by rw [hq0, hq1, hq2]; rfl
  have H0 := Lib.hid hq0.symm
  have H1 := Lib.hid hq1.symm
  have H2 := Lib.hid hq2.symm
  clear hq0 hq1 hq2
  refine wp_region_in 21 [(4, fun v _ => v = .int .i64 q0), (7, fun v _ => v = .int .i64 (bit d)), (10, fun v _ => v = .int .i64 (bit d')), (11, fun v _ => v = .int .i64 q1), (16, fun v _ => v = .int .i64 q2), (18, fun v w => SliceIn w v 4 [.int .i64 q0, .int .i64 q1, .int .i64 q2, .int .i64 (endC e e')]), (19, fun x _ => x = .int .i64 (or4 q0 q1 q2 (endC e e')))] (fun w0 => Ext w w0 ∧ Params w w0 v d a e v' d' a' e') (by kernel_rfl) (by kernel_rfl) (by kernel_rfl) ⟨stays_eq _, stays_eq _, stays_eq _, stays_eq _, stays_eq _, stays_slice _ _, stays_eq _, trivial⟩ ?_ ?_
  ·exact ⟨hX, hP⟩
  clear hX hP
  rintro w0 ⟨hX, hP⟩
  have k0 := held hP.c0
  have k1 := held hP.c1
  have k2 := held hP.c2
  have j0 := held hP.b0
  have j1 := held hP.b1
  have j2 := held hP.b2
  clear hP
  refine rg_quiet rfl rfl rfl rfl ?_; intro K hK; go_big_quiet_op; go_big_quiet_on
  refine rg_quiet rfl rfl rfl rfl ?_; intro K hK; go_big_quiet_op; go_big_quiet_on
  refine rg_quiet rfl rfl rfl rfl ?_; intro K hK; go_big_quiet_op; go_big_quiet_on
  refine rg_quiet rfl rfl rfl rfl ?_; intro K hK; go_big_quiet_op; go_big_quiet_on
  refine rg_callv (vals := #[.int .i64 a, .int .i64 a']) [] _ rfl rfl rfl rfl Tryz.func103 rfl (by kernel_rfl) rfl (by kernel_rfl) (fun w1 hE hf => ?_) ?_
  ·exact (cmpCompare_any _ _ w1).mono fun e w' ⟨he, hw⟩ => ⟨by rw [he, H0.out], hw ▸ Ext.refl w1⟩
  simp only [Act.put, List.setIfInBounds_toArray, List.set_cons_zero, List.set_cons_succ]
  refine rg_quiet rfl rfl rfl rfl ?_; intro K hK; go_big_quiet_op; go_big_quiet_on
  refine rg_quiet rfl rfl rfl rfl ?_; intro K hK; go_big_quiet_op; go_big_quiet_on
  refine rg_callv (vals := #[.bool d]) [] _ rfl rfl rfl rfl Tryz.func104 rfl (by kernel_rfl) rfl (by kernel_rfl) (fun w1 hE hf => ?_) ?_
  ·exact (truth_any _ w1).mono fun e w' ⟨he, hw⟩ => ⟨he, hw ▸ Ext.refl w1⟩
  simp only [Act.put, List.setIfInBounds_toArray, List.set_cons_zero, List.set_cons_succ]
  refine rg_quiet rfl rfl rfl rfl ?_; intro K hK; go_big_quiet_op; go_big_quiet_on
  refine rg_quiet rfl rfl rfl rfl ?_; intro K hK; go_big_quiet_op; go_big_quiet_on
  refine rg_callv (vals := #[.bool d']) [] _ rfl rfl rfl rfl Tryz.func104 rfl (by kernel_rfl) rfl (by kernel_rfl) (fun w1 hE hf => ?_) ?_
  ·exact (truth_any _ w1).mono fun e w' ⟨he, hw⟩ => ⟨he, hw ▸ Ext.refl w1⟩
  simp only [Act.put, List.setIfInBounds_toArray, List.set_cons_zero, List.set_cons_succ]
  refine rg_callv (vals := #[.int .i64 (bit d), .int .i64 (bit d')]) [] _ rfl rfl rfl rfl Tryz.func103 rfl (by kernel_rfl) rfl (by kernel_rfl) (fun w1 hE hf => ?_) ?_
  ·exact (cmpCompare_any _ _ w1).mono fun e w' ⟨he, hw⟩ => ⟨by rw [he, H1.out], hw ▸ Ext.refl w1⟩
  simp only [Act.put, List.setIfInBounds_toArray, List.set_cons_zero, List.set_cons_succ]
  refine rg_quiet rfl rfl rfl rfl ?_; intro K hK; go_big_quiet_op; go_big_quiet_on
  refine rg_quiet rfl rfl rfl rfl ?_; intro K hK; go_big_quiet_op; go_big_quiet_on
  refine rg_quiet rfl rfl rfl rfl ?_; intro K hK; go_big_quiet_op; go_big_quiet_on
  refine rg_quiet rfl rfl rfl rfl ?_; intro K hK; go_big_quiet_op; go_big_quiet_on
  refine rg_callv (vals := #[.string v, .string v']) [] _ rfl rfl rfl rfl Tryz.func65 rfl (by kernel_rfl) rfl (by kernel_rfl) (fun w1 hE hf => ?_) ?_
  ·exact (strCompare_any _ _ w1).mono fun e w' ⟨he, hw⟩ => ⟨by rw [he, H2.out], hw ▸ Ext.refl w1⟩
  simp only [Act.put, List.setIfInBounds_toArray, List.set_cons_zero, List.set_cons_succ]
  refine rg_quiet rfl rfl rfl rfl ?_; intro K hK; go_big_quiet_op; go_big_quiet_on
  refine rel_call [] _ rfl rfl rfl rfl (fun w1 hE hf => ?_) (fun x w1 hE hG hx => ?_)
  ·go_simp
   exact ⟨hE.alloc _, (Ext.refl w1).alloc _, SliceIn.made w1 #[_, _, _, _] _ 4 (by unfold maxLen; omega)⟩
  simp only [Act.put, List.setIfInBounds_toArray, List.set_cons_zero, List.set_cons_succ]
  refine rg_callv (vals := #[x]) [18] _ rfl rfl rfl rfl Tryz.func105 rfl (by kernel_rfl) rfl (by kernel_rfl) (fun w1 hE hf => ?_) ?_
  ·exact (cmpOr_any _ _ _ _ _ w1 ((hf 18 (by simp)).2 rfl)).mono fun e w' ⟨he, hw⟩ => ⟨he, hw ▸ Ext.refl w1⟩
  simp only [Act.put, List.setIfInBounds_toArray, List.set_cons_zero, List.set_cons_succ]
  refine rg_quiet rfl rfl rfl rfl ?_; intro K hK; go_big_quiet_op; go_big_quiet_on
  refine rel_nil fun w2 hE2 _ => ?_
  replace hX := hX.trans hE2
  go_wp2
  go_ret
  exact ⟨ret_int HQ.out, hX⟩
 ·have HE := endC_three he he'
  go_wp2_with (go_at_call 103; go_must (refine (cmpCompare_any _ _ _).mono ?_); rintro r w1 ⟨rfl, rfl⟩)
  have hP : Params w _ v d a e v' d' a' e' := Params.mk' w v d a e v' d' a' e' 44
  have hX := ((Ext.refl w).alloc (.cells #[.string v, .bool d, .int .i64 a, .int .i64 e] 44)).alloc (.cells #[.string v', .bool d', .int .i64 a', .int .i64 e'] 44)
  clear he he' HE
  obtain ⟨q0, hq0⟩ : ∃ q, q = cmpI a a' := ⟨_, rfl⟩
  obtain ⟨q1, hq1⟩ : ∃ q, q = cmpI (bit d) (bit d') := ⟨_, rfl⟩
  obtain ⟨q2, hq2⟩ : ∃ q, q = cmpB v.data.toList v'.data.toList := ⟨_, rfl⟩
  have HQ : Hid (or4 q0 q1 q2 (endC e e') = cmpC v d a e v' d' a' e') := by rw [hq0, hq1, hq2]; rfl
  have H0 := Lib.hid hq0.symm
  have H1 := Lib.hid hq1.symm
  have H2 := Lib.hid hq2.symm
  clear hq0 hq1 hq2
  refine wp_region_in 21 [(4, fun v _ => v = .int .i64 q0), (7, fun v _ => v = .int .i64 (bit d)), (10, fun v _ => v = .int .i64 (bit d')), (11, fun v _ => v = .int .i64 q1), (16, fun v _ => v = .int .i64 q2), (18, fun v w => SliceIn w v 4 [.int .i64 q0, .int .i64 q1, .int .i64 q2, .int .i64 (endC e e')]), (19, fun x _ => x = .int .i64 (or4 q0 q1 q2 (endC e e')))] (fun w0 => Ext w w0 ∧ Params w w0 v d a e v' d' a' e') (by kernel_rfl) (by kernel_rfl) (by kernel_rfl) ⟨stays_eq _, stays_eq _, stays_eq _, stays_eq _, stays_eq _, stays_slice _ _, stays_eq _, trivial⟩ ?_ ?_
  ·exact ⟨hX, hP⟩
  clear hX hP
  rintro w0 ⟨hX, hP⟩
  have k0 := held hP.c0
  have k1 := held hP.c1
  have k2 := held hP.c2
  have j0 := held hP.b0
  have j1 := held hP.b1
  have j2 := held hP.b2
  clear hP
  refine rg_quiet rfl rfl rfl rfl ?_; intro K hK; go_big_quiet_op; go_big_quiet_on
  refine rg_quiet rfl rfl rfl rfl ?_; intro K hK; go_big_quiet_op; go_big_quiet_on
  refine rg_quiet rfl rfl rfl rfl ?_; intro K hK; go_big_quiet_op; go_big_quiet_on
  refine rg_quiet rfl rfl rfl rfl ?_; intro K hK; go_big_quiet_op; go_big_quiet_on
  refine rg_callv (vals := #[.int .i64 a, .int .i64 a']) [] _ rfl rfl rfl rfl Tryz.func103 rfl (by kernel_rfl) rfl (by kernel_rfl) (fun w1 hE hf => ?_) ?_
  ·exact (cmpCompare_any _ _ w1).mono fun e w' ⟨he, hw⟩ => ⟨by rw [he, H0.out], hw ▸ Ext.refl w1⟩
  simp only [Act.put, List.setIfInBounds_toArray, List.set_cons_zero, List.set_cons_succ]
  refine rg_quiet rfl rfl rfl rfl ?_; intro K hK; go_big_quiet_op; go_big_quiet_on
  refine rg_quiet rfl rfl rfl rfl ?_; intro K hK; go_big_quiet_op; go_big_quiet_on
  refine rg_callv (vals := #[.bool d]) [] _ rfl rfl rfl rfl Tryz.func104 rfl (by kernel_rfl) rfl (by kernel_rfl) (fun w1 hE hf => ?_) ?_
  ·exact (truth_any _ w1).mono fun e w' ⟨he, hw⟩ => ⟨he, hw ▸ Ext.refl w1⟩
  simp only [Act.put, List.setIfInBounds_toArray, List.set_cons_zero, List.set_cons_succ]
  refine rg_quiet rfl rfl rfl rfl ?_; intro K hK; go_big_quiet_op; go_big_quiet_on
  refine rg_quiet rfl rfl rfl rfl ?_; intro K hK; go_big_quiet_op; go_big_quiet_on
  refine rg_callv (vals := #[.bool d']) [] _ rfl rfl rfl rfl Tryz.func104 rfl (by kernel_rfl) rfl (by kernel_rfl) (fun w1 hE hf => ?_) ?_
  ·exact (truth_any _ w1).mono fun e w' ⟨he, hw⟩ => ⟨he, hw ▸ Ext.refl w1⟩
  simp only [Act.put, List.setIfInBounds_toArray, List.set_cons_zero, List.set_cons_succ]
  refine rg_callv (vals := #[.int .i64 (bit d), .int .i64 (bit d')]) [] _ rfl rfl rfl rfl Tryz.func103 rfl (by kernel_rfl) rfl (by kernel_rfl) (fun w1 hE hf => ?_) ?_
  ·exact (cmpCompare_any _ _ w1).mono fun e w' ⟨he, hw⟩ => ⟨by rw [he, H1.out], hw ▸ Ext.refl w1⟩
  simp only [Act.put, List.setIfInBounds_toArray, List.set_cons_zero, List.set_cons_succ]
  refine rg_quiet rfl rfl rfl rfl ?_; intro K hK; go_big_quiet_op; go_big_quiet_on
  refine rg_quiet rfl rfl rfl rfl ?_; intro K hK; go_big_quiet_op; go_big_quiet_on
  refine rg_quiet rfl rfl rfl rfl ?_; intro K hK; go_big_quiet_op; go_big_quiet_on
  refine rg_quiet rfl rfl rfl rfl ?_; intro K hK; go_big_quiet_op; go_big_quiet_on
  refine rg_callv (vals := #[.string v, .string v']) [] _ rfl rfl rfl rfl Tryz.func65 rfl (by kernel_rfl) rfl (by kernel_rfl) (fun w1 hE hf => ?_) ?_
  ·exact (strCompare_any _ _ w1).mono fun e w' ⟨he, hw⟩ => ⟨by rw [he, H2.out], hw ▸ Ext.refl w1⟩
  simp only [Act.put, List.setIfInBounds_toArray, List.set_cons_zero, List.set_cons_succ]
  refine rg_quiet rfl rfl rfl rfl ?_; intro K hK; go_big_quiet_op; go_big_quiet_on
  refine rel_call [] _ rfl rfl rfl rfl (fun w1 hE hf => ?_) (fun x w1 hE hG hx => ?_)
  ·go_simp
   exact ⟨hE.alloc _, (Ext.refl w1).alloc _, SliceIn.made w1 #[_, _, _, _] _ 4 (by unfold maxLen; omega)⟩
  simp only [Act.put, List.setIfInBounds_toArray, List.set_cons_zero, List.set_cons_succ]
  refine rg_callv (vals := #[x]) [18] _ rfl rfl rfl rfl Tryz.func105 rfl (by kernel_rfl) rfl (by kernel_rfl) (fun w1 hE hf => ?_) ?_
  ·exact (cmpOr_any _ _ _ _ _ w1 ((hf 18 (by simp)).2 rfl)).mono fun e w' ⟨he, hw⟩ => ⟨he, hw ▸ Ext.refl w1⟩
  simp only [Act.put, List.setIfInBounds_toArray, List.set_cons_zero, List.set_cons_succ]
  refine rg_quiet rfl rfl rfl rfl ?_; intro K hK; go_big_quiet_op; go_big_quiet_on
  refine rel_nil fun w2 hE2 _ => ?_
  replace hX := hX.trans hE2
  go_wp2
  go_ret
  exact ⟨ret_int HQ.out, hX⟩

set_option maxHeartbeats 400000 in
theorem join_any (v : ByteArray) (d : Bool) (a e : Int) (v' : ByteArray) (d' : Bool) (a' e' : Int) (w : World) :
  Calls Tryz.prog 67 #[.agg #[.string v, .bool d, .int .i64 a, .int .i64 e], .agg #[.string v', .bool d', .int .i64 a', .int .i64 e']] w fun r w' =>
   r = .returned (if cmpC v d a e v' d' a' e' < 0 then .agg #[.string v', .bool d', .int .i64 a', .int .i64 e'] else .agg #[.string v, .bool d, .int .i64 a, .int .i64 e]) ∧ Ext w w' := by
 by_cases h : cmpC v d a e v' d' a' e' < 0
 ·rw [if_pos h]
  go_enter Tryz.func67, Tryz.ntmps67
  go_wp2_with (go_at_call 92; go_must (refine (cmp_any _ _ _ _ _ _ _ _ _).mono ?_); rintro r w1 ⟨rfl, hE⟩; obtain ⟨hc, hf⟩ := And.intro hE.cells hE.frozens)
  refine bodyPost_ret (v := .agg #[.string v', .bool d', .int .i64 a', .int .i64 e']) (by simp [results, Tryz.results67, go_sem, hc]) rfl ⟨rfl, ?_⟩
  have hX := ((((Ext.refl w).alloc _).alloc _).alloc _).trans hE
  exact (((hX.setCell (Nat.le_add_right _ 2) _).setCell (Nat.le_add_right _ 2) _).setCell (Nat.le_add_right _ 2) _).setCell (Nat.le_add_right _ 2) _
 ·rw [if_neg h]
  go_enter Tryz.func67, Tryz.ntmps67
  go_wp2_with (go_at_call 92; go_must (refine (cmp_any _ _ _ _ _ _ _ _ _).mono ?_); rintro r w1 ⟨rfl, hE⟩; obtain ⟨hc, hf⟩ := And.intro hE.cells hE.frozens)
  refine bodyPost_ret (v := .agg #[.string v, .bool d, .int .i64 a, .int .i64 e]) (by simp [results, Tryz.results67, go_sem, hc]) rfl ⟨rfl, ?_⟩
  have hX := ((((Ext.refl w).alloc _).alloc _).alloc _).trans hE
  exact (((hX.setCell (Nat.le_add_right _ 2) _).setCell (Nat.le_add_right _ 2) _).setCell (Nat.le_add_right _ 2) _).setCell (Nat.le_add_right _ 2) _
end Go.Proofs.YtolkhjdododdaaaGreatDoor

/- The walks over the reference of cell, and over what the laws of cell ask beside. -/
namespace Go.Proofs.YtolkhjdododdaaaGreatDoor
open Go Go.RowKit
attribute [local go_sem] yields yUpon
set_option maxHeartbeats 400000 in
theorem rorder_any (x y : Int) (w : World) : Calls Tryz.prog 111 #[.int .i64 x, .int .i64 y] w fun e w' => e = .returned (.int .i64 (cmpI x y)) ∧ w = w' := by
 go_enter Tryz.func111, Tryz.ntmps111
 go_wp2
 all_goals
  go_ret
  refine ⟨ret_int ?_, rfl⟩
  go_light
  unfold cmpI
  split <;> (try split) <;> omega

set_option maxHeartbeats 400000 in
theorem rbit_any (b : Bool) (w : World) : Calls Tryz.prog 112 #[.bool b] w fun e w' => e = .returned (.int .i64 (bit b)) ∧ w = w' := by
 cases b
 all_goals
  go_enter Tryz.func112, Tryz.ntmps112
  go_wp2
  go_ret
  exact ⟨rfl, rfl⟩

set_option maxHeartbeats 400000 in
theorem rtext_any (x y : ByteArray) (w : World) : Calls Tryz.prog 113 #[.string x, .string y] w fun e w' => e = .returned (.int .i64 (cmpB x.data.toList y.data.toList)) ∧ w = w' := by
 have h := cmpB_less x.toList y.toList
 rw [ByteArray.toList_eq, ByteArray.toList_eq] at h
 have H := Lib.hid h
 clear h
 rcases less_tri x.toList y.toList with h1 | h1 | h1
 ·have h2 : Op.bytesLess x.toList y.toList = true := h1
  have E : Hid (cmpB x.data.toList y.data.toList = -1) := by rw [H.out, ← ByteArray.toList_eq, ← ByteArray.toList_eq, if_pos h1]; rfl
  clear h1 H
  go_enter Tryz.func113, Tryz.ntmps113
  go_wp2
  go_ret
  exact ⟨ret_int E.out.symm, rfl⟩
 ·have h2 : Op.bytesLess x.toList y.toList = false := by rw [h1]; exact less_irrefl _
  have h3 : (x.toList == y.toList) = true := by simp [h1]
  have E : Hid (cmpB x.data.toList y.data.toList = 0) := by
   rw [H.out, ← ByteArray.toList_eq, ← ByteArray.toList_eq, h1, if_neg (by rw [less_irrefl]; simp), if_neg (by rw [less_irrefl]; simp)]; rfl
  clear h1 H
  go_enter Tryz.func113, Tryz.ntmps113
  go_wp2
  go_ret
  exact ⟨ret_int E.out.symm, rfl⟩
 ·have h2 : Op.bytesLess x.toList y.toList = false := less_asymm h1
  have h3 : (x.toList == y.toList) = false := by have := less_ne h1; simp; exact fun h => this h.symm
  have E : Hid (cmpB x.data.toList y.data.toList = 1) := by
   rw [H.out, ← ByteArray.toList_eq, ← ByteArray.toList_eq, if_neg (by rw [show less x.toList y.toList = false from h2]; simp), if_pos h1]; rfl
  clear h1 H
  go_enter Tryz.func113, Tryz.ntmps113
  go_wp2
  go_ret
  exact ⟨ret_int E.out.symm, rfl⟩

set_option maxRecDepth 100000 in
set_option maxHeartbeats 1000000 in
theorem rcmp_any (v : ByteArray) (d : Bool) (a e : Int) (v' : ByteArray) (d' : Bool) (a' e' : Int) (w : World) :
  Calls Tryz.prog 98 #[.agg #[.string v, .bool d, .int .i64 a, .int .i64 e], .agg #[.string v', .bool d', .int .i64 a', .int .i64 e']] w fun r w' =>
   r = .returned (.int .i64 (cmpC v d a e v' d' a' e')) ∧ Ext w w' := by
 go_enter Tryz.func98, Tryz.ntmps98
 go_wp2
 obtain ⟨q0, hq0⟩ : ∃ q, q = cmpI a a' := ⟨_, rfl⟩
 obtain ⟨q1, hq1⟩ : ∃ q, q = cmpI (bit d) (bit d') := ⟨_, rfl⟩
 obtain ⟨q2, hq2⟩ : ∃ q, q = cmpB v.data.toList v'.data.toList := ⟨_, rfl⟩
 obtain ⟨q3, hq3⟩ : ∃ q, q = cmpI (bit (e == 0)) (bit (e' == 0)) := ⟨_, rfl⟩
 obtain ⟨q4, hq4⟩ : ∃ q, q = cmpI e e' := ⟨_, rfl⟩
 have HQ : Hid (or5 q0 q1 q2 q3 q4 = cmpC v d a e v' d' a' e') := by rw [hq0, hq1, hq2, hq3, hq4]; exact or5_end v d a e v' d' a' e' trivial
 have H0 := Lib.hid hq0.symm
 have H1 := Lib.hid hq1.symm
 have H2 := Lib.hid hq2.symm
 have H3 := Lib.hid hq3.symm
 have H4 := Lib.hid hq4.symm
 clear hq0 hq1 hq2 hq3 hq4
 refine wp_region_in 33 [(4, fun v _ => v = .int .i64 q0), (7, fun v _ => v = .int .i64 (bit d)), (10, fun v _ => v = .int .i64 (bit d')), (11, fun v _ => v = .int .i64 q1), (16, fun v _ => v = .int .i64 q2), (20, fun v _ => v = .int .i64 (bit (e == 0))), (24, fun v _ => v = .int .i64 (bit (e' == 0))), (25, fun v _ => v = .int .i64 q3), (30, fun v _ => v = .int .i64 q4), (32, fun v w1 => VarIn w1 (w.heap.size + 2) v #[.int .i64 0, .int .i64 0, .int .i64 0, .int .i64 0, .int .i64 0] 151)] (fun w0 => Ext w w0 ∧ Params w w0 v d a e v' d' a' e' ∧ w.heap.size + 2 ≤ w0.heap.size) (by kernel_rfl) (by kernel_rfl) (by kernel_rfl) ⟨stays_eq _, stays_eq _, stays_eq _, stays_eq _, stays_eq _, stays_eq _, stays_eq _, stays_eq _, stays_eq _, stays_var _ _ _, trivial⟩ ?_ ?_
 ·exact ⟨((Ext.refl w).alloc _).alloc _, Params.mk' _ _ _ _ _ _ _ _ _ _, by simp⟩
 rintro w0 ⟨hX, hP, hz⟩
 have k0 := held hP.c0
 have k1 := held hP.c1
 have k2 := held hP.c2
 have k3 := held hP.c3
 have j0 := held hP.b0
 have j1 := held hP.b1
 have j2 := held hP.b2
 have j3 := held hP.b3
 clear hP
 refine rg_quiet rfl rfl rfl rfl ?_; intro K hK; go_big_quiet_op; go_big_quiet_on
 refine rg_quiet rfl rfl rfl rfl ?_; intro K hK; go_big_quiet_op; go_big_quiet_on
 refine rg_quiet rfl rfl rfl rfl ?_; intro K hK; go_big_quiet_op; go_big_quiet_on
 refine rg_quiet rfl rfl rfl rfl ?_; intro K hK; go_big_quiet_op; go_big_quiet_on
 refine rg_callv (vals := #[.int .i64 a, .int .i64 a']) [] _ rfl rfl rfl rfl Tryz.func111 rfl (by kernel_rfl) rfl (by kernel_rfl) (fun w1 hE hf => ?_) ?_
 ·exact (rorder_any _ _ w1).mono fun e w' ⟨he, hw⟩ => ⟨by rw [he, H0.out], hw ▸ Ext.refl w1⟩
 simp only [Act.put, List.setIfInBounds_toArray, List.set_cons_zero, List.set_cons_succ]
 refine rg_quiet rfl rfl rfl rfl ?_; intro K hK; go_big_quiet_op; go_big_quiet_on
 refine rg_quiet rfl rfl rfl rfl ?_; intro K hK; go_big_quiet_op; go_big_quiet_on
 refine rg_callv (vals := #[.bool d]) [] _ rfl rfl rfl rfl Tryz.func112 rfl (by kernel_rfl) rfl (by kernel_rfl) (fun w1 hE hf => ?_) ?_
 ·exact (rbit_any _ w1).mono fun e w' ⟨he, hw⟩ => ⟨he, hw ▸ Ext.refl w1⟩
 simp only [Act.put, List.setIfInBounds_toArray, List.set_cons_zero, List.set_cons_succ]
 refine rg_quiet rfl rfl rfl rfl ?_; intro K hK; go_big_quiet_op; go_big_quiet_on
 refine rg_quiet rfl rfl rfl rfl ?_; intro K hK; go_big_quiet_op; go_big_quiet_on
 refine rg_callv (vals := #[.bool d']) [] _ rfl rfl rfl rfl Tryz.func112 rfl (by kernel_rfl) rfl (by kernel_rfl) (fun w1 hE hf => ?_) ?_
 ·exact (rbit_any _ w1).mono fun e w' ⟨he, hw⟩ => ⟨he, hw ▸ Ext.refl w1⟩
 simp only [Act.put, List.setIfInBounds_toArray, List.set_cons_zero, List.set_cons_succ]
 refine rg_callv (vals := #[.int .i64 (bit d), .int .i64 (bit d')]) [] _ rfl rfl rfl rfl Tryz.func111 rfl (by kernel_rfl) rfl (by kernel_rfl) (fun w1 hE hf => ?_) ?_
 ·exact (rorder_any _ _ w1).mono fun e w' ⟨he, hw⟩ => ⟨by rw [he, H1.out], hw ▸ Ext.refl w1⟩
 simp only [Act.put, List.setIfInBounds_toArray, List.set_cons_zero, List.set_cons_succ]
 refine rg_quiet rfl rfl rfl rfl ?_; intro K hK; go_big_quiet_op; go_big_quiet_on
 refine rg_quiet rfl rfl rfl rfl ?_; intro K hK; go_big_quiet_op; go_big_quiet_on
 refine rg_quiet rfl rfl rfl rfl ?_; intro K hK; go_big_quiet_op; go_big_quiet_on
 refine rg_quiet rfl rfl rfl rfl ?_; intro K hK; go_big_quiet_op; go_big_quiet_on
 refine rg_callv (vals := #[.string v, .string v']) [] _ rfl rfl rfl rfl Tryz.func113 rfl (by kernel_rfl) rfl (by kernel_rfl) (fun w1 hE hf => ?_) ?_
 ·exact (rtext_any _ _ w1).mono fun e w' ⟨he, hw⟩ => ⟨by rw [he, H2.out], hw ▸ Ext.refl w1⟩
 simp only [Act.put, List.setIfInBounds_toArray, List.set_cons_zero, List.set_cons_succ]
 refine rg_quiet rfl rfl rfl rfl ?_; intro K hK; go_big_quiet_op; go_big_quiet_on
 refine rg_quiet rfl rfl rfl rfl ?_; intro K hK; go_big_quiet_op; go_big_quiet_on
 refine rg_quiet rfl rfl rfl rfl ?_; intro K hK; go_big_quiet_op; go_big_quiet_on
 refine rg_callv (vals := #[.bool (e == 0)]) [] _ rfl rfl rfl rfl Tryz.func112 rfl (by kernel_rfl) rfl (by kernel_rfl) (fun w1 hE hf => ?_) ?_
 ·exact (rbit_any _ w1).mono fun e w' ⟨he, hw⟩ => ⟨he, hw ▸ Ext.refl w1⟩
 simp only [Act.put, List.setIfInBounds_toArray, List.set_cons_zero, List.set_cons_succ]
 refine rg_quiet rfl rfl rfl rfl ?_; intro K hK; go_big_quiet_op; go_big_quiet_on
 refine rg_quiet rfl rfl rfl rfl ?_; intro K hK; go_big_quiet_op; go_big_quiet_on
 refine rg_quiet rfl rfl rfl rfl ?_; intro K hK; go_big_quiet_op; go_big_quiet_on
 refine rg_callv (vals := #[.bool (e' == 0)]) [] _ rfl rfl rfl rfl Tryz.func112 rfl (by kernel_rfl) rfl (by kernel_rfl) (fun w1 hE hf => ?_) ?_
 ·exact (rbit_any _ w1).mono fun e w' ⟨he, hw⟩ => ⟨he, hw ▸ Ext.refl w1⟩
 simp only [Act.put, List.setIfInBounds_toArray, List.set_cons_zero, List.set_cons_succ]
 refine rg_callv (vals := #[.int .i64 (bit (e == 0)), .int .i64 (bit (e' == 0))]) [] _ rfl rfl rfl rfl Tryz.func111 rfl (by kernel_rfl) rfl (by kernel_rfl) (fun w1 hE hf => ?_) ?_
 ·exact (rorder_any _ _ w1).mono fun e w' ⟨he, hw⟩ => ⟨by rw [he, H3.out], hw ▸ Ext.refl w1⟩
 simp only [Act.put, List.setIfInBounds_toArray, List.set_cons_zero, List.set_cons_succ]
 refine rg_quiet rfl rfl rfl rfl ?_; intro K hK; go_big_quiet_op; go_big_quiet_on
 refine rg_quiet rfl rfl rfl rfl ?_; intro K hK; go_big_quiet_op; go_big_quiet_on
 refine rg_quiet rfl rfl rfl rfl ?_; intro K hK; go_big_quiet_op; go_big_quiet_on
 refine rg_quiet rfl rfl rfl rfl ?_; intro K hK; go_big_quiet_op; go_big_quiet_on
 refine rg_callv (vals := #[.int .i64 e, .int .i64 e']) [] _ rfl rfl rfl rfl Tryz.func111 rfl (by kernel_rfl) rfl (by kernel_rfl) (fun w1 hE hf => ?_) ?_
 ·exact (rorder_any _ _ w1).mono fun e w' ⟨he, hw⟩ => ⟨by rw [he, H4.out], hw ▸ Ext.refl w1⟩
 simp only [Act.put, List.setIfInBounds_toArray, List.set_cons_zero, List.set_cons_succ]
 refine rg_quiet rfl rfl rfl rfl ?_; intro K hK; go_big_quiet_op; go_big_quiet_on
 refine rel_call [] _ rfl rfl rfl rfl (fun w1 hE hf => ?_) (fun x w1 hE hG hx => ?_)
 ·go_simp
  exact ⟨hE.alloc _, (Ext.refl w1).alloc _, VarIn.made w1 _ _ _ (by have := hE.le; omega)⟩
 simp only [Act.put, List.setIfInBounds_toArray, List.set_cons_zero, List.set_cons_succ]
 clear hE hG w1 hx k0 k1 k2 k3 j0 j1 j2 j3
 refine rel_tail rfl rfl fun w1 hE hG => ?_
 obtain ⟨b, rfl, hb, hw1⟩ := (hG 32).2 rfl
 have c0 : w1.cell? ⟨b, 0, none⟩ = some (.int .i64 0) := by rw [var_cell hw1]; rfl
 have c1 : w1.cell? ⟨b, 1, none⟩ = some (.int .i64 0) := by rw [var_cell hw1]; rfl
 have c2 : w1.cell? ⟨b, 2, none⟩ = some (.int .i64 0) := by rw [var_cell hw1]; rfl
 have c3 : w1.cell? ⟨b, 3, none⟩ = some (.int .i64 0) := by rw [var_cell hw1]; rfl
 have c4 : w1.cell? ⟨b, 4, none⟩ = some (.int .i64 0) := by rw [var_cell hw1]; rfl
 have cf := var_free hw1
 replace hX := hX.trans hE
 have hb' : w.heap.size ≤ b := by omega
 have hY : ∀ x0 x1 x2 x3 x4 : Value, Ext w (((((w1.setCell ⟨b, 0, none⟩ x0).setCell ⟨b, 1, none⟩ x1).setCell ⟨b, 2, none⟩ x2).setCell ⟨b, 3, none⟩ x3).setCell ⟨b, 4, none⟩ x4) :=
  fun _ _ _ _ _ => ((((hX.setCell hb' _).setCell hb' _).setCell hb' _).setCell hb' _).setCell hb' _
 replace hY := hY (.int .i64 q0) (.int .i64 q1) (.int .i64 q2) (.int .i64 q3) (.int .i64 q4)
 clear hG hE hw1 hX hz H0 H1 H2 H3 H4
 unfold or5 at HQ
 by_cases h0 : q0 = 0
 ·have g0 : ((q0 : Int) != 0) = false := by simpa using h0
  rw [if_pos h0] at HQ
  clear h0
  by_cases h1 : q1 = 0
  ·have g1 : ((q1 : Int) != 0) = false := by simpa using h1
   rw [if_pos h1] at HQ
   clear h1
   by_cases h2 : q2 = 0
   ·have g2 : ((q2 : Int) != 0) = false := by simpa using h2
    rw [if_pos h2] at HQ
    clear h2
    by_cases h3 : q3 = 0
    ·have g3 : ((q3 : Int) != 0) = false := by simpa using h3
     rw [if_pos h3] at HQ
     clear h3
     by_cases h4 : q4 = 0
     ·have g4 : ((q4 : Int) != 0) = false := by simpa using h4
      rw [h4] at HQ
      clear h4
      go_wp2
      refine wp_loop_rounds 6 ?_
      rw [rounds_succ]
      go_wp2
      rw [rounds_succ]
      go_wp2
      rw [rounds_succ]
      go_wp2
      rw [rounds_succ]
      go_wp2
      rw [rounds_succ]
      go_wp2
      rw [rounds_succ]
      go_wp2
      go_ret
      exact ⟨ret_int HQ.out, hY⟩
     ·have g4 : ((q4 : Int) != 0) = true := by simpa using h4
      clear h4
      go_wp2
      refine wp_loop_rounds 5 ?_
      rw [rounds_succ]
      go_wp2
      rw [rounds_succ]
      go_wp2
      rw [rounds_succ]
      go_wp2
      rw [rounds_succ]
      go_wp2
      rw [rounds_succ]
      go_wp2
      go_ret
      exact ⟨ret_int HQ.out, hY⟩
    ·have g3 : ((q3 : Int) != 0) = true := by simpa using h3
     rw [if_neg h3] at HQ
     clear h3
     go_wp2
     refine wp_loop_rounds 4 ?_
     rw [rounds_succ]
     go_wp2
     rw [rounds_succ]
     go_wp2
     rw [rounds_succ]
     go_wp2
     rw [rounds_succ]
     go_wp2
     go_ret
     exact ⟨ret_int HQ.out, hY⟩
   ·have g2 : ((q2 : Int) != 0) = true := by simpa using h2
    rw [if_neg h2] at HQ
    clear h2
    go_wp2
    refine wp_loop_rounds 3 ?_
    rw [rounds_succ]
    go_wp2
    rw [rounds_succ]
    go_wp2
    rw [rounds_succ]
    go_wp2
    go_ret
    exact ⟨ret_int HQ.out, hY⟩
  ·have g1 : ((q1 : Int) != 0) = true := by simpa using h1
   rw [if_neg h1] at HQ
   clear h1
   go_wp2
   refine wp_loop_rounds 2 ?_
   rw [rounds_succ]
   go_wp2
   rw [rounds_succ]
   go_wp2
   go_ret
   exact ⟨ret_int HQ.out, hY⟩
 ·have g0 : ((q0 : Int) != 0) = true := by simpa using h0
  rw [if_neg h0] at HQ
  clear h0
  go_wp2
  refine wp_loop_rounds 1 ?_
  rw [rounds_succ]
  go_wp2
  go_ret
  exact ⟨ret_int HQ.out, hY⟩

set_option maxHeartbeats 400000 in
theorem rjoin_any (v : ByteArray) (d : Bool) (a e : Int) (v' : ByteArray) (d' : Bool) (a' e' : Int) (w : World) :
  Calls Tryz.prog 77 #[.agg #[.string v, .bool d, .int .i64 a, .int .i64 e], .agg #[.string v', .bool d', .int .i64 a', .int .i64 e']] w fun r w' =>
   r = .returned (if cmpC v d a e v' d' a' e' < 0 then .agg #[.string v', .bool d', .int .i64 a', .int .i64 e'] else .agg #[.string v, .bool d, .int .i64 a, .int .i64 e]) ∧ Ext w w' := by
 by_cases h : cmpC v d a e v' d' a' e' < 0
 ·rw [if_pos h]
  go_enter Tryz.func77, Tryz.ntmps77
  go_wp2_with (go_at_call 98; go_must (refine (rcmp_any _ _ _ _ _ _ _ _ _).mono ?_); rintro r w1 ⟨rfl, hE⟩; obtain ⟨hc, hf⟩ := And.intro hE.cells hE.frozens)
  refine bodyPost_ret (v := .agg #[.string v', .bool d', .int .i64 a', .int .i64 e']) (by simp [results, Tryz.results77, go_sem, hc]) rfl ⟨rfl, ?_⟩
  have hX := ((((Ext.refl w).alloc _).alloc _).alloc _).trans hE
  exact (((hX.setCell (Nat.le_add_right _ 2) _).setCell (Nat.le_add_right _ 2) _).setCell (Nat.le_add_right _ 2) _).setCell (Nat.le_add_right _ 2) _
 ·rw [if_neg h]
  go_enter Tryz.func77, Tryz.ntmps77
  go_wp2_with (go_at_call 98; go_must (refine (rcmp_any _ _ _ _ _ _ _ _ _).mono ?_); rintro r w1 ⟨rfl, hE⟩; obtain ⟨hc, hf⟩ := And.intro hE.cells hE.frozens)
  refine bodyPost_ret (v := .agg #[.string v, .bool d, .int .i64 a, .int .i64 e]) (by simp [results, Tryz.results77, go_sem, hc]) rfl ⟨rfl, ?_⟩
  have hX := ((((Ext.refl w).alloc _).alloc _).alloc _).trans hE
  exact (((hX.setCell (Nat.le_add_right _ 2) _).setCell (Nat.le_add_right _ 2) _).setCell (Nat.le_add_right _ 2) _).setCell (Nat.le_add_right _ 2) _
end Go.Proofs.YtolkhjdododdaaaGreatDoor

/- Cells as one thing: their joins, their order; the plain laws; the walks again, so said. -/
namespace Go.Proofs.YtolkhjdododdaaaGreatDoor
open Go Go.RowKit
theorem join_c (v : ByteArray) (d : Bool) (a e : Int) (v' : ByteArray) (d' : Bool) (a' e' : Int) (w : World) :
  Calls Tryz.prog 67 #[.agg #[.string v, .bool d, .int .i64 a, .int .i64 e], .agg #[.string v', .bool d', .int .i64 a', .int .i64 e']] w fun r w' =>
   r = .returned (.agg #[.string (joinCl ⟨v, d, a, e⟩ ⟨v', d', a', e'⟩).val, .bool (joinCl ⟨v, d, a, e⟩ ⟨v', d', a', e'⟩).dead, .int .i64 (joinCl ⟨v, d, a, e⟩ ⟨v', d', a', e'⟩).at_, .int .i64 (joinCl ⟨v, d, a, e⟩ ⟨v', d', a', e'⟩).fin]) ∧ Ext w w' :=
 (join_any v d a e v' d' a' e' w).mono fun r w' h => ⟨by
  rw [h.1]
  unfold joinCl cmpCl
  split <;> rfl, h.2⟩

/-! ### The order of cells -/
/-! ### Joins -/
theorem rjoin_c (v : ByteArray) (d : Bool) (a e : Int) (v' : ByteArray) (d' : Bool) (a' e' : Int) (w : World) :
  Calls Tryz.prog 77 #[.agg #[.string v, .bool d, .int .i64 a, .int .i64 e], .agg #[.string v', .bool d', .int .i64 a', .int .i64 e']] w fun r w' =>
   r = .returned (.agg #[.string (joinCl ⟨v, d, a, e⟩ ⟨v', d', a', e'⟩).val, .bool (joinCl ⟨v, d, a, e⟩ ⟨v', d', a', e'⟩).dead, .int .i64 (joinCl ⟨v, d, a, e⟩ ⟨v', d', a', e'⟩).at_, .int .i64 (joinCl ⟨v, d, a, e⟩ ⟨v', d', a', e'⟩).fin]) ∧ Ext w w' :=
 (rjoin_any v d a e v' d' a' e' w).mono fun r w' h => ⟨by
  rw [h.1]
  unfold joinCl cmpCl
  split <;> rfl, h.2⟩
end Go.Proofs.YtolkhjdododdaaaGreatDoor
