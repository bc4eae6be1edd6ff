/- row.Merge over rows. (what a smaller cut has) -/
import Derived.Test.YtimbikbbbfpeeaaGreatDoorP7
import Derived.Test.YtimbikbbbfpeeaaGreatDoorP11
import Derived.Shelf.Small.Strs
import Derived.Shelf.Small.Wraps
import Derived.Shelf.Strconv.Itoa0
import Derived.Test.YtimbikbbbfpeeaaGreatDoorProg
import Derived.Test.YtimbikbbbfpeeaaGreatDoorP6
import Derived.Deep.Light
set_option linter.unusedSimpArgs false
set_option linter.unusedVariables false
namespace Go.Proofs.YtimbikbbbfpeeaaGreatDoor
open Go Go.RowKit
attribute [local go_sem] yields yUpon ro8

def keyR (a b : Ro) : Int := cmpB a.key.data.toList b.key.data.toList
def mergeRo (l m : List Ro) : List Ro := mergeG keyR joinRo l m

/-- What stays true in a round's region: the row under way may be appended to. -/
structure MR (w wr : World) (vo : Value) (out : List (Ro × Value)) (x : World) : Prop where
  ext : Ext w x
  own : x.ownsRow w.heap.size 66 8 vo out.length (roCells out)
  size : wr.heap.size ≤ x.heap.size
  safe : ∀ p ∈ out, SafeC w x p
theorem MR.ext' {w wr : World} {vo : Value} {out : List (Ro × Value)} {x y : World} (hE : Ext x y) (h : MR w wr vo out x) : MR w wr vo out y := ⟨h.ext.trans hE, ownsRow_ext h.own hE, Nat.le_trans h.size hE.le, fun p hp => (h.safe p hp).ext hE⟩
theorem ME_own {w wr : World} {vo : Value} {n j m s : Nat} {T : TypeId} {xs : List Value} (hown : wr.ownsRow w.heap.size T s vo m xs) {x y : World} (h : ME vo n j x y) {T' : TypeId} {s' m' : Nat} {v : Value} {xs' : List Value} (hx : x.ownsRow wr.heap.size T' s' v m' xs') : y.ownsRow wr.heap.size T' s' v m' xs' := by
  unfold ME at h
  split at h
  · refine hx.kept h ?_
    cases e : v.ownBlock with
    | none => exact .inl rfl
    | some g => exact .inr (fun h => by have := (hx.lt g e).1; have := (hown.lt g h.symm).2; omega)
  · exact ownsRow_ext hx h
end Go.Proofs.YtimbikbbbfpeeaaGreatDoor

/- Contracts of the library, laid at this program: strings.Compare, cmp.Compare: each is one application of a theorem of the shelf (the text is the tool's, its numbers by name). -/
namespace Go.Proofs
open Go.Shelf
def Tryz.lays106_ren : Go.Shelf.Ren := ⟨fun | 106 => 211 | 213 => 227 | 265 => 239 | n => n, fun | 9 => 9 | 3 => 3 | n => n, fun | n => n⟩
theorem Tryz.lays106 : Go.Proofs.Lays.n106 Tryz.prog Tryz.lays106_ren := {
  mixed := by kernel_rfl
  f106 := Tryz.func211.trans (congrArg some (by kernel_rfl))
  f213 := Tryz.func227.trans (congrArg some (by kernel_rfl))
  f265 := Tryz.func239.trans (congrArg some (by kernel_rfl))
  t3 := Tryz.underlying3
  a3 := Tryz.isAgg3
  z3 := Tryz.sizeOf3
  v3 := Tryz.zeroValue3
  t9 := Tryz.underlying9
  a9 := Tryz.isAgg9
  z9 := Tryz.sizeOf9
  v9 := Tryz.zeroValue9 }
open Go.RowKit in
theorem Tryz.strings_Compare (a b : ByteArray) (w : World) :
    Calls Tryz.prog 211 #[.string a, .string b] w fun e w' => e = .returned (.int .i64 (Lib.compareBytes a.data.toList b.data.toList)) ∧ w' = w := Any.strings_Compare Tryz.lays106 a b w
def Tryz.lays122_ren : Go.Shelf.Ren := ⟨fun | 122 => 242 | 215 => 206 | n => n, fun | 3 => 3 | 4 => 4 | n => n, fun | n => n⟩
theorem Tryz.lays122 : Go.Proofs.Lays.n122 Tryz.prog Tryz.lays122_ren := {
  mixed := by kernel_rfl
  f122 := Tryz.func242.trans (congrArg some (by kernel_rfl))
  f215 := Tryz.func206.trans (congrArg some (by kernel_rfl))
  t3 := Tryz.underlying3
  a3 := Tryz.isAgg3
  z3 := Tryz.sizeOf3
  v3 := Tryz.zeroValue3
  t4 := Tryz.underlying4
  a4 := Tryz.isAgg4
  z4 := Tryz.sizeOf4
  v4 := Tryz.zeroValue4 }
open Go.RowKit in
theorem Tryz.cmp_Compare_int (x y : Int) (w : World) :
    Calls Tryz.prog 242 #[.int .i64 x, .int .i64 y] w fun e w' => e = .returned (.int .i64 (Lib.compareInt x y)) ∧ w' = w := Any.cmp_Compare_int Tryz.lays122 x y w
end Go.Proofs

/- The walks over cell.Cmp, cell.Join. -/
namespace Go.Proofs.YtimbikbbbfpeeaaGreatDoor
open Go Go.RowKit
theorem cmpCompare_any (x y : Int) (w : World) : Calls Tryz.prog 242 #[.int .i64 x, .int .i64 y] w fun e w' => e = .returned (.int .i64 (cmpI x y)) ∧ w = w' :=
  (Tryz.cmp_Compare_int x y w).mono fun _ _ h => ⟨h.1, h.2.symm⟩
theorem strCompare_any (x y : ByteArray) (w : World) : Calls Tryz.prog 211 #[.string x, .string y] w fun e w' => e = .returned (.int .i64 (cmpB x.data.toList y.data.toList)) ∧ w = w' :=
  (Tryz.strings_Compare x y w).mono fun _ _ h => ⟨h.1, h.2.symm⟩

set_option maxHeartbeats 400000 in
theorem truth_any (b : Bool) (w : World) : Calls Tryz.prog 243 #[.bool b] w fun e w' => e = .returned (.int .i64 (bit b)) ∧ w = w' := by
  cases b
  all_goals
    go_enter Tryz.func243, Tryz.ntmps243
    go_wp2
    go_ret
    exact ⟨rfl, rfl⟩

set_option maxHeartbeats 400000 in
theorem cmpOr_any (x y z t : Int) (v : Value) (w : World) (hv : SliceIn w v 4 [.int .i64 x, .int .i64 y, .int .i64 z, .int .i64 t]) :
    Calls Tryz.prog 244 #[v] w fun e w' => e = .returned (.int .i64 (or4 x y z t)) ∧ w = w' := by
  obtain ⟨a, c, rfl, hc, hcm, ha, hcell⟩ := hv
  obtain ⟨b, o, rfl, h0⟩ := hcell 0 _ rfl
  obtain ⟨b1, o1, e1, h1⟩ := hcell 1 _ rfl
  obtain ⟨b2, o2, e2, h2⟩ := hcell 2 _ rfl
  obtain ⟨b3, o3, e3, h3⟩ := hcell 3 _ rfl
  cases e1; cases e2; cases e3
  rw [Nat.add_zero] at h0
  clear hcell ha
  unfold or4
  by_cases hx : x = 0
  · subst hx
    rw [if_pos rfl]
    by_cases hy : y = 0
    · subst hy
      rw [if_pos rfl]
      by_cases hz : z = 0
      · subst hz
        rw [if_pos rfl]
        by_cases ht : t = 0
        · subst ht
          go_enter Tryz.func244, Tryz.ntmps244
          go_wp2
          refine wp_loop_rounds 5 ?_
          rw [rounds_succ]
          go_wp2
          rw [rounds_succ]
          go_wp2
          rw [rounds_succ]
          go_wp2
          rw [rounds_succ]
          go_wp2
          rw [rounds_succ]
          go_wp2
          go_ret
          exact ⟨rfl, rfl⟩
        · have ht' : ((t : Int) != 0) = true := by simpa using ht
          go_enter Tryz.func244, Tryz.ntmps244
          go_wp2
          refine wp_loop_rounds 4 ?_
          rw [rounds_succ]
          go_wp2
          rw [rounds_succ]
          go_wp2
          rw [rounds_succ]
          go_wp2
          rw [rounds_succ]
          go_wp2
          go_ret
          exact ⟨rfl, rfl⟩
      · have hz' : ((z : Int) != 0) = true := by simpa using hz
        rw [if_neg hz]
        go_enter Tryz.func244, Tryz.ntmps244
        go_wp2
        refine wp_loop_rounds 3 ?_
        rw [rounds_succ]
        go_wp2
        rw [rounds_succ]
        go_wp2
        rw [rounds_succ]
        go_wp2
        go_ret
        exact ⟨rfl, rfl⟩
    · have hy' : ((y : Int) != 0) = true := by simpa using hy
      rw [if_neg hy]
      go_enter Tryz.func244, Tryz.ntmps244
      go_wp2
      refine wp_loop_rounds 2 ?_
      rw [rounds_succ]
      go_wp2
      rw [rounds_succ]
      go_wp2
      go_ret
      exact ⟨rfl, rfl⟩
  · have hx' : ((x : Int) != 0) = true := by simpa using hx
    rw [if_neg hx]
    go_enter Tryz.func244, Tryz.ntmps244
    go_wp2
    refine wp_loop_rounds 1 ?_
    rw [rounds_succ]
    go_wp2
    go_ret
    exact ⟨rfl, rfl⟩

attribute [local go_sem] yields yUpon
set_option maxRecDepth 100000 in
set_option maxHeartbeats 1000000 in
theorem cmp_any (v : ByteArray) (d : Bool) (a e : Int) (v' : ByteArray) (d' : Bool) (a' e' : Int) (w : World) :
    Calls Tryz.prog 240 #[.agg #[.string v, .bool d, .int .i64 a, .int .i64 e], .agg #[.string v', .bool d', .int .i64 a', .int .i64 e']] w fun r w' =>
      r = .returned (.int .i64 (cmpC v d a e v' d' a' e')) ∧ Ext w w' := by
  go_enter Tryz.func240, Tryz.ntmps240
  rcases (show (e == 0) = true ∨ (e == 0) = false ∧ (e' == 0) = true ∨ (e == 0) = false ∧ (e' == 0) = false by cases e == 0 <;> cases e' == 0 <;> simp) with he | ⟨he, he'⟩ | ⟨he, he'⟩
  · have HE := Lib.hid (endC_one (e' := e') he)
    go_wp2_with (go_at_call 242; go_must (refine (cmpCompare_any _ _ _).mono ?_); rintro r w1 ⟨rfl, rfl⟩)
    refine wp_region_in 10 [(3, fun v _ => v = .int .i64 (bit true)), (7, fun v _ => v = .int .i64 (bit (e' == 0))), (8, fun v _ => v = .int .i64 (endC e e'))] (fun w0 => Ext w w0 ∧ Params w w0 v d a e v' d' a' e') (by kernel_rfl) (by kernel_rfl) (by kernel_rfl) ⟨stays_eq _, stays_eq _, stays_eq _, trivial⟩ ?_ ?_
    · exact ⟨((Ext.refl w).alloc _).alloc _, Params.mk' _ _ _ _ _ _ _ _ _ _⟩
    rintro w0 ⟨hX, hP⟩
    have k3 := held hP.c3
    have k3' := held hP.b3
    refine rg_quiet rfl rfl rfl rfl ?_; intro K hK; go_big_quiet_op; go_big_quiet_on
    refine rg_quiet rfl rfl rfl rfl ?_; intro K hK; go_big_quiet_op; go_big_quiet_on
    refine rg_quiet rfl rfl rfl rfl ?_; intro K hK; go_big_quiet_op; go_big_quiet_on
    refine rg_callv (vals := #[.bool true]) [] _ rfl rfl rfl rfl Tryz.func243 rfl (by kernel_rfl) rfl (by kernel_rfl) (fun w1 hE hf => ?_) ?_
    · exact (truth_any _ w1).mono fun e w' ⟨he, hw⟩ => ⟨he, hw ▸ Ext.refl w1⟩
    simp only [Act.put, List.setIfInBounds_toArray, List.set_cons_zero, List.set_cons_succ]
    refine rg_quiet rfl rfl rfl rfl ?_; intro K hK; go_big_quiet_op; go_big_quiet_on
    refine rg_quiet rfl rfl rfl rfl ?_; intro K hK; go_big_quiet_op; go_big_quiet_on
    refine rg_quiet rfl rfl rfl rfl ?_; intro K hK; go_big_quiet_op; go_big_quiet_on
    refine rg_callv (vals := #[.bool (e' == 0)]) [] _ rfl rfl rfl rfl Tryz.func243 rfl (by kernel_rfl) rfl (by kernel_rfl) (fun w1 hE hf => ?_) ?_
    · exact (truth_any _ w1).mono fun e w' ⟨he, hw⟩ => ⟨he, hw ▸ Ext.refl w1⟩
    simp only [Act.put, List.setIfInBounds_toArray, List.set_cons_zero, List.set_cons_succ]
    refine rg_callv (vals := #[.int .i64 (bit true), .int .i64 (bit (e' == 0))]) [] _ rfl rfl rfl rfl Tryz.func242 rfl (by kernel_rfl) rfl (by kernel_rfl) (fun w1 hE hf => ?_) ?_
    · exact (cmpCompare_any _ _ w1).mono fun e w' ⟨he, hw⟩ => ⟨by rw [he, HE.out], hw ▸ Ext.refl w1⟩
    simp only [Act.put, List.setIfInBounds_toArray, List.set_cons_zero, List.set_cons_succ]
    refine rg_quiet rfl rfl rfl rfl ?_; intro K hK; go_big_quiet_op; go_big_quiet_on
    refine rel_nil fun w2 hE2 _ => ?_
    replace hP := hP.ext hE2
    replace hX := hX.trans hE2
    clear k3 k3' hE2 he HE
    go_wp2_with fail
    obtain ⟨q0, hq0⟩ : ∃ q, q = cmpI a a' := ⟨_, rfl⟩
    obtain ⟨q1, hq1⟩ : ∃ q, q = cmpI (bit d) (bit d') := ⟨_, rfl⟩
    obtain ⟨q2, hq2⟩ : ∃ q, q = cmpB v.data.toList v'.data.toList := ⟨_, rfl⟩
    have HQ : Hid (or4 q0 q1 q2 (endC e e') = cmpC v d a e v' d' a' e') := by rw [hq0, hq1, hq2]; rfl
    have H0 := Lib.hid hq0.symm
    have H1 := Lib.hid hq1.symm
    have H2 := Lib.hid hq2.symm
    clear hq0 hq1 hq2
    refine wp_region_in 21 [(4, fun v _ => v = .int .i64 q0), (7, fun v _ => v = .int .i64 (bit d)), (10, fun v _ => v = .int .i64 (bit d')), (11, fun v _ => v = .int .i64 q1), (16, fun v _ => v = .int .i64 q2), (18, fun v w => SliceIn w v 4 [.int .i64 q0, .int .i64 q1, .int .i64 q2, .int .i64 (endC e e')]), (19, fun x _ => x = .int .i64 (or4 q0 q1 q2 (endC e e')))] (fun w0 => Ext w w0 ∧ Params w w0 v d a e v' d' a' e') (by kernel_rfl) (by kernel_rfl) (by kernel_rfl) ⟨stays_eq _, stays_eq _, stays_eq _, stays_eq _, stays_eq _, stays_slice _ _, stays_eq _, trivial⟩ ?_ ?_
    · exact ⟨hX, hP⟩
    clear hX hP
    rintro w0 ⟨hX, hP⟩
    have k0 := held hP.c0
    have k1 := held hP.c1
    have k2 := held hP.c2
    have j0 := held hP.b0
    have j1 := held hP.b1
    have j2 := held hP.b2
    clear hP
    refine rg_quiet rfl rfl rfl rfl ?_; intro K hK; go_big_quiet_op; go_big_quiet_on
    refine rg_quiet rfl rfl rfl rfl ?_; intro K hK; go_big_quiet_op; go_big_quiet_on
    refine rg_quiet rfl rfl rfl rfl ?_; intro K hK; go_big_quiet_op; go_big_quiet_on
    refine rg_quiet rfl rfl rfl rfl ?_; intro K hK; go_big_quiet_op; go_big_quiet_on
    refine rg_callv (vals := #[.int .i64 a, .int .i64 a']) [] _ rfl rfl rfl rfl Tryz.func242 rfl (by kernel_rfl) rfl (by kernel_rfl) (fun w1 hE hf => ?_) ?_
    · exact (cmpCompare_any _ _ w1).mono fun e w' ⟨he, hw⟩ => ⟨by rw [he, H0.out], hw ▸ Ext.refl w1⟩
    simp only [Act.put, List.setIfInBounds_toArray, List.set_cons_zero, List.set_cons_succ]
    refine rg_quiet rfl rfl rfl rfl ?_; intro K hK; go_big_quiet_op; go_big_quiet_on
    refine rg_quiet rfl rfl rfl rfl ?_; intro K hK; go_big_quiet_op; go_big_quiet_on
    refine rg_callv (vals := #[.bool d]) [] _ rfl rfl rfl rfl Tryz.func243 rfl (by kernel_rfl) rfl (by kernel_rfl) (fun w1 hE hf => ?_) ?_
    · exact (truth_any _ w1).mono fun e w' ⟨he, hw⟩ => ⟨he, hw ▸ Ext.refl w1⟩
    simp only [Act.put, List.setIfInBounds_toArray, List.set_cons_zero, List.set_cons_succ]
    refine rg_quiet rfl rfl rfl rfl ?_; intro K hK; go_big_quiet_op; go_big_quiet_on
    refine rg_quiet rfl rfl rfl rfl ?_; intro K hK; go_big_quiet_op; go_big_quiet_on
    refine rg_callv (vals := #[.bool d']) [] _ rfl rfl rfl rfl Tryz.func243 rfl (by kernel_rfl) rfl (by kernel_rfl) (fun w1 hE hf => ?_) ?_
    · exact (truth_any _ w1).mono fun e w' ⟨he, hw⟩ => ⟨he, hw ▸ Ext.refl w1⟩
    simp only [Act.put, List.setIfInBounds_toArray, List.set_cons_zero, List.set_cons_succ]
    refine rg_callv (vals := #[.int .i64 (bit d), .int .i64 (bit d')]) [] _ rfl rfl rfl rfl Tryz.func242 rfl (by kernel_rfl) rfl (by kernel_rfl) (fun w1 hE hf => ?_) ?_
    · exact (cmpCompare_any _ _ w1).mono fun e w' ⟨he, hw⟩ => ⟨by rw [he, H1.out], hw ▸ Ext.refl w1⟩
    simp only [Act.put, List.setIfInBounds_toArray, List.set_cons_zero, List.set_cons_succ]
    refine rg_quiet rfl rfl rfl rfl ?_; intro K hK; go_big_quiet_op; go_big_quiet_on
    refine rg_quiet rfl rfl rfl rfl ?_; intro K hK; go_big_quiet_op; go_big_quiet_on
    refine rg_quiet rfl rfl rfl rfl ?_; intro K hK; go_big_quiet_op; go_big_quiet_on
    refine rg_quiet rfl rfl rfl rfl ?_; intro K hK; go_big_quiet_op; go_big_quiet_on
    refine rg_callv (vals := #[.string v, .string v']) [] _ rfl rfl rfl rfl Tryz.func211 rfl (by kernel_rfl) rfl (by kernel_rfl) (fun w1 hE hf => ?_) ?_
    · exact (strCompare_any _ _ w1).mono fun e w' ⟨he, hw⟩ => ⟨by rw [he, H2.out], hw ▸ Ext.refl w1⟩
    simp only [Act.put, List.setIfInBounds_toArray, List.set_cons_zero, List.set_cons_succ]
    refine rg_quiet rfl rfl rfl rfl ?_; intro K hK; go_big_quiet_op; go_big_quiet_on
    refine rel_call [] _ rfl rfl rfl rfl (fun w1 hE hf => ?_) (fun x w1 hE hG hx => ?_)
    · go_simp
      exact ⟨hE.alloc _, (Ext.refl w1).alloc _, SliceIn.made w1 #[_, _, _, _] _ 4 (by unfold maxLen; omega)⟩
    simp only [Act.put, List.setIfInBounds_toArray, List.set_cons_zero, List.set_cons_succ]
    refine rg_callv (vals := #[x]) [18] _ rfl rfl rfl rfl Tryz.func244 rfl (by kernel_rfl) rfl (by kernel_rfl) (fun w1 hE hf => ?_) ?_
    · exact (cmpOr_any _ _ _ _ _ w1 ((hf 18 (by simp)).2 rfl)).mono fun e w' ⟨he, hw⟩ => ⟨he, hw ▸ Ext.refl w1⟩
    simp only [Act.put, List.setIfInBounds_toArray, List.set_cons_zero, List.set_cons_succ]
    refine rg_quiet rfl rfl rfl rfl ?_; intro K hK; go_big_quiet_op; go_big_quiet_on
    refine rel_nil fun w2 hE2 _ => ?_
    replace hX := hX.trans hE2
    go_wp2
    go_ret
    exact ⟨ret_int HQ.out, hX⟩
  · have HE := Lib.hid (endC_two he he')
    go_wp2_with (go_at_call 242; go_must (refine (cmpCompare_any _ _ _).mono ?_); rintro r w1 ⟨rfl, rfl⟩)
    refine wp_region_in 10 [(3, fun v _ => v = .int .i64 (bit false)), (7, fun v _ => v = .int .i64 (bit true)), (8, fun v _ => v = .int .i64 (endC e e'))] (fun w0 => Ext w w0 ∧ Params w w0 v d a e v' d' a' e') (by kernel_rfl) (by kernel_rfl) (by kernel_rfl) ⟨stays_eq _, stays_eq _, stays_eq _, trivial⟩ ?_ ?_
    · exact ⟨((Ext.refl w).alloc _).alloc _, Params.mk' _ _ _ _ _ _ _ _ _ _⟩
    rintro w0 ⟨hX, hP⟩
    have k3 := held hP.c3
    have k3' := held hP.b3
    refine rg_quiet rfl rfl rfl rfl ?_; intro K hK; go_big_quiet_op; go_big_quiet_on
    refine rg_quiet rfl rfl rfl rfl ?_; intro K hK; go_big_quiet_op; go_big_quiet_on
    refine rg_quiet rfl rfl rfl rfl ?_; intro K hK; go_big_quiet_op; go_big_quiet_on
    refine rg_callv (vals := #[.bool false]) [] _ rfl rfl rfl rfl Tryz.func243 rfl (by kernel_rfl) rfl (by kernel_rfl) (fun w1 hE hf => ?_) ?_
    · exact (truth_any _ w1).mono fun e w' ⟨he, hw⟩ => ⟨he, hw ▸ Ext.refl w1⟩
    simp only [Act.put, List.setIfInBounds_toArray, List.set_cons_zero, List.set_cons_succ]
    refine rg_quiet rfl rfl rfl rfl ?_; intro K hK; go_big_quiet_op; go_big_quiet_on
    refine rg_quiet rfl rfl rfl rfl ?_; intro K hK; go_big_quiet_op; go_big_quiet_on
    refine rg_quiet rfl rfl rfl rfl ?_; intro K hK; go_big_quiet_op; go_big_quiet_on
    refine rg_callv (vals := #[.bool true]) [] _ rfl rfl rfl rfl Tryz.func243 rfl (by kernel_rfl) rfl (by kernel_rfl) (fun w1 hE hf => ?_) ?_
    · exact (truth_any _ w1).mono fun e w' ⟨he, hw⟩ => ⟨he, hw ▸ Ext.refl w1⟩
    simp only [Act.put, List.setIfInBounds_toArray, List.set_cons_zero, List.set_cons_succ]
    refine rg_callv (vals := #[.int .i64 (bit false), .int .i64 (bit true)]) [] _ rfl rfl rfl rfl Tryz.func242 rfl (by kernel_rfl) rfl (by kernel_rfl) (fun w1 hE hf => ?_) ?_
    · exact (cmpCompare_any _ _ w1).mono fun e w' ⟨he, hw⟩ => ⟨by rw [he, HE.out], hw ▸ Ext.refl w1⟩
    simp only [Act.put, List.setIfInBounds_toArray, List.set_cons_zero, List.set_cons_succ]
    refine rg_quiet rfl rfl rfl rfl ?_; intro K hK; go_big_quiet_op; go_big_quiet_on
    refine rel_nil fun w2 hE2 _ => ?_
    replace hP := hP.ext hE2
    replace hX := hX.trans hE2
    clear k3 k3' hE2 he he' HE
    go_wp2_with fail
    obtain ⟨q0, hq0⟩ : ∃ q, q = cmpI a a' := ⟨_, rfl⟩
    obtain ⟨q1, hq1⟩ : ∃ q, q = cmpI (bit d) (bit d') := ⟨_, rfl⟩
    obtain ⟨q2, hq2⟩ : ∃ q, q = cmpB v.data.toList v'.data.toList := ⟨_, rfl⟩
    have HQ : Hid (or4 q0 q1 q2 (endC e e') = cmpC v d a e v' d' a' e') := by rw [hq0, hq1, hq2]; rfl
    have H0 := Lib.hid hq0.symm
    have H1 := Lib.hid hq1.symm
    have H2 := Lib.hid hq2.symm
    clear hq0 hq1 hq2
    refine wp_region_in 21 [(4, fun v _ => v = .int .i64 q0), (7, fun v _ => v = .int .i64 (bit d)), (10, fun v _ => v = .int .i64 (bit d')), (11, fun v _ => v = .int .i64 q1), (16, fun v _ => v = .int .i64 q2), (18, fun v w => SliceIn w v 4 [.int .i64 q0, .int .i64 q1, .int .i64 q2, .int .i64 (endC e e')]), (19, fun x _ => x = .int .i64 (or4 q0 q1 q2 (endC e e')))] (fun w0 => Ext w w0 ∧ Params w w0 v d a e v' d' a' e') (by kernel_rfl) (by kernel_rfl) (by kernel_rfl) ⟨stays_eq _, stays_eq _, stays_eq _, stays_eq _, stays_eq _, stays_slice _ _, stays_eq _, trivial⟩ ?_ ?_
    · exact ⟨hX, hP⟩
    clear hX hP
    rintro w0 ⟨hX, hP⟩
    have k0 := held hP.c0
    have k1 := held hP.c1
    have k2 := held hP.c2
    have j0 := held hP.b0
    have j1 := held hP.b1
    have j2 := held hP.b2
    clear hP
    refine rg_quiet rfl rfl rfl rfl ?_; intro K hK; go_big_quiet_op; go_big_quiet_on
    refine rg_quiet rfl rfl rfl rfl ?_; intro K hK; go_big_quiet_op; go_big_quiet_on
    refine rg_quiet rfl rfl rfl rfl ?_; intro K hK; go_big_quiet_op; go_big_quiet_on
    refine rg_quiet rfl rfl rfl rfl ?_; intro K hK; go_big_quiet_op; go_big_quiet_on
    refine rg_callv (vals := #[.int .i64 a, .int .i64 a']) [] _ rfl rfl rfl rfl Tryz.func242 rfl (by kernel_rfl) rfl (by kernel_rfl) (fun w1 hE hf => ?_) ?_
    · exact (cmpCompare_any _ _ w1).mono fun e w' ⟨he, hw⟩ => ⟨by rw [he, H0.out], hw ▸ Ext.refl w1⟩
    simp only [Act.put, List.setIfInBounds_toArray, List.set_cons_zero, List.set_cons_succ]
    refine rg_quiet rfl rfl rfl rfl ?_; intro K hK; go_big_quiet_op; go_big_quiet_on
    refine rg_quiet rfl rfl rfl rfl ?_; intro K hK; go_big_quiet_op; go_big_quiet_on
    refine rg_callv (vals := #[.bool d]) [] _ rfl rfl rfl rfl Tryz.func243 rfl (by kernel_rfl) rfl (by kernel_rfl) (fun w1 hE hf => ?_) ?_
    · exact (truth_any _ w1).mono fun e w' ⟨he, hw⟩ => ⟨he, hw ▸ Ext.refl w1⟩
    simp only [Act.put, List.setIfInBounds_toArray, List.set_cons_zero, List.set_cons_succ]
    refine rg_quiet rfl rfl rfl rfl ?_; intro K hK; go_big_quiet_op; go_big_quiet_on
    refine rg_quiet rfl rfl rfl rfl ?_; intro K hK; go_big_quiet_op; go_big_quiet_on
    refine rg_callv (vals := #[.bool d']) [] _ rfl rfl rfl rfl Tryz.func243 rfl (by kernel_rfl) rfl (by kernel_rfl) (fun w1 hE hf => ?_) ?_
    · exact (truth_any _ w1).mono fun e w' ⟨he, hw⟩ => ⟨he, hw ▸ Ext.refl w1⟩
    simp only [Act.put, List.setIfInBounds_toArray, List.set_cons_zero, List.set_cons_succ]
    refine rg_callv (vals := #[.int .i64 (bit d), .int .i64 (bit d')]) [] _ rfl rfl rfl rfl Tryz.func242 rfl (by kernel_rfl) rfl (by kernel_rfl) (fun w1 hE hf => ?_) ?_
    · exact (cmpCompare_any _ _ w1).mono fun e w' ⟨he, hw⟩ => ⟨by rw [he, H1.out], hw ▸ Ext.refl w1⟩
    simp only [Act.put, List.setIfInBounds_toArray, List.set_cons_zero, List.set_cons_succ]
    refine rg_quiet rfl rfl rfl rfl ?_; intro K hK; go_big_quiet_op; go_big_quiet_on
    refine rg_quiet rfl rfl rfl rfl ?_; intro K hK; go_big_quiet_op; go_big_quiet_on
    refine rg_quiet rfl rfl rfl rfl ?_; intro K hK; go_big_quiet_op; go_big_quiet_on
    refine rg_quiet rfl rfl rfl rfl ?_; intro K hK; go_big_quiet_op; go_big_quiet_on
    refine rg_callv (vals := #[.string v, .string v']) [] _ rfl rfl rfl rfl Tryz.func211 rfl (by kernel_rfl) rfl (by kernel_rfl) (fun w1 hE hf => ?_) ?_
    · exact (strCompare_any _ _ w1).mono fun e w' ⟨he, hw⟩ => ⟨by rw [he, H2.out], hw ▸ Ext.refl w1⟩
    simp only [Act.put, List.setIfInBounds_toArray, List.set_cons_zero, List.set_cons_succ]
    refine rg_quiet rfl rfl rfl rfl ?_; intro K hK; go_big_quiet_op; go_big_quiet_on
    refine rel_call [] _ rfl rfl rfl rfl (fun w1 hE hf => ?_) (fun x w1 hE hG hx => ?_)
    · go_simp
      exact ⟨hE.alloc _, (Ext.refl w1).alloc _, SliceIn.made w1 #[_, _, _, _] _ 4 (by unfold maxLen; omega)⟩
    simp only [Act.put, List.setIfInBounds_toArray, List.set_cons_zero, List.set_cons_succ]
    refine rg_callv (vals := #[x]) [18] _ rfl rfl rfl rfl Tryz.func244 rfl (by kernel_rfl) rfl (by kernel_rfl) (fun w1 hE hf => ?_) ?_
    · exact (cmpOr_any _ _ _ _ _ w1 ((hf 18 (by simp)).2 rfl)).mono fun e w' ⟨he, hw⟩ => ⟨he, hw ▸ Ext.refl w1⟩
    simp only [Act.put, List.setIfInBounds_toArray, List.set_cons_zero, List.set_cons_succ]
    refine rg_quiet rfl rfl rfl rfl ?_; intro K hK; go_big_quiet_op; go_big_quiet_on
    refine rel_nil fun w2 hE2 _ => ?_
    replace hX := hX.trans hE2
    go_wp2
    go_ret
    exact ⟨ret_int HQ.out, hX⟩
  · have HE := endC_three he he'
    go_wp2_with (go_at_call 242; go_must (refine (cmpCompare_any _ _ _).mono ?_); rintro r w1 ⟨rfl, rfl⟩)
    have hP : Params w _ v d a e v' d' a' e' := Params.mk' w v d a e v' d' a' e' 63
    have hX := ((Ext.refl w).alloc (.cells #[.string v, .bool d, .int .i64 a, .int .i64 e] 63)).alloc (.cells #[.string v', .bool d', .int .i64 a', .int .i64 e'] 63)
    clear he he' HE
    obtain ⟨q0, hq0⟩ : ∃ q, q = cmpI a a' := ⟨_, rfl⟩
    obtain ⟨q1, hq1⟩ : ∃ q, q = cmpI (bit d) (bit d') := ⟨_, rfl⟩
    obtain ⟨q2, hq2⟩ : ∃ q, q = cmpB v.data.toList v'.data.toList := ⟨_, rfl⟩
    have HQ : Hid (or4 q0 q1 q2 (endC e e') = cmpC v d a e v' d' a' e') := by rw [hq0, hq1, hq2]; rfl
    have H0 := Lib.hid hq0.symm
    have H1 := Lib.hid hq1.symm
    have H2 := Lib.hid hq2.symm
    clear hq0 hq1 hq2
    refine wp_region_in 21 [(4, fun v _ => v = .int .i64 q0), (7, fun v _ => v = .int .i64 (bit d)), (10, fun v _ => v = .int .i64 (bit d')), (11, fun v _ => v = .int .i64 q1), (16, fun v _ => v = .int .i64 q2), (18, fun v w => SliceIn w v 4 [.int .i64 q0, .int .i64 q1, .int .i64 q2, .int .i64 (endC e e')]), (19, fun x _ => x = .int .i64 (or4 q0 q1 q2 (endC e e')))] (fun w0 => Ext w w0 ∧ Params w w0 v d a e v' d' a' e') (by kernel_rfl) (by kernel_rfl) (by kernel_rfl) ⟨stays_eq _, stays_eq _, stays_eq _, stays_eq _, stays_eq _, stays_slice _ _, stays_eq _, trivial⟩ ?_ ?_
    · exact ⟨hX, hP⟩
    clear hX hP
    rintro w0 ⟨hX, hP⟩
    have k0 := held hP.c0
    have k1 := held hP.c1
    have k2 := held hP.c2
    have j0 := held hP.b0
    have j1 := held hP.b1
    have j2 := held hP.b2
    clear hP
    refine rg_quiet rfl rfl rfl rfl ?_; intro K hK; go_big_quiet_op; go_big_quiet_on
    refine rg_quiet rfl rfl rfl rfl ?_; intro K hK; go_big_quiet_op; go_big_quiet_on
    refine rg_quiet rfl rfl rfl rfl ?_; intro K hK; go_big_quiet_op; go_big_quiet_on
    refine rg_quiet rfl rfl rfl rfl ?_; intro K hK; go_big_quiet_op; go_big_quiet_on
    refine rg_callv (vals := #[.int .i64 a, .int .i64 a']) [] _ rfl rfl rfl rfl Tryz.func242 rfl (by kernel_rfl) rfl (by kernel_rfl) (fun w1 hE hf => ?_) ?_
    · exact (cmpCompare_any _ _ w1).mono fun e w' ⟨he, hw⟩ => ⟨by rw [he, H0.out], hw ▸ Ext.refl w1⟩
    simp only [Act.put, List.setIfInBounds_toArray, List.set_cons_zero, List.set_cons_succ]
    refine rg_quiet rfl rfl rfl rfl ?_; intro K hK; go_big_quiet_op; go_big_quiet_on
    refine rg_quiet rfl rfl rfl rfl ?_; intro K hK; go_big_quiet_op; go_big_quiet_on
    refine rg_callv (vals := #[.bool d]) [] _ rfl rfl rfl rfl Tryz.func243 rfl (by kernel_rfl) rfl (by kernel_rfl) (fun w1 hE hf => ?_) ?_
    · exact (truth_any _ w1).mono fun e w' ⟨he, hw⟩ => ⟨he, hw ▸ Ext.refl w1⟩
    simp only [Act.put, List.setIfInBounds_toArray, List.set_cons_zero, List.set_cons_succ]
    refine rg_quiet rfl rfl rfl rfl ?_; intro K hK; go_big_quiet_op; go_big_quiet_on
    refine rg_quiet rfl rfl rfl rfl ?_; intro K hK; go_big_quiet_op; go_big_quiet_on
    refine rg_callv (vals := #[.bool d']) [] _ rfl rfl rfl rfl Tryz.func243 rfl (by kernel_rfl) rfl (by kernel_rfl) (fun w1 hE hf => ?_) ?_
    · exact (truth_any _ w1).mono fun e w' ⟨he, hw⟩ => ⟨he, hw ▸ Ext.refl w1⟩
    simp only [Act.put, List.setIfInBounds_toArray, List.set_cons_zero, List.set_cons_succ]
    refine rg_callv (vals := #[.int .i64 (bit d), .int .i64 (bit d')]) [] _ rfl rfl rfl rfl Tryz.func242 rfl (by kernel_rfl) rfl (by kernel_rfl) (fun w1 hE hf => ?_) ?_
    · exact (cmpCompare_any _ _ w1).mono fun e w' ⟨he, hw⟩ => ⟨by rw [he, H1.out], hw ▸ Ext.refl w1⟩
    simp only [Act.put, List.setIfInBounds_toArray, List.set_cons_zero, List.set_cons_succ]
    refine rg_quiet rfl rfl rfl rfl ?_; intro K hK; go_big_quiet_op; go_big_quiet_on
    refine rg_quiet rfl rfl rfl rfl ?_; intro K hK; go_big_quiet_op; go_big_quiet_on
    refine rg_quiet rfl rfl rfl rfl ?_; intro K hK; go_big_quiet_op; go_big_quiet_on
    refine rg_quiet rfl rfl rfl rfl ?_; intro K hK; go_big_quiet_op; go_big_quiet_on
    refine rg_callv (vals := #[.string v, .string v']) [] _ rfl rfl rfl rfl Tryz.func211 rfl (by kernel_rfl) rfl (by kernel_rfl) (fun w1 hE hf => ?_) ?_
    · exact (strCompare_any _ _ w1).mono fun e w' ⟨he, hw⟩ => ⟨by rw [he, H2.out], hw ▸ Ext.refl w1⟩
    simp only [Act.put, List.setIfInBounds_toArray, List.set_cons_zero, List.set_cons_succ]
    refine rg_quiet rfl rfl rfl rfl ?_; intro K hK; go_big_quiet_op; go_big_quiet_on
    refine rel_call [] _ rfl rfl rfl rfl (fun w1 hE hf => ?_) (fun x w1 hE hG hx => ?_)
    · go_simp
      exact ⟨hE.alloc _, (Ext.refl w1).alloc _, SliceIn.made w1 #[_, _, _, _] _ 4 (by unfold maxLen; omega)⟩
    simp only [Act.put, List.setIfInBounds_toArray, List.set_cons_zero, List.set_cons_succ]
    refine rg_callv (vals := #[x]) [18] _ rfl rfl rfl rfl Tryz.func244 rfl (by kernel_rfl) rfl (by kernel_rfl) (fun w1 hE hf => ?_) ?_
    · exact (cmpOr_any _ _ _ _ _ w1 ((hf 18 (by simp)).2 rfl)).mono fun e w' ⟨he, hw⟩ => ⟨he, hw ▸ Ext.refl w1⟩
    simp only [Act.put, List.setIfInBounds_toArray, List.set_cons_zero, List.set_cons_succ]
    refine rg_quiet rfl rfl rfl rfl ?_; intro K hK; go_big_quiet_op; go_big_quiet_on
    refine rel_nil fun w2 hE2 _ => ?_
    replace hX := hX.trans hE2
    go_wp2
    go_ret
    exact ⟨ret_int HQ.out, hX⟩

set_option maxHeartbeats 400000 in
theorem join_any (v : ByteArray) (d : Bool) (a e : Int) (v' : ByteArray) (d' : Bool) (a' e' : Int) (w : World) :
    Calls Tryz.prog 231 #[.agg #[.string v, .bool d, .int .i64 a, .int .i64 e], .agg #[.string v', .bool d', .int .i64 a', .int .i64 e']] w fun r w' =>
      r = .returned (if cmpC v d a e v' d' a' e' < 0 then .agg #[.string v', .bool d', .int .i64 a', .int .i64 e'] else .agg #[.string v, .bool d, .int .i64 a, .int .i64 e]) ∧ Ext w w' := by
  by_cases h : cmpC v d a e v' d' a' e' < 0
  · rw [if_pos h]
    go_enter Tryz.func231, Tryz.ntmps231
    go_wp2_with (go_at_call 240; go_must (refine (cmp_any _ _ _ _ _ _ _ _ _).mono ?_); rintro r w1 ⟨rfl, hE⟩; obtain ⟨hc, hf⟩ := And.intro hE.cells hE.frozens)
    refine bodyPost_ret (v := .agg #[.string v', .bool d', .int .i64 a', .int .i64 e']) (by simp [results, Tryz.results231, go_sem, hc]) rfl ⟨rfl, ?_⟩
    have hX := ((((Ext.refl w).alloc _).alloc _).alloc _).trans hE
    exact (((hX.setCell (Nat.le_add_right _ 2) _).setCell (Nat.le_add_right _ 2) _).setCell (Nat.le_add_right _ 2) _).setCell (Nat.le_add_right _ 2) _
  · rw [if_neg h]
    go_enter Tryz.func231, Tryz.ntmps231
    go_wp2_with (go_at_call 240; go_must (refine (cmp_any _ _ _ _ _ _ _ _ _).mono ?_); rintro r w1 ⟨rfl, hE⟩; obtain ⟨hc, hf⟩ := And.intro hE.cells hE.frozens)
    refine bodyPost_ret (v := .agg #[.string v, .bool d, .int .i64 a, .int .i64 e]) (by simp [results, Tryz.results231, go_sem, hc]) rfl ⟨rfl, ?_⟩
    have hX := ((((Ext.refl w).alloc _).alloc _).alloc _).trans hE
    exact (((hX.setCell (Nat.le_add_right _ 2) _).setCell (Nat.le_add_right _ 2) _).setCell (Nat.le_add_right _ 2) _).setCell (Nat.le_add_right _ 2) _
end Go.Proofs.YtimbikbbbfpeeaaGreatDoor
