/- Regions that draw their order, with a store of a whole partition into a variable made in the region. -/
import Derived.Test.YteamiiekpjoclaaDoorP6
import Derived.Test.YteamiiekpjoclaaDoorP12
import Derived.Test.YteamiiekpjoclaaDoorP8
import Derived.Test.YteamiiekpjoclaaDoorP9
import Derived.Test.YteamiiekpjoclaaDoorP19
import Derived.Test.YteamiiekpjoclaaDoorP20
import Derived.Test.YteamiiekpjoclaaDoorP22
import Derived.Test.YteamiiekpjoclaaDoorP23
import Derived.Test.YteamiiekpjoclaaDoorP24
set_option linter.unusedSimpArgs false
set_option linter.unusedVariables false
namespace Go.Proofs.YteamiiekpjoclaaDoor
open Go Go.RowKit

/-- Operation n stores into a partition's variable that was made in the region (behind S blocks); the others let memory grow. -/
def SE (S n j : Nat) (x y : World) : Prop := if j = n then ∃ q Z Z', S ≤ q ∧ BoxAt x q Z 35 ∧ BoxAt y q Z' 35 ∧ Z'.size = 3 ∧ x.grownBy y (some q) else Ext x y
theorem SE_ext {S n j : Nat} {x y : World} (hj : j ≠ n) (h : Ext x y) : SE S n j x y := by unfold SE; rw [if_neg hj]; exact h
theorem SE_off {S n j : Nat} {x y : World} (hj : j ≠ n) (h : SE S n j x y) : Ext x y := by unfold SE at h; rwa [if_neg hj] at h
theorem SE_at {S n : Nat} {x y : World} {q : Nat} {Z Z' : Array Value} (hq : S ≤ q) (h1 : BoxAt x q Z 35) (h2 : BoxAt y q Z' 35) (h3 : Z'.size = 3) (hg : x.grownBy y (some q)) : SE S n n x y := by
  unfold SE; rw [if_pos rfl]; exact ⟨q, Z, Z', hq, h1, h2, h3, hg⟩
theorem SE_to {S n j : Nat} {w x y : World} (hS : w.heap.size ≤ S) (h : SE S n j x y) (hE : Ext w x) : Ext w y := by
  unfold SE at h
  split at h
  · obtain ⟨q, Z, Z', hq, _, _, _, hg⟩ := h
    exact hE.grown hg (fun p hp => by cases hp; omega)
  · exact hE.trans h
theorem SE_box {S n j : Nat} {x y : World} (h : SE S n j x y) {b : Nat} {cs : Array Value} {T : TypeId} (hT : T ≠ 35) (hb : BoxAt x b cs T) : BoxAt y b cs T := by
  unfold SE at h
  split at h
  · obtain ⟨q, Z, Z', hq, h1, _, _, hg⟩ := h
    exact hb.grown hg (fun e => box_ne hb h1 hT (Option.some.inj e))
  · exact hb.ext h
theorem SE_old {S n j : Nat} {x y : World} (h : SE S n j x y) {b : Nat} {cs : Array Value} {T : TypeId} (hS : b < S) (hb : BoxAt x b cs T) : BoxAt y b cs T := by
  unfold SE at h
  split at h
  · obtain ⟨q, Z, Z', hq, h1, _, _, hg⟩ := h
    exact hb.grown hg (fun e => by have := Option.some.inj e; omega)
  · exact hb.ext h
theorem SE_rows {S n j : Nat} {x y : World} (h : SE S n j x y) {v : Value} {qs : List (Ro × Value)} (hr : RowsT x v qs) : RowsT y v qs := by
  unfold SE at h
  split at h
  · obtain ⟨q, Z, Z', hq, h1, _, _, hg⟩ := h
    exact hr.keep hg h1 (by decide) (by decide)
  · exact hr.ext h
theorem SE_size {S n j : Nat} {x y : World} (h : SE S n j x y) : x.heap.size ≤ y.heap.size := by
  unfold SE at h
  split at h
  · obtain ⟨q, Z, Z', hq, h1, _, _, hg⟩ := h
    exact hg.size
  · exact h.le
theorem SE_part {S n j : Nat} {x y : World} (h : SE S n j x y) {b : Nat} (hb : ∃ Z, BoxAt x b Z 35 ∧ Z.size = 3) : ∃ Z, BoxAt y b Z 35 ∧ Z.size = 3 := by
  obtain ⟨Z, hb, hZ⟩ := hb
  unfold SE at h
  split at h
  · obtain ⟨q, Z1, Z2, hq, h1, h2, h3, hg⟩ := h
    by_cases e : b = q
    · subst e; exact ⟨Z2, h2, h3⟩
    · exact ⟨Z, hb.grown hg (fun e' => e (Option.some.inj e')), hZ⟩
  · exact ⟨Z, hb.ext h, hZ⟩
end Go.Proofs.YteamiiekpjoclaaDoor

/- PartAll: any two partitions, any time, any key: the law's walk. -/
namespace Go.Proofs.YteamiiekpjoclaaDoor
open Go Go.RowKit
attribute [local go_sem] yields yUpon ro8 pa3

/-- clerestorylaw00.Part. -/
theorem lpart8_any (k : ByteArray) (g : Int) (u : Value) (ps : List (Ro × Value)) (w : World) (h : RowsIn w u ps) (hlen : ps.length ≤ 10000) (hcl : ∀ p ∈ ps, p.1.cols.length ≤ 1000000) :
    Calls Tryd.prog 42 #[.agg #[.string k, .int .i64 g, u]] w fun e w' => ∃ v', e = .returned (.agg #[.string k, .int .i64 g, v']) ∧ ∃ qs, RowsT w' v' qs ∧ qs.map (·.1) = ps.map (·.1) ∧ Ext w w' := by
  obtain ⟨a0, a1, hE⟩ := boxes2 w (pa3 k g u) (pa3 ⟨#[]⟩ 0 (.slice none 0 0)) 35 35
  have h1 := h.ext hE
  go_enter Tryd.func42, Tryd.ntmps42
  go_wp2_with fail
  refine (copy8_any k g u ps _ h1 hlen hcl).mono ?_
  rintro e w1 ⟨v', rfl, qs, hr, hm, hE1⟩
  obtain ⟨av, cv, rfl⟩ := hr.shape
  have b1 := a1.ext hE1
  have hX1 := hE.trans hE1
  clear a0 a1 h1 hE hE1
  go_wp2_with (((guard_target =~ wpList _ _ _ (Oper.mk none (Op.store _ (Operand.tmp 2) (Operand.tmp 4)) _ _ _ _ :: _) _ _); go_must (refine storeBox rfl 35 (.tmp 2) (.tmp 4) rfl (w.heap.size + 1) _ _ _ (by rfl) (by rfl) (b1) (by kernel_rfl) (by rfl) (by simp [Value.oneCell']) ?_); intro w3 c3 g3))
  have hX3 := hX1.grown g3 (fun q hq => by cases hq; omega)
  have hr3 := hr.keep g3 b1 (by decide) (by decide)
  obtain ⟨z0, z1, z2⟩ := BoxAt.pa (k := k) (g := g) (u := .slice av qs.length cv) c3
  refine bodyPost_ret (v := .agg #[.string k, .int .i64 g, .slice av qs.length cv]) ?_ rfl ⟨_, rfl, qs, hr3, hm, hX3⟩
  simp [results, Tryd.results42, go_sem, Act.put, z0, z1, z2]
/-- The worlds in which the copies are joined. -/
structure PJ (w : World) (S : Nat) (Zp Zq : Array Value) (y : World) : Prop where
  ext : Ext w y
  bp : BoxAt y w.heap.size Zp 35
  bq : BoxAt y (w.heap.size + 1) Zq 35
  size : S ≤ y.heap.size
theorem PJ.ext' {w : World} {S : Nat} {Zp Zq : Array Value} {y z : World} (hE : Ext y z) (h : PJ w S Zp Zq y) : PJ w S Zp Zq z := ⟨h.ext.trans hE, h.bp.ext hE, h.bq.ext hE, Nat.le_trans h.size hE.le⟩
theorem pt_good {k : ByteArray} {g : Int} {l : List Ro} (h : ptB k g l = true) : GoodRs l ∧ ∀ r ∈ l, DistN r.cols := by
  have h2 := (ptB_parts h).2.2.2
  have h3 := rsB_up h2
  have hu : ∀ r ∈ l, Up kCo r.cols := fun r hr => (csB_up (rwB_parts (h3.2.1 r hr)).2).1
  exact ⟨⟨h3.1, hu⟩, fun r hr => distN_of_up (hu r hr)⟩

set_option maxRecDepth 100000 in
set_option maxHeartbeats 16000000 in
theorem law_partAll (pk qk : ByteArray) (pg qg : Int) (pu qu : Value) (ps qs : List (Ro × Value)) (now : Int) (strict : Bool) (key : ByteArray) (w : World) (hp : RowsIn w pu ps) (hq : RowsIn w qu qs) (hT : TabU w) :
    Calls Tryd.prog 7 #[.agg #[.string pk, .int .i64 pg, pu], .agg #[.string qk, .int .i64 qg, qu], .int .i64 now, .bool strict, .string key] w fun e w' => e = .returned (.bool true) ∧ Ext w w' := by
  obtain ⟨a0, a1, hE0⟩ := boxes2 w (pa3 pk pg pu) (pa3 qk qg qu) 35 35
  have hp0 := hp.ext hE0
  have hq0 := hq.ext hE0
  go_enter Tryd.func7, Tryd.ntmps7
  go_wp2_with fail
  refine (fewPart_any pk pg pu ps 30 _ hp0).mono ?_
  rintro e w1 ⟨F, rfl, hF, hE1⟩
  cases F
  · clear hF
    go_wp2_with fail
    refine (awake8_any w1).mono ?_
    rintro e w10 ⟨rfl, hE10⟩
    go_wp2_with fail
    go_ret
    exact ⟨rfl, (hE0.trans hE1).trans hE10⟩
  obtain ⟨_, fp1, fp2⟩ := hF rfl
  clear hF
  obtain ⟨z0, z1, z2⟩ := (a1.ext hE1).pa
  go_wp2_with fail
  refine (fewPart_any qk qg qu qs 30 w1 (hq0.ext hE1)).mono ?_
  rintro e w2 ⟨F, rfl, hF, hE2⟩
  cases F
  · clear hF
    go_wp2_with fail
    refine (awake8_any w2).mono ?_
    rintro e w10 ⟨rfl, hE10⟩
    go_wp2_with fail
    go_ret
    exact ⟨rfl, ((hE0.trans hE1).trans hE2).trans hE10⟩
  obtain ⟨_, fq1, fq2⟩ := hF rfl
  have hX2 := (hE0.trans hE1).trans hE2
  have b0 := a0.ext (hE1.trans hE2)
  have b1 := a1.ext (hE1.trans hE2)
  have hT2 := hT.ext hX2
  have lp : ps.length ≤ 30 := by omega
  have lq : qs.length ≤ 30 := by omega
  have cp : ∀ p ∈ ps, p.1.cols.length ≤ 20 := fun p h => (fp2 p h).cols
  have cq : ∀ p ∈ qs, p.1.cols.length ≤ 20 := fun p h => (fq2 p h).cols
  have np : ∀ p ∈ ps, ∀ c ∈ p.1.cols, c.name.size ≤ 1000000 := fun p h c hc => by have := ((fp2 p h).each c hc).1; omega
  have nq : ∀ p ∈ qs, ∀ c ∈ p.1.cols, c.name.size ≤ 1000000 := fun p h c hc => by have := ((fq2 p h).each c hc).1; omega
  have hp2 := hp.ext hX2
  have hq2 := hq.ext hX2
  clear hF z0 z1 z2 hE0 hE1 hE2 a0 a1 hp0 hq0 fp1 fq1 fp2 fq2 hT
  by_cases hk : 1000 < key.size
  · have t1 : decide ((1000 : Int) < (key.size : Int)) = true := by simp; omega
    go_wp2_with fail
    refine (awake8_any w2).mono ?_
    rintro e w10 ⟨rfl, hE10⟩
    go_wp2_with fail
    go_ret
    exact ⟨rfl, hX2.trans hE10⟩
  have t1 : decide ((1000 : Int) < (key.size : Int)) = false := by simp; omega
  obtain ⟨P, hP⟩ : ∃ P, P = ps.map (·.1) := ⟨_, rfl⟩
  obtain ⟨Q, hQ⟩ : ∃ Q, Q = qs.map (·.1) := ⟨_, rfl⟩
  obtain ⟨PA, hPA⟩ : ∃ X, X = ptB pk pg P := ⟨_, rfl⟩
  obtain ⟨PB, hPB⟩ : ∃ X, X = ptB qk qg Q := ⟨_, rfl⟩
  obtain ⟨EQ, hEQ⟩ : ∃ X, X = eqB (pk, pg, P) (qk, qg, Q) := ⟨_, rfl⟩
  have hEQ2 : EQ = ((pk.toList == qk.toList) && (pg == qg) && eqB P Q) := by
    rw [hEQ]
    refine eqB_bool ?_
    rw [Bool.and_eq_true, Bool.and_eq_true, toList_eq, beq_iff_eq, eqB_iff]
    exact ⟨fun ⟨⟨a, b⟩, c⟩ => by rw [a, b, c], fun h => ⟨⟨congrArg (·.1) h, congrArg (·.2.1) h⟩, congrArg (·.2.2) h⟩⟩
  have hSE : ((pk.toList == pk.toList) && (pg == pg) && eqB P P) = true := by rw [eqB_true rfl]; simp
  have HP := Lib.hid hP
  have HQ := Lib.hid hQ
  have HPA := Lib.hid hPA
  have HPB := Lib.hid hPB
  have HEQ := Lib.hid hEQ
  have HEQ2 := Lib.hid hEQ2
  have HSE := Lib.hid hSE
  have HCP := Lib.hid cp
  have HCQ := Lib.hid cq
  have HNP := Lib.hid np
  have HNQ := Lib.hid nq
  have cp6 : ∀ p ∈ ps, p.1.cols.length ≤ 1000000 := fun p h => Nat.le_trans (cp p h) (by decide)
  have cq6 : ∀ p ∈ qs, p.1.cols.length ≤ 1000000 := fun p h => Nat.le_trans (cq p h) (by decide)
  have HCP6 := Lib.hid cp6
  have HCQ6 := Lib.hid cq6
  clear hP hQ hPA hPB hEQ hEQ2 hSE cp cq np nq cp6 cq6
  obtain ⟨x0, x1, x2⟩ := b0.pa
  obtain ⟨y0, y1, y2⟩ := b1.pa
  go_wp2_with fail
  refine wp_region_tab 21 [(1, fun v _ => v = .bool PA), (3, fun v _ => v = .bool PA), (8, fun v _ => v = .bool EQ), (11, fun v _ => v = .bool EQ), (16, fun v y => ∃ v', v = .agg #[.string pk, .int .i64 pg, v'] ∧ ∃ l, RowsIn y v' l ∧ l.map (·.1) = P), (18, fun v _ => v = .bool true)] (by kernel_rfl) (by kernel_rfl) (by kernel_rfl) ⟨stays_eq _, stays_eq _, stays_eq _, stays_eq _, fun _ _ _ hE ⟨v', e, l, h, hm⟩ => ⟨v', e, l, h.ext hE, hm⟩, stays_eq _, trivial⟩ ?_
  replace x0 := held x0
  replace x1 := held x1
  replace x2 := held x2
  replace y0 := held y0
  replace y1 := held y1
  replace y2 := held y2
  refine rg_quiet rfl rfl rfl rfl ?_; intro K hK; go_big_quiet_op; go_big_quiet_on
  refine rg_val [] rfl rfl rfl (by kernel_rfl) (fun w1 hE hf => ?_) ?_
  · go_simp
    exact (pcheck_gen pk pg pu ps w1 (hp2.ext hE) HNP.out (hT2.ext hE)).mono fun e w' ⟨he, hw⟩ => ⟨_, he, rg_done hE hw (by rw [← HP.out, HPA.out])⟩
  simp only [Act.put, List.setIfInBounds_toArray, List.set_cons_zero, List.set_cons_succ]
  refine rg_quiet rfl rfl rfl rfl ?_; intro K hK; go_big_quiet_op; go_big_quiet_on
  refine rg_val [] rfl rfl rfl (by kernel_rfl) (fun w1 hE hf => ?_) ?_
  · go_simp
    exact (check8_any pk pg pu ps w1 (hp2.ext hE) HNP.out).mono fun e w' ⟨he, hw⟩ => ⟨_, he, rg_done hE hw (by rw [← HP.out, HPA.out])⟩
  simp only [Act.put, List.setIfInBounds_toArray, List.set_cons_zero, List.set_cons_succ]
  refine rg_quiet rfl rfl rfl rfl ?_; intro K hK; go_big_quiet_op; go_big_quiet_on
  refine rg_quiet rfl rfl rfl rfl ?_; intro K hK; go_big_quiet_op; go_big_quiet_on
  refine rg_quiet rfl rfl rfl rfl ?_; intro K hK; go_big_quiet_op; go_big_quiet_on
  refine rg_quiet rfl rfl rfl rfl ?_; intro K hK; go_big_quiet_op; go_big_quiet_on
  refine rg_val [] rfl rfl rfl (by kernel_rfl) (fun w1 hE hf => ?_) ?_
  · go_simp
    exact (partSame_any pk qk pg qg pu qu ps qs w1 (hp2.ext hE) (hq2.ext hE)).mono fun e w' ⟨he, hw⟩ => ⟨_, he, rg_done hE hw (by rw [← HP.out, ← HQ.out, HEQ.out])⟩
  simp only [Act.put, List.setIfInBounds_toArray, List.set_cons_zero, List.set_cons_succ]
  refine rg_quiet rfl rfl rfl rfl ?_; intro K hK; go_big_quiet_op; go_big_quiet_on
  refine rg_quiet rfl rfl rfl rfl ?_; intro K hK; go_big_quiet_op; go_big_quiet_on
  refine rg_val [] rfl rfl rfl (by kernel_rfl) (fun w1 hE hf => ?_) ?_
  · go_simp
    exact (same8_any pk qk pg qg pu qu ps qs w1 (hp2.ext hE) (hq2.ext hE)).mono fun e w' ⟨he, hw⟩ => ⟨_, he, rg_done hE hw (by rw [← HP.out, ← HQ.out, ← HEQ2.out])⟩
  simp only [Act.put, List.setIfInBounds_toArray, List.set_cons_zero, List.set_cons_succ]
  refine rg_quiet rfl rfl rfl rfl ?_; intro K hK; go_big_quiet_op; go_big_quiet_on
  refine rg_quiet rfl rfl rfl rfl ?_; intro K hK; go_big_quiet_op; go_big_quiet_on
  refine rg_quiet rfl rfl rfl rfl ?_; intro K hK; go_big_quiet_op; go_big_quiet_on
  refine rg_quiet rfl rfl rfl rfl ?_; intro K hK; go_big_quiet_op; go_big_quiet_on
  refine rg_fact [] rfl rfl rfl (by kernel_rfl) (fun y hY hf => ?_) (fun v16 y16 hE16 hG16 h16 => ?_)
  · go_simp
    refine (pcopy_any pk pg pu ps y (hp2.ext hY) (by omega) HCP6.out).mono ?_
    rw [← HP.out]
    rintro e y' ⟨v', rfl, l, hr, hm, hy⟩
    exact ⟨_, rfl, rg_doneR hY hy ⟨v', rfl, l, hr.rows, hm⟩⟩
  obtain ⟨v16, rfl, l16, h16, _⟩ := h16
  obtain ⟨a16, c16, rfl, _⟩ := h16.get
  clear hE16 hG16 h16
  simp only [Act.put, List.setIfInBounds_toArray, List.set_cons_zero, List.set_cons_succ]
  refine rg_quiet rfl rfl rfl rfl ?_; intro K hK; go_big_quiet_op; go_big_quiet_on
  refine rg_val [16] rfl rfl rfl (by kernel_rfl) (fun y hY hf => ?_) ?_
  · obtain ⟨u, e, l, k, m⟩ := (hf 16 (by simp)).2 rfl
    cases e
    go_simp
    exact (same8_any pk pk pg pg _ pu l ps y k (hp2.ext hY)).mono fun e w' ⟨he, hw⟩ => ⟨_, he, rg_done hY hw (by rw [m, ← HP.out, HSE.out])⟩
  simp only [Act.put, List.setIfInBounds_toArray, List.set_cons_zero, List.set_cons_succ]
  refine rg_quiet rfl rfl rfl rfl ?_; intro K hK; go_big_quiet_op; go_big_quiet_on
  refine rg_quiet rfl rfl rfl rfl ?_; intro K hK; go_big_quiet_op; go_big_quiet_on
  refine rel_nil fun w3 hE3 _ => ?_
  have hX3 := hX2.trans hE3
  have c0 := b0.ext hE3
  have c1 := b1.ext hE3
  have hp3 := hp2.ext hE3
  have hq3 := hq2.ext hE3
  clear x0 x1 x2 y0 y1 y2 b0 b1 hp2 hq2 hT2 hE3 hX2
  obtain ⟨x0, x1, x2⟩ := c0.pa
  go_wp2_with fail
  refine (check8_any pk pg pu ps w3 hp3 HNP.out).mono ?_
  rw [← HP.out, ← HPA.out]
  rintro e w4 ⟨rfl, hE4⟩
  cases PA
  · go_wp2_with fail
    refine (awake8_any w4).mono ?_
    rintro e w10 ⟨rfl, hE10⟩
    go_wp2_with fail
    go_ret
    exact ⟨rfl, (hX3.trans hE4).trans hE10⟩
  obtain ⟨y0, y1, y2⟩ := (c1.ext hE4).pa
  go_wp2_with fail
  refine (check8_any qk qg qu qs w4 (hq3.ext hE4) HNQ.out).mono ?_
  rw [← HQ.out, ← HPB.out]
  rintro e w5 ⟨rfl, hE5⟩
  cases PB
  · go_wp2_with fail
    refine (awake8_any w5).mono ?_
    rintro e w10 ⟨rfl, hE10⟩
    go_wp2_with fail
    go_ret
    exact ⟨rfl, ((hX3.trans hE4).trans hE5).trans hE10⟩
  have hX5 := (hX3.trans hE4).trans hE5
  have d0 := c0.ext (hE4.trans hE5)
  have d1 := c1.ext (hE4.trans hE5)
  have gp := pt_good HPA.out.symm
  have gq := pt_good HPB.out.symm
  obtain ⟨J, hJ⟩ : ∃ J, J = mergeRo P Q := ⟨_, rfl⟩
  have hJ2 : J = foldG keyR foldRo P Q := by rw [hJ, fold_merge gp.1 gq.1]
  have hJl : J.length ≤ 60 := by
    have h1 := mergeG_len keyR joinRo P Q
    rw [hJ]
    show (mergeG keyR joinRo P Q).length ≤ 60
    rw [HP.out, HQ.out, List.length_map, List.length_map] at h1
    rw [HP.out, HQ.out]
    omega
  have hds : ∀ p ∈ ps, DistN p.1.cols := fun p h => gp.2 p.1 (by rw [HP.out]; exact List.mem_map_of_mem h)
  have fP : FewCols P := fun r hr => by
    rw [HP.out] at hr
    obtain ⟨p, hp, rfl⟩ := List.mem_map.1 hr
    exact Nat.le_trans (HCP.out p hp) (by decide)
  have fQ : FewCols Q := fun r hr => by
    rw [HQ.out] at hr
    obtain ⟨p, hp, rfl⟩ := List.mem_map.1 hr
    exact Nat.le_trans (HCQ.out p hp) (by decide)
  obtain ⟨G, hG⟩ : ∃ G, G = max pg qg := ⟨_, rfl⟩
  have HJ := Lib.hid hJ
  have HJ2 := Lib.hid hJ2
  have HG := Lib.hid hG
  have HDS := Lib.hid hds
  have HFP := Lib.hid fP
  have HFQ := Lib.hid fQ
  have hsz := d1.lt
  have hle := hX5.le
  clear x0 x1 x2 y0 y1 y2 c0 c1 hp3 hq3 hE4 hE5 hX3 gp gq hJ hJ2 hds fP fQ hG
  go_wp2_with fail
  refine wp_region_relE (PJ w w5.heap.size (pa3 pk pg pu) (pa3 qk qg qu)) (SE w5.heap.size 9) (TabP.at [(0, fun _ v _ => v = .agg #[.string pk, .int .i64 pg, pu]), (2, fun _ v _ => v = .agg #[.string qk, .int .i64 qg, qu]), (1, fun _ v y => ∃ v', v = .agg #[.string pk, .int .i64 pg, v'] ∧ ∃ l, RowsT y v' l ∧ l.map (·.1) = P), (3, fun _ v y => ∃ v', v = .agg #[.string qk, .int .i64 qg, v'] ∧ ∃ l, RowsT y v' l ∧ l.map (·.1) = Q), (4, fun _ v y => ∃ v', v = .tuple #[.agg #[.string pk, .int .i64 G, v'], .bool true] ∧ ∃ l, RowsT y v' l ∧ l.map (·.1) = J), (8, fun _ v y => ∃ b, v = .pointer (some ⟨b, 0, none⟩) ∧ w5.heap.size ≤ b ∧ ∃ Z, BoxAt y b Z 35 ∧ Z.size = 3), (9, fun L _ y => ∃ b Z, L = [.pointer (some ⟨b, 0, none⟩), .agg Z] ∧ BoxAt y b Z 35)])
    (TabP.staysE ⟨fun _ _ _ _ _ _ _ h => h, fun _ _ _ _ _ _ _ h => h, fun _ _ _ _ _ _ hR ⟨v', e, l, hr, hm⟩ => ⟨v', e, l, SE_rows hR hr, hm⟩, fun _ _ _ _ _ _ hR ⟨v', e, l, hr, hm⟩ => ⟨v', e, l, SE_rows hR hr, hm⟩, fun _ _ _ _ _ _ hR ⟨v', e, l, hr, hm⟩ => ⟨v', e, l, SE_rows hR hr, hm⟩, fun _ _ _ _ _ _ hR ⟨b, e, hb, hz⟩ => ⟨b, e, hb, SE_part hR hz⟩, fun _ _ hj _ _ _ hR ⟨b, Z, e, hb⟩ => ⟨b, Z, e, hb.ext (SE_off hj hR)⟩, trivial⟩)
    11 (by kernel_rfl) (by kernel_rfl) (by kernel_rfl) ((⟨hX5, d0, d1, Nat.le_refl _⟩ : PJ w w5.heap.size (pa3 pk pg pu) (pa3 qk qg qu) w5).ext' (Ext.refl w5).drew) ?_
  clear d0 d1 hX5
  refine relE_val [] rfl rfl rfl (by kernel_rfl) (fun y hy hf => ?_) ?_
  · have x := hy.bp.pa
    go_simp
    exact ⟨hy, SE_ext (by decide) (Ext.refl y), rfl⟩
  simp only [Act.put, List.setIfInBounds_toArray, List.set_cons_zero, List.set_cons_succ]
  refine relE_fact [] rfl rfl rfl (by kernel_rfl) (fun y hy hf => ?_) (fun v1 z1 hC1 hG1 h1 => ?_)
  · go_simp
    refine (lpart8_any pk pg pu ps y (hp.ext hy.ext) (by omega) HCP6.out).mono ?_
    rw [← HP.out]
    rintro e y' ⟨v', rfl, l, hr, hm, hE'⟩
    exact ⟨_, rfl, hy.ext' hE', SE_ext (by decide) hE', v', rfl, l, hr, hm⟩
  obtain ⟨v1, rfl, l1, h1, _⟩ := h1
  obtain ⟨a1, c1, rfl⟩ := h1.shape
  clear hC1 hG1 h1
  simp only [Act.put, List.setIfInBounds_toArray, List.set_cons_zero, List.set_cons_succ]
  refine relE_val [] rfl rfl rfl (by kernel_rfl) (fun y hy hf => ?_) ?_
  · have x := hy.bq.pa
    go_simp
    exact ⟨hy, SE_ext (by decide) (Ext.refl y), rfl⟩
  simp only [Act.put, List.setIfInBounds_toArray, List.set_cons_zero, List.set_cons_succ]
  refine relE_fact [] rfl rfl rfl (by kernel_rfl) (fun y hy hf => ?_) (fun v3 z3 hC3 hG3 h3 => ?_)
  · go_simp
    refine (lpart8_any qk qg qu qs y (hq.ext hy.ext) (by omega) HCQ6.out).mono ?_
    rw [← HQ.out]
    rintro e y' ⟨v', rfl, l, hr, hm, hE'⟩
    exact ⟨_, rfl, hy.ext' hE', SE_ext (by decide) hE', v', rfl, l, hr, hm⟩
  obtain ⟨v3, rfl, l3, h3, _⟩ := h3
  obtain ⟨a3, c3, rfl⟩ := h3.shape
  clear hC3 hG3 h3
  simp only [Act.put, List.setIfInBounds_toArray, List.set_cons_zero, List.set_cons_succ]
  refine relE_fact [1, 3] rfl rfl rfl (by kernel_rfl) (fun y hy hf => ?_) (fun v4 z4 hC4 hG4 h4 => ?_)
  · obtain ⟨u1, e1, k1, r1, m1⟩ := (hf 1 (by simp)).1.2 rfl
    obtain ⟨u3, e3, k3, r3, m3⟩ := (hf 3 (by simp)).2 rfl
    cases e1
    cases e3
    go_simp
    have n1 : k1.length = ps.length := by have := congrArg List.length m1; rw [HP.out] at this; simpa using this
    have n3 : k3.length = qs.length := by have := congrArg List.length m3; rw [HQ.out] at this; simpa using this
    refine (pjoin_walk pk qk pg qg _ _ k1 k3 y r1.rows r3.rows (by omega) (by rw [m1]; exact HFP.out) (by rw [m3]; exact HFQ.out)).mono ?_
    rw [m1, m3, ← HJ.out, ← HG.out]
    rintro e y' ⟨hE', ⟨_, v', rfl, l, hr, hm⟩ | ⟨hbad, _⟩⟩
    · exact ⟨_, rfl, hy.ext' hE', SE_ext (by decide) hE', v', rfl, l, hr, hm⟩
    · omega
  obtain ⟨v4, rfl, l4, h4, _⟩ := h4
  obtain ⟨a4, c4, rfl⟩ := h4.shape
  clear hC4 hG4 h4
  simp only [Act.put, List.setIfInBounds_toArray, List.set_cons_zero, List.set_cons_succ]
  refine relE_quiet rfl rfl rfl rfl ?_; intro K hK; go_big_quiet_op; (first | refine ⟨_, fun _ _ => rfl, hK _ ?_⟩ | refine hK _ ?_); clear hK K
  refine relE_quiet rfl rfl rfl rfl ?_; intro K hK; go_big_quiet_op; (first | refine ⟨_, fun _ _ => rfl, hK _ ?_⟩ | refine hK _ ?_); clear hK K
  refine relE_quiet rfl rfl rfl rfl ?_; intro K hK; go_big_quiet_op; (first | refine ⟨_, fun _ _ => rfl, hK _ ?_⟩ | refine hK _ ?_); clear hK K
  refine relE_fact [] rfl rfl rfl (by kernel_rfl) (fun y hy hf => ?_) (fun v6 z6 hC6 hG6 h6 => ?_)
  · go_simp
    exact ⟨hy.ext' ((Ext.refl y).alloc _), SE_ext (by decide) ((Ext.refl y).alloc _), _, rfl, hy.size, _, BoxAt.made y _ _, rfl⟩
  obtain ⟨b12, rfl, _, _⟩ := h6
  clear hC6 hG6
  simp only [Act.put, List.setIfInBounds_toArray, List.set_cons_zero, List.set_cons_succ]
  refine relE_factP [8] rfl rfl rfl (by kernel_rfl) (fun y hy hf => ?_) (fun v6 z6 hC6 hG6 h6 => ?_)
  · obtain ⟨b, e, hb, Z, hbox, hZ⟩ := (hf 8 (by simp)).2 rfl
    cases e
    refine yields_storeBox 35 (.tmp 11) (.tmp 69) rfl b12 #[.string pk, .int .i64 G, .slice a4 l4.length c4] Z _ rfl rfl hbox (by kernel_rfl) hZ (by simp [Value.oneCell']) ?_
    intro y' hb' hg'
    have hR : SE w5.heap.size 9 9 y y' := SE_at hb hbox hb' rfl hg'
    exact ⟨⟨SE_to hle hR hy.ext, SE_old hR (by omega) hy.bp, SE_old hR hsz hy.bq, Nat.le_trans hy.size (SE_size hR)⟩, hR, b12, _, rfl, hb'⟩
  clear h6 hC6 hG6
  simp only [Act.put]
  refine relE_quiet rfl rfl rfl rfl ?_; intro K hK; go_big_quiet_op; (first | refine ⟨_, fun _ _ => rfl, hK _ ?_⟩ | refine hK _ ?_); clear hK K
  refine relE_nil fun w7 hC hG7 => ?_
  obtain ⟨v4, e4, k4, hr7, hm7⟩ := (hG7 4).1.1.2 rfl
  obtain ⟨b13, Z13, e13, hbox7⟩ := (hG7 9).2 rfl
  have e13' : [Value.pointer (some ⟨b12, 0, none⟩), Value.agg #[.string pk, .int .i64 G, .slice a4 l4.length c4]] = [.pointer (some ⟨b13, 0, none⟩), .agg Z13] := e13
  cases e13'
  cases e4
  have f0 := hC.bp
  have f1 := hC.bq
  have hX7 := hC.ext
  have f11 : BoxAt w7 b12 (pa3 pk G (.slice a4 l4.length c4)) 35 := hbox7
  have hj7 := hr7.rows
  obtain ⟨U4, hU4⟩ : ∃ U, U = Value.slice a4 l4.length c4 := ⟨_, rfl⟩
  rw [← hU4] at f11 hj7 ⊢
  clear hC hG7 e13 hbox7 hr7 hU4 hsz hle
  obtain ⟨x0, x1, x2⟩ := f0.pa
  obtain ⟨y0, y1, y2⟩ := f1.pa
  go_wp2_with fail
  refine (join8_any pk qk pg qg pu qu ps qs w7 (hp.ext hX7) (hq.ext hX7) (by omega) (by omega) (fun p h => Nat.le_trans (HCP.out p h) (by decide)) (fun p h => Nat.le_trans (HCQ.out p h) (by decide))).mono ?_
  rw [← HP.out, ← HQ.out, ← HJ2.out, ← HG.out]
  rintro e w9 ⟨hE9, ⟨_, v9, rfl, l9, hr9, hm9⟩ | ⟨hbad, _⟩⟩
  rotate_left
  · omega
  obtain ⟨a9, c9, rfl⟩ := hr9.shape
  have hX9 := hX7.trans hE9
  have g0 := f0.ext hE9
  have g11 := f11.ext hE9
  have hj9 := hj7.ext hE9
  clear x0 x1 x2 y0 y1 y2 f0 f1 f11 hj7 hE9 hX7
  go_wp2_with (((guard_target =~ wpList _ _ _ (Oper.mk none (Op.store _ (Operand.tmp 13) (Operand.tmp 75)) _ _ _ _ :: _) _ _); go_must (refine storeBox rfl 35 (.tmp 13) (.tmp 75) rfl (w9.heap.size) _ _ _ (by rfl) (by rfl) ((BoxAt.made w9 (pa3 ⟨#[]⟩ 0 (.slice none 0 0)) 35)) (by kernel_rfl) (by rfl) (by simp [Value.oneCell']) ?_); intro w10 d10 s10); have hX910 : Ext w9 w10 := ((Ext.refl w9).alloc _).grown s10 (fun q hq => by cases hq; exact Nat.le_refl _); have f13 : BoxAt w10 w9.heap.size (pa3 pk G (.slice a9 l9.length c9)) 35 := d10; obtain ⟨x0, x1, x2⟩ := (g0.ext hX910).pa)
  have hX10 := hX9.trans hX910
  have k0 := g0.ext hX910
  have k11 := g11.ext hX910
  have hj10 := hj9.ext hX910
  have hr10 := (hr9.ext hX910).rows
  obtain ⟨q13, hq13⟩ : ∃ q, q = w9.heap.size := ⟨_, rfl⟩
  rw [← hq13] at f13 ⊢
  obtain ⟨U9, hU9⟩ : ∃ U, U = Value.slice a9 l9.length c9 := ⟨_, rfl⟩
  rw [← hU9] at f13 hr10 ⊢
  clear g0 g11 hj9 hr9 hX910 hX9 d10 s10 hq13 hU9
  obtain ⟨R, hR⟩ : ∃ R, R = rowOf P key := ⟨_, rfl⟩
  obtain ⟨HAS, hHAS⟩ : ∃ R, R = hasRow P key := ⟨_, rfl⟩
  have HR := Lib.hid hR
  have HHAS := Lib.hid hHAS
  clear hR hHAS
  refine (prow_any pk pg pu ps key w10 (hp.ext hX10) HCP6.out).mono ?_
  rw [← HP.out, ← HR.out, ← HHAS.out]
  rintro e w11 ⟨v11, rfl, hc11, hE11⟩
  obtain ⟨a11, c11, rfl⟩ := hc11.shape
  have hX11 := hX10.trans hE11
  have m0 := k0.ext hE11
  have m11 := k11.ext hE11
  have m13 := f13.ext hE11
  have hj11 := hj10.ext hE11
  have hr11 := hr10.ext hE11
  clear x0 x1 x2 k0 k11 f13 hj10 hr10 hE11 hX10
  have hal := m0.allocs
  go_wp2_with fail
  generalize hW12 : w11.alloc _ = w12
  have hX1112 : Ext w11 w12 := by rw [← hW12]; exact (Ext.refl w11).alloc _
  have f15 : BoxAt w12 w11.heap.size (ro8 R (.slice a11 R.cols.length c11)) 26 := by rw [← hW12]; exact BoxAt.made w11 _ _
  clear hW12 hal
  have hX12 := hX11.trans hX1112
  have k0 := m0.ext hX1112
  have k11 := m11.ext hX1112
  have k13 := m13.ext hX1112
  have hj12 := hj11.ext hX1112
  have hr12 := hr11.ext hX1112
  have hc12 := hc11.ext hX1112
  obtain ⟨q15, hq15⟩ : ∃ q, q = w11.heap.size := ⟨_, rfl⟩
  rw [← hq15] at f15 ⊢
  clear m0 m11 m13 hj11 hr11 hc11 hX1112 hX11 hq15
  refine (row8_any pk pg pu ps key w12 (hp.ext hX12)).mono ?_
  rw [← HP.out, ← HR.out, ← HHAS.out]
  rintro e w13 ⟨v13, rfl, hc13, hE13⟩
  obtain ⟨a13, c13, rfl⟩ := hc13.shape
  have hX13 := hX12.trans hE13
  have m0 := k0.ext hE13
  have m11 := k11.ext hE13
  have m13 := k13.ext hE13
  have m15 := f15.ext hE13
  have hj13 := hj12.ext hE13
  have hr13 := hr12.ext hE13
  have hc13b := hc12.ext hE13
  clear k0 k11 k13 f15 hj12 hr12 hc12 hE13 hX12
  go_wp2_with fail
  generalize hW14 : w13.alloc _ = w14
  have hX1314 : Ext w13 w14 := by rw [← hW14]; exact (Ext.refl w13).alloc _
  have f17 : BoxAt w14 w13.heap.size (ro8 R (.slice a13 R.cols.length c13)) 26 := by rw [← hW14]; exact BoxAt.made w13 _ _
  clear hW14
  have hX14 := hX13.trans hX1314
  have k0 := m0.ext hX1314
  have k11 := m11.ext hX1314
  have k13 := m13.ext hX1314
  have k15 := m15.ext hX1314
  have hj14 := hj13.ext hX1314
  have hr14 := hr13.ext hX1314
  have hcA := hc13b.ext hX1314
  have hcB := hc13.ext hX1314
  obtain ⟨q17, hq17⟩ : ∃ q, q = w13.heap.size := ⟨_, rfl⟩
  rw [← hq17] at f17 ⊢
  obtain ⟨UA, hUA⟩ : ∃ U, U = Value.slice a11 R.cols.length c11 := ⟨_, rfl⟩
  obtain ⟨UB, hUB⟩ : ∃ U, U = Value.slice a13 R.cols.length c13 := ⟨_, rfl⟩
  rw [← hUA] at k15 hcA
  rw [← hUB] at f17 hcB
  obtain ⟨x0, x1, x2⟩ := k0.pa
  obtain ⟨y0, y1, y2⟩ := k11.pa
  obtain ⟨z0, z1, z2⟩ := k13.pa
  obtain ⟨r0, r1, r2, r3, r4, r5, r6, r7⟩ := k15.ro
  obtain ⟨s0, s1, s2, s3, s4, s5, s6, s7⟩ := f17.ro
  obtain ⟨S, hS⟩ : ∃ S, S = seenRs P pg now strict := ⟨_, rfl⟩
  obtain ⟨N, hN⟩ : ∃ N, N = stampRs pg P := ⟨_, rfl⟩
  have hS1 : ((pk.toList == pk.toList) && (G == G) && eqB J J) = true := by rw [eqB_true rfl]; simp
  have hS2 : eqB [R] [R] = true := eqB_true rfl
  have hS3 : eqB S S = true := eqB_true rfl
  have HS := Lib.hid hS
  have HN := Lib.hid hN
  have HS1 := Lib.hid hS1
  have HS2 := Lib.hid hS2
  have HS3 := Lib.hid hS3
  have HM7 := Lib.hid hm7
  have HM9 := Lib.hid hm9
  clear m0 m11 m13 m15 hj13 hr13 hc13b hc13 hX1314 hX13 hq17 hUA hUB k0 k11 k13 k15 f17 hS hN hS1 hS2 hS3 hm7 hm9
  go_wp2_with fail
  refine wp_region_tab 42 [(2, fun v _ => v = .bool true), (10, fun v y => ∃ b, v = .slice (some ⟨b, 0, none⟩) 1 1 ∧ BoxAt y b (ro8 R UA) 26), (12, fun v y => ∃ b, v = .slice (some ⟨b, 0, none⟩) 1 1 ∧ BoxAt y b (ro8 R UB) 26), (13, fun v _ => v = .bool true), (24, fun v y => ∃ l, RowsIn y v l ∧ l.map (·.1) = S), (28, fun v y => ∃ l, RowsIn y v l ∧ l.map (·.1) = S), (29, fun v _ => v = .bool true), (33, fun v _ => v = .int .i64 N), (35, fun v _ => v = .int .i64 N), (39, fun v _ => v = .bool true)] (by kernel_rfl) (by kernel_rfl) (by kernel_rfl) ⟨stays_eq _, fun _ _ _ hE ⟨b, e, h⟩ => ⟨b, e, h.ext hE⟩, fun _ _ _ hE ⟨b, e, h⟩ => ⟨b, e, h.ext hE⟩, stays_eq _, fun _ _ _ hE ⟨l, h, hm⟩ => ⟨l, h.ext hE, hm⟩, fun _ _ _ hE ⟨l, h, hm⟩ => ⟨l, h.ext hE, hm⟩, stays_eq _, stays_eq _, stays_eq _, stays_eq _, trivial⟩ ?_
  replace x0 := held x0
  replace x1 := held x1
  replace x2 := held x2
  replace y0 := held y0
  replace y1 := held y1
  replace y2 := held y2
  replace z0 := held z0
  replace z1 := held z1
  replace z2 := held z2
  replace r0 := held r0
  replace r1 := held r1
  replace r2 := held r2
  replace r3 := held r3
  replace r4 := held r4
  replace r5 := held r5
  replace r6 := held r6
  replace r7 := held r7
  replace s0 := held s0
  replace s1 := held s1
  replace s2 := held s2
  replace s3 := held s3
  replace s4 := held s4
  replace s5 := held s5
  replace s6 := held s6
  replace s7 := held s7
  refine rg_quiet rfl rfl rfl rfl ?_; intro K hK; go_big_quiet_op; go_big_quiet_on
  refine rg_quiet rfl rfl rfl rfl ?_; intro K hK; go_big_quiet_op; go_big_quiet_on
  refine rg_val [] rfl rfl rfl (by kernel_rfl) (fun w1 hE hf => ?_) ?_
  · go_simp
    exact (same8_any pk pk G G _ _ _ _ w1 (hj14.ext hE) (hr14.ext hE)).mono fun e w' ⟨he, hw⟩ => ⟨_, he, rg_done hE hw (by rw [HM7.out, HM9.out, HS1.out])⟩
  simp only [Act.put, List.setIfInBounds_toArray, List.set_cons_zero, List.set_cons_succ]
  refine rg_quiet rfl rfl rfl rfl ?_; intro K hK; go_big_quiet_op; go_big_quiet_on
  refine rg_quiet rfl rfl rfl rfl ?_; intro K hK; go_big_quiet_op; go_big_quiet_on
  refine rg_quiet rfl rfl rfl rfl ?_; intro K hK; go_big_quiet_op; go_big_quiet_on
  refine rg_quiet rfl rfl rfl rfl ?_; intro K hK; go_big_quiet_op; go_big_quiet_on
  refine rg_quiet rfl rfl rfl rfl ?_; intro K hK; go_big_quiet_op; go_big_quiet_on
  refine rg_quiet rfl rfl rfl rfl ?_; intro K hK; go_big_quiet_op; go_big_quiet_on
  refine rg_quiet rfl rfl rfl rfl ?_; intro K hK; go_big_quiet_op; go_big_quiet_on
  refine rg_fact [] rfl rfl rfl (by kernel_rfl) (fun y hY hf => ?_) (fun v10 y10 hE10 hG10 h10 => ?_)
  · go_simp
    exact rg_doneR hY ((Ext.refl y).alloc _) ⟨_, rfl, BoxAt.made y _ _⟩
  obtain ⟨b10, rfl, _⟩ := h10
  clear hE10 hG10
  simp only [Act.put, List.setIfInBounds_toArray, List.set_cons_zero, List.set_cons_succ]
  refine rg_quiet rfl rfl rfl rfl ?_; intro K hK; go_big_quiet_op; go_big_quiet_on
  refine rg_fact [] rfl rfl rfl (by kernel_rfl) (fun y hY hf => ?_) (fun v12 y12 hE12 hG12 h12 => ?_)
  · go_simp
    exact rg_doneR hY ((Ext.refl y).alloc _) ⟨_, rfl, BoxAt.made y _ _⟩
  obtain ⟨b12', rfl, _⟩ := h12
  clear hE12 hG12
  simp only [Act.put, List.setIfInBounds_toArray, List.set_cons_zero, List.set_cons_succ]
  refine rg_val [10, 12] rfl rfl rfl (by kernel_rfl) (fun y hY hf => ?_) ?_
  · obtain ⟨u10, e10, k10⟩ := (hf 10 (by simp)).1.2 rfl
    obtain ⟨u12, e12, k12⟩ := (hf 12 (by simp)).2 rfl
    cases e10
    cases e12
    go_simp
    exact (sameRows_any _ _ [(R, UA)] [(R, UB)] y (rows_one k10 (hcA.ext hY)) (rows_one k12 (hcB.ext hY))).mono fun e w' ⟨he, hw⟩ => ⟨_, he, rg_done hY hw (by rw [show eqB ([(R, UA)].map (·.1)) ([(R, UB)].map (·.1)) = true from HS2.out])⟩
  simp only [Act.put, List.setIfInBounds_toArray, List.set_cons_zero, List.set_cons_succ]
  refine rg_quiet rfl rfl rfl rfl ?_; intro K hK; go_big_quiet_op; go_big_quiet_on
  refine rg_quiet rfl rfl rfl rfl ?_; intro K hK; go_big_quiet_op; go_big_quiet_on
  refine rg_quiet rfl rfl rfl rfl ?_; intro K hK; go_big_quiet_op; go_big_quiet_on
  refine rg_quiet rfl rfl rfl rfl ?_; intro K hK; go_big_quiet_op; go_big_quiet_on
  refine rg_quiet rfl rfl rfl rfl ?_; intro K hK; go_big_quiet_op; go_big_quiet_on
  refine rg_quiet rfl rfl rfl rfl ?_; intro K hK; go_big_quiet_op; go_big_quiet_on
  refine rg_quiet rfl rfl rfl rfl ?_; intro K hK; go_big_quiet_op; go_big_quiet_on
  refine rg_quiet rfl rfl rfl rfl ?_; intro K hK; go_big_quiet_op; go_big_quiet_on
  refine rg_quiet rfl rfl rfl rfl ?_; intro K hK; go_big_quiet_op; go_big_quiet_on
  refine rg_quiet rfl rfl rfl rfl ?_; intro K hK; go_big_quiet_op; go_big_quiet_on
  refine rg_fact [] rfl rfl rfl (by kernel_rfl) (fun y hY hf => ?_) (fun v24 y24 hE24 hG24 h24 => ?_)
  · go_simp
    refine (pseen_any pk pg pu ps now strict y (hp.ext (hX14.trans hY)) (by omega) HCP6.out).mono ?_
    rw [← HP.out, ← HS.out]
    rintro e y' ⟨v', rfl, l, how, hsafe, hm, hy⟩
    exact ⟨_, rfl, rg_doneR hY hy ⟨l, rows_own how hy hsafe, hm⟩⟩
  obtain ⟨l24, h24, _⟩ := h24
  obtain ⟨a24, c24, rfl, _⟩ := h24.get
  clear hE24 hG24 h24
  simp only [Act.put, List.setIfInBounds_toArray, List.set_cons_zero, List.set_cons_succ]
  refine rg_quiet rfl rfl rfl rfl ?_; intro K hK; go_big_quiet_op; go_big_quiet_on
  refine rg_quiet rfl rfl rfl rfl ?_; intro K hK; go_big_quiet_op; go_big_quiet_on
  refine rg_quiet rfl rfl rfl rfl ?_; intro K hK; go_big_quiet_op; go_big_quiet_on
  refine rg_fact [] rfl rfl rfl (by kernel_rfl) (fun y hY hf => ?_) (fun v28 y28 hE28 hG28 h28 => ?_)
  · go_simp
    refine (seen8_any pk pg pu ps now strict y (hp.ext (hX14.trans hY)) (by omega) (fun p h => Nat.le_trans (HCP.out p h) (by decide)) HDS.out).mono ?_
    rw [← HP.out, ← HS.out]
    rintro e y' ⟨v', rfl, l, how, hsafe, hm, hy⟩
    exact ⟨_, rfl, rg_doneR hY hy ⟨l, rows_own how hy hsafe, hm⟩⟩
  obtain ⟨l28, h28, _⟩ := h28
  obtain ⟨a28, c28, rfl, _⟩ := h28.get
  clear hE28 hG28 h28
  simp only [Act.put, List.setIfInBounds_toArray, List.set_cons_zero, List.set_cons_succ]
  refine rg_val [24, 28] rfl rfl rfl (by kernel_rfl) (fun y hY hf => ?_) ?_
  · obtain ⟨m24, k24, j24⟩ := (hf 24 (by simp)).1.2 rfl
    obtain ⟨m28, k28, j28⟩ := (hf 28 (by simp)).2 rfl
    go_simp
    exact (sameRows_any _ _ m24 m28 y k24 k28).mono fun e w' ⟨he, hw⟩ => ⟨_, he, rg_done hY hw (by rw [j24, j28, HS3.out])⟩
  simp only [Act.put, List.setIfInBounds_toArray, List.set_cons_zero, List.set_cons_succ]
  refine rg_quiet rfl rfl rfl rfl ?_; intro K hK; go_big_quiet_op; go_big_quiet_on
  refine rg_quiet rfl rfl rfl rfl ?_; intro K hK; go_big_quiet_op; go_big_quiet_on
  refine rg_quiet rfl rfl rfl rfl ?_; intro K hK; go_big_quiet_op; go_big_quiet_on
  refine rg_val [] rfl rfl rfl (by kernel_rfl) (fun w1 hE hf => ?_) ?_
  · go_simp
    exact (pstamp_any pk pg pu ps w1 (hp.ext (hX14.trans hE))).mono fun e w' ⟨he, hw⟩ => ⟨_, he, rg_done hE hw (by rw [← HP.out, HN.out])⟩
  simp only [Act.put, List.setIfInBounds_toArray, List.set_cons_zero, List.set_cons_succ]
  refine rg_quiet rfl rfl rfl rfl ?_; intro K hK; go_big_quiet_op; go_big_quiet_on
  refine rg_val [] rfl rfl rfl (by kernel_rfl) (fun w1 hE hf => ?_) ?_
  · go_simp
    exact (stamp8_any pk pg pu ps w1 (hp.ext (hX14.trans hE))).mono fun e w' ⟨he, hw⟩ => ⟨_, he, rg_done hE hw (by rw [← HP.out, HN.out])⟩
  simp only [Act.put, List.setIfInBounds_toArray, List.set_cons_zero, List.set_cons_succ]
  refine rg_quiet rfl rfl rfl rfl ?_; intro K hK; go_big_quiet_op; go_big_quiet_on
  refine rg_quiet rfl rfl rfl rfl ?_; intro K hK; go_big_quiet_op; go_big_quiet_on
  refine rg_quiet rfl rfl rfl rfl ?_; intro K hK; go_big_quiet_op; go_big_quiet_on
  refine rg_val [] rfl rfl rfl (by kernel_rfl) (fun w1 hE hf => ?_) ?_
  · go_simp
    exact (awake8_any w1).mono fun e w' ⟨he, hw⟩ => ⟨_, he, rg_done hE hw (rfl)⟩
  simp only [Act.put, List.setIfInBounds_toArray, List.set_cons_zero, List.set_cons_succ]
  refine rg_quiet rfl rfl rfl rfl ?_; intro K hK; go_big_quiet_op; go_big_quiet_on
  refine rg_quiet rfl rfl rfl rfl ?_; intro K hK; go_big_quiet_op; go_big_quiet_on
  refine rel_nil fun w20 hE20 _ => ?_
  clear x0 x1 x2 y0 y1 y2 z0 z1 z2 r0 r1 r2 r3 r4 r5 r6 r7 s0 s1 s2 s3 s4 s5 s6 s7
  go_wp2_with fail
  go_ret
  exact ⟨rfl, hX14.trans hE20⟩
theorem walk_partAll (v0 v1 : Value) (now : Int) (strict : Bool) (key : ByteArray) (W : World) (w0 : ∃ (k : ByteArray) (g : Int) (u : Value) (ps : List (Ro × Value)), v0 = .agg #[.string k, .int .i64 g, u] ∧ RowsIn W u ps) (w1 : ∃ (k : ByteArray) (g : Int) (u : Value) (ps : List (Ro × Value)), v1 = .agg #[.string k, .int .i64 g, u] ∧ RowsIn W u ps)
    (_ : (Lit.int .i64 now).wf = true) (_ : key.size ≤ maxLen) (hT : TabU W) :
    Calls Tryd.prog 7 #[v0, v1, .int .i64 now, .bool strict, .string key] W fun e w' => e = .returned (.bool true) ∧ Ext W w' := by
  obtain ⟨pk, pg, pu, ps, rfl, hp⟩ := w0
  obtain ⟨qk, qg, qu, qs, rfl, hq⟩ := w1
  exact law_partAll pk qk pg qg pu qu ps qs now strict key W hp hq hT
end Go.Proofs.YteamiiekpjoclaaDoor
