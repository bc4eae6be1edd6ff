/- What passes the reference's Check rises (plain). -/
import Derived.Test.YteamiiekpjoclaaDoorM19
import Derived.Test.YteamiiekpjoclaaDoorM11
import Derived.Test.YteamiiekpjoclaaDoorM18
import Derived.Test.YteamiiekpjoclaaDoorM15
import Derived.Test.YteamiiekpjoclaaDoorM7
import Derived.Test.YteamiiekpjoclaaDoorM12
import Derived.Test.YteamiiekpjoclaaDoorM13
import Derived.Test.YteamiiekpjoclaaDoorM14
import Derived.Test.YteamiiekpjoclaaDoorM16
import Derived.Test.YteamiiekpjoclaaDoorM17
namespace Go.Proofs.YteamiiekpjoclaaDoor
open Go Go.RowKit

theorem distN_of_up {l : List Co} (h : Up kCo l) : DistN l := by
  induction l with
  | nil => intro k hk; exact absurd hk (Nat.not_lt_zero _)
  | cons c l ih =>
    intro k hk
    cases k with
    | zero => unfold cellOf; rw [if_pos (by simp)]; rfl
    | succ k =>
      have hk' : k < l.length := by simpa using hk
      have hne : kCo c ≠ kCo l[k] := ne_of_lt (h.head _ (List.getElem_mem hk'))
      show cellOf (c :: l) l[k].name = l[k].cell
      unfold cellOf
      rw [if_neg (by unfold kCo at hne; rw [ByteArray.toList_eq, ByteArray.toList_eq]; simpa using hne)]
      exact ih h.tail k hk'
/-- Columns that pass the reference's Check rise. -/
theorem csB_up : ∀ {l : List Co} {p : Option ByteArray}, csB p l = true → Up kCo l ∧ (∀ c ∈ l, 0 < c.cell.at_) ∧ ∀ q, p = some q → ∀ c ∈ l, cmpB q.data.toList (kCo c) < 0
  | [], _, _ => ⟨List.Pairwise.nil, nofun, nofun⟩
  | c :: l, p, h => by
    rw [csB_cons] at h
    simp only [Bool.and_eq_true, decide_eq_true_eq] at h
    obtain ⟨⟨⟨⟨h1, h2⟩, h3⟩, h4⟩, h5⟩ := h
    obtain ⟨i1, i2, i3⟩ := csB_up h5
    have hc : ∀ d ∈ l, cmpB (kCo c) (kCo d) < 0 := i3 _ rfl
    refine ⟨List.pairwise_cons.2 ⟨hc, i1⟩, fun d hd => ?_, fun q hq d hd => ?_⟩
    · rcases List.mem_cons.1 hd with rfl | hd
      · exact h4
      · exact i2 d hd
    · subst hq
      have h0 : cmpB q.data.toList (kCo c) < 0 := (keyC_less ⟨q, zeroCl⟩ c).2 h2
      rcases List.mem_cons.1 hd with rfl | hd
      · exact h0
      · exact cmpB_lt_trans h0 (hc d hd)
theorem rwB_parts {r : Ro} (h : rwB r = true) : hdB r = true ∧ csB none r.cols = true := by
  unfold rwB at h
  simpa using h
theorem rsB_up : ∀ {l : List Ro} {p : Option ByteArray}, rsB p l = true → Up kRo l ∧ (∀ r ∈ l, rwB r = true) ∧ ∀ q, p = some q → ∀ r ∈ l, cmpB q.data.toList (kRo r) < 0
  | [], _, _ => ⟨List.Pairwise.nil, nofun, nofun⟩
  | c :: l, p, h => by
    have h : (rwB c && orB p c.key && rsB (some c.key) l) = true := h
    simp only [Bool.and_eq_true] at h
    obtain ⟨⟨h1, h2⟩, h5⟩ := h
    obtain ⟨i1, i2, i3⟩ := rsB_up h5
    have hc : ∀ d ∈ l, cmpB (kRo c) (kRo d) < 0 := i3 _ rfl
    refine ⟨List.pairwise_cons.2 ⟨hc, i1⟩, fun d hd => ?_, fun q hq d hd => ?_⟩
    · rcases List.mem_cons.1 hd with rfl | hd
      · exact h1
      · exact i2 d hd
    · subst hq
      have h0 : cmpB q.data.toList (kRo c) < 0 := (keyC_less ⟨q, zeroCl⟩ ⟨c.key, zeroCl⟩).2 h2
      rcases List.mem_cons.1 hd with rfl | hd
      · exact h0
      · exact cmpB_lt_trans h0 (hc d hd)
theorem ptB_parts {k : ByteArray} {g : Int} {l : List Ro} (h : ptB k g l = true) : k.size ≤ 100 ∧ 0 ≤ g ∧ l.length ≤ 100 ∧ rsB none l = true := by
  unfold ptB at h
  simp only [Bool.and_eq_true, Bool.not_eq_true', decide_eq_false_iff_not] at h
  obtain ⟨⟨⟨⟨h1, h2⟩, h3⟩, h4⟩, h5⟩ := h
  exact ⟨by omega, by omega, by omega, h5⟩
theorem hdB_key {r : Ro} (h : hdB r = true) : r.key.size ≤ 400 ∧ r.cols.length ≤ 8 := by
  obtain ⟨h1, _, _, _, _, _, h7⟩ := hdB_parts h
  simp at h1 h7
  exact ⟨by omega, by omega⟩
end Go.Proofs.YteamiiekpjoclaaDoor

/- RowAll: any rows, any stamps and times, any name: the law's walk. -/
namespace Go.Proofs.YteamiiekpjoclaaDoor
open Go Go.RowKit
attribute [local go_sem] yields yUpon ro8 cl4

set_option maxRecDepth 100000 in
set_option maxHeartbeats 16000000 in
theorem law_rowAll (a b : Ro) (va vb : Value) (part now : Int) (strict : Bool) (name : ByteArray) (w : World) (ha : ColsIn w va a.cols) (hb : ColsIn w vb b.cols) (hT : TabU w) :
    Calls Tryd.prog 5 #[(.agg #[.string a.key, .string a.live.val, .bool a.live.dead, .int .i64 a.live.at_, .int .i64 a.live.fin, .int .i64 a.gone, .int .i64 a.shade, va]), (.agg #[.string b.key, .string b.live.val, .bool b.live.dead, .int .i64 b.live.at_, .int .i64 b.live.fin, .int .i64 b.gone, .int .i64 b.shade, vb]), .int .i64 part, .int .i64 now, .bool strict, .string name] w fun e w' => e = .returned (.bool true) ∧ Ext w w' := by
  obtain ⟨a0, a1, hE0⟩ := boxes2 w (ro8 a va) (ro8 b vb) 26 26
  have ha0 := ha.ext hE0
  have hb0 := hb.ext hE0
  go_enter Tryd.func5, Tryd.ntmps5
  go_wp2_with fail
  refine (fewRow_any a va _ ha0).mono ?_
  rintro e w1 ⟨B, rfl, hB, hE1⟩
  cases B
  · clear hB
    go_wp2_with fail
    refine (rawake_any w1).mono ?_
    rintro e w10 ⟨rfl, hE10⟩
    go_wp2_with fail
    go_ret
    exact ⟨rfl, (hE0.trans hE1).trans hE10⟩
  have hfa := hB rfl
  obtain ⟨z0, z1, z2, z3, z4, z5, z6, z7⟩ := (a1.ext hE1).ro
  clear hB
  go_wp2_with fail
  refine (fewRow_any b vb w1 (hb0.ext hE1)).mono ?_
  rintro e w2 ⟨B, rfl, hB, hE2⟩
  cases B
  · clear hB
    go_wp2_with fail
    refine (rawake_any w2).mono ?_
    rintro e w10 ⟨rfl, hE10⟩
    go_wp2_with fail
    go_ret
    exact ⟨rfl, ((hE0.trans hE1).trans hE2).trans hE10⟩
  have hfb := hB rfl
  have hX2 := (hE0.trans hE1).trans hE2
  have b0 := a0.ext (hE1.trans hE2)
  have b1 := a1.ext (hE1.trans hE2)
  have ha2 := ha.ext hX2
  have hb2 := hb.ext hX2
  have hT2 := hT.ext hX2
  clear hB hE0 hE1 hE2 z0 z1 z2 z3 z4 z5 z6 z7 a0 a1 ha0 hb0 ha hb hT
  by_cases hn : 300 < name.size
  · have t1 : decide ((300 : Int) < (name.size : Int)) = true := by simp; omega
    go_wp2_with fail
    refine (rawake_any w2).mono ?_
    rintro e w10 ⟨rfl, hE10⟩
    go_wp2_with fail
    go_ret
    exact ⟨rfl, hX2.trans hE10⟩
  have t1 : decide ((300 : Int) < (name.size : Int)) = false := by simp; omega
  obtain ⟨PA, hPA⟩ : ∃ P, P = rwB a := ⟨_, rfl⟩
  obtain ⟨PB, hPB⟩ : ∃ P, P = rwB b := ⟨_, rfl⟩
  obtain ⟨G, hG⟩ : ∃ G, G = max a.gone part := ⟨_, rfl⟩
  obtain ⟨EQ, hEQ⟩ : ∃ E, E = eqB a b := ⟨_, rfl⟩
  have HPA := Lib.hid hPA
  have HPB := Lib.hid hPB
  have HG := Lib.hid hG
  have HEQ := Lib.hid hEQ
  have na : ∀ c ∈ a.cols, c.name.size ≤ 1000000 := fun c hc => by have := (hfa.each c hc).1; omega
  have nb : ∀ c ∈ b.cols, c.name.size ≤ 1000000 := fun c hc => by have := (hfb.each c hc).1; omega
  have HNA := Lib.hid na
  have HNB := Lib.hid nb
  have hal := hfa.cols
  have hbl := hfb.cols
  clear hPA hPB hG hEQ na nb hfa hfb
  obtain ⟨x0, x1, x2, x3, x4, x5, x6, x7⟩ := b0.ro
  obtain ⟨y0, y1, y2, y3, y4, y5, y6, y7⟩ := b1.ro
  go_wp2_with fail
  refine wp_region_tab 30 [(1, fun v _ => v = .bool PA), (3, fun v _ => v = .bool PA), (7, fun v _ => v = .bool PB), (9, fun v _ => v = .bool PB), (15, fun v _ => v = .int .i64 G), (18, fun v _ => v = .int .i64 G), (24, fun v _ => v = .bool EQ), (27, fun v _ => v = .bool EQ)] (by kernel_rfl) (by kernel_rfl) (by kernel_rfl) ⟨stays_eq _, stays_eq _, stays_eq _, stays_eq _, stays_eq _, stays_eq _, stays_eq _, stays_eq _, trivial⟩ ?_
  replace x0 := held x0
  replace x1 := held x1
  replace x2 := held x2
  replace x3 := held x3
  replace x4 := held x4
  replace x5 := held x5
  replace x6 := held x6
  replace x7 := held x7
  replace y0 := held y0
  replace y1 := held y1
  replace y2 := held y2
  replace y3 := held y3
  replace y4 := held y4
  replace y5 := held y5
  replace y6 := held y6
  replace y7 := held y7
  refine rg_quiet rfl rfl rfl rfl ?_; intro K hK; go_big_quiet_op; go_big_quiet_on
  refine rg_val [] rfl rfl rfl (by kernel_rfl) (fun w1 hE hf => ?_) ?_
  · go_simp
    exact (rcheck_gen a va w1 (ha2.ext hE) HNA.out (hT2.ext hE)).mono fun e w' ⟨he, hw⟩ => ⟨_, he, rg_done hE hw (by rw [HPA.out])⟩
  simp only [Act.put, List.setIfInBounds_toArray, List.set_cons_zero, List.set_cons_succ]
  refine rg_quiet rfl rfl rfl rfl ?_; intro K hK; go_big_quiet_op; go_big_quiet_on
  refine rg_val [] rfl rfl rfl (by kernel_rfl) (fun w1 hE hf => ?_) ?_
  · go_simp
    exact (check7_any a va w1 (ha2.ext hE) HNA.out).mono fun e w' ⟨he, hw⟩ => ⟨_, he, rg_done hE hw (by rw [HPA.out])⟩
  simp only [Act.put, List.setIfInBounds_toArray, List.set_cons_zero, List.set_cons_succ]
  refine rg_quiet rfl rfl rfl rfl ?_; intro K hK; go_big_quiet_op; go_big_quiet_on
  refine rg_quiet rfl rfl rfl rfl ?_; intro K hK; go_big_quiet_op; go_big_quiet_on
  refine rg_quiet rfl rfl rfl rfl ?_; intro K hK; go_big_quiet_op; go_big_quiet_on
  refine rg_val [] rfl rfl rfl (by kernel_rfl) (fun w1 hE hf => ?_) ?_
  · go_simp
    exact (rcheck_gen b vb w1 (hb2.ext hE) HNB.out (hT2.ext hE)).mono fun e w' ⟨he, hw⟩ => ⟨_, he, rg_done hE hw (by rw [HPB.out])⟩
  simp only [Act.put, List.setIfInBounds_toArray, List.set_cons_zero, List.set_cons_succ]
  refine rg_quiet rfl rfl rfl rfl ?_; intro K hK; go_big_quiet_op; go_big_quiet_on
  refine rg_val [] rfl rfl rfl (by kernel_rfl) (fun w1 hE hf => ?_) ?_
  · go_simp
    exact (check7_any b vb w1 (hb2.ext hE) HNB.out).mono fun e w' ⟨he, hw⟩ => ⟨_, he, rg_done hE hw (by rw [HPB.out])⟩
  simp only [Act.put, List.setIfInBounds_toArray, List.set_cons_zero, List.set_cons_succ]
  refine rg_quiet rfl rfl rfl rfl ?_; intro K hK; go_big_quiet_op; go_big_quiet_on
  refine rg_quiet rfl rfl rfl rfl ?_; intro K hK; go_big_quiet_op; go_big_quiet_on
  refine rg_quiet rfl rfl rfl rfl ?_; intro K hK; go_big_quiet_op; go_big_quiet_on
  refine rg_quiet rfl rfl rfl rfl ?_; intro K hK; go_big_quiet_op; go_big_quiet_on
  refine rg_quiet rfl rfl rfl rfl ?_; intro K hK; go_big_quiet_op; go_big_quiet_on
  refine rg_val [] rfl rfl rfl (by kernel_rfl) (fun w1 hE hf => ?_) ?_
  · go_simp
    exact (rgone_any a va part w1).mono fun e w' ⟨he, hw⟩ => ⟨_, he, rg_done hE hw (by rw [HG.out])⟩
  simp only [Act.put, List.setIfInBounds_toArray, List.set_cons_zero, List.set_cons_succ]
  refine rg_quiet rfl rfl rfl rfl ?_; intro K hK; go_big_quiet_op; go_big_quiet_on
  refine rg_quiet rfl rfl rfl rfl ?_; intro K hK; go_big_quiet_op; go_big_quiet_on
  refine rg_val [] rfl rfl rfl (by kernel_rfl) (fun w1 hE hf => ?_) ?_
  · go_simp
    exact (gone7_any a va part w1).mono fun e w' ⟨he, hw⟩ => ⟨_, he, rg_done hE hw (by rw [HG.out])⟩
  simp only [Act.put, List.setIfInBounds_toArray, List.set_cons_zero, List.set_cons_succ]
  refine rg_quiet rfl rfl rfl rfl ?_; intro K hK; go_big_quiet_op; go_big_quiet_on
  refine rg_quiet rfl rfl rfl rfl ?_; intro K hK; go_big_quiet_op; go_big_quiet_on
  refine rg_quiet rfl rfl rfl rfl ?_; intro K hK; go_big_quiet_op; go_big_quiet_on
  refine rg_quiet rfl rfl rfl rfl ?_; intro K hK; go_big_quiet_op; go_big_quiet_on
  refine rg_quiet rfl rfl rfl rfl ?_; intro K hK; go_big_quiet_op; go_big_quiet_on
  refine rg_val [] rfl rfl rfl (by kernel_rfl) (fun w1 hE hf => ?_) ?_
  · go_simp
    exact (rowSame_any a b va vb w1 (ha2.ext hE) (hb2.ext hE)).mono fun e w' ⟨he, hw⟩ => ⟨_, he, rg_done hE hw (by rw [HEQ.out])⟩
  simp only [Act.put, List.setIfInBounds_toArray, List.set_cons_zero, List.set_cons_succ]
  refine rg_quiet rfl rfl rfl rfl ?_; intro K hK; go_big_quiet_op; go_big_quiet_on
  refine rg_quiet rfl rfl rfl rfl ?_; intro K hK; go_big_quiet_op; go_big_quiet_on
  refine rg_val [] rfl rfl rfl (by kernel_rfl) (fun w1 hE hf => ?_) ?_
  · go_simp
    exact (same7_any a b va vb w1 (ha2.ext hE) (hb2.ext hE)).mono fun e w' ⟨he, hw⟩ => ⟨_, he, rg_done hE hw (by rw [HEQ.out])⟩
  simp only [Act.put, List.setIfInBounds_toArray, List.set_cons_zero, List.set_cons_succ]
  refine rg_quiet rfl rfl rfl rfl ?_; intro K hK; go_big_quiet_op; go_big_quiet_on
  refine rg_quiet rfl rfl rfl rfl ?_; intro K hK; go_big_quiet_op; go_big_quiet_on
  refine rel_nil fun w3 hE3 _ => ?_
  have hX3 := hX2.trans hE3
  have c0 := b0.ext hE3
  have c1 := b1.ext hE3
  have ha3 := ha2.ext hE3
  have hb3 := hb2.ext hE3
  clear x0 x1 x2 x3 x4 x5 x6 x7 y0 y1 y2 y3 y4 y5 y6 y7 b0 b1 ha2 hb2 hT2 hE3 hX2
  obtain ⟨x0, x1, x2, x3, x4, x5, x6, x7⟩ := c0.ro
  go_wp2_with fail
  refine (check7_any a va w3 ha3 HNA.out).mono ?_
  rw [← HPA.out]
  rintro e w4 ⟨rfl, hE4⟩
  cases PA
  · go_wp2_with fail
    refine (rawake_any w4).mono ?_
    rintro e w10 ⟨rfl, hE10⟩
    go_wp2_with fail
    go_ret
    exact ⟨rfl, (hX3.trans hE4).trans hE10⟩
  obtain ⟨y0, y1, y2, y3, y4, y5, y6, y7⟩ := (c1.ext hE4).ro
  go_wp2_with fail
  refine (check7_any b vb w4 (hb3.ext hE4) HNB.out).mono ?_
  rw [← HPB.out]
  rintro e w5 ⟨rfl, hE5⟩
  cases PB
  · go_wp2_with fail
    refine (rawake_any w5).mono ?_
    rintro e w10 ⟨rfl, hE10⟩
    go_wp2_with fail
    go_ret
    exact ⟨rfl, ((hX3.trans hE4).trans hE5).trans hE10⟩
  have hX5 := (hX3.trans hE4).trans hE5
  have d0 := c0.ext (hE4.trans hE5)
  have d1 := c1.ext (hE4.trans hE5)
  have ha5 := ha3.ext (hE4.trans hE5)
  have hb5 := hb3.ext (hE4.trans hE5)
  have ua := (csB_up (rwB_parts HPA.out.symm).2).1
  have ub := (csB_up (rwB_parts HPB.out.symm).2).1
  have da := distN_of_up ua
  have HUA := Lib.hid ua
  have HUB := Lib.hid ub
  have HDA := Lib.hid da
  clear x0 x1 x2 x3 x4 x5 x6 x7 y0 y1 y2 y3 y4 y5 y6 y7 c0 c1 ha3 hb3 hE4 hE5 hX3 ua ub da
  obtain ⟨x0, x1, x2, x3, x4, x5, x6, x7⟩ := d0.ro
  obtain ⟨C, hC⟩ : ∃ C, C = bestC (cellOf a.cols name) G := ⟨_, rfl⟩
  obtain ⟨O, hO⟩ : ∃ O, O = bestB (cellOf a.cols name) G := ⟨_, rfl⟩
  have HC := Lib.hid hC
  have HO := Lib.hid hO
  clear hC hO
  go_wp2_with fail
  refine (best_any a va part name w5 ha5).mono ?_
  rw [← HG.out, ← HC.out, ← HO.out]
  rintro e w6 ⟨rfl, hE6⟩
  have hX6 := hX5.trans hE6
  have e0 := d0.ext hE6
  have e1 := d1.ext hE6
  have ha6 := ha5.ext hE6
  have hb6 := hb5.ext hE6
  clear x0 x1 x2 x3 x4 x5 x6 x7 d0 d1 ha5 hb5 hE6 hX5
  go_wp2_with (((guard_target =~ wpList _ _ _ (Oper.mk none (Op.store _ (Operand.tmp 13) (Operand.tmp 76)) _ _ _ _ :: _) _ _); go_must (refine storeBox rfl 23 (.tmp 13) (.tmp 76) rfl (w6.heap.size) _ _ _ (by rfl) (by rfl) ((BoxAt.made w6 (cl4 zeroCl) 23)) (by kernel_rfl) (by rfl) (by simp [Value.oneCell']) ?_); intro w7 c7 g7); have hX67 : Ext w6 w7 := ((Ext.refl w6).alloc _).grown g7 (fun q hq => by cases hq; exact Nat.le_refl _); have f7 : BoxAt w7 w6.heap.size (cl4 C) 23 := c7; obtain ⟨x0, x1, x2, x3, x4, x5, x6, x7⟩ := (e0.ext hX67).ro)
  have hX7 := hX6.trans hX67
  have f0 := e0.ext hX67
  have f1 := e1.ext hX67
  have ha7 := ha6.ext hX67
  have hb7 := hb6.ext hX67
  obtain ⟨q13, hq13⟩ : ∃ q, q = w6.heap.size := ⟨_, rfl⟩
  rw [← hq13] at f7 ⊢
  clear e0 e1 ha6 hb6 hX67 hX6 c7 g7 hq13
  refine (best7_any a va part name w7 ha7).mono ?_
  rw [← HG.out, ← HC.out, ← HO.out]
  rintro e w8 ⟨rfl, hE8⟩
  have hX8 := hX7.trans hE8
  have h0 := f0.ext hE8
  have h1 := f1.ext hE8
  have h7 := f7.ext hE8
  have ha8 := ha7.ext hE8
  have hb8 := hb7.ext hE8
  clear x0 x1 x2 x3 x4 x5 x6 x7 f0 f1 f7 ha7 hb7 hE8 hX7
  go_wp2_with (((guard_target =~ wpList _ _ _ (Oper.mk none (Op.store _ (Operand.tmp 15) (Operand.tmp 83)) _ _ _ _ :: _) _ _); go_must (refine storeBox rfl 23 (.tmp 15) (.tmp 83) rfl (w8.heap.size) _ _ _ (by rfl) (by rfl) ((BoxAt.made w8 (cl4 zeroCl) 23)) (by kernel_rfl) (by rfl) (by simp [Value.oneCell']) ?_); intro w9 c9 g9); have hX89 : Ext w8 w9 := ((Ext.refl w8).alloc _).grown g9 (fun q hq => by cases hq; exact Nat.le_refl _); have f9 : BoxAt w9 w8.heap.size (cl4 C) 23 := c9)
  have hX9 := hX8.trans hX89
  have k0 := h0.ext hX89
  have k1 := h1.ext hX89
  have k7 := h7.ext hX89
  have ha9 := ha8.ext hX89
  have hb9 := hb8.ext hX89
  obtain ⟨q15, hq15⟩ : ∃ q, q = w8.heap.size := ⟨_, rfl⟩
  rw [← hq15] at f9 ⊢
  clear h0 h1 h7 ha8 hb8 hX89 hX8 c9 g9 hq15
  obtain ⟨x0, x1, x2, x3, x4, x5, x6, x7⟩ := k0.ro
  obtain ⟨y0, y1, y2, y3, y4, y5, y6, y7⟩ := k1.ro
  obtain ⟨r0, r1, r2, r3⟩ := k7.cl
  obtain ⟨s0, s1, s2, s3⟩ := f9.cl
  obtain ⟨J, hJ⟩ : ∃ J, J = joinRo a b := ⟨_, rfl⟩
  have hJ2 : J = foldRo a b := by rw [hJ, foldRo_join HUA.out HUB.out]
  have HJ := Lib.hid hJ
  have HJ2 := Lib.hid hJ2
  obtain ⟨N, hN⟩ : ∃ N, N = cellOf a.cols name := ⟨_, rfl⟩
  have HN := Lib.hid hN
  obtain ⟨S, hS⟩ : ∃ S, S = seenCos a.cols G now := ⟨_, rfl⟩
  have HS := Lib.hid hS
  obtain ⟨I, hI⟩ : ∃ I, I = isB a G now strict := ⟨_, rfl⟩
  have HI := Lib.hid hI
  have hEC : eqB C C = true := eqB_true rfl
  have hEN : eqB N N = true := eqB_true rfl
  have hEJ : eqB J J = true := eqB_true rfl
  have hES : eqB S S = true := eqB_true rfl
  have HEC := Lib.hid hEC
  have HEN := Lib.hid hEN
  have HEJ := Lib.hid hEJ
  have HES := Lib.hid hES
  clear hJ hJ2 hN hS hI hEC hEN hEJ hES k0 k1 k7 f9
  go_wp2_with fail
  refine wp_region_tab 56 [(2, fun v y => ∃ v', v = (.agg #[.string J.key, .string J.live.val, .bool J.live.dead, .int .i64 J.live.at_, .int .i64 J.live.fin, .int .i64 J.gone, .int .i64 J.shade, v']) ∧ ColsIn y v' J.cols), (5, fun v y => ∃ v', v = (.agg #[.string J.key, .string J.live.val, .bool J.live.dead, .int .i64 J.live.at_, .int .i64 J.live.fin, .int .i64 J.gone, .int .i64 J.shade, v']) ∧ ColsIn y v' J.cols), (6, fun v _ => v = .bool true), (11, fun v _ => v = .bool true), (22, fun v _ => v = (.agg #[.string N.val, .bool N.dead, .int .i64 N.at_, .int .i64 N.fin])), (25, fun v _ => v = (.agg #[.string N.val, .bool N.dead, .int .i64 N.at_, .int .i64 N.fin])), (26, fun v _ => v = .bool true), (32, fun v y => ColsIn y v S), (36, fun v y => ColsIn y v S), (37, fun v _ => v = .bool true), (44, fun v _ => v = .bool I), (49, fun v _ => v = .bool I), (53, fun v _ => v = .bool true)] (by kernel_rfl) (by kernel_rfl) (by kernel_rfl) ⟨fun _ _ _ hE ⟨v', e, h⟩ => ⟨v', e, h.ext hE⟩, fun _ _ _ hE ⟨v', e, h⟩ => ⟨v', e, h.ext hE⟩, stays_eq _, stays_eq _, stays_eq _, stays_eq _, stays_eq _, fun _ _ _ hE h => h.ext hE, fun _ _ _ hE h => h.ext hE, stays_eq _, stays_eq _, stays_eq _, stays_eq _, trivial⟩ ?_
  replace x0 := held x0
  replace x1 := held x1
  replace x2 := held x2
  replace x3 := held x3
  replace x4 := held x4
  replace x5 := held x5
  replace x6 := held x6
  replace x7 := held x7
  replace y0 := held y0
  replace y1 := held y1
  replace y2 := held y2
  replace y3 := held y3
  replace y4 := held y4
  replace y5 := held y5
  replace y6 := held y6
  replace y7 := held y7
  replace r0 := held r0
  replace r1 := held r1
  replace r2 := held r2
  replace r3 := held r3
  replace s0 := held s0
  replace s1 := held s1
  replace s2 := held s2
  replace s3 := held s3
  refine rg_quiet rfl rfl rfl rfl ?_; intro K hK; go_big_quiet_op; go_big_quiet_on
  refine rg_quiet rfl rfl rfl rfl ?_; intro K hK; go_big_quiet_op; go_big_quiet_on
  refine rg_fact [] rfl rfl rfl (by kernel_rfl) (fun y hY hf => ?_) (fun v2 y2 hE2 hG2 h2 => ?_)
  · go_simp
    refine (rowJoin_any a b va vb y (ha9.ext hY) (hb9.ext hY) (by omega)).mono ?_
    rw [← HJ.out]
    rintro e y' ⟨v', rfl, hown', hy⟩
    exact ⟨_, rfl, rg_doneR hY hy ⟨v', rfl, cols_own hown'⟩⟩
  obtain ⟨v2, rfl, h2⟩ := h2
  obtain ⟨a2, c2, rfl⟩ := h2.shape
  clear hE2 hG2 h2
  simp only [Act.put, List.setIfInBounds_toArray, List.set_cons_zero, List.set_cons_succ]
  refine rg_quiet rfl rfl rfl rfl ?_; intro K hK; go_big_quiet_op; go_big_quiet_on
  refine rg_quiet rfl rfl rfl rfl ?_; intro K hK; go_big_quiet_op; go_big_quiet_on
  refine rg_fact [] rfl rfl rfl (by kernel_rfl) (fun y hY hf => ?_) (fun v5 y5 hE5 hG5 h5 => ?_)
  · go_simp
    refine (join7_in a b va vb y (ha9.ext hY) (hb9.ext hY) (by omega)).mono ?_
    rw [← HJ2.out]
    rintro e y' ⟨v', rfl, hct, hy⟩
    exact ⟨_, rfl, rg_doneR hY hy ⟨v', rfl, hct.cols⟩⟩
  obtain ⟨v5, rfl, h5⟩ := h5
  obtain ⟨a5, c5, rfl⟩ := h5.shape
  clear hE5 hG5 h5
  simp only [Act.put, List.setIfInBounds_toArray, List.set_cons_zero, List.set_cons_succ]
  refine rg_val [2, 5] rfl rfl rfl (by kernel_rfl) (fun y hY hf => ?_) ?_
  · obtain ⟨u2, e2, k2⟩ := (hf 2 (by simp)).1.2 rfl
    obtain ⟨u5, e5, k5⟩ := (hf 5 (by simp)).2 rfl
    cases e2
    cases e5
    go_simp
    exact (same7_any J J _ _ y k2 k5).mono fun e w' ⟨he, hw⟩ => ⟨_, he, rg_done hY hw (by rw [HEJ.out])⟩
  simp only [Act.put, List.setIfInBounds_toArray, List.set_cons_zero, List.set_cons_succ]
  refine rg_quiet rfl rfl rfl rfl ?_; intro K hK; go_big_quiet_op; go_big_quiet_on
  refine rg_quiet rfl rfl rfl rfl ?_; intro K hK; go_big_quiet_op; go_big_quiet_on
  refine rg_quiet rfl rfl rfl rfl ?_; intro K hK; go_big_quiet_op; go_big_quiet_on
  refine rg_quiet rfl rfl rfl rfl ?_; intro K hK; go_big_quiet_op; go_big_quiet_on
  refine rg_val [] rfl rfl rfl (by kernel_rfl) (fun w1 hE hf => ?_) ?_
  · go_simp
    exact (same6_any C C w1).mono fun e w' ⟨he, hw⟩ => ⟨_, he, rg_done hE hw (by rw [HEC.out])⟩
  simp only [Act.put, List.setIfInBounds_toArray, List.set_cons_zero, List.set_cons_succ]
  refine rg_quiet rfl rfl rfl rfl ?_; intro K hK; go_big_quiet_op; go_big_quiet_on
  refine rg_quiet rfl rfl rfl rfl ?_; intro K hK; go_big_quiet_op; go_big_quiet_on
  refine rg_quiet rfl rfl rfl rfl ?_; intro K hK; go_big_quiet_op; go_big_quiet_on
  refine rg_quiet rfl rfl rfl rfl ?_; intro K hK; go_big_quiet_op; go_big_quiet_on
  refine rg_quiet rfl rfl rfl rfl ?_; intro K hK; go_big_quiet_op; go_big_quiet_on
  refine rg_quiet rfl rfl rfl rfl ?_; intro K hK; go_big_quiet_op; go_big_quiet_on
  refine rg_quiet rfl rfl rfl rfl ?_; intro K hK; go_big_quiet_op; go_big_quiet_on
  refine rg_quiet rfl rfl rfl rfl ?_; intro K hK; go_big_quiet_op; go_big_quiet_on
  refine rg_quiet rfl rfl rfl rfl ?_; intro K hK; go_big_quiet_op; go_big_quiet_on
  refine rg_quiet rfl rfl rfl rfl ?_; intro K hK; go_big_quiet_op; go_big_quiet_on
  refine rg_val [] rfl rfl rfl (by kernel_rfl) (fun w1 hE hf => ?_) ?_
  · go_simp
    exact (rcell_any a va name w1 (ha9.ext hE)).mono fun e w' ⟨he, hw⟩ => ⟨_, he, rg_done hE hw (by rw [HN.out])⟩
  simp only [Act.put, List.setIfInBounds_toArray, List.set_cons_zero, List.set_cons_succ]
  refine rg_quiet rfl rfl rfl rfl ?_; intro K hK; go_big_quiet_op; go_big_quiet_on
  refine rg_quiet rfl rfl rfl rfl ?_; intro K hK; go_big_quiet_op; go_big_quiet_on
  refine rg_val [] rfl rfl rfl (by kernel_rfl) (fun w1 hE hf => ?_) ?_
  · go_simp
    exact (cell7_any a va name w1 (ha9.ext hE)).mono fun e w' ⟨he, hw⟩ => ⟨_, he, rg_done hE hw (by rw [HN.out])⟩
  simp only [Act.put, List.setIfInBounds_toArray, List.set_cons_zero, List.set_cons_succ]
  refine rg_val [] rfl rfl rfl (by kernel_rfl) (fun w1 hE hf => ?_) ?_
  · go_simp
    exact (same6_any N N w1).mono fun e w' ⟨he, hw⟩ => ⟨_, he, rg_done hE hw (by rw [HEN.out])⟩
  simp only [Act.put, List.setIfInBounds_toArray, List.set_cons_zero, List.set_cons_succ]
  refine rg_quiet rfl rfl rfl rfl ?_; intro K hK; go_big_quiet_op; go_big_quiet_on
  refine rg_quiet rfl rfl rfl rfl ?_; intro K hK; go_big_quiet_op; go_big_quiet_on
  refine rg_quiet rfl rfl rfl rfl ?_; intro K hK; go_big_quiet_op; go_big_quiet_on
  refine rg_quiet rfl rfl rfl rfl ?_; intro K hK; go_big_quiet_op; go_big_quiet_on
  refine rg_quiet rfl rfl rfl rfl ?_; intro K hK; go_big_quiet_op; go_big_quiet_on
  refine rg_fact [] rfl rfl rfl (by kernel_rfl) (fun y hY hf => ?_) (fun v32 y32 hE32 hG32 h32 => ?_)
  · go_simp
    refine (rwseen_any a va part now y (ha9.ext hY) (by omega)).mono ?_
    rw [← HG.out, ← HS.out]
    rintro e y' ⟨v', he, hown', hy⟩
    exact ⟨_, he, rg_doneR hY hy (cols_own hown')⟩
  obtain ⟨a32, c32, rfl⟩ := h32.shape
  clear hE32 hG32 h32
  simp only [Act.put, List.setIfInBounds_toArray, List.set_cons_zero, List.set_cons_succ]
  refine rg_quiet rfl rfl rfl rfl ?_; intro K hK; go_big_quiet_op; go_big_quiet_on
  refine rg_quiet rfl rfl rfl rfl ?_; intro K hK; go_big_quiet_op; go_big_quiet_on
  refine rg_quiet rfl rfl rfl rfl ?_; intro K hK; go_big_quiet_op; go_big_quiet_on
  refine rg_fact [] rfl rfl rfl (by kernel_rfl) (fun y hY hf => ?_) (fun v36 y36 hE36 hG36 h36 => ?_)
  · go_simp
    refine (seen7_any a va part now y (ha9.ext hY) (by omega) HDA.out).mono ?_
    rw [← HG.out, ← HS.out]
    rintro e y' ⟨v', he, hown', hy⟩
    exact ⟨_, he, rg_doneR hY hy (cols_own hown')⟩
  obtain ⟨a36, c36, rfl⟩ := h36.shape
  clear hE36 hG36 h36
  simp only [Act.put, List.setIfInBounds_toArray, List.set_cons_zero, List.set_cons_succ]
  refine rg_val [32, 36] rfl rfl rfl (by kernel_rfl) (fun y hY hf => ?_) ?_
  · have k2 : ColsIn y (.slice a32 S.length c32) S := (hf 32 (by simp)).1.2 rfl
    have k5 : ColsIn y (.slice a36 S.length c36) S := (hf 36 (by simp)).2 rfl
    go_simp
    exact (sameCols_any _ _ S S y k2 k5).mono fun e w' ⟨he, hw⟩ => ⟨_, he, rg_done hY hw (by rw [HES.out])⟩
  simp only [Act.put, List.setIfInBounds_toArray, List.set_cons_zero, List.set_cons_succ]
  refine rg_quiet rfl rfl rfl rfl ?_; intro K hK; go_big_quiet_op; go_big_quiet_on
  refine rg_quiet rfl rfl rfl rfl ?_; intro K hK; go_big_quiet_op; go_big_quiet_on
  refine rg_quiet rfl rfl rfl rfl ?_; intro K hK; go_big_quiet_op; go_big_quiet_on
  refine rg_quiet rfl rfl rfl rfl ?_; intro K hK; go_big_quiet_op; go_big_quiet_on
  refine rg_quiet rfl rfl rfl rfl ?_; intro K hK; go_big_quiet_op; go_big_quiet_on
  refine rg_quiet rfl rfl rfl rfl ?_; intro K hK; go_big_quiet_op; go_big_quiet_on
  refine rg_val [] rfl rfl rfl (by kernel_rfl) (fun w1 hE hf => ?_) ?_
  · go_simp
    exact (ris_any a va part now strict w1 (ha9.ext hE) (by omega)).mono fun e w' ⟨he, hw⟩ => ⟨_, he, rg_done hE hw (by rw [← HG.out, HI.out])⟩
  simp only [Act.put, List.setIfInBounds_toArray, List.set_cons_zero, List.set_cons_succ]
  refine rg_quiet rfl rfl rfl rfl ?_; intro K hK; go_big_quiet_op; go_big_quiet_on
  refine rg_quiet rfl rfl rfl rfl ?_; intro K hK; go_big_quiet_op; go_big_quiet_on
  refine rg_quiet rfl rfl rfl rfl ?_; intro K hK; go_big_quiet_op; go_big_quiet_on
  refine rg_quiet rfl rfl rfl rfl ?_; intro K hK; go_big_quiet_op; go_big_quiet_on
  refine rg_val [] rfl rfl rfl (by kernel_rfl) (fun w1 hE hf => ?_) ?_
  · go_simp
    exact (is7_any a va part now strict w1 (ha9.ext hE) (by omega) HDA.out).mono fun e w' ⟨he, hw⟩ => ⟨_, he, rg_done hE hw (by rw [← HG.out, HI.out])⟩
  simp only [Act.put, List.setIfInBounds_toArray, List.set_cons_zero, List.set_cons_succ]
  refine rg_quiet rfl rfl rfl rfl ?_; intro K hK; go_big_quiet_op; go_big_quiet_on
  refine rg_quiet rfl rfl rfl rfl ?_; intro K hK; go_big_quiet_op; go_big_quiet_on
  refine rg_quiet rfl rfl rfl rfl ?_; intro K hK; go_big_quiet_op; go_big_quiet_on
  refine rg_val [] rfl rfl rfl (by kernel_rfl) (fun w1 hE hf => ?_) ?_
  · go_simp
    exact (rawake_any w1).mono fun e w' ⟨he, hw⟩ => ⟨_, he, rg_done hE hw (rfl)⟩
  simp only [Act.put, List.setIfInBounds_toArray, List.set_cons_zero, List.set_cons_succ]
  refine rg_quiet rfl rfl rfl rfl ?_; intro K hK; go_big_quiet_op; go_big_quiet_on
  refine rg_quiet rfl rfl rfl rfl ?_; intro K hK; go_big_quiet_op; go_big_quiet_on
  refine rel_nil fun w10 hE10 _ => ?_
  clear x0 x1 x2 x3 x4 x5 x6 x7 y0 y1 y2 y3 y4 y5 y6 y7 r0 r1 r2 r3 s0 s1 s2 s3
  go_wp2_with fail
  go_ret
  exact ⟨rfl, hX9.trans hE10⟩
theorem walk_rowAll (v0 v1 : Value) (part now : Int) (strict : Bool) (name : ByteArray) (W : World) (w0 : ∃ (r : Ro) (u : Value), v0 = (.agg #[.string r.key, .string r.live.val, .bool r.live.dead, .int .i64 r.live.at_, .int .i64 r.live.fin, .int .i64 r.gone, .int .i64 r.shade, u]) ∧ ColsIn W u r.cols) (w1 : ∃ (r : Ro) (u : Value), v1 = (.agg #[.string r.key, .string r.live.val, .bool r.live.dead, .int .i64 r.live.at_, .int .i64 r.live.fin, .int .i64 r.gone, .int .i64 r.shade, u]) ∧ ColsIn W u r.cols)
    (_ : (Lit.int .i64 part).wf = true) (_ : (Lit.int .i64 now).wf = true) (_ : name.size ≤ maxLen) (hT : TabU W) :
    Calls Tryd.prog 5 #[v0, v1, .int .i64 part, .int .i64 now, .bool strict, .string name] W fun e w' => e = .returned (.bool true) ∧ Ext W w' := by
  obtain ⟨a, va, rfl, ha⟩ := w0
  obtain ⟨b, vb, rfl, hb⟩ := w1
  exact law_rowAll a b va vb part now strict name W ha hb hT
end Go.Proofs.YteamiiekpjoclaaDoor
