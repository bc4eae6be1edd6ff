/- What passes the reference's Check rises (plain). -/
import Derived.Test.YteamiiekpjoclaaDoorM19
import Derived.Test.YteamiiekpjoclaaDoorM11
import Derived.Test.YteamiiekpjoclaaDoorM18
import Derived.Test.YteamiiekpjoclaaDoorM15
import Derived.Test.YteamiiekpjoclaaDoorM7
import Derived.Test.YteamiiekpjoclaaDoorM12
import Derived.Test.YteamiiekpjoclaaDoorM13
import Derived.Test.YteamiiekpjoclaaDoorM14
import Derived.Test.YteamiiekpjoclaaDoorM16
import Derived.Test.YteamiiekpjoclaaDoorM17
import Derived.Test.YteamiiekpjoclaaDoorM10
namespace Go.Proofs.YteamiiekpjoclaaDoor
open Go Go.RowKit

theorem distN_of_up {l : List Co} (h : Up kCo l) : DistN l := by
  induction l with
  | nil => intro k hk; exact absurd hk (Nat.not_lt_zero _)
  | cons c l ih =>
    intro k hk
    cases k with
    | zero => unfold cellOf; rw [if_pos (by simp)]; rfl
    | succ k =>
      have hk' : k < l.length := by simpa using hk
      have hne : kCo c ≠ kCo l[k] := ne_of_lt (h.head _ (List.getElem_mem hk'))
      show cellOf (c :: l) l[k].name = l[k].cell
      unfold cellOf
      rw [if_neg (by unfold kCo at hne; rw [ByteArray.toList_eq, ByteArray.toList_eq]; simpa using hne)]
      exact ih h.tail k hk'
/-- Columns that pass the reference's Check rise. -/
theorem csB_up : ∀ {l : List Co} {p : Option ByteArray}, csB p l = true → Up kCo l ∧ (∀ c ∈ l, 0 < c.cell.at_) ∧ ∀ q, p = some q → ∀ c ∈ l, cmpB q.data.toList (kCo c) < 0
  | [], _, _ => ⟨List.Pairwise.nil, nofun, nofun⟩
  | c :: l, p, h => by
    rw [csB_cons] at h
    simp only [Bool.and_eq_true, decide_eq_true_eq] at h
    obtain ⟨⟨⟨⟨h1, h2⟩, h3⟩, h4⟩, h5⟩ := h
    obtain ⟨i1, i2, i3⟩ := csB_up h5
    have hc : ∀ d ∈ l, cmpB (kCo c) (kCo d) < 0 := i3 _ rfl
    refine ⟨List.pairwise_cons.2 ⟨hc, i1⟩, fun d hd => ?_, fun q hq d hd => ?_⟩
    · rcases List.mem_cons.1 hd with rfl | hd
      · exact h4
      · exact i2 d hd
    · subst hq
      have h0 : cmpB q.data.toList (kCo c) < 0 := (keyC_less ⟨q, zeroCl⟩ c).2 h2
      rcases List.mem_cons.1 hd with rfl | hd
      · exact h0
      · exact cmpB_lt_trans h0 (hc d hd)
theorem rwB_parts {r : Ro} (h : rwB r = true) : hdB r = true ∧ csB none r.cols = true := by
  unfold rwB at h
  simpa using h
theorem rsB_up : ∀ {l : List Ro} {p : Option ByteArray}, rsB p l = true → Up kRo l ∧ (∀ r ∈ l, rwB r = true) ∧ ∀ q, p = some q → ∀ r ∈ l, cmpB q.data.toList (kRo r) < 0
  | [], _, _ => ⟨List.Pairwise.nil, nofun, nofun⟩
  | c :: l, p, h => by
    have h : (rwB c && orB p c.key && rsB (some c.key) l) = true := h
    simp only [Bool.and_eq_true] at h
    obtain ⟨⟨h1, h2⟩, h5⟩ := h
    obtain ⟨i1, i2, i3⟩ := rsB_up h5
    have hc : ∀ d ∈ l, cmpB (kRo c) (kRo d) < 0 := i3 _ rfl
    refine ⟨List.pairwise_cons.2 ⟨hc, i1⟩, fun d hd => ?_, fun q hq d hd => ?_⟩
    · rcases List.mem_cons.1 hd with rfl | hd
      · exact h1
      · exact i2 d hd
    · subst hq
      have h0 : cmpB q.data.toList (kRo c) < 0 := (keyC_less ⟨q, zeroCl⟩ ⟨c.key, zeroCl⟩).2 h2
      rcases List.mem_cons.1 hd with rfl | hd
      · exact h0
      · exact cmpB_lt_trans h0 (hc d hd)
theorem ptB_parts {k : ByteArray} {g : Int} {l : List Ro} (h : ptB k g l = true) : k.size ≤ 100 ∧ 0 ≤ g ∧ l.length ≤ 100 ∧ rsB none l = true := by
  unfold ptB at h
  simp only [Bool.and_eq_true, Bool.not_eq_true', decide_eq_false_iff_not] at h
  obtain ⟨⟨⟨⟨h1, h2⟩, h3⟩, h4⟩, h5⟩ := h
  exact ⟨by omega, by omega, by omega, h5⟩
theorem hdB_key {r : Ro} (h : hdB r = true) : r.key.size ≤ 400 ∧ r.cols.length ≤ 8 := by
  obtain ⟨h1, _, _, _, _, _, h7⟩ := hdB_parts h
  simp at h1 h7
  exact ⟨by omega, by omega⟩
end Go.Proofs.YteamiiekpjoclaaDoor

/- RowAll: any rows, any stamps and times, any name: the law's walk. -/
namespace Go.Proofs.YteamiiekpjoclaaDoor
open Go Go.RowKit
attribute [local go_sem] yields yUpon ro8 cl4

set_option maxRecDepth 100000 in
set_option maxHeartbeats 16000000 in
theorem law_rowAll (a b : Ro) (va vb : Value) (part now : Int) (strict : Bool) (name : ByteArray) (w : World) (ha : ColsIn w va a.cols) (hb : ColsIn w vb b.cols) (hT : TabU w) :
    Calls Tryd.prog 5 #[(.agg #[.string a.key, .string a.live.val, .bool a.live.dead, .int .i64 a.live.at_, .int .i64 a.live.fin, .int .i64 a.gone, .int .i64 a.shade, va]), (.agg #[.string b.key, .string b.live.val, .bool b.live.dead, .int .i64 b.live.at_, .int .i64 b.live.fin, .int .i64 b.gone, .int .i64 b.shade, vb]), .int .i64 part, .int .i64 now, .bool strict, .string name] w fun e w' => e = .returned (.bool true) ∧ Ext w w' := by
  obtain ⟨a0, a1, hE0⟩ := boxes2 w (ro8 a va) (ro8 b vb) 26 26
  have ha0 := ha.ext hE0
  have hb0 := hb.ext hE0
  go_enter Tryd.func5, Tryd.ntmps5
  go_wp2_with fail
  refine (fewRow_any a va _ ha0).mono ?_
  rintro e w1 ⟨B, rfl, hB, hE1⟩
  cases B
  · clear hB
    go_wp2_with fail
    refine (rawake_any w1).mono ?_
    rintro e w10 ⟨rfl, hE10⟩
    go_wp2_with fail
    go_ret
    exact ⟨rfl, (hE0.trans hE1).trans hE10⟩
  have hfa := hB rfl
  obtain ⟨z0, z1, z2, z3, z4, z5, z6, z7⟩ := (a1.ext hE1).ro
  clear hB
  go_wp2_with fail
  refine (fewRow_any b vb w1 (hb0.ext hE1)).mono ?_
  rintro e w2 ⟨B, rfl, hB, hE2⟩
  cases B
  · clear hB
    go_wp2_with fail
    refine (rawake_any w2).mono ?_
    rintro e w10 ⟨rfl, hE10⟩
    go_wp2_with fail
    go_ret
    exact ⟨rfl, ((hE0.trans hE1).trans hE2).trans hE10⟩
  have hfb := hB rfl
  have hX2 := (hE0.trans hE1).trans hE2
  have b0 := a0.ext (hE1.trans hE2)
  have b1 := a1.ext (hE1.trans hE2)
  have ha2 := ha.ext hX2
  have hb2 := hb.ext hX2
  have hT2 := hT.ext hX2
  clear hB hE0 hE1 hE2 z0 z1 z2 z3 z4 z5 z6 z7 a0 a1 ha0 hb0 ha hb hT
  by_cases hn : 300 < name.size
  · have t1 : decide ((300 : Int) < (name.size : Int)) = true := by simp; omega
    go_wp2_with fail
    refine (rawake_any w2).mono ?_
    rintro e w10 ⟨rfl, hE10⟩
    go_wp2_with fail
    go_ret
    exact ⟨rfl, hX2.trans hE10⟩
  have t1 : decide ((300 : Int) < (name.size : Int)) = false := by simp; omega
  obtain ⟨PA, hPA⟩ : ∃ P, P = rwB a := ⟨_, rfl⟩
  obtain ⟨PB, hPB⟩ : ∃ P, P = rwB b := ⟨_, rfl⟩
  obtain ⟨G, hG⟩ : ∃ G, G = max a.gone part := ⟨_, rfl⟩
  obtain ⟨EQ, hEQ⟩ : ∃ E, E = eqB a b := ⟨_, rfl⟩
  have HPA := Lib.hid hPA
  have HPB := Lib.hid hPB
  have HG := Lib.hid hG
  have HEQ := Lib.hid hEQ
  have na : ∀ c ∈ a.cols, c.name.size ≤ 1000000 := fun c hc => by have := (hfa.each c hc).1; omega
  have nb : ∀ c ∈ b.cols, c.name.size ≤ 1000000 := fun c hc => by have := (hfb.each c hc).1; omega
  have HNA := Lib.hid na
  have HNB := Lib.hid nb
  have hal := hfa.cols
  have hbl := hfb.cols
  clear hPA hPB hG hEQ na nb hfa hfb
  obtain ⟨x0, x1, x2, x3, x4, x5, x6, x7⟩ := b0.ro
  obtain ⟨y0, y1, y2, y3, y4, y5, y6, y7⟩ := b1.ro
  go_wp2_with fail
  refine wp_region_tab 30 [(1, fun v _ => v = .bool PA), (3, fun v _ => v = .bool PA), (7, fun v _ => v = .bool PB), (9, fun v _ => v = .bool PB), (15, fun v _ => v = .int .i64 G), (18, fun v _ => v = .int .i64 G), (24, fun v _ => v = .bool EQ), (27, fun v _ => v = .bool EQ)] (by kernel_rfl) (by kernel_rfl) (by kernel_rfl) ⟨stays_eq _, stays_eq _, stays_eq _, stays_eq _, stays_eq _, stays_eq _, stays_eq _, stays_eq _, trivial⟩ ?_
  replace x0 := held x0
  replace x1 := held x1
  replace x2 := held x2
  replace x3 := held x3
  replace x4 := held x4
  replace x5 := held x5
  replace x6 := held x6
  replace x7 := held x7
  replace y0 := held y0
  replace y1 := held y1
  replace y2 := held y2
  replace y3 := held y3
  replace y4 := held y4
  replace y5 := held y5
  replace y6 := held y6
  replace y7 := held y7
  refine rg_quiet rfl rfl rfl rfl ?_; intro K hK; go_big_quiet_op; go_big_quiet_on
  refine rg_val [] rfl rfl rfl (by kernel_rfl) (fun w1 hE hf => ?_) ?_
  · go_simp
    exact (rcheck_gen a va w1 (ha2.ext hE) HNA.out (hT2.ext hE)).mono fun e w' ⟨he, hw⟩ => ⟨_, he, rg_done hE hw (by rw [HPA.out])⟩
  simp only [Act.put, List.setIfInBounds_toArray, List.set_cons_zero, List.set_cons_succ]
  refine rg_quiet rfl rfl rfl rfl ?_; intro K hK; go_big_quiet_op; go_big_quiet_on
  refine rg_val [] rfl rfl rfl (by kernel_rfl) (fun w1 hE hf => ?_) ?_
  · go_simp
    exact (check7_any a va w1 (ha2.ext hE) HNA.out).mono fun e w' ⟨he, hw⟩ => ⟨_, he, rg_done hE hw (by rw [HPA.out])⟩
  simp only [Act.put, List.setIfInBounds_toArray, List.set_cons_zero, List.set_cons_succ]
  refine rg_quiet rfl rfl rfl rfl ?_; intro K hK; go_big_quiet_op; go_big_quiet_on
  refine rg_quiet rfl rfl rfl rfl ?_; intro K hK; go_big_quiet_op; go_big_quiet_on
  refine rg_quiet rfl rfl rfl rfl ?_; intro K hK; go_big_quiet_op; go_big_quiet_on
  refine rg_val [] rfl rfl rfl (by kernel_rfl) (fun w1 hE hf => ?_) ?_
  · go_simp
    exact (rcheck_gen b vb w1 (hb2.ext hE) HNB.out (hT2.ext hE)).mono fun e w' ⟨he, hw⟩ => ⟨_, he, rg_done hE hw (by rw [HPB.out])⟩
  simp only [Act.put, List.setIfInBounds_toArray, List.set_cons_zero, List.set_cons_succ]
  refine rg_quiet rfl rfl rfl rfl ?_; intro K hK; go_big_quiet_op; go_big_quiet_on
  refine rg_val [] rfl rfl rfl (by kernel_rfl) (fun w1 hE hf => ?_) ?_
  · go_simp
    exact (check7_any b vb w1 (hb2.ext hE) HNB.out).mono fun e w' ⟨he, hw⟩ => ⟨_, he, rg_done hE hw (by rw [HPB.out])⟩
  simp only [Act.put, List.setIfInBounds_toArray, List.set_cons_zero, List.set_cons_succ]
  refine rg_quiet rfl rfl rfl rfl ?_; intro K hK; go_big_quiet_op; go_big_quiet_on
  refine rg_quiet rfl rfl rfl rfl ?_; intro K hK; go_big_quiet_op; go_big_quiet_on
  refine rg_quiet rfl rfl rfl rfl ?_; intro K hK; go_big_quiet_op; go_big_quiet_on
  refine rg_quiet rfl rfl rfl rfl ?_; intro K hK; go_big_quiet_op; go_big_quiet_on
  refine rg_quiet rfl rfl rfl rfl ?_; intro K hK; go_big_quiet_op; go_big_quiet_on
  refine rg_val [] rfl rfl rfl (by kernel_rfl) (fun w1 hE hf => ?_) ?_
  · go_simp
    exact (rgone_any a va part w1).mono fun e w' ⟨he, hw⟩ => ⟨_, he, rg_done hE hw (by rw [HG.out])⟩
  simp only [Act.put, List.setIfInBounds_toArray, List.set_cons_zero, List.set_cons_succ]
  refine rg_quiet rfl rfl rfl rfl ?_; intro K hK; go_big_quiet_op; go_big_quiet_on
  refine rg_quiet rfl rfl rfl rfl ?_; intro K hK; go_big_quiet_op; go_big_quiet_on
  refine rg_val [] rfl rfl rfl (by kernel_rfl) (fun w1 hE hf => ?_) ?_
  · go_simp
    exact (gone7_any a va part w1).mono fun e w' ⟨he, hw⟩ => ⟨_, he, rg_done hE hw (by rw [HG.out])⟩
  simp only [Act.put, List.setIfInBounds_toArray, List.set_cons_zero, List.set_cons_succ]
  refine rg_quiet rfl rfl rfl rfl ?_; intro K hK; go_big_quiet_op; go_big_quiet_on
  refine rg_quiet rfl rfl rfl rfl ?_; intro K hK; go_big_quiet_op; go_big_quiet_on
  refine rg_quiet rfl rfl rfl rfl ?_; intro K hK; go_big_quiet_op; go_big_quiet_on
  refine rg_quiet rfl rfl rfl rfl ?_; intro K hK; go_big_quiet_op; go_big_quiet_on
  refine rg_quiet rfl rfl rfl rfl ?_; intro K hK; go_big_quiet_op; go_big_quiet_on
  refine rg_val [] rfl rfl rfl (by kernel_rfl) (fun w1 hE hf => ?_) ?_
  · go_simp
    exact (rowSame_any a b va vb w1 (ha2.ext hE) (hb2.ext hE)).mono fun e w' ⟨he, hw⟩ => ⟨_, he, rg_done hE hw (by rw [HEQ.out])⟩
  simp only [Act.put, List.setIfInBounds_toArray, List.set_cons_zero, List.set_cons_succ]
  refine rg_quiet rfl rfl rfl rfl ?_; intro K hK; go_big_quiet_op; go_big_quiet_on
  refine rg_quiet rfl rfl rfl rfl ?_; intro K hK; go_big_quiet_op; go_big_quiet_on
  refine rg_val [] rfl rfl rfl (by kernel_rfl) (fun w1 hE hf => ?_) ?_
  · go_simp
    exact (same7_any a b va vb w1 (ha2.ext hE) (hb2.ext hE)).mono fun e w' ⟨he, hw⟩ => ⟨_, he, rg_done hE hw (by rw [HEQ.out])⟩
  simp only [Act.put, List.setIfInBounds_toArray, List.set_cons_zero, List.set_cons_succ]
  refine rg_quiet rfl rfl rfl rfl ?_; intro K hK; go_big_quiet_op; go_big_quiet_on
  refine rg_quiet rfl rfl rfl rfl ?_; intro K hK; go_big_quiet_op; go_big_quiet_on
  refine rel_nil fun w3 hE3 _ => ?_
  have hX3 := hX2.trans hE3
  have c0 := b0.ext hE3
  have c1 := b1.ext hE3
  have ha3 := ha2.ext hE3
  have hb3 := hb2.ext hE3
  clear x0 x1 x2 x3 x4 x5 x6 x7 y0 y1 y2 y3 y4 y5 y6 y7 b0 b1 ha2 hb2 hT2 hE3 hX2
  obtain ⟨x0, x1, x2, x3, x4, x5, x6, x7⟩ := c0.ro
  go_wp2_with fail
  refine (check7_any a va w3 ha3 HNA.out).mono ?_
  rw [← HPA.out]
  rintro e w4 ⟨rfl, hE4⟩
  cases PA
  · go_wp2_with fail
    refine (rawake_any w4).mono ?_
    rintro e w10 ⟨rfl, hE10⟩
    go_wp2_with fail
    go_ret
    exact ⟨rfl, (hX3.trans hE4).trans hE10⟩
  obtain ⟨y0, y1, y2, y3, y4, y5, y6, y7⟩ := (c1.ext hE4).ro
  go_wp2_with fail
  refine (check7_any b vb w4 (hb3.ext hE4) HNB.out).mono ?_
  rw [← HPB.out]
  rintro e w5 ⟨rfl, hE5⟩
  cases PB
  · go_wp2_with fail
    refine (rawake_any w5).mono ?_
    rintro e w10 ⟨rfl, hE10⟩
    go_wp2_with fail
    go_ret
    exact ⟨rfl, ((hX3.trans hE4).trans hE5).trans hE10⟩
  have hX5 := (hX3.trans hE4).trans hE5
  have d0 := c0.ext (hE4.trans hE5)
  have d1 := c1.ext (hE4.trans hE5)
  have ha5 := ha3.ext (hE4.trans hE5)
  have hb5 := hb3.ext (hE4.trans hE5)
  have ua := (csB_up (rwB_parts HPA.out.symm).2).1
  have ub := (csB_up (rwB_parts HPB.out.symm).2).1
  have da := distN_of_up ua
  have HUA := Lib.hid ua
  have HUB := Lib.hid ub
  have HDA := Lib.hid da
  clear x0 x1 x2 x3 x4 x5 x6 x7 y0 y1 y2 y3 y4 y5 y6 y7 c0 c1 ha3 hb3 hE4 hE5 hX3 ua ub da
  obtain ⟨x0, x1, x2, x3, x4, x5, x6, x7⟩ := d0.ro
  obtain ⟨C, hC⟩ : ∃ C, C = bestC (cellOf a.cols name) G := ⟨_, rfl⟩
  obtain ⟨O, hO⟩ : ∃ O, O = bestB (cellOf a.cols name) G := ⟨_, rfl⟩
  have HC := Lib.hid hC
  have HO := Lib.hid hO
  clear hC hO
  go_wp2_with fail
  refine (best_any a va part name w5 ha5).mono ?_
  rw [← HG.out, ← HC.out, ← HO.out]
  rintro e w6 ⟨rfl, hE6⟩
  have hX6 := hX5.trans hE6
  have e0 := d0.ext hE6
  have e1 := d1.ext hE6
  have ha6 := ha5.ext hE6
  have hb6 := hb5.ext hE6
  clear x0 x1 x2 x3 x4 x5 x6 x7 d0 d1 ha5 hb5 hE6 hX5
  go_wp2_with (((guard_target =~ wpList _ _ _ (Oper.mk none (Op.store _ (Operand.tmp 13) (Operand.tmp 76)) _ _ _ _ :: _) _ _); go_must (refine storeBox rfl 23 (.tmp 13) (.tmp 76) rfl (w6.heap.size) _ _ _ (by rfl) (by rfl) ((BoxAt.made w6 (cl4 zeroCl) 23)) (by kernel_rfl) (by rfl) (by simp [Value.oneCell']) ?_); intro w7 c7 g7); have hX67 : Ext w6 w7 := ((Ext.refl w6).alloc _).grown g7 (fun q hq => by cases hq; exact Nat.le_refl _); have f7 : BoxAt w7 w6.heap.size (cl4 C) 23 := c7; obtain ⟨x0, x1, x2, x3, x4, x5, x6, x7⟩ := (e0.ext hX67).ro)
  have hX7 := hX6.trans hX67
  have f0 := e0.ext hX67
  have f1 := e1.ext hX67
  have ha7 := ha6.ext hX67
  have hb7 := hb6.ext hX67
  obtain ⟨q13, hq13⟩ : ∃ q, q = w6.heap.size := ⟨_, rfl⟩
  rw [← hq13] at f7 ⊢
  clear e0 e1 ha6 hb6 hX67 hX6 c7 g7 hq13
  refine (best7_any a va part name w7 ha7).mono ?_
  rw [← HG.out, ← HC.out, ← HO.out]
  rintro e w8 ⟨rfl, hE8⟩
  have hX8 := hX7.trans hE8
  have h0 := f0.ext hE8
  have h1 := f1.ext hE8
  have h7 := f7.ext hE8
  have ha8 := ha7.ext hE8
  have hb8 := hb7.ext hE8
  clear x0 x1 x2 x3 x4 x5 x6 x7 f0 f1 f7 ha7 hb7 hE8 hX7
  go_wp2_with (((guard_target =~ wpList _ _ _ (Oper.mk none (Op.store _ (Operand.tmp 15) (Operand.tmp 83)) _ _ _ _ :: _) _ _); go_must (refine storeBox rfl 23 (.tmp 15) (.tmp 83) rfl (w8.heap.size) _ _ _ (by rfl) (by rfl) ((BoxAt.made w8 (cl4 zeroCl) 23)) (by kernel_rfl) (by rfl) (by simp [Value.oneCell']) ?_); intro w9 c9 g9); have hX89 : Ext w8 w9 := ((Ext.refl w8).alloc _).grown g9 (fun q hq => by cases hq; exact Nat.le_refl _); have f9 : BoxAt w9 w8.heap.size (cl4 C) 23 := c9)
  have hX9 := hX8.trans hX89
  have k0 := h0.ext hX89
  have k1 := h1.ext hX89
  have k7 := h7.ext hX89
  have ha9 := ha8.ext hX89
  have hb9 := hb8.ext hX89
  obtain ⟨q15, hq15⟩ : ∃ q, q = w8.heap.size := ⟨_, rfl⟩
  rw [← hq15] at f9 ⊢
  clear h0 h1 h7 ha8 hb8 hX89 hX8 c9 g9 hq15
  obtain ⟨x0, x1, x2, x3, x4, x5, x6, x7⟩ := k0.ro
  obtain ⟨y0, y1, y2, y3, y4, y5, y6, y7⟩ := k1.ro
  obtain ⟨r0, r1, r2, r3⟩ := k7.cl
  obtain ⟨s0, s1, s2, s3⟩ := f9.cl
  obtain ⟨J, hJ⟩ : ∃ J, J = joinRo a b := ⟨_, rfl⟩
  have hJ2 : J = foldRo a b := by rw [hJ, foldRo_join HUA.out HUB.out]
  have HJ := Lib.hid hJ
  have HJ2 := Lib.hid hJ2
  obtain ⟨N, hN⟩ : ∃ N, N = cellOf a.cols name := ⟨_, rfl⟩
  have HN := Lib.hid hN
  obtain ⟨S, hS⟩ : ∃ S, S = seenCos a.cols G now := ⟨_, rfl⟩
  have HS := Lib.hid hS
  obtain ⟨I, hI⟩ : ∃ I, I = isB a G now strict := ⟨_, rfl⟩
  have HI := Lib.hid hI
  have hEC : eqB C C = true := eqB_true rfl
  have hEN : eqB N N = true := eqB_true rfl
  have hEJ : eqB J J = true := eqB_true rfl
  have hES : eqB S S = true := eqB_true rfl
  have HEC := Lib.hid hEC
  have HEN := Lib.hid hEN
  have HEJ := Lib.hid hEJ
  have HES := Lib.hid hES
  clear hJ hJ2 hN hS hI hEC hEN hEJ hES k0 k1 k7 f9
  go_wp2_with fail
  refine wp_region_tab 56 [(2, fun v y => ∃ v', v = (.agg #[.string J.key, .string J.live.val, .bool J.live.dead, .int .i64 J.live.at_, .int .i64 J.live.fin, .int .i64 J.gone, .int .i64 J.shade, v']) ∧ ColsIn y v' J.cols), (5, fun v y => ∃ v', v = (.agg #[.string J.key, .string J.live.val, .bool J.live.dead, .int .i64 J.live.at_, .int .i64 J.live.fin, .int .i64 J.gone, .int .i64 J.shade, v']) ∧ ColsIn y v' J.cols), (6, fun v _ => v = .bool true), (11, fun v _ => v = .bool true), (22, fun v _ => v = (.agg #[.string N.val, .bool N.dead, .int .i64 N.at_, .int .i64 N.fin])), (25, fun v _ => v = (.agg #[.string N.val, .bool N.dead, .int .i64 N.at_, .int .i64 N.fin])), (26, fun v _ => v = .bool true), (32, fun v y => ColsIn y v S), (36, fun v y => ColsIn y v S), (37, fun v _ => v = .bool true), (44, fun v _ => v = .bool I), (49, fun v _ => v = .bool I), (53, fun v _ => v = .bool true)] (by kernel_rfl) (by kernel_rfl) (by kernel_rfl) ⟨fun _ _ _ hE ⟨v', e, h⟩ => ⟨v', e, h.ext hE⟩, fun _ _ _ hE ⟨v', e, h⟩ => ⟨v', e, h.ext hE⟩, stays_eq _, stays_eq _, stays_eq _, stays_eq _, stays_eq _, fun _ _ _ hE h => h.ext hE, fun _ _ _ hE h => h.ext hE, stays_eq _, stays_eq _, stays_eq _, stays_eq _, trivial⟩ ?_
  replace x0 := held x0
  replace x1 := held x1
  replace x2 := held x2
  replace x3 := held x3
  replace x4 := held x4
  replace x5 := held x5
  replace x6 := held x6
  replace x7 := held x7
  replace y0 := held y0
  replace y1 := held y1
  replace y2 := held y2
  replace y3 := held y3
  replace y4 := held y4
  replace y5 := held y5
  replace y6 := held y6
  replace y7 := held y7
  replace r0 := held r0
  replace r1 := held r1
  replace r2 := held r2
  replace r3 := held r3
  replace s0 := held s0
  replace s1 := held s1
  replace s2 := held s2
  replace s3 := held s3
  refine rg_quiet rfl rfl rfl rfl ?_; intro K hK; go_big_quiet_op; go_big_quiet_on
  refine rg_quiet rfl rfl rfl rfl ?_; intro K hK; go_big_quiet_op; go_big_quiet_on
  refine rg_fact [] rfl rfl rfl (by kernel_rfl) (fun y hY hf => ?_) (fun v2 y2 hE2 hG2 h2 => ?_)
  · go_simp
    refine (rowJoin_any a b va vb y (ha9.ext hY) (hb9.ext hY) (by omega)).mono ?_
    rw [← HJ.out]
    rintro e y' ⟨v', rfl, hown', hy⟩
    exact ⟨_, rfl, rg_doneR hY hy ⟨v', rfl, cols_own hown'⟩⟩
  obtain ⟨v2, rfl, h2⟩ := h2
  obtain ⟨a2, c2, rfl⟩ := h2.shape
  clear hE2 hG2 h2
  simp only [Act.put, List.setIfInBounds_toArray, List.set_cons_zero, List.set_cons_succ]
  refine rg_quiet rfl rfl rfl rfl ?_; intro K hK; go_big_quiet_op; go_big_quiet_on
  refine rg_quiet rfl rfl rfl rfl ?_; intro K hK; go_big_quiet_op; go_big_quiet_on
  refine rg_fact [] rfl rfl rfl (by kernel_rfl) (fun y hY hf => ?_) (fun v5 y5 hE5 hG5 h5 => ?_)
  · go_simp
    refine (join7_in a b va vb y (ha9.ext hY) (hb9.ext hY) (by omega)).mono ?_
    rw [← HJ2.out]
    rintro e y' ⟨v', rfl, hct, hy⟩
    exact ⟨_, rfl, rg_doneR hY hy ⟨v', rfl, hct.cols⟩⟩
  obtain ⟨v5, rfl, h5⟩ := h5
  obtain ⟨a5, c5, rfl⟩ := h5.shape
  clear hE5 hG5 h5
  simp only [Act.put, List.setIfInBounds_toArray, List.set_cons_zero, List.set_cons_succ]
  refine rg_val [2, 5] rfl rfl rfl (by kernel_rfl) (fun y hY hf => ?_) ?_
  · obtain ⟨u2, e2, k2⟩ := (hf 2 (by simp)).1.2 rfl
    obtain ⟨u5, e5, k5⟩ := (hf 5 (by simp)).2 rfl
    cases e2
    cases e5
    go_simp
    exact (same7_any J J _ _ y k2 k5).mono fun e w' ⟨he, hw⟩ => ⟨_, he, rg_done hY hw (by rw [HEJ.out])⟩
  simp only [Act.put, List.setIfInBounds_toArray, List.set_cons_zero, List.set_cons_succ]
  refine rg_quiet rfl rfl rfl rfl ?_; intro K hK; go_big_quiet_op; go_big_quiet_on
  refine rg_quiet rfl rfl rfl rfl ?_; intro K hK; go_big_quiet_op; go_big_quiet_on
  refine rg_quiet rfl rfl rfl rfl ?_; intro K hK; go_big_quiet_op; go_big_quiet_on
  refine rg_quiet rfl rfl rfl rfl ?_; intro K hK; go_big_quiet_op; go_big_quiet_on
  refine rg_val [] rfl rfl rfl (by kernel_rfl) (fun w1 hE hf => ?_) ?_
  · go_simp
    exact (same6_any C C w1).mono fun e w' ⟨he, hw⟩ => ⟨_, he, rg_done hE hw (by rw [HEC.out])⟩
  simp only [Act.put, List.setIfInBounds_toArray, List.set_cons_zero, List.set_cons_succ]
  refine rg_quiet rfl rfl rfl rfl ?_; intro K hK; go_big_quiet_op; go_big_quiet_on
  refine rg_quiet rfl rfl rfl rfl ?_; intro K hK; go_big_quiet_op; go_big_quiet_on
  refine rg_quiet rfl rfl rfl rfl ?_; intro K hK; go_big_quiet_op; go_big_quiet_on
  refine rg_quiet rfl rfl rfl rfl ?_; intro K hK; go_big_quiet_op; go_big_quiet_on
  refine rg_quiet rfl rfl rfl rfl ?_; intro K hK; go_big_quiet_op; go_big_quiet_on
  refine rg_quiet rfl rfl rfl rfl ?_; intro K hK; go_big_quiet_op; go_big_quiet_on
  refine rg_quiet rfl rfl rfl rfl ?_; intro K hK; go_big_quiet_op; go_big_quiet_on
  refine rg_quiet rfl rfl rfl rfl ?_; intro K hK; go_big_quiet_op; go_big_quiet_on
  refine rg_quiet rfl rfl rfl rfl ?_; intro K hK; go_big_quiet_op; go_big_quiet_on
  refine rg_quiet rfl rfl rfl rfl ?_; intro K hK; go_big_quiet_op; go_big_quiet_on
  refine rg_val [] rfl rfl rfl (by kernel_rfl) (fun w1 hE hf => ?_) ?_
  · go_simp
    exact (rcell_any a va name w1 (ha9.ext hE)).mono fun e w' ⟨he, hw⟩ => ⟨_, he, rg_done hE hw (by rw [HN.out])⟩
  simp only [Act.put, List.setIfInBounds_toArray, List.set_cons_zero, List.set_cons_succ]
  refine rg_quiet rfl rfl rfl rfl ?_; intro K hK; go_big_quiet_op; go_big_quiet_on
  refine rg_quiet rfl rfl rfl rfl ?_; intro K hK; go_big_quiet_op; go_big_quiet_on
  refine rg_val [] rfl rfl rfl (by kernel_rfl) (fun w1 hE hf => ?_) ?_
  · go_simp
    exact (cell7_any a va name w1 (ha9.ext hE)).mono fun e w' ⟨he, hw⟩ => ⟨_, he, rg_done hE hw (by rw [HN.out])⟩
  simp only [Act.put, List.setIfInBounds_toArray, List.set_cons_zero, List.set_cons_succ]
  refine rg_val [] rfl rfl rfl (by kernel_rfl) (fun w1 hE hf => ?_) ?_
  · go_simp
    exact (same6_any N N w1).mono fun e w' ⟨he, hw⟩ => ⟨_, he, rg_done hE hw (by rw [HEN.out])⟩
  simp only [Act.put, List.setIfInBounds_toArray, List.set_cons_zero, List.set_cons_succ]
  refine rg_quiet rfl rfl rfl rfl ?_; intro K hK; go_big_quiet_op; go_big_quiet_on
  refine rg_quiet rfl rfl rfl rfl ?_; intro K hK; go_big_quiet_op; go_big_quiet_on
  refine rg_quiet rfl rfl rfl rfl ?_; intro K hK; go_big_quiet_op; go_big_quiet_on
  refine rg_quiet rfl rfl rfl rfl ?_; intro K hK; go_big_quiet_op; go_big_quiet_on
  refine rg_quiet rfl rfl rfl rfl ?_; intro K hK; go_big_quiet_op; go_big_quiet_on
  refine rg_fact [] rfl rfl rfl (by kernel_rfl) (fun y hY hf => ?_) (fun v32 y32 hE32 hG32 h32 => ?_)
  · go_simp
    refine (rwseen_any a va part now y (ha9.ext hY) (by omega)).mono ?_
    rw [← HG.out, ← HS.out]
    rintro e y' ⟨v', he, hown', hy⟩
    exact ⟨_, he, rg_doneR hY hy (cols_own hown')⟩
  obtain ⟨a32, c32, rfl⟩ := h32.shape
  clear hE32 hG32 h32
  simp only [Act.put, List.setIfInBounds_toArray, List.set_cons_zero, List.set_cons_succ]
  refine rg_quiet rfl rfl rfl rfl ?_; intro K hK; go_big_quiet_op; go_big_quiet_on
  refine rg_quiet rfl rfl rfl rfl ?_; intro K hK; go_big_quiet_op; go_big_quiet_on
  refine rg_quiet rfl rfl rfl rfl ?_; intro K hK; go_big_quiet_op; go_big_quiet_on
  refine rg_fact [] rfl rfl rfl (by kernel_rfl) (fun y hY hf => ?_) (fun v36 y36 hE36 hG36 h36 => ?_)
  · go_simp
    refine (seen7_any a va part now y (ha9.ext hY) (by omega) HDA.out).mono ?_
    rw [← HG.out, ← HS.out]
    rintro e y' ⟨v', he, hown', hy⟩
    exact ⟨_, he, rg_doneR hY hy (cols_own hown')⟩
  obtain ⟨a36, c36, rfl⟩ := h36.shape
  clear hE36 hG36 h36
  simp only [Act.put, List.setIfInBounds_toArray, List.set_cons_zero, List.set_cons_succ]
  refine rg_val [32, 36] rfl rfl rfl (by kernel_rfl) (fun y hY hf => ?_) ?_
  · have k2 : ColsIn y (.slice a32 S.length c32) S := (hf 32 (by simp)).1.2 rfl
    have k5 : ColsIn y (.slice a36 S.length c36) S := (hf 36 (by simp)).2 rfl
    go_simp
    exact (sameCols_any _ _ S S y k2 k5).mono fun e w' ⟨he, hw⟩ => ⟨_, he, rg_done hY hw (by rw [HES.out])⟩
  simp only [Act.put, List.setIfInBounds_toArray, List.set_cons_zero, List.set_cons_succ]
  refine rg_quiet rfl rfl rfl rfl ?_; intro K hK; go_big_quiet_op; go_big_quiet_on
  refine rg_quiet rfl rfl rfl rfl ?_; intro K hK; go_big_quiet_op; go_big_quiet_on
  refine rg_quiet rfl rfl rfl rfl ?_; intro K hK; go_big_quiet_op; go_big_quiet_on
  refine rg_quiet rfl rfl rfl rfl ?_; intro K hK; go_big_quiet_op; go_big_quiet_on
  refine rg_quiet rfl rfl rfl rfl ?_; intro K hK; go_big_quiet_op; go_big_quiet_on
  refine rg_quiet rfl rfl rfl rfl ?_; intro K hK; go_big_quiet_op; go_big_quiet_on
  refine rg_val [] rfl rfl rfl (by kernel_rfl) (fun w1 hE hf => ?_) ?_
  · go_simp
    exact (ris_any a va part now strict w1 (ha9.ext hE) (by omega)).mono fun e w' ⟨he, hw⟩ => ⟨_, he, rg_done hE hw (by rw [← HG.out, HI.out])⟩
  simp only [Act.put, List.setIfInBounds_toArray, List.set_cons_zero, List.set_cons_succ]
  refine rg_quiet rfl rfl rfl rfl ?_; intro K hK; go_big_quiet_op; go_big_quiet_on
  refine rg_quiet rfl rfl rfl rfl ?_; intro K hK; go_big_quiet_op; go_big_quiet_on
  refine rg_quiet rfl rfl rfl rfl ?_; intro K hK; go_big_quiet_op; go_big_quiet_on
  refine rg_quiet rfl rfl rfl rfl ?_; intro K hK; go_big_quiet_op; go_big_quiet_on
  refine rg_val [] rfl rfl rfl (by kernel_rfl) (fun w1 hE hf => ?_) ?_
  · go_simp
    exact (is7_any a va part now strict w1 (ha9.ext hE) (by omega) HDA.out).mono fun e w' ⟨he, hw⟩ => ⟨_, he, rg_done hE hw (by rw [← HG.out, HI.out])⟩
  simp only [Act.put, List.setIfInBounds_toArray, List.set_cons_zero, List.set_cons_succ]
  refine rg_quiet rfl rfl rfl rfl ?_; intro K hK; go_big_quiet_op; go_big_quiet_on
  refine rg_quiet rfl rfl rfl rfl ?_; intro K hK; go_big_quiet_op; go_big_quiet_on
  refine rg_quiet rfl rfl rfl rfl ?_; intro K hK; go_big_quiet_op; go_big_quiet_on
  refine rg_val [] rfl rfl rfl (by kernel_rfl) (fun w1 hE hf => ?_) ?_
  · go_simp
    exact (rawake_any w1).mono fun e w' ⟨he, hw⟩ => ⟨_, he, rg_done hE hw (rfl)⟩
  simp only [Act.put, List.setIfInBounds_toArray, List.set_cons_zero, List.set_cons_succ]
  refine rg_quiet rfl rfl rfl rfl ?_; intro K hK; go_big_quiet_op; go_big_quiet_on
  refine rg_quiet rfl rfl rfl rfl ?_; intro K hK; go_big_quiet_op; go_big_quiet_on
  refine rel_nil fun w10 hE10 _ => ?_
  clear x0 x1 x2 x3 x4 x5 x6 x7 y0 y1 y2 y3 y4 y5 y6 y7 r0 r1 r2 r3 s0 s1 s2 s3
  go_wp2_with fail
  go_ret
  exact ⟨rfl, hX9.trans hE10⟩
theorem walk_rowAll (v0 v1 : Value) (part now : Int) (strict : Bool) (name : ByteArray) (W : World) (w0 : ∃ (r : Ro) (u : Value), v0 = (.agg #[.string r.key, .string r.live.val, .bool r.live.dead, .int .i64 r.live.at_, .int .i64 r.live.fin, .int .i64 r.gone, .int .i64 r.shade, u]) ∧ ColsIn W u r.cols) (w1 : ∃ (r : Ro) (u : Value), v1 = (.agg #[.string r.key, .string r.live.val, .bool r.live.dead, .int .i64 r.live.at_, .int .i64 r.live.fin, .int .i64 r.gone, .int .i64 r.shade, u]) ∧ ColsIn W u r.cols)
    (_ : (Lit.int .i64 part).wf = true) (_ : (Lit.int .i64 now).wf = true) (_ : name.size ≤ maxLen) (hT : TabU W) :
    Calls Tryd.prog 5 #[v0, v1, .int .i64 part, .int .i64 now, .bool strict, .string name] W fun e w' => e = .returned (.bool true) ∧ Ext W w' := by
  obtain ⟨a, va, rfl, ha⟩ := w0
  obtain ⟨b, vb, rfl, hb⟩ := w1
  exact law_rowAll a b va vb part now strict name W ha hb hT
end Go.Proofs.YteamiiekpjoclaaDoor

/- RowJoins: any three rows: the law's walk. -/
namespace Go.Proofs.YteamiiekpjoclaaDoor
open Go Go.RowKit
attribute [local go_sem] yields yUpon ro8 cl4

theorem BoxAt.off {w : World} {p : Nat} {cs : Array Value} {e : TypeId} (h : BoxAt w p cs e) (q : Addr) (hq : p ≠ q.block) (u : Value) : BoxAt (w.setCell q u) p cs e := by
  unfold BoxAt at *
  rw [Deep.blk_setCell_other _ _ _ _ hq]; exact h
theorem BoxAt.key {w : World} {p : Nat} {r : Ro} {v : Value} {T : TypeId} (h : BoxAt w p (ro8 r v) T) (k : ByteArray) : BoxAt (w.setCell ⟨p, 0, none⟩ (.string k)) p (ro8 { r with key := k } v) T := h.set 0 (.string k)
/-- The worlds in which b and c are given the key of a. -/
structure KJ (w : World) (n : Nat) (a b c : Ro) (va vb vc : Value) (y : World) : Prop where
  ext : Ext w y
  ba : BoxAt y n (ro8 a va) 26
  bb : ∃ k, BoxAt y (n + 1) (ro8 { b with key := k } vb) 26
  bc : ∃ k, BoxAt y (n + 1 + 1) (ro8 { c with key := k } vc) 26
def KE (n : Nat) (j : Nat) (x y : World) : Prop := (j ≠ 5 → ∀ cs, BoxAt x (n + 1) cs 26 → BoxAt y (n + 1) cs 26) ∧ (j ≠ 7 → ∀ cs, BoxAt x (n + 1 + 1) cs 26 → BoxAt y (n + 1 + 1) cs 26)
theorem join_names {l m : List Co} {n : Nat} (hl : ∀ c ∈ l, c.name.size ≤ n) (hm : ∀ c ∈ m, c.name.size ≤ n) : ∀ c ∈ mergeCo l m, c.name.size ≤ n := fun c hc => by
  rcases mem_mergeCo hc with (h | h) | ⟨a, ha, b, hb, _, rfl⟩
  · exact hl c h
  · exact hm c h
  · exact hl a ha

theorem rowJoin_self (a : Ro) (va : Value) (w : World) (ha : ColsIn w va a.cols) (h : a = joinRo a a) (hl : a.cols.length ≤ 1000) :
    Calls Tryd.prog 13 #[(.agg #[.string a.key, .string a.live.val, .bool a.live.dead, .int .i64 a.live.at_, .int .i64 a.live.fin, .int .i64 a.gone, .int .i64 a.shade, va]), (.agg #[.string a.key, .string a.live.val, .bool a.live.dead, .int .i64 a.live.at_, .int .i64 a.live.fin, .int .i64 a.gone, .int .i64 a.shade, va])] w fun e w' => ∃ v', e = .returned (.agg #[.string a.key, .string a.live.val, .bool a.live.dead, .int .i64 a.live.at_, .int .i64 a.live.fin, .int .i64 a.gone, .int .i64 a.shade, v']) ∧ w'.ownsRow w.heap.size 80 5 v' a.cols.length (coCells a.cols) ∧ Ext w w' := by
  have := rowJoin_any a a va va w ha ha (by omega)
  rw [← h] at this
  exact this
set_option maxRecDepth 100000 in
set_option maxHeartbeats 16000000 in
theorem law_rowJoins (a b c : Ro) (va vb vc : Value) (w : World) (ha : ColsIn w va a.cols) (hb : ColsIn w vb b.cols) (hc : ColsIn w vc c.cols) (hT : TabU w) :
    Calls Tryd.prog 3 #[(.agg #[.string a.key, .string a.live.val, .bool a.live.dead, .int .i64 a.live.at_, .int .i64 a.live.fin, .int .i64 a.gone, .int .i64 a.shade, va]), (.agg #[.string b.key, .string b.live.val, .bool b.live.dead, .int .i64 b.live.at_, .int .i64 b.live.fin, .int .i64 b.gone, .int .i64 b.shade, vb]), (.agg #[.string c.key, .string c.live.val, .bool c.live.dead, .int .i64 c.live.at_, .int .i64 c.live.fin, .int .i64 c.gone, .int .i64 c.shade, vc])] w fun e w' => e = .returned (.bool true) ∧ Ext w w' := by
  obtain ⟨b0, b1, b2, hE0⟩ := boxes3 w (ro8 a va) (ro8 b vb) (ro8 c vc) 26 26 26
  have ha0 := ha.ext hE0
  have hb0 := hb.ext hE0
  have hc0 := hc.ext hE0
  have hT0 := hT.ext hE0
  go_enter Tryd.func3, Tryd.ntmps3
  go_wp2_with fail
  refine (fewRow_any a va _ ha0).mono ?_
  rintro e w1 ⟨F, rfl, hF, hE1⟩
  cases F
  · clear hF
    go_wp2_with fail
    refine (rawake_any w1).mono ?_
    rintro e w10 ⟨rfl, hE10⟩
    go_wp2_with fail
    go_ret
    exact ⟨rfl, (hE0.trans hE1).trans hE10⟩
  have hfa := hF rfl
  have hX1 := hE0.trans hE1
  clear hF
  obtain ⟨z0, z1, z2, z3, z4, z5, z6, z7⟩ := (b1.ext hE1).ro
  go_wp2_with fail
  refine (fewRow_any b vb w1 (hb0.ext hE1)).mono ?_
  rintro e w2 ⟨F, rfl, hF, hE2⟩
  cases F
  · clear hF
    go_wp2_with fail
    refine (rawake_any w2).mono ?_
    rintro e w10 ⟨rfl, hE10⟩
    go_wp2_with fail
    go_ret
    exact ⟨rfl, (hX1.trans hE2).trans hE10⟩
  have hfb := hF rfl
  have hX2 := hX1.trans hE2
  clear hF z0 z1 z2 z3 z4 z5 z6 z7
  obtain ⟨z0, z1, z2, z3, z4, z5, z6, z7⟩ := (b2.ext (hE1.trans hE2)).ro
  go_wp2_with fail
  refine (fewRow_any c vc w2 (hc0.ext (hE1.trans hE2))).mono ?_
  rintro e w3 ⟨F, rfl, hF, hE3⟩
  cases F
  · clear hF
    go_wp2_with fail
    refine (rawake_any w3).mono ?_
    rintro e w10 ⟨rfl, hE10⟩
    go_wp2_with fail
    go_ret
    exact ⟨rfl, (hX2.trans hE3).trans hE10⟩
  have hfc := hF rfl
  have hX3 := hX2.trans hE3
  have hY := (hE1.trans hE2).trans hE3
  have c0 := b0.ext hY
  have c1 := b1.ext hY
  have c2 := b2.ext hY
  have ha3 := ha0.ext hY
  have hb3 := hb0.ext hY
  have hc3 := hc0.ext hY
  have hT3 := hT0.ext hY
  have na : ∀ x ∈ a.cols, x.name.size ≤ 1000000 := fun x hx => by have := (hfa.each x hx).1; omega
  have nb : ∀ x ∈ b.cols, x.name.size ≤ 1000000 := fun x hx => by have := (hfb.each x hx).1; omega
  have nc : ∀ x ∈ c.cols, x.name.size ≤ 1000000 := fun x hx => by have := (hfc.each x hx).1; omega
  have hal := hfa.cols
  have hbl := hfb.cols
  have hcl := hfc.cols
  have HNA := Lib.hid na
  have HNB := Lib.hid nb
  have HNC := Lib.hid nc
  obtain ⟨PA, hPA⟩ : ∃ P, P = rwB a := ⟨_, rfl⟩
  obtain ⟨PB, hPB⟩ : ∃ P, P = rwB b := ⟨_, rfl⟩
  obtain ⟨PC, hPC⟩ : ∃ P, P = rwB c := ⟨_, rfl⟩
  have HPA := Lib.hid hPA
  have HPB := Lib.hid hPB
  have HPC := Lib.hid hPC
  clear hF z0 z1 z2 z3 z4 z5 z6 z7 hY hE1 hE2 hE3 hX1 hX2 b0 b1 b2 ha0 hb0 hc0 hT0 hE0 na nb nc hfa hfb hfc hPA hPB hPC
  obtain ⟨z0, z1, z2, z3, z4, z5, z6, z7⟩ := c0.ro
  go_wp2_with fail
  refine (rcheck_gen a va w3 ha3 HNA.out hT3).mono ?_
  rw [← HPA.out]
  rintro e w4 ⟨rfl, hE4⟩
  cases PA
  · go_wp2_with fail
    refine (rawake_any w4).mono ?_
    rintro e w10 ⟨rfl, hE10⟩
    go_wp2_with fail
    go_ret
    exact ⟨rfl, (hX3.trans hE4).trans hE10⟩
  have hX4 := hX3.trans hE4
  clear z0 z1 z2 z3 z4 z5 z6 z7
  obtain ⟨z0, z1, z2, z3, z4, z5, z6, z7⟩ := (c1.ext hE4).ro
  go_wp2_with fail
  refine (rcheck_gen b vb w4 (hb3.ext hE4) HNB.out (hT3.ext hE4)).mono ?_
  rw [← HPB.out]
  rintro e w5 ⟨rfl, hE5⟩
  cases PB
  · go_wp2_with fail
    refine (rawake_any w5).mono ?_
    rintro e w10 ⟨rfl, hE10⟩
    go_wp2_with fail
    go_ret
    exact ⟨rfl, (hX4.trans hE5).trans hE10⟩
  have hX5 := hX4.trans hE5
  have hY5 := hE4.trans hE5
  clear z0 z1 z2 z3 z4 z5 z6 z7
  obtain ⟨z0, z1, z2, z3, z4, z5, z6, z7⟩ := (c2.ext hY5).ro
  go_wp2_with fail
  refine (rcheck_gen c vc w5 (hc3.ext hY5) HNC.out (hT3.ext hY5)).mono ?_
  rw [← HPC.out]
  rintro e w6 ⟨rfl, hE6⟩
  cases PC
  · go_wp2_with fail
    refine (rawake_any w6).mono ?_
    rintro e w10 ⟨rfl, hE10⟩
    go_wp2_with fail
    go_ret
    exact ⟨rfl, (hX5.trans hE6).trans hE10⟩
  have hX6 := hX5.trans hE6
  have hY6 := hY5.trans hE6
  have d0 := c0.ext hY6
  have d1 := c1.ext hY6
  have d2 := c2.ext hY6
  have ua := (csB_up (rwB_parts HPA.out.symm).2).1
  have ub := (csB_up (rwB_parts HPB.out.symm).2).1
  have uc := (csB_up (rwB_parts HPC.out.symm).2).1
  clear z0 z1 z2 z3 z4 z5 z6 z7 c0 c1 c2 ha3 hb3 hc3 hT3 hE4 hE5 hE6 hY5 hY6 hX3 hX4 hX5
  go_wp2_with fail
  refine wp_region_relE (KJ w w.heap.size a b c va vb vc) (KE w.heap.size) (TabP.at [(1, fun _ v _ => v = .string a.key), (3, fun _ v _ => v = .string a.key), (5, fun _ _ y => BoxAt y (w.heap.size + 1) (ro8 { b with key := a.key } vb) 26), (7, fun _ _ y => BoxAt y (w.heap.size + 1 + 1) (ro8 { c with key := a.key } vc) 26)])
    (TabP.staysE ⟨fun _ _ _ _ _ _ _ h => h, fun _ _ _ _ _ _ _ h => h, fun _ _ hj _ _ _ hR h => hR.1 hj _ h, fun _ _ hj _ _ _ hR h => hR.2 hj _ h, trivial⟩)
    8 (by kernel_rfl) (by kernel_rfl) (by kernel_rfl) ⟨hX6.trans (Ext.refl w6).drew, d0.ext (Ext.refl w6).drew, ⟨_, d1.ext (Ext.refl w6).drew⟩, ⟨_, d2.ext (Ext.refl w6).drew⟩⟩ ?_
  clear d0 d1 d2 hX6
  refine relE_quiet rfl rfl rfl rfl ?_; intro K hK; go_big_quiet_op; (first | refine ⟨_, fun _ _ => rfl, hK _ ?_⟩ | refine hK _ ?_); clear hK K
  refine relE_val [] rfl rfl rfl (by kernel_rfl) (fun y hy hf => ?_) ?_
  · have x0 := hy.ba.ro.1
    go_simp
    exact ⟨hy, ⟨fun _ _ h => h, fun _ _ h => h⟩, rfl⟩
  simp only [Act.put, List.setIfInBounds_toArray, List.set_cons_zero, List.set_cons_succ]
  refine relE_quiet rfl rfl rfl rfl ?_; intro K hK; go_big_quiet_op; (first | refine ⟨_, fun _ _ => rfl, hK _ ?_⟩ | refine hK _ ?_); clear hK K
  refine relE_val [] rfl rfl rfl (by kernel_rfl) (fun y hy hf => ?_) ?_
  · have x0 := hy.ba.ro.1
    go_simp
    exact ⟨hy, ⟨fun _ _ h => h, fun _ _ h => h⟩, rfl⟩
  simp only [Act.put, List.setIfInBounds_toArray, List.set_cons_zero, List.set_cons_succ]
  refine relE_quiet rfl rfl rfl rfl ?_; intro K hK; go_big_quiet_op; (first | refine ⟨_, fun _ _ => rfl, hK _ ?_⟩ | refine hK _ ?_); clear hK K
  refine relE_fact [] rfl rfl rfl (by kernel_rfl) (fun y hy hf => ?_) (fun v5 z5 hC5 hG5 h5 => ?_)
  · obtain ⟨kb, hbb⟩ := hy.bb
    obtain ⟨kc, hbc⟩ := hy.bc
    have x0 := hbb.ro.1
    have f0 := hbb.free 0
    go_simp
    exact ⟨⟨hy.ext.setCell (by show w.heap.size ≤ w.heap.size + 1; omega) _, hy.ba.off _ (by show w.heap.size ≠ w.heap.size + 1; omega) _, ⟨_, hbb.key a.key⟩, ⟨kc, hbc.off _ (by show w.heap.size + 1 + 1 ≠ w.heap.size + 1; omega) _⟩⟩, ⟨fun h => absurd rfl h, fun _ _ h => h.off _ (by show w.heap.size + 1 + 1 ≠ w.heap.size + 1; omega) _⟩, hbb.key a.key⟩
  clear hC5 hG5 h5
  simp only [Act.put]
  refine relE_quiet rfl rfl rfl rfl ?_; intro K hK; go_big_quiet_op; (first | refine ⟨_, fun _ _ => rfl, hK _ ?_⟩ | refine hK _ ?_); clear hK K
  refine relE_fact [] rfl rfl rfl (by kernel_rfl) (fun y hy hf => ?_) (fun v7 z7 hC7 hG7 h7 => ?_)
  · obtain ⟨kb, hbb⟩ := hy.bb
    obtain ⟨kc, hbc⟩ := hy.bc
    have x0 := hbc.ro.1
    have f0 := hbc.free 0
    go_simp
    exact ⟨⟨hy.ext.setCell (by show w.heap.size ≤ w.heap.size + 1 + 1; omega) _, hy.ba.off _ (by show w.heap.size ≠ w.heap.size + 1 + 1; omega) _, ⟨kb, hbb.off _ (by show w.heap.size + 1 ≠ w.heap.size + 1 + 1; omega) _⟩, ⟨_, hbc.key a.key⟩⟩, ⟨fun _ _ h => h.off _ (by show w.heap.size + 1 ≠ w.heap.size + 1 + 1; omega) _, fun h => absurd rfl h⟩, hbc.key a.key⟩
  clear hC7 hG7 h7
  simp only [Act.put]
  refine relE_nil fun w7 hC7 hG7 => ?_
  have d1 := (hG7 5).1.2 rfl
  have d2 := (hG7 7).2 rfl
  have d0 := hC7.ba
  have hX7 := hC7.ext
  clear hC7 hG7
  obtain ⟨B, hB⟩ : ∃ B : Ro, B = { b with key := a.key } := ⟨_, rfl⟩
  obtain ⟨C, hC⟩ : ∃ C : Ro, C = { c with key := a.key } := ⟨_, rfl⟩
  have eB : B.cols = b.cols := by rw [hB]
  have eC : C.cols = c.cols := by rw [hC]
  have kB : a.key = B.key := by rw [hB]
  rw [← hB] at d1
  rw [← hC] at d2
  have ha7 := ha.ext hX7
  have hb7 := hb.ext hX7
  have hc7 := hc.ext hX7
  rw [← eB] at hb7
  rw [← eC] at hc7
  have HNB' : Hid (∀ x ∈ B.cols, x.name.size ≤ 1000000) := by rw [eB]; exact HNB
  have HNC' : Hid (∀ x ∈ C.cols, x.name.size ≤ 1000000) := by rw [eC]; exact HNC
  have hBl : B.cols.length ≤ 20 := by rw [eB]; exact hbl
  have hCl : C.cols.length ≤ 20 := by rw [eC]; exact hcl
  rw [← eB] at ub
  rw [← eC] at uc
  clear HNB HNC HPA HPB HPC hbl hcl eB eC hB hC ha hb hc
  obtain ⟨M, hM⟩ : ∃ M, M = joinRo a B := ⟨_, rfl⟩
  obtain ⟨D, hD⟩ : ∃ D, D = joinRo B C := ⟨_, rfl⟩
  obtain ⟨Z, hZ⟩ : ∃ Z, Z = joinRo M C := ⟨_, rfl⟩
  have um : Up kCo M.cols := by rw [hM]; exact up_joinRo ua ub
  have hM2 : M = foldRo a B := by rw [hM, foldRo_join ua ub]
  have hZ2 : Z = foldRo M C := by rw [hZ, foldRo_join um uc]
  have hM3 : M = joinRo B a := by rw [hM, joinRo_comm kB ua ub]
  have hZ3 : Z = joinRo a D := by rw [hZ, hM, hD, joinRo_assoc ua ub uc]
  have hM4 : M = joinRo M B := by rw [hM, joinRo_again ua ub]
  have hA : a = joinRo a a := (joinRo_self ua).symm
  have hMl : M.cols.length ≤ 40 := by have := mergeCo_len a.cols B.cols; rw [hM]; show (mergeCo a.cols B.cols).length ≤ 40; omega
  have hDl : D.cols.length ≤ 40 := by have := mergeCo_len B.cols C.cols; rw [hD]; show (mergeCo B.cols C.cols).length ≤ 40; omega
  have HNM : Hid (∀ x ∈ M.cols, x.name.size ≤ 1000000) := by rw [hM]; exact join_names HNA.out HNB'.out
  have HNZ : Hid (∀ x ∈ Z.cols, x.name.size ≤ 1000000) := by rw [hZ]; exact join_names HNM.out HNC'.out
  obtain ⟨X, hX⟩ : ∃ X, X = rwB Z := ⟨_, rfl⟩
  have HX := Lib.hid hX
  have HM := Lib.hid hM
  have HM2 := Lib.hid hM2
  have HM3 := Lib.hid hM3
  have HM4 := Lib.hid hM4
  have HZ := Lib.hid hZ
  have HZ2 := Lib.hid hZ2
  have HZ3 := Lib.hid hZ3
  have HD := Lib.hid hD
  have HA := Lib.hid hA
  have hEM : eqB M M = true := eqB_true rfl
  have hEZ : eqB Z Z = true := eqB_true rfl
  have hEA : eqB a a = true := eqB_true rfl
  have HEM := Lib.hid hEM
  have HEZ := Lib.hid hEZ
  have HEA := Lib.hid hEA
  clear hX hM hM2 hM3 hM4 hZ hZ2 hZ3 hD hA hEM hEZ hEA HNM ua ub uc um kB HNB' HNC' HNA hT
  obtain ⟨x0, x1, x2, x3, x4, x5, x6, x7⟩ := d0.ro
  obtain ⟨y0, y1, y2, y3, y4, y5, y6, y7⟩ := d1.ro
  obtain ⟨z0, z1, z2, z3, z4, z5, z6, z7⟩ := d2.ro
  go_wp2_with fail
  refine wp_region_tab 7 [(2, fun v y => ∃ v', v = (.agg #[.string M.key, .string M.live.val, .bool M.live.dead, .int .i64 M.live.at_, .int .i64 M.live.fin, .int .i64 M.gone, .int .i64 M.shade, v']) ∧ ColsIn y v' M.cols), (4, fun v y => ∃ v', v = (.agg #[.string Z.key, .string Z.live.val, .bool Z.live.dead, .int .i64 Z.live.at_, .int .i64 Z.live.fin, .int .i64 Z.gone, .int .i64 Z.shade, v']) ∧ ColsIn y v' Z.cols), (5, fun v _ => v = .bool X)] (by kernel_rfl) (by kernel_rfl) (by kernel_rfl) ⟨fun _ _ _ hE ⟨v', e, h⟩ => ⟨v', e, h.ext hE⟩, fun _ _ _ hE ⟨v', e, h⟩ => ⟨v', e, h.ext hE⟩, stays_eq _, trivial⟩ ?_
  replace x0 := held x0
  replace x1 := held x1
  replace x2 := held x2
  replace x3 := held x3
  replace x4 := held x4
  replace x5 := held x5
  replace x6 := held x6
  replace x7 := held x7
  replace y0 := held y0
  replace y1 := held y1
  replace y2 := held y2
  replace y3 := held y3
  replace y4 := held y4
  replace y5 := held y5
  replace y6 := held y6
  replace y7 := held y7
  replace z0 := held z0
  replace z1 := held z1
  replace z2 := held z2
  replace z3 := held z3
  replace z4 := held z4
  replace z5 := held z5
  replace z6 := held z6
  replace z7 := held z7
  refine rg_quiet rfl rfl rfl rfl ?_; intro K hK; go_big_quiet_op; go_big_quiet_on
  refine rg_quiet rfl rfl rfl rfl ?_; intro K hK; go_big_quiet_op; go_big_quiet_on
  refine rg_fact [] rfl rfl rfl (by kernel_rfl) (fun y hY hf => ?_) (fun v2 y2 hE2 hG2 h2 => ?_)
  · go_simp
    refine (join7_in a B va vb y (ha7.ext hY) (hb7.ext hY) (by omega)).mono ?_
    rw [← HM2.out]
    rintro e y' ⟨v', rfl, hct, hy⟩
    exact ⟨_, rfl, rg_doneR hY hy ⟨v', rfl, hct.cols⟩⟩
  obtain ⟨v2, rfl, h2⟩ := h2
  obtain ⟨a2, c2, rfl⟩ := h2.shape
  clear hE2 hG2 h2
  simp only [Act.put, List.setIfInBounds_toArray, List.set_cons_zero, List.set_cons_succ]
  refine rg_quiet rfl rfl rfl rfl ?_; intro K hK; go_big_quiet_op; go_big_quiet_on
  refine rg_fact [2] rfl rfl rfl (by kernel_rfl) (fun y hY hf => ?_) (fun v4 y4 hE4 hG4 h4 => ?_)
  · obtain ⟨u2, e2, k2⟩ := (hf 2 (by simp)).2 rfl
    cases e2
    go_simp
    refine (join7_in M C _ vc y k2 (hc7.ext hY) (by omega)).mono ?_
    rw [← HZ2.out]
    rintro e y' ⟨v', rfl, hct, hy⟩
    exact ⟨_, rfl, rg_doneR hY hy ⟨v', rfl, hct.cols⟩⟩
  obtain ⟨v4, rfl, h4⟩ := h4
  obtain ⟨a4, c4, rfl⟩ := h4.shape
  clear hE4 hG4 h4
  simp only [Act.put, List.setIfInBounds_toArray, List.set_cons_zero, List.set_cons_succ]
  refine rg_val [4] rfl rfl rfl (by kernel_rfl) (fun y hY hf => ?_) ?_
  · obtain ⟨u4, e4, k4⟩ := (hf 4 (by simp)).2 rfl
    cases e4
    go_simp
    exact (check7_any Z _ y k4 HNZ.out).mono fun e w' ⟨he, hw⟩ => ⟨_, he, rg_done hY hw (by rw [HX.out])⟩
  simp only [Act.put, List.setIfInBounds_toArray, List.set_cons_zero, List.set_cons_succ]
  refine rg_quiet rfl rfl rfl rfl ?_; intro K hK; go_big_quiet_op; go_big_quiet_on
  refine rel_nil fun w8 hE8 _ => ?_
  have hX8 := hX7.trans hE8
  have f0 := d0.ext hE8
  have f1 := d1.ext hE8
  have f2 := d2.ext hE8
  have ha8 := ha7.ext hE8
  have hb8 := hb7.ext hE8
  have hc8 := hc7.ext hE8
  clear x0 x1 x2 x3 x4 x5 x6 x7 y0 y1 y2 y3 y4 y5 y6 y7 z0 z1 z2 z3 z4 z5 z6 z7 d0 d1 d2 ha7 hb7 hc7 hE8 hX7
  cases X
  · go_wp2_with fail
    refine (rawake_any w8).mono ?_
    rintro e w10 ⟨rfl, hE10⟩
    go_wp2_with fail
    go_ret
    exact ⟨rfl, (hX8).trans hE10⟩
  obtain ⟨x0, x1, x2, x3, x4, x5, x6, x7⟩ := f0.ro
  obtain ⟨y0, y1, y2, y3, y4, y5, y6, y7⟩ := f1.ro
  go_wp2_with fail
  refine (rowJoin_any a B va vb w8 ha8 hb8 (by omega)).mono ?_
  rw [← HM.out]
  rintro e w9 ⟨vm, rfl, hom, hE9⟩
  obtain ⟨am, cm, rfl⟩ := own_shape hom
  have hm9 := cols_own hom
  have hX9 := hX8.trans hE9
  have g0 := f0.ext hE9
  have g1 := f1.ext hE9
  have g2 := f2.ext hE9
  have ha9 := ha8.ext hE9
  have hb9 := hb8.ext hE9
  have hc9 := hc8.ext hE9
  clear x0 x1 x2 x3 x4 x5 x6 x7 y0 y1 y2 y3 y4 y5 y6 y7 f0 f1 f2 ha8 hb8 hc8 hE9 hX8 hom
  go_wp2_with (((guard_target =~ wpList _ _ _ (Oper.mk none (Op.store _ (Operand.tmp 7) (Operand.tmp 53)) _ _ _ _ :: _) _ _); go_must (refine storeBox rfl 26 (.tmp 7) (.tmp 53) rfl (w9.heap.size) _ _ _ (by rfl) (by rfl) ((BoxAt.made w9 (ro8 ⟨⟨#[]⟩, zeroCl, 0, 0, []⟩ (.slice none 0 0)) 26)) (by kernel_rfl) (by rfl) (by simp [Value.oneCell']) ?_); intro w11 c11 g11))
  have hX911 : Ext w9 w11 := ((Ext.refl w9).alloc _).grown g11 (fun q hq => by cases hq; exact Nat.le_refl _)
  have f7 : BoxAt w11 w9.heap.size (ro8 M (.slice am M.cols.length cm)) 26 := c11
  obtain ⟨q7, hq7⟩ : ∃ q, q = w9.heap.size := ⟨_, rfl⟩
  rw [← hq7] at f7 ⊢
  have hX11 := hX9.trans hX911
  have ha11 := ha9.ext hX911
  have hb11 := hb9.ext hX911
  have hc11 := hc9.ext hX911
  have hm11 := hm9.ext hX911
  have k0 := g0.ext hX911
  have k1 := g1.ext hX911
  have k2 := g2.ext hX911
  clear g0 g1 g2 ha9 hb9 hc9 hm9 hX911 hX9 c11 g11 hq7
  simp only [Act.put]
  obtain ⟨x0, x1, x2, x3, x4, x5, x6, x7⟩ := k0.ro
  obtain ⟨y0, y1, y2, y3, y4, y5, y6, y7⟩ := k1.ro
  obtain ⟨z0, z1, z2, z3, z4, z5, z6, z7⟩ := k2.ro
  obtain ⟨r0, r1, r2, r3, r4, r5, r6, r7⟩ := f7.ro
  go_wp2_with fail
  refine wp_region_tab 34 [(3, fun v y => ∃ v', v = (.agg #[.string M.key, .string M.live.val, .bool M.live.dead, .int .i64 M.live.at_, .int .i64 M.live.fin, .int .i64 M.gone, .int .i64 M.shade, v']) ∧ ColsIn y v' M.cols), (4, fun v _ => v = .bool true), (8, fun v y => ∃ v', v = (.agg #[.string Z.key, .string Z.live.val, .bool Z.live.dead, .int .i64 Z.live.at_, .int .i64 Z.live.fin, .int .i64 Z.gone, .int .i64 Z.shade, v']) ∧ ColsIn y v' Z.cols), (12, fun v y => ∃ v', v = (.agg #[.string D.key, .string D.live.val, .bool D.live.dead, .int .i64 D.live.at_, .int .i64 D.live.fin, .int .i64 D.gone, .int .i64 D.shade, v']) ∧ ColsIn y v' D.cols), (13, fun v y => ∃ v', v = (.agg #[.string Z.key, .string Z.live.val, .bool Z.live.dead, .int .i64 Z.live.at_, .int .i64 Z.live.fin, .int .i64 Z.gone, .int .i64 Z.shade, v']) ∧ ColsIn y v' Z.cols), (14, fun v _ => v = .bool true), (19, fun v y => ∃ v', v = (.agg #[.string M.key, .string M.live.val, .bool M.live.dead, .int .i64 M.live.at_, .int .i64 M.live.fin, .int .i64 M.gone, .int .i64 M.shade, v']) ∧ ColsIn y v' M.cols), (21, fun v _ => v = .bool true), (26, fun v y => ∃ v', v = (.agg #[.string a.key, .string a.live.val, .bool a.live.dead, .int .i64 a.live.at_, .int .i64 a.live.fin, .int .i64 a.gone, .int .i64 a.shade, v']) ∧ ColsIn y v' a.cols), (28, fun v _ => v = .bool true), (31, fun v _ => v = .bool true)] (by kernel_rfl) (by kernel_rfl) (by kernel_rfl) ⟨fun _ _ _ hE ⟨v', e, h⟩ => ⟨v', e, h.ext hE⟩, stays_eq _, fun _ _ _ hE ⟨v', e, h⟩ => ⟨v', e, h.ext hE⟩, fun _ _ _ hE ⟨v', e, h⟩ => ⟨v', e, h.ext hE⟩, fun _ _ _ hE ⟨v', e, h⟩ => ⟨v', e, h.ext hE⟩, stays_eq _, fun _ _ _ hE ⟨v', e, h⟩ => ⟨v', e, h.ext hE⟩, stays_eq _, fun _ _ _ hE ⟨v', e, h⟩ => ⟨v', e, h.ext hE⟩, stays_eq _, stays_eq _, trivial⟩ ?_
  replace x0 := held x0
  replace x1 := held x1
  replace x2 := held x2
  replace x3 := held x3
  replace x4 := held x4
  replace x5 := held x5
  replace x6 := held x6
  replace x7 := held x7
  replace y0 := held y0
  replace y1 := held y1
  replace y2 := held y2
  replace y3 := held y3
  replace y4 := held y4
  replace y5 := held y5
  replace y6 := held y6
  replace y7 := held y7
  replace z0 := held z0
  replace z1 := held z1
  replace z2 := held z2
  replace z3 := held z3
  replace z4 := held z4
  replace z5 := held z5
  replace z6 := held z6
  replace z7 := held z7
  replace r0 := held r0
  replace r1 := held r1
  replace r2 := held r2
  replace r3 := held r3
  replace r4 := held r4
  replace r5 := held r5
  replace r6 := held r6
  replace r7 := held r7
  refine rg_quiet rfl rfl rfl rfl ?_; intro K hK; go_big_quiet_op; go_big_quiet_on
  refine rg_quiet rfl rfl rfl rfl ?_; intro K hK; go_big_quiet_op; go_big_quiet_on
  refine rg_quiet rfl rfl rfl rfl ?_; intro K hK; go_big_quiet_op; go_big_quiet_on
  refine rg_fact [] rfl rfl rfl (by kernel_rfl) (fun y hY hf => ?_) (fun v3 y3 hE3 hG3 h3 => ?_)
  · go_simp
    refine (rowJoin_any B a vb va y (hb11.ext hY) (ha11.ext hY) (by omega)).mono ?_
    rw [← HM3.out]
    rintro e y' ⟨v', rfl, hown', hy⟩
    exact ⟨_, rfl, rg_doneR hY hy ⟨v', rfl, cols_own hown'⟩⟩
  obtain ⟨v3, rfl, h3⟩ := h3
  obtain ⟨a3, c3, rfl⟩ := h3.shape
  clear hE3 hG3 h3
  simp only [Act.put, List.setIfInBounds_toArray, List.set_cons_zero, List.set_cons_succ]
  refine rg_val [3] rfl rfl rfl (by kernel_rfl) (fun y hY hf => ?_) ?_
  · obtain ⟨u3, e3, k3⟩ := (hf 3 (by simp)).2 rfl
    cases e3
    go_simp
    exact (rowSame_any M M _ _ y (hm11.ext hY) k3).mono fun e w' ⟨he, hw⟩ => ⟨_, he, rg_done hY hw (by rw [HEM.out])⟩
  simp only [Act.put, List.setIfInBounds_toArray, List.set_cons_zero, List.set_cons_succ]
  refine rg_quiet rfl rfl rfl rfl ?_; intro K hK; go_big_quiet_op; go_big_quiet_on
  refine rg_quiet rfl rfl rfl rfl ?_; intro K hK; go_big_quiet_op; go_big_quiet_on
  refine rg_quiet rfl rfl rfl rfl ?_; intro K hK; go_big_quiet_op; go_big_quiet_on
  refine rg_fact [] rfl rfl rfl (by kernel_rfl) (fun y hY hf => ?_) (fun v8 y8 hE8 hG8 h8 => ?_)
  · go_simp
    refine (rowJoin_any M C _ vc y (hm11.ext hY) (hc11.ext hY) (by omega)).mono ?_
    rw [← HZ.out]
    rintro e y' ⟨v', rfl, hown', hy⟩
    exact ⟨_, rfl, rg_doneR hY hy ⟨v', rfl, cols_own hown'⟩⟩
  obtain ⟨v8, rfl, h8⟩ := h8
  obtain ⟨a8, c8, rfl⟩ := h8.shape
  clear hE8 hG8 h8
  simp only [Act.put, List.setIfInBounds_toArray, List.set_cons_zero, List.set_cons_succ]
  refine rg_quiet rfl rfl rfl rfl ?_; intro K hK; go_big_quiet_op; go_big_quiet_on
  refine rg_quiet rfl rfl rfl rfl ?_; intro K hK; go_big_quiet_op; go_big_quiet_on
  refine rg_quiet rfl rfl rfl rfl ?_; intro K hK; go_big_quiet_op; go_big_quiet_on
  refine rg_fact [] rfl rfl rfl (by kernel_rfl) (fun y hY hf => ?_) (fun v12 y12 hE12 hG12 h12 => ?_)
  · go_simp
    refine (rowJoin_any B C vb vc y (hb11.ext hY) (hc11.ext hY) (by omega)).mono ?_
    rw [← HD.out]
    rintro e y' ⟨v', rfl, hown', hy⟩
    exact ⟨_, rfl, rg_doneR hY hy ⟨v', rfl, cols_own hown'⟩⟩
  obtain ⟨v12, rfl, h12⟩ := h12
  obtain ⟨a12, c12, rfl⟩ := h12.shape
  clear hE12 hG12 h12
  simp only [Act.put, List.setIfInBounds_toArray, List.set_cons_zero, List.set_cons_succ]
  refine rg_fact [12] rfl rfl rfl (by kernel_rfl) (fun y hY hf => ?_) (fun v13 y13 hE13 hG13 h13 => ?_)
  · obtain ⟨u12, e12, k12⟩ := (hf 12 (by simp)).2 rfl
    cases e12
    go_simp
    refine (rowJoin_any a D va _ y (ha11.ext hY) k12 (by omega)).mono ?_
    rw [← HZ3.out]
    rintro e y' ⟨v', rfl, hown', hy⟩
    exact ⟨_, rfl, rg_doneR hY hy ⟨v', rfl, cols_own hown'⟩⟩
  obtain ⟨v13, rfl, h13⟩ := h13
  obtain ⟨a13, c13, rfl⟩ := h13.shape
  clear hE13 hG13 h13
  simp only [Act.put, List.setIfInBounds_toArray, List.set_cons_zero, List.set_cons_succ]
  refine rg_val [8, 13] rfl rfl rfl (by kernel_rfl) (fun y hY hf => ?_) ?_
  · obtain ⟨u8, e8, k8⟩ := (hf 8 (by simp)).1.1.2 rfl
    obtain ⟨u13, e13, k13⟩ := (hf 13 (by simp)).2 rfl
    cases e8
    cases e13
    go_simp
    exact (rowSame_any Z Z _ _ y k8 k13).mono fun e w' ⟨he, hw⟩ => ⟨_, he, rg_done hY hw (by rw [HEZ.out])⟩
  simp only [Act.put, List.setIfInBounds_toArray, List.set_cons_zero, List.set_cons_succ]
  refine rg_quiet rfl rfl rfl rfl ?_; intro K hK; go_big_quiet_op; go_big_quiet_on
  refine rg_quiet rfl rfl rfl rfl ?_; intro K hK; go_big_quiet_op; go_big_quiet_on
  refine rg_quiet rfl rfl rfl rfl ?_; intro K hK; go_big_quiet_op; go_big_quiet_on
  refine rg_quiet rfl rfl rfl rfl ?_; intro K hK; go_big_quiet_op; go_big_quiet_on
  refine rg_fact [] rfl rfl rfl (by kernel_rfl) (fun y hY hf => ?_) (fun v19 y19 hE19 hG19 h19 => ?_)
  · go_simp
    refine (rowJoin_any M B _ vb y (hm11.ext hY) (hb11.ext hY) (by omega)).mono ?_
    rw [← HM4.out]
    rintro e y' ⟨v', rfl, hown', hy⟩
    exact ⟨_, rfl, rg_doneR hY hy ⟨v', rfl, cols_own hown'⟩⟩
  obtain ⟨v19, rfl, h19⟩ := h19
  obtain ⟨a19, c19, rfl⟩ := h19.shape
  clear hE19 hG19 h19
  simp only [Act.put, List.setIfInBounds_toArray, List.set_cons_zero, List.set_cons_succ]
  refine rg_quiet rfl rfl rfl rfl ?_; intro K hK; go_big_quiet_op; go_big_quiet_on
  refine rg_val [19] rfl rfl rfl (by kernel_rfl) (fun y hY hf => ?_) ?_
  · obtain ⟨u19, e19, k19⟩ := (hf 19 (by simp)).2 rfl
    cases e19
    go_simp
    exact (rowSame_any M M _ _ y k19 (hm11.ext hY)).mono fun e w' ⟨he, hw⟩ => ⟨_, he, rg_done hY hw (by rw [HEM.out])⟩
  simp only [Act.put, List.setIfInBounds_toArray, List.set_cons_zero, List.set_cons_succ]
  refine rg_quiet rfl rfl rfl rfl ?_; intro K hK; go_big_quiet_op; go_big_quiet_on
  refine rg_quiet rfl rfl rfl rfl ?_; intro K hK; go_big_quiet_op; go_big_quiet_on
  refine rg_quiet rfl rfl rfl rfl ?_; intro K hK; go_big_quiet_op; go_big_quiet_on
  refine rg_quiet rfl rfl rfl rfl ?_; intro K hK; go_big_quiet_op; go_big_quiet_on
  refine rg_fact [] rfl rfl rfl (by kernel_rfl) (fun y hY hf => ?_) (fun v26 y26 hE26 hG26 h26 => ?_)
  · go_simp
    refine (rowJoin_self a va y (ha11.ext hY) HA.out (by omega)).mono ?_
    rintro e y' ⟨v', rfl, hown', hy⟩
    exact ⟨_, rfl, rg_doneR hY hy ⟨v', rfl, cols_own hown'⟩⟩
  obtain ⟨v26, rfl, h26⟩ := h26
  obtain ⟨a26, c26, rfl⟩ := h26.shape
  clear hE26 hG26 h26
  simp only [Act.put, List.setIfInBounds_toArray, List.set_cons_zero, List.set_cons_succ]
  refine rg_quiet rfl rfl rfl rfl ?_; intro K hK; go_big_quiet_op; go_big_quiet_on
  refine rg_val [26] rfl rfl rfl (by kernel_rfl) (fun y hY hf => ?_) ?_
  · obtain ⟨u26, e26, k26⟩ := (hf 26 (by simp)).2 rfl
    cases e26
    go_simp
    exact (rowSame_any a a _ va y k26 (ha11.ext hY)).mono fun e w' ⟨he, hw⟩ => ⟨_, he, rg_done hY hw (by rw [HEA.out])⟩
  simp only [Act.put, List.setIfInBounds_toArray, List.set_cons_zero, List.set_cons_succ]
  refine rg_quiet rfl rfl rfl rfl ?_; intro K hK; go_big_quiet_op; go_big_quiet_on
  refine rg_quiet rfl rfl rfl rfl ?_; intro K hK; go_big_quiet_op; go_big_quiet_on
  refine rg_val [] rfl rfl rfl (by kernel_rfl) (fun w1 hE hf => ?_) ?_
  · go_simp
    exact (rawake_any w1).mono fun e w' ⟨he, hw⟩ => ⟨_, he, rg_done hE hw (rfl)⟩
  simp only [Act.put, List.setIfInBounds_toArray, List.set_cons_zero, List.set_cons_succ]
  refine rg_quiet rfl rfl rfl rfl ?_; intro K hK; go_big_quiet_op; go_big_quiet_on
  refine rg_quiet rfl rfl rfl rfl ?_; intro K hK; go_big_quiet_op; go_big_quiet_on
  refine rel_nil fun w12 hE12 _ => ?_
  clear x0 x1 x2 x3 x4 x5 x6 x7 y0 y1 y2 y3 y4 y5 y6 y7 z0 z1 z2 z3 z4 z5 z6 z7 r0 r1 r2 r3 r4 r5 r6 r7
  go_wp2_with fail
  go_ret
  exact ⟨rfl, hX11.trans hE12⟩
theorem walk_rowJoins (v0 v1 v2 : Value) (W : World) (w0 : ∃ (r : Ro) (u : Value), v0 = (.agg #[.string r.key, .string r.live.val, .bool r.live.dead, .int .i64 r.live.at_, .int .i64 r.live.fin, .int .i64 r.gone, .int .i64 r.shade, u]) ∧ ColsIn W u r.cols) (w1 : ∃ (r : Ro) (u : Value), v1 = (.agg #[.string r.key, .string r.live.val, .bool r.live.dead, .int .i64 r.live.at_, .int .i64 r.live.fin, .int .i64 r.gone, .int .i64 r.shade, u]) ∧ ColsIn W u r.cols) (w2 : ∃ (r : Ro) (u : Value), v2 = (.agg #[.string r.key, .string r.live.val, .bool r.live.dead, .int .i64 r.live.at_, .int .i64 r.live.fin, .int .i64 r.gone, .int .i64 r.shade, u]) ∧ ColsIn W u r.cols) (hT : TabU W) :
    Calls Tryd.prog 3 #[v0, v1, v2] W fun e w' => e = .returned (.bool true) ∧ Ext W w' := by
  obtain ⟨a, va, rfl, ha⟩ := w0
  obtain ⟨b, vb, rfl, hb⟩ := w1
  obtain ⟨c, vc, rfl, hc⟩ := w2
  exact law_rowJoins a b c va vb vc W ha hb hc hT
end Go.Proofs.YteamiiekpjoclaaDoor
