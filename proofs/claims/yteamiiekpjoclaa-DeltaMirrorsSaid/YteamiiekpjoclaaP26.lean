/- clerestoryref08.CopyRow, Copy. -/
import Derived.Test.YteamiiekpjoclaaP15
import Derived.Test.YteamiiekpjoclaaP4
import Derived.Test.YteamiiekpjoclaaP2
import Derived.Test.YteamiiekpjoclaaP25
import Derived.Test.YteamiiekpjoclaaP12
import Derived.Test.YteamiiekpjoclaaP13
set_option linter.unusedSimpArgs false
set_option linter.unusedVariables false
namespace Go.Proofs.Yteamiiekpjoclaa
open Go Go.RowKit
attribute [local go_sem] yields yUpon ro8

set_option maxRecDepth 100000 in
set_option maxHeartbeats 4000000 in
theorem copyRow_any (r : Ro) (v : Value) (w : World) (h : ColsIn w v r.cols) (hlen : r.cols.length ≤ 1000000) :
    Calls Try.prog 77 #[(.agg #[.string r.key, .string r.live.val, .bool r.live.dead, .int .i64 r.live.at_, .int .i64 r.live.fin, .int .i64 r.gone, .int .i64 r.shade, v])] w fun e w' => ∃ v', e = .returned (.agg #[.string r.key, .string r.live.val, .bool r.live.dead, .int .i64 r.live.at_, .int .i64 r.live.fin, .int .i64 r.gone, .int .i64 r.shade, v']) ∧ ColsT w' v' r.cols ∧ Ext w w' := by
  obtain ⟨a0, a1, hE⟩ := boxes2 w (ro8 r v) (ro8 ⟨⟨#[]⟩, zeroCl, 0, 0, []⟩ (.slice none 0 0)) 55 55
  have h0 := h.ext hE
  obtain ⟨av, cv, rfl⟩ := h.shape
  obtain ⟨n, hn⟩ : ∃ n, n = r.cols.length := ⟨_, rfl⟩
  rw [← hn] at a0 a1 hE h0 hlen ⊢
  have HN := Lib.hid hn
  clear hn h
  go_enter Try.func77, Try.ntmps77
  go_wp2_with (first
    | (((guard_target =~ wpList _ _ _ (Oper.mk none (Op.store _ (Operand.tmp 3) (Operand.tmp 4)) _ _ _ _ :: _) _ _); go_must (refine storeBox rfl 55 (.tmp 3) (.tmp 4) rfl (w.heap.size + 1 + 1) _ _ _ (by rfl) (by rfl) ((BoxAt.madeN (ro8 ⟨⟨#[]⟩, zeroCl, 0, 0, []⟩ (.slice none 0 0)) 55 (by simp))) (by kernel_rfl) (by rfl) (by simp [Value.oneCell']) ?_); intro w4 c4 g4); have hX4 : Ext w w4 := (hE.alloc (.cells (ro8 ⟨⟨#[]⟩, zeroCl, 0, 0, []⟩ (.slice none 0 0)) 55)).grown g4 (fun q hq => by cases hq; omega); have b0 : BoxAt w4 w.heap.size (ro8 r (.slice av n cv)) 55 := (a0.ext ((Ext.refl _).alloc _)).grown g4 (fun e => by have := Option.some.inj e; omega); have b1 : BoxAt w4 (w.heap.size + 1) (ro8 ⟨⟨#[]⟩, zeroCl, 0, 0, []⟩ (.slice none 0 0)) 55 := (a1.ext ((Ext.refl _).alloc _)).grown g4 (fun e => by have := Option.some.inj e; omega); have h4 : ColsIn w4 (.slice av n cv) r.cols := h0.ext (((Ext.refl _).alloc (.cells (ro8 ⟨⟨#[]⟩, zeroCl, 0, 0, []⟩ (.slice none 0 0)) 55)).grown g4 (fun q hq => by cases hq; simp)); have y7 : w4.cell? ⟨w.heap.size, 7, none⟩ = some (.slice av n cv) := b0.cell 7)
    | ((guard_target =~ wpList _ _ _ (Oper.mk (some 7) _ _ _ _ _ :: _) _ _); go_must (refine wpList_cloneS rfl info_Col und_Cols rfl (by decide) (.const (.slice none 0 0)) (.tmp 6) rfl (by rfl) h4 (by rfl) (coCells_length _) (coCells_one _) (by unfold maxLen; have := HN.out; omega) (by have := HN.out; omega) ?_); intro v5 w5 hown5 hE5; obtain ⟨a5, c5, rfl⟩ := own_shape hown5; have d3 : BoxAt w5 (w.heap.size + 1 + 1) (ro8 r (.slice av n cv)) 55 := BoxAt.ext hE5 c4; have d1 := b1.ext hE5; obtain ⟨z0, z1, z2, z3, z4, z5, z6, z7⟩ := d3.ro; have zf := d3.free 7)
    | (((guard_target =~ wpList _ _ _ (Oper.mk none (Op.store _ (Operand.tmp 2) (Operand.tmp 9)) _ _ _ _ :: _) _ _); go_must (refine storeBox rfl 55 (.tmp 2) (.tmp 9) rfl (w.heap.size + 1) _ _ _ (by rfl) (by rfl) ((d1.other (by omega) 7 _)) (by kernel_rfl) (by rfl) (by simp [Value.oneCell']) ?_); intro w6 c6 g6); have hX6 : Ext w w6 := ((hX4.trans hE5).setCell (p := ⟨w.heap.size + 1 + 1, 7, none⟩) (by show w.heap.size ≤ w.heap.size + 1 + 1; omega) _).grown g6 (fun q hq => by cases hq; omega); have h6 : ColsT w6 (.slice a5 r.cols.length c5) r.cols := ColsT.keep g6 (d1.other (by omega) 7 _) (by decide) (TIn.set 7 _ d3 (by decide) (TIn.own hown5))))
  obtain ⟨z0, z1, z2, z3, z4, z5, z6, z7⟩ := BoxAt.ro (r := r) (v := .slice a5 r.cols.length c5) c6
  refine bodyPost_ret (v := (.agg #[.string r.key, .string r.live.val, .bool r.live.dead, .int .i64 r.live.at_, .int .i64 r.live.fin, .int .i64 r.gone, .int .i64 r.shade, (.slice a5 r.cols.length c5)])) ?_ rfl ⟨_, rfl, h6, hX6⟩
  simp [results, Try.results77, go_sem, Act.put, z0, z1, z2, z3, z4, z5, z6, z7]
end Go.Proofs.Yteamiiekpjoclaa

/- clerestoryref08.Copy. -/
namespace Go.Proofs.Yteamiiekpjoclaa
open Go Go.RowKit
attribute [local go_sem] yields yUpon ro8 pa3

/-- Operation n appends to rows of one's own; the others let memory grow. -/
def RoE (vo : Value) (B n j : Nat) (x y : World) : Prop := if j = n then (∃ m xs, x.ownsRow B 55 8 vo m xs) ∧ x.grownBy y vo.ownBlock else Ext x y
section
variable {vo : Value} {B n j : Nat} {x y : World}
theorem RoE_ext (hj : j ≠ n) (h : Ext x y) : RoE vo B n j x y := by unfold RoE; rw [if_neg hj]; exact h
theorem RoE_off (hj : j ≠ n) (h : RoE vo B n j x y) : Ext x y := by unfold RoE at h; rwa [if_neg hj] at h
theorem RoE_cols (h : RoE vo B n j x y) {v : Value} {l : List Co} (hc : ColsT x v l) : ColsT y v l := by
  unfold RoE at h
  split at h
  · obtain ⟨⟨m, xs, hown⟩, hg⟩ := h
    exact TIn.keepOwn hown hg (by decide) hc
  · exact hc.ext h
theorem RoE_far {S B' : Nat} (hlt : ∀ q, vo.ownBlock = some q → B' ≤ q ∧ q < S) (h : RoE vo B n j x y) {b : Nat} (hb : S ≤ b) {cs : Array Value} {e : TypeId} (hx : BoxAt x b cs e) : BoxAt y b cs e := by
  unfold RoE at h
  split at h
  · exact hx.grown h.2 (fun e => by have := (hlt _ e.symm).2; omega)
  · exact hx.ext h
end
/-- The copy under way. -/
structure CpC (w : World) (k : ByteArray) (g : Int) (u : Value) (q : Nat) (vo : Value) (qs : List (Ro × Value)) (S : Nat) (x : World) : Prop where
  extw : Ext w x
  b1 : BoxAt x w.heap.size (pa3 k g u) 39
  b2 : BoxAt x (w.heap.size + 1) (pa3 ⟨#[]⟩ 0 (.slice none 0 0)) 39
  b3 : BoxAt x q (pa3 k g vo) 39
  own : x.ownsRow (w.heap.size + 3) 55 8 vo qs.length (roCells qs)
  typed : ∀ p ∈ qs, ColsT x p.2 p.1.cols
  size : S ≤ x.heap.size
theorem CpC.ext {w x y : World} {k : ByteArray} {g : Int} {u : Value} {q : Nat} {vo : Value} {qs : List (Ro × Value)} {S : Nat} (hE : Ext x y) (h : CpC w k g u q vo qs S x) : CpC w k g u q vo qs S y :=
  ⟨h.extw.trans hE, h.b1.ext hE, h.b2.ext hE, h.b3.ext hE, ownsRow_ext h.own hE, fun p hp => (h.typed p hp).ext hE, Nat.le_trans h.size hE.le⟩
theorem CpC.app {w x y : World} {k : ByteArray} {g : Int} {u : Value} {q : Nat} {vo : Value} {qs : List (Ro × Value)} {S : Nat} (hq : q < w.heap.size + 3) (h : CpC w k g u q vo qs S x) (hg : x.grownBy y vo.ownBlock) (hown : y.ownsRow (w.heap.size + 3) 55 8 vo qs.length (roCells qs)) : CpC w k g u q vo qs S y := by
  have hne : ∀ q, some q = vo.ownBlock → w.heap.size + 3 ≤ q := fun q hq => (h.own.lt q hq.symm).1
  exact ⟨h.extw.grown hg (fun q hq => by have := hne q hq.symm; omega), h.b1.grown hg (fun e => by have := hne _ e; omega), h.b2.grown hg (fun e => by have := hne _ e; omega), h.b3.grown hg (fun e => by have := hne _ e; omega), hown, fun p hp => TIn.keepOwn h.own hg (by decide) (h.typed p hp), Nat.le_trans h.size hg.size⟩

set_option maxRecDepth 100000 in
set_option maxHeartbeats 8000000 in
theorem copy8_any (k : ByteArray) (g : Int) (u : Value) (ps : List (Ro × Value)) (w : World) (h : RowsIn w u ps) (hlen : ps.length ≤ 10000) (hcl : ∀ p ∈ ps, p.1.cols.length ≤ 1000000) :
    Calls Try.prog 44 #[.agg #[.string k, .int .i64 g, u]] w fun e w' => ∃ v', e = .returned (.agg #[.string k, .int .i64 g, v']) ∧ ∃ qs, RowsT w' v' qs ∧ qs.map (·.1) = ps.map (·.1) ∧ Ext w w' := by
  obtain ⟨a0, a1, hE⟩ := boxes2 w (pa3 k g u) (pa3 ⟨#[]⟩ 0 (.slice none 0 0)) 39 39
  obtain ⟨a, c, rfl, hc, hcm, hget⟩ := h.get
  obtain ⟨n, hn⟩ : ∃ n, n = ps.length := ⟨_, rfl⟩
  rw [← hn] at a0 a1 hE h hlen hc ⊢
  have HN := Lib.hid hn
  have HGET := Lib.hid hget
  have HCL := Lib.hid hcl
  clear hn hget hcl
  go_enter Try.func44, Try.ntmps44
  go_wp2_with (((guard_target =~ wpList _ _ _ (Oper.mk none (Op.store _ (Operand.tmp 3) (Operand.tmp 9)) _ _ _ _ :: _) _ _); go_must (refine storeBox rfl 39 (.tmp 3) (.tmp 9) rfl (w.heap.size + 1 + 1) _ _ _ (by rfl) (by rfl) ((BoxAt.madeN (pa3 ⟨#[]⟩ 0 (.slice none 0 0)) 39 (by simp))) (by kernel_rfl) (by rfl) (by simp [Value.oneCell']) ?_); intro w4 c4 g4); have hX4 : Ext w w4 := (hE.alloc (.cells (pa3 ⟨#[]⟩ 0 (.slice none 0 0)) 39)).grown g4 (fun q hq => by cases hq; omega); have b1 : BoxAt w4 w.heap.size (pa3 k g (.slice a n c)) 39 := (a0.ext ((Ext.refl _).alloc _)).grown g4 (fun e => by have := Option.some.inj e; omega); have b2 : BoxAt w4 (w.heap.size + 1) (pa3 ⟨#[]⟩ 0 (.slice none 0 0)) 39 := (a1.ext ((Ext.refl _).alloc _)).grown g4 (fun e => by have := Option.some.inj e; omega))
  obtain ⟨q, hq⟩ : ∃ q, q = w.heap.size + 1 + 1 := ⟨_, rfl⟩
  rw [← hq] at c4 ⊢
  have hq3 : w.heap.size + 1 < q ∧ q < w.heap.size + 3 := by omega
  have A0 : CpC w k g (.slice a n c) q (.slice none 0 0) [] 0 w4 := ⟨hX4, b1, b2, c4, World.ownsRow_nil _ _ _ _, nofun, Nat.zero_le _⟩
  clear hE a0 a1 g4 hX4 b1 b2 c4 hq
  go_loopw [4] (fun i wr => ∃ (j : Nat) (vo : Value) (qs : List (Ro × Value)), j ≤ n ∧ i = .int .i64 j ∧ CpC w k g (.slice a n c) q vo qs 0 wr ∧ Hid (qs.map (·.1) = (ps.map (·.1)).take j)) (fun i _ => n - (intOf i).toNat)
  case atStart => exact ⟨0, _, [], Nat.zero_le _, rfl, A0, rfl⟩
  case round =>
    obtain ⟨j, vo, qs, hj, rfl, hcp, HQ⟩ := hrel
    clear A0
    have hql : qs.length ≤ j := by
      have := congrArg List.length HQ.out
      rw [List.length_map, List.length_take, List.length_map] at this
      omega
    have e2 : wr.cell? ⟨w.heap.size, 2, none⟩ = some (.slice a n c) := hcp.b1.cell 2
    by_cases hlt : j < n
    · have t1 : decide ((j : Int) < (n : Int)) = true := by simp; omega
      have hjp : j < ps.length := by rw [← HN.out]; exact hlt
      obtain ⟨b, o, rfl, hat⟩ := HGET.out j hjp
      obtain ⟨r, hr⟩ : ∃ r, r = ps[j].1 := ⟨_, rfl⟩
      obtain ⟨vr, hvr⟩ : ∃ v, v = ps[j].2 := ⟨_, rfl⟩
      have hct : ColsIn w vr r.cols := by rw [hr, hvr]; exact h.cols _ (List.getElem_mem hjp)
      have hrl : r.cols.length ≤ 1000000 := by rw [hr]; exact HCL.out _ (List.getElem_mem hjp)
      have hrow : (ps.map (·.1)).take (j + 1) = (ps.map (·.1)).take j ++ [r] := by
        rw [List.take_succ_eq_append_getElem (by rw [List.length_map]; exact hjp), List.getElem_map, hr]
      rw [← hr, ← hvr] at hat
      have HROW := Lib.hid hrow
      have HAT := Lib.hid hat
      clear hr hvr hrow hat
      obtain ⟨ar, cr, rfl⟩ := hct.shape
      obtain ⟨ao, co, rfl⟩ := own_shape hcp.own
      go_wp2_with fail
      refine wp_region_relE (CpC w k g (.slice (some ⟨b, o, none⟩) n c) q (.slice ao qs.length co) qs wr.heap.size) (RoE (.slice ao qs.length co) (w.heap.size + 3) 9) (Tab.atE [(1, fun v _ => v = .slice ao qs.length co), (3, fun v _ => v = .slice (some ⟨b, o, none⟩) n c), (6, fun v _ => v = (.agg #[.string r.key, .string r.live.val, .bool r.live.dead, .int .i64 r.live.at_, .int .i64 r.live.fin, .int .i64 r.gone, .int .i64 r.shade, (.slice ar r.cols.length cr)])), (7, fun v x => ∃ v', v = (.agg #[.string r.key, .string r.live.val, .bool r.live.dead, .int .i64 r.live.at_, .int .i64 r.live.fin, .int .i64 r.gone, .int .i64 r.shade, v']) ∧ ColsT x v' r.cols), (8, fun v x => ∃ v' b, v = .slice (some ⟨b, 0, none⟩) 1 1 ∧ wr.heap.size ≤ b ∧ BoxAt x b (ro8 r v') 55 ∧ ColsT x v' r.cols), (9, fun v x => ∃ v', ColsT x v' r.cols ∧ x.ownsRow (w.heap.size + 3) 55 8 v (qs.length + 1) (roCells (qs ++ [(r, v')])))])
        (Tab.staysE ⟨fun _ _ _ _ _ _ h => h, fun _ _ _ _ _ _ h => h, fun _ _ _ _ _ _ h => h, fun _ _ _ _ _ hR ⟨v', e, h1⟩ => ⟨v', e, RoE_cols hR h1⟩, fun _ _ _ _ _ hR ⟨v', b, e, hb, hx, h1⟩ => ⟨v', b, e, hb, RoE_far hcp.own.lt hR hb hx, RoE_cols hR h1⟩, fun _ hj _ _ _ hR ⟨v', h1, h2⟩ => ⟨v', RoE_cols hR h1, ownsRow_ext h2 (RoE_off hj hR)⟩, trivial⟩)
        11 (by kernel_rfl) (by kernel_rfl) (by kernel_rfl) (CpC.ext (Ext.refl wr).drew ⟨hcp.extw, hcp.b1, hcp.b2, hcp.b3, hcp.own, hcp.typed, Nat.le_refl _⟩) ?_
      refine relE_quiet rfl rfl rfl rfl ?_; intro K hK; go_big_quiet_op; (first | refine ⟨_, fun _ _ => rfl, hK _ ?_⟩ | refine hK _ ?_); clear hK K
      refine relE_val [] rfl rfl rfl (by kernel_rfl) (fun y hy hf => ?_) ?_
      · obtain ⟨z0, z1, z2⟩ := hy.b3.pa
        go_simp
        exact ⟨hy, RoE_ext (by decide) (Ext.refl y), rfl⟩
      simp only [Act.put, List.setIfInBounds_toArray, List.set_cons_zero, List.set_cons_succ]
      refine relE_quiet rfl rfl rfl rfl ?_; intro K hK; go_big_quiet_op; (first | refine ⟨_, fun _ _ => rfl, hK _ ?_⟩ | refine hK _ ?_); clear hK K
      refine relE_val [] rfl rfl rfl (by kernel_rfl) (fun y hy hf => ?_) ?_
      · obtain ⟨z0, z1, z2⟩ := hy.b1.pa
        go_simp
        exact ⟨hy, RoE_ext (by decide) (Ext.refl y), rfl⟩
      simp only [Act.put, List.setIfInBounds_toArray, List.set_cons_zero, List.set_cons_succ]
      refine relE_quiet rfl rfl rfl rfl ?_; intro K hK; go_big_quiet_op; (first | refine ⟨_, fun _ _ => rfl, hK _ ?_⟩ | refine hK _ ?_); clear hK K
      refine relE_quiet rfl rfl rfl rfl ?_; intro K hK; go_big_quiet_op; (first | refine ⟨_, fun _ _ => rfl, hK _ ?_⟩ | refine hK _ ?_); clear hK K
      refine relE_val [] rfl rfl rfl (by kernel_rfl) (fun y hy hf => ?_) ?_
      · obtain ⟨z0, z1, z2, z3, z4, z5, z6, z7⟩ := HAT.out.ext hy.extw
        go_simp
        exact ⟨hy, RoE_ext (by decide) (Ext.refl y), rfl⟩
      simp only [Act.put, List.setIfInBounds_toArray, List.set_cons_zero, List.set_cons_succ]
      refine relE_fact [] rfl rfl rfl (by kernel_rfl) (fun y hy hf => ?_) (fun v7 y7 hC7 hG7 h7 => ?_)
      · go_simp
        refine (copyRow_any r _ y (hct.ext hy.extw) hrl).mono ?_
        rintro e y' ⟨v', rfl, h1, h2⟩
        exact ⟨_, rfl, hy.ext h2, RoE_ext (by decide) h2, v', rfl, h1⟩
      obtain ⟨v7, rfl, h7⟩ := h7
      obtain ⟨a7, c7, rfl⟩ := TIn.shape h7
      clear hC7 hG7 h7
      simp only [Act.put, List.setIfInBounds_toArray, List.set_cons_zero, List.set_cons_succ]
      refine relE_fact [7] rfl rfl rfl (by kernel_rfl) (fun y hy hf => ?_) (fun v8 y8 hC8 hG8 h8 => ?_)
      · obtain ⟨v', e, h1⟩ := (hf 7 (by simp)).2 rfl
        cases e
        go_simp
        exact ⟨hy.ext ((Ext.refl y).alloc _), RoE_ext (by decide) ((Ext.refl y).alloc _), _, _, rfl, hy.size, BoxAt.made y _ _, h1.ext ((Ext.refl y).alloc _)⟩
      obtain ⟨v8, b8, rfl, _⟩ := h8
      clear hC8 hG8
      simp only [Act.put, List.setIfInBounds_toArray, List.set_cons_zero, List.set_cons_succ]
      refine relE_fact [8] rfl rfl rfl (by kernel_rfl) (fun y hy hf => ?_) (fun v9 y9 hC9 hG9 h9 => ?_)
      · obtain ⟨v', b', e, hb', hbox, h1⟩ := (hf 8 (by simp)).2 rfl
        cases e
        obtain ⟨av, cv, rfl⟩ := TIn.shape h1
        refine yields_append info_Row und_Rows rfl (by decide) (.tmp 18) (.tmp 25) rfl (w.heap.size + 3) (by have := hy.b3.lt; omega) _ qs.length (roCells qs) hy.own (by rfl) b8 1 1 (ro8 r (.slice av r.cols.length cv)).toList (by rfl) (by rfl) (fun j u hj => by rw [hbox.cell j]; simpa using hj) (by simp [ro8, Value.oneCell']) (by unfold maxLen; omega) (by omega) ?_
        intro v' y' hown' hg hkeep
        have HR : RoE (.slice ao qs.length co) (w.heap.size + 3) 9 9 y y' := by unfold RoE; rw [if_pos rfl]; exact ⟨⟨_, _, hy.own⟩, hg⟩
        refine ⟨hy.app hq3.2 hg hkeep, HR, _, RoE_cols HR h1, ?_⟩
        rw [roCells_append]
        exact hown'
      obtain ⟨vr9, _, h9⟩ := h9
      obtain ⟨a9, c9, rfl⟩ := own_shape h9
      clear hC9 hG9 h9
      simp only [Act.put, List.setIfInBounds_toArray, List.set_cons_zero, List.set_cons_succ]
      refine relE_quiet rfl rfl rfl rfl ?_; intro K hK; go_big_quiet_op; (first | refine ⟨_, fun _ _ => rfl, hK _ ?_⟩ | refine hK _ ?_); clear hK K
      refine relE_tail rfl rfl fun x hx hG => ?_
      obtain ⟨vr', h1, hown'⟩ := (hG 9).2 rfl
      clear hG e2
      obtain ⟨q0, q1, q2⟩ := hx.b3.pa
      have qf := hx.b3.free 2
      go_wp2_with fail
      go_roundw
      case rel =>
        refine ⟨j + 1, _, qs ++ [(r, vr')], by omega, by go_num, ⟨hx.extw.setCell (p := ⟨q, 2, none⟩) (by show w.heap.size ≤ q; omega) _, hx.b1.other (by omega) 2 _, hx.b2.other (by omega) 2 _, hx.b3.set 2 _, ?_, ?_, Nat.zero_le _⟩, ?_⟩
        · rw [List.length_append]
          exact ownsRow_setCell_below hown' (a := ⟨q, 2, none⟩) (by show q < w.heap.size + 3; omega) _
        · intro p hp
          rcases List.mem_append.1 hp with hp | hp
          · exact TIn.set 2 _ hx.b3 (by decide) (hx.typed p hp)
          · rw [List.mem_singleton.1 hp]
            exact TIn.set 2 _ hx.b3 (by decide) h1
        · show _ = _
          rw [List.map_append, HQ.out, HROW.out]
          rfl
      case measure => simp [intOf]; omega
    · obtain rfl : j = n := by omega
      obtain ⟨ao, co, rfl⟩ := own_shape hcp.own
      obtain ⟨z0, z1, z2⟩ := hcp.b3.pa
      have hb2 := hcp.b2
      go_wp2_with ((guard_target =~ wpList _ _ _ (Oper.mk none (Op.store _ (Operand.tmp 2) (Operand.tmp 28)) _ _ _ _ :: _) _ _); go_must (refine storeBox rfl 39 (.tmp 2) (.tmp 28) rfl (w.heap.size + 1) _ _ _ (by rfl) (by rfl) (hb2) (by kernel_rfl) (by rfl) (by simp [Value.oneCell']) ?_); intro w8 c8 g8)
      have hX8 := hcp.extw.grown g8 (fun q hq => by cases hq; omega)
      have hrows : RowsT w8 (.slice ao qs.length co) qs := ⟨TIn.keep g8 hb2 (by decide) (TIn.own hcp.own), fun p hp => ColsT.keep g8 hb2 (by decide) (hcp.typed p hp)⟩
      have hmap : qs.map (·.1) = ps.map (·.1) := by rw [HQ.out, List.take_of_length_le (by rw [List.length_map, ← HN.out]; exact Nat.le_refl _)]
      clear z0 z1 z2
      obtain ⟨z0, z1, z2⟩ := BoxAt.pa (k := k) (g := g) (u := .slice ao qs.length co) c8
      refine bodyPost_ret (v := .agg #[.string k, .int .i64 g, .slice ao qs.length co]) ?_ rfl ⟨_, rfl, qs, hrows, hmap, hX8⟩
      simp [results, Try.results44, go_sem, Act.put, z0, z1, z2]
end Go.Proofs.Yteamiiekpjoclaa

/- Rows with a view's columns alone (law19.only). -/
namespace Go.Proofs.Yteamiiekpjoclaa
open Go Go.RowKit
attribute [local go_sem] yields yUpon ro8 vw5 co5

theorem fOff_name (x : Vw) (c : Co) : fOff x (kCo c) = !(c.name.toList == x.on.toList) := by
  unfold fOff kCo
  rw [ByteArray.toList_eq, ByteArray.toList_eq]
theorem flt_take (f : List UInt8 → Bool) (l : List Co) (k : Nat) (hk : k < l.length) : flt f (l.take (k + 1)) = flt f (l.take k) ++ if f (kCo l[k]) then [l[k]] else [] := by
  unfold flt
  rw [List.take_succ_eq_append_getElem hk, List.filter_append]
  congr 1
  cases h : f (kCo l[k]) <;> simp [h]
/-- Operation n appends to columns of one's own; the others let memory grow. -/
def CoE (vo : Value) (B n j : Nat) (x y : World) : Prop := if j = n then (∃ m xs, x.ownsRow B 58 5 vo m xs) ∧ x.grownBy y vo.ownBlock else Ext x y
section
variable {vo : Value} {B n j : Nat} {x y : World}
theorem CoE_ext (hj : j ≠ n) (h : Ext x y) : CoE vo B n j x y := by unfold CoE; rw [if_neg hj]; exact h
theorem CoE_off (hj : j ≠ n) (h : CoE vo B n j x y) : Ext x y := by unfold CoE at h; rwa [if_neg hj] at h
theorem CoE_far {S B' : Nat} (hlt : ∀ q, vo.ownBlock = some q → B' ≤ q ∧ q < S) (h : CoE vo B n j x y) {b : Nat} (hb : S ≤ b) {cs : Array Value} {e : TypeId} (hx : BoxAt x b cs e) : BoxAt y b cs e := by
  unfold CoE at h
  split at h
  · exact hx.grown h.2 (fun e => by have := (hlt _ e.symm).2; omega)
  · exact hx.ext h
end
/-- A row whose columns are put together. -/
structure OCs (w : World) (q : Nat) (M : Ro) (vc : Value) (P : List Co) (S : Nat) (y : World) : Prop where
  extw : Ext w y
  box : BoxAt y q (ro8 M vc) 55
  own : y.ownsRow (q + 1) 58 5 vc P.length (coCells P)
  size : S ≤ y.heap.size
theorem OCs.ext {w : World} {q : Nat} {M : Ro} {vc : Value} {P : List Co} {S : Nat} {x y : World} (hE : Ext x y) (h : OCs w q M vc P S x) : OCs w q M vc P S y :=
  ⟨h.extw.trans hE, h.box.ext hE, ownsRow_ext h.own hE, Nat.le_trans h.size hE.le⟩
theorem OCs.app {w : World} {q : Nat} {M : Ro} {vc : Value} {P : List Co} {S : Nat} {x y : World} (hq : w.heap.size ≤ q) (h : OCs w q M vc P S x) (hg : x.grownBy y vc.ownBlock) (hown : y.ownsRow (q + 1) 58 5 vc P.length (coCells P)) : OCs w q M vc P S y := by
  have hne : ∀ p, some p = vc.ownBlock → q + 1 ≤ p := fun p hp => (h.own.lt p hp.symm).1
  exact ⟨h.extw.grown hg (fun p hp => by have := hne p hp.symm; omega), h.box.grown hg (fun e => by have := hne _ e; omega), hown, Nat.le_trans h.size hg.size⟩
/-- What stays true from row to row. -/
structure OSs (w : World) (x : Vw) (u : Value) (vm : Value) (L : List (Ro × Value)) (y : World) : Prop where
  ext : Ext w y
  view : BoxAt y w.heap.size (vw5 x u) 31
  own : y.ownsRow (w.heap.size + 1) 55 8 vm L.length (roCells L)
  cols : ∀ p ∈ L, ColsT y p.2 p.1.cols
theorem OSs.ext' {w : World} {x : Vw} {u : Value} {vm : Value} {L : List (Ro × Value)} {y z : World} (hE : Ext y z) (h : OSs w x u vm L y) : OSs w x u vm L z :=
  ⟨h.ext.trans hE, h.view.ext hE, ownsRow_ext h.own hE, fun p hp => (h.cols p hp).ext hE⟩
theorem OSs.app {w : World} {x : Vw} {u : Value} {vm v' : Value} {L : List (Ro × Value)} {y z : World} {p : Ro × Value} (h : OSs w x u vm L y) (hg : y.grownBy z vm.ownBlock) (hown : z.ownsRow (w.heap.size + 1) 55 8 v' (L.length + 1) (roCells (L ++ [p]))) (hp : ColsT y p.2 p.1.cols) : OSs w x u v' (L ++ [p]) z := by
  have hlt : ∀ q, vm.ownBlock = some q → w.heap.size + 1 ≤ q := fun q hq => (h.own.lt q hq).1
  refine ⟨h.ext.grown hg (fun q hq => by have := hlt q hq; omega), h.view.grown hg (fun e => by have := hlt _ e.symm; omega), by rw [List.length_append]; exact hown, fun r hr => ?_⟩
  rcases List.mem_append.1 hr with hr | hr
  · exact TIn.keepOwn h.own hg (by decide) (h.cols r hr)
  · rw [List.mem_singleton.1 hr]; exact TIn.keepOwn h.own hg (by decide) hp

set_option maxRecDepth 100000 in
set_option maxHeartbeats 8000000 in
theorem only19_any (x : Vw) (u v : Value) (qs : List (Ro × Value)) (w : World) (hin : RowsIn w v qs) (hlen : qs.length ≤ 100000) (hcl : ∀ p ∈ qs, p.1.cols.length ≤ 100000) :
    Calls Try.prog 49 #[.agg #[.string x.name, .int .i64 x.id, .string x.table, .string x.on, u], v] w fun e w' => ∃ v', e = .returned v' ∧ ∃ L, w'.ownsRow (w.heap.size + 1) 55 8 v' L.length (roCells L) ∧ (∀ p ∈ L, ColsT w' p.2 p.1.cols) ∧ L.map (·.1) = (qs.map (·.1)).map (offR x) ∧ Ext w w' := by
  obtain ⟨aa, ca, rfl, hca, hcma, hget⟩ := hin.get
  obtain ⟨n, hn⟩ : ∃ n, n = qs.length := ⟨_, rfl⟩
  rw [← hn] at hlen hca ⊢
  have a0 := BoxAt.made w (vw5 x u) 31
  have hE := (Ext.refl w).alloc (.cells (vw5 x u) 31)
  have HN := Lib.hid hn
  have HGET := Lib.hid hget
  have HCL := Lib.hid hcl
  have HCOLS := Lib.hid hin.cols
  clear hn hget hcl hin
  go_enter Try.func49, Try.ntmps49
  go_wp2
  go_loopw [5, 6] (fun m i wr => ∃ (k : Nat) (L : List (Ro × Value)), k ≤ n ∧ i = .int .i64 k ∧ OSs w x u m L wr ∧ Hid (L.map (·.1) = ((qs.map (·.1)).take k).map (offR x)) ∧ L.length ≤ k) (fun _ i _ => n - (intOf i).toNat)
  case atStart => exact ⟨0, [], Nat.zero_le _, rfl, ⟨hE, a0, World.ownsRow_nil _ _ _ _, nofun⟩, rfl, by simp⟩
  case round =>
    obtain ⟨k, L, hkn, rfl, hS, HO, hLk⟩ := hrel
    clear a0 hE
    by_cases hlt : k < n
    · have hkp : k < qs.length := by rw [← HN.out]; exact hlt
      have hkc := HCL.out _ (List.getElem_mem hkp)
      have hcu := HCOLS.out _ (List.getElem_mem hkp)
      obtain ⟨b, o, rfl, hat⟩ := HGET.out k hkp
      obtain ⟨M, hM⟩ : ∃ M, M = qs[k].1 := ⟨_, rfl⟩
      have hsnoc : (qs.map (·.1)).take (k + 1) = (qs.map (·.1)).take k ++ [M] := by
        rw [List.take_succ_eq_append_getElem (by simpa using hkp), hM]
        simp
      rw [← hM] at hkc hcu hat
      obtain ⟨vu, hvu⟩ : ∃ v, v = qs[k].2 := ⟨_, rfl⟩
      rw [← hvu] at hcu hat
      have HSN := Lib.hid hsnoc
      clear hM hsnoc hvu
      obtain ⟨au, cu, rfl, hcc, hccm, hget2⟩ := hcu.get
      obtain ⟨m, hm⟩ : ∃ m, m = M.cols.length := ⟨_, rfl⟩
      rw [← hm] at hat hcc hkc
      have HMM := Lib.hid hm
      have HG2 := Lib.hid hget2
      clear hm hget2 hcu
      have hatr := hat.ext hS.ext
      have HAT := Lib.hid hatr
      clear hat
      obtain ⟨g0, g1, g2, g3, g4, g5, g6, g7⟩ := hatr
      have hki : decide ((k : Int) < (n : Int)) = true := by simpa using hlt
      obtain ⟨q, hq⟩ : ∃ q, q = wr.heap.size := ⟨_, rfl⟩
      go_wp2_with (((guard_target =~ wpList _ _ _ (Oper.mk none (Op.store _ (Operand.tmp 7) (Operand.tmp 18)) _ _ _ _ :: _) _ _); go_must (refine storeBox rfl 55 (.tmp 7) (.tmp 18) rfl (wr.heap.size) _ _ _ (by rfl) (by rfl) ((BoxAt.made wr (ro8 ⟨⟨#[]⟩, zeroCl, 0, 0, []⟩ (.slice none 0 0)) 55)) (by kernel_rfl) (by rfl) (by simp [Value.oneCell']) ?_); intro w4 c4 h4); have hX4 : Ext wr w4 := ((Ext.refl wr).alloc _).grown h4 (fun q hq => by cases hq; exact Nat.le_refl _); have d4 : BoxAt w4 wr.heap.size (ro8 M (.slice au m cu)) 55 := c4; have f4 := d4.free 7; obtain ⟨y0, y1, y2, y3, y4, y5, y6, y7⟩ := d4.ro)
      rw [← hq] at d4 ⊢
      obtain ⟨w5, hw5⟩ : ∃ w5, w5 = w4.setCell ⟨q, 7, none⟩ (.slice none 0 0) := ⟨_, rfl⟩
      have d5 : BoxAt w5 q (ro8 M (.slice none 0 0)) 55 := by rw [hw5]; exact BoxAt.set d4 7 _
      have hX5 : Ext wr w5 := by rw [hw5]; exact hX4.setCell (p := ⟨q, 7, none⟩) (by show wr.heap.size ≤ q; omega) _
      rw [← hw5]
      have hwq : wr.heap.size ≤ q := by omega
      have A0 : OCs wr q M (.slice none 0 0) [] 0 w5 := ⟨hX5, d5, World.ownsRow_nil _ _ _ _, Nat.zero_le _⟩
      clear hw5 d5 hX5 d4 c4 h4 hX4 f4 y0 y1 y2 y3 y4 y5 y6 y7 g0 g1 g2 g3 g4 g5 g6 g7 hq
      obtain ⟨wo, rfl⟩ : ∃ w', w' = wr := ⟨_, rfl⟩
      go_loopw [8] (fun jv wq => ∃ (j : Nat) (vc : Value) (P : List Co), j ≤ m ∧ jv = .int .i64 j ∧ OCs wo q M vc P 0 wq ∧ Hid (P = flt (fOff x) (M.cols.take j)) ∧ P.length ≤ j) (fun jv _ => m - (intOf jv).toNat)
      case atStart => exact ⟨0, _, [], Nat.zero_le _, rfl, A0, rfl, Nat.le_refl _⟩
      case round =>
        obtain ⟨j, vc, P, hjm, rfl, hC, HP, hPj⟩ := hrel
        clear A0
        obtain ⟨x0, x1, x2, x3, x4, x5, x6, x7⟩ := HAT.out.ext hC.extw
        by_cases hjl : j < m
        · have hjk : j < M.cols.length := by rw [← HMM.out]; exact hjl
          have hji : decide ((j : Int) < (m : Int)) = true := by simpa using hjl
          obtain ⟨b2, o2, rfl, hco⟩ := HG2.out j hjk
          obtain ⟨N, hN⟩ : ∃ N, N = M.cols[j] := ⟨_, rfl⟩
          have hT := flt_take (fOff x) M.cols j hjk
          rw [← hN] at hco hT
          rw [fOff_name] at hT
          obtain ⟨B, hB⟩ : ∃ B, B = (N.name.toList == x.on.toList) := ⟨_, rfl⟩
          have hBs := hB.symm
          rw [← hB] at hT
          have HT := Lib.hid hT
          have hcor := hco.ext (hS.ext.trans hC.extw)
          have HCO := Lib.hid (hco.ext hS.ext)
          obtain ⟨g0, g1, g2, g3, g4⟩ := hcor
          obtain ⟨z0, z1, z2, z3, z4⟩ := (hS.view.ext hC.extw).vw
          clear hN hT hB hco
          go_wp2_with fail
          refine wp_region_tab 12 [(11, fun v _ => v = .bool (!B))] (by kernel_rfl) (by kernel_rfl) (by kernel_rfl) ⟨stays_eq _, trivial⟩ ?_
          replace x7 := held x7
          replace g0 := held g0
          replace z3 := held z3
          refine rg_quiet rfl rfl rfl rfl ?_; intro K hK; go_big_quiet_op; go_big_quiet_on
          refine rg_quiet rfl rfl rfl rfl ?_; intro K hK; go_big_quiet_op; go_big_quiet_on
          refine rg_quiet rfl rfl rfl rfl ?_; intro K hK; go_big_quiet_op; go_big_quiet_on
          refine rg_quiet rfl rfl rfl rfl ?_; intro K hK; go_big_quiet_op; go_big_quiet_on
          refine rg_quiet rfl rfl rfl rfl ?_; intro K hK; go_big_quiet_op; go_big_quiet_on
          refine rg_quiet rfl rfl rfl rfl ?_; intro K hK; go_big_quiet_op; go_big_quiet_on
          refine rg_quiet rfl rfl rfl rfl ?_; intro K hK; go_big_quiet_op; go_big_quiet_on
          refine rg_quiet rfl rfl rfl rfl ?_; intro K hK; go_big_quiet_op; go_big_quiet_on
          refine rg_quiet rfl rfl rfl rfl ?_; intro K hK; go_big_quiet_op; go_big_quiet_on
          refine rg_quiet rfl rfl rfl rfl ?_; intro K hK; go_big_quiet_op; go_big_quiet_on
          refine rg_quiet rfl rfl rfl rfl ?_; intro K hK; go_big_quiet_op; go_big_quiet_on
          refine rg_val [] rfl rfl rfl (by kernel_rfl) (fun y hY hf => ?_) ?_
          · go_simp
            exact rg_done hY (Ext.refl y) (by first | rfl | rw [hBs])
          simp only [Act.put, List.setIfInBounds_toArray, List.set_cons_zero, List.set_cons_succ]
          refine rel_nil fun w6 hE6 _ => ?_
          have hC6 := hC.ext hE6
          clear x0 x1 x2 x3 x4 x5 x6 x7 g0 g1 g2 g3 g4 z0 z1 z2 z3 z4 hC hE6 hBs
          cases B
          · have hT2 : flt (fOff x) (M.cols.take (j + 1)) = P ++ [N] := by rw [HT.out, ← HP.out]; rfl
            have HT2 := Lib.hid hT2
            clear hT2 HT
            go_wp2_with fail
            obtain ⟨ac, cc, rfl⟩ := own_shape hC6.own
            refine wp_region_relE (OCs wo q M (.slice ac P.length cc) P w6.heap.size) (CoE (.slice ac P.length cc) (q + 1) 11) (Tab.atE [(1, fun v _ => v = .slice ac P.length cc), (6, fun v _ => v = .slice (some ⟨b2, o2, none⟩) m cu), (9, fun v _ => v = (.agg #[.string N.name, .string N.cell.val, .bool N.cell.dead, .int .i64 N.cell.at_, .int .i64 N.cell.fin])), (10, fun v x => ∃ b, v = .slice (some ⟨b, 0, none⟩) 1 1 ∧ w6.heap.size ≤ b ∧ BoxAt x b (co5 N) 58), (11, fun v x => x.ownsRow (q + 1) 58 5 v (P.length + 1) (coCells (P ++ [N])))])
              (Tab.staysE ⟨fun _ _ _ _ _ _ h => h, fun _ _ _ _ _ _ h => h, fun _ _ _ _ _ _ h => h, fun _ _ _ _ _ hR ⟨b, e, hb, hx⟩ => ⟨b, e, hb, CoE_far hC6.own.lt hR hb hx⟩, fun _ hj _ _ _ hR h2 => ownsRow_ext h2 (CoE_off hj hR), trivial⟩)
              13 (by kernel_rfl) (by kernel_rfl) (by kernel_rfl) (OCs.ext (Ext.refl w6).drew ⟨hC6.extw, hC6.box, hC6.own, Nat.le_refl _⟩) ?_
            refine relE_quiet rfl rfl rfl rfl ?_; intro K hK; go_big_quiet_op; (first | refine ⟨_, fun _ _ => rfl, hK _ ?_⟩ | refine hK _ ?_); clear hK K
            refine relE_val [] rfl rfl rfl (by kernel_rfl) (fun y hy hf => ?_) ?_
            · obtain ⟨z0, z1, z2, z3, z4, z5, z6, z7⟩ := hy.box.ro
              go_simp
              exact ⟨hy, CoE_ext (by decide) (Ext.refl y), rfl⟩
            simp only [Act.put, List.setIfInBounds_toArray, List.set_cons_zero, List.set_cons_succ]
            refine relE_quiet rfl rfl rfl rfl ?_; intro K hK; go_big_quiet_op; (first | refine ⟨_, fun _ _ => rfl, hK _ ?_⟩ | refine hK _ ?_); clear hK K
            refine relE_quiet rfl rfl rfl rfl ?_; intro K hK; go_big_quiet_op; (first | refine ⟨_, fun _ _ => rfl, hK _ ?_⟩ | refine hK _ ?_); clear hK K
            refine relE_quiet rfl rfl rfl rfl ?_; intro K hK; go_big_quiet_op; (first | refine ⟨_, fun _ _ => rfl, hK _ ?_⟩ | refine hK _ ?_); clear hK K
            refine relE_quiet rfl rfl rfl rfl ?_; intro K hK; go_big_quiet_op; (first | refine ⟨_, fun _ _ => rfl, hK _ ?_⟩ | refine hK _ ?_); clear hK K
            refine relE_val [] rfl rfl rfl (by kernel_rfl) (fun y hy hf => ?_) ?_
            · obtain ⟨z0, z1, z2, z3, z4, z5, z6, z7⟩ := HAT.out.ext hy.extw
              go_simp
              exact ⟨hy, CoE_ext (by decide) (Ext.refl y), rfl⟩
            simp only [Act.put, List.setIfInBounds_toArray, List.set_cons_zero, List.set_cons_succ]
            refine relE_quiet rfl rfl rfl rfl ?_; intro K hK; go_big_quiet_op; (first | refine ⟨_, fun _ _ => rfl, hK _ ?_⟩ | refine hK _ ?_); clear hK K
            refine relE_quiet rfl rfl rfl rfl ?_; intro K hK; go_big_quiet_op; (first | refine ⟨_, fun _ _ => rfl, hK _ ?_⟩ | refine hK _ ?_); clear hK K
            refine relE_val [] rfl rfl rfl (by kernel_rfl) (fun y hy hf => ?_) ?_
            · obtain ⟨z0, z1, z2, z3, z4⟩ := HCO.out.ext hy.extw
              go_simp
              exact ⟨hy, CoE_ext (by decide) (Ext.refl y), rfl⟩
            simp only [Act.put, List.setIfInBounds_toArray, List.set_cons_zero, List.set_cons_succ]
            refine relE_fact [] rfl rfl rfl (by kernel_rfl) (fun y hy hf => ?_) (fun v8 y8 hC8 hG8 h8 => ?_)
            · go_simp
              exact ⟨hy.ext ((Ext.refl y).alloc _), CoE_ext (by decide) ((Ext.refl y).alloc _), _, rfl, hy.size, BoxAt.made y _ _⟩
            obtain ⟨b8, rfl, _⟩ := h8
            clear hC8 hG8
            simp only [Act.put, List.setIfInBounds_toArray, List.set_cons_zero, List.set_cons_succ]
            refine relE_fact [10] rfl rfl rfl (by kernel_rfl) (fun y hy hf => ?_) (fun v9 y9 hC9 hG9 h9 => ?_)
            · obtain ⟨b', e, hb', hbox⟩ := (hf 10 (by simp)).2 rfl
              cases e
              refine yields_append info_Col und_Cols rfl (by decide) (.tmp 43) (.tmp 52) rfl (q + 1) (by have := hy.box.lt; omega) _ P.length (coCells P) hy.own (by rfl) b8 1 1 (co5 N).toList (by rfl) (by rfl) (fun j u hj => by rw [hbox.cell j]; simpa using hj) (by simp [co5, Value.oneCell']) (by unfold maxLen; omega) (by omega) ?_
              intro v' y' hown' hg hkeep
              have HR : CoE (.slice ac P.length cc) (q + 1) 11 11 y y' := by unfold CoE; rw [if_pos rfl]; exact ⟨⟨_, _, hy.own⟩, hg⟩
              refine ⟨hy.app hwq hg hkeep, HR, ?_⟩
              rw [coCells_append]
              exact hown'
            obtain ⟨a9, c9, rfl⟩ := own_shape h9
            clear hC9 hG9 h9
            simp only [Act.put, List.setIfInBounds_toArray, List.set_cons_zero, List.set_cons_succ]
            refine relE_quiet rfl rfl rfl rfl ?_; intro K hK; go_big_quiet_op; (first | refine ⟨_, fun _ _ => rfl, hK _ ?_⟩ | refine hK _ ?_); clear hK K
            refine relE_tail rfl rfl fun y hy hG => ?_
            have hown' := (hG 11).2 rfl
            clear hG
            have qf := hy.box.free 7
            obtain ⟨z0, z1, z2, z3, z4, z5, z6, z7⟩ := hy.box.ro
            go_wp2_with fail
            go_roundw
            case rel =>
              refine ⟨j + 1, _, P ++ [N], by omega, by go_num, ⟨hy.extw.setCell (p := ⟨q, 7, none⟩) (by show wo.heap.size ≤ q; exact hwq) _, hy.box.set 7 _, ?_, Nat.zero_le _⟩, HT2.out.symm, by simp; omega⟩
              rw [List.length_append]
              exact ownsRow_setCell_below hown' (a := ⟨q, 7, none⟩) (by show q < q + 1; omega) _
            case measure => simp [intOf]; omega
          · have hT2 : P = flt (fOff x) (M.cols.take (j + 1)) := by rw [HT.out, ← HP.out]; exact (List.append_nil _).symm
            have HT2 := Lib.hid hT2
            clear hT2 HT
            go_wp2_with fail
            go_roundw
            case rel => exact ⟨j + 1, _, P, by omega, by go_num, hC6, HT2.out, by omega⟩
            case measure => simp [intOf]; omega
        · obtain rfl : j = m := by omega
          have hP2 : P = (offR x M).cols := by rw [HP.out, HMM.out, List.take_length]; rfl
          have HP2 := Lib.hid hP2
          have hji : decide ((j : Int) < (j : Int)) = false := by simp
          obtain ⟨ac, cc, rfl⟩ := own_shape hC.own
          have hSq := hS.ext' hC.extw
          have hCT : ColsT wr (.slice ac P.length cc) P := TIn.own hC.own
          obtain ⟨z0, z1, z2, z3, z4, z5, z6, z7⟩ := hC.box.ro
          have hlq := hSq.view.lt
          clear hP2 HP HG2
          go_wp2_with (at_builtin; go_must (refine appR info_Row und_Rows rfl (by decide) wr rfl (.tmp 55) (.tmp 57) rfl (w.heap.size + 1) hlq _ L.length (roCells L) hSq.own (by rfl) 1 (ro8 M (.slice ac P.length cc)) (by rfl) (by rfl) (by simp [ro8, Value.oneCell']) (by unfold maxLen; omega) (by omega) ?_); intro m3 w13 hown13 hg13)
          have e3 : roCells L ++ (ro8 M (.slice ac P.length cc)).toList = roCells (L ++ [(offR x M, .slice ac P.length cc)]) := by rw [roCells_append]; rfl
          have E3 := Lib.hid e3
          clear e3 x0 x1 x2 x3 x4 x5 x6 x7 z0 z1 z2 z3 z4 z5 z6 z7
          go_roundw
          case rel =>
            refine ⟨k + 1, _, by omega, by go_num, (hSq.ext' ((Ext.refl _).alloc _)).app hg13 (by rw [← E3.out]; exact hown13) (ColsT.ext ((Ext.refl _).alloc _) (by show ColsT wr _ (offR x M).cols; rw [← HP2.out]; exact hCT)), ?_, by simp; omega⟩
            show List.map _ (L ++ [_]) = _
            rw [HSN.out, List.map_append, List.map_append, HO.out]
            rfl
          case measure => simp [intOf] <;> omega
    · obtain rfl : k = n := by omega
      have hki : decide ((k : Int) < (k : Int)) = false := by simp
      go_wp2_with fail
      go_ret
      refine ⟨_, rfl, L, hS.own, fun a b h => hS.cols (a, b) h, ?_, hS.ext⟩
      rw [HO.out, HN.out, List.take_of_length_le (by simp)]
      simp
end Go.Proofs.Yteamiiekpjoclaa
