/- clerestoryref08.Copy. -/
import Derived.Test.YtolkhjdododdaaaGreatDoorP25
import Derived.Test.YtolkhjdododdaaaGreatDoorP5
import Derived.Test.YtolkhjdododdaaaGreatDoorP8
import Derived.Test.YtolkhjdododdaaaGreatDoorP7
import Derived.Test.YtolkhjdododdaaaGreatDoorP23
import Derived.Test.YtolkhjdododdaaaGreatDoorP17
set_option linter.unusedSimpArgs false
set_option linter.unusedVariables false
namespace Go.Proofs.YtolkhjdododdaaaGreatDoor
open Go Go.RowKit
attribute [local go_sem] yields yUpon ro8 pa3

/-- Operation n appends to rows of one's own; the others let memory grow. -/
def RoE (vo : Value) (B n j : Nat) (x y : World) : Prop := if j = n then (∃ m xs, x.ownsRow B 47 8 vo m xs) ∧ x.grownBy y vo.ownBlock else Ext x y
section
variable {vo : Value} {B n j : Nat} {x y : World}
theorem RoE_ext (hj : j ≠ n) (h : Ext x y) : RoE vo B n j x y := by unfold RoE; rw [if_neg hj]; exact h
theorem RoE_off (hj : j ≠ n) (h : RoE vo B n j x y) : Ext x y := by unfold RoE at h; rwa [if_neg hj] at h
theorem RoE_cols (h : RoE vo B n j x y) {v : Value} {l : List Co} (hc : ColsT x v l) : ColsT y v l := by
 unfold RoE at h
 split at h
 ·obtain ⟨⟨m, xs, hown⟩, hg⟩ := h
  exact TIn.keepOwn hown hg (by decide) hc
 ·exact hc.ext h
theorem RoE_far {S B' : Nat} (hlt : ∀ q, vo.ownBlock = some q → B' ≤ q ∧ q < S) (h : RoE vo B n j x y) {b : Nat} (hb : S ≤ b) {cs : Array Value} {e : TypeId} (hx : BoxAt x b cs e) : BoxAt y b cs e := by
 unfold RoE at h
 split at h
 ·exact hx.grown h.2 (fun e => by have := (hlt _ e.symm).2; omega)
 ·exact hx.ext h
end
/-- The copy under way. -/
structure CpC (w : World) (k : ByteArray) (g : Int) (u : Value) (q : Nat) (vo : Value) (qs : List (Ro × Value)) (S : Nat) (x : World) : Prop where
 extw : Ext w x
 b1 : BoxAt x w.heap.size (pa3 k g u) 39
 b2 : BoxAt x (w.heap.size + 1) (pa3 ⟨#[]⟩ 0 (.slice none 0 0)) 39
 b3 : BoxAt x q (pa3 k g vo) 39
 own : x.ownsRow (w.heap.size + 3) 47 8 vo qs.length (roCells qs)
 typed : ∀ p ∈ qs, ColsT x p.2 p.1.cols
 size : S ≤ x.heap.size
theorem CpC.ext {w x y : World} {k : ByteArray} {g : Int} {u : Value} {q : Nat} {vo : Value} {qs : List (Ro × Value)} {S : Nat} (hE : Ext x y) (h : CpC w k g u q vo qs S x) : CpC w k g u q vo qs S y :=
 ⟨h.extw.trans hE, h.b1.ext hE, h.b2.ext hE, h.b3.ext hE, ownsRow_ext h.own hE, fun p hp => (h.typed p hp).ext hE, Nat.le_trans h.size hE.le⟩
theorem CpC.app {w x y : World} {k : ByteArray} {g : Int} {u : Value} {q : Nat} {vo : Value} {qs : List (Ro × Value)} {S : Nat} (hq : q < w.heap.size + 3) (h : CpC w k g u q vo qs S x) (hg : x.grownBy y vo.ownBlock) (hown : y.ownsRow (w.heap.size + 3) 47 8 vo qs.length (roCells qs)) : CpC w k g u q vo qs S y := by
 have hne : ∀ q, some q = vo.ownBlock → w.heap.size + 3 ≤ q := fun q hq => (h.own.lt q hq.symm).1
 exact ⟨h.extw.grown hg (fun q hq => by have := hne q hq.symm; omega), h.b1.grown hg (fun e => by have := hne _ e; omega), h.b2.grown hg (fun e => by have := hne _ e; omega), h.b3.grown hg (fun e => by have := hne _ e; omega), hown, fun p hp => TIn.keepOwn h.own hg (by decide) (h.typed p hp), Nat.le_trans h.size hg.size⟩

set_option maxRecDepth 100000 in
set_option maxHeartbeats 8000000 in
theorem copy8_any (k : ByteArray) (g : Int) (u : Value) (ps : List (Ro × Value)) (w : World) (h : RowsIn w u ps) (hlen : ps.length ≤ 10000) (hcl : ∀ p ∈ ps, p.1.cols.length ≤ 1000000) :
  Calls Tryz.prog 28 #[.agg #[.string k, .int .i64 g, u]] w fun e w' => ∃ v', e = .returned (.agg #[.string k, .int .i64 g, v']) ∧ ∃ qs, RowsT w' v' qs ∧ qs.map (·.1) = ps.map (·.1) ∧ Ext w w' := by
 obtain ⟨a0, a1, hE⟩ := boxes2 w (pa3 k g u) (pa3 ⟨#[]⟩ 0 (.slice none 0 0)) 39 39
 obtain ⟨a, c, rfl, hc, hcm, hget⟩ := h.get
 obtain ⟨n, hn⟩ : ∃ n, n = ps.length := ⟨_, rfl⟩
 rw [← hn] at a0 a1 hE h hlen hc ⊢
 have HN := Lib.hid hn
 have HGET := Lib.hid hget
 have HCL := Lib.hid hcl
 clear hn hget hcl
 go_enter Tryz.func28, Tryz.ntmps28
 go_wp2_with (((guard_target =~ wpList _ _ _ (Oper.mk none (Op.store _ (Operand.tmp 3) (Operand.tmp 9)) _ _ _ _ :: _) _ _); go_must (refine storeBox rfl 39 (.tmp 3) (.tmp 9) rfl (w.heap.size + 1 + 1) _ _ _ (by rfl) (by rfl) ((BoxAt.madeN (pa3 ⟨#[]⟩ 0 (.slice none 0 0)) 39 (by simp))) (by kernel_rfl) (by rfl) (by simp [Value.oneCell']) ?_); intro w4 c4 g4); have hX4 : Ext w w4 := (hE.alloc (.cells (pa3 ⟨#[]⟩ 0 (.slice none 0 0)) 39)).grown g4 (fun q hq => by cases hq; omega); have b1 : BoxAt w4 w.heap.size (pa3 k g (.slice a n c)) 39 := (a0.ext ((Ext.refl _).alloc _)).grown g4 (fun e => by have := Option.some.inj e; omega); have b2 : BoxAt w4 (w.heap.size + 1) (pa3 ⟨#[]⟩ 0 (.slice none 0 0)) 39 := (a1.ext ((Ext.refl _).alloc _)).grown g4 (fun e => by have := Option.some.inj e; omega))
 obtain ⟨q, hq⟩ : ∃ q, q = w.heap.size + 1 + 1 := ⟨_, rfl⟩
 rw [← hq] at c4 ⊢
 have hq3 : w.heap.size + 1 < q ∧ q < w.heap.size + 3 := by omega
 have A0 : CpC w k g (.slice a n c) q (.slice none 0 0) [] 0 w4 := ⟨hX4, b1, b2, c4, World.ownsRow_nil _ _ _ _, nofun, Nat.zero_le _⟩
 clear hE a0 a1 g4 hX4 b1 b2 c4 hq
 go_loopw [4] (fun i wr => ∃ (j : Nat) (vo : Value) (qs : List (Ro × Value)), j ≤ n ∧ i = .int .i64 j ∧ CpC w k g (.slice a n c) q vo qs 0 wr ∧ Hid (qs.map (·.1) = (ps.map (·.1)).take j)) (fun i _ => n - (intOf i).toNat)
 case atStart => exact ⟨0, _, [], Nat.zero_le _, rfl, A0, rfl⟩
 case round =>
  obtain ⟨j, vo, qs, hj, rfl, hcp, HQ⟩ := hrel
  clear A0
  have hql : qs.length ≤ j := by
   have := congrArg List.length HQ.out
   rw [List.length_map, List.length_take, List.length_map] at this
   omega
  have e2 : wr.cell? ⟨w.heap.size, 2, none⟩ = some (.slice a n c) := hcp.b1.cell 2
  by_cases hlt : j < n
  ·have t1 : decide ((j : Int) < (n : Int)) = true := by simp; omega
   have hjp : j < ps.length := by rw [← HN.out]; exact hlt
   obtain ⟨b, o, rfl, hat⟩ := HGET.out j hjp
   obtain ⟨r, hr⟩ : ∃ r, r = ps[j].1 := ⟨_, rfl⟩
   obtain ⟨vr, hvr⟩ : ∃ v, v = ps[j].2 := ⟨_, rfl⟩
   have hct : ColsIn w vr r.cols := by rw [hr, hvr]; exact h.cols _ (List.getElem_mem hjp)
   have hrl : r.cols.length ≤ 1000000 := by rw [hr]; exact HCL.out _ (List.getElem_mem hjp)
   have hrow : (ps.map (·.1)).take (j + 1) = (ps.map (·.1)).take j ++ [r] := by
    rw [List.take_succ_eq_append_getElem (by rw [List.length_map]; exact hjp), List.getElem_map, hr]
   rw [← hr, ← hvr] at hat
   have HROW := Lib.hid hrow
   have HAT := Lib.hid hat
   clear hr hvr hrow hat
   obtain ⟨ar, cr, rfl⟩ := hct.shape
   obtain ⟨ao, co, rfl⟩ := own_shape hcp.own
   go_wp2_with fail
   refine wp_region_relE (CpC w k g (.slice (some ⟨b, o, none⟩) n c) q (.slice ao qs.length co) qs wr.heap.size) (RoE (.slice ao qs.length co) (w.heap.size + 3) 9) (Tab.atE [(1, fun v _ => v = .slice ao qs.length co), (3, fun v _ => v = .slice (some ⟨b, o, none⟩) n c), (6, fun v _ => v = (.agg #[.string r.key, .string r.live.val, .bool r.live.dead, .int .i64 r.live.at_, .int .i64 r.live.fin, .int .i64 r.gone, .int .i64 r.shade, (.slice ar r.cols.length cr)])), (7, fun v x => ∃ v', v = (.agg #[.string r.key, .string r.live.val, .bool r.live.dead, .int .i64 r.live.at_, .int .i64 r.live.fin, .int .i64 r.gone, .int .i64 r.shade, v']) ∧ ColsT x v' r.cols), (8, fun v x => ∃ v' b, v = .slice (some ⟨b, 0, none⟩) 1 1 ∧ wr.heap.size ≤ b ∧ BoxAt x b (ro8 r v') 47 ∧ ColsT x v' r.cols), (9, fun v x => ∃ v', ColsT x v' r.cols ∧ x.ownsRow (w.heap.size + 3) 47 8 v (qs.length + 1) (roCells (qs ++ [(r, v')])))])
    (Tab.staysE ⟨fun _ _ _ _ _ _ h => h, fun _ _ _ _ _ _ h => h, fun _ _ _ _ _ _ h => h, fun _ _ _ _ _ hR ⟨v', e, h1⟩ => ⟨v', e, RoE_cols hR h1⟩, fun _ _ _ _ _ hR ⟨v', b, e, hb, hx, h1⟩ => ⟨v', b, e, hb, RoE_far hcp.own.lt hR hb hx, RoE_cols hR h1⟩, fun _ hj _ _ _ hR ⟨v', h1, h2⟩ => ⟨v', RoE_cols hR h1, ownsRow_ext h2 (RoE_off hj hR)⟩, trivial⟩)
    11 (by kernel_rfl) (by kernel_rfl) (by kernel_rfl) (CpC.ext (Ext.refl wr).drew ⟨hcp.extw, hcp.b1, hcp.b2, hcp.b3, hcp.own, hcp.typed, Nat.le_refl _⟩) ?_
   refine relE_quiet rfl rfl rfl rfl ?_; intro K hK; go_big_quiet_op; (first | refine ⟨_, fun _ _ => rfl, hK _ ?_⟩ | refine hK _ ?_); clear hK K
   refine relE_val [] rfl rfl rfl (by kernel_rfl) (fun y hy hf => ?_) ?_
   ·obtain ⟨z0, z1, z2⟩ := hy.b3.pa
    go_simp
    exact ⟨hy, RoE_ext (by decide) (Ext.refl y), rfl⟩
   simp only [Act.put, List.setIfInBounds_toArray, List.set_cons_zero, List.set_cons_succ]
   refine relE_quiet rfl rfl rfl rfl ?_; intro K hK; go_big_quiet_op; (first | refine ⟨_, fun _ _ => rfl, hK _ ?_⟩ | refine hK _ ?_); clear hK K
   refine relE_val [] rfl rfl rfl (by kernel_rfl) (fun y hy hf => ?_) ?_
   ·obtain ⟨z0, z1, z2⟩ := hy.b1.pa
    go_simp
    exact ⟨hy, RoE_ext (by decide) (Ext.refl y), rfl⟩
   simp only [Act.put, List.setIfInBounds_toArray, List.set_cons_zero, List.set_cons_succ]
   refine relE_quiet rfl rfl rfl rfl ?_; intro K hK; go_big_quiet_op; (first | refine ⟨_, fun _ _ => rfl, hK _ ?_⟩ | refine hK _ ?_); clear hK K
   refine relE_quiet rfl rfl rfl rfl ?_; intro K hK; go_big_quiet_op; (first | refine ⟨_, fun _ _ => rfl, hK _ ?_⟩ | refine hK _ ?_); clear hK K
   refine relE_val [] rfl rfl rfl (by kernel_rfl) (fun y hy hf => ?_) ?_
   ·obtain ⟨z0, z1, z2, z3, z4, z5, z6, z7⟩ := HAT.out.ext hy.extw
    go_simp
    exact ⟨hy, RoE_ext (by decide) (Ext.refl y), rfl⟩
   simp only [Act.put, List.setIfInBounds_toArray, List.set_cons_zero, List.set_cons_succ]
   refine relE_fact [] rfl rfl rfl (by kernel_rfl) (fun y hy hf => ?_) (fun v7 y7 hC7 hG7 h7 => ?_)
   ·go_simp
    refine (copyRow_any r _ y (hct.ext hy.extw) hrl).mono ?_
    rintro e y' ⟨v', rfl, h1, h2⟩
    exact ⟨_, rfl, hy.ext h2, RoE_ext (by decide) h2, v', rfl, h1⟩
   obtain ⟨v7, rfl, h7⟩ := h7
   obtain ⟨a7, c7, rfl⟩ := TIn.shape h7
   clear hC7 hG7 h7
   simp only [Act.put, List.setIfInBounds_toArray, List.set_cons_zero, List.set_cons_succ]
   refine relE_fact [7] rfl rfl rfl (by kernel_rfl) (fun y hy hf => ?_) (fun v8 y8 hC8 hG8 h8 => ?_)
   ·obtain ⟨v', e, h1⟩ := (hf 7 (by simp)).2 rfl
    cases e
    go_simp
    exact ⟨hy.ext ((Ext.refl y).alloc _), RoE_ext (by decide) ((Ext.refl y).alloc _), _, _, rfl, hy.size, BoxAt.made y _ _, h1.ext ((Ext.refl y).alloc _)⟩
   obtain ⟨v8, b8, rfl, _⟩ := h8
   clear hC8 hG8
   simp only [Act.put, List.setIfInBounds_toArray, List.set_cons_zero, List.set_cons_succ]
   refine relE_fact [8] rfl rfl rfl (by kernel_rfl) (fun y hy hf => ?_) (fun v9 y9 hC9 hG9 h9 => ?_)
   ·obtain ⟨v', b', e, hb', hbox, h1⟩ := (hf 8 (by simp)).2 rfl
    cases e
    obtain ⟨av, cv, rfl⟩ := TIn.shape h1
    refine yields_append info_Row und_Rows rfl (by decide) (.tmp 18) (.tmp 25) rfl (w.heap.size + 3) (by have := hy.b3.lt; omega) _ qs.length (roCells qs) hy.own (by rfl) b8 1 1 (ro8 r (.slice av r.cols.length cv)).toList (by rfl) (by rfl) (fun j u hj => by rw [hbox.cell j]; simpa using hj) (by simp [ro8, Value.oneCell']) (by unfold maxLen; omega) (by omega) ?_
    intro v' y' hown' hg hkeep
    have HR : RoE (.slice ao qs.length co) (w.heap.size + 3) 9 9 y y' := by unfold RoE; rw [if_pos rfl]; exact ⟨⟨_, _, hy.own⟩, hg⟩
    refine ⟨hy.app hq3.2 hg hkeep, HR, _, RoE_cols HR h1, ?_⟩
    rw [roCells_append]
    exact hown'
   obtain ⟨vr9, _, h9⟩ := h9
   obtain ⟨a9, c9, rfl⟩ := own_shape h9
   clear hC9 hG9 h9
   simp only [Act.put, List.setIfInBounds_toArray, List.set_cons_zero, List.set_cons_succ]
   refine relE_quiet rfl rfl rfl rfl ?_; intro K hK; go_big_quiet_op; (first | refine ⟨_, fun _ _ => rfl, hK _ ?_⟩ | refine hK _ ?_); clear hK K
   refine relE_tail rfl rfl fun x hx hG => ?_
   obtain ⟨vr', h1, hown'⟩ := (hG 9).2 rfl
   clear hG e2
   obtain ⟨q0, q1, q2⟩ := hx.b3.pa
   have qf := hx.b3.free 2
   go_wp2_with fail
   go_roundw
   case rel =>
    refine ⟨j + 1, _, qs ++ [(r, vr')], by omega, by go_num, ⟨hx.extw.setCell (p := ⟨q, 2, none⟩) (by show w.heap.size ≤ q; omega) _, hx.b1.other (by omega) 2 _, hx.b2.other (by omega) 2 _, hx.b3.set 2 _, ?_, ?_, Nat.zero_le _⟩, ?_⟩
    ·rw [List.length_append]
     exact ownsRow_setCell_below hown' (a := ⟨q, 2, none⟩) (by show q < w.heap.size + 3; omega) _
    ·intro p hp
     rcases List.mem_append.1 hp with hp | hp
     ·exact TIn.set 2 _ hx.b3 (by decide) (hx.typed p hp)
     ·rw [List.mem_singleton.1 hp]
      exact TIn.set 2 _ hx.b3 (by decide) h1
    ·show _ = _
     rw [List.map_append, HQ.out, HROW.out]
     rfl
   case measure => simp [intOf]; omega
  ·obtain rfl : j = n := by omega
   obtain ⟨ao, co, rfl⟩ := own_shape hcp.own
   obtain ⟨z0, z1, z2⟩ := hcp.b3.pa
   have hb2 := hcp.b2
   go_wp2_with ((guard_target =~ wpList _ _ _ (Oper.mk none (Op.store _ (Operand.tmp 2) (Operand.tmp 28)) _ _ _ _ :: _) _ _); go_must (refine storeBox rfl 39 (.tmp 2) (.tmp 28) rfl (w.heap.size + 1) _ _ _ (by rfl) (by rfl) (hb2) (by kernel_rfl) (by rfl) (by simp [Value.oneCell']) ?_); intro w8 c8 g8)
   have hX8 := hcp.extw.grown g8 (fun q hq => by cases hq; omega)
   have hrows : RowsT w8 (.slice ao qs.length co) qs := ⟨TIn.keep g8 hb2 (by decide) (TIn.own hcp.own), fun p hp => ColsT.keep g8 hb2 (by decide) (hcp.typed p hp)⟩
   have hmap : qs.map (·.1) = ps.map (·.1) := by rw [HQ.out, List.take_of_length_le (by rw [List.length_map, ← HN.out]; exact Nat.le_refl _)]
   clear z0 z1 z2
   obtain ⟨z0, z1, z2⟩ := BoxAt.pa (k := k) (g := g) (u := .slice ao qs.length co) c8
   refine bodyPost_ret (v := .agg #[.string k, .int .i64 g, .slice ao qs.length co]) ?_ rfl ⟨_, rfl, qs, hrows, hmap, hX8⟩
   simp [results, Tryz.results28, go_sem, Act.put, z0, z1, z2]
end Go.Proofs.YtolkhjdododdaaaGreatDoor

/- clerestoryref08.Copy. -/


/- clerestoryref08.put. -/
namespace Go.Proofs.YtolkhjdododdaaaGreatDoor
open Go Go.RowKit
attribute [local go_sem] yields yUpon ro8

theorem keyR_less (a b : Ro) : keyR a b < 0 ↔ Op.bytesLess a.key.toList b.key.toList = true := by
 unfold keyR
 rw [cmpB_less, ByteArray.toList_eq, ByteArray.toList_eq]
 unfold less
 by_cases h : Op.bytesLess a.key.data.toList b.key.data.toList = true
 ·rw [if_pos h]; simp [h]
 ·rw [if_neg h]
  constructor
  ·intro h'; split at h' <;> omega
  ·intro h'; exact absurd h' h
theorem keyR_eq0 (a b : Ro) : keyR a b = 0 ↔ (a.key.toList == b.key.toList) = true := by
 rw [ByteArray.toList_eq, ByteArray.toList_eq, beq_iff_eq]
 constructor
 ·exact fun h => cmpB_zero h
 ·intro h; unfold keyR; rw [h]; exact cmpB_self _
/-- What stays true while a row is put into a list that is under way. -/
structure PutR (w : World) (S B : Nat) (r : Ro) (vr : Value) (vm : Value) (P : List (Ro × Value)) (x : World) : Prop where
 extw : Ext w x
 own : x.ownsRow B 47 8 vm P.length (roCells P)
 box : BoxAt x w.heap.size (ro8 r vr) 47
 size : S ≤ x.heap.size
theorem PutR.ext {w x y : World} {S B : Nat} {r : Ro} {vr : Value} {vm : Value} {P : List (Ro × Value)} (hE : Ext x y) (h : PutR w S B r vr vm P x) : PutR w S B r vr vm P y := ⟨h.extw.trans hE, ownsRow_ext h.own hE, h.box.ext hE, Nat.le_trans h.size hE.le⟩

set_option maxRecDepth 100000 in
set_option maxHeartbeats 16000000 in
theorem put8_any (v : Value) (ps : List (Ro × Value)) (r : Ro) (vr : Value) (w : World) (h : RowsT w v ps) (hr : ColsIn w vr r.cols) (hlen : ps.length ≤ 400000) (hcl : ∀ p ∈ ps, p.1.cols.length + r.cols.length ≤ 300000) (hrl : r.cols.length ≤ 300000) :
  Calls Tryz.prog 29 #[v, (.agg #[.string r.key, .string r.live.val, .bool r.live.dead, .int .i64 r.live.at_, .int .i64 r.live.fin, .int .i64 r.gone, .int .i64 r.shade, vr])] w fun e w' => ∃ v', e = .returned v' ∧ ∃ qs, RowsT w' v' qs ∧ qs.map (·.1) = mergeG keyR foldRo (ps.map (·.1)) [r] ∧ Ext w w' := by
 obtain ⟨a, cp, rfl, hc, hcm, hget⟩ := h.rows.get
 obtain ⟨ar, cr, rfl⟩ := hr.shape
 have b0 := BoxAt.made w (ro8 r (.slice ar r.cols.length cr)) 47
 have hE0 := (Ext.refl w).alloc (.cells (ro8 r (.slice ar r.cols.length cr)) 47)
 obtain ⟨rn, hrn⟩ : ∃ rn, rn = r.cols.length := ⟨_, rfl⟩
 rw [← hrn] at b0 hE0 hr ⊢
 obtain ⟨n, hn⟩ : ∃ n, n = ps.length := ⟨_, rfl⟩
 rw [← hn] at h hlen hc ⊢
 have HGET := Lib.hid hget
 have HN := Lib.hid hn
 have HCL := Lib.hid hcl
 have HRN := Lib.hid hrn
 clear hget hn hcl hrn
 go_enter Tryz.func29, Tryz.ntmps29
 go_wp2_with fail
 go_loopw [5] (fun i wr => ∃ k : Nat, k ≤ n ∧ i = .int .i64 k ∧ Hid (∀ j (_ : j < k) (hl : j < ps.length), keyR (ps[j]'hl).1 r < 0) ∧ Ext (w.alloc (.cells (ro8 r (.slice ar rn cr)) 47)) wr) (fun i _ => n - (intOf i).toNat)
 case atStart => exact ⟨0, Nat.zero_le _, rfl, fun j h => by omega, Ext.refl _⟩
 case round =>
  obtain ⟨k, hk, rfl, HK, hE⟩ := hrel
  have hb := b0.ext hE
  have x0 : wr.cell? ⟨w.heap.size, 0, none⟩ = some (.string r.key) := hb.cell 0
  have HKM : Hid (∀ j (_ : j < k) (hl : j < (ps.map (·.1)).length), keyR ((ps.map (·.1))[j]'hl) r < 0) := fun j hj hl => by
   rw [List.getElem_map]
   exact HK.out j hj (by rwa [List.length_map] at hl)
  by_cases hlt : k < n
  ·have t1 : decide ((k : Int) < (n : Int)) = true := by simp; omega
   have hkl : k < ps.length := by rw [← HN.out]; exact hlt
   obtain ⟨b, o, rfl, hat⟩ := HGET.out k hkl
   obtain ⟨d, hd⟩ : ∃ d, d = ps[k].1 := ⟨_, rfl⟩
   obtain ⟨vd, hvd⟩ : ∃ d, d = ps[k].2 := ⟨_, rfl⟩
   rw [← hd, ← hvd] at hat
   have y0 := (hat.ext (hE0.trans hE)).c0
   have HD := Lib.hid hd
   have HVD := Lib.hid hvd
   have HAT := Lib.hid hat
   clear hd hat hvd
   by_cases hless : Op.bytesLess d.key.toList r.key.toList = true
   ·go_wp2_with fail
    refine wp_region_tab 14 [] (by kernel_rfl) (by kernel_rfl) (by kernel_rfl) trivial ?_
    replace x0 := held x0
    replace y0 := held y0
    refine rg_quiet rfl rfl rfl rfl ?_; intro K hK; go_big_quiet_op; go_big_quiet_on
    refine rg_quiet rfl rfl rfl rfl ?_; intro K hK; go_big_quiet_op; go_big_quiet_on
    refine rg_quiet rfl rfl rfl rfl ?_; intro K hK; go_big_quiet_op; go_big_quiet_on
    refine rg_quiet rfl rfl rfl rfl ?_; intro K hK; go_big_quiet_op; go_big_quiet_on
    refine rg_quiet rfl rfl rfl rfl ?_; intro K hK; go_big_quiet_op; go_big_quiet_on
    refine rg_quiet rfl rfl rfl rfl ?_; intro K hK; go_big_quiet_op; go_big_quiet_on
    refine rg_quiet rfl rfl rfl rfl ?_; intro K hK; go_big_quiet_op; go_big_quiet_on
    refine rg_quiet rfl rfl rfl rfl ?_; intro K hK; go_big_quiet_op; go_big_quiet_on
    refine rg_quiet rfl rfl rfl rfl ?_; intro K hK; go_big_quiet_op; go_big_quiet_on
    refine rg_quiet rfl rfl rfl rfl ?_; intro K hK; go_big_quiet_op; go_big_quiet_on
    refine rg_quiet rfl rfl rfl rfl ?_; intro K hK; go_big_quiet_op; go_big_quiet_on
    refine rg_quiet rfl rfl rfl rfl ?_; intro K hK; go_big_quiet_op; go_big_quiet_on
    refine rg_quiet rfl rfl rfl rfl ?_; intro K hK; go_big_quiet_op; go_big_quiet_on
    refine rg_quiet rfl rfl rfl rfl ?_; intro K hK; go_big_quiet_op; go_big_quiet_on
    refine rel_nil fun w5 hE5 _ => ?_
    clear x0 y0
    go_wp2_with fail
    go_roundw
    case rel =>
     refine ⟨k + 1, by omega, by go_num, fun j hj hl => ?_, hE.trans hE5⟩
     by_cases e : j < k
     ·exact HK.out j e hl
     ·obtain rfl : j = k := by omega
      rw [← HD.out]
      exact (keyR_less d r).2 hless
    case measure => simp [intOf]; omega
   ·have hlf : Op.bytesLess d.key.toList r.key.toList = false := by simpa using hless
    have hin5 := rows_take (RowsIn.ext (hE0.trans hE) h.rows) hk HN.out
    obtain ⟨P, hP⟩ : ∃ P, P = ps.take k := ⟨_, rfl⟩
    have hPl : P.length ≤ n := by rw [hP, List.length_take]; omega
    rw [← hP] at hin5
    have HP := Lib.hid hP
    clear hP
    by_cases heq : (d.key.toList == r.key.toList) = true
    ·go_wp2_with fail
     refine wp_region_tab 14 [] (by kernel_rfl) (by kernel_rfl) (by kernel_rfl) trivial ?_
     replace x0 := held x0
     replace y0 := held y0
     refine rg_quiet rfl rfl rfl rfl ?_; intro K hK; go_big_quiet_op; go_big_quiet_on
     refine rg_quiet rfl rfl rfl rfl ?_; intro K hK; go_big_quiet_op; go_big_quiet_on
     refine rg_quiet rfl rfl rfl rfl ?_; intro K hK; go_big_quiet_op; go_big_quiet_on
     refine rg_quiet rfl rfl rfl rfl ?_; intro K hK; go_big_quiet_op; go_big_quiet_on
     refine rg_quiet rfl rfl rfl rfl ?_; intro K hK; go_big_quiet_op; go_big_quiet_on
     refine rg_quiet rfl rfl rfl rfl ?_; intro K hK; go_big_quiet_op; go_big_quiet_on
     refine rg_quiet rfl rfl rfl rfl ?_; intro K hK; go_big_quiet_op; go_big_quiet_on
     refine rg_quiet rfl rfl rfl rfl ?_; intro K hK; go_big_quiet_op; go_big_quiet_on
     refine rg_quiet rfl rfl rfl rfl ?_; intro K hK; go_big_quiet_op; go_big_quiet_on
     refine rg_quiet rfl rfl rfl rfl ?_; intro K hK; go_big_quiet_op; go_big_quiet_on
     refine rg_quiet rfl rfl rfl rfl ?_; intro K hK; go_big_quiet_op; go_big_quiet_on
     refine rg_quiet rfl rfl rfl rfl ?_; intro K hK; go_big_quiet_op; go_big_quiet_on
     refine rg_quiet rfl rfl rfl rfl ?_; intro K hK; go_big_quiet_op; go_big_quiet_on
     refine rg_quiet rfl rfl rfl rfl ?_; intro K hK; go_big_quiet_op; go_big_quiet_on
     refine rel_nil fun w5 hE5 _ => ?_
     clear x0 y0
     replace hin5 := hin5.ext hE5
     go_wp2_with (at_builtin; go_must (refine appRows w5 rfl (.const (.slice none 0 0)) (.tmp 25) rfl w5.heap.size (Nat.le_refl _) _ [] (World.ownsRow_nil _ _ _ _) (by rfl) _ P hin5 (by rfl) (by simp; omega) ?_); intro v6 w6 hown6 hg6; rw [List.nil_append] at hown6; obtain ⟨a6, c6, rfl⟩ := own_shape hown6)
     have hE56 : Ext w5 w6 := (Ext.refl w5).grown hg6 (fun q hq => by cases hq)
     have hEw6 : Ext w w6 := ((hE0.trans hE).trans hE5).trans hE56
     have hb6 := hb.ext (hE5.trans hE56)
     have x0 : w6.cell? ⟨w.heap.size, 0, none⟩ = some (.string r.key) := hb6.cell 0
     have y0 := (HAT.out.ext hEw6).c0
     clear hin5
     refine wp_region_tab 14 [] (by kernel_rfl) (by kernel_rfl) (by kernel_rfl) trivial ?_
     replace x0 := held x0
     replace y0 := held y0
     refine rg_quiet rfl rfl rfl rfl ?_; intro K hK; go_big_quiet_op; go_big_quiet_on
     refine rg_quiet rfl rfl rfl rfl ?_; intro K hK; go_big_quiet_op; go_big_quiet_on
     refine rg_quiet rfl rfl rfl rfl ?_; intro K hK; go_big_quiet_op; go_big_quiet_on
     refine rg_quiet rfl rfl rfl rfl ?_; intro K hK; go_big_quiet_op; go_big_quiet_on
     refine rg_quiet rfl rfl rfl rfl ?_; intro K hK; go_big_quiet_op; go_big_quiet_on
     refine rg_quiet rfl rfl rfl rfl ?_; intro K hK; go_big_quiet_op; go_big_quiet_on
     refine rg_quiet rfl rfl rfl rfl ?_; intro K hK; go_big_quiet_op; go_big_quiet_on
     refine rg_quiet rfl rfl rfl rfl ?_; intro K hK; go_big_quiet_op; go_big_quiet_on
     refine rg_quiet rfl rfl rfl rfl ?_; intro K hK; go_big_quiet_op; go_big_quiet_on
     refine rg_quiet rfl rfl rfl rfl ?_; intro K hK; go_big_quiet_op; go_big_quiet_on
     refine rg_quiet rfl rfl rfl rfl ?_; intro K hK; go_big_quiet_op; go_big_quiet_on
     refine rg_quiet rfl rfl rfl rfl ?_; intro K hK; go_big_quiet_op; go_big_quiet_on
     refine rg_quiet rfl rfl rfl rfl ?_; intro K hK; go_big_quiet_op; go_big_quiet_on
     refine rg_quiet rfl rfl rfl rfl ?_; intro K hK; go_big_quiet_op; go_big_quiet_on
     refine rel_nil fun w7 hE7 _ => ?_
     clear x0 y0
     have hb7 := hb6.ext hE7
     replace hown6 := ownsRow_ext hown6 hE7
     have hEw7 := hEw6.trans hE7
     have hPT : ∀ p ∈ P, ColsT w p.2 p.1.cols := fun p hp => h.typed p (List.mem_of_mem_take (by rw [HP.out] at hp; exact hp))
     have HPT := Lib.hid hPT
     clear hPT
     have hdT : ColsT w vd d.cols := by rw [HD.out, HVD.out]; exact h.typed _ (List.getElem_mem hkl)
     have hdl : d.cols.length + r.cols.length ≤ 300000 := by rw [HD.out]; exact HCL.out _ (List.getElem_mem hkl)
     obtain ⟨ad, cd, rfl⟩ := TIn.shape hdT
     obtain ⟨x0, x1, x2, x3, x4, x5, x6, x7⟩ := hb7.ro
     obtain ⟨y0, y1, y2, y3, y4, y5, y6, y7⟩ := HAT.out.ext hEw7
     obtain ⟨R, hR⟩ : ∃ R, R = foldRo d r := ⟨_, rfl⟩
     have HR := Lib.hid hR
     clear hR
     go_wp2_with fail
     refine wp_region_tab 8 [(6, fun v x => ∃ v', v = (.agg #[.string R.key, .string R.live.val, .bool R.live.dead, .int .i64 R.live.at_, .int .i64 R.live.fin, .int .i64 R.gone, .int .i64 R.shade, v']) ∧ ColsT x v' R.cols), (7, fun v x => ∃ v' b, v = .slice (some ⟨b, 0, none⟩) 1 1 ∧ BoxAt x b (ro8 R v') 47 ∧ ColsT x v' R.cols)] (by kernel_rfl) (by kernel_rfl) (by kernel_rfl) ⟨fun _ _ _ hE ⟨v', e, h⟩ => ⟨v', e, h.ext hE⟩, fun _ _ _ hE ⟨v', b, e, h, h'⟩ => ⟨v', b, e, h.ext hE, h'.ext hE⟩, trivial⟩ ?_
     replace x0 := held x0
     replace x1 := held x1
     replace x2 := held x2
     replace x3 := held x3
     replace x4 := held x4
     replace x5 := held x5
     replace x6 := held x6
     replace x7 := held x7
     replace y0 := held y0
     replace y1 := held y1
     replace y2 := held y2
     replace y3 := held y3
     replace y4 := held y4
     replace y5 := held y5
     replace y6 := held y6
     replace y7 := held y7
     refine rg_quiet rfl rfl rfl rfl ?_; intro K hK; go_big_quiet_op; go_big_quiet_on
     refine rg_quiet rfl rfl rfl rfl ?_; intro K hK; go_big_quiet_op; go_big_quiet_on
     refine rg_quiet rfl rfl rfl rfl ?_; intro K hK; go_big_quiet_op; go_big_quiet_on
     refine rg_quiet rfl rfl rfl rfl ?_; intro K hK; go_big_quiet_op; go_big_quiet_on
     refine rg_quiet rfl rfl rfl rfl ?_; intro K hK; go_big_quiet_op; go_big_quiet_on
     refine rg_quiet rfl rfl rfl rfl ?_; intro K hK; go_big_quiet_op; go_big_quiet_on
     refine rg_fact [] rfl rfl rfl (by kernel_rfl) (fun y hE hf => ?_) (fun v11 y11 hE11 hG11 h11 => ?_)
     ·go_simp
      refine (join7_any d r _ _ y (hdT.ext (hEw7.trans hE)) (ColsIn.ext (hEw7.trans hE) hr) hdl).mono ?_
      rw [← HR.out]
      rintro e y' ⟨v', rfl, h1, h2⟩
      exact ⟨_, rfl, rg_doneR hE h2 ⟨v', rfl, h1⟩⟩
     obtain ⟨v11, rfl, h11⟩ := h11
     obtain ⟨a11, c11, rfl⟩ := TIn.shape h11
     clear hE11 hG11 h11
     simp only [Act.put, List.setIfInBounds_toArray, List.set_cons_zero, List.set_cons_succ]
     refine rg_fact [6] rfl rfl rfl (by kernel_rfl) (fun y hE hf => ?_) (fun v12 y12 hE12 hG12 h12 => ?_)
     ·obtain ⟨v', e, h1⟩ := (hf 6 (by simp)).2 rfl
      cases e
      go_simp
      exact rg_doneR hE ((Ext.refl y).alloc _) ⟨_, _, rfl, BoxAt.made y _ _, h1.ext ((Ext.refl y).alloc _)⟩
     obtain ⟨v12, b12, rfl, _⟩ := h12
     clear hE12 hG12
     simp only [Act.put, List.setIfInBounds_toArray, List.set_cons_zero, List.set_cons_succ]
     refine rel_tail rfl rfl fun w8 hE8 hG => ?_
     obtain ⟨v12', b12', e12, hbx, hct8⟩ := (hG 7).2 rfl
     cases e12
     replace hown6 := ownsRow_ext hown6 hE8
     have hEw8 := hEw7.trans hE8
     have hrows8 := rows_one hbx hct8.cols
     have hB : w.heap.size + 1 ≤ w5.heap.size := by have := hb.lt; have := hE5.le; omega
     clear hG x0 x1 x2 x3 x4 x5 x6 x7 y0 y1 y2 y3 y4 y5 y6 y7 hbx
     go_wp2_with (first
      | ((guard_target =~ wpList _ _ _ (Oper.mk (some 49) _ _ _ _ _ :: _) _ _); at_builtin; go_must (refine appRows w8 rfl (.tmp 41) (.tmp 48) rfl w5.heap.size (Nat.le_trans hE56.le (Nat.le_trans hE7.le hE8.le)) _ P hown6 (by rfl) _ [(R, v12')] hrows8 (by rfl) (by simp; omega) ?_); intro v9 w9 hown9 hg9; obtain ⟨P2, hP2⟩ : ∃ P2, P2 = P ++ [(R, v12')] := ⟨_, rfl⟩; rw [← hP2] at hown9; have hPl2 : P2.length ≤ n + 1 := (by rw [hP2]; simp; omega); replace hP2 := Lib.hid hP2; obtain ⟨a9, c9, rfl⟩ := own_shape hown9; have hEw9 : Ext w w9 := hEw8.grown hg9 (fun q hq => by have := (hown6.lt q hq).1; omega); have hct9 : ColsT w9 v12' R.cols := TIn.keepOwn hown6 hg9 (by decide) hct8)
      | ((guard_target =~ wpList _ _ _ (Oper.mk (some 54) _ _ _ _ _ :: _) _ _); go_must (refine wpList_from rfl und_Rows (size := 8) (by kernel_rfl) (.tmp 51) (.tmp 53) rfl rfl rfl hlt ?_); simp only [Act.put, List.setIfInBounds_toArray, List.set_cons_zero, List.set_cons_succ])
      | ((guard_target =~ wpList _ _ _ (Oper.mk (some 55) _ _ _ _ _ :: _) _ _); at_builtin; go_must (refine appRows w9 rfl (.tmp 50) (.tmp 54) rfl w5.heap.size (Nat.le_trans hE56.le (Nat.le_trans (Nat.le_trans hE7.le hE8.le) hg9.size)) _ P2 hown9 (by rfl) _ (ps.drop (k + 1)) (rows_drop (RowsIn.ext hEw9 h.rows) hlt HN.out) (by rfl) (by have := HN.out; simp; omega) ?_); intro v10 w10 hown10 hg10; have hEw10 : Ext w w10 := hEw9.grown hg10 (fun q hq => by have := (hown9.lt q hq).1; omega); have hct10 : ColsT w10 v12' R.cols := TIn.keepOwn hown9 hg10 (by decide) hct9))
     go_ret
     refine ⟨_, rfl, P2 ++ ps.drop (k + 1), ⟨TIn.own hown10, fun p hp => ?_⟩, ?_, hEw10⟩
     ·rw [hP2.out] at hp
      rcases List.mem_append.1 hp with hp | hp
      ·rcases List.mem_append.1 hp with hp | hp
       ·exact ColsT.ext hEw10 (HPT.out p hp)
       ·rw [List.mem_singleton.1 hp]; exact hct10
      ·exact ColsT.ext hEw10 (h.typed p (List.mem_of_mem_drop hp))
     ·have hz : keyR ((ps.map (·.1))[k]'(by rw [List.length_map]; exact hkl)) r = 0 := by rw [List.getElem_map, ← HD.out]; exact (keyR_eq0 d r).2 heq
      have e := mergeG_hit (join := foldRo) r (ps.map (·.1)) k (by rw [List.length_map]; exact hkl) (fun j h hl => HKM.out j h hl) hz
      rw [e, hP2.out, HP.out, List.getElem_map, ← HD.out, ← HR.out, List.append_assoc, List.map_append, List.map_append, List.map_take, List.map_drop]
      rfl
    ·have hef : (d.key.toList == r.key.toList) = false := by simpa using heq
     go_wp2_with fail
     refine wp_region_tab 14 [] (by kernel_rfl) (by kernel_rfl) (by kernel_rfl) trivial ?_
     replace x0 := held x0
     replace y0 := held y0
     refine rg_quiet rfl rfl rfl rfl ?_; intro K hK; go_big_quiet_op; go_big_quiet_on
     refine rg_quiet rfl rfl rfl rfl ?_; intro K hK; go_big_quiet_op; go_big_quiet_on
     refine rg_quiet rfl rfl rfl rfl ?_; intro K hK; go_big_quiet_op; go_big_quiet_on
     refine rg_quiet rfl rfl rfl rfl ?_; intro K hK; go_big_quiet_op; go_big_quiet_on
     refine rg_quiet rfl rfl rfl rfl ?_; intro K hK; go_big_quiet_op; go_big_quiet_on
     refine rg_quiet rfl rfl rfl rfl ?_; intro K hK; go_big_quiet_op; go_big_quiet_on
     refine rg_quiet rfl rfl rfl rfl ?_; intro K hK; go_big_quiet_op; go_big_quiet_on
     refine rg_quiet rfl rfl rfl rfl ?_; intro K hK; go_big_quiet_op; go_big_quiet_on
     refine rg_quiet rfl rfl rfl rfl ?_; intro K hK; go_big_quiet_op; go_big_quiet_on
     refine rg_quiet rfl rfl rfl rfl ?_; intro K hK; go_big_quiet_op; go_big_quiet_on
     refine rg_quiet rfl rfl rfl rfl ?_; intro K hK; go_big_quiet_op; go_big_quiet_on
     refine rg_quiet rfl rfl rfl rfl ?_; intro K hK; go_big_quiet_op; go_big_quiet_on
     refine rg_quiet rfl rfl rfl rfl ?_; intro K hK; go_big_quiet_op; go_big_quiet_on
     refine rg_quiet rfl rfl rfl rfl ?_; intro K hK; go_big_quiet_op; go_big_quiet_on
     refine rel_nil fun w5 hE5 _ => ?_
     clear x0 y0
     replace hin5 := hin5.ext hE5
     go_wp2_with (at_builtin; go_must (refine appRows w5 rfl (.const (.slice none 0 0)) (.tmp 25) rfl w5.heap.size (Nat.le_refl _) _ [] (World.ownsRow_nil _ _ _ _) (by rfl) _ P hin5 (by rfl) (by simp; omega) ?_); intro v6 w6 hown6 hg6; rw [List.nil_append] at hown6; obtain ⟨a6, c6, rfl⟩ := own_shape hown6)
     have hE56 : Ext w5 w6 := (Ext.refl w5).grown hg6 (fun q hq => by cases hq)
     have hEw6 : Ext w w6 := ((hE0.trans hE).trans hE5).trans hE56
     have hb6 := hb.ext (hE5.trans hE56)
     have x0 : w6.cell? ⟨w.heap.size, 0, none⟩ = some (.string r.key) := hb6.cell 0
     have y0 := (HAT.out.ext hEw6).c0
     clear hin5
     refine wp_region_tab 14 [] (by kernel_rfl) (by kernel_rfl) (by kernel_rfl) trivial ?_
     replace x0 := held x0
     replace y0 := held y0
     refine rg_quiet rfl rfl rfl rfl ?_; intro K hK; go_big_quiet_op; go_big_quiet_on
     refine rg_quiet rfl rfl rfl rfl ?_; intro K hK; go_big_quiet_op; go_big_quiet_on
     refine rg_quiet rfl rfl rfl rfl ?_; intro K hK; go_big_quiet_op; go_big_quiet_on
     refine rg_quiet rfl rfl rfl rfl ?_; intro K hK; go_big_quiet_op; go_big_quiet_on
     refine rg_quiet rfl rfl rfl rfl ?_; intro K hK; go_big_quiet_op; go_big_quiet_on
     refine rg_quiet rfl rfl rfl rfl ?_; intro K hK; go_big_quiet_op; go_big_quiet_on
     refine rg_quiet rfl rfl rfl rfl ?_; intro K hK; go_big_quiet_op; go_big_quiet_on
     refine rg_quiet rfl rfl rfl rfl ?_; intro K hK; go_big_quiet_op; go_big_quiet_on
     refine rg_quiet rfl rfl rfl rfl ?_; intro K hK; go_big_quiet_op; go_big_quiet_on
     refine rg_quiet rfl rfl rfl rfl ?_; intro K hK; go_big_quiet_op; go_big_quiet_on
     refine rg_quiet rfl rfl rfl rfl ?_; intro K hK; go_big_quiet_op; go_big_quiet_on
     refine rg_quiet rfl rfl rfl rfl ?_; intro K hK; go_big_quiet_op; go_big_quiet_on
     refine rg_quiet rfl rfl rfl rfl ?_; intro K hK; go_big_quiet_op; go_big_quiet_on
     refine rg_quiet rfl rfl rfl rfl ?_; intro K hK; go_big_quiet_op; go_big_quiet_on
     refine rel_nil fun w7 hE7 _ => ?_
     clear x0 y0
     have hb7 := hb6.ext hE7
     replace hown6 := ownsRow_ext hown6 hE7
     have hEw7 := hEw6.trans hE7
     have hPT : ∀ p ∈ P, ColsT w p.2 p.1.cols := fun p hp => h.typed p (List.mem_of_mem_take (by rw [HP.out] at hp; exact hp))
     have HPT := Lib.hid hPT
     clear hPT
     have hB : w.heap.size + 1 ≤ w5.heap.size := by have := hb.lt; have := hE5.le; omega
     have hlt6 := hown6.lt
     go_wp2_with fail
     refine wp_region_relE (PutR w w7.heap.size w5.heap.size r (.slice ar rn cr) (.slice a6 P.length c6) P) (RoE (.slice a6 P.length c6) w5.heap.size 4) (Tab.atE [(1, fun v _ => v = (.agg #[.string r.key, .string r.live.val, .bool r.live.dead, .int .i64 r.live.at_, .int .i64 r.live.fin, .int .i64 r.gone, .int .i64 r.shade, (.slice ar rn cr)])), (2, fun v x => ∃ v', v = (.agg #[.string r.key, .string r.live.val, .bool r.live.dead, .int .i64 r.live.at_, .int .i64 r.live.fin, .int .i64 r.gone, .int .i64 r.shade, v']) ∧ ColsT x v' r.cols), (3, fun v x => ∃ v' b, v = .slice (some ⟨b, 0, none⟩) 1 1 ∧ w7.heap.size ≤ b ∧ BoxAt x b (ro8 r v') 47 ∧ ColsT x v' r.cols), (4, fun v x => ∃ v', ColsT x v' r.cols ∧ x.ownsRow w5.heap.size 47 8 v (P.length + 1) (roCells (P ++ [(r, v')]))), (7, fun v _ => v = dropV (some ⟨b, o, none⟩) n cp k 8)])
      (Tab.staysE ⟨fun _ _ _ _ _ _ h => h, fun _ _ _ _ _ hR ⟨v', e, h1⟩ => ⟨v', e, RoE_cols hR h1⟩, fun _ _ _ _ _ hR ⟨v', b, e, hb, hx, h1⟩ => ⟨v', b, e, hb, RoE_far hlt6 hR hb hx, RoE_cols hR h1⟩, fun _ hj _ _ _ hR ⟨v', h1, h2⟩ => ⟨v', RoE_cols hR h1, ownsRow_ext h2 (RoE_off hj hR)⟩, fun _ _ _ _ _ _ h => h, trivial⟩)
      8 (by kernel_rfl) (by kernel_rfl) (by kernel_rfl) ⟨hEw7.trans (Ext.refl w7).drew, ownsRow_ext hown6 (Ext.refl w7).drew, hb7.ext (Ext.refl w7).drew, (Ext.refl w7).drew.le⟩ ?_
     refine relE_quiet rfl rfl rfl rfl ?_; intro K hK; go_big_quiet_op; (first | refine ⟨_, fun _ _ => rfl, hK _ ?_⟩ | refine hK _ ?_); clear hK K
     refine relE_val [] rfl rfl rfl (by kernel_rfl) (fun y hy hf => ?_) ?_
     ·obtain ⟨z0, z1, z2, z3, z4, z5, z6, z7⟩ := hy.box.ro
      go_simp
      exact ⟨hy, RoE_ext (by decide) (Ext.refl y), rfl⟩
     simp only [Act.put, List.setIfInBounds_toArray, List.set_cons_zero, List.set_cons_succ]
     refine relE_fact [] rfl rfl rfl (by kernel_rfl) (fun y hy hf => ?_) (fun v11 y11 hC11 hG11 h11 => ?_)
     ·go_simp
      refine (copyRow_any r _ y (ColsIn.ext hy.extw hr) (by omega)).mono ?_
      rintro e y' ⟨v', rfl, h1, h2⟩
      exact ⟨_, rfl, hy.ext h2, RoE_ext (by decide) h2, v', rfl, h1⟩
     obtain ⟨v11, rfl, h11⟩ := h11
     obtain ⟨a11, c11, rfl⟩ := TIn.shape h11
     clear hC11 hG11 h11
     simp only [Act.put, List.setIfInBounds_toArray, List.set_cons_zero, List.set_cons_succ]
     refine relE_fact [2] rfl rfl rfl (by kernel_rfl) (fun y hy hf => ?_) (fun v12 y12 hC12 hG12 h12 => ?_)
     ·obtain ⟨v', e, h1⟩ := (hf 2 (by simp)).2 rfl
      cases e
      go_simp
      exact ⟨hy.ext ((Ext.refl y).alloc _), RoE_ext (by decide) ((Ext.refl y).alloc _), _, _, rfl, hy.size, BoxAt.made y _ _, h1.ext ((Ext.refl y).alloc _)⟩
     obtain ⟨v12, b12, rfl, _⟩ := h12
     clear hC12 hG12
     simp only [Act.put, List.setIfInBounds_toArray, List.set_cons_zero, List.set_cons_succ]
     refine relE_fact [3] rfl rfl rfl (by kernel_rfl) (fun y hy hf => ?_) (fun v13 y13 hC13 hG13 h13 => ?_)
     ·obtain ⟨v', b', e, hb', hbox, h1⟩ := (hf 3 (by simp)).2 rfl
      cases e
      obtain ⟨av, cv, rfl⟩ := TIn.shape h1
      refine yields_append info_Row und_Rows rfl (by decide) (.tmp 56) (.tmp 59) rfl w5.heap.size (by have := hy.size; have := hE7.le; have := hE56.le; omega) _ P.length (roCells P) hy.own (by rfl) b12 1 1 (ro8 r (.slice av r.cols.length cv)).toList (by rfl) (by rfl) (fun j u hj => by rw [hbox.cell j]; simpa using hj) (by simp [ro8, Value.oneCell']) (by unfold maxLen; omega) (by omega) ?_
      intro v' y' hown' hg hkeep
      have HR : RoE (.slice a6 P.length c6) w5.heap.size 4 4 y y' := by unfold RoE; rw [if_pos rfl]; exact ⟨⟨_, _, hy.own⟩, hg⟩
      refine ⟨⟨hy.extw.grown hg (fun q hq => by have := (hy.own.lt q hq).1; omega), hkeep, hy.box.grown hg (fun e => by have := (hy.own.lt _ e.symm).1; omega), Nat.le_trans hy.size hg.size⟩, HR, _, RoE_cols HR h1, ?_⟩
      rw [roCells_append]
      exact hown'
     obtain ⟨vr9, _, h13⟩ := h13
     obtain ⟨a13, c13, rfl⟩ := own_shape h13
     clear hC13 hG13 h13
     simp only [Act.put, List.setIfInBounds_toArray, List.set_cons_zero, List.set_cons_succ]
     refine relE_quiet rfl rfl rfl rfl ?_; intro K hK; go_big_quiet_op; (first | refine ⟨_, fun _ _ => rfl, hK _ ?_⟩ | refine hK _ ?_); clear hK K
     refine relE_quiet rfl rfl rfl rfl ?_; intro K hK; go_big_quiet_op; (first | refine ⟨_, fun _ _ => rfl, hK _ ?_⟩ | refine hK _ ?_); clear hK K
     refine relE_val [] rfl rfl rfl (by kernel_rfl) (fun y hy hf => ?_) ?_
     ·exact yields_from und_Rows (size := 8) (by kernel_rfl) (.tmp 61) (.tmp 62) rfl rfl rfl hk ⟨hy, RoE_ext (by decide) (Ext.refl y), rfl⟩
     simp only [Act.put, List.setIfInBounds_toArray, List.set_cons_zero, List.set_cons_succ]
     refine relE_tail rfl rfl fun w8 hC hG => ?_
     obtain ⟨vr', hct8, hown8⟩ := (hG 4).2 rfl
     obtain ⟨P2, hP2⟩ : ∃ P2, P2 = P ++ [(r, vr')] := ⟨_, rfl⟩
     have hPl2 : P2.length = P.length + 1 := by rw [hP2]; simp
     rw [← hP2, ← hPl2] at hown8
     rw [← hPl2]
     have HP2 := Lib.hid hP2
     have hsz8 := hC.size
     have hEw8 := hC.extw
     have hP3 : P2.length ≤ n + 1 := by omega
     clear hG hC hP2 hPl2
     go_wp2_with (at_builtin; go_must (refine appRows w8 rfl (.tmp 60) (.tmp 63) rfl w5.heap.size (by have := hE7.le; have := hE56.le; omega) _ P2 hown8 (by rfl) _ (ps.drop k) (rows_drop (RowsIn.ext hEw8 h.rows) hk HN.out) (by rfl) (by have := HN.out; simp; omega) ?_); intro v10 w10 hown10 hg10; have hEw10 : Ext w w10 := hEw8.grown hg10 (fun q hq => by have := (hown8.lt q hq).1; omega); have hct10 : ColsT w10 vr' r.cols := TIn.keepOwn hown8 hg10 (by decide) hct8)
     go_ret
     refine ⟨_, rfl, P2 ++ ps.drop k, ⟨TIn.own hown10, fun p hp => ?_⟩, ?_, hEw10⟩
     ·rw [HP2.out] at hp
      rcases List.mem_append.1 hp with hp | hp
      ·rcases List.mem_append.1 hp with hp | hp
       ·exact ColsT.ext hEw10 (HPT.out p hp)
       ·rw [List.mem_singleton.1 hp]; exact hct10
      ·exact ColsT.ext hEw10 (h.typed p (List.mem_of_mem_drop hp))
     ·have hz : 0 < keyR ((ps.map (·.1))[k]'(by rw [List.length_map]; exact hkl)) r := by
       rw [List.getElem_map, ← HD.out]
       have h1 := mt (keyR_less d r).1 (by rw [hlf]; decide)
       have h2 := mt (keyR_eq0 d r).1 (by rw [hef]; decide)
       omega
      have e := mergeG_new (join := foldRo) r (ps.map (·.1)) k (by rw [List.length_map]; exact hkl) (fun j h hl => HKM.out j h hl) hz
      rw [e, HP2.out, HP.out, List.append_assoc, List.map_append, List.map_append, List.map_take, List.map_drop]
      rfl
  ·obtain rfl : k = n := by omega
   have hin5 := rows_take (RowsIn.ext (hE0.trans hE) h.rows) hk HN.out
   obtain ⟨P, hP⟩ : ∃ P, P = ps.take k := ⟨_, rfl⟩
   have hPl : P.length ≤ k := by rw [hP, List.length_take]; omega
   rw [← hP] at hin5
   have HP := Lib.hid hP
   clear hP
   go_wp2_with fail
   refine wp_region_tab 14 [] (by kernel_rfl) (by kernel_rfl) (by kernel_rfl) trivial ?_
   refine rg_quiet rfl rfl rfl rfl ?_; intro K hK; go_big_quiet_op; go_big_quiet_on
   refine rg_quiet rfl rfl rfl rfl ?_; intro K hK; go_big_quiet_op; go_big_quiet_on
   refine rg_quiet rfl rfl rfl rfl ?_; intro K hK; go_big_quiet_op; go_big_quiet_on
   refine rg_quiet rfl rfl rfl rfl ?_; intro K hK; go_big_quiet_op; go_big_quiet_on
   refine rg_quiet rfl rfl rfl rfl ?_; intro K hK; go_big_quiet_op; go_big_quiet_on
   refine rel_skip rfl rfl ?_
   simp only [Act.put, List.setIfInBounds_toArray, List.set_cons_zero, List.set_cons_succ]
   refine rel_skip rfl rfl ?_
   simp only [Act.put, List.setIfInBounds_toArray, List.set_cons_zero, List.set_cons_succ]
   refine rel_skip rfl rfl ?_
   simp only [Act.put, List.setIfInBounds_toArray, List.set_cons_zero, List.set_cons_succ]
   refine rel_skip rfl rfl ?_
   simp only [Act.put, List.setIfInBounds_toArray, List.set_cons_zero, List.set_cons_succ]
   refine rel_skip rfl rfl ?_
   simp only [Act.put, List.setIfInBounds_toArray, List.set_cons_zero, List.set_cons_succ]
   refine rel_skip rfl rfl ?_
   simp only [Act.put, List.setIfInBounds_toArray, List.set_cons_zero, List.set_cons_succ]
   refine rel_skip rfl rfl ?_
   simp only [Act.put, List.setIfInBounds_toArray, List.set_cons_zero, List.set_cons_succ]
   refine rel_skip rfl rfl ?_
   simp only [Act.put, List.setIfInBounds_toArray, List.set_cons_zero, List.set_cons_succ]
   refine rg_quiet rfl rfl rfl rfl ?_; intro K hK; go_big_quiet_op; go_big_quiet_on
   refine rel_nil fun w5 hE5 _ => ?_
   clear x0
   replace hin5 := hin5.ext hE5
   go_wp2_with (at_builtin; go_must (refine appRows w5 rfl (.const (.slice none 0 0)) (.tmp 25) rfl w5.heap.size (Nat.le_refl _) _ [] (World.ownsRow_nil _ _ _ _) (by rfl) _ P hin5 (by rfl) (by simp; omega) ?_); intro v6 w6 hown6 hg6; rw [List.nil_append] at hown6; obtain ⟨a6, c6, rfl⟩ := own_shape hown6)
   have hE56 : Ext w5 w6 := (Ext.refl w5).grown hg6 (fun q hq => by cases hq)
   have hEw6 : Ext w w6 := ((hE0.trans hE).trans hE5).trans hE56
   have hb6 := hb.ext (hE5.trans hE56)
   refine wp_region_tab 14 [] (by kernel_rfl) (by kernel_rfl) (by kernel_rfl) trivial ?_
   refine rg_quiet rfl rfl rfl rfl ?_; intro K hK; go_big_quiet_op; go_big_quiet_on
   refine rg_quiet rfl rfl rfl rfl ?_; intro K hK; go_big_quiet_op; go_big_quiet_on
   refine rg_quiet rfl rfl rfl rfl ?_; intro K hK; go_big_quiet_op; go_big_quiet_on
   refine rg_quiet rfl rfl rfl rfl ?_; intro K hK; go_big_quiet_op; go_big_quiet_on
   refine rg_quiet rfl rfl rfl rfl ?_; intro K hK; go_big_quiet_op; go_big_quiet_on
   refine rel_skip rfl rfl ?_
   simp only [Act.put, List.setIfInBounds_toArray, List.set_cons_zero, List.set_cons_succ]
   refine rel_skip rfl rfl ?_
   simp only [Act.put, List.setIfInBounds_toArray, List.set_cons_zero, List.set_cons_succ]
   refine rel_skip rfl rfl ?_
   simp only [Act.put, List.setIfInBounds_toArray, List.set_cons_zero, List.set_cons_succ]
   refine rel_skip rfl rfl ?_
   simp only [Act.put, List.setIfInBounds_toArray, List.set_cons_zero, List.set_cons_succ]
   refine rel_skip rfl rfl ?_
   simp only [Act.put, List.setIfInBounds_toArray, List.set_cons_zero, List.set_cons_succ]
   refine rel_skip rfl rfl ?_
   simp only [Act.put, List.setIfInBounds_toArray, List.set_cons_zero, List.set_cons_succ]
   refine rel_skip rfl rfl ?_
   simp only [Act.put, List.setIfInBounds_toArray, List.set_cons_zero, List.set_cons_succ]
   refine rel_skip rfl rfl ?_
   simp only [Act.put, List.setIfInBounds_toArray, List.set_cons_zero, List.set_cons_succ]
   refine rg_quiet rfl rfl rfl rfl ?_; intro K hK; go_big_quiet_op; go_big_quiet_on
   refine rel_nil fun w7 hE7 _ => ?_
   have hb7 := hb6.ext hE7
   replace hown6 := ownsRow_ext hown6 hE7
   have hEw7 := hEw6.trans hE7
   have hPT : ∀ p ∈ P, ColsT w p.2 p.1.cols := fun p hp => h.typed p (List.mem_of_mem_take (by rw [HP.out] at hp; exact hp))
   have HPT := Lib.hid hPT
   clear hPT
   have hB : w.heap.size + 1 ≤ w5.heap.size := by have := hb.lt; have := hE5.le; omega
   have hlt6 := hown6.lt
   go_wp2_with fail
   refine wp_region_relE (PutR w w7.heap.size w5.heap.size r (.slice ar rn cr) (.slice a6 P.length c6) P) (RoE (.slice a6 P.length c6) w5.heap.size 4) (Tab.atE [(1, fun v _ => v = (.agg #[.string r.key, .string r.live.val, .bool r.live.dead, .int .i64 r.live.at_, .int .i64 r.live.fin, .int .i64 r.gone, .int .i64 r.shade, (.slice ar rn cr)])), (2, fun v x => ∃ v', v = (.agg #[.string r.key, .string r.live.val, .bool r.live.dead, .int .i64 r.live.at_, .int .i64 r.live.fin, .int .i64 r.gone, .int .i64 r.shade, v']) ∧ ColsT x v' r.cols), (3, fun v x => ∃ v' b, v = .slice (some ⟨b, 0, none⟩) 1 1 ∧ w7.heap.size ≤ b ∧ BoxAt x b (ro8 r v') 47 ∧ ColsT x v' r.cols), (4, fun v x => ∃ v', ColsT x v' r.cols ∧ x.ownsRow w5.heap.size 47 8 v (P.length + 1) (roCells (P ++ [(r, v')]))), (7, fun v _ => v = dropV a k cp k 8)])
    (Tab.staysE ⟨fun _ _ _ _ _ _ h => h, fun _ _ _ _ _ hR ⟨v', e, h1⟩ => ⟨v', e, RoE_cols hR h1⟩, fun _ _ _ _ _ hR ⟨v', b, e, hb, hx, h1⟩ => ⟨v', b, e, hb, RoE_far hlt6 hR hb hx, RoE_cols hR h1⟩, fun _ hj _ _ _ hR ⟨v', h1, h2⟩ => ⟨v', RoE_cols hR h1, ownsRow_ext h2 (RoE_off hj hR)⟩, fun _ _ _ _ _ _ h => h, trivial⟩)
    8 (by kernel_rfl) (by kernel_rfl) (by kernel_rfl) ⟨hEw7.trans (Ext.refl w7).drew, ownsRow_ext hown6 (Ext.refl w7).drew, hb7.ext (Ext.refl w7).drew, (Ext.refl w7).drew.le⟩ ?_
   refine relE_quiet rfl rfl rfl rfl ?_; intro K hK; go_big_quiet_op; (first | refine ⟨_, fun _ _ => rfl, hK _ ?_⟩ | refine hK _ ?_); clear hK K
   refine relE_val [] rfl rfl rfl (by kernel_rfl) (fun y hy hf => ?_) ?_
   ·obtain ⟨z0, z1, z2, z3, z4, z5, z6, z7⟩ := hy.box.ro
    go_simp
    exact ⟨hy, RoE_ext (by decide) (Ext.refl y), rfl⟩
   simp only [Act.put, List.setIfInBounds_toArray, List.set_cons_zero, List.set_cons_succ]
   refine relE_fact [] rfl rfl rfl (by kernel_rfl) (fun y hy hf => ?_) (fun v11 y11 hC11 hG11 h11 => ?_)
   ·go_simp
    refine (copyRow_any r _ y (ColsIn.ext hy.extw hr) (by omega)).mono ?_
    rintro e y' ⟨v', rfl, h1, h2⟩
    exact ⟨_, rfl, hy.ext h2, RoE_ext (by decide) h2, v', rfl, h1⟩
   obtain ⟨v11, rfl, h11⟩ := h11
   obtain ⟨a11, c11, rfl⟩ := TIn.shape h11
   clear hC11 hG11 h11
   simp only [Act.put, List.setIfInBounds_toArray, List.set_cons_zero, List.set_cons_succ]
   refine relE_fact [2] rfl rfl rfl (by kernel_rfl) (fun y hy hf => ?_) (fun v12 y12 hC12 hG12 h12 => ?_)
   ·obtain ⟨v', e, h1⟩ := (hf 2 (by simp)).2 rfl
    cases e
    go_simp
    exact ⟨hy.ext ((Ext.refl y).alloc _), RoE_ext (by decide) ((Ext.refl y).alloc _), _, _, rfl, hy.size, BoxAt.made y _ _, h1.ext ((Ext.refl y).alloc _)⟩
   obtain ⟨v12, b12, rfl, _⟩ := h12
   clear hC12 hG12
   simp only [Act.put, List.setIfInBounds_toArray, List.set_cons_zero, List.set_cons_succ]
   refine relE_fact [3] rfl rfl rfl (by kernel_rfl) (fun y hy hf => ?_) (fun v13 y13 hC13 hG13 h13 => ?_)
   ·obtain ⟨v', b', e, hb', hbox, h1⟩ := (hf 3 (by simp)).2 rfl
    cases e
    obtain ⟨av, cv, rfl⟩ := TIn.shape h1
    refine yields_append info_Row und_Rows rfl (by decide) (.tmp 56) (.tmp 59) rfl w5.heap.size (by have := hy.size; have := hE7.le; have := hE56.le; omega) _ P.length (roCells P) hy.own (by rfl) b12 1 1 (ro8 r (.slice av r.cols.length cv)).toList (by rfl) (by rfl) (fun j u hj => by rw [hbox.cell j]; simpa using hj) (by simp [ro8, Value.oneCell']) (by unfold maxLen; omega) (by omega) ?_
    intro v' y' hown' hg hkeep
    have HR : RoE (.slice a6 P.length c6) w5.heap.size 4 4 y y' := by unfold RoE; rw [if_pos rfl]; exact ⟨⟨_, _, hy.own⟩, hg⟩
    refine ⟨⟨hy.extw.grown hg (fun q hq => by have := (hy.own.lt q hq).1; omega), hkeep, hy.box.grown hg (fun e => by have := (hy.own.lt _ e.symm).1; omega), Nat.le_trans hy.size hg.size⟩, HR, _, RoE_cols HR h1, ?_⟩
    rw [roCells_append]
    exact hown'
   obtain ⟨vr9, _, h13⟩ := h13
   obtain ⟨a13, c13, rfl⟩ := own_shape h13
   clear hC13 hG13 h13
   simp only [Act.put, List.setIfInBounds_toArray, List.set_cons_zero, List.set_cons_succ]
   refine relE_quiet rfl rfl rfl rfl ?_; intro K hK; go_big_quiet_op; (first | refine ⟨_, fun _ _ => rfl, hK _ ?_⟩ | refine hK _ ?_); clear hK K
   refine relE_quiet rfl rfl rfl rfl ?_; intro K hK; go_big_quiet_op; (first | refine ⟨_, fun _ _ => rfl, hK _ ?_⟩ | refine hK _ ?_); clear hK K
   refine relE_val [] rfl rfl rfl (by kernel_rfl) (fun y hy hf => ?_) ?_
   ·exact yields_from und_Rows (size := 8) (by kernel_rfl) (.tmp 61) (.tmp 62) rfl rfl rfl (Nat.le_refl _) ⟨hy, RoE_ext (by decide) (Ext.refl y), rfl⟩
   simp only [Act.put, List.setIfInBounds_toArray, List.set_cons_zero, List.set_cons_succ]
   refine relE_tail rfl rfl fun w8 hC hG => ?_
   obtain ⟨vr', hct8, hown8⟩ := (hG 4).2 rfl
   obtain ⟨P2, hP2⟩ : ∃ P2, P2 = P ++ [(r, vr')] := ⟨_, rfl⟩
   have hPl2 : P2.length = P.length + 1 := by rw [hP2]; simp
   rw [← hP2, ← hPl2] at hown8
   rw [← hPl2]
   have HP2 := Lib.hid hP2
   have hsz8 := hC.size
   have hEw8 := hC.extw
   have hP3 : P2.length ≤ k + 1 := by omega
   clear hG hC hP2 hPl2
   go_wp2_with (at_builtin; go_must (refine appRows w8 rfl (.tmp 60) (.tmp 63) rfl w5.heap.size (by have := hE7.le; have := hE56.le; omega) _ P2 hown8 (by rfl) _ (ps.drop k) (rows_drop (RowsIn.ext hEw8 h.rows) (Nat.le_refl _) HN.out) (by rfl) (by have := HN.out; simp; omega) ?_); intro v10 w10 hown10 hg10; have hEw10 : Ext w w10 := hEw8.grown hg10 (fun q hq => by have := (hown8.lt q hq).1; omega); have hct10 : ColsT w10 vr' r.cols := TIn.keepOwn hown8 hg10 (by decide) hct8)
   go_ret
   refine ⟨_, rfl, P2 ++ ps.drop k, ⟨TIn.own hown10, fun p hp => ?_⟩, ?_, hEw10⟩
   ·rw [HP2.out] at hp
    rcases List.mem_append.1 hp with hp | hp
    ·rcases List.mem_append.1 hp with hp | hp
     ·exact ColsT.ext hEw10 (HPT.out p hp)
     ·rw [List.mem_singleton.1 hp]; exact hct10
    ·exact ColsT.ext hEw10 (h.typed p (List.mem_of_mem_drop hp))
   ·have e := mergeG_end (cmp := keyR) (join := foldRo) r (ps.map (·.1)) (fun j hl => HKM.out j (by rw [HN.out]; rwa [List.length_map] at hl) hl)
    rw [e, HP2.out, HP.out, List.take_of_length_le (by rw [HN.out]; exact Nat.le_refl _), List.drop_of_length_le (by rw [HN.out]; exact Nat.le_refl _), List.append_nil, List.map_append]
    rfl
end Go.Proofs.YtolkhjdododdaaaGreatDoor

/- clerestoryref19.rowPut of a row that comes behind all that are there. -/
namespace Go.Proofs.YtolkhjdododdaaaGreatDoor
open Go Go.RowKit
attribute [local go_sem] yields yUpon ro8

set_option maxRecDepth 100000 in
set_option maxHeartbeats 16000000 in
theorem rowPut_any (v : Value) (ps : List (Ro × Value)) (r : Ro) (vr : Value) (w : World) (h : RowsT w v ps) (hr : ColsT w vr r.cols) (hlen : ps.length ≤ 400000) (hup : ∀ p ∈ ps, keyR p.1 r < 0) :
  Calls Tryz.prog 46 #[v, (.agg #[.string r.key, .string r.live.val, .bool r.live.dead, .int .i64 r.live.at_, .int .i64 r.live.fin, .int .i64 r.gone, .int .i64 r.shade, vr])] w fun e w' => ∃ v', e = .returned v' ∧ RowsT w' v' (ps ++ [(r, vr)]) ∧ Ext w w' := by
 obtain ⟨a, cp, rfl, hc, hcm, hget⟩ := h.rows.get
 obtain ⟨ar, cr, rfl⟩ := TIn.shape hr
 have b0 := BoxAt.made w (ro8 r (.slice ar r.cols.length cr)) 47
 have hE0 := (Ext.refl w).alloc (.cells (ro8 r (.slice ar r.cols.length cr)) 47)
 obtain ⟨rn, hrn⟩ : ∃ rn, rn = r.cols.length := ⟨_, rfl⟩
 rw [← hrn] at b0 hE0 hr ⊢
 obtain ⟨n, hn⟩ : ∃ n, n = ps.length := ⟨_, rfl⟩
 rw [← hn] at h hlen hc ⊢
 have HGET := Lib.hid hget
 have HN := Lib.hid hn
 have HUP := Lib.hid hup
 have HRN := Lib.hid hrn
 clear hget hn hup hrn
 go_enter Tryz.func46, Tryz.ntmps46
 go_wp2_with fail
 go_loopw [5] (fun i wr => ∃ k : Nat, k ≤ n ∧ i = .int .i64 k ∧ Ext (w.alloc (.cells (ro8 r (.slice ar rn cr)) 47)) wr) (fun i _ => n - (intOf i).toNat)
 case atStart => exact ⟨0, Nat.zero_le _, rfl, Ext.refl _⟩
 case round =>
  obtain ⟨k, hk, rfl, hE⟩ := hrel
  have hb := b0.ext hE
  have x0 : wr.cell? ⟨w.heap.size, 0, none⟩ = some (.string r.key) := hb.cell 0
  by_cases hlt : k < n
  ·have t1 : decide ((k : Int) < (n : Int)) = true := by simp; omega
   have hkl : k < ps.length := by rw [← HN.out]; exact hlt
   obtain ⟨b, o, rfl, hat⟩ := HGET.out k hkl
   have hless0 := (keyR_less _ _).1 (HUP.out _ (List.getElem_mem hkl))
   obtain ⟨d, hd⟩ : ∃ d, d = ps[k].1 := ⟨_, rfl⟩
   obtain ⟨vd, hvd⟩ : ∃ d, d = ps[k].2 := ⟨_, rfl⟩
   rw [← hd, ← hvd] at hat
   rw [← hd] at hless0
   have y0 := (hat.ext (hE0.trans hE)).c0
   have hless : Op.bytesLess d.key.toList r.key.toList = true := hless0
   clear hd hat hvd hless0
   go_wp2_with fail
   refine wp_region_tab 14 [] (by kernel_rfl) (by kernel_rfl) (by kernel_rfl) trivial ?_
   replace x0 := held x0
   replace y0 := held y0
   refine rg_quiet rfl rfl rfl rfl ?_; intro K hK; go_big_quiet_op; go_big_quiet_on
   refine rg_quiet rfl rfl rfl rfl ?_; intro K hK; go_big_quiet_op; go_big_quiet_on
   refine rg_quiet rfl rfl rfl rfl ?_; intro K hK; go_big_quiet_op; go_big_quiet_on
   refine rg_quiet rfl rfl rfl rfl ?_; intro K hK; go_big_quiet_op; go_big_quiet_on
   refine rg_quiet rfl rfl rfl rfl ?_; intro K hK; go_big_quiet_op; go_big_quiet_on
   refine rg_quiet rfl rfl rfl rfl ?_; intro K hK; go_big_quiet_op; go_big_quiet_on
   refine rg_quiet rfl rfl rfl rfl ?_; intro K hK; go_big_quiet_op; go_big_quiet_on
   refine rg_quiet rfl rfl rfl rfl ?_; intro K hK; go_big_quiet_op; go_big_quiet_on
   refine rg_quiet rfl rfl rfl rfl ?_; intro K hK; go_big_quiet_op; go_big_quiet_on
   refine rg_quiet rfl rfl rfl rfl ?_; intro K hK; go_big_quiet_op; go_big_quiet_on
   refine rg_quiet rfl rfl rfl rfl ?_; intro K hK; go_big_quiet_op; go_big_quiet_on
   refine rg_quiet rfl rfl rfl rfl ?_; intro K hK; go_big_quiet_op; go_big_quiet_on
   refine rg_quiet rfl rfl rfl rfl ?_; intro K hK; go_big_quiet_op; go_big_quiet_on
   refine rg_quiet rfl rfl rfl rfl ?_; intro K hK; go_big_quiet_op; go_big_quiet_on
   refine rel_nil fun w5 hE5 _ => ?_
   clear x0 y0
   go_wp2_with fail
   go_roundw
   case rel => exact ⟨k + 1, by omega, by go_num, hE.trans hE5⟩
   case measure => simp [intOf]; omega
  ·obtain rfl : k = n := by omega
   have hin5 := rows_take (RowsIn.ext (hE0.trans hE) h.rows) hk HN.out
   obtain ⟨P, hP⟩ : ∃ P, P = ps.take k := ⟨_, rfl⟩
   have hPl : P.length ≤ k := by rw [hP, List.length_take]; omega
   rw [← hP] at hin5
   have HP := Lib.hid hP
   clear hP
   go_wp2_with fail
   refine wp_region_tab 14 [] (by kernel_rfl) (by kernel_rfl) (by kernel_rfl) trivial ?_
   refine rg_quiet rfl rfl rfl rfl ?_; intro K hK; go_big_quiet_op; go_big_quiet_on
   refine rg_quiet rfl rfl rfl rfl ?_; intro K hK; go_big_quiet_op; go_big_quiet_on
   refine rg_quiet rfl rfl rfl rfl ?_; intro K hK; go_big_quiet_op; go_big_quiet_on
   refine rg_quiet rfl rfl rfl rfl ?_; intro K hK; go_big_quiet_op; go_big_quiet_on
   refine rg_quiet rfl rfl rfl rfl ?_; intro K hK; go_big_quiet_op; go_big_quiet_on
   refine rel_skip rfl rfl ?_
   simp only [Act.put, List.setIfInBounds_toArray, List.set_cons_zero, List.set_cons_succ]
   refine rel_skip rfl rfl ?_
   simp only [Act.put, List.setIfInBounds_toArray, List.set_cons_zero, List.set_cons_succ]
   refine rel_skip rfl rfl ?_
   simp only [Act.put, List.setIfInBounds_toArray, List.set_cons_zero, List.set_cons_succ]
   refine rel_skip rfl rfl ?_
   simp only [Act.put, List.setIfInBounds_toArray, List.set_cons_zero, List.set_cons_succ]
   refine rel_skip rfl rfl ?_
   simp only [Act.put, List.setIfInBounds_toArray, List.set_cons_zero, List.set_cons_succ]
   refine rel_skip rfl rfl ?_
   simp only [Act.put, List.setIfInBounds_toArray, List.set_cons_zero, List.set_cons_succ]
   refine rel_skip rfl rfl ?_
   simp only [Act.put, List.setIfInBounds_toArray, List.set_cons_zero, List.set_cons_succ]
   refine rel_skip rfl rfl ?_
   simp only [Act.put, List.setIfInBounds_toArray, List.set_cons_zero, List.set_cons_succ]
   refine rg_quiet rfl rfl rfl rfl ?_; intro K hK; go_big_quiet_op; go_big_quiet_on
   refine rel_nil fun w5 hE5 _ => ?_
   clear x0
   replace hin5 := hin5.ext hE5
   go_wp2_with (at_builtin; go_must (refine appRows w5 rfl (.const (.slice none 0 0)) (.tmp 25) rfl w5.heap.size (Nat.le_refl _) _ [] (World.ownsRow_nil _ _ _ _) (by rfl) _ P hin5 (by rfl) (by simp; omega) ?_); intro v6 w6 hown6 hg6; rw [List.nil_append] at hown6; obtain ⟨a6, c6, rfl⟩ := own_shape hown6)
   have hE56 : Ext w5 w6 := (Ext.refl w5).grown hg6 (fun q hq => by cases hq)
   have hEw6 : Ext w w6 := ((hE0.trans hE).trans hE5).trans hE56
   have hb6 := hb.ext (hE5.trans hE56)
   have hPT : ∀ p ∈ P, ColsT w p.2 p.1.cols := fun p hp => h.typed p (List.mem_of_mem_take (by rw [HP.out] at hp; exact hp))
   have HPT := Lib.hid hPT
   clear hPT
   have hB : w.heap.size + 1 ≤ w5.heap.size := by have := hb.lt; have := hE5.le; omega
   have hlt6 := hown6.lt
   obtain ⟨P2, hP2⟩ : ∃ P2, P2 = P ++ [(r, .slice ar rn cr)] := ⟨_, rfl⟩
   have hPl2 : P2.length = P.length + 1 := by rw [hP2]; simp
   have hcc : roCells P ++ (ro8 r (.slice ar rn cr)).toList = roCells P2 := by rw [hP2, roCells_append]; rfl
   have HP2 := Lib.hid hP2
   have HCC := Lib.hid hcc
   have HPL2 := Lib.hid hPl2
   clear hP2 hcc hPl2
   go_wp2_with fail
   refine wp_region_relE (PutR w w6.heap.size w5.heap.size r (.slice ar rn cr) (.slice a6 P.length c6) P) (RoE (.slice a6 P.length c6) w5.heap.size 3) (Tab.atE [(1, fun v _ => v = (.agg #[.string r.key, .string r.live.val, .bool r.live.dead, .int .i64 r.live.at_, .int .i64 r.live.fin, .int .i64 r.gone, .int .i64 r.shade, (.slice ar rn cr)])), (2, fun v x => ∃ b, v = .slice (some ⟨b, 0, none⟩) 1 1 ∧ w6.heap.size ≤ b ∧ BoxAt x b (ro8 r (.slice ar rn cr)) 47), (3, fun v x => x.ownsRow w5.heap.size 47 8 v P2.length (roCells P2)), (6, fun v _ => v = dropV a k cp k 8)])
    (Tab.staysE ⟨fun _ _ _ _ _ _ h => h, fun _ _ _ _ _ hR ⟨b, e, hb, hx⟩ => ⟨b, e, hb, RoE_far hlt6 hR hb hx⟩, fun _ hj _ _ _ hR h => ownsRow_ext h (RoE_off hj hR), fun _ _ _ _ _ _ h => h, trivial⟩)
    7 (by kernel_rfl) (by kernel_rfl) (by kernel_rfl) ⟨hEw6.trans (Ext.refl w6).drew, ownsRow_ext hown6 (Ext.refl w6).drew, hb6.ext (Ext.refl w6).drew, (Ext.refl w6).drew.le⟩ ?_
   refine relE_quiet rfl rfl rfl rfl ?_; intro K hK; go_big_quiet_op; (first | refine ⟨_, fun _ _ => rfl, hK _ ?_⟩ | refine hK _ ?_); clear hK K
   refine relE_val [] rfl rfl rfl (by kernel_rfl) (fun y hy hf => ?_) ?_
   ·obtain ⟨z0, z1, z2, z3, z4, z5, z6, z7⟩ := hy.box.ro
    go_simp
    exact ⟨hy, RoE_ext (by decide) (Ext.refl y), rfl⟩
   simp only [Act.put, List.setIfInBounds_toArray, List.set_cons_zero, List.set_cons_succ]
   refine relE_fact [] rfl rfl rfl (by kernel_rfl) (fun y hy hf => ?_) (fun v12 y12 hC12 hG12 h12 => ?_)
   ·go_simp
    exact ⟨hy.ext ((Ext.refl y).alloc _), RoE_ext (by decide) ((Ext.refl y).alloc _), _, rfl, hy.size, BoxAt.made y _ _⟩
   obtain ⟨b12, rfl, _⟩ := h12
   clear hC12 hG12
   simp only [Act.put, List.setIfInBounds_toArray, List.set_cons_zero, List.set_cons_succ]
   refine relE_fact [2] rfl rfl rfl (by kernel_rfl) (fun y hy hf => ?_) (fun v13 y13 hC13 hG13 h13 => ?_)
   ·obtain ⟨b', e, hb', hbox⟩ := (hf 2 (by simp)).2 rfl
    cases e
    refine yields_append info_Row und_Rows rfl (by decide) (.tmp 27) (.tmp 29) rfl w5.heap.size (by have := hy.size; have := hE56.le; omega) _ P.length (roCells P) hy.own (by rfl) b12 1 1 (ro8 r (.slice ar rn cr)).toList (by rfl) (by rfl) (fun j u hj => by rw [hbox.cell j]; simpa using hj) (by simp [ro8, Value.oneCell']) (by unfold maxLen; omega) (by omega) ?_
    intro v' y' hown' hg hkeep
    have HR : RoE (.slice a6 P.length c6) w5.heap.size 3 3 y y' := by unfold RoE; rw [if_pos rfl]; exact ⟨⟨_, _, hy.own⟩, hg⟩
    rw [HCC.out, ← HPL2.out] at hown'
    exact ⟨⟨hy.extw.grown hg (fun q hq => by have := (hy.own.lt q hq).1; omega), hkeep, hy.box.grown hg (fun e => by have := (hy.own.lt _ e.symm).1; omega), Nat.le_trans hy.size hg.size⟩, HR, hown'⟩
   obtain ⟨a13, c13, rfl⟩ := own_shape h13
   clear hC13 hG13 h13
   simp only [Act.put, List.setIfInBounds_toArray, List.set_cons_zero, List.set_cons_succ]
   refine relE_quiet rfl rfl rfl rfl ?_; intro K hK; go_big_quiet_op; (first | refine ⟨_, fun _ _ => rfl, hK _ ?_⟩ | refine hK _ ?_); clear hK K
   refine relE_quiet rfl rfl rfl rfl ?_; intro K hK; go_big_quiet_op; (first | refine ⟨_, fun _ _ => rfl, hK _ ?_⟩ | refine hK _ ?_); clear hK K
   refine relE_val [] rfl rfl rfl (by kernel_rfl) (fun y hy hf => ?_) ?_
   ·exact yields_from und_Rows (size := 8) (by kernel_rfl) (.tmp 31) (.tmp 32) rfl rfl rfl (Nat.le_refl _) ⟨hy, RoE_ext (by decide) (Ext.refl y), rfl⟩
   simp only [Act.put, List.setIfInBounds_toArray, List.set_cons_zero, List.set_cons_succ]
   refine relE_tail rfl rfl fun w8 hC hG => ?_
   have hown8 : w8.ownsRow w5.heap.size 47 8 (.slice a13 P2.length c13) P2.length (roCells P2) := (hG 3).2 rfl
   have hEw8 := hC.extw
   have hP3 : P2.length ≤ k + 1 := by have := HPL2.out; omega
   have hsz8 := hC.size
   clear hG hC
   go_wp2_with (at_builtin; go_must (refine appRows w8 rfl (.tmp 30) (.tmp 33) rfl w5.heap.size (by have := hE56.le; omega) _ P2 hown8 (by rfl) _ (ps.drop k) (rows_drop (RowsIn.ext hEw8 h.rows) (Nat.le_refl _) HN.out) (by rfl) (by have := HN.out; simp; omega) ?_); intro v10 w10 hown10 hg10; have hEw10 : Ext w w10 := hEw8.grown hg10 (fun q hq => by have := (hown8.lt q hq).1; omega))
   go_ret
   have e0 : P2 ++ ps.drop k = ps ++ [(r, .slice ar rn cr)] := by
    rw [HP2.out, HP.out, List.take_of_length_le (by rw [HN.out]; exact Nat.le_refl _), List.drop_of_length_le (by rw [HN.out]; exact Nat.le_refl _), List.append_nil]
   rw [e0] at hown10
   refine ⟨_, rfl, ⟨TIn.own hown10, fun p hp => ?_⟩, hEw10⟩
   rcases List.mem_append.1 hp with hp | hp
   ·exact ColsT.ext hEw10 (h.typed p hp)
   ·rw [List.mem_singleton.1 hp]
    exact ColsT.ext hEw10 hr
end Go.Proofs.YtolkhjdododdaaaGreatDoor
