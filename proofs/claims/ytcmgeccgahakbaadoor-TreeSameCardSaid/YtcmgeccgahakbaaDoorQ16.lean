/- clerestoryref08.Copy. -/
import Derived.Test.YtcmgeccgahakbaaDoorQ15
import Derived.Test.YtcmgeccgahakbaaDoorQ7
import Derived.Test.YtcmgeccgahakbaaDoorQ12
import Derived.Test.YtcmgeccgahakbaaDoorQ8
set_option linter.unusedSimpArgs false
set_option linter.unusedVariables false
namespace Go.Proofs.YtcmgeccgahakbaaDoor
open Go Go.RowKit
attribute [local go_sem] yields yUpon ro8 pa3

/-- Operation n appends to rows of one's own; the others let memory grow. -/
def RoE (vo : Value) (B n j : Nat) (x y : World) : Prop := if j = n then (∃ m xs, x.ownsRow B 91 8 vo m xs) ∧ x.grownBy y vo.ownBlock else Ext x y
section
variable {vo : Value} {B n j : Nat} {x y : World}
theorem RoE_ext (hj : j ≠ n) (h : Ext x y) : RoE vo B n j x y := by unfold RoE; rw [if_neg hj]; exact h
theorem RoE_off (hj : j ≠ n) (h : RoE vo B n j x y) : Ext x y := by unfold RoE at h; rwa [if_neg hj] at h
theorem RoE_cols (h : RoE vo B n j x y) {v : Value} {l : List Co} (hc : ColsT x v l) : ColsT y v l := by
  unfold RoE at h
  split at h
  · obtain ⟨⟨m, xs, hown⟩, hg⟩ := h
    exact TIn.keepOwn hown hg (by decide) hc
  · exact hc.ext h
theorem RoE_far {S B' : Nat} (hlt : ∀ q, vo.ownBlock = some q → B' ≤ q ∧ q < S) (h : RoE vo B n j x y) {b : Nat} (hb : S ≤ b) {cs : Array Value} {e : TypeId} (hx : BoxAt x b cs e) : BoxAt y b cs e := by
  unfold RoE at h
  split at h
  · exact hx.grown h.2 (fun e => by have := (hlt _ e.symm).2; omega)
  · exact hx.ext h
end
/-- The copy under way. -/
structure CpC (w : World) (k : ByteArray) (g : Int) (u : Value) (q : Nat) (vo : Value) (qs : List (Ro × Value)) (S : Nat) (x : World) : Prop where
  extw : Ext w x
  b1 : BoxAt x w.heap.size (pa3 k g u) 24
  b2 : BoxAt x (w.heap.size + 1) (pa3 ⟨#[]⟩ 0 (.slice none 0 0)) 24
  b3 : BoxAt x q (pa3 k g vo) 24
  own : x.ownsRow (w.heap.size + 3) 91 8 vo qs.length (roCells qs)
  typed : ∀ p ∈ qs, ColsT x p.2 p.1.cols
  size : S ≤ x.heap.size
theorem CpC.ext {w x y : World} {k : ByteArray} {g : Int} {u : Value} {q : Nat} {vo : Value} {qs : List (Ro × Value)} {S : Nat} (hE : Ext x y) (h : CpC w k g u q vo qs S x) : CpC w k g u q vo qs S y :=
  ⟨h.extw.trans hE, h.b1.ext hE, h.b2.ext hE, h.b3.ext hE, ownsRow_ext h.own hE, fun p hp => (h.typed p hp).ext hE, Nat.le_trans h.size hE.le⟩
theorem CpC.app {w x y : World} {k : ByteArray} {g : Int} {u : Value} {q : Nat} {vo : Value} {qs : List (Ro × Value)} {S : Nat} (hq : q < w.heap.size + 3) (h : CpC w k g u q vo qs S x) (hg : x.grownBy y vo.ownBlock) (hown : y.ownsRow (w.heap.size + 3) 91 8 vo qs.length (roCells qs)) : CpC w k g u q vo qs S y := by
  have hne : ∀ q, some q = vo.ownBlock → w.heap.size + 3 ≤ q := fun q hq => (h.own.lt q hq.symm).1
  exact ⟨h.extw.grown hg (fun q hq => by have := hne q hq.symm; omega), h.b1.grown hg (fun e => by have := hne _ e; omega), h.b2.grown hg (fun e => by have := hne _ e; omega), h.b3.grown hg (fun e => by have := hne _ e; omega), hown, fun p hp => TIn.keepOwn h.own hg (by decide) (h.typed p hp), Nat.le_trans h.size hg.size⟩

set_option maxRecDepth 100000 in
set_option maxHeartbeats 8000000 in
theorem copy8_any (k : ByteArray) (g : Int) (u : Value) (ps : List (Ro × Value)) (w : World) (h : RowsIn w u ps) (hlen : ps.length ≤ 10000) (hcl : ∀ p ∈ ps, p.1.cols.length ≤ 1000000) :
    Calls Tryd.prog 56 #[.agg #[.string k, .int .i64 g, u]] w fun e w' => ∃ v', e = .returned (.agg #[.string k, .int .i64 g, v']) ∧ ∃ qs, RowsT w' v' qs ∧ qs.map (·.1) = ps.map (·.1) ∧ Ext w w' := by
  obtain ⟨a0, a1, hE⟩ := boxes2 w (pa3 k g u) (pa3 ⟨#[]⟩ 0 (.slice none 0 0)) 24 24
  obtain ⟨a, c, rfl, hc, hcm, hget⟩ := h.get
  obtain ⟨n, hn⟩ : ∃ n, n = ps.length := ⟨_, rfl⟩
  rw [← hn] at a0 a1 hE h hlen hc ⊢
  have HN := Lib.hid hn
  have HGET := Lib.hid hget
  have HCL := Lib.hid hcl
  clear hn hget hcl
  go_enter Tryd.func56, Tryd.ntmps56
  go_wp2_with (((guard_target =~ wpList _ _ _ (Oper.mk none (Op.store _ (Operand.tmp 3) (Operand.tmp 9)) _ _ _ _ :: _) _ _); go_must (refine storeBox rfl 24 (.tmp 3) (.tmp 9) rfl (w.heap.size + 1 + 1) _ _ _ (by rfl) (by rfl) ((BoxAt.madeN (pa3 ⟨#[]⟩ 0 (.slice none 0 0)) 24 (by simp))) (by kernel_rfl) (by rfl) (by simp [Value.oneCell']) ?_); intro w4 c4 g4); have hX4 : Ext w w4 := (hE.alloc (.cells (pa3 ⟨#[]⟩ 0 (.slice none 0 0)) 24)).grown g4 (fun q hq => by cases hq; omega); have b1 : BoxAt w4 w.heap.size (pa3 k g (.slice a n c)) 24 := (a0.ext ((Ext.refl _).alloc _)).grown g4 (fun e => by have := Option.some.inj e; omega); have b2 : BoxAt w4 (w.heap.size + 1) (pa3 ⟨#[]⟩ 0 (.slice none 0 0)) 24 := (a1.ext ((Ext.refl _).alloc _)).grown g4 (fun e => by have := Option.some.inj e; omega))
  obtain ⟨q, hq⟩ : ∃ q, q = w.heap.size + 1 + 1 := ⟨_, rfl⟩
  rw [← hq] at c4 ⊢
  have hq3 : w.heap.size + 1 < q ∧ q < w.heap.size + 3 := by omega
  have A0 : CpC w k g (.slice a n c) q (.slice none 0 0) [] 0 w4 := ⟨hX4, b1, b2, c4, World.ownsRow_nil _ _ _ _, nofun, Nat.zero_le _⟩
  clear hE a0 a1 g4 hX4 b1 b2 c4 hq
  go_loopw [4] (fun i wr => ∃ (j : Nat) (vo : Value) (qs : List (Ro × Value)), j ≤ n ∧ i = .int .i64 j ∧ CpC w k g (.slice a n c) q vo qs 0 wr ∧ Hid (qs.map (·.1) = (ps.map (·.1)).take j)) (fun i _ => n - (intOf i).toNat)
  case atStart => exact ⟨0, _, [], Nat.zero_le _, rfl, A0, rfl⟩
  case round =>
    obtain ⟨j, vo, qs, hj, rfl, hcp, HQ⟩ := hrel
    clear A0
    have hql : qs.length ≤ j := by
      have := congrArg List.length HQ.out
      rw [List.length_map, List.length_take, List.length_map] at this
      omega
    have e2 : wr.cell? ⟨w.heap.size, 2, none⟩ = some (.slice a n c) := hcp.b1.cell 2
    by_cases hlt : j < n
    · have t1 : decide ((j : Int) < (n : Int)) = true := by simp; omega
      have hjp : j < ps.length := by rw [← HN.out]; exact hlt
      obtain ⟨b, o, rfl, hat⟩ := HGET.out j hjp
      obtain ⟨r, hr⟩ : ∃ r, r = ps[j].1 := ⟨_, rfl⟩
      obtain ⟨vr, hvr⟩ : ∃ v, v = ps[j].2 := ⟨_, rfl⟩
      have hct : ColsIn w vr r.cols := by rw [hr, hvr]; exact h.cols _ (List.getElem_mem hjp)
      have hrl : r.cols.length ≤ 1000000 := by rw [hr]; exact HCL.out _ (List.getElem_mem hjp)
      have hrow : (ps.map (·.1)).take (j + 1) = (ps.map (·.1)).take j ++ [r] := by
        rw [List.take_succ_eq_append_getElem (by rw [List.length_map]; exact hjp), List.getElem_map, hr]
      rw [← hr, ← hvr] at hat
      have HROW := Lib.hid hrow
      have HAT := Lib.hid hat
      clear hr hvr hrow hat
      obtain ⟨ar, cr, rfl⟩ := hct.shape
      obtain ⟨ao, co, rfl⟩ := own_shape hcp.own
      go_wp2_with fail
      refine wp_region_relE (CpC w k g (.slice (some ⟨b, o, none⟩) n c) q (.slice ao qs.length co) qs wr.heap.size) (RoE (.slice ao qs.length co) (w.heap.size + 3) 9) (Tab.atE [(1, fun v _ => v = .slice ao qs.length co), (3, fun v _ => v = .slice (some ⟨b, o, none⟩) n c), (6, fun v _ => v = (.agg #[.string r.key, .string r.live.val, .bool r.live.dead, .int .i64 r.live.at_, .int .i64 r.live.fin, .int .i64 r.gone, .int .i64 r.shade, (.slice ar r.cols.length cr)])), (7, fun v x => ∃ v', v = (.agg #[.string r.key, .string r.live.val, .bool r.live.dead, .int .i64 r.live.at_, .int .i64 r.live.fin, .int .i64 r.gone, .int .i64 r.shade, v']) ∧ ColsT x v' r.cols), (8, fun v x => ∃ v' b, v = .slice (some ⟨b, 0, none⟩) 1 1 ∧ wr.heap.size ≤ b ∧ BoxAt x b (ro8 r v') 91 ∧ ColsT x v' r.cols), (9, fun v x => ∃ v', ColsT x v' r.cols ∧ x.ownsRow (w.heap.size + 3) 91 8 v (qs.length + 1) (roCells (qs ++ [(r, v')])))])
        (Tab.staysE ⟨fun _ _ _ _ _ _ h => h, fun _ _ _ _ _ _ h => h, fun _ _ _ _ _ _ h => h, fun _ _ _ _ _ hR ⟨v', e, h1⟩ => ⟨v', e, RoE_cols hR h1⟩, fun _ _ _ _ _ hR ⟨v', b, e, hb, hx, h1⟩ => ⟨v', b, e, hb, RoE_far hcp.own.lt hR hb hx, RoE_cols hR h1⟩, fun _ hj _ _ _ hR ⟨v', h1, h2⟩ => ⟨v', RoE_cols hR h1, ownsRow_ext h2 (RoE_off hj hR)⟩, trivial⟩)
        11 (by kernel_rfl) (by kernel_rfl) (by kernel_rfl) (CpC.ext (Ext.refl wr).drew ⟨hcp.extw, hcp.b1, hcp.b2, hcp.b3, hcp.own, hcp.typed, Nat.le_refl _⟩) ?_
      refine relE_quiet rfl rfl rfl rfl ?_; intro K hK; go_big_quiet_op; (first | refine ⟨_, fun _ _ => rfl, hK _ ?_⟩ | refine hK _ ?_); clear hK K
      refine relE_val [] rfl rfl rfl (by kernel_rfl) (fun y hy hf => ?_) ?_
      · obtain ⟨z0, z1, z2⟩ := hy.b3.pa
        go_simp
        exact ⟨hy, RoE_ext (by decide) (Ext.refl y), rfl⟩
      simp only [Act.put, List.setIfInBounds_toArray, List.set_cons_zero, List.set_cons_succ]
      refine relE_quiet rfl rfl rfl rfl ?_; intro K hK; go_big_quiet_op; (first | refine ⟨_, fun _ _ => rfl, hK _ ?_⟩ | refine hK _ ?_); clear hK K
      refine relE_val [] rfl rfl rfl (by kernel_rfl) (fun y hy hf => ?_) ?_
      · obtain ⟨z0, z1, z2⟩ := hy.b1.pa
        go_simp
        exact ⟨hy, RoE_ext (by decide) (Ext.refl y), rfl⟩
      simp only [Act.put, List.setIfInBounds_toArray, List.set_cons_zero, List.set_cons_succ]
      refine relE_quiet rfl rfl rfl rfl ?_; intro K hK; go_big_quiet_op; (first | refine ⟨_, fun _ _ => rfl, hK _ ?_⟩ | refine hK _ ?_); clear hK K
      refine relE_quiet rfl rfl rfl rfl ?_; intro K hK; go_big_quiet_op; (first | refine ⟨_, fun _ _ => rfl, hK _ ?_⟩ | refine hK _ ?_); clear hK K
      refine relE_val [] rfl rfl rfl (by kernel_rfl) (fun y hy hf => ?_) ?_
      · obtain ⟨z0, z1, z2, z3, z4, z5, z6, z7⟩ := HAT.out.ext hy.extw
        go_simp
        exact ⟨hy, RoE_ext (by decide) (Ext.refl y), rfl⟩
      simp only [Act.put, List.setIfInBounds_toArray, List.set_cons_zero, List.set_cons_succ]
      refine relE_fact [] rfl rfl rfl (by kernel_rfl) (fun y hy hf => ?_) (fun v7 y7 hC7 hG7 h7 => ?_)
      · go_simp
        refine (copyRow_any r _ y (hct.ext hy.extw) hrl).mono ?_
        rintro e y' ⟨v', rfl, h1, h2⟩
        exact ⟨_, rfl, hy.ext h2, RoE_ext (by decide) h2, v', rfl, h1⟩
      obtain ⟨v7, rfl, h7⟩ := h7
      obtain ⟨a7, c7, rfl⟩ := TIn.shape h7
      clear hC7 hG7 h7
      simp only [Act.put, List.setIfInBounds_toArray, List.set_cons_zero, List.set_cons_succ]
      refine relE_fact [7] rfl rfl rfl (by kernel_rfl) (fun y hy hf => ?_) (fun v8 y8 hC8 hG8 h8 => ?_)
      · obtain ⟨v', e, h1⟩ := (hf 7 (by simp)).2 rfl
        cases e
        go_simp
        exact ⟨hy.ext ((Ext.refl y).alloc _), RoE_ext (by decide) ((Ext.refl y).alloc _), _, _, rfl, hy.size, BoxAt.made y _ _, h1.ext ((Ext.refl y).alloc _)⟩
      obtain ⟨v8, b8, rfl, _⟩ := h8
      clear hC8 hG8
      simp only [Act.put, List.setIfInBounds_toArray, List.set_cons_zero, List.set_cons_succ]
      refine relE_fact [8] rfl rfl rfl (by kernel_rfl) (fun y hy hf => ?_) (fun v9 y9 hC9 hG9 h9 => ?_)
      · obtain ⟨v', b', e, hb', hbox, h1⟩ := (hf 8 (by simp)).2 rfl
        cases e
        obtain ⟨av, cv, rfl⟩ := TIn.shape h1
        refine yields_append info_Row und_Rows rfl (by decide) (.tmp 18) (.tmp 25) rfl (w.heap.size + 3) (by have := hy.b3.lt; omega) _ qs.length (roCells qs) hy.own (by rfl) b8 1 1 (ro8 r (.slice av r.cols.length cv)).toList (by rfl) (by rfl) (fun j u hj => by rw [hbox.cell j]; simpa using hj) (by simp [ro8, Value.oneCell']) (by unfold maxLen; omega) (by omega) ?_
        intro v' y' hown' hg hkeep
        have HR : RoE (.slice ao qs.length co) (w.heap.size + 3) 9 9 y y' := by unfold RoE; rw [if_pos rfl]; exact ⟨⟨_, _, hy.own⟩, hg⟩
        refine ⟨hy.app hq3.2 hg hkeep, HR, _, RoE_cols HR h1, ?_⟩
        rw [roCells_append]
        exact hown'
      obtain ⟨vr9, _, h9⟩ := h9
      obtain ⟨a9, c9, rfl⟩ := own_shape h9
      clear hC9 hG9 h9
      simp only [Act.put, List.setIfInBounds_toArray, List.set_cons_zero, List.set_cons_succ]
      refine relE_quiet rfl rfl rfl rfl ?_; intro K hK; go_big_quiet_op; (first | refine ⟨_, fun _ _ => rfl, hK _ ?_⟩ | refine hK _ ?_); clear hK K
      refine relE_tail rfl rfl fun x hx hG => ?_
      obtain ⟨vr', h1, hown'⟩ := (hG 9).2 rfl
      clear hG e2
      obtain ⟨q0, q1, q2⟩ := hx.b3.pa
      have qf := hx.b3.free 2
      go_wp2_with fail
      go_roundw
      case rel =>
        refine ⟨j + 1, _, qs ++ [(r, vr')], by omega, by go_num, ⟨hx.extw.setCell (p := ⟨q, 2, none⟩) (by show w.heap.size ≤ q; omega) _, hx.b1.other (by omega) 2 _, hx.b2.other (by omega) 2 _, hx.b3.set 2 _, ?_, ?_, Nat.zero_le _⟩, ?_⟩
        · rw [List.length_append]
          exact ownsRow_setCell_below hown' (a := ⟨q, 2, none⟩) (by show q < w.heap.size + 3; omega) _
        · intro p hp
          rcases List.mem_append.1 hp with hp | hp
          · exact TIn.set 2 _ hx.b3 (by decide) (hx.typed p hp)
          · rw [List.mem_singleton.1 hp]
            exact TIn.set 2 _ hx.b3 (by decide) h1
        · show _ = _
          rw [List.map_append, HQ.out, HROW.out]
          rfl
      case measure => simp [intOf]; omega
    · obtain rfl : j = n := by omega
      obtain ⟨ao, co, rfl⟩ := own_shape hcp.own
      obtain ⟨z0, z1, z2⟩ := hcp.b3.pa
      have hb2 := hcp.b2
      go_wp2_with ((guard_target =~ wpList _ _ _ (Oper.mk none (Op.store _ (Operand.tmp 2) (Operand.tmp 28)) _ _ _ _ :: _) _ _); go_must (refine storeBox rfl 24 (.tmp 2) (.tmp 28) rfl (w.heap.size + 1) _ _ _ (by rfl) (by rfl) (hb2) (by kernel_rfl) (by rfl) (by simp [Value.oneCell']) ?_); intro w8 c8 g8)
      have hX8 := hcp.extw.grown g8 (fun q hq => by cases hq; omega)
      have hrows : RowsT w8 (.slice ao qs.length co) qs := ⟨TIn.keep g8 hb2 (by decide) (TIn.own hcp.own), fun p hp => ColsT.keep g8 hb2 (by decide) (hcp.typed p hp)⟩
      have hmap : qs.map (·.1) = ps.map (·.1) := by rw [HQ.out, List.take_of_length_le (by rw [List.length_map, ← HN.out]; exact Nat.le_refl _)]
      clear z0 z1 z2
      obtain ⟨z0, z1, z2⟩ := BoxAt.pa (k := k) (g := g) (u := .slice ao qs.length co) c8
      refine bodyPost_ret (v := .agg #[.string k, .int .i64 g, .slice ao qs.length co]) ?_ rfl ⟨_, rfl, qs, hrows, hmap, hX8⟩
      simp [results, Tryd.results56, go_sem, Act.put, z0, z1, z2]
end Go.Proofs.YtcmgeccgahakbaaDoor

/- clerestorylaw00.Part. -/
namespace Go.Proofs.YtcmgeccgahakbaaDoor
open Go Go.RowKit
attribute [local go_sem] yields yUpon ro8 pa3

/-- clerestorylaw00.Part. -/
theorem lpart8_any (k : ByteArray) (g : Int) (u : Value) (ps : List (Ro × Value)) (w : World) (h : RowsIn w u ps) (hlen : ps.length ≤ 10000) (hcl : ∀ p ∈ ps, p.1.cols.length ≤ 1000000) :
    Calls Tryd.prog 13 #[.agg #[.string k, .int .i64 g, u]] w fun e w' => ∃ v', e = .returned (.agg #[.string k, .int .i64 g, v']) ∧ ∃ qs, RowsT w' v' qs ∧ qs.map (·.1) = ps.map (·.1) ∧ Ext w w' := by
  obtain ⟨a0, a1, hE⟩ := boxes2 w (pa3 k g u) (pa3 ⟨#[]⟩ 0 (.slice none 0 0)) 24 24
  have h1 := h.ext hE
  go_enter Tryd.func13, Tryd.ntmps13
  go_wp2_with fail
  refine (copy8_any k g u ps _ h1 hlen hcl).mono ?_
  rintro e w1 ⟨v', rfl, qs, hr, hm, hE1⟩
  obtain ⟨av, cv, rfl⟩ := hr.shape
  have b1 := a1.ext hE1
  have hX1 := hE.trans hE1
  clear a0 a1 h1 hE hE1
  go_wp2_with (((guard_target =~ wpList _ _ _ (Oper.mk none (Op.store _ (Operand.tmp 2) (Operand.tmp 4)) _ _ _ _ :: _) _ _); go_must (refine storeBox rfl 24 (.tmp 2) (.tmp 4) rfl (w.heap.size + 1) _ _ _ (by rfl) (by rfl) (b1) (by kernel_rfl) (by rfl) (by simp [Value.oneCell']) ?_); intro w3 c3 g3))
  have hX3 := hX1.grown g3 (fun q hq => by cases hq; omega)
  have hr3 := hr.keep g3 b1 (by decide) (by decide)
  obtain ⟨z0, z1, z2⟩ := BoxAt.pa (k := k) (g := g) (u := .slice av qs.length cv) c3
  refine bodyPost_ret (v := .agg #[.string k, .int .i64 g, .slice av qs.length cv]) ?_ rfl ⟨_, rfl, qs, hr3, hm, hX3⟩
  simp [results, Tryd.results13, go_sem, Act.put, z0, z1, z2]
end Go.Proofs.YtcmgeccgahakbaaDoor

/- clerestorylaw00.Parts of any list of partitions. -/
namespace Go.Proofs.YtcmgeccgahakbaaDoor
open Go Go.RowKit
attribute [local go_sem] yields yUpon

set_option maxRecDepth 100000 in
set_option maxHeartbeats 16000000 in
theorem parts_any (v : Value) (L : List Pa) (w : World) (hin : PartsIn w v L) (hlen : L.length ≤ 1000000) (hrow : ∀ p ∈ L, p.ps.length ≤ 10000 ∧ ∀ q ∈ p.ps, q.1.cols.length ≤ 1000000) :
    Calls Tryd.prog 37 #[v] w fun e w' => ∃ v' M, ((e = .returned v' ∧ Ext w w') ∧ PartsT w' v' M) ∧ M.map Pa.data = L.map Pa.data ∧ ∀ q, v'.ownBlock = some q → w.heap.size ≤ q := by
  have HI := Lib.hid hin
  obtain ⟨a, cc, rfl, hcc, hccm, hcell⟩ := hin.get
  have HL := Lib.hid hcell
  have HRw := Lib.hid hrow
  clear hin hcell hrow
  obtain ⟨m, hm⟩ : ∃ m, m = L.length := ⟨_, rfl⟩
  have HM := Lib.hid hm
  rw [← hm] at hcc hlen HI ⊢
  clear hm
  go_enter Tryd.func37, Tryd.ntmps37
  go_wp2
  go_loopw [3, 4] (fun vb i wr => ∃ (k : Nat) (vo : Value) (M : List Pa), k ≤ m ∧ i = .int .i64 k ∧ vb = vo ∧ Hid (M.length = k) ∧ wr.ownsRow w.heap.size 24 3 vo k (paCells M) ∧ (∀ p ∈ M, RowsT wr p.rv p.ps) ∧ Hid (M.map Pa.data = (L.take k).map Pa.data) ∧ Ext w wr) (fun _ i _ => m - (intOf i).toNat)
  case atStart => exact ⟨0, _, [], Nat.zero_le _, rfl, rfl, Lib.hid rfl, World.ownsRow_nil _ _ _ _, nofun, Lib.hid rfl, Ext.refl _⟩
  case round =>
    obtain ⟨k, vo, M, hk, rfl, rfl, hMk, hown, hrows, HD, hE⟩ := hrel
    obtain ⟨ao, co, rfl⟩ := own_shape hown
    by_cases hkm : k < m
    · have hkl : k < L.length := by rw [← HM.out]; exact hkm
      obtain ⟨b, o, rfl, hpa⟩ := HL.out k hkl
      replace hpa := hpa.ext hE
      have hmem : L[k] ∈ L := List.getElem_mem hkl
      have hr := (HI.out.rows _ hmem).ext hE
      have HLo := Lib.hid (HRw.out _ hmem)
      obtain ⟨p, hp⟩ : ∃ p, p = L[k] := ⟨_, rfl⟩
      have HTK : Hid (L.take (k + 1) = L.take k ++ [p]) := Lib.hid (by rw [List.take_succ_eq_append_getElem hkl, hp])
      rw [← hp] at hpa hr HLo
      clear hp hmem
      obtain ⟨pk, pg, pu, ps⟩ := p
      obtain ⟨p0, p1, p2⟩ := hpa
      replace hr : RowsIn wr pu ps := hr
      replace p0 : wr.cell? ⟨b, o + k * 3, none⟩ = some (.string pk) := p0
      replace p1 : wr.cell? ⟨b, o + k * 3 + 1, none⟩ = some (.int .i64 pg) := p1
      replace p2 : wr.cell? ⟨b, o + k * 3 + 2, none⟩ = some pu := p2
      have HR := Lib.hid hr
      obtain ⟨au, cu, rfl, _⟩ := hr.get
      clear hr
      go_wp2_with (first
        | (go_at_call 13; go_must (refine (lpart8_any pk pg _ ps _ HR.out HLo.out.1 HLo.out.2).mono ?_); rintro e w6 ⟨v6, rfl, qs, hq6, hm6, hE6⟩; obtain ⟨a6, c6, rfl⟩ := hq6.shape; have HM6 := Lib.hid hm6; obtain ⟨nq, hnq⟩ : ∃ nq, nq = qs.length := ⟨_, rfl⟩; rw [← hnq] at hq6 ⊢; clear hnq hm6; have hown6 := ownsRow_ext hown hE6)
        | (at_builtin; go_must (refine appR info_Part und_Parts rfl (by decide) w6 rfl (.tmp 11) (.tmp 17) rfl w.heap.size (hE.trans hE6).le (.slice ao k co) k (paCells M) hown6 rfl 1 (pa3 pk pg (.slice a6 nq c6)) rfl rfl (by simp [pa3, Value.oneCell']) (by unfold maxLen; omega) (by omega) ?_); intro v7 w7 hown7 hg7))
      have hXa := (Ext.refl w6).alloc (.cells (pa3 pk pg (.slice a6 nq c6)) 24)
      have howna := ownsRow_ext hown6 hXa
      have hkr : ∀ {rv ps}, RowsT w6 rv ps → RowsT w7 rv ps := fun h => (h.ext hXa).keepOwn howna hg7 (by decide) (by decide)
      have hE7 : Ext w w7 := ((hE.trans hE6).trans hXa).grown hg7 (fun q hq => (hown6.lt q hq).1)
      go_roundw
      case rel =>
        refine ⟨k + 1, _, M ++ [⟨pk, pg, .slice a6 nq c6, qs⟩], hkm, by go_num, rfl, Lib.hid (by rw [List.length_append, hMk.out]; rfl), ?_, fun p hp => ?_, Lib.hid ?_, hE7⟩
        · rw [paCells_append]
          exact hown7
        · rcases List.mem_append.1 hp with hp | hp
          · exact hkr ((hrows p hp).ext hE6)
          · rw [List.mem_singleton.1 hp]
            exact hkr hq6
        · rw [HTK.out, List.map_append, HD.out, List.map_append]
          simp [Pa.data, HM6.out]
      case measure => simp [intOf]; omega
    · obtain rfl : k = m := by omega
      have hD := HD.out
      rw [HM.out, List.take_length] at hD
      have HD2 := Lib.hid hD
      have HTI : Hid (TIn wr 24 (.slice ao k co) M.length (paCells M)) := Lib.hid (by rw [hMk.out]; exact TIn.own hown)
      clear hD
      go_wp2
      go_ret
      exact ⟨_, M, ⟨⟨rfl, hE⟩, ⟨HTI.out, hrows⟩⟩, HD2.out, fun q hq => (hown.lt q hq).1⟩
end Go.Proofs.YtcmgeccgahakbaaDoor

/- A list of partitions of which one turns: its key, its Gone. -/
namespace Go.Proofs.YtcmgeccgahakbaaDoor
open Go Go.RowKit

def Pa.withKey (p : Pa) (s : ByteArray) : Pa := ⟨s, p.gone, p.rv, p.ps⟩
def Pa.withGone (p : Pa) (g : Int) : Pa := ⟨p.key, g, p.rv, p.ps⟩
theorem paCells_key : ∀ (l : List Pa) (k : Nat) (h : k < l.length) (s : ByteArray), paCells (l.set k (l[k].withKey s)) = (paCells l).set (k * 3) (.string s)
  | p :: l, 0, _, s => by simp [paCells, Pa.withKey]
  | p :: l, k + 1, h, s => by
    have ih := paCells_key l k (by simpa using h) s
    have e : (k + 1) * 3 = k * 3 + 3 := by omega
    simp only [List.getElem_cons_succ, List.set_cons_succ, paCells, e]
    rw [ih]
theorem paCells_gone : ∀ (l : List Pa) (k : Nat) (h : k < l.length) (g : Int), paCells (l.set k (l[k].withGone g)) = (paCells l).set (k * 3 + 1) (.int .i64 g)
  | p :: l, 0, _, s => by simp [paCells, Pa.withGone]
  | p :: l, k + 1, h, s => by
    have ih := paCells_gone l k (by simpa using h) s
    have e : (k + 1) * 3 + 1 = k * 3 + 1 + 3 := by omega
    simp only [List.getElem_cons_succ, List.set_cons_succ, paCells, e]
    rw [ih]
theorem TIn.put {x : World} {e : TypeId} {b n c : Nat} {xs : List Value} (h : TIn x e (.slice (some ⟨b, 0, none⟩) n c) n xs) (i : Nat) (u : Value) (hi : i < xs.length) : TIn (x.setCell ⟨b, i, none⟩ u) e (.slice (some ⟨b, 0, none⟩) n c) n (xs.set i u) := by
  rcases h with ⟨h, _⟩ | ⟨b', c', Z, e', hb, hn, hc, hx⟩
  · cases h
  · cases e'
    refine .inr ⟨b, c, _, rfl, hb.set i u, hn, hc, fun j v hj => ?_⟩
    have hiz : i < Z.size := by
      have := hx i _ (List.getElem?_eq_getElem hi)
      exact (Array.getElem?_eq_some_iff.1 this).1
    rw [List.getElem?_set] at hj
    by_cases hij : i = j
    · subst hij
      rw [if_pos rfl, if_pos hi] at hj
      rw [Array.getElem?_setIfInBounds_self_of_lt hiz]
      exact hj
    · rw [if_neg hij] at hj
      rw [Array.getElem?_setIfInBounds_ne hij]
      exact hx j v hj
theorem PartsT.box {x : World} {b n c : Nat} {L : List Pa} (h : PartsT x (.slice (some ⟨b, 0, none⟩) n c) L) : ∃ Z, BoxAt x b Z 24 := by
  rcases h.tin with ⟨h, _⟩ | ⟨b', c', Z, e', hb, _⟩
  · cases h
  · cases e'
    exact ⟨Z, hb⟩
theorem PartsT.turn {x : World} {b n c : Nat} {L M : List Pa} {i : Nat} {u : Value} (h : PartsT x (.slice (some ⟨b, 0, none⟩) n c) L) (hn : n = L.length) (hl : M.length = L.length) (hi : i < (paCells L).length) (hc : paCells M = (paCells L).set i u) (hr : ∀ p ∈ M, ∃ q ∈ L, p.rv = q.rv ∧ p.ps = q.ps) :
    PartsT (x.setCell ⟨b, i, none⟩ u) (.slice (some ⟨b, 0, none⟩) n c) M := by
  subst hn
  obtain ⟨Z, hb⟩ := h.box
  refine ⟨?_, fun p hp => ?_⟩
  · rw [hc, hl]
    exact h.tin.put i u hi
  · obtain ⟨q, hq, e1, e2⟩ := hr p hp
    rw [e1, e2]
    exact (h.rows q hq).set i u hb (by decide) (by decide)
theorem PartsT.setKey {x : World} {b n c : Nat} {L : List Pa} (h : PartsT x (.slice (some ⟨b, 0, none⟩) n c) L) (hn : n = L.length) {k : Nat} (hk : k < L.length) (s : ByteArray) :
    PartsT (x.setCell ⟨b, k * 3, none⟩ (.string s)) (.slice (some ⟨b, 0, none⟩) n c) (L.set k (L[k].withKey s)) := by
  refine h.turn hn (by simp) (by rw [paCells_length]; omega) (paCells_key L k hk s) fun p hp => ?_
  rcases List.mem_or_eq_of_mem_set hp with hp | rfl
  · exact ⟨p, hp, rfl, rfl⟩
  · exact ⟨L[k], List.getElem_mem hk, rfl, rfl⟩
theorem PartsT.setGone {x : World} {b n c : Nat} {L : List Pa} (h : PartsT x (.slice (some ⟨b, 0, none⟩) n c) L) (hn : n = L.length) {k : Nat} (hk : k < L.length) (g : Int) :
    PartsT (x.setCell ⟨b, k * 3 + 1, none⟩ (.int .i64 g)) (.slice (some ⟨b, 0, none⟩) n c) (L.set k (L[k].withGone g)) := by
  refine h.turn hn (by simp) (by rw [paCells_length]; omega) (paCells_gone L k hk g) fun p hp => ?_
  rcases List.mem_or_eq_of_mem_set hp with hp | rfl
  · exact ⟨p, hp, rfl, rfl⟩
  · exact ⟨L[k], List.getElem_mem hk, rfl, rfl⟩
end Go.Proofs.YtcmgeccgahakbaaDoor
