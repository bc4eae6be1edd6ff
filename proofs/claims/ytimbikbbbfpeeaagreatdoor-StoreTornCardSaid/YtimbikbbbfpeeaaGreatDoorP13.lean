/- cell.Join, cells as one thing. -/
import Derived.Test.YtimbikbbbfpeeaaGreatDoorP7
import Derived.Test.YtimbikbbbfpeeaaGreatDoorP12
import Derived.Test.YtimbikbbbfpeeaaGreatDoorP9
import Derived.Test.YtimbikbbbfpeeaaGreatDoorP8
import Derived.Test.YtimbikbbbfpeeaaGreatDoorP4
import Derived.Test.YtimbikbbbfpeeaaGreatDoorP11
import Derived.Test.YtimbikbbbfpeeaaGreatDoorP10
import Derived.Laws.MakeOwn
import Derived.OwnWalk
set_option linter.unusedSimpArgs false
set_option linter.unusedVariables false
namespace Go.Proofs.YtimbikbbbfpeeaaGreatDoor
open Go Go.RowKit
theorem join_c (v : ByteArray) (d : Bool) (a e : Int) (v' : ByteArray) (d' : Bool) (a' e' : Int) (w : World) :
    Calls Tryz.prog 231 #[.agg #[.string v, .bool d, .int .i64 a, .int .i64 e], .agg #[.string v', .bool d', .int .i64 a', .int .i64 e']] w fun r w' =>
      r = .returned (.agg #[.string (joinCl ⟨v, d, a, e⟩ ⟨v', d', a', e'⟩).val, .bool (joinCl ⟨v, d, a, e⟩ ⟨v', d', a', e'⟩).dead, .int .i64 (joinCl ⟨v, d, a, e⟩ ⟨v', d', a', e'⟩).at_, .int .i64 (joinCl ⟨v, d, a, e⟩ ⟨v', d', a', e'⟩).fin]) ∧ Ext w w' :=
  (join_any v d a e v' d' a' e' w).mono fun r w' h => ⟨by
    rw [h.1]
    unfold joinCl cmpCl
    split <;> rfl, h.2⟩
end Go.Proofs.YtimbikbbbfpeeaaGreatDoor

/- row.Join's two closures over columns: which comes first, what two are together. -/
namespace Go.Proofs.YtimbikbbbfpeeaaGreatDoor
open Go Go.RowKit
attribute [local go_sem] yields yUpon co5
set_option maxHeartbeats 1000000 in
theorem rj1_any (a b : Co) (w : World) : Calls Tryz.prog 229 #[(.agg #[.string a.name, .string a.cell.val, .bool a.cell.dead, .int .i64 a.cell.at_, .int .i64 a.cell.fin]), (.agg #[.string b.name, .string b.cell.val, .bool b.cell.dead, .int .i64 b.cell.at_, .int .i64 b.cell.fin])] w fun e w' => e = .returned (.int .i64 (keyC a b)) ∧ Ext w w' := by
  go_enter Tryz.func229, Tryz.ntmps229
  go_wp2_with fail
  refine (strCompare_any _ _ _).mono ?_
  rintro e w1 ⟨rfl, rfl⟩
  go_wp2_with fail
  go_ret
  exact ⟨rfl, ((Ext.refl w).alloc _).alloc _⟩

set_option maxRecDepth 100000 in
set_option maxHeartbeats 2000000 in
theorem rj2_any (a b : Co) (w : World) : Calls Tryz.prog 230 #[(.agg #[.string a.name, .string a.cell.val, .bool a.cell.dead, .int .i64 a.cell.at_, .int .i64 a.cell.fin]), (.agg #[.string b.name, .string b.cell.val, .bool b.cell.dead, .int .i64 b.cell.at_, .int .i64 b.cell.fin])] w fun e w' => e = .returned (.agg #[.string a.name, .string (joinCl a.cell b.cell).val, .bool (joinCl a.cell b.cell).dead, .int .i64 (joinCl a.cell b.cell).at_, .int .i64 (joinCl a.cell b.cell).fin]) ∧ Ext w w' := by
  obtain ⟨a0, a1, a2, hE⟩ := boxes3 w (co5 a) (co5 b) (co5 ⟨⟨#[]⟩, zeroCl⟩) 216 216 216
  obtain ⟨c, hc⟩ : ∃ c, c = joinCl a.cell b.cell := ⟨_, rfl⟩
  rw [← hc]
  have Hc := Lib.hid hc
  clear hc
  go_enter Tryz.func230, Tryz.ntmps230
  go_wp2_with fail
  refine wp_region_in 8 [(6, fun v _ => v = (.agg #[.string c.val, .bool c.dead, .int .i64 c.at_, .int .i64 c.fin]))] (fun w0 => BoxAt w0 w.heap.size (co5 a) 216 ∧ BoxAt w0 (w.heap.size + 1) (co5 b) 216 ∧ BoxAt w0 (w.heap.size + 1 + 1) (co5 ⟨⟨#[]⟩, zeroCl⟩) 216 ∧ Ext w w0) (by kernel_rfl) (by kernel_rfl) (by kernel_rfl) ⟨stays_eq _, trivial⟩ ⟨a0, a1, a2, hE⟩ ?_
  clear a0 a1 a2 hE
  rintro w2 ⟨c0, c1, c2, hE⟩
  have FIN : Hid (∀ wx, Ext w2 wx → BoxAt wx (w.heap.size + 1 + 1) (co5 ⟨⟨#[]⟩, zeroCl⟩) 216 ∧ Ext w wx) := fun wx h => ⟨c2.ext h, hE.trans h⟩
  obtain ⟨x0, x1, x2, x3, x4⟩ := c0.co
  obtain ⟨y0, y1, y2, y3, y4⟩ := c1.co
  clear c0 c1 c2 hE
  replace x0 := held x0
  replace x1 := held x1
  replace x2 := held x2
  replace x3 := held x3
  replace x4 := held x4
  replace y1 := held y1
  replace y2 := held y2
  replace y3 := held y3
  replace y4 := held y4
  clear y0
  refine rg_quiet rfl rfl rfl rfl ?_; intro K hK; go_big_quiet_op; go_big_quiet_on
  refine rg_quiet rfl rfl rfl rfl ?_; intro K hK; go_big_quiet_op; go_big_quiet_on
  refine rg_quiet rfl rfl rfl rfl ?_; intro K hK; go_big_quiet_op; go_big_quiet_on
  refine rg_quiet rfl rfl rfl rfl ?_; intro K hK; go_big_quiet_op; go_big_quiet_on
  refine rg_quiet rfl rfl rfl rfl ?_; intro K hK; go_big_quiet_op; go_big_quiet_on
  refine rg_quiet rfl rfl rfl rfl ?_; intro K hK; go_big_quiet_op; go_big_quiet_on
  refine rg_val [] rfl rfl rfl (by kernel_rfl) (fun w1 hE hf => ?_) ?_
  · go_simp
    exact (join_c a.cell.val a.cell.dead a.cell.at_ a.cell.fin b.cell.val b.cell.dead b.cell.at_ b.cell.fin w1).mono fun e w' ⟨he, hw⟩ => ⟨_, he, rg_done hE hw (by rw [Hc.out])⟩
  simp only [Act.put, List.setIfInBounds_toArray, List.set_cons_zero, List.set_cons_succ]
  refine rg_quiet rfl rfl rfl rfl ?_; intro K hK; go_big_quiet_op; go_big_quiet_on
  refine rel_tail rfl rfl fun w5 hE5 hG => ?_
  obtain ⟨c2, hE⟩ := FIN.out w5 hE5
  clear x0 x1 x2 x3 x4 y1 y2 y3 y4 hE5 hG FIN
  go_wp2_with ((guard_target =~ wpList _ _ _ (Oper.mk none (Op.store _ (Operand.tmp 4) (Operand.tmp 12)) _ _ _ _ :: _) _ _); go_must (refine storeBox rfl 216 (.tmp 4) (.tmp 12) rfl (w.heap.size + 1 + 1) _ _ _ (by rfl) (by rfl) (c2) (by kernel_rfl) (by rfl) (by simp [Value.oneCell']) ?_); intro w6 c6 g6)
  have hX6 := hE.grown g6 (fun q hq => by cases hq; omega)
  clear hE g6 c2
  obtain ⟨z0, z1, z2, z3, z4⟩ := c6.co (c := ⟨a.name, c⟩)
  refine bodyPost_ret (v := .agg #[.string a.name, .string c.val, .bool c.dead, .int .i64 c.at_, .int .i64 c.fin]) ?_ rfl ⟨rfl, hX6⟩
  simp [results, Tryz.results230, go_sem, Act.put, z0, z1, z2, z3, z4]
end Go.Proofs.YtimbikbbbfpeeaaGreatDoor

/- row.Merge over columns. -/
namespace Go.Proofs.YtimbikbbbfpeeaaGreatDoor
open Go Go.RowKit
attribute [local go_sem] yields yUpon co5
set_option maxRecDepth 100000 in
set_option maxHeartbeats 4000000 in
theorem mergeCo_any (va vb : Value) (la lb : List Co) (w : World) (ha : ColsIn w va la) (hb : ColsIn w vb lb) (hlen : la.length + lb.length ≤ 1000000) :
    Calls Tryz.prog 228 #[va, vb, .func (.func 229) #[] #[], .func (.func 230) #[] #[]] w fun e w' => ∃ v', e = .returned v' ∧ w'.ownsRow w.heap.size 216 5 v' (mergeCo la lb).length (coCells (mergeCo la lb)) ∧ Ext w w' := by
  obtain ⟨i0, hi, hz0, hz1, hz2⟩ := info_parts info_Col
  obtain ⟨aa, ca, rfl, hca, hcma, _⟩ := ha.get
  obtain ⟨ab, cb, rfl, hcb, hcmb, _⟩ := hb.get
  go_enter Tryz.func228, Tryz.ntmps228
  go_wp2_with (at_make; go_must (refine wpList_make_own _ rfl _ _ 64 rfl w.heap.size 216 i0 _ 5 und_Cols hi hz0 hz1 _ _ _ (la.length + lb.length) rfl rfl (by omega) ?b2 ?b3 (Nat.le_refl _) ?_))
  case b2 => rw [hz2]; omega
  case b3 => unfold maxLen; omega
  intro w0 hown0 hgrow0
  go_wp2
  go_loopw [0, 1, 9] (fun sa sb so wr => ∃ (l m out : List Co), ColsIn w sa l ∧ ColsIn w sb m ∧ wr.ownsRow w.heap.size 216 5 so out.length (coCells out) ∧ Ext w wr ∧ Hid (mergeCo la lb = out ++ mergeCo l m) ∧ out.length + l.length + m.length ≤ la.length + lb.length) (fun sa sb _ _ => lenOf sa + lenOf sb)
  case atStart => exact ⟨la, lb, [], ha, hb, hown0, (Ext.refl w).grown hgrow0 (fun q hq => by cases hq), rfl, by simp⟩
  case round =>
    obtain ⟨l, m, out, hl, hm, hown, hE, HM, hsum⟩ := hrel
    by_cases h1 : 0 < l.length
    · by_cases h2 : 0 < m.length
      · obtain ⟨b1, o1, c1, A, l', hll, rfl, hc1, hcm1, hA, hl'⟩ := hl.uncons h1
        obtain ⟨b2, o2, c2, B, m', hmm, rfl, hc2, hcm2, hB, hm'⟩ := hm.uncons h2
        have h1' : decide ((0 : Int) < (l.length : Int)) = true := decide_eq_true (by omega)
        have h2' : decide ((0 : Int) < (m.length : Int)) = true := decide_eq_true (by omega)
        have HL := Lib.hid hll
        have HN := Lib.hid hmm
        clear hll hmm
        go_wp2_with fail
        refine wp_region_in 9 [(7, fun v _ => v = .int .i64 (keyC A B))] (fun x => Ext w x ∧ wr.heap.size ≤ x.heap.size ∧ x.ownsRow w.heap.size 216 5 u9 out.length (coCells out)) (by kernel_rfl) (by kernel_rfl) (by kernel_rfl) ⟨stays_eq _, trivial⟩ ⟨hE, Nat.le_refl _, hown⟩ ?_
        clear hE
        rintro w1 ⟨hE, hle, hown1⟩
        have FIN : Hid (∀ wx, Ext w1 wx → Ext w wx ∧ wr.heap.size ≤ wx.heap.size ∧ wx.ownsRow w.heap.size 216 5 u9 out.length (coCells out)) := fun wx h => ⟨hE.trans h, Nat.le_trans hle h.le, ownsRow_ext hown1 h⟩
        obtain ⟨x0, x1, x2, x3, x4⟩ := hA.ext hE
        obtain ⟨y0, y1, y2, y3, y4⟩ := hB.ext hE
        replace x0 := held x0
        replace x1 := held x1
        replace x2 := held x2
        replace x3 := held x3
        replace x4 := held x4
        replace y0 := held y0
        replace y1 := held y1
        replace y2 := held y2
        replace y3 := held y3
        replace y4 := held y4
        clear hE hle hown1
        refine rg_quiet rfl rfl rfl rfl ?_; intro K hK; go_big_quiet_op; go_big_quiet_on
        refine rg_quiet rfl rfl rfl rfl ?_; intro K hK; go_big_quiet_op; go_big_quiet_on
        refine rg_quiet rfl rfl rfl rfl ?_; intro K hK; go_big_quiet_op; go_big_quiet_on
        refine rg_quiet rfl rfl rfl rfl ?_; intro K hK; go_big_quiet_op; go_big_quiet_on
        refine rg_quiet rfl rfl rfl rfl ?_; intro K hK; go_big_quiet_op; go_big_quiet_on
        refine rg_quiet rfl rfl rfl rfl ?_; intro K hK; go_big_quiet_op; go_big_quiet_on
        refine rg_quiet rfl rfl rfl rfl ?_; intro K hK; go_big_quiet_op; go_big_quiet_on
        refine rg_val [] rfl rfl rfl (by kernel_rfl) (fun w1 hE hf => ?_) ?_
        · go_simp
          exact (rj1_any A B w1).mono fun e w' ⟨he, hw⟩ => ⟨_, he, rg_done hE hw (rfl)⟩
        simp only [Act.put, List.setIfInBounds_toArray, List.set_cons_zero, List.set_cons_succ]
        refine rg_quiet rfl rfl rfl rfl ?_; intro K hK; go_big_quiet_op; go_big_quiet_on
        refine rel_nil fun w2 hE2 _ => ?_
        obtain ⟨hE2', hle, hown2⟩ := FIN.out w2 hE2
        clear x0 x1 x2 x3 x4 y0 y1 y2 y3 y4 FIN hE2
        have hE2 := hE2'
        clear hE2'
        obtain ⟨kc, hkc⟩ : ∃ kc, kc = keyC A B := ⟨_, rfl⟩
        rw [← hkc]
        have HK := Lib.hid hkc
        clear hkc
        have hsz2 : wr.heap.size ≤ w2.heap.size := hle
        by_cases k1 : kc < 0
        · go_wp2_with fail
          refine wp_region_relE (MC w wr u9 out) (ME u9 5) (Tab.atE [(3, fun v _ => v = (.agg #[.string A.name, .string A.cell.val, .bool A.cell.dead, .int .i64 A.cell.at_, .int .i64 A.cell.fin])), (4, fun v x => ∃ b, v = .slice (some ⟨b, 0, none⟩) 1 1 ∧ wr.heap.size ≤ b ∧ BoxAt x b (co5 A) 216), (5, fun v x => x.ownsRow w.heap.size 216 5 v (out.length + 1) (coCells (out ++ [A])))])
            (Tab.staysE ⟨fun _ _ _ _ _ _ h => h, fun j _ v x y hR ⟨b, e, hb, hx⟩ => ⟨b, e, hb, ME_box hown hR hb hx⟩, fun j hj v x y hR h => ownsRow_ext h (ME_off hj hR), trivial⟩)
            12 (by kernel_rfl) (by kernel_rfl) (by kernel_rfl) ((⟨hE2, hown2, hsz2⟩ : MC w wr u9 out w2).ext' (Ext.refl w2).drew) ?_
          refine relE_quiet rfl rfl rfl rfl ?_; intro K hK; go_big_quiet_op; (first | refine ⟨_, fun _ _ => rfl, hK _ ?_⟩ | refine hK _ ?_); clear hK K
          refine relE_quiet rfl rfl rfl rfl ?_; intro K hK; go_big_quiet_op; (first | refine ⟨_, fun _ _ => rfl, hK _ ?_⟩ | refine hK _ ?_); clear hK K
          refine relE_quiet rfl rfl rfl rfl ?_; intro K hK; go_big_quiet_op; (first | refine ⟨_, fun _ _ => rfl, hK _ ?_⟩ | refine hK _ ?_); clear hK K
          refine relE_val [] rfl rfl rfl (by kernel_rfl) (fun z hz hf => ?_) ?_
          · obtain ⟨x0, x1, x2, x3, x4⟩ := hA.ext hz.ext
            go_simp
            exact ⟨hz, ME_ext (Ext.refl z), rfl⟩
          simp only [Act.put, List.setIfInBounds_toArray, List.set_cons_zero, List.set_cons_succ]
          refine relE_fact [] rfl rfl rfl (by kernel_rfl) (fun z hz hf => ?_) (fun v4 z4 hC4 hG4 h4 => ?_)
          · go_simp
            exact ⟨hz.ext' ((Ext.refl z).alloc _), ME_ext ((Ext.refl z).alloc _), _, rfl, hz.size, BoxAt.made z _ _⟩
          obtain ⟨b4, rfl, hb4, _⟩ := h4
          have HB4 := Lib.hid hb4
          clear hC4 hG4 hb4
          simp only [Act.put, List.setIfInBounds_toArray, List.set_cons_zero, List.set_cons_succ]
          refine relE_fact [4] rfl rfl rfl (by kernel_rfl) (fun z hz hf => ?_) (fun v5 z5 hC5 hG5 h5 => ?_)
          · obtain ⟨b, e, _, hbox⟩ := (hf 4 (by simp)).2 rfl
            cases e
            refine yields_append info_Col und_Cols rfl (by decide) (.tmp 51) (.tmp 55) rfl w.heap.size hz.ext.le u9 out.length (coCells out) hz.own (by rfl) b4 1 1 (co5 A).toList (by rfl) (by rfl) (fun j u hj => by rw [hbox.cell j]; simpa using hj) (by simp [co5, Value.oneCell']) (by unfold maxLen; omega) (by omega) ?_
            intro v' y hown' hg hkeep
            refine ⟨⟨hz.ext.grown hg (fun q hq => (hz.own.lt q hq).1), hkeep, Nat.le_trans hz.size hg.size⟩, by unfold ME; rw [if_pos rfl]; exact hg, ?_⟩
            rw [coCells_append]
            exact hown'
          obtain ⟨a5, c5, rfl⟩ := own_shape h5
          clear hC5 hG5 h5
          simp only [Act.put, List.setIfInBounds_toArray, List.set_cons_zero, List.set_cons_succ]
          refine relE_quiet rfl rfl rfl rfl ?_; intro K hK; go_big_quiet_op; (first | refine ⟨_, fun _ _ => rfl, hK _ ?_⟩ | refine hK _ ?_); clear hK K
          refine relE_quiet rfl rfl rfl rfl ?_; intro K hK; go_big_quiet_op; (first | refine ⟨_, fun _ _ => rfl, hK _ ?_⟩ | refine hK _ ?_); clear hK K
          refine relE_quiet rfl rfl rfl rfl ?_; intro K hK; go_big_quiet_op; (first | refine ⟨_, fun _ _ => rfl, hK _ ?_⟩ | refine hK _ ?_); clear hK K
          refine relE_quiet rfl rfl rfl rfl ?_; intro K hK; go_big_quiet_op; (first | refine ⟨_, fun _ _ => rfl, hK _ ?_⟩ | refine hK _ ?_); clear hK K
          refine relE_nil fun w9 hC hG => ?_
          have hown9 := (hG 5).2 rfl
          have hE9 := hC.ext
          clear hC hG HB4 hown hE2 hown2 hsz2
          go_wp2_with fail
          go_roundw
          case rel =>
            refine ⟨l', m, out ++ [A], hl', hm, by rw [List.length_append]; exact hown9, hE9, ?_, by have := congrArg List.length HL.out; simp at this ⊢; omega⟩
            show mergeCo la lb = _
            rw [HM.out, HL.out, HN.out, List.append_assoc]
            unfold mergeCo
            rw [mergeG_lt (by rw [← HK.out]; exact k1)]
            rfl
          case measure => simp [lenOf] <;> omega
        · by_cases k2 : 0 < kc
          · go_wp2_with fail
            refine wp_region_relE (MC w wr u9 out) (ME u9 5) (Tab.atE [(3, fun v _ => v = (.agg #[.string B.name, .string B.cell.val, .bool B.cell.dead, .int .i64 B.cell.at_, .int .i64 B.cell.fin])), (4, fun v x => ∃ b, v = .slice (some ⟨b, 0, none⟩) 1 1 ∧ wr.heap.size ≤ b ∧ BoxAt x b (co5 B) 216), (5, fun v x => x.ownsRow w.heap.size 216 5 v (out.length + 1) (coCells (out ++ [B])))])
              (Tab.staysE ⟨fun _ _ _ _ _ _ h => h, fun j _ v x y hR ⟨b, e, hb, hx⟩ => ⟨b, e, hb, ME_box hown hR hb hx⟩, fun j hj v x y hR h => ownsRow_ext h (ME_off hj hR), trivial⟩)
              12 (by kernel_rfl) (by kernel_rfl) (by kernel_rfl) ((⟨hE2, hown2, hsz2⟩ : MC w wr u9 out w2).ext' (Ext.refl w2).drew) ?_
            refine relE_quiet rfl rfl rfl rfl ?_; intro K hK; go_big_quiet_op; (first | refine ⟨_, fun _ _ => rfl, hK _ ?_⟩ | refine hK _ ?_); clear hK K
            refine relE_quiet rfl rfl rfl rfl ?_; intro K hK; go_big_quiet_op; (first | refine ⟨_, fun _ _ => rfl, hK _ ?_⟩ | refine hK _ ?_); clear hK K
            refine relE_quiet rfl rfl rfl rfl ?_; intro K hK; go_big_quiet_op; (first | refine ⟨_, fun _ _ => rfl, hK _ ?_⟩ | refine hK _ ?_); clear hK K
            refine relE_val [] rfl rfl rfl (by kernel_rfl) (fun z hz hf => ?_) ?_
            · obtain ⟨x0, x1, x2, x3, x4⟩ := hB.ext hz.ext
              go_simp
              exact ⟨hz, ME_ext (Ext.refl z), rfl⟩
            simp only [Act.put, List.setIfInBounds_toArray, List.set_cons_zero, List.set_cons_succ]
            refine relE_fact [] rfl rfl rfl (by kernel_rfl) (fun z hz hf => ?_) (fun v4 z4 hC4 hG4 h4 => ?_)
            · go_simp
              exact ⟨hz.ext' ((Ext.refl z).alloc _), ME_ext ((Ext.refl z).alloc _), _, rfl, hz.size, BoxAt.made z _ _⟩
            obtain ⟨b4, rfl, hb4, _⟩ := h4
            have HB4 := Lib.hid hb4
            clear hC4 hG4 hb4
            simp only [Act.put, List.setIfInBounds_toArray, List.set_cons_zero, List.set_cons_succ]
            refine relE_fact [4] rfl rfl rfl (by kernel_rfl) (fun z hz hf => ?_) (fun v5 z5 hC5 hG5 h5 => ?_)
            · obtain ⟨b, e, _, hbox⟩ := (hf 4 (by simp)).2 rfl
              cases e
              refine yields_append info_Col und_Cols rfl (by decide) (.tmp 62) (.tmp 66) rfl w.heap.size hz.ext.le u9 out.length (coCells out) hz.own (by rfl) b4 1 1 (co5 B).toList (by rfl) (by rfl) (fun j u hj => by rw [hbox.cell j]; simpa using hj) (by simp [co5, Value.oneCell']) (by unfold maxLen; omega) (by omega) ?_
              intro v' y hown' hg hkeep
              refine ⟨⟨hz.ext.grown hg (fun q hq => (hz.own.lt q hq).1), hkeep, Nat.le_trans hz.size hg.size⟩, by unfold ME; rw [if_pos rfl]; exact hg, ?_⟩
              rw [coCells_append]
              exact hown'
            obtain ⟨a5, c5, rfl⟩ := own_shape h5
            clear hC5 hG5 h5
            simp only [Act.put, List.setIfInBounds_toArray, List.set_cons_zero, List.set_cons_succ]
            refine relE_quiet rfl rfl rfl rfl ?_; intro K hK; go_big_quiet_op; (first | refine ⟨_, fun _ _ => rfl, hK _ ?_⟩ | refine hK _ ?_); clear hK K
            refine relE_quiet rfl rfl rfl rfl ?_; intro K hK; go_big_quiet_op; (first | refine ⟨_, fun _ _ => rfl, hK _ ?_⟩ | refine hK _ ?_); clear hK K
            refine relE_quiet rfl rfl rfl rfl ?_; intro K hK; go_big_quiet_op; (first | refine ⟨_, fun _ _ => rfl, hK _ ?_⟩ | refine hK _ ?_); clear hK K
            refine relE_quiet rfl rfl rfl rfl ?_; intro K hK; go_big_quiet_op; (first | refine ⟨_, fun _ _ => rfl, hK _ ?_⟩ | refine hK _ ?_); clear hK K
            refine relE_nil fun w9 hC hG => ?_
            have hown9 := (hG 5).2 rfl
            have hE9 := hC.ext
            clear hC hG HB4 hown hE2 hown2 hsz2
            go_wp2_with fail
            go_roundw
            case rel =>
              refine ⟨l, m', out ++ [B], hl, hm', by rw [List.length_append]; exact hown9, hE9, ?_, by have := congrArg List.length HN.out; simp at this ⊢; omega⟩
              show mergeCo la lb = _
              rw [HM.out, HL.out, HN.out, List.append_assoc]
              unfold mergeCo
              rw [mergeG_gt (by rw [← HK.out]; exact k2)]
              rfl
            case measure => simp [lenOf] <;> omega
          · obtain ⟨J, hJ⟩ : ∃ J, J = joinCo A B := ⟨_, rfl⟩
            have HJ := Lib.hid hJ
            clear hJ
            go_wp2_with fail
            refine wp_region_relE (MC w wr u9 out) (ME u9 10) (Tab.atE [(4, fun v _ => v = (.agg #[.string A.name, .string A.cell.val, .bool A.cell.dead, .int .i64 A.cell.at_, .int .i64 A.cell.fin])), (7, fun v _ => v = (.agg #[.string B.name, .string B.cell.val, .bool B.cell.dead, .int .i64 B.cell.at_, .int .i64 B.cell.fin])), (8, fun v _ => v = (.agg #[.string J.name, .string J.cell.val, .bool J.cell.dead, .int .i64 J.cell.at_, .int .i64 J.cell.fin])), (9, fun v x => ∃ b, v = .slice (some ⟨b, 0, none⟩) 1 1 ∧ wr.heap.size ≤ b ∧ BoxAt x b (co5 J) 216), (10, fun v x => x.ownsRow w.heap.size 216 5 v (out.length + 1) (coCells (out ++ [J])))])
              (Tab.staysE ⟨fun _ _ _ _ _ _ h => h, fun _ _ _ _ _ _ h => h, fun _ _ _ _ _ _ h => h, fun j _ v x y hR ⟨b, e, hb, hx⟩ => ⟨b, e, hb, ME_box hown hR hb hx⟩, fun j hj v x y hR h => ownsRow_ext h (ME_off hj hR), trivial⟩)
              20 (by kernel_rfl) (by kernel_rfl) (by kernel_rfl) ((⟨hE2, hown2, hsz2⟩ : MC w wr u9 out w2).ext' (Ext.refl w2).drew) ?_
            refine relE_quiet rfl rfl rfl rfl ?_; intro K hK; go_big_quiet_op; (first | refine ⟨_, fun _ _ => rfl, hK _ ?_⟩ | refine hK _ ?_); clear hK K
            refine relE_quiet rfl rfl rfl rfl ?_; intro K hK; go_big_quiet_op; (first | refine ⟨_, fun _ _ => rfl, hK _ ?_⟩ | refine hK _ ?_); clear hK K
            refine relE_quiet rfl rfl rfl rfl ?_; intro K hK; go_big_quiet_op; (first | refine ⟨_, fun _ _ => rfl, hK _ ?_⟩ | refine hK _ ?_); clear hK K
            refine relE_quiet rfl rfl rfl rfl ?_; intro K hK; go_big_quiet_op; (first | refine ⟨_, fun _ _ => rfl, hK _ ?_⟩ | refine hK _ ?_); clear hK K
            refine relE_val [] rfl rfl rfl (by kernel_rfl) (fun z hz hf => ?_) ?_
            · obtain ⟨x0, x1, x2, x3, x4⟩ := hA.ext hz.ext
              go_simp
              exact ⟨hz, ME_ext (Ext.refl z), rfl⟩
            simp only [Act.put, List.setIfInBounds_toArray, List.set_cons_zero, List.set_cons_succ]
            refine relE_quiet rfl rfl rfl rfl ?_; intro K hK; go_big_quiet_op; (first | refine ⟨_, fun _ _ => rfl, hK _ ?_⟩ | refine hK _ ?_); clear hK K
            refine relE_quiet rfl rfl rfl rfl ?_; intro K hK; go_big_quiet_op; (first | refine ⟨_, fun _ _ => rfl, hK _ ?_⟩ | refine hK _ ?_); clear hK K
            refine relE_val [] rfl rfl rfl (by kernel_rfl) (fun z hz hf => ?_) ?_
            · obtain ⟨x0, x1, x2, x3, x4⟩ := hB.ext hz.ext
              go_simp
              exact ⟨hz, ME_ext (Ext.refl z), rfl⟩
            simp only [Act.put, List.setIfInBounds_toArray, List.set_cons_zero, List.set_cons_succ]
            refine relE_val [] rfl rfl rfl (by kernel_rfl) (fun z hz hf => ?_) ?_
            · go_simp
              exact (rj2_any A B z).mono fun e y ⟨he, hy⟩ => ⟨_, he, hz.ext' hy, ME_ext hy, by rw [HJ.out]; rfl⟩
            simp only [Act.put, List.setIfInBounds_toArray, List.set_cons_zero, List.set_cons_succ]
            refine relE_fact [] rfl rfl rfl (by kernel_rfl) (fun z hz hf => ?_) (fun v4 z4 hC4 hG4 h4 => ?_)
            · go_simp
              exact ⟨hz.ext' ((Ext.refl z).alloc _), ME_ext ((Ext.refl z).alloc _), _, rfl, hz.size, BoxAt.made z _ _⟩
            obtain ⟨b4, rfl, hb4, _⟩ := h4
            have HB4 := Lib.hid hb4
            clear hC4 hG4 hb4
            simp only [Act.put, List.setIfInBounds_toArray, List.set_cons_zero, List.set_cons_succ]
            refine relE_fact [9] rfl rfl rfl (by kernel_rfl) (fun z hz hf => ?_) (fun v5 z5 hC5 hG5 h5 => ?_)
            · obtain ⟨b, e, _, hbox⟩ := (hf 9 (by simp)).2 rfl
              cases e
              refine yields_append info_Col und_Cols rfl (by decide) (.tmp 33) (.tmp 42) rfl w.heap.size hz.ext.le u9 out.length (coCells out) hz.own (by rfl) b4 1 1 (co5 J).toList (by rfl) (by rfl) (fun j u hj => by rw [hbox.cell j]; simpa using hj) (by simp [co5, Value.oneCell']) (by unfold maxLen; omega) (by omega) ?_
              intro v' y hown' hg hkeep
              refine ⟨⟨hz.ext.grown hg (fun q hq => (hz.own.lt q hq).1), hkeep, Nat.le_trans hz.size hg.size⟩, by unfold ME; rw [if_pos rfl]; exact hg, ?_⟩
              rw [coCells_append]
              exact hown'
            obtain ⟨a5, c5, rfl⟩ := own_shape h5
            clear hC5 hG5 h5
            simp only [Act.put, List.setIfInBounds_toArray, List.set_cons_zero, List.set_cons_succ]
            refine relE_quiet rfl rfl rfl rfl ?_; intro K hK; go_big_quiet_op; (first | refine ⟨_, fun _ _ => rfl, hK _ ?_⟩ | refine hK _ ?_); clear hK K
            refine relE_quiet rfl rfl rfl rfl ?_; intro K hK; go_big_quiet_op; (first | refine ⟨_, fun _ _ => rfl, hK _ ?_⟩ | refine hK _ ?_); clear hK K
            refine relE_quiet rfl rfl rfl rfl ?_; intro K hK; go_big_quiet_op; (first | refine ⟨_, fun _ _ => rfl, hK _ ?_⟩ | refine hK _ ?_); clear hK K
            refine relE_quiet rfl rfl rfl rfl ?_; intro K hK; go_big_quiet_op; (first | refine ⟨_, fun _ _ => rfl, hK _ ?_⟩ | refine hK _ ?_); clear hK K
            refine relE_quiet rfl rfl rfl rfl ?_; intro K hK; go_big_quiet_op; (first | refine ⟨_, fun _ _ => rfl, hK _ ?_⟩ | refine hK _ ?_); clear hK K
            refine relE_quiet rfl rfl rfl rfl ?_; intro K hK; go_big_quiet_op; (first | refine ⟨_, fun _ _ => rfl, hK _ ?_⟩ | refine hK _ ?_); clear hK K
            refine relE_quiet rfl rfl rfl rfl ?_; intro K hK; go_big_quiet_op; (first | refine ⟨_, fun _ _ => rfl, hK _ ?_⟩ | refine hK _ ?_); clear hK K
            refine relE_nil fun w9 hC hG => ?_
            have hown9 := (hG 10).2 rfl
            have hE9 := hC.ext
            clear hC hG HB4 hown hE2 hown2 hsz2
            go_wp2_with fail
            go_roundw
            case rel =>
              refine ⟨l', m', out ++ [J], hl', hm', by rw [List.length_append]; exact hown9, hE9, ?_, by have := congrArg List.length HL.out; have := congrArg List.length HN.out; simp at *; omega⟩
              show mergeCo la lb = _
              rw [HM.out, HL.out, HN.out, List.append_assoc, HJ.out]
              unfold mergeCo
              rw [mergeG_eq (by rw [← HK.out]; omega)]
              rfl
            case measure => simp [lenOf] <;> omega
      · obtain ⟨b1, o1, c1, A, l', hll, rfl, hc1, hcm1, hA, hl'⟩ := hl.uncons h1
        obtain ⟨am, cm, rfl, hcm, hcmm, hgm⟩ := hm.get
        have h1' : decide ((0 : Int) < (l.length : Int)) = true := decide_eq_true (by omega)
        have h2' : decide ((0 : Int) < (m.length : Int)) = false := decide_eq_false (by omega)
        clear hgm hA hl' hll
        have hM : mergeCo la lb = out ++ l ++ m := by
          rw [HM.out]
          have : m = [] := List.eq_nil_of_length_eq_zero (by omega)
          rw [this, List.append_nil]
          unfold mergeCo
          rw [mergeG_nil_right]
        obtain ⟨N, hN⟩ : ∃ N, N = out ++ l ++ m := ⟨_, rfl⟩
        rw [← hN] at hM
        have HN := Lib.hid hN
        have HMM := Lib.hid hM
        clear hN hM
        by_cases hz : N.length = 0
        · have hz' : ((N.length : Int) == 0) = true := by simp [hz]
          go_wp2_with (first
            | (at_builtin; refine appCols wr rfl (.tmp 70) (.tmp 71) rfl w.heap.size hE.le _ out hown (by rfl) _ l (hl.ext hE) (by rfl) (by omega) ?_; intro v3 w3 hown3 hg3; have hE3 := hE.grown hg3 (fun q hq => (hown.lt q hq).1))
            | (at_builtin; refine appCols w3 rfl (.tmp 72) (.tmp 73) rfl w.heap.size hE3.le v3 (out ++ l) hown3 (by rfl) _ m (hm.ext hE3) (by rfl) (by simp; omega) ?_; intro v4 w4 hown4 hg4; have hE4 := hE3.grown hg4 (fun q hq => (hown3.lt q hq).1); rw [← HN.out] at hown4; clear hg3 hg4 hown3 hE3; obtain ⟨a4, c4, rfl⟩ := own_shape hown4))
          go_ret
          rw [HMM.out]
          obtain rfl : N = [] := List.eq_nil_of_length_eq_zero hz
          exact ⟨_, rfl, World.ownsRow_nil _ _ _ _, hE4⟩
        · have hz' : ((N.length : Int) == 0) = false := by simp; intro h; exact hz (by simp [h])
          go_wp2_with (first
            | (at_builtin; refine appCols wr rfl (.tmp 70) (.tmp 71) rfl w.heap.size hE.le _ out hown (by rfl) _ l (hl.ext hE) (by rfl) (by omega) ?_; intro v3 w3 hown3 hg3; have hE3 := hE.grown hg3 (fun q hq => (hown.lt q hq).1))
            | (at_builtin; refine appCols w3 rfl (.tmp 72) (.tmp 73) rfl w.heap.size hE3.le v3 (out ++ l) hown3 (by rfl) _ m (hm.ext hE3) (by rfl) (by simp; omega) ?_; intro v4 w4 hown4 hg4; have hE4 := hE3.grown hg4 (fun q hq => (hown3.lt q hq).1); rw [← HN.out] at hown4; clear hg3 hg4 hown3 hE3; obtain ⟨a4, c4, rfl⟩ := own_shape hown4))
          go_ret
          rw [HMM.out]
          exact ⟨_, rfl, hown4, hE4⟩
    · obtain ⟨al, cl, rfl, hcl, hcml, hgl⟩ := hl.get
      obtain ⟨am, cm, rfl, hcm, hcmm, hgm⟩ := hm.get
      have h1' : decide ((0 : Int) < (l.length : Int)) = false := decide_eq_false (by omega)
      clear hgm hgl
      have hM : mergeCo la lb = out ++ l ++ m := by
        rw [HM.out]
        have : l = [] := List.eq_nil_of_length_eq_zero (by omega)
        rw [this, List.append_nil]
        unfold mergeCo
        rw [mergeG_nil_left]
      obtain ⟨N, hN⟩ : ∃ N, N = out ++ l ++ m := ⟨_, rfl⟩
      rw [← hN] at hM
      have HN := Lib.hid hN
      have HMM := Lib.hid hM
      clear hN hM
      by_cases hz : N.length = 0
      · have hz' : ((N.length : Int) == 0) = true := by simp [hz]
        go_wp2_with (first
          | (at_builtin; refine appCols wr rfl (.tmp 70) (.tmp 71) rfl w.heap.size hE.le _ out hown (by rfl) _ l (hl.ext hE) (by rfl) (by omega) ?_; intro v3 w3 hown3 hg3; have hE3 := hE.grown hg3 (fun q hq => (hown.lt q hq).1))
          | (at_builtin; refine appCols w3 rfl (.tmp 72) (.tmp 73) rfl w.heap.size hE3.le v3 (out ++ l) hown3 (by rfl) _ m (hm.ext hE3) (by rfl) (by simp; omega) ?_; intro v4 w4 hown4 hg4; have hE4 := hE3.grown hg4 (fun q hq => (hown3.lt q hq).1); rw [← HN.out] at hown4; clear hg3 hg4 hown3 hE3; obtain ⟨a4, c4, rfl⟩ := own_shape hown4))
        go_ret
        rw [HMM.out]
        obtain rfl : N = [] := List.eq_nil_of_length_eq_zero hz
        exact ⟨_, rfl, World.ownsRow_nil _ _ _ _, hE4⟩
      · have hz' : ((N.length : Int) == 0) = false := by simp; intro h; exact hz (by simp [h])
        go_wp2_with (first
          | (at_builtin; refine appCols wr rfl (.tmp 70) (.tmp 71) rfl w.heap.size hE.le _ out hown (by rfl) _ l (hl.ext hE) (by rfl) (by omega) ?_; intro v3 w3 hown3 hg3; have hE3 := hE.grown hg3 (fun q hq => (hown.lt q hq).1))
          | (at_builtin; refine appCols w3 rfl (.tmp 72) (.tmp 73) rfl w.heap.size hE3.le v3 (out ++ l) hown3 (by rfl) _ m (hm.ext hE3) (by rfl) (by simp; omega) ?_; intro v4 w4 hown4 hg4; have hE4 := hE3.grown hg4 (fun q hq => (hown3.lt q hq).1); rw [← HN.out] at hown4; clear hg3 hg4 hown3 hE3; obtain ⟨a4, c4, rfl⟩ := own_shape hown4))
        go_ret
        rw [HMM.out]
        exact ⟨_, rfl, hown4, hE4⟩
end Go.Proofs.YtimbikbbbfpeeaaGreatDoor
