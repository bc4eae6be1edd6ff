/- row.Join. -/
import Derived.Test.YtimbikbbbfpeeaaGreatDoorP11
import Derived.Test.YtimbikbbbfpeeaaGreatDoorP13
import Derived.Test.YtimbikbbbfpeeaaGreatDoorP8
import Derived.Test.YtimbikbbbfpeeaaGreatDoorP12
import Derived.Test.YtimbikbbbfpeeaaGreatDoorP1
import Derived.Laws.CopyOwn
import Derived.Laws.MakeOwn
import Derived.OwnWalk
set_option linter.unusedSimpArgs false
set_option linter.unusedVariables false
namespace Go.Proofs.YtimbikbbbfpeeaaGreatDoor
open Go Go.RowKit
attribute [local go_sem] yields yUpon ro8 co5
set_option maxRecDepth 100000 in
set_option maxHeartbeats 4000000 in
theorem rowJoin_any (a b : Ro) (va vb : Value) (w : World) (ha : ColsIn w va a.cols) (hb : ColsIn w vb b.cols) (hlen : a.cols.length + b.cols.length ≤ 1000000) :
    Calls Tryz.prog 212 #[(.agg #[.string a.key, .string a.live.val, .bool a.live.dead, .int .i64 a.live.at_, .int .i64 a.live.fin, .int .i64 a.gone, .int .i64 a.shade, va]), (.agg #[.string b.key, .string b.live.val, .bool b.live.dead, .int .i64 b.live.at_, .int .i64 b.live.fin, .int .i64 b.gone, .int .i64 b.shade, vb])] w fun e w' => ∃ v', e = .returned (.agg #[.string (joinRo a b).key, .string (joinRo a b).live.val, .bool (joinRo a b).live.dead, .int .i64 (joinRo a b).live.at_, .int .i64 (joinRo a b).live.fin, .int .i64 (joinRo a b).gone, .int .i64 (joinRo a b).shade, v']) ∧ w'.ownsRow w.heap.size 216 5 v' (joinRo a b).cols.length (coCells (joinRo a b).cols) ∧ Ext w w' := by
  obtain ⟨a0, a1, a2, hE⟩ := boxes3 w (ro8 a va) (ro8 b vb) (ro8 ⟨⟨#[]⟩, zeroCl, 0, 0, []⟩ (.slice none 0 0)) 66 66 66
  have ha' := ha.ext hE
  have hb' := hb.ext hE
  obtain ⟨c, hc⟩ : ∃ c, c = joinCl a.live b.live := ⟨_, rfl⟩
  obtain ⟨g, hg⟩ : ∃ g, g = max a.gone b.gone := ⟨_, rfl⟩
  obtain ⟨s, hs⟩ : ∃ s, s = max a.shade b.shade := ⟨_, rfl⟩
  have Hc := Lib.hid hc
  have Hg := Lib.hid hg
  have Hs := Lib.hid hs
  obtain ⟨L, hL⟩ : ∃ L, L = mergeCo a.cols b.cols := ⟨_, rfl⟩
  have HL := Lib.hid hL
  unfold joinRo
  rw [← hc, ← hg, ← hs, ← hL]
  clear hc hg hs hL
  go_enter Tryz.func212, Tryz.ntmps212
  go_wp2_with fail
  refine (mergeCo_any va vb a.cols b.cols _ ha' hb' hlen).mono ?_
  rintro e w1 ⟨v', rfl, hown, hE1⟩
  rw [← HL.out] at hown
  clear ha' hb' ha hb
  replace hown := ownsRow_base hown hE.le
  obtain ⟨ca, cc, rfl⟩ := own_shape hown
  replace a0 := a0.ext hE1
  replace a1 := a1.ext hE1
  replace a2 := a2.ext hE1
  replace hE := hE.trans hE1
  clear hE1
  go_wp2_with fail
  refine wp_region_in 19 [(6, fun v _ => v = (.agg #[.string c.val, .bool c.dead, .int .i64 c.at_, .int .i64 c.fin])), (11, fun v _ => v = .int .i64 g), (16, fun v _ => v = .int .i64 s)] (fun w0 => BoxAt w0 w.heap.size (ro8 a va) 66 ∧ BoxAt w0 (w.heap.size + 1) (ro8 b vb) 66 ∧ BoxAt w0 (w.heap.size + 1 + 1) (ro8 ⟨⟨#[]⟩, zeroCl, 0, 0, []⟩ (.slice none 0 0)) 66 ∧ w0.ownsRow w.heap.size 216 5 (.slice ca L.length cc) L.length (coCells L) ∧ Ext w w0) (by kernel_rfl) (by kernel_rfl) (by kernel_rfl) ⟨stays_eq _, stays_eq _, stays_eq _, trivial⟩ ⟨a0, a1, a2, hown, hE⟩ ?_
  clear a0 a1 a2 hE hown
  rintro w2 ⟨c0, c1, c2, hown, hE⟩
  have FIN : Hid (∀ wx, Ext w2 wx → BoxAt wx (w.heap.size + 1 + 1) (ro8 ⟨⟨#[]⟩, zeroCl, 0, 0, []⟩ (.slice none 0 0)) 66 ∧ wx.ownsRow w.heap.size 216 5 (.slice ca L.length cc) L.length (coCells L) ∧ Ext w wx) := fun wx h => ⟨c2.ext h, ownsRow_ext hown h, hE.trans h⟩
  obtain ⟨x0, x1, x2, x3, x4, x5, x6, x7⟩ := c0.ro
  obtain ⟨y0, y1, y2, y3, y4, y5, y6, y7⟩ := c1.ro
  clear c0 c1 c2 hE hown x7 y7 y0
  replace x0 := held x0
  replace x1 := held x1
  replace x2 := held x2
  replace x3 := held x3
  replace x4 := held x4
  replace x5 := held x5
  replace x6 := held x6
  replace y1 := held y1
  replace y2 := held y2
  replace y3 := held y3
  replace y4 := held y4
  replace y5 := held y5
  replace y6 := held y6
  refine rg_quiet rfl rfl rfl rfl ?_; intro K hK; go_big_quiet_op; go_big_quiet_on
  refine rg_quiet rfl rfl rfl rfl ?_; intro K hK; go_big_quiet_op; go_big_quiet_on
  refine rg_quiet rfl rfl rfl rfl ?_; intro K hK; go_big_quiet_op; go_big_quiet_on
  refine rg_quiet rfl rfl rfl rfl ?_; intro K hK; go_big_quiet_op; go_big_quiet_on
  refine rg_quiet rfl rfl rfl rfl ?_; intro K hK; go_big_quiet_op; go_big_quiet_on
  refine rg_quiet rfl rfl rfl rfl ?_; intro K hK; go_big_quiet_op; go_big_quiet_on
  refine rg_val [] rfl rfl rfl (by kernel_rfl) (fun w1 hE hf => ?_) ?_
  · go_simp
    exact (join_c a.live.val a.live.dead a.live.at_ a.live.fin b.live.val b.live.dead b.live.at_ b.live.fin w1).mono fun e w' ⟨he, hw⟩ => ⟨_, he, rg_done hE hw (by rw [Hc.out])⟩
  simp only [Act.put, List.setIfInBounds_toArray, List.set_cons_zero, List.set_cons_succ]
  refine rg_quiet rfl rfl rfl rfl ?_; intro K hK; go_big_quiet_op; go_big_quiet_on
  refine rg_quiet rfl rfl rfl rfl ?_; intro K hK; go_big_quiet_op; go_big_quiet_on
  refine rg_quiet rfl rfl rfl rfl ?_; intro K hK; go_big_quiet_op; go_big_quiet_on
  refine rg_quiet rfl rfl rfl rfl ?_; intro K hK; go_big_quiet_op; go_big_quiet_on
  refine rg_val [] rfl rfl rfl (by kernel_rfl) (fun w1 hE hf => ?_) ?_
  · go_simp
    exact rg_done hE (Ext.refl w1) (by rw [Hg.out])
  simp only [Act.put, List.setIfInBounds_toArray, List.set_cons_zero, List.set_cons_succ]
  refine rg_quiet rfl rfl rfl rfl ?_; intro K hK; go_big_quiet_op; go_big_quiet_on
  refine rg_quiet rfl rfl rfl rfl ?_; intro K hK; go_big_quiet_op; go_big_quiet_on
  refine rg_quiet rfl rfl rfl rfl ?_; intro K hK; go_big_quiet_op; go_big_quiet_on
  refine rg_quiet rfl rfl rfl rfl ?_; intro K hK; go_big_quiet_op; go_big_quiet_on
  refine rg_val [] rfl rfl rfl (by kernel_rfl) (fun w1 hE hf => ?_) ?_
  · go_simp
    exact rg_done hE (Ext.refl w1) (by rw [Hs.out])
  simp only [Act.put, List.setIfInBounds_toArray, List.set_cons_zero, List.set_cons_succ]
  refine rg_quiet rfl rfl rfl rfl ?_; intro K hK; go_big_quiet_op; go_big_quiet_on
  refine rg_quiet rfl rfl rfl rfl ?_; intro K hK; go_big_quiet_op; go_big_quiet_on
  refine rel_tail rfl rfl fun w5 hE5 hG => ?_
  obtain ⟨c2, hown, hE⟩ := FIN.out w5 hE5
  clear x0 x1 x2 x3 x4 x5 x6 y1 y2 y3 y4 y5 y6 hE5 hG FIN
  go_wp2_with ((guard_target =~ wpList _ _ _ (Oper.mk none (Op.store _ (Operand.tmp 4) (Operand.tmp 29)) _ _ _ _ :: _) _ _); go_must (refine storeBox rfl 66 (.tmp 4) (.tmp 29) rfl (w.heap.size + 1 + 1) _ _ _ (by rfl) (by rfl) (c2) (by kernel_rfl) (by rfl) (by simp [Value.oneCell']) ?_); intro w6 c6 g6)
  have hX6 := hE.grown g6 (fun q hq => by cases hq; omega)
  have hown6 := hown.kept g6 (own_ne_box hown c2 (by decide))
  clear hE hown g6 c2
  obtain ⟨z0, z1, z2, z3, z4, z5, z6, z7⟩ := c6.ro (r := ⟨a.key, c, g, s, L⟩) (v := .slice ca L.length cc)
  refine bodyPost_ret (v := .agg #[.string a.key, .string c.val, .bool c.dead, .int .i64 c.at_, .int .i64 c.fin, .int .i64 g, .int .i64 s, .slice ca L.length cc]) ?_ rfl ⟨_, rfl, hown6, hX6⟩
  simp [results, Tryz.results212, go_sem, Act.put, z0, z1, z2, z3, z4, z5, z6, z7]
end Go.Proofs.YtimbikbbbfpeeaaGreatDoor

/- row.Merge over rows. -/
namespace Go.Proofs.YtimbikbbbfpeeaaGreatDoor
open Go Go.RowKit
attribute [local go_sem] yields yUpon ro8
set_option maxHeartbeats 1000000 in
theorem pj1_any (a b : Ro) (va vb : Value) (w : World) : Calls Tryz.prog 210 #[(.agg #[.string a.key, .string a.live.val, .bool a.live.dead, .int .i64 a.live.at_, .int .i64 a.live.fin, .int .i64 a.gone, .int .i64 a.shade, va]), (.agg #[.string b.key, .string b.live.val, .bool b.live.dead, .int .i64 b.live.at_, .int .i64 b.live.fin, .int .i64 b.gone, .int .i64 b.shade, vb])] w fun e w' => e = .returned (.int .i64 (keyR a b)) ∧ Ext w w' := by
  go_enter Tryz.func210, Tryz.ntmps210
  go_wp2_with fail
  refine (strCompare_any _ _ _).mono ?_
  rintro e w1 ⟨rfl, rfl⟩
  go_wp2_with fail
  go_ret
  exact ⟨rfl, ((Ext.refl w).alloc _).alloc _⟩

set_option maxRecDepth 100000 in
set_option maxHeartbeats 4000000 in
theorem mergeRo_any (va vb : Value) (la lb : List (Ro × Value)) (w : World) (ha : RowsIn w va la) (hb : RowsIn w vb lb) (hlen : la.length + lb.length ≤ 1000000) (hcl : ∀ p ∈ la, ∀ q ∈ lb, p.1.cols.length + q.1.cols.length ≤ 1000000) :
    Calls Tryz.prog 209 #[va, vb, .func (.func 210) #[] #[], .func (.func 212) #[] #[]] w fun e w' => ∃ v', e = .returned v' ∧ ∃ ps, w'.ownsRow w.heap.size 66 8 v' ps.length (roCells ps) ∧ (∀ p ∈ ps, SafeC w w' p) ∧ ps.map (·.1) = mergeRo (la.map (·.1)) (lb.map (·.1)) ∧ Ext w w' := by
  obtain ⟨i0, hi, hz0, hz1, hz2⟩ := info_parts info_Row
  obtain ⟨aa, ca, rfl, hca, hcma, _⟩ := ha.get
  obtain ⟨ab, cb, rfl, hcb, hcmb, _⟩ := hb.get
  go_enter Tryz.func209, Tryz.ntmps209
  go_wp2_with (at_make; go_must (refine wpList_make_own _ rfl _ _ 50 rfl w.heap.size 66 i0 _ 8 und_Rows hi hz0 hz1 _ _ _ (la.length + lb.length) rfl rfl (by omega) ?b2 ?b3 (Nat.le_refl _) ?_))
  case b2 => rw [hz2]; omega
  case b3 => unfold maxLen; omega
  intro w0 hown0 hgrow0
  go_wp2
  go_loopw [0, 1, 9] (fun sa sb so wr => ∃ (l m out : List (Ro × Value)), RowsIn w sa l ∧ RowsIn w sb m ∧ wr.ownsRow w.heap.size 66 8 so out.length (roCells out) ∧ (∀ p ∈ out, SafeC w wr p) ∧ (∀ p ∈ l, p ∈ la) ∧ (∀ p ∈ m, p ∈ lb) ∧ Ext w wr ∧ Hid (mergeRo (la.map (·.1)) (lb.map (·.1)) = out.map (·.1) ++ mergeRo (l.map (·.1)) (m.map (·.1))) ∧ out.length + l.length + m.length ≤ la.length + lb.length) (fun sa sb _ _ => lenOf sa + lenOf sb)
  case atStart => exact ⟨la, lb, [], ha, hb, hown0, nofun, fun _ h => h, fun _ h => h, (Ext.refl w).grown hgrow0 (fun q hq => by cases hq), rfl, by simp⟩
  case round =>
    obtain ⟨l, m, out, hl, hm, hown, hsafe, hla, hlb, hE, HM, hsum⟩ := hrel
    by_cases h1 : 0 < l.length
    · by_cases h2 : 0 < m.length
      · obtain ⟨b1, o1, c1, A, a1, cc1, l', hll, rfl, hc1, hcm1, hA, hcA, hl'⟩ := hl.uncons h1
        obtain ⟨b2, o2, c2, B, a2, cc2, m', hmm, rfl, hc2, hcm2, hB, hcB, hm'⟩ := hm.uncons h2
        have h1' : decide ((0 : Int) < (l.length : Int)) = true := decide_eq_true (by omega)
        have h2' : decide ((0 : Int) < (m.length : Int)) = true := decide_eq_true (by omega)
        have HL := Lib.hid hll
        have HWR := Lib.hid hE.le
        have HN := Lib.hid hmm
        clear hll hmm
        go_wp2_with fail
        refine wp_region_in 9 [(7, fun v _ => v = .int .i64 (keyR A B))] (fun x => Ext w x ∧ wr.heap.size ≤ x.heap.size ∧ x.ownsRow w.heap.size 66 8 u9 out.length (roCells out) ∧ ∀ p ∈ out, SafeC w x p) (by kernel_rfl) (by kernel_rfl) (by kernel_rfl) ⟨stays_eq _, trivial⟩ ⟨hE, Nat.le_refl _, hown, hsafe⟩ ?_
        clear hE hsafe
        rintro w1 ⟨hE, hle, hown1, hsafe1⟩
        have FIN : Hid (∀ wx, Ext w1 wx → Ext w wx ∧ wr.heap.size ≤ wx.heap.size ∧ wx.ownsRow w.heap.size 66 8 u9 out.length (roCells out) ∧ ∀ p ∈ out, SafeC w wx p) := fun wx h => ⟨hE.trans h, Nat.le_trans hle h.le, ownsRow_ext hown1 h, fun p hp => (hsafe1 p hp).ext h⟩
        obtain ⟨x0, x1, x2, x3, x4, x5, x6, x7⟩ := hA.ext hE
        obtain ⟨y0, y1, y2, y3, y4, y5, y6, y7⟩ := hB.ext hE
        replace x0 := held x0
        replace x1 := held x1
        replace x2 := held x2
        replace x3 := held x3
        replace x4 := held x4
        replace x5 := held x5
        replace x6 := held x6
        replace x7 := held x7
        replace y0 := held y0
        replace y1 := held y1
        replace y2 := held y2
        replace y3 := held y3
        replace y4 := held y4
        replace y5 := held y5
        replace y6 := held y6
        replace y7 := held y7
        clear hE hle hown1 hsafe1
        refine rg_quiet rfl rfl rfl rfl ?_; intro K hK; go_big_quiet_op; go_big_quiet_on
        refine rg_quiet rfl rfl rfl rfl ?_; intro K hK; go_big_quiet_op; go_big_quiet_on
        refine rg_quiet rfl rfl rfl rfl ?_; intro K hK; go_big_quiet_op; go_big_quiet_on
        refine rg_quiet rfl rfl rfl rfl ?_; intro K hK; go_big_quiet_op; go_big_quiet_on
        refine rg_quiet rfl rfl rfl rfl ?_; intro K hK; go_big_quiet_op; go_big_quiet_on
        refine rg_quiet rfl rfl rfl rfl ?_; intro K hK; go_big_quiet_op; go_big_quiet_on
        refine rg_quiet rfl rfl rfl rfl ?_; intro K hK; go_big_quiet_op; go_big_quiet_on
        refine rg_val [] rfl rfl rfl (by kernel_rfl) (fun w1 hE hf => ?_) ?_
        · go_simp
          exact (pj1_any A B (.slice a1 A.cols.length cc1) (.slice a2 B.cols.length cc2) w1).mono fun e w' ⟨he, hw⟩ => ⟨_, he, rg_done hE hw (rfl)⟩
        simp only [Act.put, List.setIfInBounds_toArray, List.set_cons_zero, List.set_cons_succ]
        refine rg_quiet rfl rfl rfl rfl ?_; intro K hK; go_big_quiet_op; go_big_quiet_on
        refine rel_nil fun w2 hE2 _ => ?_
        obtain ⟨hE2', hle, hown2, hsafe2⟩ := FIN.out w2 hE2
        clear x0 x1 x2 x3 x4 x5 x6 x7 y0 y1 y2 y3 y4 y5 y6 y7 FIN hE2
        have hE2 := hE2'
        clear hE2'
        obtain ⟨kc, hkc⟩ : ∃ kc, kc = keyR A B := ⟨_, rfl⟩
        rw [← hkc]
        have HK := Lib.hid hkc
        clear hkc
        have hsz2 : wr.heap.size ≤ w2.heap.size := hle
        by_cases k1 : kc < 0
        · go_wp2_with fail
          refine wp_region_relE (MR w wr u9 out) (ME u9 5) (Tab.atE [(3, fun v _ => v = (.agg #[.string A.key, .string A.live.val, .bool A.live.dead, .int .i64 A.live.at_, .int .i64 A.live.fin, .int .i64 A.gone, .int .i64 A.shade, (.slice a1 A.cols.length cc1)])), (4, fun v x => ∃ b, v = .slice (some ⟨b, 0, none⟩) 1 1 ∧ wr.heap.size ≤ b ∧ BoxAt x b (ro8 A (.slice a1 A.cols.length cc1)) 66), (5, fun v x => x.ownsRow w.heap.size 66 8 v (out.length + 1) (roCells (out ++ [(A, (.slice a1 A.cols.length cc1))])))])
            (Tab.staysE ⟨fun _ _ _ _ _ _ h => h, fun j _ v x y hR ⟨b, e, hb, hx⟩ => ⟨b, e, hb, ME_box hown hR hb hx⟩, fun j hj v x y hR h => ownsRow_ext h (ME_off hj hR), trivial⟩)
            12 (by kernel_rfl) (by kernel_rfl) (by kernel_rfl) ((⟨hE2, hown2, hsz2, hsafe2⟩ : MR w wr u9 out w2).ext' (Ext.refl w2).drew) ?_
          refine relE_quiet rfl rfl rfl rfl ?_; intro K hK; go_big_quiet_op; (first | refine ⟨_, fun _ _ => rfl, hK _ ?_⟩ | refine hK _ ?_); clear hK K
          refine relE_quiet rfl rfl rfl rfl ?_; intro K hK; go_big_quiet_op; (first | refine ⟨_, fun _ _ => rfl, hK _ ?_⟩ | refine hK _ ?_); clear hK K
          refine relE_quiet rfl rfl rfl rfl ?_; intro K hK; go_big_quiet_op; (first | refine ⟨_, fun _ _ => rfl, hK _ ?_⟩ | refine hK _ ?_); clear hK K
          refine relE_val [] rfl rfl rfl (by kernel_rfl) (fun z hz hf => ?_) ?_
          · obtain ⟨x0, x1, x2, x3, x4, x5, x6, x7⟩ := hA.ext hz.ext
            go_simp
            exact ⟨hz, ME_ext (Ext.refl z), rfl⟩
          simp only [Act.put, List.setIfInBounds_toArray, List.set_cons_zero, List.set_cons_succ]
          refine relE_fact [] rfl rfl rfl (by kernel_rfl) (fun z hz hf => ?_) (fun v4 z4 hC4 hG4 h4 => ?_)
          · go_simp
            exact ⟨hz.ext' ((Ext.refl z).alloc _), ME_ext ((Ext.refl z).alloc _), _, rfl, hz.size, BoxAt.made z _ _⟩
          obtain ⟨b4, rfl, hb4, _⟩ := h4
          have HB4 := Lib.hid hb4
          clear hC4 hG4 hb4
          simp only [Act.put, List.setIfInBounds_toArray, List.set_cons_zero, List.set_cons_succ]
          refine relE_fact [4] rfl rfl rfl (by kernel_rfl) (fun z hz hf => ?_) (fun v5 z5 hC5 hG5 h5 => ?_)
          · obtain ⟨b, e, _, hbox⟩ := (hf 4 (by simp)).2 rfl
            cases e
            refine yields_append info_Row und_Rows rfl (by decide) (.tmp 51) (.tmp 55) rfl w.heap.size hz.ext.le u9 out.length (roCells out) hz.own (by rfl) b4 1 1 (ro8 A (.slice a1 A.cols.length cc1)).toList (by rfl) (by rfl) (fun j u hj => by rw [hbox.cell j]; simpa using hj) (by simp [ro8, Value.oneCell']) (by unfold maxLen; omega) (by omega) ?_
            intro v' y hown' hg hkeep
            refine ⟨⟨hz.ext.grown hg (fun q hq => (hz.own.lt q hq).1), hkeep, Nat.le_trans hz.size hg.size, fun p hp => (hz.safe p hp).grown hz.own hg⟩, by unfold ME; rw [if_pos rfl]; exact hg, ?_⟩
            rw [roCells_append]
            exact hown'
          obtain ⟨a5, c5, rfl⟩ := own_shape h5
          clear hC5 hG5 h5
          simp only [Act.put, List.setIfInBounds_toArray, List.set_cons_zero, List.set_cons_succ]
          refine relE_quiet rfl rfl rfl rfl ?_; intro K hK; go_big_quiet_op; (first | refine ⟨_, fun _ _ => rfl, hK _ ?_⟩ | refine hK _ ?_); clear hK K
          refine relE_quiet rfl rfl rfl rfl ?_; intro K hK; go_big_quiet_op; (first | refine ⟨_, fun _ _ => rfl, hK _ ?_⟩ | refine hK _ ?_); clear hK K
          refine relE_quiet rfl rfl rfl rfl ?_; intro K hK; go_big_quiet_op; (first | refine ⟨_, fun _ _ => rfl, hK _ ?_⟩ | refine hK _ ?_); clear hK K
          refine relE_quiet rfl rfl rfl rfl ?_; intro K hK; go_big_quiet_op; (first | refine ⟨_, fun _ _ => rfl, hK _ ?_⟩ | refine hK _ ?_); clear hK K
          refine relE_nil fun w9 hC hG => ?_
          have hown9 := (hG 5).2 rfl
          have hE9 := hC.ext
          have hs9 := hC.safe
          clear hC hG HB4 hown hE2 hown2 hsz2 hsafe2
          go_wp2_with fail
          go_roundw
          case rel =>
            refine ⟨l', m, out ++ [(A, (.slice a1 A.cols.length cc1))], hl', hm, by rw [List.length_append]; exact hown9, (fun p hp => by rcases List.mem_append.1 hp with h | h; exact hs9 p h; rw [List.mem_singleton.1 h]; exact .inl hcA), (fun p hp => hla p (by rw [HL.out]; exact List.mem_cons_of_mem _ hp)), hlb, hE9, ?_, by have := congrArg List.length HL.out; simp at this ⊢; omega⟩
            show mergeRo _ _ = _
            rw [HM.out, HL.out, HN.out, List.map_append, List.append_assoc]
            unfold mergeRo
            rw [List.map_cons, List.map_cons, mergeG_lt (by rw [← HK.out]; exact k1)]
            rfl
          case measure => simp [lenOf] <;> omega
        · by_cases k2 : 0 < kc
          · go_wp2_with fail
            refine wp_region_relE (MR w wr u9 out) (ME u9 5) (Tab.atE [(3, fun v _ => v = (.agg #[.string B.key, .string B.live.val, .bool B.live.dead, .int .i64 B.live.at_, .int .i64 B.live.fin, .int .i64 B.gone, .int .i64 B.shade, (.slice a2 B.cols.length cc2)])), (4, fun v x => ∃ b, v = .slice (some ⟨b, 0, none⟩) 1 1 ∧ wr.heap.size ≤ b ∧ BoxAt x b (ro8 B (.slice a2 B.cols.length cc2)) 66), (5, fun v x => x.ownsRow w.heap.size 66 8 v (out.length + 1) (roCells (out ++ [(B, (.slice a2 B.cols.length cc2))])))])
              (Tab.staysE ⟨fun _ _ _ _ _ _ h => h, fun j _ v x y hR ⟨b, e, hb, hx⟩ => ⟨b, e, hb, ME_box hown hR hb hx⟩, fun j hj v x y hR h => ownsRow_ext h (ME_off hj hR), trivial⟩)
              12 (by kernel_rfl) (by kernel_rfl) (by kernel_rfl) ((⟨hE2, hown2, hsz2, hsafe2⟩ : MR w wr u9 out w2).ext' (Ext.refl w2).drew) ?_
            refine relE_quiet rfl rfl rfl rfl ?_; intro K hK; go_big_quiet_op; (first | refine ⟨_, fun _ _ => rfl, hK _ ?_⟩ | refine hK _ ?_); clear hK K
            refine relE_quiet rfl rfl rfl rfl ?_; intro K hK; go_big_quiet_op; (first | refine ⟨_, fun _ _ => rfl, hK _ ?_⟩ | refine hK _ ?_); clear hK K
            refine relE_quiet rfl rfl rfl rfl ?_; intro K hK; go_big_quiet_op; (first | refine ⟨_, fun _ _ => rfl, hK _ ?_⟩ | refine hK _ ?_); clear hK K
            refine relE_val [] rfl rfl rfl (by kernel_rfl) (fun z hz hf => ?_) ?_
            · obtain ⟨x0, x1, x2, x3, x4, x5, x6, x7⟩ := hB.ext hz.ext
              go_simp
              exact ⟨hz, ME_ext (Ext.refl z), rfl⟩
            simp only [Act.put, List.setIfInBounds_toArray, List.set_cons_zero, List.set_cons_succ]
            refine relE_fact [] rfl rfl rfl (by kernel_rfl) (fun z hz hf => ?_) (fun v4 z4 hC4 hG4 h4 => ?_)
            · go_simp
              exact ⟨hz.ext' ((Ext.refl z).alloc _), ME_ext ((Ext.refl z).alloc _), _, rfl, hz.size, BoxAt.made z _ _⟩
            obtain ⟨b4, rfl, hb4, _⟩ := h4
            have HB4 := Lib.hid hb4
            clear hC4 hG4 hb4
            simp only [Act.put, List.setIfInBounds_toArray, List.set_cons_zero, List.set_cons_succ]
            refine relE_fact [4] rfl rfl rfl (by kernel_rfl) (fun z hz hf => ?_) (fun v5 z5 hC5 hG5 h5 => ?_)
            · obtain ⟨b, e, _, hbox⟩ := (hf 4 (by simp)).2 rfl
              cases e
              refine yields_append info_Row und_Rows rfl (by decide) (.tmp 62) (.tmp 66) rfl w.heap.size hz.ext.le u9 out.length (roCells out) hz.own (by rfl) b4 1 1 (ro8 B (.slice a2 B.cols.length cc2)).toList (by rfl) (by rfl) (fun j u hj => by rw [hbox.cell j]; simpa using hj) (by simp [ro8, Value.oneCell']) (by unfold maxLen; omega) (by omega) ?_
              intro v' y hown' hg hkeep
              refine ⟨⟨hz.ext.grown hg (fun q hq => (hz.own.lt q hq).1), hkeep, Nat.le_trans hz.size hg.size, fun p hp => (hz.safe p hp).grown hz.own hg⟩, by unfold ME; rw [if_pos rfl]; exact hg, ?_⟩
              rw [roCells_append]
              exact hown'
            obtain ⟨a5, c5, rfl⟩ := own_shape h5
            clear hC5 hG5 h5
            simp only [Act.put, List.setIfInBounds_toArray, List.set_cons_zero, List.set_cons_succ]
            refine relE_quiet rfl rfl rfl rfl ?_; intro K hK; go_big_quiet_op; (first | refine ⟨_, fun _ _ => rfl, hK _ ?_⟩ | refine hK _ ?_); clear hK K
            refine relE_quiet rfl rfl rfl rfl ?_; intro K hK; go_big_quiet_op; (first | refine ⟨_, fun _ _ => rfl, hK _ ?_⟩ | refine hK _ ?_); clear hK K
            refine relE_quiet rfl rfl rfl rfl ?_; intro K hK; go_big_quiet_op; (first | refine ⟨_, fun _ _ => rfl, hK _ ?_⟩ | refine hK _ ?_); clear hK K
            refine relE_quiet rfl rfl rfl rfl ?_; intro K hK; go_big_quiet_op; (first | refine ⟨_, fun _ _ => rfl, hK _ ?_⟩ | refine hK _ ?_); clear hK K
            refine relE_nil fun w9 hC hG => ?_
            have hown9 := (hG 5).2 rfl
            have hE9 := hC.ext
            have hs9 := hC.safe
            clear hC hG HB4 hown hE2 hown2 hsz2 hsafe2
            go_wp2_with fail
            go_roundw
            case rel =>
              refine ⟨l, m', out ++ [(B, (.slice a2 B.cols.length cc2))], hl, hm', by rw [List.length_append]; exact hown9, (fun p hp => by rcases List.mem_append.1 hp with h | h; exact hs9 p h; rw [List.mem_singleton.1 h]; exact .inl hcB), hla, (fun p hp => hlb p (by rw [HN.out]; exact List.mem_cons_of_mem _ hp)), hE9, ?_, by have := congrArg List.length HN.out; simp at this ⊢; omega⟩
              show mergeRo _ _ = _
              rw [HM.out, HL.out, HN.out, List.map_append, List.append_assoc]
              unfold mergeRo
              rw [List.map_cons, List.map_cons, mergeG_gt (by rw [← HK.out]; exact k2)]
              rfl
            case measure => simp [lenOf] <;> omega
          · have hAB : A.cols.length + B.cols.length ≤ 1000000 := hcl _ (hla _ (by rw [HL.out]; exact List.mem_cons_self ..)) _ (hlb _ (by rw [HN.out]; exact List.mem_cons_self ..))
            obtain ⟨J, hJ⟩ : ∃ J, J = joinRo A B := ⟨_, rfl⟩
            have HJ := Lib.hid hJ
            clear hJ
            go_wp2_with fail
            refine wp_region_relE (MR w wr u9 out) (ME u9 10) (Tab.atE [(4, fun v _ => v = (.agg #[.string A.key, .string A.live.val, .bool A.live.dead, .int .i64 A.live.at_, .int .i64 A.live.fin, .int .i64 A.gone, .int .i64 A.shade, (.slice a1 A.cols.length cc1)])), (7, fun v _ => v = (.agg #[.string B.key, .string B.live.val, .bool B.live.dead, .int .i64 B.live.at_, .int .i64 B.live.fin, .int .i64 B.gone, .int .i64 B.shade, (.slice a2 B.cols.length cc2)])), (8, fun v x => ∃ u, v = (.agg #[.string J.key, .string J.live.val, .bool J.live.dead, .int .i64 J.live.at_, .int .i64 J.live.fin, .int .i64 J.gone, .int .i64 J.shade, u]) ∧ x.ownsRow wr.heap.size 216 5 u J.cols.length (coCells J.cols)), (9, fun v x => ∃ b u, v = .slice (some ⟨b, 0, none⟩) 1 1 ∧ wr.heap.size ≤ b ∧ BoxAt x b (ro8 J u) 66 ∧ x.ownsRow wr.heap.size 216 5 u J.cols.length (coCells J.cols)), (10, fun v x => ∃ u, x.ownsRow w.heap.size 66 8 v (out.length + 1) (roCells (out ++ [(J, u)])) ∧ x.ownsRow wr.heap.size 216 5 u J.cols.length (coCells J.cols))])
              (Tab.staysE ⟨fun _ _ _ _ _ _ h => h, fun _ _ _ _ _ _ h => h, fun j _ v x y hR ⟨u, e, h⟩ => ⟨u, e, ME_own hown hR h⟩, fun j _ v x y hR ⟨b, u, e, hb, hx, h⟩ => ⟨b, u, e, hb, ME_box hown hR hb hx, ME_own hown hR h⟩, fun j hj v x y hR ⟨u, h, h'⟩ => ⟨u, ownsRow_ext h (ME_off hj hR), ownsRow_ext h' (ME_off hj hR)⟩, trivial⟩)
              20 (by kernel_rfl) (by kernel_rfl) (by kernel_rfl) ((⟨hE2, hown2, hsz2, hsafe2⟩ : MR w wr u9 out w2).ext' (Ext.refl w2).drew) ?_
            refine relE_quiet rfl rfl rfl rfl ?_; intro K hK; go_big_quiet_op; (first | refine ⟨_, fun _ _ => rfl, hK _ ?_⟩ | refine hK _ ?_); clear hK K
            refine relE_quiet rfl rfl rfl rfl ?_; intro K hK; go_big_quiet_op; (first | refine ⟨_, fun _ _ => rfl, hK _ ?_⟩ | refine hK _ ?_); clear hK K
            refine relE_quiet rfl rfl rfl rfl ?_; intro K hK; go_big_quiet_op; (first | refine ⟨_, fun _ _ => rfl, hK _ ?_⟩ | refine hK _ ?_); clear hK K
            refine relE_quiet rfl rfl rfl rfl ?_; intro K hK; go_big_quiet_op; (first | refine ⟨_, fun _ _ => rfl, hK _ ?_⟩ | refine hK _ ?_); clear hK K
            refine relE_val [] rfl rfl rfl (by kernel_rfl) (fun z hz hf => ?_) ?_
            · obtain ⟨x0, x1, x2, x3, x4, x5, x6, x7⟩ := hA.ext hz.ext
              go_simp
              exact ⟨hz, ME_ext (Ext.refl z), rfl⟩
            simp only [Act.put, List.setIfInBounds_toArray, List.set_cons_zero, List.set_cons_succ]
            refine relE_quiet rfl rfl rfl rfl ?_; intro K hK; go_big_quiet_op; (first | refine ⟨_, fun _ _ => rfl, hK _ ?_⟩ | refine hK _ ?_); clear hK K
            refine relE_quiet rfl rfl rfl rfl ?_; intro K hK; go_big_quiet_op; (first | refine ⟨_, fun _ _ => rfl, hK _ ?_⟩ | refine hK _ ?_); clear hK K
            refine relE_val [] rfl rfl rfl (by kernel_rfl) (fun z hz hf => ?_) ?_
            · obtain ⟨x0, x1, x2, x3, x4, x5, x6, x7⟩ := hB.ext hz.ext
              go_simp
              exact ⟨hz, ME_ext (Ext.refl z), rfl⟩
            simp only [Act.put, List.setIfInBounds_toArray, List.set_cons_zero, List.set_cons_succ]
            refine relE_fact [] rfl rfl rfl (by kernel_rfl) (fun z hz hf => ?_) (fun v8 z8 hC8 hG8 h8 => ?_)
            · go_simp
              refine (rowJoin_any A B _ _ z (hcA.ext hz.ext) (hcB.ext hz.ext) hAB).mono ?_
              rintro e y ⟨v', he, hown', hy⟩
              rw [← HJ.out] at he hown'
              exact ⟨_, he, hz.ext' hy, ME_ext hy, v', rfl, ownsRow_base hown' hz.size⟩
            obtain ⟨u8, rfl, h8'⟩ := h8
            obtain ⟨a8, cc8, rfl⟩ := own_shape h8'
            clear hC8 hG8 h8'
            simp only [Act.put, List.setIfInBounds_toArray, List.set_cons_zero, List.set_cons_succ]
            refine relE_fact [8] rfl rfl rfl (by kernel_rfl) (fun z hz hf => ?_) (fun v4 z4 hC4 hG4 h4 => ?_)
            · obtain ⟨u, e, hu⟩ := (hf 8 (by simp)).2 rfl
              cases e
              go_simp
              exact ⟨hz.ext' ((Ext.refl z).alloc _), ME_ext ((Ext.refl z).alloc _), _, rfl, hz.size, _, BoxAt.made z _ _, ownsRow_ext hu ((Ext.refl z).alloc _)⟩
            obtain ⟨b4, u4, rfl, hb4, _, _⟩ := h4
            have HB4 := Lib.hid hb4
            clear hC4 hG4 hb4
            simp only [Act.put, List.setIfInBounds_toArray, List.set_cons_zero, List.set_cons_succ]
            refine relE_fact [9] rfl rfl rfl (by kernel_rfl) (fun z hz hf => ?_) (fun v5 z5 hC5 hG5 h5 => ?_)
            · obtain ⟨b, u, e, _, hbox, hu⟩ := (hf 9 (by simp)).2 rfl
              cases e
              obtain ⟨au, cu, rfl⟩ := own_shape hu
              refine yields_append info_Row und_Rows rfl (by decide) (.tmp 33) (.tmp 42) rfl w.heap.size hz.ext.le u9 out.length (roCells out) hz.own (by rfl) b4 1 1 (ro8 J (.slice au J.cols.length cu)).toList (by rfl) (by rfl) (fun j u hj => by rw [hbox.cell j]; simpa using hj) (by simp [ro8, Value.oneCell']) (by unfold maxLen; omega) (by omega) ?_
              intro v' y hown' hg hkeep
              refine ⟨⟨hz.ext.grown hg (fun q hq => (hz.own.lt q hq).1), hkeep, Nat.le_trans hz.size hg.size, fun p hp => (hz.safe p hp).grown hz.own hg⟩, by unfold ME; rw [if_pos rfl]; exact hg, _, ?_, hu.kept hg (own_ne_own hu hz.own (by decide))⟩
              rw [roCells_append]
              exact hown'
            obtain ⟨u5, h5, _⟩ := h5
            obtain ⟨a5, c5, rfl⟩ := own_shape h5
            clear hC5 hG5 h5
            simp only [Act.put, List.setIfInBounds_toArray, List.set_cons_zero, List.set_cons_succ]
            refine relE_quiet rfl rfl rfl rfl ?_; intro K hK; go_big_quiet_op; (first | refine ⟨_, fun _ _ => rfl, hK _ ?_⟩ | refine hK _ ?_); clear hK K
            refine relE_quiet rfl rfl rfl rfl ?_; intro K hK; go_big_quiet_op; (first | refine ⟨_, fun _ _ => rfl, hK _ ?_⟩ | refine hK _ ?_); clear hK K
            refine relE_quiet rfl rfl rfl rfl ?_; intro K hK; go_big_quiet_op; (first | refine ⟨_, fun _ _ => rfl, hK _ ?_⟩ | refine hK _ ?_); clear hK K
            refine relE_quiet rfl rfl rfl rfl ?_; intro K hK; go_big_quiet_op; (first | refine ⟨_, fun _ _ => rfl, hK _ ?_⟩ | refine hK _ ?_); clear hK K
            refine relE_quiet rfl rfl rfl rfl ?_; intro K hK; go_big_quiet_op; (first | refine ⟨_, fun _ _ => rfl, hK _ ?_⟩ | refine hK _ ?_); clear hK K
            refine relE_quiet rfl rfl rfl rfl ?_; intro K hK; go_big_quiet_op; (first | refine ⟨_, fun _ _ => rfl, hK _ ?_⟩ | refine hK _ ?_); clear hK K
            refine relE_quiet rfl rfl rfl rfl ?_; intro K hK; go_big_quiet_op; (first | refine ⟨_, fun _ _ => rfl, hK _ ?_⟩ | refine hK _ ?_); clear hK K
            refine relE_nil fun w9 hC hG => ?_
            obtain ⟨u9', hown9, hu9'⟩ := (hG 10).2 rfl
            have hu9 := ownsRow_base hu9' HWR.out
            have hE9 := hC.ext
            have hs9 := hC.safe
            clear hC hG HB4 hown hE2 hown2 hsz2 hsafe2
            go_wp2_with fail
            go_roundw
            case rel =>
              refine ⟨l', m', out ++ [(J, u9')], hl', hm', by rw [List.length_append]; exact hown9, (fun p hp => by rcases List.mem_append.1 hp with h | h; exact hs9 p h; rw [List.mem_singleton.1 h]; exact .inr hu9), (fun p hp => hla p (by rw [HL.out]; exact List.mem_cons_of_mem _ hp)), (fun p hp => hlb p (by rw [HN.out]; exact List.mem_cons_of_mem _ hp)), hE9, ?_, by have := congrArg List.length HL.out; have := congrArg List.length HN.out; simp at *; omega⟩
              show mergeRo _ _ = _
              rw [HM.out, HL.out, HN.out, List.map_append, List.append_assoc, HJ.out]
              unfold mergeRo
              rw [List.map_cons, List.map_cons, mergeG_eq (by rw [← HK.out]; omega)]
              rfl
            case measure => simp [lenOf] <;> omega
      · obtain ⟨b1, o1, c1, A, a1, cc1, l', hll, rfl, hc1, hcm1, hA, hcA, hl'⟩ := hl.uncons h1
        obtain ⟨am, cm, rfl, hcm, hcmm, hgm⟩ := hm.get
        have h1' : decide ((0 : Int) < (l.length : Int)) = true := decide_eq_true (by omega)
        have h2' : decide ((0 : Int) < (m.length : Int)) = false := decide_eq_false (by omega)
        clear hgm hA hcA hl' hll
        have hM : mergeRo (la.map (·.1)) (lb.map (·.1)) = (out ++ l ++ m).map (·.1) := by
          rw [HM.out]
          have : m = [] := List.eq_nil_of_length_eq_zero (by omega)
          rw [this, List.append_nil, List.map_append]
          unfold mergeRo
          simp only [List.map_nil]
          rw [mergeG_nil_right]
        obtain ⟨N, hN⟩ : ∃ N, N = out ++ l ++ m := ⟨_, rfl⟩
        rw [← hN] at hM
        have HN := Lib.hid hN
        have HMM := Lib.hid hM
        clear hN hM
        by_cases hz : N.length = 0
        · have hz' : ((N.length : Int) == 0) = true := by simp [hz]
          go_wp2_with (first
            | (at_builtin; refine appRows wr rfl (.tmp 70) (.tmp 71) rfl w.heap.size hE.le _ out hown (by rfl) _ l (hl.ext hE) (by rfl) (by omega) ?_; intro v3 w3 hown3 hg3; have hs3 : ∀ p ∈ out, SafeC w w3 p := (fun p hp => (hsafe p hp).grown hown hg3); have hE3 := hE.grown hg3 (fun q hq => (hown.lt q hq).1))
            | (at_builtin; refine appRows w3 rfl (.tmp 72) (.tmp 73) rfl w.heap.size hE3.le v3 (out ++ l) hown3 (by rfl) _ m (hm.ext hE3) (by rfl) (by simp; omega) ?_; intro v4 w4 hown4 hg4; have hs4 : ∀ p ∈ out ++ l ++ m, SafeC w w4 p := (fun p hp => by rcases List.mem_append.1 hp with h | h; rcases List.mem_append.1 h with h | h; exact (hs3 p h).grown hown3 hg4; exact .inl (hl.cols p h); exact .inl (hm.cols p h)); have hE4 := hE3.grown hg4 (fun q hq => (hown3.lt q hq).1); rw [← HN.out] at hown4 hs4; clear hg3 hg4 hown3 hE3; obtain ⟨a4, c4, rfl⟩ := own_shape hown4))
          go_ret
          rw [HMM.out]
          obtain rfl : N = [] := List.eq_nil_of_length_eq_zero hz
          exact ⟨_, rfl, [], World.ownsRow_nil _ _ _ _, nofun, rfl, hE4⟩
        · have hz' : ((N.length : Int) == 0) = false := by simp; intro h; exact hz (by simp [h])
          go_wp2_with (first
            | (at_builtin; refine appRows wr rfl (.tmp 70) (.tmp 71) rfl w.heap.size hE.le _ out hown (by rfl) _ l (hl.ext hE) (by rfl) (by omega) ?_; intro v3 w3 hown3 hg3; have hs3 : ∀ p ∈ out, SafeC w w3 p := (fun p hp => (hsafe p hp).grown hown hg3); have hE3 := hE.grown hg3 (fun q hq => (hown.lt q hq).1))
            | (at_builtin; refine appRows w3 rfl (.tmp 72) (.tmp 73) rfl w.heap.size hE3.le v3 (out ++ l) hown3 (by rfl) _ m (hm.ext hE3) (by rfl) (by simp; omega) ?_; intro v4 w4 hown4 hg4; have hs4 : ∀ p ∈ out ++ l ++ m, SafeC w w4 p := (fun p hp => by rcases List.mem_append.1 hp with h | h; rcases List.mem_append.1 h with h | h; exact (hs3 p h).grown hown3 hg4; exact .inl (hl.cols p h); exact .inl (hm.cols p h)); have hE4 := hE3.grown hg4 (fun q hq => (hown3.lt q hq).1); rw [← HN.out] at hown4 hs4; clear hg3 hg4 hown3 hE3; obtain ⟨a4, c4, rfl⟩ := own_shape hown4))
          go_ret
          rw [HMM.out]
          exact ⟨_, rfl, N, hown4, fun p v hp => hs4 (p, v) hp, rfl, hE4⟩
    · obtain ⟨al, cl, rfl, hcl, hcml, hgl⟩ := hl.get
      obtain ⟨am, cm, rfl, hcm, hcmm, hgm⟩ := hm.get
      have h1' : decide ((0 : Int) < (l.length : Int)) = false := decide_eq_false (by omega)
      clear hgm hgl
      have hM : mergeRo (la.map (·.1)) (lb.map (·.1)) = (out ++ l ++ m).map (·.1) := by
        rw [HM.out]
        have : l = [] := List.eq_nil_of_length_eq_zero (by omega)
        rw [this, List.append_nil, List.map_append]
        unfold mergeRo
        simp only [List.map_nil]
        rw [mergeG_nil_left]
      obtain ⟨N, hN⟩ : ∃ N, N = out ++ l ++ m := ⟨_, rfl⟩
      rw [← hN] at hM
      have HN := Lib.hid hN
      have HMM := Lib.hid hM
      clear hN hM
      by_cases hz : N.length = 0
      · have hz' : ((N.length : Int) == 0) = true := by simp [hz]
        go_wp2_with (first
          | (at_builtin; refine appRows wr rfl (.tmp 70) (.tmp 71) rfl w.heap.size hE.le _ out hown (by rfl) _ l (hl.ext hE) (by rfl) (by omega) ?_; intro v3 w3 hown3 hg3; have hs3 : ∀ p ∈ out, SafeC w w3 p := (fun p hp => (hsafe p hp).grown hown hg3); have hE3 := hE.grown hg3 (fun q hq => (hown.lt q hq).1))
          | (at_builtin; refine appRows w3 rfl (.tmp 72) (.tmp 73) rfl w.heap.size hE3.le v3 (out ++ l) hown3 (by rfl) _ m (hm.ext hE3) (by rfl) (by simp; omega) ?_; intro v4 w4 hown4 hg4; have hs4 : ∀ p ∈ out ++ l ++ m, SafeC w w4 p := (fun p hp => by rcases List.mem_append.1 hp with h | h; rcases List.mem_append.1 h with h | h; exact (hs3 p h).grown hown3 hg4; exact .inl (hl.cols p h); exact .inl (hm.cols p h)); have hE4 := hE3.grown hg4 (fun q hq => (hown3.lt q hq).1); rw [← HN.out] at hown4 hs4; clear hg3 hg4 hown3 hE3; obtain ⟨a4, c4, rfl⟩ := own_shape hown4))
        go_ret
        rw [HMM.out]
        obtain rfl : N = [] := List.eq_nil_of_length_eq_zero hz
        exact ⟨_, rfl, [], World.ownsRow_nil _ _ _ _, nofun, rfl, hE4⟩
      · have hz' : ((N.length : Int) == 0) = false := by simp; intro h; exact hz (by simp [h])
        go_wp2_with (first
          | (at_builtin; refine appRows wr rfl (.tmp 70) (.tmp 71) rfl w.heap.size hE.le _ out hown (by rfl) _ l (hl.ext hE) (by rfl) (by omega) ?_; intro v3 w3 hown3 hg3; have hs3 : ∀ p ∈ out, SafeC w w3 p := (fun p hp => (hsafe p hp).grown hown hg3); have hE3 := hE.grown hg3 (fun q hq => (hown.lt q hq).1))
          | (at_builtin; refine appRows w3 rfl (.tmp 72) (.tmp 73) rfl w.heap.size hE3.le v3 (out ++ l) hown3 (by rfl) _ m (hm.ext hE3) (by rfl) (by simp; omega) ?_; intro v4 w4 hown4 hg4; have hs4 : ∀ p ∈ out ++ l ++ m, SafeC w w4 p := (fun p hp => by rcases List.mem_append.1 hp with h | h; rcases List.mem_append.1 h with h | h; exact (hs3 p h).grown hown3 hg4; exact .inl (hl.cols p h); exact .inl (hm.cols p h)); have hE4 := hE3.grown hg4 (fun q hq => (hown3.lt q hq).1); rw [← HN.out] at hown4 hs4; clear hg3 hg4 hown3 hE3; obtain ⟨a4, c4, rfl⟩ := own_shape hown4))
        go_ret
        rw [HMM.out]
        exact ⟨_, rfl, N, hown4, fun p v hp => hs4 (p, v) hp, rfl, hE4⟩
end Go.Proofs.YtimbikbbbfpeeaaGreatDoor

/- 'make([]T, n)' of structs as a variable's block; 'copy' over the whole of it. -/
namespace Go.Proofs.YtimbikbbbfpeeaaGreatDoor
open Go Go.RowKit

theorem wpList_make_box {P : Program} (w : World) {ops : Array Oper} {rest : List Oper} {o : Oper} {a : Act} {Q : Exit → Act → World → Prop} {t e : TypeId} {z : Value} {size bytes : Nat}
    (info : (P.info? e).map (fun i => (i.zero, i.size, i.bytes)) = some (some z, size, bytes)) (und : P.underlying t = some (.slice e))
    (hg : o.guard = none) (l c : Operand) (hop : o.op = Op.makeSlice t l c)
    (kl kc : IntKind) (n : Nat) (hl : a.eval l = .int kl n) (hc : a.eval c = .int kc n) (b2 : bytes * n ≤ 281474976710656) (b3 : n ≤ maxLen)
    (hK : ∀ w' Z, BoxAt w' w.heap.size Z e → Z.size = n * size → Ext w w' → wpList P ops Q rest (a.put o.dst (.slice (some ⟨w.heap.size, 0, none⟩) n n)) w') :
    wpList P ops Q (o :: rest) a w := by
  obtain ⟨i0, hi, hz0, hz1, hz2⟩ := info_parts info
  refine wpList_plain hg fun K hK' => ?_
  unfold maxLen at b3
  have hb' : (i0.bytes : Int) * (n : Int) ≤ 281474976710656 := by
    have h : ((bytes * n : Nat) : Int) ≤ 281474976710656 := by omega
    rw [hz2]
    rwa [Int.natCast_mul] at h
  have hr := run_make (P := P) w t e i0 z und hi hz0 kl kc n n (by omega) (Int.le_refl _) hb' (by omega)
  simp only [Int.toNat_natCast] at hr
  unfold Oper.wp
  simp [execOp, hop, hl, hc, hr, Result.andThen]
  exact hK' _ _ (hK _ _ (BoxAt.made w _ _) (by rw [size_madeCells, hz1]) ((Ext.refl w).alloc _))

theorem run_copyS {P : Program} (w : World) (dT sT ty elem : TypeId) (size n : Nat) (g dCap : Nat) (a : Option Addr) (sCap : Nat) (cur : Array Value) (t : TypeId) (cs : List Value)
    (hu : P.underlying dT = some (.slice elem)) (hs : (P.info? elem).map (·.size) = some size)
    (hg : BoxAt w g cur t) (hn : cs.length = n * size) (hcur : cur.size = n * size)
    (ha : a = none → n = 0) (hsrc : ∀ ad, a = some ad → ∀ j v, cs[j]? = some v → w.cell? (ad.add j) = some v) (h1 : ∀ v ∈ cs, v.oneCell' = true) :
    (Builtin.copy_ #[dT, sT] ty #[.slice (some ⟨g, 0, none⟩) n dCap, .slice a n sCap]).run P w = .ok (goInt n) (w.setRow g cs.toArray) := by
  have hst := run_storeCells_at P g 0 t cs 0 cur w hg (by omega) h1
  have e1 : cur.toList.take 0 ++ cs ++ cur.toList.drop (0 + 0 + cs.length) = cs := by
    rw [List.drop_eq_nil_of_le (by simp; omega)]
    simp
  simp only [Nat.zero_add] at hst e1
  rw [e1] at hst
  cases hq : P.info? elem with
  | none => simp [hq] at hs
  | some i =>
    have hi : i.size = size := by simpa [hq] using hs
    cases a with
    | none =>
      obtain rfl := ha rfl
      obtain rfl : cs = [] := List.eq_nil_of_length_eq_zero (by omega)
      simp [Builtin.copy_, run_underlying hu, Builtin.lenOf, Builtin.firstCells, sizeOf, typeInfo, hq, hi, hst]
    | some ad =>
      have hl := run_loadCells_list (P := P) w ad cs (hsrc ad rfl)
      rw [hn] at hl
      simp [Builtin.copy_, run_underlying hu, Builtin.lenOf, Builtin.firstCells, sizeOf, typeInfo, hq, hi, hl, hst]

theorem wpList_copy_box {P : Program} (w : World) {ops : Array Oper} {rest : List Oper} {o : Oper} {a : Act} {Q : Exit → Act → World → Prop} {dT sT elem : TypeId} {z : Value} {size bytes : Nat}
    (info : (P.info? elem).map (fun i => (i.zero, i.size, i.bytes)) = some (some z, size, bytes)) (und : P.underlying dT = some (.slice elem)) (hgd : o.guard = none) (d s : Operand)
    (ho : o.op = .call { callee := .builtin .copy, args := #[d, s], argTypes := #[dT, sT] }) (n g dCap : Nat) (hd : a.eval d = .slice (some ⟨g, 0, none⟩) n dCap) (u : Value) (hs : a.eval s = u)
    (cur : Array Value) (t : TypeId) (hb : BoxAt w g cur t) (hcur : cur.size = n * size) (xs : List Value) (hx : xs.length = n * size) (hin : SliceIn w u n xs) (h1 : ∀ v ∈ xs, v.oneCell' = true)
    (h : ∀ w', BoxAt w' g xs.toArray t → w.grownBy w' (some g) → wpList P ops Q rest (a.put o.dst (goInt n)) w') : wpList P ops Q (o :: rest) a w := by
  obtain ⟨i0, hi, hz0, hz1, hz2⟩ := info_parts info
  obtain ⟨ad, c, rfl, hc, hcm, ha, hcell⟩ := hin
  have hrun := run_copyS (P := P) w dT sT o.type elem size n g dCap ad c cur t xs und (by rw [hi]; simpa using hz1) hb hx hcur (fun e => by have := ha e; omega) (fun a' e j v hj => by
    obtain ⟨b, o', e', h'⟩ := hcell j v hj
    rw [e] at e'
    cases e'
    rw [Addr.add_lit]
    exact h') h1
  refine wpList_plain hgd fun K hK => ?_
  unfold Oper.wp
  simp [execOp, ho, resolve, invoke, builtin, hd, hs, hrun, Result.andThen]
  exact hK _ _ (h _ (setRow_heap w g _ _ t _ hb) ⟨rfl, rfl, rfl, by simp, fun k hk hne => setRow_other w g k _ (fun e => hne (by rw [e]))⟩)
end Go.Proofs.YtimbikbbbfpeeaaGreatDoor
