/- row.Join. -/
import Derived.Test.YteamiiekpjoclaaP17
import Derived.Test.YteamiiekpjoclaaP2
import Derived.Test.YteamiiekpjoclaaP3
import Derived.Test.YteamiiekpjoclaaP5
set_option linter.unusedSimpArgs false
set_option linter.unusedVariables false
namespace Go.Proofs.Yteamiiekpjoclaa
open Go Go.RowKit
attribute [local go_sem] yields yUpon ro8 co5

/-- What two rows are together. -/
def joinRo (a b : Ro) : Ro := ⟨a.key, joinCl a.live b.live, max a.gone b.gone, max a.shade b.shade, mergeCo a.cols b.cols⟩
theorem mergeCo_len (l m : List Co) : (mergeCo l m).length ≤ l.length + m.length := mergeG_len _ _ _ _

set_option maxRecDepth 100000 in
set_option maxHeartbeats 4000000 in
theorem rowJoin_any (a b : Ro) (va vb : Value) (w : World) (ha : ColsIn w va a.cols) (hb : ColsIn w vb b.cols) (hlen : a.cols.length + b.cols.length ≤ 1000000) :
    Calls Try.prog 57 #[(.agg #[.string a.key, .string a.live.val, .bool a.live.dead, .int .i64 a.live.at_, .int .i64 a.live.fin, .int .i64 a.gone, .int .i64 a.shade, va]), (.agg #[.string b.key, .string b.live.val, .bool b.live.dead, .int .i64 b.live.at_, .int .i64 b.live.fin, .int .i64 b.gone, .int .i64 b.shade, vb])] w fun e w' => ∃ v', e = .returned (.agg #[.string (joinRo a b).key, .string (joinRo a b).live.val, .bool (joinRo a b).live.dead, .int .i64 (joinRo a b).live.at_, .int .i64 (joinRo a b).live.fin, .int .i64 (joinRo a b).gone, .int .i64 (joinRo a b).shade, v']) ∧ w'.ownsRow w.heap.size 58 5 v' (joinRo a b).cols.length (coCells (joinRo a b).cols) ∧ Ext w w' := by
  obtain ⟨a0, a1, a2, hE⟩ := boxes3 w (ro8 a va) (ro8 b vb) (ro8 ⟨⟨#[]⟩, zeroCl, 0, 0, []⟩ (.slice none 0 0)) 55 55 55
  have ha' := ha.ext hE
  have hb' := hb.ext hE
  obtain ⟨c, hc⟩ : ∃ c, c = joinCl a.live b.live := ⟨_, rfl⟩
  obtain ⟨g, hg⟩ : ∃ g, g = max a.gone b.gone := ⟨_, rfl⟩
  obtain ⟨s, hs⟩ : ∃ s, s = max a.shade b.shade := ⟨_, rfl⟩
  have Hc := Lib.hid hc
  have Hg := Lib.hid hg
  have Hs := Lib.hid hs
  obtain ⟨L, hL⟩ : ∃ L, L = mergeCo a.cols b.cols := ⟨_, rfl⟩
  have HL := Lib.hid hL
  unfold joinRo
  rw [← hc, ← hg, ← hs, ← hL]
  clear hc hg hs hL
  go_enter Try.func57, Try.ntmps57
  go_wp2_with fail
  refine (mergeCo_any va vb a.cols b.cols _ ha' hb' hlen).mono ?_
  rintro e w1 ⟨v', rfl, hown, hE1⟩
  rw [← HL.out] at hown
  clear ha' hb' ha hb
  replace hown := ownsRow_base hown hE.le
  obtain ⟨ca, cc, rfl⟩ := own_shape hown
  replace a0 := a0.ext hE1
  replace a1 := a1.ext hE1
  replace a2 := a2.ext hE1
  replace hE := hE.trans hE1
  clear hE1
  go_wp2_with fail
  refine wp_region_in 19 [(6, fun v _ => v = (.agg #[.string c.val, .bool c.dead, .int .i64 c.at_, .int .i64 c.fin])), (11, fun v _ => v = .int .i64 g), (16, fun v _ => v = .int .i64 s)] (fun w0 => BoxAt w0 w.heap.size (ro8 a va) 55 ∧ BoxAt w0 (w.heap.size + 1) (ro8 b vb) 55 ∧ BoxAt w0 (w.heap.size + 1 + 1) (ro8 ⟨⟨#[]⟩, zeroCl, 0, 0, []⟩ (.slice none 0 0)) 55 ∧ w0.ownsRow w.heap.size 58 5 (.slice ca L.length cc) L.length (coCells L) ∧ Ext w w0) (by kernel_rfl) (by kernel_rfl) (by kernel_rfl) ⟨stays_eq _, stays_eq _, stays_eq _, trivial⟩ ⟨a0, a1, a2, hown, hE⟩ ?_
  clear a0 a1 a2 hE hown
  rintro w2 ⟨c0, c1, c2, hown, hE⟩
  have FIN : Hid (∀ wx, Ext w2 wx → BoxAt wx (w.heap.size + 1 + 1) (ro8 ⟨⟨#[]⟩, zeroCl, 0, 0, []⟩ (.slice none 0 0)) 55 ∧ wx.ownsRow w.heap.size 58 5 (.slice ca L.length cc) L.length (coCells L) ∧ Ext w wx) := fun wx h => ⟨c2.ext h, ownsRow_ext hown h, hE.trans h⟩
  obtain ⟨x0, x1, x2, x3, x4, x5, x6, x7⟩ := c0.ro
  obtain ⟨y0, y1, y2, y3, y4, y5, y6, y7⟩ := c1.ro
  clear c0 c1 c2 hE hown x7 y7 y0
  replace x0 := held x0
  replace x1 := held x1
  replace x2 := held x2
  replace x3 := held x3
  replace x4 := held x4
  replace x5 := held x5
  replace x6 := held x6
  replace y1 := held y1
  replace y2 := held y2
  replace y3 := held y3
  replace y4 := held y4
  replace y5 := held y5
  replace y6 := held y6
  refine rg_quiet rfl rfl rfl rfl ?_; intro K hK; go_big_quiet_op; go_big_quiet_on
  refine rg_quiet rfl rfl rfl rfl ?_; intro K hK; go_big_quiet_op; go_big_quiet_on
  refine rg_quiet rfl rfl rfl rfl ?_; intro K hK; go_big_quiet_op; go_big_quiet_on
  refine rg_quiet rfl rfl rfl rfl ?_; intro K hK; go_big_quiet_op; go_big_quiet_on
  refine rg_quiet rfl rfl rfl rfl ?_; intro K hK; go_big_quiet_op; go_big_quiet_on
  refine rg_quiet rfl rfl rfl rfl ?_; intro K hK; go_big_quiet_op; go_big_quiet_on
  refine rg_val [] rfl rfl rfl (by kernel_rfl) (fun w1 hE hf => ?_) ?_
  · go_simp
    exact (join_c a.live.val a.live.dead a.live.at_ a.live.fin b.live.val b.live.dead b.live.at_ b.live.fin w1).mono fun e w' ⟨he, hw⟩ => ⟨_, he, rg_done hE hw (by rw [Hc.out])⟩
  simp only [Act.put, List.setIfInBounds_toArray, List.set_cons_zero, List.set_cons_succ]
  refine rg_quiet rfl rfl rfl rfl ?_; intro K hK; go_big_quiet_op; go_big_quiet_on
  refine rg_quiet rfl rfl rfl rfl ?_; intro K hK; go_big_quiet_op; go_big_quiet_on
  refine rg_quiet rfl rfl rfl rfl ?_; intro K hK; go_big_quiet_op; go_big_quiet_on
  refine rg_quiet rfl rfl rfl rfl ?_; intro K hK; go_big_quiet_op; go_big_quiet_on
  refine rg_val [] rfl rfl rfl (by kernel_rfl) (fun w1 hE hf => ?_) ?_
  · go_simp
    exact rg_done hE (Ext.refl w1) (by rw [Hg.out])
  simp only [Act.put, List.setIfInBounds_toArray, List.set_cons_zero, List.set_cons_succ]
  refine rg_quiet rfl rfl rfl rfl ?_; intro K hK; go_big_quiet_op; go_big_quiet_on
  refine rg_quiet rfl rfl rfl rfl ?_; intro K hK; go_big_quiet_op; go_big_quiet_on
  refine rg_quiet rfl rfl rfl rfl ?_; intro K hK; go_big_quiet_op; go_big_quiet_on
  refine rg_quiet rfl rfl rfl rfl ?_; intro K hK; go_big_quiet_op; go_big_quiet_on
  refine rg_val [] rfl rfl rfl (by kernel_rfl) (fun w1 hE hf => ?_) ?_
  · go_simp
    exact rg_done hE (Ext.refl w1) (by rw [Hs.out])
  simp only [Act.put, List.setIfInBounds_toArray, List.set_cons_zero, List.set_cons_succ]
  refine rg_quiet rfl rfl rfl rfl ?_; intro K hK; go_big_quiet_op; go_big_quiet_on
  refine rg_quiet rfl rfl rfl rfl ?_; intro K hK; go_big_quiet_op; go_big_quiet_on
  refine rel_tail rfl rfl fun w5 hE5 hG => ?_
  obtain ⟨c2, hown, hE⟩ := FIN.out w5 hE5
  clear x0 x1 x2 x3 x4 x5 x6 y1 y2 y3 y4 y5 y6 hE5 hG FIN
  go_wp2_with ((guard_target =~ wpList _ _ _ (Oper.mk none (Op.store _ (Operand.tmp 4) (Operand.tmp 29)) _ _ _ _ :: _) _ _); go_must (refine storeBox rfl 55 (.tmp 4) (.tmp 29) rfl (w.heap.size + 1 + 1) _ _ _ (by rfl) (by rfl) (c2) (by kernel_rfl) (by rfl) (by simp [Value.oneCell']) ?_); intro w6 c6 g6)
  have hX6 := hE.grown g6 (fun q hq => by cases hq; omega)
  have hown6 := hown.kept g6 (own_ne_box hown c2 (by decide))
  clear hE hown g6 c2
  obtain ⟨z0, z1, z2, z3, z4, z5, z6, z7⟩ := c6.ro (r := ⟨a.key, c, g, s, L⟩) (v := .slice ca L.length cc)
  refine bodyPost_ret (v := .agg #[.string a.key, .string c.val, .bool c.dead, .int .i64 c.at_, .int .i64 c.fin, .int .i64 g, .int .i64 s, .slice ca L.length cc]) ?_ rfl ⟨_, rfl, hown6, hX6⟩
  simp [results, Try.results57, go_sem, Act.put, z0, z1, z2, z3, z4, z5, z6, z7]
end Go.Proofs.Yteamiiekpjoclaa

/- row.Merge over rows. -/
namespace Go.Proofs.Yteamiiekpjoclaa
open Go Go.RowKit
attribute [local go_sem] yields yUpon ro8

def keyR (a b : Ro) : Int := cmpB a.key.data.toList b.key.data.toList
def mergeRo (l m : List Ro) : List Ro := mergeG keyR joinRo l m

set_option maxHeartbeats 1000000 in
theorem pj1_any (a b : Ro) (va vb : Value) (w : World) : Calls Try.prog 55 #[(.agg #[.string a.key, .string a.live.val, .bool a.live.dead, .int .i64 a.live.at_, .int .i64 a.live.fin, .int .i64 a.gone, .int .i64 a.shade, va]), (.agg #[.string b.key, .string b.live.val, .bool b.live.dead, .int .i64 b.live.at_, .int .i64 b.live.fin, .int .i64 b.gone, .int .i64 b.shade, vb])] w fun e w' => e = .returned (.int .i64 (keyR a b)) ∧ Ext w w' := by
  go_enter Try.func55, Try.ntmps55
  go_wp2_with fail
  refine (strCompare_any _ _ _).mono ?_
  rintro e w1 ⟨rfl, rfl⟩
  go_wp2_with fail
  go_ret
  exact ⟨rfl, ((Ext.refl w).alloc _).alloc _⟩

/-- What stays true in a round's region: the row under way may be appended to. -/
structure MR (w wr : World) (vo : Value) (out : List (Ro × Value)) (x : World) : Prop where
  ext : Ext w x
  own : x.ownsRow w.heap.size 55 8 vo out.length (roCells out)
  size : wr.heap.size ≤ x.heap.size
  safe : ∀ p ∈ out, SafeC w x p
theorem MR.ext' {w wr : World} {vo : Value} {out : List (Ro × Value)} {x y : World} (hE : Ext x y) (h : MR w wr vo out x) : MR w wr vo out y := ⟨h.ext.trans hE, ownsRow_ext h.own hE, Nat.le_trans h.size hE.le, fun p hp => (h.safe p hp).ext hE⟩
theorem ME_own {w wr : World} {vo : Value} {n j m s : Nat} {T : TypeId} {xs : List Value} (hown : wr.ownsRow w.heap.size T s vo m xs) {x y : World} (h : ME vo n j x y) {T' : TypeId} {s' m' : Nat} {v : Value} {xs' : List Value} (hx : x.ownsRow wr.heap.size T' s' v m' xs') : y.ownsRow wr.heap.size T' s' v m' xs' := by
  unfold ME at h
  split at h
  · refine hx.kept h ?_
    cases e : v.ownBlock with
    | none => exact .inl rfl
    | some g => exact .inr (fun h => by have := (hx.lt g e).1; have := (hown.lt g h.symm).2; omega)
  · exact ownsRow_ext hx h

set_option maxRecDepth 100000 in
set_option maxHeartbeats 4000000 in
theorem mergeRo_any (va vb : Value) (la lb : List (Ro × Value)) (w : World) (ha : RowsIn w va la) (hb : RowsIn w vb lb) (hlen : la.length + lb.length ≤ 1000000) (hcl : ∀ p ∈ la, ∀ q ∈ lb, p.1.cols.length + q.1.cols.length ≤ 1000000) :
    Calls Try.prog 54 #[va, vb, .func (.func 55) #[] #[], .func (.func 57) #[] #[]] w fun e w' => ∃ v', e = .returned v' ∧ ∃ ps, w'.ownsRow w.heap.size 55 8 v' ps.length (roCells ps) ∧ (∀ p ∈ ps, SafeC w w' p) ∧ ps.map (·.1) = mergeRo (la.map (·.1)) (lb.map (·.1)) ∧ Ext w w' := by
  obtain ⟨i0, hi, hz0, hz1, hz2⟩ := info_parts info_Row
  obtain ⟨aa, ca, rfl, hca, hcma, _⟩ := ha.get
  obtain ⟨ab, cb, rfl, hcb, hcmb, _⟩ := hb.get
  go_enter Try.func54, Try.ntmps54
  go_wp2_with (at_make; go_must (refine wpList_make_own _ rfl _ _ 37 rfl w.heap.size 55 i0 _ 8 und_Rows hi hz0 hz1 _ _ _ (la.length + lb.length) rfl rfl (by omega) ?b2 ?b3 (Nat.le_refl _) ?_))
  case b2 => rw [hz2]; omega
  case b3 => unfold maxLen; omega
  intro w0 hown0 hgrow0
  go_wp2
  go_loopw [0, 1, 9] (fun sa sb so wr => ∃ (l m out : List (Ro × Value)), RowsIn w sa l ∧ RowsIn w sb m ∧ wr.ownsRow w.heap.size 55 8 so out.length (roCells out) ∧ (∀ p ∈ out, SafeC w wr p) ∧ (∀ p ∈ l, p ∈ la) ∧ (∀ p ∈ m, p ∈ lb) ∧ Ext w wr ∧ Hid (mergeRo (la.map (·.1)) (lb.map (·.1)) = out.map (·.1) ++ mergeRo (l.map (·.1)) (m.map (·.1))) ∧ out.length + l.length + m.length ≤ la.length + lb.length) (fun sa sb _ _ => lenOf sa + lenOf sb)
  case atStart => exact ⟨la, lb, [], ha, hb, hown0, nofun, fun _ h => h, fun _ h => h, (Ext.refl w).grown hgrow0 (fun q hq => by cases hq), rfl, by simp⟩
  case round =>
    obtain ⟨l, m, out, hl, hm, hown, hsafe, hla, hlb, hE, HM, hsum⟩ := hrel
    by_cases h1 : 0 < l.length
    · by_cases h2 : 0 < m.length
      · obtain ⟨b1, o1, c1, A, a1, cc1, l', hll, rfl, hc1, hcm1, hA, hcA, hl'⟩ := hl.uncons h1
        obtain ⟨b2, o2, c2, B, a2, cc2, m', hmm, rfl, hc2, hcm2, hB, hcB, hm'⟩ := hm.uncons h2
        have h1' : decide ((0 : Int) < (l.length : Int)) = true := decide_eq_true (by omega)
        have h2' : decide ((0 : Int) < (m.length : Int)) = true := decide_eq_true (by omega)
        have HL := Lib.hid hll
        have HWR := Lib.hid hE.le
        have HN := Lib.hid hmm
        clear hll hmm
        go_wp2_with fail
        refine wp_region_in 9 [(7, fun v _ => v = .int .i64 (keyR A B))] (fun x => Ext w x ∧ wr.heap.size ≤ x.heap.size ∧ x.ownsRow w.heap.size 55 8 u9 out.length (roCells out) ∧ ∀ p ∈ out, SafeC w x p) (by kernel_rfl) (by kernel_rfl) (by kernel_rfl) ⟨stays_eq _, trivial⟩ ⟨hE, Nat.le_refl _, hown, hsafe⟩ ?_
        clear hE hsafe
        rintro w1 ⟨hE, hle, hown1, hsafe1⟩
        have FIN : Hid (∀ wx, Ext w1 wx → Ext w wx ∧ wr.heap.size ≤ wx.heap.size ∧ wx.ownsRow w.heap.size 55 8 u9 out.length (roCells out) ∧ ∀ p ∈ out, SafeC w wx p) := fun wx h => ⟨hE.trans h, Nat.le_trans hle h.le, ownsRow_ext hown1 h, fun p hp => (hsafe1 p hp).ext h⟩
        obtain ⟨x0, x1, x2, x3, x4, x5, x6, x7⟩ := hA.ext hE
        obtain ⟨y0, y1, y2, y3, y4, y5, y6, y7⟩ := hB.ext hE
        replace x0 := held x0
        replace x1 := held x1
        replace x2 := held x2
        replace x3 := held x3
        replace x4 := held x4
        replace x5 := held x5
        replace x6 := held x6
        replace x7 := held x7
        replace y0 := held y0
        replace y1 := held y1
        replace y2 := held y2
        replace y3 := held y3
        replace y4 := held y4
        replace y5 := held y5
        replace y6 := held y6
        replace y7 := held y7
        clear hE hle hown1 hsafe1
        refine rg_quiet rfl rfl rfl rfl ?_; intro K hK; go_big_quiet_op; go_big_quiet_on
        refine rg_quiet rfl rfl rfl rfl ?_; intro K hK; go_big_quiet_op; go_big_quiet_on
        refine rg_quiet rfl rfl rfl rfl ?_; intro K hK; go_big_quiet_op; go_big_quiet_on
        refine rg_quiet rfl rfl rfl rfl ?_; intro K hK; go_big_quiet_op; go_big_quiet_on
        refine rg_quiet rfl rfl rfl rfl ?_; intro K hK; go_big_quiet_op; go_big_quiet_on
        refine rg_quiet rfl rfl rfl rfl ?_; intro K hK; go_big_quiet_op; go_big_quiet_on
        refine rg_quiet rfl rfl rfl rfl ?_; intro K hK; go_big_quiet_op; go_big_quiet_on
        refine rg_val [] rfl rfl rfl (by kernel_rfl) (fun w1 hE hf => ?_) ?_
        · go_simp
          exact (pj1_any A B (.slice a1 A.cols.length cc1) (.slice a2 B.cols.length cc2) w1).mono fun e w' ⟨he, hw⟩ => ⟨_, he, rg_done hE hw (rfl)⟩
        simp only [Act.put, List.setIfInBounds_toArray, List.set_cons_zero, List.set_cons_succ]
        refine rg_quiet rfl rfl rfl rfl ?_; intro K hK; go_big_quiet_op; go_big_quiet_on
        refine rel_nil fun w2 hE2 _ => ?_
        obtain ⟨hE2', hle, hown2, hsafe2⟩ := FIN.out w2 hE2
        clear x0 x1 x2 x3 x4 x5 x6 x7 y0 y1 y2 y3 y4 y5 y6 y7 FIN hE2
        have hE2 := hE2'
        clear hE2'
        obtain ⟨kc, hkc⟩ : ∃ kc, kc = keyR A B := ⟨_, rfl⟩
        rw [← hkc]
        have HK := Lib.hid hkc
        clear hkc
        have hsz2 : wr.heap.size ≤ w2.heap.size := hle
        by_cases k1 : kc < 0
        · go_wp2_with fail
          refine wp_region_relE (MR w wr u9 out) (ME u9 5) (Tab.atE [(3, fun v _ => v = (.agg #[.string A.key, .string A.live.val, .bool A.live.dead, .int .i64 A.live.at_, .int .i64 A.live.fin, .int .i64 A.gone, .int .i64 A.shade, (.slice a1 A.cols.length cc1)])), (4, fun v x => ∃ b, v = .slice (some ⟨b, 0, none⟩) 1 1 ∧ wr.heap.size ≤ b ∧ BoxAt x b (ro8 A (.slice a1 A.cols.length cc1)) 55), (5, fun v x => x.ownsRow w.heap.size 55 8 v (out.length + 1) (roCells (out ++ [(A, (.slice a1 A.cols.length cc1))])))])
            (Tab.staysE ⟨fun _ _ _ _ _ _ h => h, fun j _ v x y hR ⟨b, e, hb, hx⟩ => ⟨b, e, hb, ME_box hown hR hb hx⟩, fun j hj v x y hR h => ownsRow_ext h (ME_off hj hR), trivial⟩)
            12 (by kernel_rfl) (by kernel_rfl) (by kernel_rfl) ((⟨hE2, hown2, hsz2, hsafe2⟩ : MR w wr u9 out w2).ext' (Ext.refl w2).drew) ?_
          refine relE_quiet rfl rfl rfl rfl ?_; intro K hK; go_big_quiet_op; (first | refine ⟨_, fun _ _ => rfl, hK _ ?_⟩ | refine hK _ ?_); clear hK K
          refine relE_quiet rfl rfl rfl rfl ?_; intro K hK; go_big_quiet_op; (first | refine ⟨_, fun _ _ => rfl, hK _ ?_⟩ | refine hK _ ?_); clear hK K
          refine relE_quiet rfl rfl rfl rfl ?_; intro K hK; go_big_quiet_op; (first | refine ⟨_, fun _ _ => rfl, hK _ ?_⟩ | refine hK _ ?_); clear hK K
          refine relE_val [] rfl rfl rfl (by kernel_rfl) (fun z hz hf => ?_) ?_
          · obtain ⟨x0, x1, x2, x3, x4, x5, x6, x7⟩ := hA.ext hz.ext
            go_simp
            exact ⟨hz, ME_ext (Ext.refl z), rfl⟩
          simp only [Act.put, List.setIfInBounds_toArray, List.set_cons_zero, List.set_cons_succ]
          refine relE_fact [] rfl rfl rfl (by kernel_rfl) (fun z hz hf => ?_) (fun v4 z4 hC4 hG4 h4 => ?_)
          · go_simp
            exact ⟨hz.ext' ((Ext.refl z).alloc _), ME_ext ((Ext.refl z).alloc _), _, rfl, hz.size, BoxAt.made z _ _⟩
          obtain ⟨b4, rfl, hb4, _⟩ := h4
          have HB4 := Lib.hid hb4
          clear hC4 hG4 hb4
          simp only [Act.put, List.setIfInBounds_toArray, List.set_cons_zero, List.set_cons_succ]
          refine relE_fact [4] rfl rfl rfl (by kernel_rfl) (fun z hz hf => ?_) (fun v5 z5 hC5 hG5 h5 => ?_)
          · obtain ⟨b, e, _, hbox⟩ := (hf 4 (by simp)).2 rfl
            cases e
            refine yields_append info_Row und_Rows rfl (by decide) (.tmp 51) (.tmp 55) rfl w.heap.size hz.ext.le u9 out.length (roCells out) hz.own (by rfl) b4 1 1 (ro8 A (.slice a1 A.cols.length cc1)).toList (by rfl) (by rfl) (fun j u hj => by rw [hbox.cell j]; simpa using hj) (by simp [ro8, Value.oneCell']) (by unfold maxLen; omega) (by omega) ?_
            intro v' y hown' hg hkeep
            refine ⟨⟨hz.ext.grown hg (fun q hq => (hz.own.lt q hq).1), hkeep, Nat.le_trans hz.size hg.size, fun p hp => (hz.safe p hp).grown hz.own hg⟩, by unfold ME; rw [if_pos rfl]; exact hg, ?_⟩
            rw [roCells_append]
            exact hown'
          obtain ⟨a5, c5, rfl⟩ := own_shape h5
          clear hC5 hG5 h5
          simp only [Act.put, List.setIfInBounds_toArray, List.set_cons_zero, List.set_cons_succ]
          refine relE_quiet rfl rfl rfl rfl ?_; intro K hK; go_big_quiet_op; (first | refine ⟨_, fun _ _ => rfl, hK _ ?_⟩ | refine hK _ ?_); clear hK K
          refine relE_quiet rfl rfl rfl rfl ?_; intro K hK; go_big_quiet_op; (first | refine ⟨_, fun _ _ => rfl, hK _ ?_⟩ | refine hK _ ?_); clear hK K
          refine relE_quiet rfl rfl rfl rfl ?_; intro K hK; go_big_quiet_op; (first | refine ⟨_, fun _ _ => rfl, hK _ ?_⟩ | refine hK _ ?_); clear hK K
          refine relE_quiet rfl rfl rfl rfl ?_; intro K hK; go_big_quiet_op; (first | refine ⟨_, fun _ _ => rfl, hK _ ?_⟩ | refine hK _ ?_); clear hK K
          refine relE_nil fun w9 hC hG => ?_
          have hown9 := (hG 5).2 rfl
          have hE9 := hC.ext
          have hs9 := hC.safe
          clear hC hG HB4 hown hE2 hown2 hsz2 hsafe2
          go_wp2_with fail
          go_roundw
          case rel =>
            refine ⟨l', m, out ++ [(A, (.slice a1 A.cols.length cc1))], hl', hm, by rw [List.length_append]; exact hown9, (fun p hp => by rcases List.mem_append.1 hp with h | h; exact hs9 p h; rw [List.mem_singleton.1 h]; exact .inl hcA), (fun p hp => hla p (by rw [HL.out]; exact List.mem_cons_of_mem _ hp)), hlb, hE9, ?_, by have := congrArg List.length HL.out; simp at this ⊢; omega⟩
            show mergeRo _ _ = _
            rw [HM.out, HL.out, HN.out, List.map_append, List.append_assoc]
            unfold mergeRo
            rw [List.map_cons, List.map_cons, mergeG_lt (by rw [← HK.out]; exact k1)]
            rfl
          case measure => simp [lenOf] <;> omega
        · by_cases k2 : 0 < kc
          · go_wp2_with fail
            refine wp_region_relE (MR w wr u9 out) (ME u9 5) (Tab.atE [(3, fun v _ => v = (.agg #[.string B.key, .string B.live.val, .bool B.live.dead, .int .i64 B.live.at_, .int .i64 B.live.fin, .int .i64 B.gone, .int .i64 B.shade, (.slice a2 B.cols.length cc2)])), (4, fun v x => ∃ b, v = .slice (some ⟨b, 0, none⟩) 1 1 ∧ wr.heap.size ≤ b ∧ BoxAt x b (ro8 B (.slice a2 B.cols.length cc2)) 55), (5, fun v x => x.ownsRow w.heap.size 55 8 v (out.length + 1) (roCells (out ++ [(B, (.slice a2 B.cols.length cc2))])))])
              (Tab.staysE ⟨fun _ _ _ _ _ _ h => h, fun j _ v x y hR ⟨b, e, hb, hx⟩ => ⟨b, e, hb, ME_box hown hR hb hx⟩, fun j hj v x y hR h => ownsRow_ext h (ME_off hj hR), trivial⟩)
              12 (by kernel_rfl) (by kernel_rfl) (by kernel_rfl) ((⟨hE2, hown2, hsz2, hsafe2⟩ : MR w wr u9 out w2).ext' (Ext.refl w2).drew) ?_
            refine relE_quiet rfl rfl rfl rfl ?_; intro K hK; go_big_quiet_op; (first | refine ⟨_, fun _ _ => rfl, hK _ ?_⟩ | refine hK _ ?_); clear hK K
            refine relE_quiet rfl rfl rfl rfl ?_; intro K hK; go_big_quiet_op; (first | refine ⟨_, fun _ _ => rfl, hK _ ?_⟩ | refine hK _ ?_); clear hK K
            refine relE_quiet rfl rfl rfl rfl ?_; intro K hK; go_big_quiet_op; (first | refine ⟨_, fun _ _ => rfl, hK _ ?_⟩ | refine hK _ ?_); clear hK K
            refine relE_val [] rfl rfl rfl (by kernel_rfl) (fun z hz hf => ?_) ?_
            · obtain ⟨x0, x1, x2, x3, x4, x5, x6, x7⟩ := hB.ext hz.ext
              go_simp
              exact ⟨hz, ME_ext (Ext.refl z), rfl⟩
            simp only [Act.put, List.setIfInBounds_toArray, List.set_cons_zero, List.set_cons_succ]
            refine relE_fact [] rfl rfl rfl (by kernel_rfl) (fun z hz hf => ?_) (fun v4 z4 hC4 hG4 h4 => ?_)
            · go_simp
              exact ⟨hz.ext' ((Ext.refl z).alloc _), ME_ext ((Ext.refl z).alloc _), _, rfl, hz.size, BoxAt.made z _ _⟩
            obtain ⟨b4, rfl, hb4, _⟩ := h4
            have HB4 := Lib.hid hb4
            clear hC4 hG4 hb4
            simp only [Act.put, List.setIfInBounds_toArray, List.set_cons_zero, List.set_cons_succ]
            refine relE_fact [4] rfl rfl rfl (by kernel_rfl) (fun z hz hf => ?_) (fun v5 z5 hC5 hG5 h5 => ?_)
            · obtain ⟨b, e, _, hbox⟩ := (hf 4 (by simp)).2 rfl
              cases e
              refine yields_append info_Row und_Rows rfl (by decide) (.tmp 62) (.tmp 66) rfl w.heap.size hz.ext.le u9 out.length (roCells out) hz.own (by rfl) b4 1 1 (ro8 B (.slice a2 B.cols.length cc2)).toList (by rfl) (by rfl) (fun j u hj => by rw [hbox.cell j]; simpa using hj) (by simp [ro8, Value.oneCell']) (by unfold maxLen; omega) (by omega) ?_
              intro v' y hown' hg hkeep
              refine ⟨⟨hz.ext.grown hg (fun q hq => (hz.own.lt q hq).1), hkeep, Nat.le_trans hz.size hg.size, fun p hp => (hz.safe p hp).grown hz.own hg⟩, by unfold ME; rw [if_pos rfl]; exact hg, ?_⟩
              rw [roCells_append]
              exact hown'
            obtain ⟨a5, c5, rfl⟩ := own_shape h5
            clear hC5 hG5 h5
            simp only [Act.put, List.setIfInBounds_toArray, List.set_cons_zero, List.set_cons_succ]
            refine relE_quiet rfl rfl rfl rfl ?_; intro K hK; go_big_quiet_op; (first | refine ⟨_, fun _ _ => rfl, hK _ ?_⟩ | refine hK _ ?_); clear hK K
            refine relE_quiet rfl rfl rfl rfl ?_; intro K hK; go_big_quiet_op; (first | refine ⟨_, fun _ _ => rfl, hK _ ?_⟩ | refine hK _ ?_); clear hK K
            refine relE_quiet rfl rfl rfl rfl ?_; intro K hK; go_big_quiet_op; (first | refine ⟨_, fun _ _ => rfl, hK _ ?_⟩ | refine hK _ ?_); clear hK K
            refine relE_quiet rfl rfl rfl rfl ?_; intro K hK; go_big_quiet_op; (first | refine ⟨_, fun _ _ => rfl, hK _ ?_⟩ | refine hK _ ?_); clear hK K
            refine relE_nil fun w9 hC hG => ?_
            have hown9 := (hG 5).2 rfl
            have hE9 := hC.ext
            have hs9 := hC.safe
            clear hC hG HB4 hown hE2 hown2 hsz2 hsafe2
            go_wp2_with fail
            go_roundw
            case rel =>
              refine ⟨l, m', out ++ [(B, (.slice a2 B.cols.length cc2))], hl, hm', by rw [List.length_append]; exact hown9, (fun p hp => by rcases List.mem_append.1 hp with h | h; exact hs9 p h; rw [List.mem_singleton.1 h]; exact .inl hcB), hla, (fun p hp => hlb p (by rw [HN.out]; exact List.mem_cons_of_mem _ hp)), hE9, ?_, by have := congrArg List.length HN.out; simp at this ⊢; omega⟩
              show mergeRo _ _ = _
              rw [HM.out, HL.out, HN.out, List.map_append, List.append_assoc]
              unfold mergeRo
              rw [List.map_cons, List.map_cons, mergeG_gt (by rw [← HK.out]; exact k2)]
              rfl
            case measure => simp [lenOf] <;> omega
          · have hAB : A.cols.length + B.cols.length ≤ 1000000 := hcl _ (hla _ (by rw [HL.out]; exact List.mem_cons_self ..)) _ (hlb _ (by rw [HN.out]; exact List.mem_cons_self ..))
            obtain ⟨J, hJ⟩ : ∃ J, J = joinRo A B := ⟨_, rfl⟩
            have HJ := Lib.hid hJ
            clear hJ
            go_wp2_with fail
            refine wp_region_relE (MR w wr u9 out) (ME u9 10) (Tab.atE [(4, fun v _ => v = (.agg #[.string A.key, .string A.live.val, .bool A.live.dead, .int .i64 A.live.at_, .int .i64 A.live.fin, .int .i64 A.gone, .int .i64 A.shade, (.slice a1 A.cols.length cc1)])), (7, fun v _ => v = (.agg #[.string B.key, .string B.live.val, .bool B.live.dead, .int .i64 B.live.at_, .int .i64 B.live.fin, .int .i64 B.gone, .int .i64 B.shade, (.slice a2 B.cols.length cc2)])), (8, fun v x => ∃ u, v = (.agg #[.string J.key, .string J.live.val, .bool J.live.dead, .int .i64 J.live.at_, .int .i64 J.live.fin, .int .i64 J.gone, .int .i64 J.shade, u]) ∧ x.ownsRow wr.heap.size 58 5 u J.cols.length (coCells J.cols)), (9, fun v x => ∃ b u, v = .slice (some ⟨b, 0, none⟩) 1 1 ∧ wr.heap.size ≤ b ∧ BoxAt x b (ro8 J u) 55 ∧ x.ownsRow wr.heap.size 58 5 u J.cols.length (coCells J.cols)), (10, fun v x => ∃ u, x.ownsRow w.heap.size 55 8 v (out.length + 1) (roCells (out ++ [(J, u)])) ∧ x.ownsRow wr.heap.size 58 5 u J.cols.length (coCells J.cols))])
              (Tab.staysE ⟨fun _ _ _ _ _ _ h => h, fun _ _ _ _ _ _ h => h, fun j _ v x y hR ⟨u, e, h⟩ => ⟨u, e, ME_own hown hR h⟩, fun j _ v x y hR ⟨b, u, e, hb, hx, h⟩ => ⟨b, u, e, hb, ME_box hown hR hb hx, ME_own hown hR h⟩, fun j hj v x y hR ⟨u, h, h'⟩ => ⟨u, ownsRow_ext h (ME_off hj hR), ownsRow_ext h' (ME_off hj hR)⟩, trivial⟩)
              20 (by kernel_rfl) (by kernel_rfl) (by kernel_rfl) ((⟨hE2, hown2, hsz2, hsafe2⟩ : MR w wr u9 out w2).ext' (Ext.refl w2).drew) ?_
            refine relE_quiet rfl rfl rfl rfl ?_; intro K hK; go_big_quiet_op; (first | refine ⟨_, fun _ _ => rfl, hK _ ?_⟩ | refine hK _ ?_); clear hK K
            refine relE_quiet rfl rfl rfl rfl ?_; intro K hK; go_big_quiet_op; (first | refine ⟨_, fun _ _ => rfl, hK _ ?_⟩ | refine hK _ ?_); clear hK K
            refine relE_quiet rfl rfl rfl rfl ?_; intro K hK; go_big_quiet_op; (first | refine ⟨_, fun _ _ => rfl, hK _ ?_⟩ | refine hK _ ?_); clear hK K
            refine relE_quiet rfl rfl rfl rfl ?_; intro K hK; go_big_quiet_op; (first | refine ⟨_, fun _ _ => rfl, hK _ ?_⟩ | refine hK _ ?_); clear hK K
            refine relE_val [] rfl rfl rfl (by kernel_rfl) (fun z hz hf => ?_) ?_
            · obtain ⟨x0, x1, x2, x3, x4, x5, x6, x7⟩ := hA.ext hz.ext
              go_simp
              exact ⟨hz, ME_ext (Ext.refl z), rfl⟩
            simp only [Act.put, List.setIfInBounds_toArray, List.set_cons_zero, List.set_cons_succ]
            refine relE_quiet rfl rfl rfl rfl ?_; intro K hK; go_big_quiet_op; (first | refine ⟨_, fun _ _ => rfl, hK _ ?_⟩ | refine hK _ ?_); clear hK K
            refine relE_quiet rfl rfl rfl rfl ?_; intro K hK; go_big_quiet_op; (first | refine ⟨_, fun _ _ => rfl, hK _ ?_⟩ | refine hK _ ?_); clear hK K
            refine relE_val [] rfl rfl rfl (by kernel_rfl) (fun z hz hf => ?_) ?_
            · obtain ⟨x0, x1, x2, x3, x4, x5, x6, x7⟩ := hB.ext hz.ext
              go_simp
              exact ⟨hz, ME_ext (Ext.refl z), rfl⟩
            simp only [Act.put, List.setIfInBounds_toArray, List.set_cons_zero, List.set_cons_succ]
            refine relE_fact [] rfl rfl rfl (by kernel_rfl) (fun z hz hf => ?_) (fun v8 z8 hC8 hG8 h8 => ?_)
            · go_simp
              refine (rowJoin_any A B _ _ z (hcA.ext hz.ext) (hcB.ext hz.ext) hAB).mono ?_
              rintro e y ⟨v', he, hown', hy⟩
              rw [← HJ.out] at he hown'
              exact ⟨_, he, hz.ext' hy, ME_ext hy, v', rfl, ownsRow_base hown' hz.size⟩
            obtain ⟨u8, rfl, h8'⟩ := h8
            obtain ⟨a8, cc8, rfl⟩ := own_shape h8'
            clear hC8 hG8 h8'
            simp only [Act.put, List.setIfInBounds_toArray, List.set_cons_zero, List.set_cons_succ]
            refine relE_fact [8] rfl rfl rfl (by kernel_rfl) (fun z hz hf => ?_) (fun v4 z4 hC4 hG4 h4 => ?_)
            · obtain ⟨u, e, hu⟩ := (hf 8 (by simp)).2 rfl
              cases e
              go_simp
              exact ⟨hz.ext' ((Ext.refl z).alloc _), ME_ext ((Ext.refl z).alloc _), _, rfl, hz.size, _, BoxAt.made z _ _, ownsRow_ext hu ((Ext.refl z).alloc _)⟩
            obtain ⟨b4, u4, rfl, hb4, _, _⟩ := h4
            have HB4 := Lib.hid hb4
            clear hC4 hG4 hb4
            simp only [Act.put, List.setIfInBounds_toArray, List.set_cons_zero, List.set_cons_succ]
            refine relE_fact [9] rfl rfl rfl (by kernel_rfl) (fun z hz hf => ?_) (fun v5 z5 hC5 hG5 h5 => ?_)
            · obtain ⟨b, u, e, _, hbox, hu⟩ := (hf 9 (by simp)).2 rfl
              cases e
              obtain ⟨au, cu, rfl⟩ := own_shape hu
              refine yields_append info_Row und_Rows rfl (by decide) (.tmp 33) (.tmp 42) rfl w.heap.size hz.ext.le u9 out.length (roCells out) hz.own (by rfl) b4 1 1 (ro8 J (.slice au J.cols.length cu)).toList (by rfl) (by rfl) (fun j u hj => by rw [hbox.cell j]; simpa using hj) (by simp [ro8, Value.oneCell']) (by unfold maxLen; omega) (by omega) ?_
              intro v' y hown' hg hkeep
              refine ⟨⟨hz.ext.grown hg (fun q hq => (hz.own.lt q hq).1), hkeep, Nat.le_trans hz.size hg.size, fun p hp => (hz.safe p hp).grown hz.own hg⟩, by unfold ME; rw [if_pos rfl]; exact hg, _, ?_, hu.kept hg (own_ne_own hu hz.own (by decide))⟩
              rw [roCells_append]
              exact hown'
            obtain ⟨u5, h5, _⟩ := h5
            obtain ⟨a5, c5, rfl⟩ := own_shape h5
            clear hC5 hG5 h5
            simp only [Act.put, List.setIfInBounds_toArray, List.set_cons_zero, List.set_cons_succ]
            refine relE_quiet rfl rfl rfl rfl ?_; intro K hK; go_big_quiet_op; (first | refine ⟨_, fun _ _ => rfl, hK _ ?_⟩ | refine hK _ ?_); clear hK K
            refine relE_quiet rfl rfl rfl rfl ?_; intro K hK; go_big_quiet_op; (first | refine ⟨_, fun _ _ => rfl, hK _ ?_⟩ | refine hK _ ?_); clear hK K
            refine relE_quiet rfl rfl rfl rfl ?_; intro K hK; go_big_quiet_op; (first | refine ⟨_, fun _ _ => rfl, hK _ ?_⟩ | refine hK _ ?_); clear hK K
            refine relE_quiet rfl rfl rfl rfl ?_; intro K hK; go_big_quiet_op; (first | refine ⟨_, fun _ _ => rfl, hK _ ?_⟩ | refine hK _ ?_); clear hK K
            refine relE_quiet rfl rfl rfl rfl ?_; intro K hK; go_big_quiet_op; (first | refine ⟨_, fun _ _ => rfl, hK _ ?_⟩ | refine hK _ ?_); clear hK K
            refine relE_quiet rfl rfl rfl rfl ?_; intro K hK; go_big_quiet_op; (first | refine ⟨_, fun _ _ => rfl, hK _ ?_⟩ | refine hK _ ?_); clear hK K
            refine relE_quiet rfl rfl rfl rfl ?_; intro K hK; go_big_quiet_op; (first | refine ⟨_, fun _ _ => rfl, hK _ ?_⟩ | refine hK _ ?_); clear hK K
            refine relE_nil fun w9 hC hG => ?_
            obtain ⟨u9', hown9, hu9'⟩ := (hG 10).2 rfl
            have hu9 := ownsRow_base hu9' HWR.out
            have hE9 := hC.ext
            have hs9 := hC.safe
            clear hC hG HB4 hown hE2 hown2 hsz2 hsafe2
            go_wp2_with fail
            go_roundw
            case rel =>
              refine ⟨l', m', out ++ [(J, u9')], hl', hm', by rw [List.length_append]; exact hown9, (fun p hp => by rcases List.mem_append.1 hp with h | h; exact hs9 p h; rw [List.mem_singleton.1 h]; exact .inr hu9), (fun p hp => hla p (by rw [HL.out]; exact List.mem_cons_of_mem _ hp)), (fun p hp => hlb p (by rw [HN.out]; exact List.mem_cons_of_mem _ hp)), hE9, ?_, by have := congrArg List.length HL.out; have := congrArg List.length HN.out; simp at *; omega⟩
              show mergeRo _ _ = _
              rw [HM.out, HL.out, HN.out, List.map_append, List.append_assoc, HJ.out]
              unfold mergeRo
              rw [List.map_cons, List.map_cons, mergeG_eq (by rw [← HK.out]; omega)]
              rfl
            case measure => simp [lenOf] <;> omega
      · obtain ⟨b1, o1, c1, A, a1, cc1, l', hll, rfl, hc1, hcm1, hA, hcA, hl'⟩ := hl.uncons h1
        obtain ⟨am, cm, rfl, hcm, hcmm, hgm⟩ := hm.get
        have h1' : decide ((0 : Int) < (l.length : Int)) = true := decide_eq_true (by omega)
        have h2' : decide ((0 : Int) < (m.length : Int)) = false := decide_eq_false (by omega)
        clear hgm hA hcA hl' hll
        have hM : mergeRo (la.map (·.1)) (lb.map (·.1)) = (out ++ l ++ m).map (·.1) := by
          rw [HM.out]
          have : m = [] := List.eq_nil_of_length_eq_zero (by omega)
          rw [this, List.append_nil, List.map_append]
          unfold mergeRo
          simp only [List.map_nil]
          rw [mergeG_nil_right]
        obtain ⟨N, hN⟩ : ∃ N, N = out ++ l ++ m := ⟨_, rfl⟩
        rw [← hN] at hM
        have HN := Lib.hid hN
        have HMM := Lib.hid hM
        clear hN hM
        by_cases hz : N.length = 0
        · have hz' : ((N.length : Int) == 0) = true := by simp [hz]
          go_wp2_with (first
            | (at_builtin; refine appRows wr rfl (.tmp 70) (.tmp 71) rfl w.heap.size hE.le _ out hown (by rfl) _ l (hl.ext hE) (by rfl) (by omega) ?_; intro v3 w3 hown3 hg3; have hs3 : ∀ p ∈ out, SafeC w w3 p := (fun p hp => (hsafe p hp).grown hown hg3); have hE3 := hE.grown hg3 (fun q hq => (hown.lt q hq).1))
            | (at_builtin; refine appRows w3 rfl (.tmp 72) (.tmp 73) rfl w.heap.size hE3.le v3 (out ++ l) hown3 (by rfl) _ m (hm.ext hE3) (by rfl) (by simp; omega) ?_; intro v4 w4 hown4 hg4; have hs4 : ∀ p ∈ out ++ l ++ m, SafeC w w4 p := (fun p hp => by rcases List.mem_append.1 hp with h | h; rcases List.mem_append.1 h with h | h; exact (hs3 p h).grown hown3 hg4; exact .inl (hl.cols p h); exact .inl (hm.cols p h)); have hE4 := hE3.grown hg4 (fun q hq => (hown3.lt q hq).1); rw [← HN.out] at hown4 hs4; clear hg3 hg4 hown3 hE3; obtain ⟨a4, c4, rfl⟩ := own_shape hown4))
          go_ret
          rw [HMM.out]
          obtain rfl : N = [] := List.eq_nil_of_length_eq_zero hz
          exact ⟨_, rfl, [], World.ownsRow_nil _ _ _ _, nofun, rfl, hE4⟩
        · have hz' : ((N.length : Int) == 0) = false := by simp; intro h; exact hz (by simp [h])
          go_wp2_with (first
            | (at_builtin; refine appRows wr rfl (.tmp 70) (.tmp 71) rfl w.heap.size hE.le _ out hown (by rfl) _ l (hl.ext hE) (by rfl) (by omega) ?_; intro v3 w3 hown3 hg3; have hs3 : ∀ p ∈ out, SafeC w w3 p := (fun p hp => (hsafe p hp).grown hown hg3); have hE3 := hE.grown hg3 (fun q hq => (hown.lt q hq).1))
            | (at_builtin; refine appRows w3 rfl (.tmp 72) (.tmp 73) rfl w.heap.size hE3.le v3 (out ++ l) hown3 (by rfl) _ m (hm.ext hE3) (by rfl) (by simp; omega) ?_; intro v4 w4 hown4 hg4; have hs4 : ∀ p ∈ out ++ l ++ m, SafeC w w4 p := (fun p hp => by rcases List.mem_append.1 hp with h | h; rcases List.mem_append.1 h with h | h; exact (hs3 p h).grown hown3 hg4; exact .inl (hl.cols p h); exact .inl (hm.cols p h)); have hE4 := hE3.grown hg4 (fun q hq => (hown3.lt q hq).1); rw [← HN.out] at hown4 hs4; clear hg3 hg4 hown3 hE3; obtain ⟨a4, c4, rfl⟩ := own_shape hown4))
          go_ret
          rw [HMM.out]
          exact ⟨_, rfl, N, hown4, fun p v hp => hs4 (p, v) hp, rfl, hE4⟩
    · obtain ⟨al, cl, rfl, hcl, hcml, hgl⟩ := hl.get
      obtain ⟨am, cm, rfl, hcm, hcmm, hgm⟩ := hm.get
      have h1' : decide ((0 : Int) < (l.length : Int)) = false := decide_eq_false (by omega)
      clear hgm hgl
      have hM : mergeRo (la.map (·.1)) (lb.map (·.1)) = (out ++ l ++ m).map (·.1) := by
        rw [HM.out]
        have : l = [] := List.eq_nil_of_length_eq_zero (by omega)
        rw [this, List.append_nil, List.map_append]
        unfold mergeRo
        simp only [List.map_nil]
        rw [mergeG_nil_left]
      obtain ⟨N, hN⟩ : ∃ N, N = out ++ l ++ m := ⟨_, rfl⟩
      rw [← hN] at hM
      have HN := Lib.hid hN
      have HMM := Lib.hid hM
      clear hN hM
      by_cases hz : N.length = 0
      · have hz' : ((N.length : Int) == 0) = true := by simp [hz]
        go_wp2_with (first
          | (at_builtin; refine appRows wr rfl (.tmp 70) (.tmp 71) rfl w.heap.size hE.le _ out hown (by rfl) _ l (hl.ext hE) (by rfl) (by omega) ?_; intro v3 w3 hown3 hg3; have hs3 : ∀ p ∈ out, SafeC w w3 p := (fun p hp => (hsafe p hp).grown hown hg3); have hE3 := hE.grown hg3 (fun q hq => (hown.lt q hq).1))
          | (at_builtin; refine appRows w3 rfl (.tmp 72) (.tmp 73) rfl w.heap.size hE3.le v3 (out ++ l) hown3 (by rfl) _ m (hm.ext hE3) (by rfl) (by simp; omega) ?_; intro v4 w4 hown4 hg4; have hs4 : ∀ p ∈ out ++ l ++ m, SafeC w w4 p := (fun p hp => by rcases List.mem_append.1 hp with h | h; rcases List.mem_append.1 h with h | h; exact (hs3 p h).grown hown3 hg4; exact .inl (hl.cols p h); exact .inl (hm.cols p h)); have hE4 := hE3.grown hg4 (fun q hq => (hown3.lt q hq).1); rw [← HN.out] at hown4 hs4; clear hg3 hg4 hown3 hE3; obtain ⟨a4, c4, rfl⟩ := own_shape hown4))
        go_ret
        rw [HMM.out]
        obtain rfl : N = [] := List.eq_nil_of_length_eq_zero hz
        exact ⟨_, rfl, [], World.ownsRow_nil _ _ _ _, nofun, rfl, hE4⟩
      · have hz' : ((N.length : Int) == 0) = false := by simp; intro h; exact hz (by simp [h])
        go_wp2_with (first
          | (at_builtin; refine appRows wr rfl (.tmp 70) (.tmp 71) rfl w.heap.size hE.le _ out hown (by rfl) _ l (hl.ext hE) (by rfl) (by omega) ?_; intro v3 w3 hown3 hg3; have hs3 : ∀ p ∈ out, SafeC w w3 p := (fun p hp => (hsafe p hp).grown hown hg3); have hE3 := hE.grown hg3 (fun q hq => (hown.lt q hq).1))
          | (at_builtin; refine appRows w3 rfl (.tmp 72) (.tmp 73) rfl w.heap.size hE3.le v3 (out ++ l) hown3 (by rfl) _ m (hm.ext hE3) (by rfl) (by simp; omega) ?_; intro v4 w4 hown4 hg4; have hs4 : ∀ p ∈ out ++ l ++ m, SafeC w w4 p := (fun p hp => by rcases List.mem_append.1 hp with h | h; rcases List.mem_append.1 h with h | h; exact (hs3 p h).grown hown3 hg4; exact .inl (hl.cols p h); exact .inl (hm.cols p h)); have hE4 := hE3.grown hg4 (fun q hq => (hown3.lt q hq).1); rw [← HN.out] at hown4 hs4; clear hg3 hg4 hown3 hE3; obtain ⟨a4, c4, rfl⟩ := own_shape hown4))
        go_ret
        rw [HMM.out]
        exact ⟨_, rfl, N, hown4, fun p v hp => hs4 (p, v) hp, rfl, hE4⟩
end Go.Proofs.Yteamiiekpjoclaa

/- part.Seen. -/
namespace Go.Proofs.Yteamiiekpjoclaa
open Go Go.RowKit
attribute [local go_sem] yields yUpon ro8 pa3

/-- A row as it is seen. -/
def seenRo (r : Ro) (g now : Int) : Ro := ⟨r.key, r.live, 0, 0, seenCos r.cols (max r.gone g) now⟩
/-- The rows that are there at a time, with what is seen of them. -/
def seenRs (l : List Ro) (g now : Int) (strict : Bool) : List Ro := (l.filter fun r => isB r (max r.gone g) now strict).map fun r => seenRo r g now
theorem seenRs_snoc (l : List Ro) (r : Ro) (g now : Int) (strict : Bool) : seenRs (l ++ [r]) g now strict = seenRs l g now strict ++ if isB r (max r.gone g) now strict then [seenRo r g now] else [] := by
  unfold seenRs
  rw [List.filter_append, List.map_append]
  congr 1
  by_cases h : isB r (max r.gone g) now strict <;> simp [h]

/-- What stays true in the region: the list under way may be appended to; the row and the partition stay. -/
structure SR (w wr : World) (vo : Value) (out : List (Ro × Value)) (k : ByteArray) (g : Int) (pu : Value) (M : Ro) (u : Value) (x : World) : Prop where
  mr : MR w wr vo out x
  part : BoxAt x w.heap.size (pa3 k g pu) 39
  row : BoxAt x wr.heap.size (ro8 M u) 55
theorem SR.ext' {w wr : World} {vo : Value} {out : List (Ro × Value)} {k : ByteArray} {g : Int} {pu : Value} {M : Ro} {u : Value} {x y : World} (hE : Ext x y) (h : SR w wr vo out k g pu M u x) : SR w wr vo out k g pu M u y := ⟨h.mr.ext' hE, h.part.ext hE, h.row.ext hE⟩

set_option maxRecDepth 100000 in
set_option maxHeartbeats 8000000 in
theorem pseen_any (pk : ByteArray) (pg : Int) (pu : Value) (ps : List (Ro × Value)) (now : Int) (strict : Bool) (w : World) (hin : RowsIn w pu ps) (hlen : ps.length ≤ 1000000) (hcl : ∀ p ∈ ps, p.1.cols.length ≤ 1000000) :
    Calls Try.prog 23 #[.agg #[.string pk, .int .i64 pg, pu], .int .i64 now, .bool strict] w fun e w' => ∃ v', e = .returned v' ∧ ∃ qs, w'.ownsRow w.heap.size 55 8 v' qs.length (roCells qs) ∧ (∀ p ∈ qs, SafeC w w' p) ∧ qs.map (·.1) = seenRs (ps.map (·.1)) pg now strict ∧ Ext w w' := by
  have a0 := BoxAt.made w (pa3 pk pg pu) 39
  have hE := (Ext.refl w).alloc (.cells (pa3 pk pg pu) 39)
  obtain ⟨aa, ca, rfl, hca, hcma, hget⟩ := hin.get
  have c0 := a0.pa
  obtain ⟨n, hn⟩ : ∃ n, n = ps.length := ⟨_, rfl⟩
  rw [← hn] at hlen hca a0 hE c0 ⊢
  have HN := Lib.hid hn
  have HGET := Lib.hid hget
  clear hn hget
  go_enter Try.func23, Try.ntmps23
  go_wp2
  go_loopw [7, 13] (fun so i wr => ∃ (k : Nat) (out : List (Ro × Value)), k ≤ n ∧ i = .int .i64 k ∧ wr.ownsRow w.heap.size 55 8 so out.length (roCells out) ∧ Hid (∀ p ∈ out, SafeC w wr p) ∧ Ext w wr ∧ BoxAt wr w.heap.size (pa3 pk pg (.slice aa n ca)) 39 ∧ Hid (out.map (·.1) = seenRs ((ps.map (·.1)).take k) pg now strict) ∧ out.length ≤ k) (fun _ i _ => n - (intOf i).toNat)
  case atStart => exact ⟨0, [], Nat.zero_le _, rfl, World.ownsRow_nil _ _ _ _, nofun, hE, a0, rfl, by simp⟩
  case round =>
    obtain ⟨k, out, hk, rfl, hown, HS, hE1, b0, HO, hok⟩ := hrel
    by_cases hlt : k < n
    · have hkp : k < ps.length := by rw [← HN.out]; exact hlt
      have hkc := hcl _ (List.getElem_mem hkp)
      have hcu := hin.cols _ (List.getElem_mem hkp)
      obtain ⟨b, o, rfl, hat⟩ := HGET.out k hkp
      have hsnoc : (ps.map (·.1)).take (k + 1) = (ps.map (·.1)).take k ++ [ps[k].1] := by
        rw [List.take_succ_eq_append_getElem (by simpa using hkp)]
        simp
      obtain ⟨M, hM⟩ : ∃ M, M = ps[k].1 := ⟨_, rfl⟩
      obtain ⟨au, cu, hu⟩ := hcu.shape
      rw [← hM] at hkc hcu hu hsnoc hat
      rw [hu] at hcu hat
      have HSN := Lib.hid hsnoc
      clear hM hu hsnoc
      obtain ⟨m, hm⟩ : ∃ m, m = M.cols.length := ⟨_, rfl⟩
      rw [← hm] at hcu hat
      clear hm
      have hcu0 := hcu
      replace hcu := hcu.ext hE1
      replace hat := hat.ext hE1
      obtain ⟨x0, x1, x2, x3, x4, x5, x6, x7⟩ := hat
      obtain ⟨sB, hsB⟩ : ∃ sB, sB = isB M (max M.gone pg) now strict := ⟨_, rfl⟩
      have HB := Lib.hid hsB
      clear hsB
      go_wp2_with (((guard_target =~ wpList _ _ _ (Oper.mk none (Op.store _ (Operand.tmp 9) (Operand.tmp 16)) _ _ _ _ :: _) _ _); go_must (refine storeBox rfl 55 (.tmp 9) (.tmp 16) rfl (wr.heap.size) _ _ _ (by rfl) (by rfl) ((BoxAt.made wr (ro8 ⟨⟨#[]⟩, zeroCl, 0, 0, []⟩ (.slice none 0 0)) 55)) (by kernel_rfl) (by rfl) (by simp [Value.oneCell']) ?_); intro w4 c4 g4); have hX4 : Ext wr w4 := ((Ext.refl wr).alloc _).grown g4 (fun q hq => by cases hq; omega); have d4 := c4.ro (r := M) (v := .slice au m cu); have e4 := (b0.ext hX4).pa)
      refine (ris_any M (.slice au m cu) pg now strict w4 (hcu.ext hX4) hkc).mono ?_
      rw [← HB.out]
      rintro e w5 ⟨rfl, hE5⟩
      have hX5 := hX4.trans hE5
      have b5 := b0.ext hX5
      have r5 : BoxAt w5 wr.heap.size (ro8 M (.slice au m cu)) 55 := c4.ext hE5
      have hown5 := ownsRow_ext hown hX5
      have hS5 : ∀ p ∈ out, SafeC w w5 p := fun p hp => (HS.out p hp).ext hX5
      have hcu5 := hcu.ext hX5
      have hW5 := hE1.trans hX5
      have hle5 := hX5.le
      clear d4 e4 c4 x0 x1 x2 x3 x4 x5 x6 x7 hX4 hE5 b0
      cases sB with
      | false =>
        go_wp2_with fail
        go_roundw
        case rel =>
          refine ⟨k + 1, out, hlt, rfl, hown5, hS5, hW5, b5, ?_, by omega⟩
          show _ = _
          rw [HSN.out, seenRs_snoc, ← HB.out, if_neg (by decide), List.append_nil]
          exact HO.out
        case measure => simp [intOf]; omega
      | true =>
        obtain ⟨S, hS⟩ : ∃ S, S = seenCos M.cols (max M.gone pg) now := ⟨_, rfl⟩
        have HSS := Lib.hid hS
        clear hS
        go_wp2_with fail
        refine wp_region_relE (SR w wr u7 out pk pg (.slice (some ⟨b, o, none⟩) n ca) M (.slice au m cu)) (ME u7 12) (Tab.atE [(2, fun v _ => v = .string M.key), (4, fun v _ => v = (.agg #[.string M.live.val, .bool M.live.dead, .int .i64 M.live.at_, .int .i64 M.live.fin])), (5, fun v _ => v = (.agg #[.string M.key, .string M.live.val, .bool M.live.dead, .int .i64 M.live.at_, .int .i64 M.live.fin, .int .i64 M.gone, .int .i64 M.shade, (.slice au m cu)])), (7, fun v _ => v = .int .i64 pg), (9, fun v x => x.ownsRow wr.heap.size 58 5 v S.length (coCells S)), (11, fun v x => ∃ b u, v = .slice (some ⟨b, 0, none⟩) 1 1 ∧ wr.heap.size ≤ b ∧ BoxAt x b (ro8 ⟨M.key, M.live, 0, 0, S⟩ u) 55 ∧ x.ownsRow wr.heap.size 58 5 u S.length (coCells S)), (12, fun v x => ∃ u, x.ownsRow w.heap.size 55 8 v (out.length + 1) (roCells (out ++ [(⟨M.key, M.live, 0, 0, S⟩, u)])) ∧ x.ownsRow wr.heap.size 58 5 u S.length (coCells S))])
          (Tab.staysE ⟨fun _ _ _ _ _ _ h => h, fun _ _ _ _ _ _ h => h, fun _ _ _ _ _ _ h => h, fun _ _ _ _ _ _ h => h, fun j _ v x y hR h => ME_own hown hR h, fun j _ v x y hR ⟨b, u, e, hb, hx, h⟩ => ⟨b, u, e, hb, ME_box hown hR hb hx, ME_own hown hR h⟩, fun j hj v x y hR ⟨u, h, h'⟩ => ⟨u, ownsRow_ext h (ME_off hj hR), ownsRow_ext h' (ME_off hj hR)⟩, trivial⟩)
          14 (by kernel_rfl) (by kernel_rfl) (by kernel_rfl) ((⟨⟨hW5, hown5, hle5, hS5⟩, b5, r5⟩ : SR w wr u7 out pk pg (.slice (some ⟨b, o, none⟩) n ca) M (.slice au m cu) w5).ext' (Ext.refl w5).drew) ?_
        refine relE_quiet rfl rfl rfl rfl ?_; intro K hK; go_big_quiet_op; (first | refine ⟨_, fun _ _ => rfl, hK _ ?_⟩ | refine hK _ ?_); clear hK K
        refine relE_quiet rfl rfl rfl rfl ?_; intro K hK; go_big_quiet_op; (first | refine ⟨_, fun _ _ => rfl, hK _ ?_⟩ | refine hK _ ?_); clear hK K
        refine relE_val [] rfl rfl rfl (by kernel_rfl) (fun z hz hf => ?_) ?_
        · obtain ⟨x0, x1, x2, x3, x4, x5, x6, x7⟩ := hz.row.ro
          go_simp
          exact ⟨hz, ME_ext (Ext.refl z), rfl⟩
        simp only [Act.put, List.setIfInBounds_toArray, List.set_cons_zero, List.set_cons_succ]
        refine relE_quiet rfl rfl rfl rfl ?_; intro K hK; go_big_quiet_op; (first | refine ⟨_, fun _ _ => rfl, hK _ ?_⟩ | refine hK _ ?_); clear hK K
        refine relE_val [] rfl rfl rfl (by kernel_rfl) (fun z hz hf => ?_) ?_
        · obtain ⟨x0, x1, x2, x3, x4, x5, x6, x7⟩ := hz.row.ro
          go_simp
          exact ⟨hz, ME_ext (Ext.refl z), rfl⟩
        simp only [Act.put, List.setIfInBounds_toArray, List.set_cons_zero, List.set_cons_succ]
        refine relE_val [] rfl rfl rfl (by kernel_rfl) (fun z hz hf => ?_) ?_
        · obtain ⟨x0, x1, x2, x3, x4, x5, x6, x7⟩ := hz.row.ro
          go_simp
          exact ⟨hz, ME_ext (Ext.refl z), rfl⟩
        simp only [Act.put, List.setIfInBounds_toArray, List.set_cons_zero, List.set_cons_succ]
        refine relE_quiet rfl rfl rfl rfl ?_; intro K hK; go_big_quiet_op; (first | refine ⟨_, fun _ _ => rfl, hK _ ?_⟩ | refine hK _ ?_); clear hK K
        refine relE_val [] rfl rfl rfl (by kernel_rfl) (fun z hz hf => ?_) ?_
        · obtain ⟨x0, x1, x2⟩ := hz.part.pa
          go_simp
          exact ⟨hz, ME_ext (Ext.refl z), rfl⟩
        simp only [Act.put, List.setIfInBounds_toArray, List.set_cons_zero, List.set_cons_succ]
        refine relE_quiet rfl rfl rfl rfl ?_; intro K hK; go_big_quiet_op; (first | refine ⟨_, fun _ _ => rfl, hK _ ?_⟩ | refine hK _ ?_); clear hK K
        refine relE_fact [] rfl rfl rfl (by kernel_rfl) (fun z hz hf => ?_) (fun v8 z8 hC8 hG8 h8 => ?_)
        · go_simp
          refine (rwseen_any M (.slice au m cu) pg now z (hcu0.ext hz.mr.ext) hkc).mono ?_
          rintro e y ⟨v', he, hown', hy⟩
          rw [← HSS.out] at hown'
          exact ⟨_, he, hz.ext' hy, ME_ext hy, ownsRow_base hown' (Nat.le_trans hz.mr.size (Nat.le_succ _))⟩
        obtain ⟨a8, cc8, rfl⟩ := own_shape h8
        clear hC8 hG8 h8
        simp only [Act.put, List.setIfInBounds_toArray, List.set_cons_zero, List.set_cons_succ]
        refine relE_quiet rfl rfl rfl rfl ?_; intro K hK; go_big_quiet_op; (first | refine ⟨_, fun _ _ => rfl, hK _ ?_⟩ | refine hK _ ?_); clear hK K
        refine relE_fact [9] rfl rfl rfl (by kernel_rfl) (fun z hz hf => ?_) (fun v4 z4 hC4 hG4 h4 => ?_)
        · have hu := (hf 9 (by simp)).2 rfl
          go_simp
          exact ⟨hz.ext' ((Ext.refl z).alloc _), ME_ext ((Ext.refl z).alloc _), _, rfl, hz.mr.size, _, BoxAt.made z _ _, ownsRow_ext hu ((Ext.refl z).alloc _)⟩
        obtain ⟨b4, u4, rfl, hb4, _, _⟩ := h4
        clear hC4 hG4 hb4
        simp only [Act.put, List.setIfInBounds_toArray, List.set_cons_zero, List.set_cons_succ]
        refine relE_fact [11] rfl rfl rfl (by kernel_rfl) (fun z hz hf => ?_) (fun v5 z5 hC5 hG5 h5 => ?_)
        · obtain ⟨bb, u, e, _, hbox, hu⟩ := (hf 11 (by simp)).2 rfl
          cases e
          obtain ⟨au, cu, rfl⟩ := own_shape hu
          refine yields_append info_Row und_Rows rfl (by decide) (.tmp 23) (.tmp 34) rfl w.heap.size hz.mr.ext.le u7 out.length (roCells out) hz.mr.own (by rfl) b4 1 1 (ro8 ⟨M.key, M.live, 0, 0, S⟩ (.slice au S.length cu)).toList (by rfl) (by rfl) (fun j u hj => by rw [hbox.cell j]; simpa using hj) (by simp [ro8, Value.oneCell']) (by unfold maxLen; omega) (by omega) ?_
          intro v' y hown' hg hkeep
          refine ⟨⟨⟨hz.mr.ext.grown hg (fun q hq => (hz.mr.own.lt q hq).1), hkeep, Nat.le_trans hz.mr.size hg.size, fun p hp => (hz.mr.safe p hp).grown hz.mr.own hg⟩, ?_, ?_⟩, by unfold ME; rw [if_pos rfl]; exact hg, _, ?_, hu.kept hg (own_ne_own hu hz.mr.own (by decide))⟩
          · refine hz.part.grown hg (fun e => ?_)
            rcases own_ne_box hz.mr.own hz.part (by decide) with h | h
            · rw [h] at e; cases e
            · exact h e.symm
          · exact hz.row.grown hg (fun e => by have := (hown.lt _ e.symm).2; omega)
          · rw [roCells_append]
            exact hown'
        obtain ⟨u5, h5, _⟩ := h5
        obtain ⟨a5, c5, rfl⟩ := own_shape h5
        clear hC5 hG5 h5
        simp only [Act.put, List.setIfInBounds_toArray, List.set_cons_zero, List.set_cons_succ]
        refine relE_quiet rfl rfl rfl rfl ?_; intro K hK; go_big_quiet_op; (first | refine ⟨_, fun _ _ => rfl, hK _ ?_⟩ | refine hK _ ?_); clear hK K
        refine relE_nil fun w9 hC hG => ?_
        obtain ⟨u9, hown9, hu9'⟩ := (hG 12).2 rfl
        have hu9 := ownsRow_base hu9' hE1.le
        have hE9 := hC.mr.ext
        have hs9 := hC.mr.safe
        have b9 := hC.part
        clear hC hG hown hown5 hS5 b5 r5
        go_wp2_with fail
        go_roundw
        case rel =>
          refine ⟨k + 1, out ++ [(⟨M.key, M.live, 0, 0, S⟩, u9)], hlt, rfl, by rw [List.length_append]; exact hown9, fun p hp => ?_, hE9, b9, ?_, by simp; omega⟩
          · rcases List.mem_append.1 hp with h | h
            · exact hs9 p h
            · rw [List.mem_singleton.1 h]; exact .inr hu9
          · show _ = _
            rw [HSN.out, seenRs_snoc, ← HB.out, if_pos rfl, List.map_append, HO.out, HSS.out]
            rfl
        case measure => simp [intOf]; omega
    · go_wp2_with fail
      obtain rfl : k = n := by omega
      go_ret
      refine ⟨_, rfl, out, hown, fun p v hp => HS.out (p, v) hp, ?_, hE1⟩
      rw [HO.out, List.take_of_length_le (by simp; rw [← HN.out]; exact Nat.le_refl _)]
end Go.Proofs.Yteamiiekpjoclaa
