/- delta.Orphan's closure: the base's row that a view's row is of. -/
import Derived.Test.YtolkhjdododdaaaGreatDoorP16
import Derived.Test.YtolkhjdododdaaaGreatDoorP2
import Derived.Test.YtolkhjdododdaaaGreatDoorP10
import Derived.Test.YtolkhjdododdaaaGreatDoorP11
import Derived.Test.YtolkhjdododdaaaGreatDoorP8
import Derived.Test.YtolkhjdododdaaaGreatDoorP12
import Derived.Test.YtolkhjdododdaaaGreatDoorP13
set_option linter.unusedSimpArgs false
set_option linter.unusedVariables false
namespace Go.Proofs.YtolkhjdododdaaaGreatDoor
open Go Go.RowKit
attribute [local go_sem] yields yUpon ro8 pa3

set_option maxRecDepth 100000 in
set_option maxHeartbeats 4000000 in
theorem ownRow_any (bb : Nat) (pk : ByteArray) (pg : Int) (pu : Value) (ps : List (Ro × Value)) (r : Ro) (v : Value) (c : ByteArray) (w : World) (hb : BoxAt w bb (pa3 pk pg pu) 39) (hin : RowsIn w pu ps) (hcl : ∀ p ∈ ps, p.1.cols.length ≤ 1000000) (hk : r.key = vkey pk c) (h1 : pk.size ≤ 1000000) (h2 : c.size ≤ 1000000) :
  Calls Tryz.prog 30 #[(.agg #[.string r.key, .string r.live.val, .bool r.live.dead, .int .i64 r.live.at_, .int .i64 r.live.fin, .int .i64 r.gone, .int .i64 r.shade, v]), .pointer (some ⟨bb, 0, none⟩)] w fun e w' => ∃ v', e = .returned (.tuple #[(.agg #[.string (rowOf (ps.map (·.1)) c).key, .string (rowOf (ps.map (·.1)) c).live.val, .bool (rowOf (ps.map (·.1)) c).live.dead, .int .i64 (rowOf (ps.map (·.1)) c).live.at_, .int .i64 (rowOf (ps.map (·.1)) c).live.fin, .int .i64 (rowOf (ps.map (·.1)) c).gone, .int .i64 (rowOf (ps.map (·.1)) c).shade, v']), .bool true]) ∧ ColsT w' v' (rowOf (ps.map (·.1)) c).cols ∧ Ext w w' := by
 obtain ⟨a0, a1, hE⟩ := boxes2 w (ro8 r v) (ro8 ⟨⟨#[]⟩, zeroCl, 0, 0, []⟩ (.slice none 0 0)) 47 47
 have hb0 := hb.ext hE
 have hin0 := hin.ext hE
 have hs := fun w => Lib.hid (split_key pk c w h1 h2)
 rw [← hk] at hs
 have hbb : ¬ bb = w.heap.size + 1 := by have := hb.lt; omega
 have hbb2 : ¬ w.heap.size + 1 = bb := by omega
 obtain ⟨R, hR⟩ : ∃ R, R = rowOf (ps.map (·.1)) c := ⟨_, rfl⟩
 have hrow := fun w1 (hE1 : Ext ((w.alloc (.cells (ro8 r v) 47)).alloc (.cells (ro8 ⟨⟨#[]⟩, zeroCl, 0, 0, []⟩ (.slice none 0 0)) 47)) w1) => Lib.hid (prow_typed pk pg pu ps c w1 (hin0.ext hE1) hcl)
 rw [← hR] at hrow ⊢
 obtain ⟨au, cu, rfl, _⟩ := hin.get
 obtain ⟨n, hn⟩ : ∃ n, n = ps.length := ⟨_, rfl⟩
 rw [← hn] at hb0 hrow
 clear hR hn hin hin0 hb hk
 have tk : (pk.toList == pk.toList) = true := by simp
 go_enter Tryz.func30, Tryz.ntmps30
 go_wp2_with fail
 refine (hs _).out.mono ?_
 rintro e w1 ⟨rfl, hE1⟩
 obtain ⟨p0, p1, p2⟩ := (hb0.ext hE1).pa
 go_wp2_with fail
 refine (hrow _ hE1).out.mono ?_
 rintro e w2 ⟨v2, rfl, hc2, hE2⟩
 obtain ⟨a2, c2, rfl⟩ := TIn.shape hc2
 have hE02 := (hE.trans hE1).trans hE2
 have hb2 := (hb0.ext hE1).ext hE2
 have a12 := (a1.ext hE1).ext hE2
 clear p0 p1 p2 hb0 a0 a1
 go_wp2_with (((guard_target =~ wpList _ _ _ (Oper.mk none (Op.store _ (Operand.tmp 8) (Operand.tmp 21)) _ _ _ _ :: _) _ _); go_must (refine storeBox rfl 47 (.tmp 8) (.tmp 21) rfl (w2.heap.size) _ _ _ (by rfl) (by rfl) ((BoxAt.made w2 (ro8 ⟨⟨#[]⟩, zeroCl, 0, 0, []⟩ (.slice none 0 0)) 47)) (by kernel_rfl) (by rfl) (by simp [Value.oneCell']) ?_); intro w3 c3 g3))
 have hX3 : Ext w2 w3 := ((Ext.refl w2).alloc _).grown g3 (fun q hq => by cases hq; exact Nat.le_refl _)
 have hb3 := hb2.ext hX3
 have a13 := a12.ext hX3
 have hc3 : TIn w3 69 (.slice a2 R.cols.length c2) R.cols.length (coCells R.cols) := hc2.ext hX3
 have hE03 := hE02.trans hX3
 obtain ⟨x0, x1, x2, x3, x4, x5, x6, x7⟩ := c3.ro (r := R) (v := .slice a2 R.cols.length c2)
 obtain ⟨p0, p1, p2⟩ := hb3.pa
 have yf := a13.free
 obtain ⟨y0, y1, y2, y3, y4, y5, y6, y7⟩ := a13.ro
 clear c3 g3 hb3 p1 p2
 go_region
 have g0_0 := TIn.set 0 (.string R.key) a13 (by decide) hc3
 have bx_0 := a13.set 0 (.string R.key)
 have ex_0 := hE03.setCell (p := ⟨w.heap.size + 1, 0, none⟩) (Nat.le_succ _) (.string R.key)
 have g0_1 := TIn.set 1 (.string R.live.val) bx_0 (by decide) g0_0
 have bx_1 := bx_0.set 1 (.string R.live.val)
 have ex_1 := ex_0.setCell (p := ⟨w.heap.size + 1, 1, none⟩) (Nat.le_succ _) (.string R.live.val)
 have g0_2 := TIn.set 2 (.bool R.live.dead) bx_1 (by decide) g0_1
 have bx_2 := bx_1.set 2 (.bool R.live.dead)
 have ex_2 := ex_1.setCell (p := ⟨w.heap.size + 1, 2, none⟩) (Nat.le_succ _) (.bool R.live.dead)
 have g0_3 := TIn.set 3 (.int .i64 R.live.at_) bx_2 (by decide) g0_2
 have bx_3 := bx_2.set 3 (.int .i64 R.live.at_)
 have ex_3 := ex_2.setCell (p := ⟨w.heap.size + 1, 3, none⟩) (Nat.le_succ _) (.int .i64 R.live.at_)
 have g0_4 := TIn.set 4 (.int .i64 R.live.fin) bx_3 (by decide) g0_3
 have bx_4 := bx_3.set 4 (.int .i64 R.live.fin)
 have ex_4 := ex_3.setCell (p := ⟨w.heap.size + 1, 4, none⟩) (Nat.le_succ _) (.int .i64 R.live.fin)
 have g0_5 := TIn.set 5 (.int .i64 R.gone) bx_4 (by decide) g0_4
 have bx_5 := bx_4.set 5 (.int .i64 R.gone)
 have ex_5 := ex_4.setCell (p := ⟨w.heap.size + 1, 5, none⟩) (Nat.le_succ _) (.int .i64 R.gone)
 have g0_6 := TIn.set 6 (.int .i64 R.shade) bx_5 (by decide) g0_5
 have bx_6 := bx_5.set 6 (.int .i64 R.shade)
 have ex_6 := ex_5.setCell (p := ⟨w.heap.size + 1, 6, none⟩) (Nat.le_succ _) (.int .i64 R.shade)
 have g0_7 := TIn.set 7 (.slice a2 R.cols.length c2) bx_6 (by decide) g0_6
 have bx_7 := bx_6.set 7 (.slice a2 R.cols.length c2)
 have ex_7 := ex_6.setCell (p := ⟨w.heap.size + 1, 7, none⟩) (Nat.le_succ _) (.slice a2 R.cols.length c2)
 clear bx_0 bx_1 bx_2 bx_3 bx_4 bx_5 bx_6 ex_0 ex_1 ex_2 ex_3 ex_4 ex_5 ex_6 g0_0 g0_1 g0_2 g0_3 g0_4 g0_5 g0_6
 generalize World.setCell (World.setCell (World.setCell (World.setCell (World.setCell (World.setCell (World.setCell (World.setCell w3 _ _) _ _) _ _) _ _) _ _) _ _) _ _) _ _ = w9 at bx_7 ex_7 g0_7 ⊢
 replace bx_7 : BoxAt w9 (w.heap.size + 1) (ro8 R (.slice a2 R.cols.length c2)) 47 := bx_7
 obtain ⟨y0, y1, y2, y3, y4, y5, y6, y7⟩ := (bx_7.ext (Ext.refl w9).drew).ro
 go_wp2
 refine bodyPost_ret (v := .tuple #[(.agg #[.string R.key, .string R.live.val, .bool R.live.dead, .int .i64 R.live.at_, .int .i64 R.live.fin, .int .i64 R.gone, .int .i64 R.shade, .slice a2 R.cols.length c2]), .bool true]) ?_ rfl ⟨_, rfl, TIn.ext (Ext.refl w9).drew g0_7, ex_7.drew⟩
 simp [results, Tryz.results30, go_sem, y0, y1, y2, y3, y4, y5, y6, y7]
end Go.Proofs.YtolkhjdododdaaaGreatDoor

/- row.Merge over rows. (what a smaller cut has) -/
namespace Go.Proofs.YtolkhjdododdaaaGreatDoor
open Go Go.RowKit
attribute [local go_sem] yields yUpon ro8

def keyR (a b : Ro) : Int := cmpB a.key.data.toList b.key.data.toList
def mergeRo (l m : List Ro) : List Ro := mergeG keyR joinRo l m

/-- What stays true in a round's region: the row under way may be appended to. -/
structure MR (w wr : World) (vo : Value) (out : List (Ro × Value)) (x : World) : Prop where
 ext : Ext w x
 own : x.ownsRow w.heap.size 47 8 vo out.length (roCells out)
 size : wr.heap.size ≤ x.heap.size
 safe : ∀ p ∈ out, SafeC w x p
theorem MR.ext' {w wr : World} {vo : Value} {out : List (Ro × Value)} {x y : World} (hE : Ext x y) (h : MR w wr vo out x) : MR w wr vo out y := ⟨h.ext.trans hE, ownsRow_ext h.own hE, Nat.le_trans h.size hE.le, fun p hp => (h.safe p hp).ext hE⟩
theorem ME_own {w wr : World} {vo : Value} {n j m s : Nat} {T : TypeId} {xs : List Value} (hown : wr.ownsRow w.heap.size T s vo m xs) {x y : World} (h : ME vo n j x y) {T' : TypeId} {s' m' : Nat} {v : Value} {xs' : List Value} (hx : x.ownsRow wr.heap.size T' s' v m' xs') : y.ownsRow wr.heap.size T' s' v m' xs' := by
 unfold ME at h
 split at h
 ·refine hx.kept h ?_
  cases e : v.ownBlock with
  | none => exact .inl rfl
  | some g => exact .inr (fun h => by have := (hx.lt g e).1; have := (hown.lt g h.symm).2; omega)
 ·exact ownsRow_ext hx h
end Go.Proofs.YtolkhjdododdaaaGreatDoor

/- row.Merge over rows. -/
namespace Go.Proofs.YtolkhjdododdaaaGreatDoor
open Go Go.RowKit
attribute [local go_sem] yields yUpon ro8
set_option maxHeartbeats 1000000 in
theorem pj1_any (a b : Ro) (va vb : Value) (w : World) : Calls Tryz.prog 71 #[(.agg #[.string a.key, .string a.live.val, .bool a.live.dead, .int .i64 a.live.at_, .int .i64 a.live.fin, .int .i64 a.gone, .int .i64 a.shade, va]), (.agg #[.string b.key, .string b.live.val, .bool b.live.dead, .int .i64 b.live.at_, .int .i64 b.live.fin, .int .i64 b.gone, .int .i64 b.shade, vb])] w fun e w' => e = .returned (.int .i64 (keyR a b)) ∧ Ext w w' := by
 go_enter Tryz.func71, Tryz.ntmps71
 go_wp2_with fail
 refine (strCompare_any _ _ _).mono ?_
 rintro e w1 ⟨rfl, rfl⟩
 go_wp2_with fail
 go_ret
 exact ⟨rfl, ((Ext.refl w).alloc _).alloc _⟩

set_option maxRecDepth 100000 in
set_option maxHeartbeats 4000000 in
theorem mergeRo_any (va vb : Value) (la lb : List (Ro × Value)) (w : World) (ha : RowsIn w va la) (hb : RowsIn w vb lb) (hlen : la.length + lb.length ≤ 1000000) (hcl : ∀ p ∈ la, ∀ q ∈ lb, p.1.cols.length + q.1.cols.length ≤ 1000000) :
  Calls Tryz.prog 70 #[va, vb, .func (.func 71) #[] #[], .func (.func 35) #[] #[]] w fun e w' => ∃ v', e = .returned v' ∧ ∃ ps, w'.ownsRow w.heap.size 47 8 v' ps.length (roCells ps) ∧ (∀ p ∈ ps, SafeC w w' p) ∧ ps.map (·.1) = mergeRo (la.map (·.1)) (lb.map (·.1)) ∧ Ext w w' := by
 obtain ⟨i0, hi, hz0, hz1, hz2⟩ := info_parts info_Row
 obtain ⟨aa, ca, rfl, hca, hcma, _⟩ := ha.get
 obtain ⟨ab, cb, rfl, hcb, hcmb, _⟩ := hb.get
 go_enter Tryz.func70, Tryz.ntmps70
 go_wp2_with (at_make; go_must (refine wpList_make_own _ rfl _ _ 37 rfl w.heap.size 47 i0 _ 8 und_Rows hi hz0 hz1 _ _ _ (la.length + lb.length) rfl rfl (by omega) ?b2 ?b3 (Nat.le_refl _) ?_))
 case b2 => rw [hz2]; omega
 case b3 => unfold maxLen; omega
 intro w0 hown0 hgrow0
 go_wp2
 go_loopw [0, 1, 9] (fun sa sb so wr => ∃ (l m out : List (Ro × Value)), RowsIn w sa l ∧ RowsIn w sb m ∧ wr.ownsRow w.heap.size 47 8 so out.length (roCells out) ∧ (∀ p ∈ out, SafeC w wr p) ∧ (∀ p ∈ l, p ∈ la) ∧ (∀ p ∈ m, p ∈ lb) ∧ Ext w wr ∧ Hid (mergeRo (la.map (·.1)) (lb.map (·.1)) = out.map (·.1) ++ mergeRo (l.map (·.1)) (m.map (·.1))) ∧ out.length + l.length + m.length ≤ la.length + lb.length) (fun sa sb _ _ => lenOf sa + lenOf sb)
 case atStart => exact ⟨la, lb, [], ha, hb, hown0, nofun, fun _ h => h, fun _ h => h, (Ext.refl w).grown hgrow0 (fun q hq => by cases hq), rfl, by simp⟩
 case round =>
  obtain ⟨l, m, out, hl, hm, hown, hsafe, hla, hlb, hE, HM, hsum⟩ := hrel
  by_cases h1 : 0 < l.length
  ·by_cases h2 : 0 < m.length
   ·obtain ⟨b1, o1, c1, A, a1, cc1, l', hll, rfl, hc1, hcm1, hA, hcA, hl'⟩ := hl.uncons h1
    obtain ⟨b2, o2, c2, B, a2, cc2, m', hmm, rfl, hc2, hcm2, hB, hcB, hm'⟩ := hm.uncons h2
    have h1' : decide ((0 : Int) < (l.length : Int)) = true := decide_eq_true (by omega)
    have h2' : decide ((0 : Int) < (m.length : Int)) = true := decide_eq_true (by omega)
    have HL := Lib.hid hll
    have HWR := Lib.hid hE.le
    have HN := Lib.hid hmm
    clear hll hmm
    go_wp2_with fail
    refine wp_region_in 9 [(7, fun v _ => v = .int .i64 (keyR A B))] (fun x => Ext w x ∧ wr.heap.size ≤ x.heap.size ∧ x.ownsRow w.heap.size 47 8 u9 out.length (roCells out) ∧ ∀ p ∈ out, SafeC w x p) (by kernel_rfl) (by kernel_rfl) (by kernel_rfl) ⟨stays_eq _, trivial⟩ ⟨hE, Nat.le_refl _, hown, hsafe⟩ ?_
    clear hE hsafe
    rintro w1 ⟨hE, hle, hown1, hsafe1⟩
    have FIN : Hid (∀ wx, Ext w1 wx → Ext w wx ∧ wr.heap.size ≤ wx.heap.size ∧ wx.ownsRow w.heap.size 47 8 u9 out.length (roCells out) ∧ ∀ p ∈ out, SafeC w wx p) := fun wx h => ⟨hE.trans h, Nat.le_trans hle h.le, ownsRow_ext hown1 h, fun p hp => (hsafe1 p hp).ext h⟩
    obtain ⟨x0, x1, x2, x3, x4, x5, x6, x7⟩ := hA.ext hE
    obtain ⟨y0, y1, y2, y3, y4, y5, y6, y7⟩ := hB.ext hE
    replace x0 := held x0
    replace x1 := held x1
    replace x2 := held x2
    replace x3 := held x3
    replace x4 := held x4
    replace x5 := held x5
    replace x6 := held x6
    replace x7 := held x7
    replace y0 := held y0
    replace y1 := held y1
    replace y2 := held y2
    replace y3 := held y3
    replace y4 := held y4
    replace y5 := held y5
    replace y6 := held y6
    replace y7 := held y7
    clear hE hle hown1 hsafe1
    refine rg_quiet rfl rfl rfl rfl ?_; intro K hK; go_big_quiet_op; go_big_quiet_on
    refine rg_quiet rfl rfl rfl rfl ?_; intro K hK; go_big_quiet_op; go_big_quiet_on
    refine rg_quiet rfl rfl rfl rfl ?_; intro K hK; go_big_quiet_op; go_big_quiet_on
    refine rg_quiet rfl rfl rfl rfl ?_; intro K hK; go_big_quiet_op; go_big_quiet_on
    refine rg_quiet rfl rfl rfl rfl ?_; intro K hK; go_big_quiet_op; go_big_quiet_on
    refine rg_quiet rfl rfl rfl rfl ?_; intro K hK; go_big_quiet_op; go_big_quiet_on
    refine rg_quiet rfl rfl rfl rfl ?_; intro K hK; go_big_quiet_op; go_big_quiet_on
    refine rg_val [] rfl rfl rfl (by kernel_rfl) (fun w1 hE hf => ?_) ?_
    ·go_simp
     exact (pj1_any A B (.slice a1 A.cols.length cc1) (.slice a2 B.cols.length cc2) w1).mono fun e w' ⟨he, hw⟩ => ⟨_, he, rg_done hE hw (rfl)⟩
    simp only [Act.put, List.setIfInBounds_toArray, List.set_cons_zero, List.set_cons_succ]
    refine rg_quiet rfl rfl rfl rfl ?_; intro K hK; go_big_quiet_op; go_big_quiet_on
    refine rel_nil fun w2 hE2 _ => ?_
    obtain ⟨hE2', hle, hown2, hsafe2⟩ := FIN.out w2 hE2
    clear x0 x1 x2 x3 x4 x5 x6 x7 y0 y1 y2 y3 y4 y5 y6 y7 FIN hE2
    have hE2 := hE2'
    clear hE2'
    obtain ⟨kc, hkc⟩ : ∃ kc, kc = keyR A B := ⟨_, rfl⟩
    rw [← hkc]
    have HK := Lib.hid hkc
    clear hkc
    have hsz2 : wr.heap.size ≤ w2.heap.size := hle
    by_cases k1 : kc < 0
    ·go_wp2_with fail
     refine wp_region_relE (MR w wr u9 out) (ME u9 5) (Tab.atE [(3, fun v _ => v = (.agg #[.string A.key, .string A.live.val, .bool A.live.dead, .int .i64 A.live.at_, .int .i64 A.live.fin, .int .i64 A.gone, .int .i64 A.shade, (.slice a1 A.cols.length cc1)])), (4, fun v x => ∃ b, v = .slice (some ⟨b, 0, none⟩) 1 1 ∧ wr.heap.size ≤ b ∧ BoxAt x b (ro8 A (.slice a1 A.cols.length cc1)) 47), (5, fun v x => x.ownsRow w.heap.size 47 8 v (out.length + 1) (roCells (out ++ [(A, (.slice a1 A.cols.length cc1))])))])
      (Tab.staysE ⟨fun _ _ _ _ _ _ h => h, fun j _ v x y hR ⟨b, e, hb, hx⟩ => ⟨b, e, hb, ME_box hown hR hb hx⟩, fun j hj v x y hR h => ownsRow_ext h (ME_off hj hR), trivial⟩)
      12 (by kernel_rfl) (by kernel_rfl) (by kernel_rfl) ((⟨hE2, hown2, hsz2, hsafe2⟩ : MR w wr u9 out w2).ext' (Ext.refl w2).drew) ?_
     refine relE_quiet rfl rfl rfl rfl ?_; intro K hK; go_big_quiet_op; (first | refine ⟨_, fun _ _ => rfl, hK _ ?_⟩ | refine hK _ ?_); clear hK K
     refine relE_quiet rfl rfl rfl rfl ?_; intro K hK; go_big_quiet_op; (first | refine ⟨_, fun _ _ => rfl, hK _ ?_⟩ | refine hK _ ?_); clear hK K
     refine relE_quiet rfl rfl rfl rfl ?_; intro K hK; go_big_quiet_op; (first | refine ⟨_, fun _ _ => rfl, hK _ ?_⟩ | refine hK _ ?_); clear hK K
     refine relE_val [] rfl rfl rfl (by kernel_rfl) (fun z hz hf => ?_) ?_
     ·obtain ⟨x0, x1, x2, x3, x4, x5, x6, x7⟩ := hA.ext hz.ext
      go_simp
      exact ⟨hz, ME_ext (Ext.refl z), rfl⟩
     simp only [Act.put, List.setIfInBounds_toArray, List.set_cons_zero, List.set_cons_succ]
     refine relE_fact [] rfl rfl rfl (by kernel_rfl) (fun z hz hf => ?_) (fun v4 z4 hC4 hG4 h4 => ?_)
     ·go_simp
      exact ⟨hz.ext' ((Ext.refl z).alloc _), ME_ext ((Ext.refl z).alloc _), _, rfl, hz.size, BoxAt.made z _ _⟩
     obtain ⟨b4, rfl, hb4, _⟩ := h4
     have HB4 := Lib.hid hb4
     clear hC4 hG4 hb4
     simp only [Act.put, List.setIfInBounds_toArray, List.set_cons_zero, List.set_cons_succ]
     refine relE_fact [4] rfl rfl rfl (by kernel_rfl) (fun z hz hf => ?_) (fun v5 z5 hC5 hG5 h5 => ?_)
     ·obtain ⟨b, e, _, hbox⟩ := (hf 4 (by simp)).2 rfl
      cases e
      refine yields_append info_Row und_Rows rfl (by decide) (.tmp 51) (.tmp 55) rfl w.heap.size hz.ext.le u9 out.length (roCells out) hz.own (by rfl) b4 1 1 (ro8 A (.slice a1 A.cols.length cc1)).toList (by rfl) (by rfl) (fun j u hj => by rw [hbox.cell j]; simpa using hj) (by simp [ro8, Value.oneCell']) (by unfold maxLen; omega) (by omega) ?_
      intro v' y hown' hg hkeep
      refine ⟨⟨hz.ext.grown hg (fun q hq => (hz.own.lt q hq).1), hkeep, Nat.le_trans hz.size hg.size, fun p hp => (hz.safe p hp).grown hz.own hg⟩, by unfold ME; rw [if_pos rfl]; exact hg, ?_⟩
      rw [roCells_append]
      exact hown'
     obtain ⟨a5, c5, rfl⟩ := own_shape h5
     clear hC5 hG5 h5
     simp only [Act.put, List.setIfInBounds_toArray, List.set_cons_zero, List.set_cons_succ]
     refine relE_quiet rfl rfl rfl rfl ?_; intro K hK; go_big_quiet_op; (first | refine ⟨_, fun _ _ => rfl, hK _ ?_⟩ | refine hK _ ?_); clear hK K
     refine relE_quiet rfl rfl rfl rfl ?_; intro K hK; go_big_quiet_op; (first | refine ⟨_, fun _ _ => rfl, hK _ ?_⟩ | refine hK _ ?_); clear hK K
     refine relE_quiet rfl rfl rfl rfl ?_; intro K hK; go_big_quiet_op; (first | refine ⟨_, fun _ _ => rfl, hK _ ?_⟩ | refine hK _ ?_); clear hK K
     refine relE_quiet rfl rfl rfl rfl ?_; intro K hK; go_big_quiet_op; (first | refine ⟨_, fun _ _ => rfl, hK _ ?_⟩ | refine hK _ ?_); clear hK K
     refine relE_nil fun w9 hC hG => ?_
     have hown9 := (hG 5).2 rfl
     have hE9 := hC.ext
     have hs9 := hC.safe
     clear hC hG HB4 hown hE2 hown2 hsz2 hsafe2
     go_wp2_with fail
     go_roundw
     case rel =>
      refine ⟨l', m, out ++ [(A, (.slice a1 A.cols.length cc1))], hl', hm, by rw [List.length_append]; exact hown9, (fun p hp => by rcases List.mem_append.1 hp with h | h; exact hs9 p h; rw [List.mem_singleton.1 h]; exact .inl hcA), (fun p hp => hla p (by rw [HL.out]; exact List.mem_cons_of_mem _ hp)), hlb, hE9, ?_, by have := congrArg List.length HL.out; simp at this ⊢; omega⟩
      show mergeRo _ _ = _
      rw [HM.out, HL.out, HN.out, List.map_append, List.append_assoc]
      unfold mergeRo
      rw [List.map_cons, List.map_cons, mergeG_lt (by rw [← HK.out]; exact k1)]
      rfl
     case measure => simp [lenOf] <;> omega
    ·by_cases k2 : 0 < kc
     ·go_wp2_with fail
      refine wp_region_relE (MR w wr u9 out) (ME u9 5) (Tab.atE [(3, fun v _ => v = (.agg #[.string B.key, .string B.live.val, .bool B.live.dead, .int .i64 B.live.at_, .int .i64 B.live.fin, .int .i64 B.gone, .int .i64 B.shade, (.slice a2 B.cols.length cc2)])), (4, fun v x => ∃ b, v = .slice (some ⟨b, 0, none⟩) 1 1 ∧ wr.heap.size ≤ b ∧ BoxAt x b (ro8 B (.slice a2 B.cols.length cc2)) 47), (5, fun v x => x.ownsRow w.heap.size 47 8 v (out.length + 1) (roCells (out ++ [(B, (.slice a2 B.cols.length cc2))])))])
       (Tab.staysE ⟨fun _ _ _ _ _ _ h => h, fun j _ v x y hR ⟨b, e, hb, hx⟩ => ⟨b, e, hb, ME_box hown hR hb hx⟩, fun j hj v x y hR h => ownsRow_ext h (ME_off hj hR), trivial⟩)
       12 (by kernel_rfl) (by kernel_rfl) (by kernel_rfl) ((⟨hE2, hown2, hsz2, hsafe2⟩ : MR w wr u9 out w2).ext' (Ext.refl w2).drew) ?_
      refine relE_quiet rfl rfl rfl rfl ?_; intro K hK; go_big_quiet_op; (first | refine ⟨_, fun _ _ => rfl, hK _ ?_⟩ | refine hK _ ?_); clear hK K
      refine relE_quiet rfl rfl rfl rfl ?_; intro K hK; go_big_quiet_op; (first | refine ⟨_, fun _ _ => rfl, hK _ ?_⟩ | refine hK _ ?_); clear hK K
      refine relE_quiet rfl rfl rfl rfl ?_; intro K hK; go_big_quiet_op; (first | refine ⟨_, fun _ _ => rfl, hK _ ?_⟩ | refine hK _ ?_); clear hK K
      refine relE_val [] rfl rfl rfl (by kernel_rfl) (fun z hz hf => ?_) ?_
      ·obtain ⟨x0, x1, x2, x3, x4, x5, x6, x7⟩ := hB.ext hz.ext
       go_simp
       exact ⟨hz, ME_ext (Ext.refl z), rfl⟩
      simp only [Act.put, List.setIfInBounds_toArray, List.set_cons_zero, List.set_cons_succ]
      refine relE_fact [] rfl rfl rfl (by kernel_rfl) (fun z hz hf => ?_) (fun v4 z4 hC4 hG4 h4 => ?_)
      ·go_simp
       exact ⟨hz.ext' ((Ext.refl z).alloc _), ME_ext ((Ext.refl z).alloc _), _, rfl, hz.size, BoxAt.made z _ _⟩
      obtain ⟨b4, rfl, hb4, _⟩ := h4
      have HB4 := Lib.hid hb4
      clear hC4 hG4 hb4
      simp only [Act.put, List.setIfInBounds_toArray, List.set_cons_zero, List.set_cons_succ]
      refine relE_fact [4] rfl rfl rfl (by kernel_rfl) (fun z hz hf => ?_) (fun v5 z5 hC5 hG5 h5 => ?_)
      ·obtain ⟨b, e, _, hbox⟩ := (hf 4 (by simp)).2 rfl
       cases e
       refine yields_append info_Row und_Rows rfl (by decide) (.tmp 62) (.tmp 66) rfl w.heap.size hz.ext.le u9 out.length (roCells out) hz.own (by rfl) b4 1 1 (ro8 B (.slice a2 B.cols.length cc2)).toList (by rfl) (by rfl) (fun j u hj => by rw [hbox.cell j]; simpa using hj) (by simp [ro8, Value.oneCell']) (by unfold maxLen; omega) (by omega) ?_
       intro v' y hown' hg hkeep
       refine ⟨⟨hz.ext.grown hg (fun q hq => (hz.own.lt q hq).1), hkeep, Nat.le_trans hz.size hg.size, fun p hp => (hz.safe p hp).grown hz.own hg⟩, by unfold ME; rw [if_pos rfl]; exact hg, ?_⟩
       rw [roCells_append]
       exact hown'
      obtain ⟨a5, c5, rfl⟩ := own_shape h5
      clear hC5 hG5 h5
      simp only [Act.put, List.setIfInBounds_toArray, List.set_cons_zero, List.set_cons_succ]
      refine relE_quiet rfl rfl rfl rfl ?_; intro K hK; go_big_quiet_op; (first | refine ⟨_, fun _ _ => rfl, hK _ ?_⟩ | refine hK _ ?_); clear hK K
      refine relE_quiet rfl rfl rfl rfl ?_; intro K hK; go_big_quiet_op; (first | refine ⟨_, fun _ _ => rfl, hK _ ?_⟩ | refine hK _ ?_); clear hK K
      refine relE_quiet rfl rfl rfl rfl ?_; intro K hK; go_big_quiet_op; (first | refine ⟨_, fun _ _ => rfl, hK _ ?_⟩ | refine hK _ ?_); clear hK K
      refine relE_quiet rfl rfl rfl rfl ?_; intro K hK; go_big_quiet_op; (first | refine ⟨_, fun _ _ => rfl, hK _ ?_⟩ | refine hK _ ?_); clear hK K
      refine relE_nil fun w9 hC hG => ?_
      have hown9 := (hG 5).2 rfl
      have hE9 := hC.ext
      have hs9 := hC.safe
      clear hC hG HB4 hown hE2 hown2 hsz2 hsafe2
      go_wp2_with fail
      go_roundw
      case rel =>
       refine ⟨l, m', out ++ [(B, (.slice a2 B.cols.length cc2))], hl, hm', by rw [List.length_append]; exact hown9, (fun p hp => by rcases List.mem_append.1 hp with h | h; exact hs9 p h; rw [List.mem_singleton.1 h]; exact .inl hcB), hla, (fun p hp => hlb p (by rw [HN.out]; exact List.mem_cons_of_mem _ hp)), hE9, ?_, by have := congrArg List.length HN.out; simp at this ⊢; omega⟩
       show mergeRo _ _ = _
       rw [HM.out, HL.out, HN.out, List.map_append, List.append_assoc]
       unfold mergeRo
       rw [List.map_cons, List.map_cons, mergeG_gt (by rw [← HK.out]; exact k2)]
       rfl
      case measure => simp [lenOf] <;> omega
     ·have hAB : A.cols.length + B.cols.length ≤ 1000000 := hcl _ (hla _ (by rw [HL.out]; exact List.mem_cons_self ..)) _ (hlb _ (by rw [HN.out]; exact List.mem_cons_self ..))
      obtain ⟨J, hJ⟩ : ∃ J, J = joinRo A B := ⟨_, rfl⟩
      have HJ := Lib.hid hJ
      clear hJ
      go_wp2_with fail
      refine wp_region_relE (MR w wr u9 out) (ME u9 10) (Tab.atE [(4, fun v _ => v = (.agg #[.string A.key, .string A.live.val, .bool A.live.dead, .int .i64 A.live.at_, .int .i64 A.live.fin, .int .i64 A.gone, .int .i64 A.shade, (.slice a1 A.cols.length cc1)])), (7, fun v _ => v = (.agg #[.string B.key, .string B.live.val, .bool B.live.dead, .int .i64 B.live.at_, .int .i64 B.live.fin, .int .i64 B.gone, .int .i64 B.shade, (.slice a2 B.cols.length cc2)])), (8, fun v x => ∃ u, v = (.agg #[.string J.key, .string J.live.val, .bool J.live.dead, .int .i64 J.live.at_, .int .i64 J.live.fin, .int .i64 J.gone, .int .i64 J.shade, u]) ∧ x.ownsRow wr.heap.size 69 5 u J.cols.length (coCells J.cols)), (9, fun v x => ∃ b u, v = .slice (some ⟨b, 0, none⟩) 1 1 ∧ wr.heap.size ≤ b ∧ BoxAt x b (ro8 J u) 47 ∧ x.ownsRow wr.heap.size 69 5 u J.cols.length (coCells J.cols)), (10, fun v x => ∃ u, x.ownsRow w.heap.size 47 8 v (out.length + 1) (roCells (out ++ [(J, u)])) ∧ x.ownsRow wr.heap.size 69 5 u J.cols.length (coCells J.cols))])
       (Tab.staysE ⟨fun _ _ _ _ _ _ h => h, fun _ _ _ _ _ _ h => h, fun j _ v x y hR ⟨u, e, h⟩ => ⟨u, e, ME_own hown hR h⟩, fun j _ v x y hR ⟨b, u, e, hb, hx, h⟩ => ⟨b, u, e, hb, ME_box hown hR hb hx, ME_own hown hR h⟩, fun j hj v x y hR ⟨u, h, h'⟩ => ⟨u, ownsRow_ext h (ME_off hj hR), ownsRow_ext h' (ME_off hj hR)⟩, trivial⟩)
       20 (by kernel_rfl) (by kernel_rfl) (by kernel_rfl) ((⟨hE2, hown2, hsz2, hsafe2⟩ : MR w wr u9 out w2).ext' (Ext.refl w2).drew) ?_
      refine relE_quiet rfl rfl rfl rfl ?_; intro K hK; go_big_quiet_op; (first | refine ⟨_, fun _ _ => rfl, hK _ ?_⟩ | refine hK _ ?_); clear hK K
      refine relE_quiet rfl rfl rfl rfl ?_; intro K hK; go_big_quiet_op; (first | refine ⟨_, fun _ _ => rfl, hK _ ?_⟩ | refine hK _ ?_); clear hK K
      refine relE_quiet rfl rfl rfl rfl ?_; intro K hK; go_big_quiet_op; (first | refine ⟨_, fun _ _ => rfl, hK _ ?_⟩ | refine hK _ ?_); clear hK K
      refine relE_quiet rfl rfl rfl rfl ?_; intro K hK; go_big_quiet_op; (first | refine ⟨_, fun _ _ => rfl, hK _ ?_⟩ | refine hK _ ?_); clear hK K
      refine relE_val [] rfl rfl rfl (by kernel_rfl) (fun z hz hf => ?_) ?_
      ·obtain ⟨x0, x1, x2, x3, x4, x5, x6, x7⟩ := hA.ext hz.ext
       go_simp
       exact ⟨hz, ME_ext (Ext.refl z), rfl⟩
      simp only [Act.put, List.setIfInBounds_toArray, List.set_cons_zero, List.set_cons_succ]
      refine relE_quiet rfl rfl rfl rfl ?_; intro K hK; go_big_quiet_op; (first | refine ⟨_, fun _ _ => rfl, hK _ ?_⟩ | refine hK _ ?_); clear hK K
      refine relE_quiet rfl rfl rfl rfl ?_; intro K hK; go_big_quiet_op; (first | refine ⟨_, fun _ _ => rfl, hK _ ?_⟩ | refine hK _ ?_); clear hK K
      refine relE_val [] rfl rfl rfl (by kernel_rfl) (fun z hz hf => ?_) ?_
      ·obtain ⟨x0, x1, x2, x3, x4, x5, x6, x7⟩ := hB.ext hz.ext
       go_simp
       exact ⟨hz, ME_ext (Ext.refl z), rfl⟩
      simp only [Act.put, List.setIfInBounds_toArray, List.set_cons_zero, List.set_cons_succ]
      refine relE_fact [] rfl rfl rfl (by kernel_rfl) (fun z hz hf => ?_) (fun v8 z8 hC8 hG8 h8 => ?_)
      ·go_simp
       refine (rowJoin_any A B _ _ z (hcA.ext hz.ext) (hcB.ext hz.ext) hAB).mono ?_
       rintro e y ⟨v', he, hown', hy⟩
       rw [← HJ.out] at he hown'
       exact ⟨_, he, hz.ext' hy, ME_ext hy, v', rfl, ownsRow_base hown' hz.size⟩
      obtain ⟨u8, rfl, h8'⟩ := h8
      obtain ⟨a8, cc8, rfl⟩ := own_shape h8'
      clear hC8 hG8 h8'
      simp only [Act.put, List.setIfInBounds_toArray, List.set_cons_zero, List.set_cons_succ]
      refine relE_fact [8] rfl rfl rfl (by kernel_rfl) (fun z hz hf => ?_) (fun v4 z4 hC4 hG4 h4 => ?_)
      ·obtain ⟨u, e, hu⟩ := (hf 8 (by simp)).2 rfl
       cases e
       go_simp
       exact ⟨hz.ext' ((Ext.refl z).alloc _), ME_ext ((Ext.refl z).alloc _), _, rfl, hz.size, _, BoxAt.made z _ _, ownsRow_ext hu ((Ext.refl z).alloc _)⟩
      obtain ⟨b4, u4, rfl, hb4, _, _⟩ := h4
      have HB4 := Lib.hid hb4
      clear hC4 hG4 hb4
      simp only [Act.put, List.setIfInBounds_toArray, List.set_cons_zero, List.set_cons_succ]
      refine relE_fact [9] rfl rfl rfl (by kernel_rfl) (fun z hz hf => ?_) (fun v5 z5 hC5 hG5 h5 => ?_)
      ·obtain ⟨b, u, e, _, hbox, hu⟩ := (hf 9 (by simp)).2 rfl
       cases e
       obtain ⟨au, cu, rfl⟩ := own_shape hu
       refine yields_append info_Row und_Rows rfl (by decide) (.tmp 33) (.tmp 42) rfl w.heap.size hz.ext.le u9 out.length (roCells out) hz.own (by rfl) b4 1 1 (ro8 J (.slice au J.cols.length cu)).toList (by rfl) (by rfl) (fun j u hj => by rw [hbox.cell j]; simpa using hj) (by simp [ro8, Value.oneCell']) (by unfold maxLen; omega) (by omega) ?_
       intro v' y hown' hg hkeep
       refine ⟨⟨hz.ext.grown hg (fun q hq => (hz.own.lt q hq).1), hkeep, Nat.le_trans hz.size hg.size, fun p hp => (hz.safe p hp).grown hz.own hg⟩, by unfold ME; rw [if_pos rfl]; exact hg, _, ?_, hu.kept hg (own_ne_own hu hz.own (by decide))⟩
       rw [roCells_append]
       exact hown'
      obtain ⟨u5, h5, _⟩ := h5
      obtain ⟨a5, c5, rfl⟩ := own_shape h5
      clear hC5 hG5 h5
      simp only [Act.put, List.setIfInBounds_toArray, List.set_cons_zero, List.set_cons_succ]
      refine relE_quiet rfl rfl rfl rfl ?_; intro K hK; go_big_quiet_op; (first | refine ⟨_, fun _ _ => rfl, hK _ ?_⟩ | refine hK _ ?_); clear hK K
      refine relE_quiet rfl rfl rfl rfl ?_; intro K hK; go_big_quiet_op; (first | refine ⟨_, fun _ _ => rfl, hK _ ?_⟩ | refine hK _ ?_); clear hK K
      refine relE_quiet rfl rfl rfl rfl ?_; intro K hK; go_big_quiet_op; (first | refine ⟨_, fun _ _ => rfl, hK _ ?_⟩ | refine hK _ ?_); clear hK K
      refine relE_quiet rfl rfl rfl rfl ?_; intro K hK; go_big_quiet_op; (first | refine ⟨_, fun _ _ => rfl, hK _ ?_⟩ | refine hK _ ?_); clear hK K
      refine relE_quiet rfl rfl rfl rfl ?_; intro K hK; go_big_quiet_op; (first | refine ⟨_, fun _ _ => rfl, hK _ ?_⟩ | refine hK _ ?_); clear hK K
      refine relE_quiet rfl rfl rfl rfl ?_; intro K hK; go_big_quiet_op; (first | refine ⟨_, fun _ _ => rfl, hK _ ?_⟩ | refine hK _ ?_); clear hK K
      refine relE_quiet rfl rfl rfl rfl ?_; intro K hK; go_big_quiet_op; (first | refine ⟨_, fun _ _ => rfl, hK _ ?_⟩ | refine hK _ ?_); clear hK K
      refine relE_nil fun w9 hC hG => ?_
      obtain ⟨u9', hown9, hu9'⟩ := (hG 10).2 rfl
      have hu9 := ownsRow_base hu9' HWR.out
      have hE9 := hC.ext
      have hs9 := hC.safe
      clear hC hG HB4 hown hE2 hown2 hsz2 hsafe2
      go_wp2_with fail
      go_roundw
      case rel =>
       refine ⟨l', m', out ++ [(J, u9')], hl', hm', by rw [List.length_append]; exact hown9, (fun p hp => by rcases List.mem_append.1 hp with h | h; exact hs9 p h; rw [List.mem_singleton.1 h]; exact .inr hu9), (fun p hp => hla p (by rw [HL.out]; exact List.mem_cons_of_mem _ hp)), (fun p hp => hlb p (by rw [HN.out]; exact List.mem_cons_of_mem _ hp)), hE9, ?_, by have := congrArg List.length HL.out; have := congrArg List.length HN.out; simp at *; omega⟩
       show mergeRo _ _ = _
       rw [HM.out, HL.out, HN.out, List.map_append, List.append_assoc, HJ.out]
       unfold mergeRo
       rw [List.map_cons, List.map_cons, mergeG_eq (by rw [← HK.out]; omega)]
       rfl
      case measure => simp [lenOf] <;> omega
   ·obtain ⟨b1, o1, c1, A, a1, cc1, l', hll, rfl, hc1, hcm1, hA, hcA, hl'⟩ := hl.uncons h1
    obtain ⟨am, cm, rfl, hcm, hcmm, hgm⟩ := hm.get
    have h1' : decide ((0 : Int) < (l.length : Int)) = true := decide_eq_true (by omega)
    have h2' : decide ((0 : Int) < (m.length : Int)) = false := decide_eq_false (by omega)
    clear hgm hA hcA hl' hll
    have hM : mergeRo (la.map (·.1)) (lb.map (·.1)) = (out ++ l ++ m).map (·.1) := by
     rw [HM.out]
     have : m = [] := List.eq_nil_of_length_eq_zero (by omega)
     rw [this, List.append_nil, List.map_append]
     unfold mergeRo
     simp only [List.map_nil]
     rw [mergeG_nil_right]
    obtain ⟨N, hN⟩ : ∃ N, N = out ++ l ++ m := ⟨_, rfl⟩
    rw [← hN] at hM
    have HN := Lib.hid hN
    have HMM := Lib.hid hM
    clear hN hM
    by_cases hz : N.length = 0
    ·have hz' : ((N.length : Int) == 0) = true := by simp [hz]
     go_wp2_with (first
      | (at_builtin; refine appRows wr rfl (.tmp 70) (.tmp 71) rfl w.heap.size hE.le _ out hown (by rfl) _ l (hl.ext hE) (by rfl) (by omega) ?_; intro v3 w3 hown3 hg3; have hs3 : ∀ p ∈ out, SafeC w w3 p := (fun p hp => (hsafe p hp).grown hown hg3); have hE3 := hE.grown hg3 (fun q hq => (hown.lt q hq).1))
      | (at_builtin; refine appRows w3 rfl (.tmp 72) (.tmp 73) rfl w.heap.size hE3.le v3 (out ++ l) hown3 (by rfl) _ m (hm.ext hE3) (by rfl) (by simp; omega) ?_; intro v4 w4 hown4 hg4; have hs4 : ∀ p ∈ out ++ l ++ m, SafeC w w4 p := (fun p hp => by rcases List.mem_append.1 hp with h | h; rcases List.mem_append.1 h with h | h; exact (hs3 p h).grown hown3 hg4; exact .inl (hl.cols p h); exact .inl (hm.cols p h)); have hE4 := hE3.grown hg4 (fun q hq => (hown3.lt q hq).1); rw [← HN.out] at hown4 hs4; clear hg3 hg4 hown3 hE3; obtain ⟨a4, c4, rfl⟩ := own_shape hown4))
     go_ret
     rw [HMM.out]
     obtain rfl : N = [] := List.eq_nil_of_length_eq_zero hz
     exact ⟨_, rfl, [], World.ownsRow_nil _ _ _ _, nofun, rfl, hE4⟩
    ·have hz' : ((N.length : Int) == 0) = false := by simp; intro h; exact hz (by simp [h])
     go_wp2_with (first
      | (at_builtin; refine appRows wr rfl (.tmp 70) (.tmp 71) rfl w.heap.size hE.le _ out hown (by rfl) _ l (hl.ext hE) (by rfl) (by omega) ?_; intro v3 w3 hown3 hg3; have hs3 : ∀ p ∈ out, SafeC w w3 p := (fun p hp => (hsafe p hp).grown hown hg3); have hE3 := hE.grown hg3 (fun q hq => (hown.lt q hq).1))
      | (at_builtin; refine appRows w3 rfl (.tmp 72) (.tmp 73) rfl w.heap.size hE3.le v3 (out ++ l) hown3 (by rfl) _ m (hm.ext hE3) (by rfl) (by simp; omega) ?_; intro v4 w4 hown4 hg4; have hs4 : ∀ p ∈ out ++ l ++ m, SafeC w w4 p := (fun p hp => by rcases List.mem_append.1 hp with h | h; rcases List.mem_append.1 h with h | h; exact (hs3 p h).grown hown3 hg4; exact .inl (hl.cols p h); exact .inl (hm.cols p h)); have hE4 := hE3.grown hg4 (fun q hq => (hown3.lt q hq).1); rw [← HN.out] at hown4 hs4; clear hg3 hg4 hown3 hE3; obtain ⟨a4, c4, rfl⟩ := own_shape hown4))
     go_ret
     rw [HMM.out]
     exact ⟨_, rfl, N, hown4, fun p v hp => hs4 (p, v) hp, rfl, hE4⟩
  ·obtain ⟨al, cl, rfl, hcl, hcml, hgl⟩ := hl.get
   obtain ⟨am, cm, rfl, hcm, hcmm, hgm⟩ := hm.get
   have h1' : decide ((0 : Int) < (l.length : Int)) = false := decide_eq_false (by omega)
   clear hgm hgl
   have hM : mergeRo (la.map (·.1)) (lb.map (·.1)) = (out ++ l ++ m).map (·.1) := by
    rw [HM.out]
    have : l = [] := List.eq_nil_of_length_eq_zero (by omega)
    rw [this, List.append_nil, List.map_append]
    unfold mergeRo
    simp only [List.map_nil]
    rw [mergeG_nil_left]
   obtain ⟨N, hN⟩ : ∃ N, N = out ++ l ++ m := ⟨_, rfl⟩
   rw [← hN] at hM
   have HN := Lib.hid hN
   have HMM := Lib.hid hM
   clear hN hM
   by_cases hz : N.length = 0
   ·have hz' : ((N.length : Int) == 0) = true := by simp [hz]
    go_wp2_with (first
     | (at_builtin; refine appRows wr rfl (.tmp 70) (.tmp 71) rfl w.heap.size hE.le _ out hown (by rfl) _ l (hl.ext hE) (by rfl) (by omega) ?_; intro v3 w3 hown3 hg3; have hs3 : ∀ p ∈ out, SafeC w w3 p := (fun p hp => (hsafe p hp).grown hown hg3); have hE3 := hE.grown hg3 (fun q hq => (hown.lt q hq).1))
     | (at_builtin; refine appRows w3 rfl (.tmp 72) (.tmp 73) rfl w.heap.size hE3.le v3 (out ++ l) hown3 (by rfl) _ m (hm.ext hE3) (by rfl) (by simp; omega) ?_; intro v4 w4 hown4 hg4; have hs4 : ∀ p ∈ out ++ l ++ m, SafeC w w4 p := (fun p hp => by rcases List.mem_append.1 hp with h | h; rcases List.mem_append.1 h with h | h; exact (hs3 p h).grown hown3 hg4; exact .inl (hl.cols p h); exact .inl (hm.cols p h)); have hE4 := hE3.grown hg4 (fun q hq => (hown3.lt q hq).1); rw [← HN.out] at hown4 hs4; clear hg3 hg4 hown3 hE3; obtain ⟨a4, c4, rfl⟩ := own_shape hown4))
    go_ret
    rw [HMM.out]
    obtain rfl : N = [] := List.eq_nil_of_length_eq_zero hz
    exact ⟨_, rfl, [], World.ownsRow_nil _ _ _ _, nofun, rfl, hE4⟩
   ·have hz' : ((N.length : Int) == 0) = false := by simp; intro h; exact hz (by simp [h])
    go_wp2_with (first
     | (at_builtin; refine appRows wr rfl (.tmp 70) (.tmp 71) rfl w.heap.size hE.le _ out hown (by rfl) _ l (hl.ext hE) (by rfl) (by omega) ?_; intro v3 w3 hown3 hg3; have hs3 : ∀ p ∈ out, SafeC w w3 p := (fun p hp => (hsafe p hp).grown hown hg3); have hE3 := hE.grown hg3 (fun q hq => (hown.lt q hq).1))
     | (at_builtin; refine appRows w3 rfl (.tmp 72) (.tmp 73) rfl w.heap.size hE3.le v3 (out ++ l) hown3 (by rfl) _ m (hm.ext hE3) (by rfl) (by simp; omega) ?_; intro v4 w4 hown4 hg4; have hs4 : ∀ p ∈ out ++ l ++ m, SafeC w w4 p := (fun p hp => by rcases List.mem_append.1 hp with h | h; rcases List.mem_append.1 h with h | h; exact (hs3 p h).grown hown3 hg4; exact .inl (hl.cols p h); exact .inl (hm.cols p h)); have hE4 := hE3.grown hg4 (fun q hq => (hown3.lt q hq).1); rw [← HN.out] at hown4 hs4; clear hg3 hg4 hown3 hE3; obtain ⟨a4, c4, rfl⟩ := own_shape hown4))
    go_ret
    rw [HMM.out]
    exact ⟨_, rfl, N, hown4, fun p v hp => hs4 (p, v) hp, rfl, hE4⟩
end Go.Proofs.YtolkhjdododdaaaGreatDoor

/- delta.rise: rows that rise already stay as they are (slices.SortStableFunc of at most 19). -/
namespace Go.Proofs.YtolkhjdododdaaaGreatDoor
open Go Go.RowKit
attribute [local go_sem] yields yUpon ro8

set_option maxHeartbeats 1000000 in
theorem rise1_any (a b : Ro) (va vb : Value) (w : World) : Calls Tryz.prog 69 #[(.agg #[.string a.key, .string a.live.val, .bool a.live.dead, .int .i64 a.live.at_, .int .i64 a.live.fin, .int .i64 a.gone, .int .i64 a.shade, va]), (.agg #[.string b.key, .string b.live.val, .bool b.live.dead, .int .i64 b.live.at_, .int .i64 b.live.fin, .int .i64 b.gone, .int .i64 b.shade, vb])] w fun e w' => e = .returned (.int .i64 (keyR a b)) ∧ Ext w w' := by
 go_enter Tryz.func69, Tryz.ntmps69
 go_wp2_with fail
 refine (strCompare_any _ _ _).mono ?_
 rintro e w1 ⟨rfl, rfl⟩
 go_wp2_with fail
 go_ret
 exact ⟨rfl, ((Ext.refl w).alloc _).alloc _⟩

set_option maxRecDepth 100000 in
set_option maxHeartbeats 4000000 in
theorem insSort_up (v : Value) (ps : List (Ro × Value)) (w : World) (hin : RowsIn w v ps) (hup : ∀ (k : Nat) (h : k + 1 < ps.length), ¬ keyR (ps[k + 1]).1 (ps[k]).1 < 0) :
  Calls Tryz.prog 106 #[v, .int .i64 0, .int .i64 (ps.length : Int), .func (.func 69) #[] #[]] w fun e w' => e = .returned (.tuple #[]) ∧ Ext w w' := by
 obtain ⟨aa, ca, rfl, hca, hcma, hget⟩ := hin.get
 obtain ⟨n, hn⟩ : ∃ n, n = ps.length := ⟨_, rfl⟩
 rw [← hn] at hca ⊢
 have HN := Lib.hid hn
 have HG := Lib.hid hget
 have HU := Lib.hid hup
 clear hn hget hup hin
 go_enter Tryz.func106, Tryz.ntmps106
 go_wp2_with fail
 go_loopw [8] (fun i wr => ∃ k : Nat, 1 ≤ k ∧ i = .int .i64 (k : Int) ∧ Ext w wr ∧ (k ≤ n ∨ k = 1)) (fun i _ => n + 1 - (intOf i).toNat)
 case atStart => exact ⟨1, Nat.le_refl _, rfl, Ext.refl w, .inr rfl⟩
 case round =>
  obtain ⟨k, hk1, rfl, hE, hk⟩ := hrel
  by_cases hlt : k < n
  ·obtain ⟨j, rfl⟩ : ∃ j, k = j + 1 := ⟨k - 1, by omega⟩
   have hj1 : j + 1 < ps.length := by rw [← HN.out]; exact hlt
   obtain ⟨b, o, e1, hat1⟩ := HG.out (j + 1) hj1
   obtain ⟨b', o', e2, hat0⟩ := HG.out j (by omega)
   cases e1
   cases e2
   have hup := HU.out j hj1
   obtain ⟨A, hA⟩ : ∃ A, A = (ps[j + 1]).1 := ⟨_, rfl⟩
   obtain ⟨B, hB⟩ : ∃ B, B = (ps[j]).1 := ⟨_, rfl⟩
   obtain ⟨va, hva⟩ : ∃ A, A = (ps[j + 1]).2 := ⟨_, rfl⟩
   obtain ⟨vb, hvb⟩ : ∃ B, B = (ps[j]).2 := ⟨_, rfl⟩
   rw [← hA, ← hva] at hat1
   rw [← hB, ← hvb] at hat0
   rw [← hA, ← hB] at hup
   clear hA hB hva hvb
   have hc : decide (keyR A B < 0) = false := by simpa using hup
   have HK := Lib.hid (fun y => rise1_any A B va vb y)
   obtain ⟨c, hcc⟩ : ∃ c, c = keyR A B := ⟨_, rfl⟩
   rw [← hcc] at hc
   have HC := Lib.hid hcc
   clear hcc hup
   have t1 : decide (((j : Int) + 1) < (n : Int)) = true := decide_eq_true (by omega)
   obtain ⟨wo, rfl⟩ : ∃ w', w' = wr := ⟨_, rfl⟩
   go_wp2_with fail
   go_loopw [9] (fun i wr => i = .int .i64 ((j : Int) + 1) ∧ Ext w wr) (fun _ _ => 0)
   case atStart => exact ⟨rfl, hE⟩
   case round =>
    obtain ⟨rfl, hE2⟩ := hrel
    obtain ⟨x0, x1, x2, x3, x4, x5, x6, x7⟩ := hat1.ext hE2
    obtain ⟨y0, y1, y2, y3, y4, y5, y6, y7⟩ := hat0.ext hE2
    have t2 : decide ((0 : Int) < (j : Int) + 1) = true := decide_eq_true (by omega)
    go_wp2_with fail
    refine wp_region_tab 17 [(14, fun v _ => v = .int .i64 c)] (by kernel_rfl) (by kernel_rfl) (by kernel_rfl) ⟨stays_eq _, trivial⟩ ?_
    replace x0 := held x0
    replace x1 := held x1
    replace x2 := held x2
    replace x3 := held x3
    replace x4 := held x4
    replace x5 := held x5
    replace x6 := held x6
    replace x7 := held x7
    replace y0 := held y0
    replace y1 := held y1
    replace y2 := held y2
    replace y3 := held y3
    replace y4 := held y4
    replace y5 := held y5
    replace y6 := held y6
    replace y7 := held y7
    refine rg_quiet rfl rfl rfl rfl ?_; intro K hK; go_big_quiet_op; go_big_quiet_on
    refine rg_quiet rfl rfl rfl rfl ?_; intro K hK; go_big_quiet_op; go_big_quiet_on
    refine rg_quiet rfl rfl rfl rfl ?_; intro K hK; go_big_quiet_op; go_big_quiet_on
    refine rg_quiet rfl rfl rfl rfl ?_; intro K hK; go_big_quiet_op; go_big_quiet_on
    refine rg_quiet rfl rfl rfl rfl ?_; intro K hK; go_big_quiet_op; go_big_quiet_on
    refine rg_quiet rfl rfl rfl rfl ?_; intro K hK; go_big_quiet_op; go_big_quiet_on
    refine rg_quiet rfl rfl rfl rfl ?_; intro K hK; go_big_quiet_op; go_big_quiet_on
    refine rg_quiet rfl rfl rfl rfl ?_; intro K hK; go_big_quiet_op; go_big_quiet_on
    refine rg_quiet rfl rfl rfl rfl ?_; intro K hK; go_big_quiet_op; go_big_quiet_on
    refine rg_quiet rfl rfl rfl rfl ?_; intro K hK; go_big_quiet_op; go_big_quiet_on
    refine rg_quiet rfl rfl rfl rfl ?_; intro K hK; go_big_quiet_op; go_big_quiet_on
    refine rg_quiet rfl rfl rfl rfl ?_; intro K hK; go_big_quiet_op; go_big_quiet_on
    refine rg_quiet rfl rfl rfl rfl ?_; intro K hK; go_big_quiet_op; go_big_quiet_on
    refine rg_quiet rfl rfl rfl rfl ?_; intro K hK; go_big_quiet_op; go_big_quiet_on
    refine rg_val [] rfl rfl rfl (by kernel_rfl) (fun y hE hf => ?_) ?_
    ·go_simp
     refine (HK.out y).mono ?_
     rw [← HC.out]
     exact fun e w' ⟨he, hw⟩ => ⟨_, he, rg_done hE hw rfl⟩
    simp only [Act.put, List.setIfInBounds_toArray, List.set_cons_zero, List.set_cons_succ]
    refine rg_quiet rfl rfl rfl rfl ?_; intro K hK; go_big_quiet_op; go_big_quiet_on
    refine rg_quiet rfl rfl rfl rfl ?_; intro K hK; go_big_quiet_op; go_big_quiet_on
    refine rel_nil fun w5 hE5 _ => ?_
    clear x0 x1 x2 x3 x4 x5 x6 x7 y0 y1 y2 y3 y4 y5 y6 y7
    go_wp2_with fail
    go_roundw
    case rel => exact ⟨j + 2, by omega, by go_num, hE2.trans hE5, .inl (by omega)⟩
    case measure => simp [intOf]; omega
  ·have t1 : decide ((k : Int) < (n : Int)) = false := by simp; omega
   go_wp2_with fail
   go_end0
   exact ⟨rfl, hE⟩

set_option maxRecDepth 100000 in
set_option maxHeartbeats 4000000 in
theorem stable_up (v : Value) (ps : List (Ro × Value)) (w : World) (hin : RowsIn w v ps) (hlen : ps.length ≤ 19) (hup : ∀ (k : Nat) (h : k + 1 < ps.length), ¬ keyR (ps[k + 1]).1 (ps[k]).1 < 0) :
  Calls Tryz.prog 93 #[v, .int .i64 (ps.length : Int), .func (.func 69) #[] #[]] w fun e w' => e = .returned (.tuple #[]) ∧ Ext w w' := by
 have k1 := Lib.hid (insSort_up v ps w hin hup)
 obtain ⟨aa, ca, rfl, hca, hcma, _⟩ := hin.get
 obtain ⟨n, hn⟩ : ∃ n, n = ps.length := ⟨_, rfl⟩
 rw [← hn] at hca hlen k1 ⊢
 clear hn hup hin
 go_enter Tryz.func93, Tryz.ntmps93
 go_wp2_with fail
 go_loopw [7, 8] (fun a b wr => a = .int .i64 0 ∧ b = .int .i64 20 ∧ wr = w) (fun _ _ _ => 0)
 case atStart => exact ⟨rfl, rfl, rfl⟩
 case round =>
  obtain ⟨rfl, rfl, rfl⟩ := hrel
  have t1 : decide ((20 : Int) ≤ (n : Int)) = false := by simp; omega
  go_wp2_with fail
  refine k1.out.mono ?_
  rintro e w1 ⟨rfl, hE1⟩
  go_wp2_with fail
  go_loopw [6] (fun s wq => s = .int .i64 20 ∧ Ext wr wq) (fun _ _ => 0)
  case atStart => exact ⟨rfl, hE1⟩
  case round =>
   obtain ⟨rfl, hE⟩ := hrel
   have t2 : decide ((20 : Int) < (n : Int)) = false := by simp; omega
   go_wp2_with fail
   go_end0
   exact ⟨rfl, hE⟩
set_option maxHeartbeats 1000000 in
theorem rise_any (v : Value) (ps : List (Ro × Value)) (w : World) (hin : RowsIn w v ps) (hlen : ps.length ≤ 19) (hup : ∀ (k : Nat) (h : k + 1 < ps.length), ¬ keyR (ps[k + 1]).1 (ps[k]).1 < 0) :
  Calls Tryz.prog 36 #[v] w fun e w' => e = .returned (.tuple #[]) ∧ Ext w w' := by
 have k1 := Lib.hid (stable_up v ps w hin hlen hup)
 obtain ⟨aa, ca, rfl, hca, hcma, _⟩ := hin.get
 have k2 : Hid (Calls Tryz.prog 68 #[.slice aa ps.length ca, .func (.func 69) #[] #[]] w fun e w' => e = .returned (.tuple #[]) ∧ Ext w w') := Lib.hid (by
  go_enter Tryz.func68, Tryz.ntmps68
  go_wp2_with fail
  refine k1.out.mono ?_
  rintro e w1 ⟨rfl, hE1⟩
  go_wp2_with fail
  go_end0
  exact ⟨rfl, hE1⟩)
 go_enter Tryz.func36, Tryz.ntmps36
 go_wp2_with fail
 refine k2.out.mono ?_
 rintro e w1 ⟨rfl, hE1⟩
 go_wp2_with fail
 go_end0
 exact ⟨rfl, hE1⟩
end Go.Proofs.YtolkhjdododdaaaGreatDoor
