/- row.Merge over rows. -/
import Derived.Test.YteamiiekpjoclaaDoorM14
import Derived.Test.YteamiiekpjoclaaDoorM6
import Derived.Test.YteamiiekpjoclaaDoorM10
import Derived.Test.YteamiiekpjoclaaDoorM11
namespace Go.Proofs.YteamiiekpjoclaaDoor
open Go Go.RowKit
attribute [local go_sem] yields yUpon ro8

def keyR (a b : Ro) : Int := cmpB a.key.data.toList b.key.data.toList
def mergeRo (l m : List Ro) : List Ro := mergeG keyR joinRo l m

set_option maxHeartbeats 1000000 in
theorem pj1_any (a b : Ro) (va vb : Value) (w : World) : Calls Tryd.prog 76 #[(.agg #[.string a.key, .string a.live.val, .bool a.live.dead, .int .i64 a.live.at_, .int .i64 a.live.fin, .int .i64 a.gone, .int .i64 a.shade, va]), (.agg #[.string b.key, .string b.live.val, .bool b.live.dead, .int .i64 b.live.at_, .int .i64 b.live.fin, .int .i64 b.gone, .int .i64 b.shade, vb])] w fun e w' => e = .returned (.int .i64 (keyR a b)) ∧ Ext w w' := by
  go_enter Tryd.func76, Tryd.ntmps76
  go_wp2_with fail
  refine (strCompare_any _ _ _).mono ?_
  rintro e w1 ⟨rfl, rfl⟩
  go_wp2_with fail
  go_ret
  exact ⟨rfl, ((Ext.refl w).alloc _).alloc _⟩

/-- What stays true in a round's region: the row under way may be appended to. -/
structure MR (w wr : World) (vo : Value) (out : List (Ro × Value)) (x : World) : Prop where
  ext : Ext w x
  own : x.ownsRow w.heap.size 26 8 vo out.length (roCells out)
  size : wr.heap.size ≤ x.heap.size
  safe : ∀ p ∈ out, SafeC w x p
theorem MR.ext' {w wr : World} {vo : Value} {out : List (Ro × Value)} {x y : World} (hE : Ext x y) (h : MR w wr vo out x) : MR w wr vo out y := ⟨h.ext.trans hE, ownsRow_ext h.own hE, Nat.le_trans h.size hE.le, fun p hp => (h.safe p hp).ext hE⟩
theorem ME_own {w wr : World} {vo : Value} {n j m s : Nat} {T : TypeId} {xs : List Value} (hown : wr.ownsRow w.heap.size T s vo m xs) {x y : World} (h : ME vo n j x y) {T' : TypeId} {s' m' : Nat} {v : Value} {xs' : List Value} (hx : x.ownsRow wr.heap.size T' s' v m' xs') : y.ownsRow wr.heap.size T' s' v m' xs' := by
  unfold ME at h
  split at h
  · refine hx.kept h ?_
    cases e : v.ownBlock with
    | none => exact .inl rfl
    | some g => exact .inr (fun h => by have := (hx.lt g e).1; have := (hown.lt g h.symm).2; omega)
  · exact ownsRow_ext hx h

set_option maxRecDepth 100000 in
set_option maxHeartbeats 4000000 in
theorem mergeRo_any (va vb : Value) (la lb : List (Ro × Value)) (w : World) (ha : RowsIn w va la) (hb : RowsIn w vb lb) (hlen : la.length + lb.length ≤ 1000000) (hcl : ∀ p ∈ la, ∀ q ∈ lb, p.1.cols.length + q.1.cols.length ≤ 1000000) :
    Calls Tryd.prog 75 #[va, vb, .func (.func 76) #[] #[], .func (.func 13) #[] #[]] w fun e w' => ∃ v', e = .returned v' ∧ ∃ ps, w'.ownsRow w.heap.size 26 8 v' ps.length (roCells ps) ∧ (∀ p ∈ ps, SafeC w w' p) ∧ ps.map (·.1) = mergeRo (la.map (·.1)) (lb.map (·.1)) ∧ Ext w w' := by
  obtain ⟨i0, hi, hz0, hz1, hz2⟩ := info_parts info_Row
  obtain ⟨aa, ca, rfl, hca, hcma, _⟩ := ha.get
  obtain ⟨ab, cb, rfl, hcb, hcmb, _⟩ := hb.get
  go_enter Tryd.func75, Tryd.ntmps75
  go_wp2_with (at_make; go_must (refine wpList_make_own _ rfl _ _ 33 rfl w.heap.size 26 i0 _ 8 und_Rows hi hz0 hz1 _ _ _ (la.length + lb.length) rfl rfl (by omega) ?b2 ?b3 (Nat.le_refl _) ?_))
  case b2 => rw [hz2]; omega
  case b3 => unfold maxLen; omega
  intro w0 hown0 hgrow0
  go_wp2
  go_loopw [0, 1, 9] (fun sa sb so wr => ∃ (l m out : List (Ro × Value)), RowsIn w sa l ∧ RowsIn w sb m ∧ wr.ownsRow w.heap.size 26 8 so out.length (roCells out) ∧ (∀ p ∈ out, SafeC w wr p) ∧ (∀ p ∈ l, p ∈ la) ∧ (∀ p ∈ m, p ∈ lb) ∧ Ext w wr ∧ Hid (mergeRo (la.map (·.1)) (lb.map (·.1)) = out.map (·.1) ++ mergeRo (l.map (·.1)) (m.map (·.1))) ∧ out.length + l.length + m.length ≤ la.length + lb.length) (fun sa sb _ _ => lenOf sa + lenOf sb)
  case atStart => exact ⟨la, lb, [], ha, hb, hown0, nofun, fun _ h => h, fun _ h => h, (Ext.refl w).grown hgrow0 (fun q hq => by cases hq), rfl, by simp⟩
  case round =>
    obtain ⟨l, m, out, hl, hm, hown, hsafe, hla, hlb, hE, HM, hsum⟩ := hrel
    by_cases h1 : 0 < l.length
    · by_cases h2 : 0 < m.length
      · obtain ⟨b1, o1, c1, A, a1, cc1, l', hll, rfl, hc1, hcm1, hA, hcA, hl'⟩ := hl.uncons h1
        obtain ⟨b2, o2, c2, B, a2, cc2, m', hmm, rfl, hc2, hcm2, hB, hcB, hm'⟩ := hm.uncons h2
        have h1' : decide ((0 : Int) < (l.length : Int)) = true := decide_eq_true (by omega)
        have h2' : decide ((0 : Int) < (m.length : Int)) = true := decide_eq_true (by omega)
        have HL := Lib.hid hll
        have HWR := Lib.hid hE.le
        have HN := Lib.hid hmm
        clear hll hmm
        go_wp2_with fail
        refine wp_region_in 9 [(7, fun v _ => v = .int .i64 (keyR A B))] (fun x => Ext w x ∧ wr.heap.size ≤ x.heap.size ∧ x.ownsRow w.heap.size 26 8 u9 out.length (roCells out) ∧ ∀ p ∈ out, SafeC w x p) (by kernel_rfl) (by kernel_rfl) (by kernel_rfl) ⟨stays_eq _, trivial⟩ ⟨hE, Nat.le_refl _, hown, hsafe⟩ ?_
        clear hE hsafe
        rintro w1 ⟨hE, hle, hown1, hsafe1⟩
        have FIN : Hid (∀ wx, Ext w1 wx → Ext w wx ∧ wr.heap.size ≤ wx.heap.size ∧ wx.ownsRow w.heap.size 26 8 u9 out.length (roCells out) ∧ ∀ p ∈ out, SafeC w wx p) := fun wx h => ⟨hE.trans h, Nat.le_trans hle h.le, ownsRow_ext hown1 h, fun p hp => (hsafe1 p hp).ext h⟩
        obtain ⟨x0, x1, x2, x3, x4, x5, x6, x7⟩ := hA.ext hE
        obtain ⟨y0, y1, y2, y3, y4, y5, y6, y7⟩ := hB.ext hE
        replace x0 := held x0
        replace x1 := held x1
        replace x2 := held x2
        replace x3 := held x3
        replace x4 := held x4
        replace x5 := held x5
        replace x6 := held x6
        replace x7 := held x7
        replace y0 := held y0
        replace y1 := held y1
        replace y2 := held y2
        replace y3 := held y3
        replace y4 := held y4
        replace y5 := held y5
        replace y6 := held y6
        replace y7 := held y7
        clear hE hle hown1 hsafe1
        refine rg_quiet rfl rfl rfl rfl ?_; intro K hK; go_big_quiet_op; go_big_quiet_on
        refine rg_quiet rfl rfl rfl rfl ?_; intro K hK; go_big_quiet_op; go_big_quiet_on
        refine rg_quiet rfl rfl rfl rfl ?_; intro K hK; go_big_quiet_op; go_big_quiet_on
        refine rg_quiet rfl rfl rfl rfl ?_; intro K hK; go_big_quiet_op; go_big_quiet_on
        refine rg_quiet rfl rfl rfl rfl ?_; intro K hK; go_big_quiet_op; go_big_quiet_on
        refine rg_quiet rfl rfl rfl rfl ?_; intro K hK; go_big_quiet_op; go_big_quiet_on
        refine rg_quiet rfl rfl rfl rfl ?_; intro K hK; go_big_quiet_op; go_big_quiet_on
        refine rg_val [] rfl rfl rfl (by kernel_rfl) (fun w1 hE hf => ?_) ?_
        · go_simp
          exact (pj1_any A B (.slice a1 A.cols.length cc1) (.slice a2 B.cols.length cc2) w1).mono fun e w' ⟨he, hw⟩ => ⟨_, he, rg_done hE hw (rfl)⟩
        simp only [Act.put, List.setIfInBounds_toArray, List.set_cons_zero, List.set_cons_succ]
        refine rg_quiet rfl rfl rfl rfl ?_; intro K hK; go_big_quiet_op; go_big_quiet_on
        refine rel_nil fun w2 hE2 _ => ?_
        obtain ⟨hE2', hle, hown2, hsafe2⟩ := FIN.out w2 hE2
        clear x0 x1 x2 x3 x4 x5 x6 x7 y0 y1 y2 y3 y4 y5 y6 y7 FIN hE2
        have hE2 := hE2'
        clear hE2'
        obtain ⟨kc, hkc⟩ : ∃ kc, kc = keyR A B := ⟨_, rfl⟩
        rw [← hkc]
        have HK := Lib.hid hkc
        clear hkc
        have hsz2 : wr.heap.size ≤ w2.heap.size := hle
        by_cases k1 : kc < 0
        · go_wp2_with fail
          refine wp_region_relE (MR w wr u9 out) (ME u9 5) (Tab.atE [(3, fun v _ => v = (.agg #[.string A.key, .string A.live.val, .bool A.live.dead, .int .i64 A.live.at_, .int .i64 A.live.fin, .int .i64 A.gone, .int .i64 A.shade, (.slice a1 A.cols.length cc1)])), (4, fun v x => ∃ b, v = .slice (some ⟨b, 0, none⟩) 1 1 ∧ wr.heap.size ≤ b ∧ BoxAt x b (ro8 A (.slice a1 A.cols.length cc1)) 26), (5, fun v x => x.ownsRow w.heap.size 26 8 v (out.length + 1) (roCells (out ++ [(A, (.slice a1 A.cols.length cc1))])))])
            (Tab.staysE ⟨fun _ _ _ _ _ _ h => h, fun j _ v x y hR ⟨b, e, hb, hx⟩ => ⟨b, e, hb, ME_box hown hR hb hx⟩, fun j hj v x y hR h => ownsRow_ext h (ME_off hj hR), trivial⟩)
            12 (by kernel_rfl) (by kernel_rfl) (by kernel_rfl) ((⟨hE2, hown2, hsz2, hsafe2⟩ : MR w wr u9 out w2).ext' (Ext.refl w2).drew) ?_
          refine relE_quiet rfl rfl rfl rfl ?_; intro K hK; go_big_quiet_op; (first | refine ⟨_, fun _ _ => rfl, hK _ ?_⟩ | refine hK _ ?_); clear hK K
          refine relE_quiet rfl rfl rfl rfl ?_; intro K hK; go_big_quiet_op; (first | refine ⟨_, fun _ _ => rfl, hK _ ?_⟩ | refine hK _ ?_); clear hK K
          refine relE_quiet rfl rfl rfl rfl ?_; intro K hK; go_big_quiet_op; (first | refine ⟨_, fun _ _ => rfl, hK _ ?_⟩ | refine hK _ ?_); clear hK K
          refine relE_val [] rfl rfl rfl (by kernel_rfl) (fun z hz hf => ?_) ?_
          · obtain ⟨x0, x1, x2, x3, x4, x5, x6, x7⟩ := hA.ext hz.ext
            go_simp
            exact ⟨hz, ME_ext (Ext.refl z), rfl⟩
          simp only [Act.put, List.setIfInBounds_toArray, List.set_cons_zero, List.set_cons_succ]
          refine relE_fact [] rfl rfl rfl (by kernel_rfl) (fun z hz hf => ?_) (fun v4 z4 hC4 hG4 h4 => ?_)
          · go_simp
            exact ⟨hz.ext' ((Ext.refl z).alloc _), ME_ext ((Ext.refl z).alloc _), _, rfl, hz.size, BoxAt.made z _ _⟩
          obtain ⟨b4, rfl, hb4, _⟩ := h4
          have HB4 := Lib.hid hb4
          clear hC4 hG4 hb4
          simp only [Act.put, List.setIfInBounds_toArray, List.set_cons_zero, List.set_cons_succ]
          refine relE_fact [4] rfl rfl rfl (by kernel_rfl) (fun z hz hf => ?_) (fun v5 z5 hC5 hG5 h5 => ?_)
          · obtain ⟨b, e, _, hbox⟩ := (hf 4 (by simp)).2 rfl
            cases e
            refine yields_append info_Row und_Rows rfl (by decide) (.tmp 51) (.tmp 55) rfl w.heap.size hz.ext.le u9 out.length (roCells out) hz.own (by rfl) b4 1 1 (ro8 A (.slice a1 A.cols.length cc1)).toList (by rfl) (by rfl) (fun j u hj => by rw [hbox.cell j]; simpa using hj) (by simp [ro8, Value.oneCell']) (by unfold maxLen; omega) (by omega) ?_
            intro v' y hown' hg hkeep
            refine ⟨⟨hz.ext.grown hg (fun q hq => (hz.own.lt q hq).1), hkeep, Nat.le_trans hz.size hg.size, fun p hp => (hz.safe p hp).grown hz.own hg⟩, by unfold ME; rw [if_pos rfl]; exact hg, ?_⟩
            rw [roCells_append]
            exact hown'
          obtain ⟨a5, c5, rfl⟩ := own_shape h5
          clear hC5 hG5 h5
          simp only [Act.put, List.setIfInBounds_toArray, List.set_cons_zero, List.set_cons_succ]
          refine relE_quiet rfl rfl rfl rfl ?_; intro K hK; go_big_quiet_op; (first | refine ⟨_, fun _ _ => rfl, hK _ ?_⟩ | refine hK _ ?_); clear hK K
          refine relE_quiet rfl rfl rfl rfl ?_; intro K hK; go_big_quiet_op; (first | refine ⟨_, fun _ _ => rfl, hK _ ?_⟩ | refine hK _ ?_); clear hK K
          refine relE_quiet rfl rfl rfl rfl ?_; intro K hK; go_big_quiet_op; (first | refine ⟨_, fun _ _ => rfl, hK _ ?_⟩ | refine hK _ ?_); clear hK K
          refine relE_quiet rfl rfl rfl rfl ?_; intro K hK; go_big_quiet_op; (first | refine ⟨_, fun _ _ => rfl, hK _ ?_⟩ | refine hK _ ?_); clear hK K
          refine relE_nil fun w9 hC hG => ?_
          have hown9 := (hG 5).2 rfl
          have hE9 := hC.ext
          have hs9 := hC.safe
          clear hC hG HB4 hown hE2 hown2 hsz2 hsafe2
          go_wp2_with fail
          go_roundw
          case rel =>
            refine ⟨l', m, out ++ [(A, (.slice a1 A.cols.length cc1))], hl', hm, by rw [List.length_append]; exact hown9, (fun p hp => by rcases List.mem_append.1 hp with h | h; exact hs9 p h; rw [List.mem_singleton.1 h]; exact .inl hcA), (fun p hp => hla p (by rw [HL.out]; exact List.mem_cons_of_mem _ hp)), hlb, hE9, ?_, by have := congrArg List.length HL.out; simp at this ⊢; omega⟩
            show mergeRo _ _ = _
            rw [HM.out, HL.out, HN.out, List.map_append, List.append_assoc]
            unfold mergeRo
            rw [List.map_cons, List.map_cons, mergeG_lt (by rw [← HK.out]; exact k1)]
            rfl
          case measure => simp [lenOf] <;> omega
        · by_cases k2 : 0 < kc
          · go_wp2_with fail
            refine wp_region_relE (MR w wr u9 out) (ME u9 5) (Tab.atE [(3, fun v _ => v = (.agg #[.string B.key, .string B.live.val, .bool B.live.dead, .int .i64 B.live.at_, .int .i64 B.live.fin, .int .i64 B.gone, .int .i64 B.shade, (.slice a2 B.cols.length cc2)])), (4, fun v x => ∃ b, v = .slice (some ⟨b, 0, none⟩) 1 1 ∧ wr.heap.size ≤ b ∧ BoxAt x b (ro8 B (.slice a2 B.cols.length cc2)) 26), (5, fun v x => x.ownsRow w.heap.size 26 8 v (out.length + 1) (roCells (out ++ [(B, (.slice a2 B.cols.length cc2))])))])
              (Tab.staysE ⟨fun _ _ _ _ _ _ h => h, fun j _ v x y hR ⟨b, e, hb, hx⟩ => ⟨b, e, hb, ME_box hown hR hb hx⟩, fun j hj v x y hR h => ownsRow_ext h (ME_off hj hR), trivial⟩)
              12 (by kernel_rfl) (by kernel_rfl) (by kernel_rfl) ((⟨hE2, hown2, hsz2, hsafe2⟩ : MR w wr u9 out w2).ext' (Ext.refl w2).drew) ?_
            refine relE_quiet rfl rfl rfl rfl ?_; intro K hK; go_big_quiet_op; (first | refine ⟨_, fun _ _ => rfl, hK _ ?_⟩ | refine hK _ ?_); clear hK K
            refine relE_quiet rfl rfl rfl rfl ?_; intro K hK; go_big_quiet_op; (first | refine ⟨_, fun _ _ => rfl, hK _ ?_⟩ | refine hK _ ?_); clear hK K
            refine relE_quiet rfl rfl rfl rfl ?_; intro K hK; go_big_quiet_op; (first | refine ⟨_, fun _ _ => rfl, hK _ ?_⟩ | refine hK _ ?_); clear hK K
            refine relE_val [] rfl rfl rfl (by kernel_rfl) (fun z hz hf => ?_) ?_
            · obtain ⟨x0, x1, x2, x3, x4, x5, x6, x7⟩ := hB.ext hz.ext
              go_simp
              exact ⟨hz, ME_ext (Ext.refl z), rfl⟩
            simp only [Act.put, List.setIfInBounds_toArray, List.set_cons_zero, List.set_cons_succ]
            refine relE_fact [] rfl rfl rfl (by kernel_rfl) (fun z hz hf => ?_) (fun v4 z4 hC4 hG4 h4 => ?_)
            · go_simp
              exact ⟨hz.ext' ((Ext.refl z).alloc _), ME_ext ((Ext.refl z).alloc _), _, rfl, hz.size, BoxAt.made z _ _⟩
            obtain ⟨b4, rfl, hb4, _⟩ := h4
            have HB4 := Lib.hid hb4
            clear hC4 hG4 hb4
            simp only [Act.put, List.setIfInBounds_toArray, List.set_cons_zero, List.set_cons_succ]
            refine relE_fact [4] rfl rfl rfl (by kernel_rfl) (fun z hz hf => ?_) (fun v5 z5 hC5 hG5 h5 => ?_)
            · obtain ⟨b, e, _, hbox⟩ := (hf 4 (by simp)).2 rfl
              cases e
              refine yields_append info_Row und_Rows rfl (by decide) (.tmp 62) (.tmp 66) rfl w.heap.size hz.ext.le u9 out.length (roCells out) hz.own (by rfl) b4 1 1 (ro8 B (.slice a2 B.cols.length cc2)).toList (by rfl) (by rfl) (fun j u hj => by rw [hbox.cell j]; simpa using hj) (by simp [ro8, Value.oneCell']) (by unfold maxLen; omega) (by omega) ?_
              intro v' y hown' hg hkeep
              refine ⟨⟨hz.ext.grown hg (fun q hq => (hz.own.lt q hq).1), hkeep, Nat.le_trans hz.size hg.size, fun p hp => (hz.safe p hp).grown hz.own hg⟩, by unfold ME; rw [if_pos rfl]; exact hg, ?_⟩
              rw [roCells_append]
              exact hown'
            obtain ⟨a5, c5, rfl⟩ := own_shape h5
            clear hC5 hG5 h5
            simp only [Act.put, List.setIfInBounds_toArray, List.set_cons_zero, List.set_cons_succ]
            refine relE_quiet rfl rfl rfl rfl ?_; intro K hK; go_big_quiet_op; (first | refine ⟨_, fun _ _ => rfl, hK _ ?_⟩ | refine hK _ ?_); clear hK K
            refine relE_quiet rfl rfl rfl rfl ?_; intro K hK; go_big_quiet_op; (first | refine ⟨_, fun _ _ => rfl, hK _ ?_⟩ | refine hK _ ?_); clear hK K
            refine relE_quiet rfl rfl rfl rfl ?_; intro K hK; go_big_quiet_op; (first | refine ⟨_, fun _ _ => rfl, hK _ ?_⟩ | refine hK _ ?_); clear hK K
            refine relE_quiet rfl rfl rfl rfl ?_; intro K hK; go_big_quiet_op; (first | refine ⟨_, fun _ _ => rfl, hK _ ?_⟩ | refine hK _ ?_); clear hK K
            refine relE_nil fun w9 hC hG => ?_
            have hown9 := (hG 5).2 rfl
            have hE9 := hC.ext
            have hs9 := hC.safe
            clear hC hG HB4 hown hE2 hown2 hsz2 hsafe2
            go_wp2_with fail
            go_roundw
            case rel =>
              refine ⟨l, m', out ++ [(B, (.slice a2 B.cols.length cc2))], hl, hm', by rw [List.length_append]; exact hown9, (fun p hp => by rcases List.mem_append.1 hp with h | h; exact hs9 p h; rw [List.mem_singleton.1 h]; exact .inl hcB), hla, (fun p hp => hlb p (by rw [HN.out]; exact List.mem_cons_of_mem _ hp)), hE9, ?_, by have := congrArg List.length HN.out; simp at this ⊢; omega⟩
              show mergeRo _ _ = _
              rw [HM.out, HL.out, HN.out, List.map_append, List.append_assoc]
              unfold mergeRo
              rw [List.map_cons, List.map_cons, mergeG_gt (by rw [← HK.out]; exact k2)]
              rfl
            case measure => simp [lenOf] <;> omega
          · have hAB : A.cols.length + B.cols.length ≤ 1000000 := hcl _ (hla _ (by rw [HL.out]; exact List.mem_cons_self ..)) _ (hlb _ (by rw [HN.out]; exact List.mem_cons_self ..))
            obtain ⟨J, hJ⟩ : ∃ J, J = joinRo A B := ⟨_, rfl⟩
            have HJ := Lib.hid hJ
            clear hJ
            go_wp2_with fail
            refine wp_region_relE (MR w wr u9 out) (ME u9 10) (Tab.atE [(4, fun v _ => v = (.agg #[.string A.key, .string A.live.val, .bool A.live.dead, .int .i64 A.live.at_, .int .i64 A.live.fin, .int .i64 A.gone, .int .i64 A.shade, (.slice a1 A.cols.length cc1)])), (7, fun v _ => v = (.agg #[.string B.key, .string B.live.val, .bool B.live.dead, .int .i64 B.live.at_, .int .i64 B.live.fin, .int .i64 B.gone, .int .i64 B.shade, (.slice a2 B.cols.length cc2)])), (8, fun v x => ∃ u, v = (.agg #[.string J.key, .string J.live.val, .bool J.live.dead, .int .i64 J.live.at_, .int .i64 J.live.fin, .int .i64 J.gone, .int .i64 J.shade, u]) ∧ x.ownsRow wr.heap.size 80 5 u J.cols.length (coCells J.cols)), (9, fun v x => ∃ b u, v = .slice (some ⟨b, 0, none⟩) 1 1 ∧ wr.heap.size ≤ b ∧ BoxAt x b (ro8 J u) 26 ∧ x.ownsRow wr.heap.size 80 5 u J.cols.length (coCells J.cols)), (10, fun v x => ∃ u, x.ownsRow w.heap.size 26 8 v (out.length + 1) (roCells (out ++ [(J, u)])) ∧ x.ownsRow wr.heap.size 80 5 u J.cols.length (coCells J.cols))])
              (Tab.staysE ⟨fun _ _ _ _ _ _ h => h, fun _ _ _ _ _ _ h => h, fun j _ v x y hR ⟨u, e, h⟩ => ⟨u, e, ME_own hown hR h⟩, fun j _ v x y hR ⟨b, u, e, hb, hx, h⟩ => ⟨b, u, e, hb, ME_box hown hR hb hx, ME_own hown hR h⟩, fun j hj v x y hR ⟨u, h, h'⟩ => ⟨u, ownsRow_ext h (ME_off hj hR), ownsRow_ext h' (ME_off hj hR)⟩, trivial⟩)
              20 (by kernel_rfl) (by kernel_rfl) (by kernel_rfl) ((⟨hE2, hown2, hsz2, hsafe2⟩ : MR w wr u9 out w2).ext' (Ext.refl w2).drew) ?_
            refine relE_quiet rfl rfl rfl rfl ?_; intro K hK; go_big_quiet_op; (first | refine ⟨_, fun _ _ => rfl, hK _ ?_⟩ | refine hK _ ?_); clear hK K
            refine relE_quiet rfl rfl rfl rfl ?_; intro K hK; go_big_quiet_op; (first | refine ⟨_, fun _ _ => rfl, hK _ ?_⟩ | refine hK _ ?_); clear hK K
            refine relE_quiet rfl rfl rfl rfl ?_; intro K hK; go_big_quiet_op; (first | refine ⟨_, fun _ _ => rfl, hK _ ?_⟩ | refine hK _ ?_); clear hK K
            refine relE_quiet rfl rfl rfl rfl ?_; intro K hK; go_big_quiet_op; (first | refine ⟨_, fun _ _ => rfl, hK _ ?_⟩ | refine hK _ ?_); clear hK K
            refine relE_val [] rfl rfl rfl (by kernel_rfl) (fun z hz hf => ?_) ?_
            · obtain ⟨x0, x1, x2, x3, x4, x5, x6, x7⟩ := hA.ext hz.ext
              go_simp
              exact ⟨hz, ME_ext (Ext.refl z), rfl⟩
            simp only [Act.put, List.setIfInBounds_toArray, List.set_cons_zero, List.set_cons_succ]
            refine relE_quiet rfl rfl rfl rfl ?_; intro K hK; go_big_quiet_op; (first | refine ⟨_, fun _ _ => rfl, hK _ ?_⟩ | refine hK _ ?_); clear hK K
            refine relE_quiet rfl rfl rfl rfl ?_; intro K hK; go_big_quiet_op; (first | refine ⟨_, fun _ _ => rfl, hK _ ?_⟩ | refine hK _ ?_); clear hK K
            refine relE_val [] rfl rfl rfl (by kernel_rfl) (fun z hz hf => ?_) ?_
            · obtain ⟨x0, x1, x2, x3, x4, x5, x6, x7⟩ := hB.ext hz.ext
              go_simp
              exact ⟨hz, ME_ext (Ext.refl z), rfl⟩
            simp only [Act.put, List.setIfInBounds_toArray, List.set_cons_zero, List.set_cons_succ]
            refine relE_fact [] rfl rfl rfl (by kernel_rfl) (fun z hz hf => ?_) (fun v8 z8 hC8 hG8 h8 => ?_)
            · go_simp
              refine (rowJoin_any A B _ _ z (hcA.ext hz.ext) (hcB.ext hz.ext) hAB).mono ?_
              rintro e y ⟨v', he, hown', hy⟩
              rw [← HJ.out] at he hown'
              exact ⟨_, he, hz.ext' hy, ME_ext hy, v', rfl, ownsRow_base hown' hz.size⟩
            obtain ⟨u8, rfl, h8'⟩ := h8
            obtain ⟨a8, cc8, rfl⟩ := own_shape h8'
            clear hC8 hG8 h8'
            simp only [Act.put, List.setIfInBounds_toArray, List.set_cons_zero, List.set_cons_succ]
            refine relE_fact [8] rfl rfl rfl (by kernel_rfl) (fun z hz hf => ?_) (fun v4 z4 hC4 hG4 h4 => ?_)
            · obtain ⟨u, e, hu⟩ := (hf 8 (by simp)).2 rfl
              cases e
              go_simp
              exact ⟨hz.ext' ((Ext.refl z).alloc _), ME_ext ((Ext.refl z).alloc _), _, rfl, hz.size, _, BoxAt.made z _ _, ownsRow_ext hu ((Ext.refl z).alloc _)⟩
            obtain ⟨b4, u4, rfl, hb4, _, _⟩ := h4
            have HB4 := Lib.hid hb4
            clear hC4 hG4 hb4
            simp only [Act.put, List.setIfInBounds_toArray, List.set_cons_zero, List.set_cons_succ]
            refine relE_fact [9] rfl rfl rfl (by kernel_rfl) (fun z hz hf => ?_) (fun v5 z5 hC5 hG5 h5 => ?_)
            · obtain ⟨b, u, e, _, hbox, hu⟩ := (hf 9 (by simp)).2 rfl
              cases e
              obtain ⟨au, cu, rfl⟩ := own_shape hu
              refine yields_append info_Row und_Rows rfl (by decide) (.tmp 33) (.tmp 42) rfl w.heap.size hz.ext.le u9 out.length (roCells out) hz.own (by rfl) b4 1 1 (ro8 J (.slice au J.cols.length cu)).toList (by rfl) (by rfl) (fun j u hj => by rw [hbox.cell j]; simpa using hj) (by simp [ro8, Value.oneCell']) (by unfold maxLen; omega) (by omega) ?_
              intro v' y hown' hg hkeep
              refine ⟨⟨hz.ext.grown hg (fun q hq => (hz.own.lt q hq).1), hkeep, Nat.le_trans hz.size hg.size, fun p hp => (hz.safe p hp).grown hz.own hg⟩, by unfold ME; rw [if_pos rfl]; exact hg, _, ?_, hu.kept hg (own_ne_own hu hz.own (by decide))⟩
              rw [roCells_append]
              exact hown'
            obtain ⟨u5, h5, _⟩ := h5
            obtain ⟨a5, c5, rfl⟩ := own_shape h5
            clear hC5 hG5 h5
            simp only [Act.put, List.setIfInBounds_toArray, List.set_cons_zero, List.set_cons_succ]
            refine relE_quiet rfl rfl rfl rfl ?_; intro K hK; go_big_quiet_op; (first | refine ⟨_, fun _ _ => rfl, hK _ ?_⟩ | refine hK _ ?_); clear hK K
            refine relE_quiet rfl rfl rfl rfl ?_; intro K hK; go_big_quiet_op; (first | refine ⟨_, fun _ _ => rfl, hK _ ?_⟩ | refine hK _ ?_); clear hK K
            refine relE_quiet rfl rfl rfl rfl ?_; intro K hK; go_big_quiet_op; (first | refine ⟨_, fun _ _ => rfl, hK _ ?_⟩ | refine hK _ ?_); clear hK K
            refine relE_quiet rfl rfl rfl rfl ?_; intro K hK; go_big_quiet_op; (first | refine ⟨_, fun _ _ => rfl, hK _ ?_⟩ | refine hK _ ?_); clear hK K
            refine relE_quiet rfl rfl rfl rfl ?_; intro K hK; go_big_quiet_op; (first | refine ⟨_, fun _ _ => rfl, hK _ ?_⟩ | refine hK _ ?_); clear hK K
            refine relE_quiet rfl rfl rfl rfl ?_; intro K hK; go_big_quiet_op; (first | refine ⟨_, fun _ _ => rfl, hK _ ?_⟩ | refine hK _ ?_); clear hK K
            refine relE_quiet rfl rfl rfl rfl ?_; intro K hK; go_big_quiet_op; (first | refine ⟨_, fun _ _ => rfl, hK _ ?_⟩ | refine hK _ ?_); clear hK K
            refine relE_nil fun w9 hC hG => ?_
            obtain ⟨u9', hown9, hu9'⟩ := (hG 10).2 rfl
            have hu9 := ownsRow_base hu9' HWR.out
            have hE9 := hC.ext
            have hs9 := hC.safe
            clear hC hG HB4 hown hE2 hown2 hsz2 hsafe2
            go_wp2_with fail
            go_roundw
            case rel =>
              refine ⟨l', m', out ++ [(J, u9')], hl', hm', by rw [List.length_append]; exact hown9, (fun p hp => by rcases List.mem_append.1 hp with h | h; exact hs9 p h; rw [List.mem_singleton.1 h]; exact .inr hu9), (fun p hp => hla p (by rw [HL.out]; exact List.mem_cons_of_mem _ hp)), (fun p hp => hlb p (by rw [HN.out]; exact List.mem_cons_of_mem _ hp)), hE9, ?_, by have := congrArg List.length HL.out; have := congrArg List.length HN.out; simp at *; omega⟩
              show mergeRo _ _ = _
              rw [HM.out, HL.out, HN.out, List.map_append, List.append_assoc, HJ.out]
              unfold mergeRo
              rw [List.map_cons, List.map_cons, mergeG_eq (by rw [← HK.out]; omega)]
              rfl
            case measure => simp [lenOf] <;> omega
      · obtain ⟨b1, o1, c1, A, a1, cc1, l', hll, rfl, hc1, hcm1, hA, hcA, hl'⟩ := hl.uncons h1
        obtain ⟨am, cm, rfl, hcm, hcmm, hgm⟩ := hm.get
        have h1' : decide ((0 : Int) < (l.length : Int)) = true := decide_eq_true (by omega)
        have h2' : decide ((0 : Int) < (m.length : Int)) = false := decide_eq_false (by omega)
        clear hgm hA hcA hl' hll
        have hM : mergeRo (la.map (·.1)) (lb.map (·.1)) = (out ++ l ++ m).map (·.1) := by
          rw [HM.out]
          have : m = [] := List.eq_nil_of_length_eq_zero (by omega)
          rw [this, List.append_nil, List.map_append]
          unfold mergeRo
          simp only [List.map_nil]
          rw [mergeG_nil_right]
        obtain ⟨N, hN⟩ : ∃ N, N = out ++ l ++ m := ⟨_, rfl⟩
        rw [← hN] at hM
        have HN := Lib.hid hN
        have HMM := Lib.hid hM
        clear hN hM
        by_cases hz : N.length = 0
        · have hz' : ((N.length : Int) == 0) = true := by simp [hz]
          go_wp2_with (first
            | (at_builtin; refine appRows wr rfl (.tmp 70) (.tmp 71) rfl w.heap.size hE.le _ out hown (by rfl) _ l (hl.ext hE) (by rfl) (by omega) ?_; intro v3 w3 hown3 hg3; have hs3 : ∀ p ∈ out, SafeC w w3 p := (fun p hp => (hsafe p hp).grown hown hg3); have hE3 := hE.grown hg3 (fun q hq => (hown.lt q hq).1))
            | (at_builtin; refine appRows w3 rfl (.tmp 72) (.tmp 73) rfl w.heap.size hE3.le v3 (out ++ l) hown3 (by rfl) _ m (hm.ext hE3) (by rfl) (by simp; omega) ?_; intro v4 w4 hown4 hg4; have hs4 : ∀ p ∈ out ++ l ++ m, SafeC w w4 p := (fun p hp => by rcases List.mem_append.1 hp with h | h; rcases List.mem_append.1 h with h | h; exact (hs3 p h).grown hown3 hg4; exact .inl (hl.cols p h); exact .inl (hm.cols p h)); have hE4 := hE3.grown hg4 (fun q hq => (hown3.lt q hq).1); rw [← HN.out] at hown4 hs4; clear hg3 hg4 hown3 hE3; obtain ⟨a4, c4, rfl⟩ := own_shape hown4))
          go_ret
          rw [HMM.out]
          obtain rfl : N = [] := List.eq_nil_of_length_eq_zero hz
          exact ⟨_, rfl, [], World.ownsRow_nil _ _ _ _, nofun, rfl, hE4⟩
        · have hz' : ((N.length : Int) == 0) = false := by simp; intro h; exact hz (by simp [h])
          go_wp2_with (first
            | (at_builtin; refine appRows wr rfl (.tmp 70) (.tmp 71) rfl w.heap.size hE.le _ out hown (by rfl) _ l (hl.ext hE) (by rfl) (by omega) ?_; intro v3 w3 hown3 hg3; have hs3 : ∀ p ∈ out, SafeC w w3 p := (fun p hp => (hsafe p hp).grown hown hg3); have hE3 := hE.grown hg3 (fun q hq => (hown.lt q hq).1))
            | (at_builtin; refine appRows w3 rfl (.tmp 72) (.tmp 73) rfl w.heap.size hE3.le v3 (out ++ l) hown3 (by rfl) _ m (hm.ext hE3) (by rfl) (by simp; omega) ?_; intro v4 w4 hown4 hg4; have hs4 : ∀ p ∈ out ++ l ++ m, SafeC w w4 p := (fun p hp => by rcases List.mem_append.1 hp with h | h; rcases List.mem_append.1 h with h | h; exact (hs3 p h).grown hown3 hg4; exact .inl (hl.cols p h); exact .inl (hm.cols p h)); have hE4 := hE3.grown hg4 (fun q hq => (hown3.lt q hq).1); rw [← HN.out] at hown4 hs4; clear hg3 hg4 hown3 hE3; obtain ⟨a4, c4, rfl⟩ := own_shape hown4))
          go_ret
          rw [HMM.out]
          exact ⟨_, rfl, N, hown4, fun p v hp => hs4 (p, v) hp, rfl, hE4⟩
    · obtain ⟨al, cl, rfl, hcl, hcml, hgl⟩ := hl.get
      obtain ⟨am, cm, rfl, hcm, hcmm, hgm⟩ := hm.get
      have h1' : decide ((0 : Int) < (l.length : Int)) = false := decide_eq_false (by omega)
      clear hgm hgl
      have hM : mergeRo (la.map (·.1)) (lb.map (·.1)) = (out ++ l ++ m).map (·.1) := by
        rw [HM.out]
        have : l = [] := List.eq_nil_of_length_eq_zero (by omega)
        rw [this, List.append_nil, List.map_append]
        unfold mergeRo
        simp only [List.map_nil]
        rw [mergeG_nil_left]
      obtain ⟨N, hN⟩ : ∃ N, N = out ++ l ++ m := ⟨_, rfl⟩
      rw [← hN] at hM
      have HN := Lib.hid hN
      have HMM := Lib.hid hM
      clear hN hM
      by_cases hz : N.length = 0
      · have hz' : ((N.length : Int) == 0) = true := by simp [hz]
        go_wp2_with (first
          | (at_builtin; refine appRows wr rfl (.tmp 70) (.tmp 71) rfl w.heap.size hE.le _ out hown (by rfl) _ l (hl.ext hE) (by rfl) (by omega) ?_; intro v3 w3 hown3 hg3; have hs3 : ∀ p ∈ out, SafeC w w3 p := (fun p hp => (hsafe p hp).grown hown hg3); have hE3 := hE.grown hg3 (fun q hq => (hown.lt q hq).1))
          | (at_builtin; refine appRows w3 rfl (.tmp 72) (.tmp 73) rfl w.heap.size hE3.le v3 (out ++ l) hown3 (by rfl) _ m (hm.ext hE3) (by rfl) (by simp; omega) ?_; intro v4 w4 hown4 hg4; have hs4 : ∀ p ∈ out ++ l ++ m, SafeC w w4 p := (fun p hp => by rcases List.mem_append.1 hp with h | h; rcases List.mem_append.1 h with h | h; exact (hs3 p h).grown hown3 hg4; exact .inl (hl.cols p h); exact .inl (hm.cols p h)); have hE4 := hE3.grown hg4 (fun q hq => (hown3.lt q hq).1); rw [← HN.out] at hown4 hs4; clear hg3 hg4 hown3 hE3; obtain ⟨a4, c4, rfl⟩ := own_shape hown4))
        go_ret
        rw [HMM.out]
        obtain rfl : N = [] := List.eq_nil_of_length_eq_zero hz
        exact ⟨_, rfl, [], World.ownsRow_nil _ _ _ _, nofun, rfl, hE4⟩
      · have hz' : ((N.length : Int) == 0) = false := by simp; intro h; exact hz (by simp [h])
        go_wp2_with (first
          | (at_builtin; refine appRows wr rfl (.tmp 70) (.tmp 71) rfl w.heap.size hE.le _ out hown (by rfl) _ l (hl.ext hE) (by rfl) (by omega) ?_; intro v3 w3 hown3 hg3; have hs3 : ∀ p ∈ out, SafeC w w3 p := (fun p hp => (hsafe p hp).grown hown hg3); have hE3 := hE.grown hg3 (fun q hq => (hown.lt q hq).1))
          | (at_builtin; refine appRows w3 rfl (.tmp 72) (.tmp 73) rfl w.heap.size hE3.le v3 (out ++ l) hown3 (by rfl) _ m (hm.ext hE3) (by rfl) (by simp; omega) ?_; intro v4 w4 hown4 hg4; have hs4 : ∀ p ∈ out ++ l ++ m, SafeC w w4 p := (fun p hp => by rcases List.mem_append.1 hp with h | h; rcases List.mem_append.1 h with h | h; exact (hs3 p h).grown hown3 hg4; exact .inl (hl.cols p h); exact .inl (hm.cols p h)); have hE4 := hE3.grown hg4 (fun q hq => (hown3.lt q hq).1); rw [← HN.out] at hown4 hs4; clear hg3 hg4 hown3 hE3; obtain ⟨a4, c4, rfl⟩ := own_shape hown4))
        go_ret
        rw [HMM.out]
        exact ⟨_, rfl, N, hown4, fun p v hp => hs4 (p, v) hp, rfl, hE4⟩
end Go.Proofs.YteamiiekpjoclaaDoor

/- Joins of rows and of partitions are one way: plain laws of rising rows; the least that is above some. -/
namespace Go.Proofs.YteamiiekpjoclaaDoor
open Go Go.RowKit

def kRo (r : Ro) : List UInt8 := r.key.data.toList
theorem kRo_join (a b : Ro) : kRo (joinRo a b) = kRo a := rfl
theorem mergeRo_K (l m : List Ro) : mergeRo l m = mergeK kRo joinRo l m := rfl
theorem key_of_k {a b : Ro} (h : kRo a = kRo b) : a.key = b.key := by
  apply ByteArray.ext
  exact Array.toList_inj.1 h
theorem joinRo_comm {a b : Ro} (h : a.key = b.key) (ha : Up kCo a.cols) (hb : Up kCo b.cols) : joinRo a b = joinRo b a := by
  unfold joinRo
  rw [h, joinCl_comm a.live, mergeCo_comm ha hb, Int.max_comm a.gone, Int.max_comm a.shade]
theorem joinRo_assoc {a b c : Ro} (ha : Up kCo a.cols) (hb : Up kCo b.cols) (hc : Up kCo c.cols) : joinRo (joinRo a b) c = joinRo a (joinRo b c) := by
  unfold joinRo
  simp only [joinCl_assoc, mergeCo_assoc ha hb hc, Int.max_assoc]
theorem joinRo_self {a : Ro} (ha : Up kCo a.cols) : joinRo a a = a := by
  unfold joinRo
  rw [joinCl_self, mergeCo_self ha, Int.max_self, Int.max_self]
theorem joinRo_again {a b : Ro} (ha : Up kCo a.cols) (hb : Up kCo b.cols) : joinRo (joinRo a b) b = joinRo a b := by rw [joinRo_assoc ha hb hb, joinRo_self hb]
/-- Rising rows of rising columns. -/
def GoodRs (l : List Ro) : Prop := Up kRo l ∧ ∀ r ∈ l, Up kCo r.cols
theorem mem_mergeRs {l m : List Ro} {x : Ro} (h : x ∈ mergeRo l m) : (x ∈ l ∨ x ∈ m) ∨ ∃ a ∈ l, ∃ b ∈ m, a.key = b.key ∧ x = joinRo a b := by
  unfold mergeRo at h
  fun_induction mergeG keyR joinRo l m with
  | case1 m => exact .inl (.inr h)
  | case2 a l => exact .inl (.inl h)
  | case3 a l b m hc ih =>
    rcases List.mem_cons.1 h with rfl | h
    · exact .inl (.inl (List.mem_cons_self ..))
    · rcases ih h with (h | h) | ⟨y, hy, z, hz, e⟩
      · exact .inl (.inl (List.mem_cons_of_mem _ h))
      · exact .inl (.inr h)
      · exact .inr ⟨y, List.mem_cons_of_mem _ hy, z, hz, e⟩
  | case4 a l b m hc hc' ih =>
    rcases List.mem_cons.1 h with rfl | h
    · exact .inl (.inr (List.mem_cons_self ..))
    · rcases ih h with (h | h) | ⟨y, hy, z, hz, e⟩
      · exact .inl (.inl h)
      · exact .inl (.inr (List.mem_cons_of_mem _ h))
      · exact .inr ⟨y, hy, z, List.mem_cons_of_mem _ hz, e⟩
  | case5 a l b m hc hc' ih =>
    rcases List.mem_cons.1 h with rfl | h
    · exact .inr ⟨a, List.mem_cons_self .., b, List.mem_cons_self .., key_of_k (cmpB_zero (show cmpB (kRo a) (kRo b) = 0 by have h1 : keyR a b = cmpB (kRo a) (kRo b) := rfl; omega)), rfl⟩
    · rcases ih h with (h | h) | ⟨y, hy, z, hz, e⟩
      · exact .inl (.inl (List.mem_cons_of_mem _ h))
      · exact .inl (.inr (List.mem_cons_of_mem _ h))
      · exact .inr ⟨y, List.mem_cons_of_mem _ hy, z, List.mem_cons_of_mem _ hz, e⟩
theorem GoodRs.merge {l m : List Ro} (hl : GoodRs l) (hm : GoodRs m) : GoodRs (mergeRo l m) := by
  refine ⟨hl.1.merge kRo_join hm.1, fun r hr => ?_⟩
  rcases mem_mergeRs hr with (h | h) | ⟨a, ha, b, hb, _, rfl⟩
  · exact hl.2 r h
  · exact hm.2 r h
  · exact mergeCo_up (hl.2 a ha) (hm.2 b hb)
theorem GoodRs.nil : GoodRs [] := ⟨List.Pairwise.nil, nofun⟩
theorem mergeRo_comm {l m : List Ro} (hl : GoodRs l) (hm : GoodRs m) : mergeRo l m = mergeRo m l := mergeK_comm kRo_join hl.1 hm.1 fun a ha b hb h => joinRo_comm (key_of_k h) (hl.2 a ha) (hm.2 b hb)
theorem mergeRo_assoc {l m n : List Ro} (hl : GoodRs l) (hm : GoodRs m) (hn : GoodRs n) : mergeRo (mergeRo l m) n = mergeRo l (mergeRo m n) := mergeK_assoc kRo_join hl.1 hm.1 hn.1 fun a ha b hb c hc _ _ => joinRo_assoc (hl.2 a ha) (hm.2 b hb) (hn.2 c hc)
theorem mergeRo_self {l : List Ro} (hl : GoodRs l) : mergeRo l l = l := mergeK_self kRo_join hl.1 fun a ha => joinRo_self (hl.2 a ha)

/-! ### Partitions: what is gone, and the rows -/
abbrev Dp := Int × List Ro
def joinD (p q : Dp) : Dp := (max p.1 q.1, mergeRo p.2 q.2)
def GoodD (p : Dp) : Prop := GoodRs p.2
theorem GoodD.join {p q : Dp} (hp : GoodD p) (hq : GoodD q) : GoodD (joinD p q) := GoodRs.merge hp hq
theorem joinD_comm {p q : Dp} (hp : GoodD p) (hq : GoodD q) : joinD p q = joinD q p := by unfold joinD; rw [mergeRo_comm hp hq, Int.max_comm]
theorem joinD_assoc {p q r : Dp} (hp : GoodD p) (hq : GoodD q) (hr : GoodD r) : joinD (joinD p q) r = joinD p (joinD q r) := by unfold joinD; simp only [mergeRo_assoc hp hq hr, Int.max_assoc]
theorem joinD_self {p : Dp} (hp : GoodD p) : joinD p p = p := by unfold joinD; rw [mergeRo_self hp, Int.max_self]
/-- x is the least above some. -/
structure Lub (S : Dp → Prop) (x : Dp) : Prop where
  good : GoodD x
  each : ∀ s, S s → GoodD s
  above : ∀ s, S s → joinD x s = x
  least : ∀ y, GoodD y → (∀ s, S s → joinD y s = y) → joinD y x = y
theorem Lub.one {s : Dp} (h : GoodD s) : Lub (· = s) s := ⟨h, fun t e => by rw [e]; exact h, fun t e => by rw [e]; exact joinD_self h, fun y _ hs => hs s rfl⟩
theorem Lub.join {S : Dp → Prop} {x s : Dp} (h : Lub S x) (hs : GoodD s) : Lub (fun t => S t ∨ t = s) (joinD x s) := by
  refine ⟨h.good.join hs, fun t ht => ?_, fun t ht => ?_, fun y hy ht => ?_⟩
  · rcases ht with ht | rfl
    · exact h.each t ht
    · exact hs
  · rcases ht with ht | rfl
    · rw [joinD_assoc h.good hs (h.each t ht), joinD_comm hs (h.each t ht), ← joinD_assoc h.good (h.each t ht) hs, h.above t ht]
    · rw [joinD_assoc h.good hs hs, joinD_self hs]
  · rw [← joinD_assoc hy h.good hs, h.least y hy (fun t h => ht t (.inl h)), ht s (.inr rfl)]
theorem Lub.congr {S T : Dp → Prop} {x : Dp} (h : Lub S x) (e : ∀ s, S s ↔ T s) : Lub T x := by
  have : S = T := funext fun s => propext (e s)
  exact this ▸ h
theorem Lub.unique {S : Dp → Prop} {x y : Dp} (hx : Lub S x) (hy : Lub S y) : x = y := by
  have h1 := hx.least y hy.good hy.above
  have h2 := hy.least x hx.good hx.above
  rw [← h2, joinD_comm hx.good hy.good, h1]
end Go.Proofs.YteamiiekpjoclaaDoor

/- The reference's joins are the merges, of rows whose names and keys rise. -/
namespace Go.Proofs.YteamiiekpjoclaaDoor
open Go Go.RowKit

theorem mergeG_congr {α : Type} {cmp : α → α → Int} {j j' : α → α → α} {l m : List α} (h : ∀ a ∈ l, ∀ b ∈ m, j a b = j' a b) : mergeG cmp j l m = mergeG cmp j' l m := by
  fun_induction mergeG cmp j l m with
  | case1 m => rw [mergeG_nil_left]
  | case2 a l => rw [mergeG_nil_right]
  | case3 a l b m hc ih => rw [mergeG_lt hc, ih fun x hx y hy => h x (List.mem_cons_of_mem _ hx) y hy]
  | case4 a l b m hc hd ih => rw [mergeG_gt hd, ih fun x hx y hy => h x hx y (List.mem_cons_of_mem _ hy)]
  | case5 a l b m hc hd ih =>
    rw [mergeG_eq (by omega), ih fun x hx y hy => h x (List.mem_cons_of_mem _ hx) y (List.mem_cons_of_mem _ hy), h a (List.mem_cons_self ..) b (List.mem_cons_self ..)]
theorem foldRo_join {a b : Ro} (ha : Up kCo a.cols) (hb : Up kCo b.cols) : foldRo a b = joinRo a b := by
  unfold foldRo joinRo
  rw [show foldG keyC joinCo a.cols b.cols = mergeCo a.cols b.cols from foldK (κ := kCo) (fun _ => True) kCo_join (fun _ _ _ _ => trivial) (fun a b c _ _ _ _ _ => joinCo_assoc a b c) ha hb (fun _ _ => trivial) (fun _ _ => trivial)]
theorem up_joinRo {a b : Ro} (ha : Up kCo a.cols) (hb : Up kCo b.cols) : Up kCo (joinRo a b).cols := mergeCo_up ha hb
theorem fold_step : ∀ {m l : List Ro}, (∀ r ∈ l, Up kCo r.cols) → (∀ r ∈ m, Up kCo r.cols) → foldG keyR foldRo l m = foldG keyR joinRo l m
  | [], _, _, _ => rfl
  | c :: m, l, hl, hm => by
    have hc := hm c (List.mem_cons_self ..)
    have e : mergeG keyR foldRo l [c] = mergeG keyR joinRo l [c] := mergeG_congr fun a ha b hb => foldRo_join (hl a ha) (by rw [List.mem_singleton.1 hb]; exact hc)
    show foldG keyR foldRo (mergeG keyR foldRo l [c]) m = foldG keyR joinRo (mergeG keyR joinRo l [c]) m
    rw [e]
    refine fold_step (fun r hr => ?_) (fun r hr => hm r (List.mem_cons_of_mem _ hr))
    rcases mem_mergeI hr with h | h | ⟨a, ha, b, hb, _, rfl⟩
    · exact hl r h
    · rw [List.mem_singleton.1 h]; exact hc
    · rw [List.mem_singleton.1 hb]; exact up_joinRo (hl a ha) hc
theorem fold_merge {l m : List Ro} (hl : GoodRs l) (hm : GoodRs m) : foldG keyR foldRo l m = mergeRo l m := by
  rw [fold_step hl.2 hm.2]
  exact foldK (κ := kRo) (fun r => Up kCo r.cols) kRo_join (fun _ _ ha hb => up_joinRo ha hb) (fun a b c ha hb hc _ _ => joinRo_assoc ha hb hc) hl.1 hm.1 hl.2 hm.2
end Go.Proofs.YteamiiekpjoclaaDoor
