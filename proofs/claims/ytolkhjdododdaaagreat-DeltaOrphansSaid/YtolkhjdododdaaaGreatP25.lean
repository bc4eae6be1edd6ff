/- row.Merge over rows. -/
import Derived.Test.YtolkhjdododdaaaGreatP17
import Derived.Test.YtolkhjdododdaaaGreatP21
import Derived.Test.YtolkhjdododdaaaGreatP24
import Derived.Test.YtolkhjdododdaaaGreatP8
import Derived.Test.YtolkhjdododdaaaGreatP2
import Derived.Laws.CopyOwn
import Derived.Laws.MakeOwn
import Derived.OwnWalk
import Derived.Test.YtolkhjdododdaaaGreatP3
set_option linter.unusedSimpArgs false
set_option linter.unusedVariables false
namespace Go.Proofs.YtolkhjdododdaaaGreat
open Go Go.RowKit
attribute [local go_sem] yields yUpon ro8
set_option maxHeartbeats 1000000 in
theorem pj1_any (a b : Ro) (va vb : Value) (w : World) : Calls Tryz.prog 56 #[(.agg #[.string a.key, .string a.live.val, .bool a.live.dead, .int .i64 a.live.at_, .int .i64 a.live.fin, .int .i64 a.gone, .int .i64 a.shade, va]), (.agg #[.string b.key, .string b.live.val, .bool b.live.dead, .int .i64 b.live.at_, .int .i64 b.live.fin, .int .i64 b.gone, .int .i64 b.shade, vb])] w fun e w' => e = .returned (.int .i64 (keyR a b)) ∧ Ext w w' := by
  go_enter Tryz.func56, Tryz.ntmps56
  go_wp2_with fail
  refine (strCompare_any _ _ _).mono ?_
  rintro e w1 ⟨rfl, rfl⟩
  go_wp2_with fail
  go_ret
  exact ⟨rfl, ((Ext.refl w).alloc _).alloc _⟩

set_option maxRecDepth 100000 in
set_option maxHeartbeats 4000000 in
theorem mergeRo_any (va vb : Value) (la lb : List (Ro × Value)) (w : World) (ha : RowsIn w va la) (hb : RowsIn w vb lb) (hlen : la.length + lb.length ≤ 1000000) (hcl : ∀ p ∈ la, ∀ q ∈ lb, p.1.cols.length + q.1.cols.length ≤ 1000000) :
    Calls Tryz.prog 55 #[va, vb, .func (.func 56) #[] #[], .func (.func 29) #[] #[]] w fun e w' => ∃ v', e = .returned v' ∧ ∃ ps, w'.ownsRow w.heap.size 54 8 v' ps.length (roCells ps) ∧ (∀ p ∈ ps, SafeC w w' p) ∧ ps.map (·.1) = mergeRo (la.map (·.1)) (lb.map (·.1)) ∧ Ext w w' := by
  obtain ⟨i0, hi, hz0, hz1, hz2⟩ := info_parts info_Row
  obtain ⟨aa, ca, rfl, hca, hcma, _⟩ := ha.get
  obtain ⟨ab, cb, rfl, hcb, hcmb, _⟩ := hb.get
  go_enter Tryz.func55, Tryz.ntmps55
  go_wp2_with (at_make; go_must (refine wpList_make_own _ rfl _ _ 37 rfl w.heap.size 54 i0 _ 8 und_Rows hi hz0 hz1 _ _ _ (la.length + lb.length) rfl rfl (by omega) ?b2 ?b3 (Nat.le_refl _) ?_))
  case b2 => rw [hz2]; omega
  case b3 => unfold maxLen; omega
  intro w0 hown0 hgrow0
  go_wp2
  go_loopw [0, 1, 9] (fun sa sb so wr => ∃ (l m out : List (Ro × Value)), RowsIn w sa l ∧ RowsIn w sb m ∧ wr.ownsRow w.heap.size 54 8 so out.length (roCells out) ∧ (∀ p ∈ out, SafeC w wr p) ∧ (∀ p ∈ l, p ∈ la) ∧ (∀ p ∈ m, p ∈ lb) ∧ Ext w wr ∧ Hid (mergeRo (la.map (·.1)) (lb.map (·.1)) = out.map (·.1) ++ mergeRo (l.map (·.1)) (m.map (·.1))) ∧ out.length + l.length + m.length ≤ la.length + lb.length) (fun sa sb _ _ => lenOf sa + lenOf sb)
  case atStart => exact ⟨la, lb, [], ha, hb, hown0, nofun, fun _ h => h, fun _ h => h, (Ext.refl w).grown hgrow0 (fun q hq => by cases hq), rfl, by simp⟩
  case round =>
    obtain ⟨l, m, out, hl, hm, hown, hsafe, hla, hlb, hE, HM, hsum⟩ := hrel
    by_cases h1 : 0 < l.length
    · by_cases h2 : 0 < m.length
      · obtain ⟨b1, o1, c1, A, a1, cc1, l', hll, rfl, hc1, hcm1, hA, hcA, hl'⟩ := hl.uncons h1
        obtain ⟨b2, o2, c2, B, a2, cc2, m', hmm, rfl, hc2, hcm2, hB, hcB, hm'⟩ := hm.uncons h2
        have h1' : decide ((0 : Int) < (l.length : Int)) = true := decide_eq_true (by omega)
        have h2' : decide ((0 : Int) < (m.length : Int)) = true := decide_eq_true (by omega)
        have HL := Lib.hid hll
        have HWR := Lib.hid hE.le
        have HN := Lib.hid hmm
        clear hll hmm
        go_wp2_with fail
        refine wp_region_in 9 [(7, fun v _ => v = .int .i64 (keyR A B))] (fun x => Ext w x ∧ wr.heap.size ≤ x.heap.size ∧ x.ownsRow w.heap.size 54 8 u9 out.length (roCells out) ∧ ∀ p ∈ out, SafeC w x p) (by kernel_rfl) (by kernel_rfl) (by kernel_rfl) ⟨stays_eq _, trivial⟩ ⟨hE, Nat.le_refl _, hown, hsafe⟩ ?_
        clear hE hsafe
        rintro w1 ⟨hE, hle, hown1, hsafe1⟩
        have FIN : Hid (∀ wx, Ext w1 wx → Ext w wx ∧ wr.heap.size ≤ wx.heap.size ∧ wx.ownsRow w.heap.size 54 8 u9 out.length (roCells out) ∧ ∀ p ∈ out, SafeC w wx p) := fun wx h => ⟨hE.trans h, Nat.le_trans hle h.le, ownsRow_ext hown1 h, fun p hp => (hsafe1 p hp).ext h⟩
        obtain ⟨x0, x1, x2, x3, x4, x5, x6, x7⟩ := hA.ext hE
        obtain ⟨y0, y1, y2, y3, y4, y5, y6, y7⟩ := hB.ext hE
        replace x0 := held x0
        replace x1 := held x1
        replace x2 := held x2
        replace x3 := held x3
        replace x4 := held x4
        replace x5 := held x5
        replace x6 := held x6
        replace x7 := held x7
        replace y0 := held y0
        replace y1 := held y1
        replace y2 := held y2
        replace y3 := held y3
        replace y4 := held y4
        replace y5 := held y5
        replace y6 := held y6
        replace y7 := held y7
        clear hE hle hown1 hsafe1
        refine rg_quiet rfl rfl rfl rfl ?_; intro K hK; go_big_quiet_op; go_big_quiet_on
        refine rg_quiet rfl rfl rfl rfl ?_; intro K hK; go_big_quiet_op; go_big_quiet_on
        refine rg_quiet rfl rfl rfl rfl ?_; intro K hK; go_big_quiet_op; go_big_quiet_on
        refine rg_quiet rfl rfl rfl rfl ?_; intro K hK; go_big_quiet_op; go_big_quiet_on
        refine rg_quiet rfl rfl rfl rfl ?_; intro K hK; go_big_quiet_op; go_big_quiet_on
        refine rg_quiet rfl rfl rfl rfl ?_; intro K hK; go_big_quiet_op; go_big_quiet_on
        refine rg_quiet rfl rfl rfl rfl ?_; intro K hK; go_big_quiet_op; go_big_quiet_on
        refine rg_val [] rfl rfl rfl (by kernel_rfl) (fun w1 hE hf => ?_) ?_
        · go_simp
          exact (pj1_any A B (.slice a1 A.cols.length cc1) (.slice a2 B.cols.length cc2) w1).mono fun e w' ⟨he, hw⟩ => ⟨_, he, rg_done hE hw (rfl)⟩
        simp only [Act.put, List.setIfInBounds_toArray, List.set_cons_zero, List.set_cons_succ]
        refine rg_quiet rfl rfl rfl rfl ?_; intro K hK; go_big_quiet_op; go_big_quiet_on
        refine rel_nil fun w2 hE2 _ => ?_
        obtain ⟨hE2', hle, hown2, hsafe2⟩ := FIN.out w2 hE2
        clear x0 x1 x2 x3 x4 x5 x6 x7 y0 y1 y2 y3 y4 y5 y6 y7 FIN hE2
        have hE2 := hE2'
        clear hE2'
        obtain ⟨kc, hkc⟩ : ∃ kc, kc = keyR A B := ⟨_, rfl⟩
        rw [← hkc]
        have HK := Lib.hid hkc
        clear hkc
        have hsz2 : wr.heap.size ≤ w2.heap.size := hle
        by_cases k1 : kc < 0
        · go_wp2_with fail
          refine wp_region_relE (MR w wr u9 out) (ME u9 5) (Tab.atE [(3, fun v _ => v = (.agg #[.string A.key, .string A.live.val, .bool A.live.dead, .int .i64 A.live.at_, .int .i64 A.live.fin, .int .i64 A.gone, .int .i64 A.shade, (.slice a1 A.cols.length cc1)])), (4, fun v x => ∃ b, v = .slice (some ⟨b, 0, none⟩) 1 1 ∧ wr.heap.size ≤ b ∧ BoxAt x b (ro8 A (.slice a1 A.cols.length cc1)) 54), (5, fun v x => x.ownsRow w.heap.size 54 8 v (out.length + 1) (roCells (out ++ [(A, (.slice a1 A.cols.length cc1))])))])
            (Tab.staysE ⟨fun _ _ _ _ _ _ h => h, fun j _ v x y hR ⟨b, e, hb, hx⟩ => ⟨b, e, hb, ME_box hown hR hb hx⟩, fun j hj v x y hR h => ownsRow_ext h (ME_off hj hR), trivial⟩)
            12 (by kernel_rfl) (by kernel_rfl) (by kernel_rfl) ((⟨hE2, hown2, hsz2, hsafe2⟩ : MR w wr u9 out w2).ext' (Ext.refl w2).drew) ?_
          refine relE_quiet rfl rfl rfl rfl ?_; intro K hK; go_big_quiet_op; (first | refine ⟨_, fun _ _ => rfl, hK _ ?_⟩ | refine hK _ ?_); clear hK K
          refine relE_quiet rfl rfl rfl rfl ?_; intro K hK; go_big_quiet_op; (first | refine ⟨_, fun _ _ => rfl, hK _ ?_⟩ | refine hK _ ?_); clear hK K
          refine relE_quiet rfl rfl rfl rfl ?_; intro K hK; go_big_quiet_op; (first | refine ⟨_, fun _ _ => rfl, hK _ ?_⟩ | refine hK _ ?_); clear hK K
          refine relE_val [] rfl rfl rfl (by kernel_rfl) (fun z hz hf => ?_) ?_
          · obtain ⟨x0, x1, x2, x3, x4, x5, x6, x7⟩ := hA.ext hz.ext
            go_simp
            exact ⟨hz, ME_ext (Ext.refl z), rfl⟩
          simp only [Act.put, List.setIfInBounds_toArray, List.set_cons_zero, List.set_cons_succ]
          refine relE_fact [] rfl rfl rfl (by kernel_rfl) (fun z hz hf => ?_) (fun v4 z4 hC4 hG4 h4 => ?_)
          · go_simp
            exact ⟨hz.ext' ((Ext.refl z).alloc _), ME_ext ((Ext.refl z).alloc _), _, rfl, hz.size, BoxAt.made z _ _⟩
          obtain ⟨b4, rfl, hb4, _⟩ := h4
          have HB4 := Lib.hid hb4
          clear hC4 hG4 hb4
          simp only [Act.put, List.setIfInBounds_toArray, List.set_cons_zero, List.set_cons_succ]
          refine relE_fact [4] rfl rfl rfl (by kernel_rfl) (fun z hz hf => ?_) (fun v5 z5 hC5 hG5 h5 => ?_)
          · obtain ⟨b, e, _, hbox⟩ := (hf 4 (by simp)).2 rfl
            cases e
            refine yields_append info_Row und_Rows rfl (by decide) (.tmp 51) (.tmp 55) rfl w.heap.size hz.ext.le u9 out.length (roCells out) hz.own (by rfl) b4 1 1 (ro8 A (.slice a1 A.cols.length cc1)).toList (by rfl) (by rfl) (fun j u hj => by rw [hbox.cell j]; simpa using hj) (by simp [ro8, Value.oneCell']) (by unfold maxLen; omega) (by omega) ?_
            intro v' y hown' hg hkeep
            refine ⟨⟨hz.ext.grown hg (fun q hq => (hz.own.lt q hq).1), hkeep, Nat.le_trans hz.size hg.size, fun p hp => (hz.safe p hp).grown hz.own hg⟩, by unfold ME; rw [if_pos rfl]; exact hg, ?_⟩
            rw [roCells_append]
            exact hown'
          obtain ⟨a5, c5, rfl⟩ := own_shape h5
          clear hC5 hG5 h5
          simp only [Act.put, List.setIfInBounds_toArray, List.set_cons_zero, List.set_cons_succ]
          refine relE_quiet rfl rfl rfl rfl ?_; intro K hK; go_big_quiet_op; (first | refine ⟨_, fun _ _ => rfl, hK _ ?_⟩ | refine hK _ ?_); clear hK K
          refine relE_quiet rfl rfl rfl rfl ?_; intro K hK; go_big_quiet_op; (first | refine ⟨_, fun _ _ => rfl, hK _ ?_⟩ | refine hK _ ?_); clear hK K
          refine relE_quiet rfl rfl rfl rfl ?_; intro K hK; go_big_quiet_op; (first | refine ⟨_, fun _ _ => rfl, hK _ ?_⟩ | refine hK _ ?_); clear hK K
          refine relE_quiet rfl rfl rfl rfl ?_; intro K hK; go_big_quiet_op; (first | refine ⟨_, fun _ _ => rfl, hK _ ?_⟩ | refine hK _ ?_); clear hK K
          refine relE_nil fun w9 hC hG => ?_
          have hown9 := (hG 5).2 rfl
          have hE9 := hC.ext
          have hs9 := hC.safe
          clear hC hG HB4 hown hE2 hown2 hsz2 hsafe2
          go_wp2_with fail
          go_roundw
          case rel =>
            refine ⟨l', m, out ++ [(A, (.slice a1 A.cols.length cc1))], hl', hm, by rw [List.length_append]; exact hown9, (fun p hp => by rcases List.mem_append.1 hp with h | h; exact hs9 p h; rw [List.mem_singleton.1 h]; exact .inl hcA), (fun p hp => hla p (by rw [HL.out]; exact List.mem_cons_of_mem _ hp)), hlb, hE9, ?_, by have := congrArg List.length HL.out; simp at this ⊢; omega⟩
            show mergeRo _ _ = _
            rw [HM.out, HL.out, HN.out, List.map_append, List.append_assoc]
            unfold mergeRo
            rw [List.map_cons, List.map_cons, mergeG_lt (by rw [← HK.out]; exact k1)]
            rfl
          case measure => simp [lenOf] <;> omega
        · by_cases k2 : 0 < kc
          · go_wp2_with fail
            refine wp_region_relE (MR w wr u9 out) (ME u9 5) (Tab.atE [(3, fun v _ => v = (.agg #[.string B.key, .string B.live.val, .bool B.live.dead, .int .i64 B.live.at_, .int .i64 B.live.fin, .int .i64 B.gone, .int .i64 B.shade, (.slice a2 B.cols.length cc2)])), (4, fun v x => ∃ b, v = .slice (some ⟨b, 0, none⟩) 1 1 ∧ wr.heap.size ≤ b ∧ BoxAt x b (ro8 B (.slice a2 B.cols.length cc2)) 54), (5, fun v x => x.ownsRow w.heap.size 54 8 v (out.length + 1) (roCells (out ++ [(B, (.slice a2 B.cols.length cc2))])))])
              (Tab.staysE ⟨fun _ _ _ _ _ _ h => h, fun j _ v x y hR ⟨b, e, hb, hx⟩ => ⟨b, e, hb, ME_box hown hR hb hx⟩, fun j hj v x y hR h => ownsRow_ext h (ME_off hj hR), trivial⟩)
              12 (by kernel_rfl) (by kernel_rfl) (by kernel_rfl) ((⟨hE2, hown2, hsz2, hsafe2⟩ : MR w wr u9 out w2).ext' (Ext.refl w2).drew) ?_
            refine relE_quiet rfl rfl rfl rfl ?_; intro K hK; go_big_quiet_op; (first | refine ⟨_, fun _ _ => rfl, hK _ ?_⟩ | refine hK _ ?_); clear hK K
            refine relE_quiet rfl rfl rfl rfl ?_; intro K hK; go_big_quiet_op; (first | refine ⟨_, fun _ _ => rfl, hK _ ?_⟩ | refine hK _ ?_); clear hK K
            refine relE_quiet rfl rfl rfl rfl ?_; intro K hK; go_big_quiet_op; (first | refine ⟨_, fun _ _ => rfl, hK _ ?_⟩ | refine hK _ ?_); clear hK K
            refine relE_val [] rfl rfl rfl (by kernel_rfl) (fun z hz hf => ?_) ?_
            · obtain ⟨x0, x1, x2, x3, x4, x5, x6, x7⟩ := hB.ext hz.ext
              go_simp
              exact ⟨hz, ME_ext (Ext.refl z), rfl⟩
            simp only [Act.put, List.setIfInBounds_toArray, List.set_cons_zero, List.set_cons_succ]
            refine relE_fact [] rfl rfl rfl (by kernel_rfl) (fun z hz hf => ?_) (fun v4 z4 hC4 hG4 h4 => ?_)
            · go_simp
              exact ⟨hz.ext' ((Ext.refl z).alloc _), ME_ext ((Ext.refl z).alloc _), _, rfl, hz.size, BoxAt.made z _ _⟩
            obtain ⟨b4, rfl, hb4, _⟩ := h4
            have HB4 := Lib.hid hb4
            clear hC4 hG4 hb4
            simp only [Act.put, List.setIfInBounds_toArray, List.set_cons_zero, List.set_cons_succ]
            refine relE_fact [4] rfl rfl rfl (by kernel_rfl) (fun z hz hf => ?_) (fun v5 z5 hC5 hG5 h5 => ?_)
            · obtain ⟨b, e, _, hbox⟩ := (hf 4 (by simp)).2 rfl
              cases e
              refine yields_append info_Row und_Rows rfl (by decide) (.tmp 62) (.tmp 66) rfl w.heap.size hz.ext.le u9 out.length (roCells out) hz.own (by rfl) b4 1 1 (ro8 B (.slice a2 B.cols.length cc2)).toList (by rfl) (by rfl) (fun j u hj => by rw [hbox.cell j]; simpa using hj) (by simp [ro8, Value.oneCell']) (by unfold maxLen; omega) (by omega) ?_
              intro v' y hown' hg hkeep
              refine ⟨⟨hz.ext.grown hg (fun q hq => (hz.own.lt q hq).1), hkeep, Nat.le_trans hz.size hg.size, fun p hp => (hz.safe p hp).grown hz.own hg⟩, by unfold ME; rw [if_pos rfl]; exact hg, ?_⟩
              rw [roCells_append]
              exact hown'
            obtain ⟨a5, c5, rfl⟩ := own_shape h5
            clear hC5 hG5 h5
            simp only [Act.put, List.setIfInBounds_toArray, List.set_cons_zero, List.set_cons_succ]
            refine relE_quiet rfl rfl rfl rfl ?_; intro K hK; go_big_quiet_op; (first | refine ⟨_, fun _ _ => rfl, hK _ ?_⟩ | refine hK _ ?_); clear hK K
            refine relE_quiet rfl rfl rfl rfl ?_; intro K hK; go_big_quiet_op; (first | refine ⟨_, fun _ _ => rfl, hK _ ?_⟩ | refine hK _ ?_); clear hK K
            refine relE_quiet rfl rfl rfl rfl ?_; intro K hK; go_big_quiet_op; (first | refine ⟨_, fun _ _ => rfl, hK _ ?_⟩ | refine hK _ ?_); clear hK K
            refine relE_quiet rfl rfl rfl rfl ?_; intro K hK; go_big_quiet_op; (first | refine ⟨_, fun _ _ => rfl, hK _ ?_⟩ | refine hK _ ?_); clear hK K
            refine relE_nil fun w9 hC hG => ?_
            have hown9 := (hG 5).2 rfl
            have hE9 := hC.ext
            have hs9 := hC.safe
            clear hC hG HB4 hown hE2 hown2 hsz2 hsafe2
            go_wp2_with fail
            go_roundw
            case rel =>
              refine ⟨l, m', out ++ [(B, (.slice a2 B.cols.length cc2))], hl, hm', by rw [List.length_append]; exact hown9, (fun p hp => by rcases List.mem_append.1 hp with h | h; exact hs9 p h; rw [List.mem_singleton.1 h]; exact .inl hcB), hla, (fun p hp => hlb p (by rw [HN.out]; exact List.mem_cons_of_mem _ hp)), hE9, ?_, by have := congrArg List.length HN.out; simp at this ⊢; omega⟩
              show mergeRo _ _ = _
              rw [HM.out, HL.out, HN.out, List.map_append, List.append_assoc]
              unfold mergeRo
              rw [List.map_cons, List.map_cons, mergeG_gt (by rw [← HK.out]; exact k2)]
              rfl
            case measure => simp [lenOf] <;> omega
          · have hAB : A.cols.length + B.cols.length ≤ 1000000 := hcl _ (hla _ (by rw [HL.out]; exact List.mem_cons_self ..)) _ (hlb _ (by rw [HN.out]; exact List.mem_cons_self ..))
            obtain ⟨J, hJ⟩ : ∃ J, J = joinRo A B := ⟨_, rfl⟩
            have HJ := Lib.hid hJ
            clear hJ
            go_wp2_with fail
            refine wp_region_relE (MR w wr u9 out) (ME u9 10) (Tab.atE [(4, fun v _ => v = (.agg #[.string A.key, .string A.live.val, .bool A.live.dead, .int .i64 A.live.at_, .int .i64 A.live.fin, .int .i64 A.gone, .int .i64 A.shade, (.slice a1 A.cols.length cc1)])), (7, fun v _ => v = (.agg #[.string B.key, .string B.live.val, .bool B.live.dead, .int .i64 B.live.at_, .int .i64 B.live.fin, .int .i64 B.gone, .int .i64 B.shade, (.slice a2 B.cols.length cc2)])), (8, fun v x => ∃ u, v = (.agg #[.string J.key, .string J.live.val, .bool J.live.dead, .int .i64 J.live.at_, .int .i64 J.live.fin, .int .i64 J.gone, .int .i64 J.shade, u]) ∧ x.ownsRow wr.heap.size 57 5 u J.cols.length (coCells J.cols)), (9, fun v x => ∃ b u, v = .slice (some ⟨b, 0, none⟩) 1 1 ∧ wr.heap.size ≤ b ∧ BoxAt x b (ro8 J u) 54 ∧ x.ownsRow wr.heap.size 57 5 u J.cols.length (coCells J.cols)), (10, fun v x => ∃ u, x.ownsRow w.heap.size 54 8 v (out.length + 1) (roCells (out ++ [(J, u)])) ∧ x.ownsRow wr.heap.size 57 5 u J.cols.length (coCells J.cols))])
              (Tab.staysE ⟨fun _ _ _ _ _ _ h => h, fun _ _ _ _ _ _ h => h, fun j _ v x y hR ⟨u, e, h⟩ => ⟨u, e, ME_own hown hR h⟩, fun j _ v x y hR ⟨b, u, e, hb, hx, h⟩ => ⟨b, u, e, hb, ME_box hown hR hb hx, ME_own hown hR h⟩, fun j hj v x y hR ⟨u, h, h'⟩ => ⟨u, ownsRow_ext h (ME_off hj hR), ownsRow_ext h' (ME_off hj hR)⟩, trivial⟩)
              20 (by kernel_rfl) (by kernel_rfl) (by kernel_rfl) ((⟨hE2, hown2, hsz2, hsafe2⟩ : MR w wr u9 out w2).ext' (Ext.refl w2).drew) ?_
            refine relE_quiet rfl rfl rfl rfl ?_; intro K hK; go_big_quiet_op; (first | refine ⟨_, fun _ _ => rfl, hK _ ?_⟩ | refine hK _ ?_); clear hK K
            refine relE_quiet rfl rfl rfl rfl ?_; intro K hK; go_big_quiet_op; (first | refine ⟨_, fun _ _ => rfl, hK _ ?_⟩ | refine hK _ ?_); clear hK K
            refine relE_quiet rfl rfl rfl rfl ?_; intro K hK; go_big_quiet_op; (first | refine ⟨_, fun _ _ => rfl, hK _ ?_⟩ | refine hK _ ?_); clear hK K
            refine relE_quiet rfl rfl rfl rfl ?_; intro K hK; go_big_quiet_op; (first | refine ⟨_, fun _ _ => rfl, hK _ ?_⟩ | refine hK _ ?_); clear hK K
            refine relE_val [] rfl rfl rfl (by kernel_rfl) (fun z hz hf => ?_) ?_
            · obtain ⟨x0, x1, x2, x3, x4, x5, x6, x7⟩ := hA.ext hz.ext
              go_simp
              exact ⟨hz, ME_ext (Ext.refl z), rfl⟩
            simp only [Act.put, List.setIfInBounds_toArray, List.set_cons_zero, List.set_cons_succ]
            refine relE_quiet rfl rfl rfl rfl ?_; intro K hK; go_big_quiet_op; (first | refine ⟨_, fun _ _ => rfl, hK _ ?_⟩ | refine hK _ ?_); clear hK K
            refine relE_quiet rfl rfl rfl rfl ?_; intro K hK; go_big_quiet_op; (first | refine ⟨_, fun _ _ => rfl, hK _ ?_⟩ | refine hK _ ?_); clear hK K
            refine relE_val [] rfl rfl rfl (by kernel_rfl) (fun z hz hf => ?_) ?_
            · obtain ⟨x0, x1, x2, x3, x4, x5, x6, x7⟩ := hB.ext hz.ext
              go_simp
              exact ⟨hz, ME_ext (Ext.refl z), rfl⟩
            simp only [Act.put, List.setIfInBounds_toArray, List.set_cons_zero, List.set_cons_succ]
            refine relE_fact [] rfl rfl rfl (by kernel_rfl) (fun z hz hf => ?_) (fun v8 z8 hC8 hG8 h8 => ?_)
            · go_simp
              refine (rowJoin_any A B _ _ z (hcA.ext hz.ext) (hcB.ext hz.ext) hAB).mono ?_
              rintro e y ⟨v', he, hown', hy⟩
              rw [← HJ.out] at he hown'
              exact ⟨_, he, hz.ext' hy, ME_ext hy, v', rfl, ownsRow_base hown' hz.size⟩
            obtain ⟨u8, rfl, h8'⟩ := h8
            obtain ⟨a8, cc8, rfl⟩ := own_shape h8'
            clear hC8 hG8 h8'
            simp only [Act.put, List.setIfInBounds_toArray, List.set_cons_zero, List.set_cons_succ]
            refine relE_fact [8] rfl rfl rfl (by kernel_rfl) (fun z hz hf => ?_) (fun v4 z4 hC4 hG4 h4 => ?_)
            · obtain ⟨u, e, hu⟩ := (hf 8 (by simp)).2 rfl
              cases e
              go_simp
              exact ⟨hz.ext' ((Ext.refl z).alloc _), ME_ext ((Ext.refl z).alloc _), _, rfl, hz.size, _, BoxAt.made z _ _, ownsRow_ext hu ((Ext.refl z).alloc _)⟩
            obtain ⟨b4, u4, rfl, hb4, _, _⟩ := h4
            have HB4 := Lib.hid hb4
            clear hC4 hG4 hb4
            simp only [Act.put, List.setIfInBounds_toArray, List.set_cons_zero, List.set_cons_succ]
            refine relE_fact [9] rfl rfl rfl (by kernel_rfl) (fun z hz hf => ?_) (fun v5 z5 hC5 hG5 h5 => ?_)
            · obtain ⟨b, u, e, _, hbox, hu⟩ := (hf 9 (by simp)).2 rfl
              cases e
              obtain ⟨au, cu, rfl⟩ := own_shape hu
              refine yields_append info_Row und_Rows rfl (by decide) (.tmp 33) (.tmp 42) rfl w.heap.size hz.ext.le u9 out.length (roCells out) hz.own (by rfl) b4 1 1 (ro8 J (.slice au J.cols.length cu)).toList (by rfl) (by rfl) (fun j u hj => by rw [hbox.cell j]; simpa using hj) (by simp [ro8, Value.oneCell']) (by unfold maxLen; omega) (by omega) ?_
              intro v' y hown' hg hkeep
              refine ⟨⟨hz.ext.grown hg (fun q hq => (hz.own.lt q hq).1), hkeep, Nat.le_trans hz.size hg.size, fun p hp => (hz.safe p hp).grown hz.own hg⟩, by unfold ME; rw [if_pos rfl]; exact hg, _, ?_, hu.kept hg (own_ne_own hu hz.own (by decide))⟩
              rw [roCells_append]
              exact hown'
            obtain ⟨u5, h5, _⟩ := h5
            obtain ⟨a5, c5, rfl⟩ := own_shape h5
            clear hC5 hG5 h5
            simp only [Act.put, List.setIfInBounds_toArray, List.set_cons_zero, List.set_cons_succ]
            refine relE_quiet rfl rfl rfl rfl ?_; intro K hK; go_big_quiet_op; (first | refine ⟨_, fun _ _ => rfl, hK _ ?_⟩ | refine hK _ ?_); clear hK K
            refine relE_quiet rfl rfl rfl rfl ?_; intro K hK; go_big_quiet_op; (first | refine ⟨_, fun _ _ => rfl, hK _ ?_⟩ | refine hK _ ?_); clear hK K
            refine relE_quiet rfl rfl rfl rfl ?_; intro K hK; go_big_quiet_op; (first | refine ⟨_, fun _ _ => rfl, hK _ ?_⟩ | refine hK _ ?_); clear hK K
            refine relE_quiet rfl rfl rfl rfl ?_; intro K hK; go_big_quiet_op; (first | refine ⟨_, fun _ _ => rfl, hK _ ?_⟩ | refine hK _ ?_); clear hK K
            refine relE_quiet rfl rfl rfl rfl ?_; intro K hK; go_big_quiet_op; (first | refine ⟨_, fun _ _ => rfl, hK _ ?_⟩ | refine hK _ ?_); clear hK K
            refine relE_quiet rfl rfl rfl rfl ?_; intro K hK; go_big_quiet_op; (first | refine ⟨_, fun _ _ => rfl, hK _ ?_⟩ | refine hK _ ?_); clear hK K
            refine relE_quiet rfl rfl rfl rfl ?_; intro K hK; go_big_quiet_op; (first | refine ⟨_, fun _ _ => rfl, hK _ ?_⟩ | refine hK _ ?_); clear hK K
            refine relE_nil fun w9 hC hG => ?_
            obtain ⟨u9', hown9, hu9'⟩ := (hG 10).2 rfl
            have hu9 := ownsRow_base hu9' HWR.out
            have hE9 := hC.ext
            have hs9 := hC.safe
            clear hC hG HB4 hown hE2 hown2 hsz2 hsafe2
            go_wp2_with fail
            go_roundw
            case rel =>
              refine ⟨l', m', out ++ [(J, u9')], hl', hm', by rw [List.length_append]; exact hown9, (fun p hp => by rcases List.mem_append.1 hp with h | h; exact hs9 p h; rw [List.mem_singleton.1 h]; exact .inr hu9), (fun p hp => hla p (by rw [HL.out]; exact List.mem_cons_of_mem _ hp)), (fun p hp => hlb p (by rw [HN.out]; exact List.mem_cons_of_mem _ hp)), hE9, ?_, by have := congrArg List.length HL.out; have := congrArg List.length HN.out; simp at *; omega⟩
              show mergeRo _ _ = _
              rw [HM.out, HL.out, HN.out, List.map_append, List.append_assoc, HJ.out]
              unfold mergeRo
              rw [List.map_cons, List.map_cons, mergeG_eq (by rw [← HK.out]; omega)]
              rfl
            case measure => simp [lenOf] <;> omega
      · obtain ⟨b1, o1, c1, A, a1, cc1, l', hll, rfl, hc1, hcm1, hA, hcA, hl'⟩ := hl.uncons h1
        obtain ⟨am, cm, rfl, hcm, hcmm, hgm⟩ := hm.get
        have h1' : decide ((0 : Int) < (l.length : Int)) = true := decide_eq_true (by omega)
        have h2' : decide ((0 : Int) < (m.length : Int)) = false := decide_eq_false (by omega)
        clear hgm hA hcA hl' hll
        have hM : mergeRo (la.map (·.1)) (lb.map (·.1)) = (out ++ l ++ m).map (·.1) := by
          rw [HM.out]
          have : m = [] := List.eq_nil_of_length_eq_zero (by omega)
          rw [this, List.append_nil, List.map_append]
          unfold mergeRo
          simp only [List.map_nil]
          rw [mergeG_nil_right]
        obtain ⟨N, hN⟩ : ∃ N, N = out ++ l ++ m := ⟨_, rfl⟩
        rw [← hN] at hM
        have HN := Lib.hid hN
        have HMM := Lib.hid hM
        clear hN hM
        by_cases hz : N.length = 0
        · have hz' : ((N.length : Int) == 0) = true := by simp [hz]
          go_wp2_with (first
            | (at_builtin; refine appRows wr rfl (.tmp 70) (.tmp 71) rfl w.heap.size hE.le _ out hown (by rfl) _ l (hl.ext hE) (by rfl) (by omega) ?_; intro v3 w3 hown3 hg3; have hs3 : ∀ p ∈ out, SafeC w w3 p := (fun p hp => (hsafe p hp).grown hown hg3); have hE3 := hE.grown hg3 (fun q hq => (hown.lt q hq).1))
            | (at_builtin; refine appRows w3 rfl (.tmp 72) (.tmp 73) rfl w.heap.size hE3.le v3 (out ++ l) hown3 (by rfl) _ m (hm.ext hE3) (by rfl) (by simp; omega) ?_; intro v4 w4 hown4 hg4; have hs4 : ∀ p ∈ out ++ l ++ m, SafeC w w4 p := (fun p hp => by rcases List.mem_append.1 hp with h | h; rcases List.mem_append.1 h with h | h; exact (hs3 p h).grown hown3 hg4; exact .inl (hl.cols p h); exact .inl (hm.cols p h)); have hE4 := hE3.grown hg4 (fun q hq => (hown3.lt q hq).1); rw [← HN.out] at hown4 hs4; clear hg3 hg4 hown3 hE3; obtain ⟨a4, c4, rfl⟩ := own_shape hown4))
          go_ret
          rw [HMM.out]
          obtain rfl : N = [] := List.eq_nil_of_length_eq_zero hz
          exact ⟨_, rfl, [], World.ownsRow_nil _ _ _ _, nofun, rfl, hE4⟩
        · have hz' : ((N.length : Int) == 0) = false := by simp; intro h; exact hz (by simp [h])
          go_wp2_with (first
            | (at_builtin; refine appRows wr rfl (.tmp 70) (.tmp 71) rfl w.heap.size hE.le _ out hown (by rfl) _ l (hl.ext hE) (by rfl) (by omega) ?_; intro v3 w3 hown3 hg3; have hs3 : ∀ p ∈ out, SafeC w w3 p := (fun p hp => (hsafe p hp).grown hown hg3); have hE3 := hE.grown hg3 (fun q hq => (hown.lt q hq).1))
            | (at_builtin; refine appRows w3 rfl (.tmp 72) (.tmp 73) rfl w.heap.size hE3.le v3 (out ++ l) hown3 (by rfl) _ m (hm.ext hE3) (by rfl) (by simp; omega) ?_; intro v4 w4 hown4 hg4; have hs4 : ∀ p ∈ out ++ l ++ m, SafeC w w4 p := (fun p hp => by rcases List.mem_append.1 hp with h | h; rcases List.mem_append.1 h with h | h; exact (hs3 p h).grown hown3 hg4; exact .inl (hl.cols p h); exact .inl (hm.cols p h)); have hE4 := hE3.grown hg4 (fun q hq => (hown3.lt q hq).1); rw [← HN.out] at hown4 hs4; clear hg3 hg4 hown3 hE3; obtain ⟨a4, c4, rfl⟩ := own_shape hown4))
          go_ret
          rw [HMM.out]
          exact ⟨_, rfl, N, hown4, fun p v hp => hs4 (p, v) hp, rfl, hE4⟩
    · obtain ⟨al, cl, rfl, hcl, hcml, hgl⟩ := hl.get
      obtain ⟨am, cm, rfl, hcm, hcmm, hgm⟩ := hm.get
      have h1' : decide ((0 : Int) < (l.length : Int)) = false := decide_eq_false (by omega)
      clear hgm hgl
      have hM : mergeRo (la.map (·.1)) (lb.map (·.1)) = (out ++ l ++ m).map (·.1) := by
        rw [HM.out]
        have : l = [] := List.eq_nil_of_length_eq_zero (by omega)
        rw [this, List.append_nil, List.map_append]
        unfold mergeRo
        simp only [List.map_nil]
        rw [mergeG_nil_left]
      obtain ⟨N, hN⟩ : ∃ N, N = out ++ l ++ m := ⟨_, rfl⟩
      rw [← hN] at hM
      have HN := Lib.hid hN
      have HMM := Lib.hid hM
      clear hN hM
      by_cases hz : N.length = 0
      · have hz' : ((N.length : Int) == 0) = true := by simp [hz]
        go_wp2_with (first
          | (at_builtin; refine appRows wr rfl (.tmp 70) (.tmp 71) rfl w.heap.size hE.le _ out hown (by rfl) _ l (hl.ext hE) (by rfl) (by omega) ?_; intro v3 w3 hown3 hg3; have hs3 : ∀ p ∈ out, SafeC w w3 p := (fun p hp => (hsafe p hp).grown hown hg3); have hE3 := hE.grown hg3 (fun q hq => (hown.lt q hq).1))
          | (at_builtin; refine appRows w3 rfl (.tmp 72) (.tmp 73) rfl w.heap.size hE3.le v3 (out ++ l) hown3 (by rfl) _ m (hm.ext hE3) (by rfl) (by simp; omega) ?_; intro v4 w4 hown4 hg4; have hs4 : ∀ p ∈ out ++ l ++ m, SafeC w w4 p := (fun p hp => by rcases List.mem_append.1 hp with h | h; rcases List.mem_append.1 h with h | h; exact (hs3 p h).grown hown3 hg4; exact .inl (hl.cols p h); exact .inl (hm.cols p h)); have hE4 := hE3.grown hg4 (fun q hq => (hown3.lt q hq).1); rw [← HN.out] at hown4 hs4; clear hg3 hg4 hown3 hE3; obtain ⟨a4, c4, rfl⟩ := own_shape hown4))
        go_ret
        rw [HMM.out]
        obtain rfl : N = [] := List.eq_nil_of_length_eq_zero hz
        exact ⟨_, rfl, [], World.ownsRow_nil _ _ _ _, nofun, rfl, hE4⟩
      · have hz' : ((N.length : Int) == 0) = false := by simp; intro h; exact hz (by simp [h])
        go_wp2_with (first
          | (at_builtin; refine appRows wr rfl (.tmp 70) (.tmp 71) rfl w.heap.size hE.le _ out hown (by rfl) _ l (hl.ext hE) (by rfl) (by omega) ?_; intro v3 w3 hown3 hg3; have hs3 : ∀ p ∈ out, SafeC w w3 p := (fun p hp => (hsafe p hp).grown hown hg3); have hE3 := hE.grown hg3 (fun q hq => (hown.lt q hq).1))
          | (at_builtin; refine appRows w3 rfl (.tmp 72) (.tmp 73) rfl w.heap.size hE3.le v3 (out ++ l) hown3 (by rfl) _ m (hm.ext hE3) (by rfl) (by simp; omega) ?_; intro v4 w4 hown4 hg4; have hs4 : ∀ p ∈ out ++ l ++ m, SafeC w w4 p := (fun p hp => by rcases List.mem_append.1 hp with h | h; rcases List.mem_append.1 h with h | h; exact (hs3 p h).grown hown3 hg4; exact .inl (hl.cols p h); exact .inl (hm.cols p h)); have hE4 := hE3.grown hg4 (fun q hq => (hown3.lt q hq).1); rw [← HN.out] at hown4 hs4; clear hg3 hg4 hown3 hE3; obtain ⟨a4, c4, rfl⟩ := own_shape hown4))
        go_ret
        rw [HMM.out]
        exact ⟨_, rfl, N, hown4, fun p v hp => hs4 (p, v) hp, rfl, hE4⟩
end Go.Proofs.YtolkhjdododdaaaGreat

/- 'make([]T, n)' of structs as a variable's block; 'copy' over the whole of it. -/
namespace Go.Proofs.YtolkhjdododdaaaGreat
open Go Go.RowKit

theorem wpList_make_box {P : Program} (w : World) {ops : Array Oper} {rest : List Oper} {o : Oper} {a : Act} {Q : Exit → Act → World → Prop} {t e : TypeId} {z : Value} {size bytes : Nat}
    (info : (P.info? e).map (fun i => (i.zero, i.size, i.bytes)) = some (some z, size, bytes)) (und : P.underlying t = some (.slice e))
    (hg : o.guard = none) (l c : Operand) (hop : o.op = Op.makeSlice t l c)
    (kl kc : IntKind) (n : Nat) (hl : a.eval l = .int kl n) (hc : a.eval c = .int kc n) (b2 : bytes * n ≤ 281474976710656) (b3 : n ≤ maxLen)
    (hK : ∀ w' Z, BoxAt w' w.heap.size Z e → Z.size = n * size → Ext w w' → wpList P ops Q rest (a.put o.dst (.slice (some ⟨w.heap.size, 0, none⟩) n n)) w') :
    wpList P ops Q (o :: rest) a w := by
  obtain ⟨i0, hi, hz0, hz1, hz2⟩ := info_parts info
  refine wpList_plain hg fun K hK' => ?_
  unfold maxLen at b3
  have hb' : (i0.bytes : Int) * (n : Int) ≤ 281474976710656 := by
    have h : ((bytes * n : Nat) : Int) ≤ 281474976710656 := by omega
    rw [hz2]
    rwa [Int.natCast_mul] at h
  have hr := run_make (P := P) w t e i0 z und hi hz0 kl kc n n (by omega) (Int.le_refl _) hb' (by omega)
  simp only [Int.toNat_natCast] at hr
  unfold Oper.wp
  simp [execOp, hop, hl, hc, hr, Result.andThen]
  exact hK' _ _ (hK _ _ (BoxAt.made w _ _) (by rw [size_madeCells, hz1]) ((Ext.refl w).alloc _))

theorem run_copyS {P : Program} (w : World) (dT sT ty elem : TypeId) (size n : Nat) (g dCap : Nat) (a : Option Addr) (sCap : Nat) (cur : Array Value) (t : TypeId) (cs : List Value)
    (hu : P.underlying dT = some (.slice elem)) (hs : (P.info? elem).map (·.size) = some size)
    (hg : BoxAt w g cur t) (hn : cs.length = n * size) (hcur : cur.size = n * size)
    (ha : a = none → n = 0) (hsrc : ∀ ad, a = some ad → ∀ j v, cs[j]? = some v → w.cell? (ad.add j) = some v) (h1 : ∀ v ∈ cs, v.oneCell' = true) :
    (Builtin.copy_ #[dT, sT] ty #[.slice (some ⟨g, 0, none⟩) n dCap, .slice a n sCap]).run P w = .ok (goInt n) (w.setRow g cs.toArray) := by
  have hst := run_storeCells_at P g 0 t cs 0 cur w hg (by omega) h1
  have e1 : cur.toList.take 0 ++ cs ++ cur.toList.drop (0 + 0 + cs.length) = cs := by
    rw [List.drop_eq_nil_of_le (by simp; omega)]
    simp
  simp only [Nat.zero_add] at hst e1
  rw [e1] at hst
  cases hq : P.info? elem with
  | none => simp [hq] at hs
  | some i =>
    have hi : i.size = size := by simpa [hq] using hs
    cases a with
    | none =>
      obtain rfl := ha rfl
      obtain rfl : cs = [] := List.eq_nil_of_length_eq_zero (by omega)
      simp [Builtin.copy_, run_underlying hu, Builtin.lenOf, Builtin.firstCells, sizeOf, typeInfo, hq, hi, hst]
    | some ad =>
      have hl := run_loadCells_list (P := P) w ad cs (hsrc ad rfl)
      rw [hn] at hl
      simp [Builtin.copy_, run_underlying hu, Builtin.lenOf, Builtin.firstCells, sizeOf, typeInfo, hq, hi, hl, hst]

theorem wpList_copy_box {P : Program} (w : World) {ops : Array Oper} {rest : List Oper} {o : Oper} {a : Act} {Q : Exit → Act → World → Prop} {dT sT elem : TypeId} {z : Value} {size bytes : Nat}
    (info : (P.info? elem).map (fun i => (i.zero, i.size, i.bytes)) = some (some z, size, bytes)) (und : P.underlying dT = some (.slice elem)) (hgd : o.guard = none) (d s : Operand)
    (ho : o.op = .call { callee := .builtin .copy, args := #[d, s], argTypes := #[dT, sT] }) (n g dCap : Nat) (hd : a.eval d = .slice (some ⟨g, 0, none⟩) n dCap) (u : Value) (hs : a.eval s = u)
    (cur : Array Value) (t : TypeId) (hb : BoxAt w g cur t) (hcur : cur.size = n * size) (xs : List Value) (hx : xs.length = n * size) (hin : SliceIn w u n xs) (h1 : ∀ v ∈ xs, v.oneCell' = true)
    (h : ∀ w', BoxAt w' g xs.toArray t → w.grownBy w' (some g) → wpList P ops Q rest (a.put o.dst (goInt n)) w') : wpList P ops Q (o :: rest) a w := by
  obtain ⟨i0, hi, hz0, hz1, hz2⟩ := info_parts info
  obtain ⟨ad, c, rfl, hc, hcm, ha, hcell⟩ := hin
  have hrun := run_copyS (P := P) w dT sT o.type elem size n g dCap ad c cur t xs und (by rw [hi]; simpa using hz1) hb hx hcur (fun e => by have := ha e; omega) (fun a' e j v hj => by
    obtain ⟨b, o', e', h'⟩ := hcell j v hj
    rw [e] at e'
    cases e'
    rw [Addr.add_lit]
    exact h') h1
  refine wpList_plain hgd fun K hK => ?_
  unfold Oper.wp
  simp [execOp, ho, resolve, invoke, builtin, hd, hs, hrun, Result.andThen]
  exact hK _ _ (h _ (setRow_heap w g _ _ t _ hb) ⟨rfl, rfl, rfl, by simp, fun k hk hne => setRow_other w g k _ (fun e => hne (by rw [e]))⟩)
end Go.Proofs.YtolkhjdododdaaaGreat

/- part.Copy. -/
namespace Go.Proofs.YtolkhjdododdaaaGreat
open Go Go.RowKit
attribute [local go_sem] yields yUpon ro8 pa3

theorem roCells_set : ∀ (l : List (Ro × Value)) (k : Nat) (h : k < l.length) (v : Value), (roCells l).set (k * 8 + 7) v = roCells (l.set k (l[k].1, v))
  | c :: l, 0, _, v => by simp [roCells]
  | c :: l, k + 1, h, v => by
    have ih := roCells_set l k (by simpa using h) v
    have e : (k + 1) * 8 + 7 = k * 8 + 7 + 8 := by omega
    simp only [e, roCells, List.set_cons_succ, List.getElem_cons_succ]
    rw [ih]
theorem rowBox_at {w : World} {R : Nat} {qs : List (Ro × Value)} {T : TypeId} (h : BoxAt w R (roCells qs).toArray T) (k : Nat) (hk : k < qs.length) : RoAt w R (k * 8) qs[k].1 qs[k].2 := by
  have g : ∀ j u, j < 8 → (ro8 qs[k].1 qs[k].2)[j]? = some u → w.cell? ⟨R, k * 8 + j, none⟩ = some u := fun j u hj he => by
    rw [h.cell, List.getElem?_toArray, roCells_get qs k hk j hj]
    exact he
  exact ⟨g 0 _ (by decide) rfl, g 1 _ (by decide) rfl, g 2 _ (by decide) rfl, g 3 _ (by decide) rfl, g 4 _ (by decide) rfl, g 5 _ (by decide) rfl, g 6 _ (by decide) rfl, g 7 _ (by decide) rfl⟩
theorem rowBox_set {w : World} {R : Nat} {qs : List (Ro × Value)} {T : TypeId} (h : BoxAt w R (roCells qs).toArray T) (k : Nat) (hk : k < qs.length) (v : Value) : BoxAt (w.setCell ⟨R, k * 8 + 7, none⟩ v) R (roCells (qs.set k (qs[k].1, v))).toArray T := by
  have := h.set (k * 8 + 7) v
  rw [List.setIfInBounds_toArray, roCells_set qs k hk] at this
  exact this
/-- A row's columns in new memory, behind block R. -/
def DoneC (x : World) (R : Nat) (p : Ro × Value) : Prop := (p.2 = .slice none 0 0 ∧ p.1.cols = []) ∨ ∃ b, R < b ∧ p.2 = .slice (some ⟨b, 0, none⟩) p.1.cols.length p.1.cols.length ∧ BoxAt x b (coCells p.1.cols).toArray 57 ∧ p.1.cols.length ≤ 1000000
theorem DoneC.ext {x y : World} {R : Nat} {p : Ro × Value} (hE : Ext x y) (h : DoneC x R p) : DoneC y R p := h.imp_right fun ⟨b, hb, e, hx, hl⟩ => ⟨b, hb, e, hx.ext hE, hl⟩
theorem DoneC.set {x : World} {R i : Nat} {u : Value} {p : Ro × Value} (h : DoneC x R p) : DoneC (x.setCell ⟨R, i, none⟩ u) R p := h.imp_right fun ⟨b, hb, e, hx, hl⟩ => ⟨b, hb, e, hx.other (by omega) i u, hl⟩
theorem DoneC.other {x : World} {R q i : Nat} {u : Value} {p : Ro × Value} (hq : q ≤ R) (h : DoneC x R p) : DoneC (x.setCell ⟨q, i, none⟩ u) R p := h.imp_right fun ⟨b, hb, e, hx, hl⟩ => ⟨b, hb, e, hx.other (by omega) i u, hl⟩
theorem DoneC.grown {x y : World} {R q : Nat} {p : Ro × Value} (hq : q ≤ R) (hg : x.grownBy y (some q)) (h : DoneC x R p) : DoneC y R p := h.imp_right fun ⟨b, hb, e, hx, hl⟩ => ⟨b, hb, e, hx.grown hg (fun e => by cases e; omega), hl⟩
theorem DoneC.typed {x : World} {R : Nat} {p : Ro × Value} (h : DoneC x R p) : ColsT x p.2 p.1.cols := by
  rcases h with ⟨e, e'⟩ | ⟨b, _, e, hx, hl⟩
  · rw [e, e']; exact ColsT.nil x
  · rw [e]; exact TIn.box hx (by unfold maxLen; omega)

set_option maxRecDepth 100000 in
set_option maxHeartbeats 4000000 in
theorem pcopy_any (pk : ByteArray) (pg : Int) (u : Value) (ps : List (Ro × Value)) (w : World) (hin : RowsIn w u ps) (hlen : ps.length ≤ 1000000) (hcl : ∀ p ∈ ps, p.1.cols.length ≤ 1000000) :
    Calls Tryz.prog 57 #[.agg #[.string pk, .int .i64 pg, u]] w fun e w' => ∃ v', e = .returned (.agg #[.string pk, .int .i64 pg, v']) ∧ ∃ qs, RowsT w' v' qs ∧ qs.map (·.1) = ps.map (·.1) ∧ Ext w w' := by
  obtain ⟨a0, a1, hE⟩ := boxes2 w (pa3 pk pg u) (pa3 ⟨#[]⟩ 0 (.slice none 0 0)) 39 39
  obtain ⟨aa, ca, rfl, hca, hcma, _⟩ := hin.get
  have hone := roCells_one ps (fun p hp => let ⟨a, c, e⟩ := (hin.cols p hp).shape; ⟨a, _, c, e⟩)
  obtain ⟨n, hn⟩ : ∃ n, n = ps.length := ⟨_, rfl⟩
  rw [← hn] at hlen hca a0 a1 hE ⊢
  have HN := Lib.hid hn
  clear hn
  go_enter Tryz.func57, Tryz.ntmps57
  go_wp2_with (first
    | (at_make; go_must (refine wpList_make_box _ info_Row und_Rows rfl (.tmp 9) (.tmp 9) rfl _ _ n rfl rfl (by omega) (by unfold maxLen; omega) ?_); intro w2 Z hZ hZs hE2; replace hZ : BoxAt w2 (w.heap.size + 1 + 1) Z 54 := (by simpa using hZ); replace a0 := a0.ext hE2; replace a1 := a1.ext hE2; replace hE := hE.trans hE2; have c0 := a0.pa; clear hE2)
    | (guard_target =~ wpList _ _ _ (Oper.mk _ (Op.call { callee := Callee.builtin Builtin.copy, args := _, argTypes := _ }) _ _ _ _ :: _) _ _; go_must (refine wpList_copy_box w2 info_Row und_Rows rfl (.tmp 11) (.tmp 13) rfl n (w.heap.size + 1 + 1) n rfl _ rfl Z _ hZ hZs (roCells ps) (by rw [roCells_length, HN.out]) (by rw [HN.out]; exact hin.rows.ext hE) hone ?_); intro w3 hR hg3; replace a0 := a0.grown hg3 (fun e => by have := Option.some.inj e; omega); replace a1 := a1.grown hg3 (fun e => by have := Option.some.inj e; omega); replace hE := hE.grown hg3 (fun q hq => by cases hq; omega); clear hZ hZs hg3 c0))
  go_loopw [17] (fun i wr => ∃ (k : Nat) (qs : List (Ro × Value)), k ≤ n ∧ i = .int .i64 k ∧ qs.length = n ∧ Hid (qs.map (·.1) = ps.map (·.1)) ∧ BoxAt wr (w.heap.size + 1 + 1) (roCells qs).toArray 54 ∧ BoxAt wr w.heap.size (pa3 pk pg (.slice aa n ca)) 39 ∧ BoxAt wr (w.heap.size + 1) (pa3 ⟨#[]⟩ 0 (.slice none 0 0)) 39 ∧ Ext w wr ∧ Hid (∀ j (h : j < qs.length), j < k → DoneC wr (w.heap.size + 1 + 1) qs[j]) ∧ Hid (∀ j (h : j < qs.length), k ≤ j → ColsIn w qs[j].2 qs[j].1.cols)) (fun i _ => n - (intOf i).toNat)
  case atStart => exact ⟨0, ps, Nat.zero_le _, rfl, HN.out.symm, rfl, hR, a0, a1, hE, fun j _ h => absurd h (Nat.not_lt_zero j), fun j h _ => hin.cols _ (List.getElem_mem h)⟩
  case round =>
    obtain ⟨k, qs, hk, rfl, hql, HM, hRk, b0, b1, hE, HD, HC⟩ := hrel
    clear a0 a1 hR
    by_cases hlt : k < n
    · have hki : decide ((k : Int) < (n : Int)) = true := by simpa using hlt
      have hkq : k < qs.length := by omega
      have hcu := HC.out k hkq (Nat.le_refl _)
      obtain ⟨M, hM⟩ : ∃ M, M = qs[k].1 := ⟨_, rfl⟩
      obtain ⟨au, cu, hu⟩ := hcu.shape
      rw [← hM] at hcu hu
      rw [hu] at hcu
      have hat := rowBox_at hRk k hkq
      rw [← hM, hu] at hat
      have HM' := Lib.hid hM
      have HU := Lib.hid hu
      clear hM hu
      have hml : M.cols.length ≤ 1000000 := by
        have hmem : M ∈ ps.map (·.1) := by rw [← HM.out, HM'.out]; exact List.mem_map_of_mem (List.getElem_mem hkq)
        obtain ⟨p, hp, e⟩ := List.mem_map.1 hmem
        rw [← e]; exact hcl p hp
      obtain ⟨L, hL⟩ : ∃ L, L = M.cols := ⟨_, rfl⟩
      rw [← hL] at hcu hat hml
      have HL := Lib.hid hL
      clear hL
      obtain ⟨m, hm⟩ : ∃ m, m = L.length := ⟨_, rfl⟩
      rw [← hm] at hcu hat hml
      have Hm := Lib.hid hm
      clear hm
      obtain ⟨x0, x1, x2, x3, x4, x5, x6, x7⟩ := hat
      have hRs := hRk.lt
      by_cases hm0 : 0 < m
      rotate_left
      · skip
        go_wp2_with (first
          | (((guard_target =~ wpList _ _ _ (Oper.mk none (Op.store _ (Operand.tmp 5) (Operand.tmp 21)) _ _ _ _ :: _) _ _); go_must (refine storeBox rfl 54 (.tmp 5) (.tmp 21) rfl (wr.heap.size) _ _ _ (by rfl) (by rfl) ((BoxAt.made wr (ro8 ⟨⟨#[]⟩, zeroCl, 0, 0, []⟩ (.slice none 0 0)) 54)) (by kernel_rfl) (by rfl) (by simp [Value.oneCell']) ?_); intro w4 c4 g4); have hX4 : Ext wr w4 := ((Ext.refl wr).alloc _).grown g4 (fun q hq => by cases hq; omega); have d4 := c4.ro (r := ⟨M.key, M.live, M.gone, M.shade, []⟩) (v := .slice au m cu))
          | (at_make; go_must (refine wpList_make_box w4 info_Col und_Cols rfl (.tmp 24) (.tmp 24) rfl _ _ m rfl rfl (by omega) (by unfold maxLen; omega) ?_); intro w5 Z5 hZ5 hZs5 hE5; have hX5 := hX4.trans hE5; have d5 := (c4.ext hE5).ro (r := ⟨M.key, M.live, M.gone, M.shade, []⟩) (v := .slice au m cu); clear d4)
          | (guard_target =~ wpList _ _ _ (Oper.mk _ (Op.call { callee := Callee.builtin Builtin.copy, args := _, argTypes := _ }) _ _ _ _ :: _) _ _; go_must (refine wpList_copy_box w5 info_Col und_Cols rfl (.tmp 26) (.tmp 28) rfl m w4.heap.size m rfl _ rfl Z5 _ hZ5 hZs5 (coCells L) (by rw [coCells_length, Hm.out]) (show SliceIn _ _ m _ from by have := hcu.ext (hE.trans hX5); unfold ColsIn at this; rwa [← Hm.out] at this) (coCells_one L) ?_); intro w6 hb6 hg6; have hX6 := hX5.grown hg6 (fun q hq => by cases hq; exact hX4.le); have hR6 := hRk.ext hX6; have y7 := (rowBox_at hR6 k hkq).c7; have f7 := hR6.free (k * 8 + 7); clear d5 hg6))
        have hS1 := rowBox_set hR6 k hkq (.slice none 0 0)
        have hXX := hE.trans hX6
        go_roundw
        case rel =>
          have hlen' : (qs.set k (qs[k].1, .slice none 0 0)).length = qs.length := List.length_set ..
          refine ⟨k + 1, qs.set k (qs[k].1, .slice none 0 0), hlt, rfl, by rw [hlen', hql], ?_, hS1, (b0.ext hX6).other (by omega) _ _, (b1.ext hX6).other (by omega) _ _, hXX.setCell (by show w.heap.size ≤ w.heap.size + 1 + 1; omega) _, fun j h hj => ?_, fun j h hj => ?_⟩
          · show _ = _
            rw [← HM.out, List.map_set]
            refine List.ext_getElem? fun i => ?_
            rw [List.getElem?_set]
            split
            · rename_i e; subst e; simp [hkq]
            · rfl
          · rw [List.getElem_set]
            split
            · rename_i e
              refine .inl ⟨rfl, ?_⟩
              show qs[k].1.cols = []
              rw [← HM'.out, ← HL.out]
              exact List.eq_nil_of_length_eq_zero (by rw [← Hm.out]; omega)
            · exact ((HD.out j (by rw [hlen'] at h; exact h) (by omega)).ext hX6).set
          · rw [List.getElem_set]
            split
            · omega
            · exact HC.out j (by rw [hlen'] at h; exact h) (by omega)
        case measure => simp [intOf]; omega
      · have hmi : decide ((0 : Int) < (m : Int)) = true := decide_eq_true (by omega)
        go_wp2_with (first
          | (((guard_target =~ wpList _ _ _ (Oper.mk none (Op.store _ (Operand.tmp 5) (Operand.tmp 21)) _ _ _ _ :: _) _ _); go_must (refine storeBox rfl 54 (.tmp 5) (.tmp 21) rfl (wr.heap.size) _ _ _ (by rfl) (by rfl) ((BoxAt.made wr (ro8 ⟨⟨#[]⟩, zeroCl, 0, 0, []⟩ (.slice none 0 0)) 54)) (by kernel_rfl) (by rfl) (by simp [Value.oneCell']) ?_); intro w4 c4 g4); have hX4 : Ext wr w4 := ((Ext.refl wr).alloc _).grown g4 (fun q hq => by cases hq; omega); have d4 := c4.ro (r := ⟨M.key, M.live, M.gone, M.shade, []⟩) (v := .slice au m cu))
          | (at_make; go_must (refine wpList_make_box w4 info_Col und_Cols rfl (.tmp 24) (.tmp 24) rfl _ _ m rfl rfl (by omega) (by unfold maxLen; omega) ?_); intro w5 Z5 hZ5 hZs5 hE5; have hX5 := hX4.trans hE5; have d5 := (c4.ext hE5).ro (r := ⟨M.key, M.live, M.gone, M.shade, []⟩) (v := .slice au m cu); clear d4)
          | (guard_target =~ wpList _ _ _ (Oper.mk _ (Op.call { callee := Callee.builtin Builtin.copy, args := _, argTypes := _ }) _ _ _ _ :: _) _ _; go_must (refine wpList_copy_box w5 info_Col und_Cols rfl (.tmp 26) (.tmp 28) rfl m w4.heap.size m rfl _ rfl Z5 _ hZ5 hZs5 (coCells L) (by rw [coCells_length, Hm.out]) (show SliceIn _ _ m _ from by have := hcu.ext (hE.trans hX5); unfold ColsIn at this; rwa [← Hm.out] at this) (coCells_one L) ?_); intro w6 hb6 hg6; have hX6 := hX5.grown hg6 (fun q hq => by cases hq; exact hX4.le); have hR6 := hRk.ext hX6; have y7 := (rowBox_at hR6 k hkq).c7; have f7 := hR6.free (k * 8 + 7); clear d5 hg6))
        have hS0 := rowBox_set hR6 k hkq (.slice none 0 0)
        have hS1 := rowBox_set hS0 k (by rw [List.length_set]; exact hkq) (.slice (some ⟨w4.heap.size, 0, none⟩) m m)
        rw [List.set_set, List.getElem_set_self] at hS1
        have hle4 := hX4.le
        have hXX := hE.trans hX6
        go_roundw
        case rel =>
          have hlen' : (qs.set k (qs[k].1, .slice (some ⟨w4.heap.size, 0, none⟩) m m)).length = qs.length := List.length_set ..
          refine ⟨k + 1, qs.set k (qs[k].1, .slice (some ⟨w4.heap.size, 0, none⟩) m m), hlt, rfl, by rw [hlen', hql], ?_, hS1, ((b0.ext hX6).other (by omega) _ _).other (by omega) _ _, ((b1.ext hX6).other (by omega) _ _).other (by omega) _ _, (hXX.setCell (by show w.heap.size ≤ w.heap.size + 1 + 1; omega) _).setCell (by show w.heap.size ≤ w.heap.size + 1 + 1; omega) _, fun j h hj => ?_, fun j h hj => ?_⟩
          · show _ = _
            rw [← HM.out, List.map_set]
            refine List.ext_getElem? fun i => ?_
            rw [List.getElem?_set]
            split
            · rename_i e; subst e; simp [hkq]
            · rfl
          · rw [List.getElem_set]
            split
            · rename_i e
              have hcols : qs[k].1.cols = L := by rw [← HM'.out, ← HL.out]
              refine .inr ⟨w4.heap.size, by omega, ?_, ?_, ?_⟩
              · show Value.slice _ m m = _
                simp only [hcols, ← Hm.out]
              · show BoxAt _ _ (coCells qs[k].1.cols).toArray _
                rw [hcols]
                exact (hb6.other (by omega) _ _).other (by omega) _ _
              · show qs[k].1.cols.length ≤ _
                rw [hcols, ← Hm.out]
                exact hml
            · exact ((HD.out j (by rw [hlen'] at h; exact h) (by omega)).ext hX6).set.set
          · rw [List.getElem_set]
            split
            · omega
            · exact HC.out j (by rw [hlen'] at h; exact h) (by omega)
        case measure => simp [intOf]; omega
    · have c0 := b0.pa
      have e0 := b0.free 2
      have c1 := b1.pa
      by_cases hn0 : 0 < n
      · go_wp2_with ((guard_target =~ wpList _ _ _ (Oper.mk none (Op.store _ (Operand.tmp 2) (Operand.tmp 49)) _ _ _ _ :: _) _ _); go_must (refine storeBox rfl 39 (.tmp 2) (.tmp 49) rfl (w.heap.size + 1) _ _ _ (by rfl) (by rfl) (((b1.other (by omega) _ _).other (by omega) _ _)) (by kernel_rfl) (by rfl) (by simp [Value.oneCell']) ?_); intro w9 c9 g9)
        have hX9 := ((hE.setCell (p := ⟨w.heap.size, 2, none⟩) (Nat.le_refl _) (.slice none 0 0)).setCell (p := ⟨w.heap.size, 2, none⟩) (Nat.le_refl _) (.slice (some ⟨w.heap.size + 1 + 1, 0, none⟩) n n)).grown g9 (fun q hq => by cases hq; omega)
        have hR9 := ((hRk.other (by omega) _ _).other (by omega) _ _).grown g9 (fun e => by have := Option.some.inj e; omega)
        have hD9 : ∀ p ∈ qs, DoneC w9 (w.heap.size + 1 + 1) p := fun p hp => by
          obtain ⟨j, hj, rfl⟩ := List.mem_iff_getElem.1 hp
          exact (((HD.out j hj (by omega)).other (by omega)).other (by omega)).grown (by omega) g9
        have FINR : RowsT w9 (.slice (some ⟨w.heap.size + 1 + 1, 0, none⟩) n n) qs := by
          rw [← hql]
          exact ⟨TIn.box hR9 (by unfold maxLen; omega), fun p hp => (hD9 p hp).typed⟩
        obtain ⟨z0, z1, z2⟩ := c9.pa (k := pk) (g := pg) (u := .slice (some ⟨w.heap.size + 1 + 1, 0, none⟩) n n)
        refine bodyPost_ret (v := .agg #[.string pk, .int .i64 pg, .slice (some ⟨w.heap.size + 1 + 1, 0, none⟩) n n]) ?_ rfl ⟨_, rfl, qs, FINR, HM.out, hX9⟩
        simp [results, Tryz.results57, go_sem, z0, z1, z2]
      · go_wp2_with ((guard_target =~ wpList _ _ _ (Oper.mk none (Op.store _ (Operand.tmp 2) (Operand.tmp 49)) _ _ _ _ :: _) _ _); go_must (refine storeBox rfl 39 (.tmp 2) (.tmp 49) rfl (w.heap.size + 1) _ _ _ (by rfl) (by rfl) ((b1.other (by omega) _ _)) (by kernel_rfl) (by rfl) (by simp [Value.oneCell']) ?_); intro w9 c9 g9)
        have hX9 := (hE.setCell (p := ⟨w.heap.size, 2, none⟩) (Nat.le_refl _) (.slice none 0 0)).grown g9 (fun q hq => by cases hq; omega)
        obtain rfl : qs = [] := List.eq_nil_of_length_eq_zero (by omega)
        obtain ⟨z0, z1, z2⟩ := c9.pa (k := pk) (g := pg) (u := .slice none 0 0)
        refine bodyPost_ret (v := .agg #[.string pk, .int .i64 pg, .slice none 0 0]) ?_ rfl ⟨_, rfl, [], RowsT.nil _, HM.out, hX9⟩
        simp [results, Tryz.results57, go_sem, z0, z1, z2]
end Go.Proofs.YtolkhjdododdaaaGreat

/- part.Join. -/
namespace Go.Proofs.YtolkhjdododdaaaGreat
open Go Go.RowKit
attribute [local go_sem] yields yUpon ro8 pa3

theorem mem_mergeG {α : Type} {cmp : α → α → Int} {join : α → α → α} {l m : List α} {x : α} (h : x ∈ mergeG cmp join l m) : x ∈ l ∨ x ∈ m ∨ ∃ a ∈ l, ∃ b ∈ m, cmp a b = 0 ∧ x = join a b := by
  fun_induction mergeG cmp join l m with
  | case1 m => exact .inr (.inl h)
  | case2 a l => exact .inl h
  | case3 a l b m hc ih =>
    rcases List.mem_cons.1 h with rfl | h
    · exact .inl (List.mem_cons_self ..)
    · rcases ih h with h | h | ⟨y, hy, z, hz, hyz, e⟩
      · exact .inl (List.mem_cons_of_mem _ h)
      · exact .inr (.inl h)
      · exact .inr (.inr ⟨y, List.mem_cons_of_mem _ hy, z, hz, hyz, e⟩)
  | case4 a l b m hc hc' ih =>
    rcases List.mem_cons.1 h with rfl | h
    · exact .inr (.inl (List.mem_cons_self ..))
    · rcases ih h with h | h | ⟨y, hy, z, hz, hyz, e⟩
      · exact .inl h
      · exact .inr (.inl (List.mem_cons_of_mem _ h))
      · exact .inr (.inr ⟨y, hy, z, List.mem_cons_of_mem _ hz, hyz, e⟩)
  | case5 a l b m hc hc' ih =>
    rcases List.mem_cons.1 h with rfl | h
    · exact .inr (.inr ⟨a, List.mem_cons_self .., b, List.mem_cons_self .., by omega, rfl⟩)
    · rcases ih h with h | h | ⟨y, hy, z, hz, hyz, e⟩
      · exact .inl (List.mem_cons_of_mem _ h)
      · exact .inr (.inl (List.mem_cons_of_mem _ h))
      · exact .inr (.inr ⟨y, List.mem_cons_of_mem _ hy, z, List.mem_cons_of_mem _ hz, hyz, e⟩)
/-- Rows with few columns each. -/
def FewCols (l : List Ro) : Prop := ∀ r ∈ l, r.cols.length ≤ 500000
theorem few_merge {l m : List Ro} (hl : FewCols l) (hm : FewCols m) : ∀ r ∈ mergeRo l m, r.cols.length ≤ 1000000 := by
  intro r hr
  rcases mem_mergeG hr with h | h | ⟨a, ha, b, hb, _, rfl⟩
  · exact Nat.le_trans (hl r h) (by omega)
  · exact Nat.le_trans (hm r h) (by omega)
  · have h1 := mergeCo_len a.cols b.cols
    have h2 := hl a ha
    have h3 := hm b hb
    show (mergeCo a.cols b.cols).length ≤ _
    omega

/-- What part.Join hands back. -/
def JoinPost (w : World) (k : ByteArray) (g : Int) (J : List Ro) (e : Ending) (w' : World) : Prop :=
  Ext w w' ∧ ((J.length ≤ 100 ∧ ∃ v', e = .returned (.tuple #[.agg #[.string k, .int .i64 g, v'], .bool true]) ∧ ∃ qs, RowsT w' v' qs ∧ qs.map (·.1) = J) ∨
    (100 < J.length ∧ e = .returned (.tuple #[.agg #[.string ⟨#[]⟩, .int .i64 0, .slice none 0 0], .bool false])))

set_option maxRecDepth 100000 in
set_option maxHeartbeats 4000000 in
theorem pjoin_walk (ka kb : ByteArray) (ga gb : Int) (ua ub : Value) (la lb : List (Ro × Value)) (w : World) (ha : RowsIn w ua la) (hb : RowsIn w ub lb) (hlen : la.length + lb.length ≤ 1000000) (fa : FewCols (la.map (·.1))) (fb : FewCols (lb.map (·.1))) :
    Calls Tryz.prog 31 #[.agg #[.string ka, .int .i64 ga, ua], .agg #[.string kb, .int .i64 gb, ub]] w fun e w' => JoinPost w ka (max ga gb) (mergeRo (la.map (·.1)) (lb.map (·.1))) e w' := by
  obtain ⟨a0, a1, a2, hE⟩ := boxes3 w (pa3 ka ga ua) (pa3 kb gb ub) (pa3 ⟨#[]⟩ 0 (.slice none 0 0)) 39 39 39
  obtain ⟨J, hJ⟩ : ∃ J, J = mergeRo (la.map (·.1)) (lb.map (·.1)) := ⟨_, rfl⟩
  rw [← hJ]
  have HJ := Lib.hid hJ
  clear hJ
  obtain ⟨mg, hmg⟩ : ∃ mg, mg = max ga gb := ⟨_, rfl⟩
  rw [← hmg]
  have HG := Lib.hid hmg
  clear hmg
  go_enter Tryz.func31, Tryz.ntmps31
  go_wp2_with fail
  refine (mergeRo_any ua ub la lb _ (ha.ext hE) (hb.ext hE) hlen (fun p hp q hq => by have := fa p.1 (List.mem_map_of_mem hp); have := fb q.1 (List.mem_map_of_mem hq); omega)).mono ?_
  rintro e w1 ⟨v', rfl, ps, hown, hsafe, hmap, hE1⟩
  rw [← HJ.out] at hmap
  have hrows := rows_own hown hE1 hsafe
  have hpl : J.length = ps.length := by rw [← hmap]; simp
  obtain ⟨ca, cc, rfl⟩ := own_shape hown
  have hJl : J.length ≤ 1000000 := by
    rw [HJ.out]
    have := mergeG_len keyR joinRo (la.map (·.1)) (lb.map (·.1))
    unfold mergeRo
    simp at this
    omega
  clear hown hsafe
  replace a0 := a0.ext hE1
  replace a1 := a1.ext hE1
  replace a2 := a2.ext hE1
  replace hE := hE.trans hE1
  have c0 := a0.pa
  have c1 := a1.pa
  clear hE1
  rw [← hpl]
  by_cases hfit : 100 < J.length
  · go_wp2_with ((guard_target =~ wpList _ _ _ (Oper.mk none (Op.store _ (Operand.tmp 4) (Operand.tmp 15)) _ _ _ _ :: _) _ _); go_must (refine storeBox rfl 39 (.tmp 4) (.tmp 15) rfl (w.heap.size + 1 + 1) _ _ _ (by rfl) (by rfl) (a2) (by kernel_rfl) (by rfl) (by simp [Value.oneCell']) ?_); intro w9 c9 g9)
    obtain ⟨z0, z1, z2⟩ := c9.pa (k := ⟨#[]⟩) (g := 0) (u := .slice none 0 0)
    refine bodyPost_ret (v := .tuple #[.agg #[.string ⟨#[]⟩, .int .i64 0, .slice none 0 0], .bool false]) ?_ rfl ⟨hE.grown g9 (fun q hq => by cases hq; omega), .inr ⟨by omega, rfl⟩⟩
    simp [results, Tryz.results31, go_sem, z0, z1, z2]
  · go_wp2_with fail
    refine (pcopy_any ka (max ga gb) _ ps w1 hrows (by omega) (fun p hp => few_merge fa fb p.1 (by rw [← HJ.out, ← hmap]; exact List.mem_map_of_mem hp))).mono ?_
    rintro e w2 ⟨v', rfl, qs, hqs, hqm, hE2⟩
    obtain ⟨aq, cq, rfl⟩ := hqs.shape
    obtain ⟨nq, hnq⟩ : ∃ nq, nq = qs.length := ⟨_, rfl⟩
    rw [← hnq] at hqs ⊢
    clear hnq
    replace a2 := a2.ext hE2
    go_wp2_with ((guard_target =~ wpList _ _ _ (Oper.mk none (Op.store _ (Operand.tmp 4) (Operand.tmp 25)) _ _ _ _ :: _) _ _); go_must (refine storeBox rfl 39 (.tmp 4) (.tmp 25) rfl (w.heap.size + 1 + 1) _ _ _ (by rfl) (by rfl) (a2) (by kernel_rfl) (by rfl) (by simp [Value.oneCell']) ?_); intro w9 c9 g9)
    have hrow9 := hqs.keep g9 a2 (by decide) (by decide)
    obtain ⟨z0, z1, z2⟩ := c9.pa (k := ka) (g := max ga gb) (u := .slice aq nq cq)
    refine bodyPost_ret (v := .tuple #[.agg #[.string ka, .int .i64 (max ga gb), .slice aq nq cq], .bool true]) ?_ rfl ⟨(hE.trans hE2).grown g9 (fun q hq => by cases hq; omega), .inl ⟨by omega, _, by rw [HG.out], qs, hrow9, hqm.trans hmap⟩⟩
    simp [results, Tryz.results31, go_sem, z0, z1, z2]
end Go.Proofs.YtolkhjdododdaaaGreat
