/- row.Merge over columns. -/
import Derived.Test.YteamiiekpjoclaaDoorM8
import Derived.Test.YteamiiekpjoclaaDoorM4
import Derived.Laws.MakeOwn
import Derived.OwnWalk
import Derived.Test.YteamiiekpjoclaaDoorM3
namespace Go.Proofs.YteamiiekpjoclaaDoor
open Go Go.RowKit
attribute [local go_sem] yields yUpon co5

theorem ColsIn.uncons {w : World} {v : Value} {l : List Co} (h : ColsIn w v l) (hl : 0 < l.length) : ∃ b o c A l', l = A :: l' ∧ v = .slice (some ⟨b, o, none⟩) l.length c ∧ l.length ≤ c ∧ c ≤ 9223372036854775807 ∧ CoAt w b o A ∧ ColsIn w (.slice (if c = 1 then some ⟨b, o, none⟩ else some ⟨b, o + 5, none⟩) (l.length - 1) (c - 1)) l' := by
  obtain ⟨a, c, rfl, hc, hcm, hg⟩ := h.get
  obtain ⟨b, o, rfl, h0⟩ := hg 0 hl
  cases l with
  | nil => cases hl
  | cons A l' =>
    refine ⟨b, o, c, A, l', rfl, rfl, hc, hcm, by simpa using h0, ?_⟩
    obtain ⟨a', c', e, hc', hcm', ha', hcell⟩ := h
    cases e
    refine ⟨if c = 1 then some ⟨b, o, none⟩ else some ⟨b, o + 5, none⟩, c - 1, by simp, by simp at hc' ⊢; omega, by unfold maxLen; omega, (by intro h; split at h <;> cases h), fun j u hj => ?_⟩
    obtain ⟨b', o', e, hx⟩ := hcell (j + 5) u (by simpa [coCells] using hj)
    cases e
    by_cases h1 : c = 1
    · have h2 : l' = [] := List.eq_nil_of_length_eq_zero (by simp at hc'; omega)
      subst h2
      cases hj
    · rw [if_neg h1]
      exact ⟨b, o + 5, rfl, by rw [Nat.add_assoc, Nat.add_comm 5 j]; exact hx⟩

/-- What stays true in a round's region: the row under way may be appended to. -/
structure MC (w wr : World) (vo : Value) (out : List Co) (x : World) : Prop where
  ext : Ext w x
  own : x.ownsRow w.heap.size 80 5 vo out.length (coCells out)
  size : wr.heap.size ≤ x.heap.size
theorem MC.ext' {w wr : World} {vo : Value} {out : List Co} {x y : World} (hE : Ext x y) (h : MC w wr vo out x) : MC w wr vo out y := ⟨h.ext.trans hE, ownsRow_ext h.own hE, Nat.le_trans h.size hE.le⟩
def ME (vo : Value) (n j : Nat) (x y : World) : Prop := if j = n then x.grownBy y vo.ownBlock else Ext x y
theorem ME_ext {vo : Value} {n j : Nat} {x y : World} (h : Ext x y) : ME vo n j x y := by
  unfold ME
  split
  · exact grownBy_ext (grownBy_refl x _) h
  · exact h
theorem ME_off {vo : Value} {n j : Nat} (hj : j ≠ n) {x y : World} (h : ME vo n j x y) : Ext x y := by
  unfold ME at h
  rwa [if_neg hj] at h
theorem ME_box {w wr : World} {vo : Value} {n j m s : Nat} {T : TypeId} {xs : List Value} (hown : wr.ownsRow w.heap.size T s vo m xs) {x y : World} (h : ME vo n j x y) {b : Nat} (hb : wr.heap.size ≤ b) {cs : Array Value} {e : TypeId} (hx : BoxAt x b cs e) : BoxAt y b cs e := by
  unfold ME at h
  split at h
  · exact hx.grown h (fun e => by have := (hown.lt _ e.symm).2; omega)
  · exact hx.ext h

set_option maxRecDepth 100000 in
set_option maxHeartbeats 4000000 in
theorem mergeCo_any (va vb : Value) (la lb : List Co) (w : World) (ha : ColsIn w va la) (hb : ColsIn w vb lb) (hlen : la.length + lb.length ≤ 1000000) :
    Calls Tryd.prog 59 #[va, vb, .func (.func 60) #[] #[], .func (.func 62) #[] #[]] w fun e w' => ∃ v', e = .returned v' ∧ w'.ownsRow w.heap.size 80 5 v' (mergeCo la lb).length (coCells (mergeCo la lb)) ∧ Ext w w' := by
  obtain ⟨i0, hi, hz0, hz1, hz2⟩ := info_parts info_Col
  obtain ⟨aa, ca, rfl, hca, hcma, _⟩ := ha.get
  obtain ⟨ab, cb, rfl, hcb, hcmb, _⟩ := hb.get
  go_enter Tryd.func59, Tryd.ntmps59
  go_wp2_with (at_make; go_must (refine wpList_make_own _ rfl _ _ 24 rfl w.heap.size 80 i0 _ 5 und_Cols hi hz0 hz1 _ _ _ (la.length + lb.length) rfl rfl (by omega) ?b2 ?b3 (Nat.le_refl _) ?_))
  case b2 => rw [hz2]; omega
  case b3 => unfold maxLen; omega
  intro w0 hown0 hgrow0
  go_wp2
  go_loopw [0, 1, 9] (fun sa sb so wr => ∃ (l m out : List Co), ColsIn w sa l ∧ ColsIn w sb m ∧ wr.ownsRow w.heap.size 80 5 so out.length (coCells out) ∧ Ext w wr ∧ Hid (mergeCo la lb = out ++ mergeCo l m) ∧ out.length + l.length + m.length ≤ la.length + lb.length) (fun sa sb _ _ => lenOf sa + lenOf sb)
  case atStart => exact ⟨la, lb, [], ha, hb, hown0, (Ext.refl w).grown hgrow0 (fun q hq => by cases hq), rfl, by simp⟩
  case round =>
    obtain ⟨l, m, out, hl, hm, hown, hE, HM, hsum⟩ := hrel
    by_cases h1 : 0 < l.length
    · by_cases h2 : 0 < m.length
      · obtain ⟨b1, o1, c1, A, l', hll, rfl, hc1, hcm1, hA, hl'⟩ := hl.uncons h1
        obtain ⟨b2, o2, c2, B, m', hmm, rfl, hc2, hcm2, hB, hm'⟩ := hm.uncons h2
        have h1' : decide ((0 : Int) < (l.length : Int)) = true := decide_eq_true (by omega)
        have h2' : decide ((0 : Int) < (m.length : Int)) = true := decide_eq_true (by omega)
        have HL := Lib.hid hll
        have HN := Lib.hid hmm
        clear hll hmm
        go_wp2_with fail
        refine wp_region_in 9 [(7, fun v _ => v = .int .i64 (keyC A B))] (fun x => Ext w x ∧ wr.heap.size ≤ x.heap.size ∧ x.ownsRow w.heap.size 80 5 u9 out.length (coCells out)) (by kernel_rfl) (by kernel_rfl) (by kernel_rfl) ⟨stays_eq _, trivial⟩ ⟨hE, Nat.le_refl _, hown⟩ ?_
        clear hE
        rintro w1 ⟨hE, hle, hown1⟩
        have FIN : Hid (∀ wx, Ext w1 wx → Ext w wx ∧ wr.heap.size ≤ wx.heap.size ∧ wx.ownsRow w.heap.size 80 5 u9 out.length (coCells out)) := fun wx h => ⟨hE.trans h, Nat.le_trans hle h.le, ownsRow_ext hown1 h⟩
        obtain ⟨x0, x1, x2, x3, x4⟩ := hA.ext hE
        obtain ⟨y0, y1, y2, y3, y4⟩ := hB.ext hE
        replace x0 := held x0
        replace x1 := held x1
        replace x2 := held x2
        replace x3 := held x3
        replace x4 := held x4
        replace y0 := held y0
        replace y1 := held y1
        replace y2 := held y2
        replace y3 := held y3
        replace y4 := held y4
        clear hE hle hown1
        refine rg_quiet rfl rfl rfl rfl ?_; intro K hK; go_big_quiet_op; go_big_quiet_on
        refine rg_quiet rfl rfl rfl rfl ?_; intro K hK; go_big_quiet_op; go_big_quiet_on
        refine rg_quiet rfl rfl rfl rfl ?_; intro K hK; go_big_quiet_op; go_big_quiet_on
        refine rg_quiet rfl rfl rfl rfl ?_; intro K hK; go_big_quiet_op; go_big_quiet_on
        refine rg_quiet rfl rfl rfl rfl ?_; intro K hK; go_big_quiet_op; go_big_quiet_on
        refine rg_quiet rfl rfl rfl rfl ?_; intro K hK; go_big_quiet_op; go_big_quiet_on
        refine rg_quiet rfl rfl rfl rfl ?_; intro K hK; go_big_quiet_op; go_big_quiet_on
        refine rg_val [] rfl rfl rfl (by kernel_rfl) (fun w1 hE hf => ?_) ?_
        · go_simp
          exact (rj1_any A B w1).mono fun e w' ⟨he, hw⟩ => ⟨_, he, rg_done hE hw (rfl)⟩
        simp only [Act.put, List.setIfInBounds_toArray, List.set_cons_zero, List.set_cons_succ]
        refine rg_quiet rfl rfl rfl rfl ?_; intro K hK; go_big_quiet_op; go_big_quiet_on
        refine rel_nil fun w2 hE2 _ => ?_
        obtain ⟨hE2', hle, hown2⟩ := FIN.out w2 hE2
        clear x0 x1 x2 x3 x4 y0 y1 y2 y3 y4 FIN hE2
        have hE2 := hE2'
        clear hE2'
        obtain ⟨kc, hkc⟩ : ∃ kc, kc = keyC A B := ⟨_, rfl⟩
        rw [← hkc]
        have HK := Lib.hid hkc
        clear hkc
        have hsz2 : wr.heap.size ≤ w2.heap.size := hle
        by_cases k1 : kc < 0
        · go_wp2_with fail
          refine wp_region_relE (MC w wr u9 out) (ME u9 5) (Tab.atE [(3, fun v _ => v = (.agg #[.string A.name, .string A.cell.val, .bool A.cell.dead, .int .i64 A.cell.at_, .int .i64 A.cell.fin])), (4, fun v x => ∃ b, v = .slice (some ⟨b, 0, none⟩) 1 1 ∧ wr.heap.size ≤ b ∧ BoxAt x b (co5 A) 80), (5, fun v x => x.ownsRow w.heap.size 80 5 v (out.length + 1) (coCells (out ++ [A])))])
            (Tab.staysE ⟨fun _ _ _ _ _ _ h => h, fun j _ v x y hR ⟨b, e, hb, hx⟩ => ⟨b, e, hb, ME_box hown hR hb hx⟩, fun j hj v x y hR h => ownsRow_ext h (ME_off hj hR), trivial⟩)
            12 (by kernel_rfl) (by kernel_rfl) (by kernel_rfl) ((⟨hE2, hown2, hsz2⟩ : MC w wr u9 out w2).ext' (Ext.refl w2).drew) ?_
          refine relE_quiet rfl rfl rfl rfl ?_; intro K hK; go_big_quiet_op; (first | refine ⟨_, fun _ _ => rfl, hK _ ?_⟩ | refine hK _ ?_); clear hK K
          refine relE_quiet rfl rfl rfl rfl ?_; intro K hK; go_big_quiet_op; (first | refine ⟨_, fun _ _ => rfl, hK _ ?_⟩ | refine hK _ ?_); clear hK K
          refine relE_quiet rfl rfl rfl rfl ?_; intro K hK; go_big_quiet_op; (first | refine ⟨_, fun _ _ => rfl, hK _ ?_⟩ | refine hK _ ?_); clear hK K
          refine relE_val [] rfl rfl rfl (by kernel_rfl) (fun z hz hf => ?_) ?_
          · obtain ⟨x0, x1, x2, x3, x4⟩ := hA.ext hz.ext
            go_simp
            exact ⟨hz, ME_ext (Ext.refl z), rfl⟩
          simp only [Act.put, List.setIfInBounds_toArray, List.set_cons_zero, List.set_cons_succ]
          refine relE_fact [] rfl rfl rfl (by kernel_rfl) (fun z hz hf => ?_) (fun v4 z4 hC4 hG4 h4 => ?_)
          · go_simp
            exact ⟨hz.ext' ((Ext.refl z).alloc _), ME_ext ((Ext.refl z).alloc _), _, rfl, hz.size, BoxAt.made z _ _⟩
          obtain ⟨b4, rfl, hb4, _⟩ := h4
          have HB4 := Lib.hid hb4
          clear hC4 hG4 hb4
          simp only [Act.put, List.setIfInBounds_toArray, List.set_cons_zero, List.set_cons_succ]
          refine relE_fact [4] rfl rfl rfl (by kernel_rfl) (fun z hz hf => ?_) (fun v5 z5 hC5 hG5 h5 => ?_)
          · obtain ⟨b, e, _, hbox⟩ := (hf 4 (by simp)).2 rfl
            cases e
            refine yields_append info_Col und_Cols rfl (by decide) (.tmp 51) (.tmp 55) rfl w.heap.size hz.ext.le u9 out.length (coCells out) hz.own (by rfl) b4 1 1 (co5 A).toList (by rfl) (by rfl) (fun j u hj => by rw [hbox.cell j]; simpa using hj) (by simp [co5, Value.oneCell']) (by unfold maxLen; omega) (by omega) ?_
            intro v' y hown' hg hkeep
            refine ⟨⟨hz.ext.grown hg (fun q hq => (hz.own.lt q hq).1), hkeep, Nat.le_trans hz.size hg.size⟩, by unfold ME; rw [if_pos rfl]; exact hg, ?_⟩
            rw [coCells_append]
            exact hown'
          obtain ⟨a5, c5, rfl⟩ := own_shape h5
          clear hC5 hG5 h5
          simp only [Act.put, List.setIfInBounds_toArray, List.set_cons_zero, List.set_cons_succ]
          refine relE_quiet rfl rfl rfl rfl ?_; intro K hK; go_big_quiet_op; (first | refine ⟨_, fun _ _ => rfl, hK _ ?_⟩ | refine hK _ ?_); clear hK K
          refine relE_quiet rfl rfl rfl rfl ?_; intro K hK; go_big_quiet_op; (first | refine ⟨_, fun _ _ => rfl, hK _ ?_⟩ | refine hK _ ?_); clear hK K
          refine relE_quiet rfl rfl rfl rfl ?_; intro K hK; go_big_quiet_op; (first | refine ⟨_, fun _ _ => rfl, hK _ ?_⟩ | refine hK _ ?_); clear hK K
          refine relE_quiet rfl rfl rfl rfl ?_; intro K hK; go_big_quiet_op; (first | refine ⟨_, fun _ _ => rfl, hK _ ?_⟩ | refine hK _ ?_); clear hK K
          refine relE_nil fun w9 hC hG => ?_
          have hown9 := (hG 5).2 rfl
          have hE9 := hC.ext
          clear hC hG HB4 hown hE2 hown2 hsz2
          go_wp2_with fail
          go_roundw
          case rel =>
            refine ⟨l', m, out ++ [A], hl', hm, by rw [List.length_append]; exact hown9, hE9, ?_, by have := congrArg List.length HL.out; simp at this ⊢; omega⟩
            show mergeCo la lb = _
            rw [HM.out, HL.out, HN.out, List.append_assoc]
            unfold mergeCo
            rw [mergeG_lt (by rw [← HK.out]; exact k1)]
            rfl
          case measure => simp [lenOf] <;> omega
        · by_cases k2 : 0 < kc
          · go_wp2_with fail
            refine wp_region_relE (MC w wr u9 out) (ME u9 5) (Tab.atE [(3, fun v _ => v = (.agg #[.string B.name, .string B.cell.val, .bool B.cell.dead, .int .i64 B.cell.at_, .int .i64 B.cell.fin])), (4, fun v x => ∃ b, v = .slice (some ⟨b, 0, none⟩) 1 1 ∧ wr.heap.size ≤ b ∧ BoxAt x b (co5 B) 80), (5, fun v x => x.ownsRow w.heap.size 80 5 v (out.length + 1) (coCells (out ++ [B])))])
              (Tab.staysE ⟨fun _ _ _ _ _ _ h => h, fun j _ v x y hR ⟨b, e, hb, hx⟩ => ⟨b, e, hb, ME_box hown hR hb hx⟩, fun j hj v x y hR h => ownsRow_ext h (ME_off hj hR), trivial⟩)
              12 (by kernel_rfl) (by kernel_rfl) (by kernel_rfl) ((⟨hE2, hown2, hsz2⟩ : MC w wr u9 out w2).ext' (Ext.refl w2).drew) ?_
            refine relE_quiet rfl rfl rfl rfl ?_; intro K hK; go_big_quiet_op; (first | refine ⟨_, fun _ _ => rfl, hK _ ?_⟩ | refine hK _ ?_); clear hK K
            refine relE_quiet rfl rfl rfl rfl ?_; intro K hK; go_big_quiet_op; (first | refine ⟨_, fun _ _ => rfl, hK _ ?_⟩ | refine hK _ ?_); clear hK K
            refine relE_quiet rfl rfl rfl rfl ?_; intro K hK; go_big_quiet_op; (first | refine ⟨_, fun _ _ => rfl, hK _ ?_⟩ | refine hK _ ?_); clear hK K
            refine relE_val [] rfl rfl rfl (by kernel_rfl) (fun z hz hf => ?_) ?_
            · obtain ⟨x0, x1, x2, x3, x4⟩ := hB.ext hz.ext
              go_simp
              exact ⟨hz, ME_ext (Ext.refl z), rfl⟩
            simp only [Act.put, List.setIfInBounds_toArray, List.set_cons_zero, List.set_cons_succ]
            refine relE_fact [] rfl rfl rfl (by kernel_rfl) (fun z hz hf => ?_) (fun v4 z4 hC4 hG4 h4 => ?_)
            · go_simp
              exact ⟨hz.ext' ((Ext.refl z).alloc _), ME_ext ((Ext.refl z).alloc _), _, rfl, hz.size, BoxAt.made z _ _⟩
            obtain ⟨b4, rfl, hb4, _⟩ := h4
            have HB4 := Lib.hid hb4
            clear hC4 hG4 hb4
            simp only [Act.put, List.setIfInBounds_toArray, List.set_cons_zero, List.set_cons_succ]
            refine relE_fact [4] rfl rfl rfl (by kernel_rfl) (fun z hz hf => ?_) (fun v5 z5 hC5 hG5 h5 => ?_)
            · obtain ⟨b, e, _, hbox⟩ := (hf 4 (by simp)).2 rfl
              cases e
              refine yields_append info_Col und_Cols rfl (by decide) (.tmp 62) (.tmp 66) rfl w.heap.size hz.ext.le u9 out.length (coCells out) hz.own (by rfl) b4 1 1 (co5 B).toList (by rfl) (by rfl) (fun j u hj => by rw [hbox.cell j]; simpa using hj) (by simp [co5, Value.oneCell']) (by unfold maxLen; omega) (by omega) ?_
              intro v' y hown' hg hkeep
              refine ⟨⟨hz.ext.grown hg (fun q hq => (hz.own.lt q hq).1), hkeep, Nat.le_trans hz.size hg.size⟩, by unfold ME; rw [if_pos rfl]; exact hg, ?_⟩
              rw [coCells_append]
              exact hown'
            obtain ⟨a5, c5, rfl⟩ := own_shape h5
            clear hC5 hG5 h5
            simp only [Act.put, List.setIfInBounds_toArray, List.set_cons_zero, List.set_cons_succ]
            refine relE_quiet rfl rfl rfl rfl ?_; intro K hK; go_big_quiet_op; (first | refine ⟨_, fun _ _ => rfl, hK _ ?_⟩ | refine hK _ ?_); clear hK K
            refine relE_quiet rfl rfl rfl rfl ?_; intro K hK; go_big_quiet_op; (first | refine ⟨_, fun _ _ => rfl, hK _ ?_⟩ | refine hK _ ?_); clear hK K
            refine relE_quiet rfl rfl rfl rfl ?_; intro K hK; go_big_quiet_op; (first | refine ⟨_, fun _ _ => rfl, hK _ ?_⟩ | refine hK _ ?_); clear hK K
            refine relE_quiet rfl rfl rfl rfl ?_; intro K hK; go_big_quiet_op; (first | refine ⟨_, fun _ _ => rfl, hK _ ?_⟩ | refine hK _ ?_); clear hK K
            refine relE_nil fun w9 hC hG => ?_
            have hown9 := (hG 5).2 rfl
            have hE9 := hC.ext
            clear hC hG HB4 hown hE2 hown2 hsz2
            go_wp2_with fail
            go_roundw
            case rel =>
              refine ⟨l, m', out ++ [B], hl, hm', by rw [List.length_append]; exact hown9, hE9, ?_, by have := congrArg List.length HN.out; simp at this ⊢; omega⟩
              show mergeCo la lb = _
              rw [HM.out, HL.out, HN.out, List.append_assoc]
              unfold mergeCo
              rw [mergeG_gt (by rw [← HK.out]; exact k2)]
              rfl
            case measure => simp [lenOf] <;> omega
          · obtain ⟨J, hJ⟩ : ∃ J, J = joinCo A B := ⟨_, rfl⟩
            have HJ := Lib.hid hJ
            clear hJ
            go_wp2_with fail
            refine wp_region_relE (MC w wr u9 out) (ME u9 10) (Tab.atE [(4, fun v _ => v = (.agg #[.string A.name, .string A.cell.val, .bool A.cell.dead, .int .i64 A.cell.at_, .int .i64 A.cell.fin])), (7, fun v _ => v = (.agg #[.string B.name, .string B.cell.val, .bool B.cell.dead, .int .i64 B.cell.at_, .int .i64 B.cell.fin])), (8, fun v _ => v = (.agg #[.string J.name, .string J.cell.val, .bool J.cell.dead, .int .i64 J.cell.at_, .int .i64 J.cell.fin])), (9, fun v x => ∃ b, v = .slice (some ⟨b, 0, none⟩) 1 1 ∧ wr.heap.size ≤ b ∧ BoxAt x b (co5 J) 80), (10, fun v x => x.ownsRow w.heap.size 80 5 v (out.length + 1) (coCells (out ++ [J])))])
              (Tab.staysE ⟨fun _ _ _ _ _ _ h => h, fun _ _ _ _ _ _ h => h, fun _ _ _ _ _ _ h => h, fun j _ v x y hR ⟨b, e, hb, hx⟩ => ⟨b, e, hb, ME_box hown hR hb hx⟩, fun j hj v x y hR h => ownsRow_ext h (ME_off hj hR), trivial⟩)
              20 (by kernel_rfl) (by kernel_rfl) (by kernel_rfl) ((⟨hE2, hown2, hsz2⟩ : MC w wr u9 out w2).ext' (Ext.refl w2).drew) ?_
            refine relE_quiet rfl rfl rfl rfl ?_; intro K hK; go_big_quiet_op; (first | refine ⟨_, fun _ _ => rfl, hK _ ?_⟩ | refine hK _ ?_); clear hK K
            refine relE_quiet rfl rfl rfl rfl ?_; intro K hK; go_big_quiet_op; (first | refine ⟨_, fun _ _ => rfl, hK _ ?_⟩ | refine hK _ ?_); clear hK K
            refine relE_quiet rfl rfl rfl rfl ?_; intro K hK; go_big_quiet_op; (first | refine ⟨_, fun _ _ => rfl, hK _ ?_⟩ | refine hK _ ?_); clear hK K
            refine relE_quiet rfl rfl rfl rfl ?_; intro K hK; go_big_quiet_op; (first | refine ⟨_, fun _ _ => rfl, hK _ ?_⟩ | refine hK _ ?_); clear hK K
            refine relE_val [] rfl rfl rfl (by kernel_rfl) (fun z hz hf => ?_) ?_
            · obtain ⟨x0, x1, x2, x3, x4⟩ := hA.ext hz.ext
              go_simp
              exact ⟨hz, ME_ext (Ext.refl z), rfl⟩
            simp only [Act.put, List.setIfInBounds_toArray, List.set_cons_zero, List.set_cons_succ]
            refine relE_quiet rfl rfl rfl rfl ?_; intro K hK; go_big_quiet_op; (first | refine ⟨_, fun _ _ => rfl, hK _ ?_⟩ | refine hK _ ?_); clear hK K
            refine relE_quiet rfl rfl rfl rfl ?_; intro K hK; go_big_quiet_op; (first | refine ⟨_, fun _ _ => rfl, hK _ ?_⟩ | refine hK _ ?_); clear hK K
            refine relE_val [] rfl rfl rfl (by kernel_rfl) (fun z hz hf => ?_) ?_
            · obtain ⟨x0, x1, x2, x3, x4⟩ := hB.ext hz.ext
              go_simp
              exact ⟨hz, ME_ext (Ext.refl z), rfl⟩
            simp only [Act.put, List.setIfInBounds_toArray, List.set_cons_zero, List.set_cons_succ]
            refine relE_val [] rfl rfl rfl (by kernel_rfl) (fun z hz hf => ?_) ?_
            · go_simp
              exact (rj2_any A B z).mono fun e y ⟨he, hy⟩ => ⟨_, he, hz.ext' hy, ME_ext hy, by rw [HJ.out]; rfl⟩
            simp only [Act.put, List.setIfInBounds_toArray, List.set_cons_zero, List.set_cons_succ]
            refine relE_fact [] rfl rfl rfl (by kernel_rfl) (fun z hz hf => ?_) (fun v4 z4 hC4 hG4 h4 => ?_)
            · go_simp
              exact ⟨hz.ext' ((Ext.refl z).alloc _), ME_ext ((Ext.refl z).alloc _), _, rfl, hz.size, BoxAt.made z _ _⟩
            obtain ⟨b4, rfl, hb4, _⟩ := h4
            have HB4 := Lib.hid hb4
            clear hC4 hG4 hb4
            simp only [Act.put, List.setIfInBounds_toArray, List.set_cons_zero, List.set_cons_succ]
            refine relE_fact [9] rfl rfl rfl (by kernel_rfl) (fun z hz hf => ?_) (fun v5 z5 hC5 hG5 h5 => ?_)
            · obtain ⟨b, e, _, hbox⟩ := (hf 9 (by simp)).2 rfl
              cases e
              refine yields_append info_Col und_Cols rfl (by decide) (.tmp 33) (.tmp 42) rfl w.heap.size hz.ext.le u9 out.length (coCells out) hz.own (by rfl) b4 1 1 (co5 J).toList (by rfl) (by rfl) (fun j u hj => by rw [hbox.cell j]; simpa using hj) (by simp [co5, Value.oneCell']) (by unfold maxLen; omega) (by omega) ?_
              intro v' y hown' hg hkeep
              refine ⟨⟨hz.ext.grown hg (fun q hq => (hz.own.lt q hq).1), hkeep, Nat.le_trans hz.size hg.size⟩, by unfold ME; rw [if_pos rfl]; exact hg, ?_⟩
              rw [coCells_append]
              exact hown'
            obtain ⟨a5, c5, rfl⟩ := own_shape h5
            clear hC5 hG5 h5
            simp only [Act.put, List.setIfInBounds_toArray, List.set_cons_zero, List.set_cons_succ]
            refine relE_quiet rfl rfl rfl rfl ?_; intro K hK; go_big_quiet_op; (first | refine ⟨_, fun _ _ => rfl, hK _ ?_⟩ | refine hK _ ?_); clear hK K
            refine relE_quiet rfl rfl rfl rfl ?_; intro K hK; go_big_quiet_op; (first | refine ⟨_, fun _ _ => rfl, hK _ ?_⟩ | refine hK _ ?_); clear hK K
            refine relE_quiet rfl rfl rfl rfl ?_; intro K hK; go_big_quiet_op; (first | refine ⟨_, fun _ _ => rfl, hK _ ?_⟩ | refine hK _ ?_); clear hK K
            refine relE_quiet rfl rfl rfl rfl ?_; intro K hK; go_big_quiet_op; (first | refine ⟨_, fun _ _ => rfl, hK _ ?_⟩ | refine hK _ ?_); clear hK K
            refine relE_quiet rfl rfl rfl rfl ?_; intro K hK; go_big_quiet_op; (first | refine ⟨_, fun _ _ => rfl, hK _ ?_⟩ | refine hK _ ?_); clear hK K
            refine relE_quiet rfl rfl rfl rfl ?_; intro K hK; go_big_quiet_op; (first | refine ⟨_, fun _ _ => rfl, hK _ ?_⟩ | refine hK _ ?_); clear hK K
            refine relE_quiet rfl rfl rfl rfl ?_; intro K hK; go_big_quiet_op; (first | refine ⟨_, fun _ _ => rfl, hK _ ?_⟩ | refine hK _ ?_); clear hK K
            refine relE_nil fun w9 hC hG => ?_
            have hown9 := (hG 10).2 rfl
            have hE9 := hC.ext
            clear hC hG HB4 hown hE2 hown2 hsz2
            go_wp2_with fail
            go_roundw
            case rel =>
              refine ⟨l', m', out ++ [J], hl', hm', by rw [List.length_append]; exact hown9, hE9, ?_, by have := congrArg List.length HL.out; have := congrArg List.length HN.out; simp at *; omega⟩
              show mergeCo la lb = _
              rw [HM.out, HL.out, HN.out, List.append_assoc, HJ.out]
              unfold mergeCo
              rw [mergeG_eq (by rw [← HK.out]; omega)]
              rfl
            case measure => simp [lenOf] <;> omega
      · obtain ⟨b1, o1, c1, A, l', hll, rfl, hc1, hcm1, hA, hl'⟩ := hl.uncons h1
        obtain ⟨am, cm, rfl, hcm, hcmm, hgm⟩ := hm.get
        have h1' : decide ((0 : Int) < (l.length : Int)) = true := decide_eq_true (by omega)
        have h2' : decide ((0 : Int) < (m.length : Int)) = false := decide_eq_false (by omega)
        clear hgm hA hl' hll
        have hM : mergeCo la lb = out ++ l ++ m := by
          rw [HM.out]
          have : m = [] := List.eq_nil_of_length_eq_zero (by omega)
          rw [this, List.append_nil]
          unfold mergeCo
          rw [mergeG_nil_right]
        obtain ⟨N, hN⟩ : ∃ N, N = out ++ l ++ m := ⟨_, rfl⟩
        rw [← hN] at hM
        have HN := Lib.hid hN
        have HMM := Lib.hid hM
        clear hN hM
        by_cases hz : N.length = 0
        · have hz' : ((N.length : Int) == 0) = true := by simp [hz]
          go_wp2_with (first
            | (at_builtin; refine appCols wr rfl (.tmp 70) (.tmp 71) rfl w.heap.size hE.le _ out hown (by rfl) _ l (hl.ext hE) (by rfl) (by omega) ?_; intro v3 w3 hown3 hg3; have hE3 := hE.grown hg3 (fun q hq => (hown.lt q hq).1))
            | (at_builtin; refine appCols w3 rfl (.tmp 72) (.tmp 73) rfl w.heap.size hE3.le v3 (out ++ l) hown3 (by rfl) _ m (hm.ext hE3) (by rfl) (by simp; omega) ?_; intro v4 w4 hown4 hg4; have hE4 := hE3.grown hg4 (fun q hq => (hown3.lt q hq).1); rw [← HN.out] at hown4; clear hg3 hg4 hown3 hE3; obtain ⟨a4, c4, rfl⟩ := own_shape hown4))
          go_ret
          rw [HMM.out]
          obtain rfl : N = [] := List.eq_nil_of_length_eq_zero hz
          exact ⟨_, rfl, World.ownsRow_nil _ _ _ _, hE4⟩
        · have hz' : ((N.length : Int) == 0) = false := by simp; intro h; exact hz (by simp [h])
          go_wp2_with (first
            | (at_builtin; refine appCols wr rfl (.tmp 70) (.tmp 71) rfl w.heap.size hE.le _ out hown (by rfl) _ l (hl.ext hE) (by rfl) (by omega) ?_; intro v3 w3 hown3 hg3; have hE3 := hE.grown hg3 (fun q hq => (hown.lt q hq).1))
            | (at_builtin; refine appCols w3 rfl (.tmp 72) (.tmp 73) rfl w.heap.size hE3.le v3 (out ++ l) hown3 (by rfl) _ m (hm.ext hE3) (by rfl) (by simp; omega) ?_; intro v4 w4 hown4 hg4; have hE4 := hE3.grown hg4 (fun q hq => (hown3.lt q hq).1); rw [← HN.out] at hown4; clear hg3 hg4 hown3 hE3; obtain ⟨a4, c4, rfl⟩ := own_shape hown4))
          go_ret
          rw [HMM.out]
          exact ⟨_, rfl, hown4, hE4⟩
    · obtain ⟨al, cl, rfl, hcl, hcml, hgl⟩ := hl.get
      obtain ⟨am, cm, rfl, hcm, hcmm, hgm⟩ := hm.get
      have h1' : decide ((0 : Int) < (l.length : Int)) = false := decide_eq_false (by omega)
      clear hgm hgl
      have hM : mergeCo la lb = out ++ l ++ m := by
        rw [HM.out]
        have : l = [] := List.eq_nil_of_length_eq_zero (by omega)
        rw [this, List.append_nil]
        unfold mergeCo
        rw [mergeG_nil_left]
      obtain ⟨N, hN⟩ : ∃ N, N = out ++ l ++ m := ⟨_, rfl⟩
      rw [← hN] at hM
      have HN := Lib.hid hN
      have HMM := Lib.hid hM
      clear hN hM
      by_cases hz : N.length = 0
      · have hz' : ((N.length : Int) == 0) = true := by simp [hz]
        go_wp2_with (first
          | (at_builtin; refine appCols wr rfl (.tmp 70) (.tmp 71) rfl w.heap.size hE.le _ out hown (by rfl) _ l (hl.ext hE) (by rfl) (by omega) ?_; intro v3 w3 hown3 hg3; have hE3 := hE.grown hg3 (fun q hq => (hown.lt q hq).1))
          | (at_builtin; refine appCols w3 rfl (.tmp 72) (.tmp 73) rfl w.heap.size hE3.le v3 (out ++ l) hown3 (by rfl) _ m (hm.ext hE3) (by rfl) (by simp; omega) ?_; intro v4 w4 hown4 hg4; have hE4 := hE3.grown hg4 (fun q hq => (hown3.lt q hq).1); rw [← HN.out] at hown4; clear hg3 hg4 hown3 hE3; obtain ⟨a4, c4, rfl⟩ := own_shape hown4))
        go_ret
        rw [HMM.out]
        obtain rfl : N = [] := List.eq_nil_of_length_eq_zero hz
        exact ⟨_, rfl, World.ownsRow_nil _ _ _ _, hE4⟩
      · have hz' : ((N.length : Int) == 0) = false := by simp; intro h; exact hz (by simp [h])
        go_wp2_with (first
          | (at_builtin; refine appCols wr rfl (.tmp 70) (.tmp 71) rfl w.heap.size hE.le _ out hown (by rfl) _ l (hl.ext hE) (by rfl) (by omega) ?_; intro v3 w3 hown3 hg3; have hE3 := hE.grown hg3 (fun q hq => (hown.lt q hq).1))
          | (at_builtin; refine appCols w3 rfl (.tmp 72) (.tmp 73) rfl w.heap.size hE3.le v3 (out ++ l) hown3 (by rfl) _ m (hm.ext hE3) (by rfl) (by simp; omega) ?_; intro v4 w4 hown4 hg4; have hE4 := hE3.grown hg4 (fun q hq => (hown3.lt q hq).1); rw [← HN.out] at hown4; clear hg3 hg4 hown3 hE3; obtain ⟨a4, c4, rfl⟩ := own_shape hown4))
        go_ret
        rw [HMM.out]
        exact ⟨_, rfl, hown4, hE4⟩
end Go.Proofs.YteamiiekpjoclaaDoor

/- row.Join. -/
namespace Go.Proofs.YteamiiekpjoclaaDoor
open Go Go.RowKit
attribute [local go_sem] yields yUpon ro8 co5

/-- What two rows are together. -/
def joinRo (a b : Ro) : Ro := ⟨a.key, joinCl a.live b.live, max a.gone b.gone, max a.shade b.shade, mergeCo a.cols b.cols⟩
theorem mergeCo_len (l m : List Co) : (mergeCo l m).length ≤ l.length + m.length := mergeG_len _ _ _ _

set_option maxRecDepth 100000 in
set_option maxHeartbeats 4000000 in
theorem rowJoin_any (a b : Ro) (va vb : Value) (w : World) (ha : ColsIn w va a.cols) (hb : ColsIn w vb b.cols) (hlen : a.cols.length + b.cols.length ≤ 1000000) :
    Calls Tryd.prog 13 #[(.agg #[.string a.key, .string a.live.val, .bool a.live.dead, .int .i64 a.live.at_, .int .i64 a.live.fin, .int .i64 a.gone, .int .i64 a.shade, va]), (.agg #[.string b.key, .string b.live.val, .bool b.live.dead, .int .i64 b.live.at_, .int .i64 b.live.fin, .int .i64 b.gone, .int .i64 b.shade, vb])] w fun e w' => ∃ v', e = .returned (.agg #[.string (joinRo a b).key, .string (joinRo a b).live.val, .bool (joinRo a b).live.dead, .int .i64 (joinRo a b).live.at_, .int .i64 (joinRo a b).live.fin, .int .i64 (joinRo a b).gone, .int .i64 (joinRo a b).shade, v']) ∧ w'.ownsRow w.heap.size 80 5 v' (joinRo a b).cols.length (coCells (joinRo a b).cols) ∧ Ext w w' := by
  obtain ⟨a0, a1, a2, hE⟩ := boxes3 w (ro8 a va) (ro8 b vb) (ro8 ⟨⟨#[]⟩, zeroCl, 0, 0, []⟩ (.slice none 0 0)) 26 26 26
  have ha' := ha.ext hE
  have hb' := hb.ext hE
  obtain ⟨c, hc⟩ : ∃ c, c = joinCl a.live b.live := ⟨_, rfl⟩
  obtain ⟨g, hg⟩ : ∃ g, g = max a.gone b.gone := ⟨_, rfl⟩
  obtain ⟨s, hs⟩ : ∃ s, s = max a.shade b.shade := ⟨_, rfl⟩
  have Hc := Lib.hid hc
  have Hg := Lib.hid hg
  have Hs := Lib.hid hs
  obtain ⟨L, hL⟩ : ∃ L, L = mergeCo a.cols b.cols := ⟨_, rfl⟩
  have HL := Lib.hid hL
  unfold joinRo
  rw [← hc, ← hg, ← hs, ← hL]
  clear hc hg hs hL
  go_enter Tryd.func13, Tryd.ntmps13
  go_wp2_with fail
  refine (mergeCo_any va vb a.cols b.cols _ ha' hb' hlen).mono ?_
  rintro e w1 ⟨v', rfl, hown, hE1⟩
  rw [← HL.out] at hown
  clear ha' hb' ha hb
  replace hown := ownsRow_base hown hE.le
  obtain ⟨ca, cc, rfl⟩ := own_shape hown
  replace a0 := a0.ext hE1
  replace a1 := a1.ext hE1
  replace a2 := a2.ext hE1
  replace hE := hE.trans hE1
  clear hE1
  go_wp2_with fail
  refine wp_region_in 19 [(6, fun v _ => v = (.agg #[.string c.val, .bool c.dead, .int .i64 c.at_, .int .i64 c.fin])), (11, fun v _ => v = .int .i64 g), (16, fun v _ => v = .int .i64 s)] (fun w0 => BoxAt w0 w.heap.size (ro8 a va) 26 ∧ BoxAt w0 (w.heap.size + 1) (ro8 b vb) 26 ∧ BoxAt w0 (w.heap.size + 1 + 1) (ro8 ⟨⟨#[]⟩, zeroCl, 0, 0, []⟩ (.slice none 0 0)) 26 ∧ w0.ownsRow w.heap.size 80 5 (.slice ca L.length cc) L.length (coCells L) ∧ Ext w w0) (by kernel_rfl) (by kernel_rfl) (by kernel_rfl) ⟨stays_eq _, stays_eq _, stays_eq _, trivial⟩ ⟨a0, a1, a2, hown, hE⟩ ?_
  clear a0 a1 a2 hE hown
  rintro w2 ⟨c0, c1, c2, hown, hE⟩
  have FIN : Hid (∀ wx, Ext w2 wx → BoxAt wx (w.heap.size + 1 + 1) (ro8 ⟨⟨#[]⟩, zeroCl, 0, 0, []⟩ (.slice none 0 0)) 26 ∧ wx.ownsRow w.heap.size 80 5 (.slice ca L.length cc) L.length (coCells L) ∧ Ext w wx) := fun wx h => ⟨c2.ext h, ownsRow_ext hown h, hE.trans h⟩
  obtain ⟨x0, x1, x2, x3, x4, x5, x6, x7⟩ := c0.ro
  obtain ⟨y0, y1, y2, y3, y4, y5, y6, y7⟩ := c1.ro
  clear c0 c1 c2 hE hown x7 y7 y0
  replace x0 := held x0
  replace x1 := held x1
  replace x2 := held x2
  replace x3 := held x3
  replace x4 := held x4
  replace x5 := held x5
  replace x6 := held x6
  replace y1 := held y1
  replace y2 := held y2
  replace y3 := held y3
  replace y4 := held y4
  replace y5 := held y5
  replace y6 := held y6
  refine rg_quiet rfl rfl rfl rfl ?_; intro K hK; go_big_quiet_op; go_big_quiet_on
  refine rg_quiet rfl rfl rfl rfl ?_; intro K hK; go_big_quiet_op; go_big_quiet_on
  refine rg_quiet rfl rfl rfl rfl ?_; intro K hK; go_big_quiet_op; go_big_quiet_on
  refine rg_quiet rfl rfl rfl rfl ?_; intro K hK; go_big_quiet_op; go_big_quiet_on
  refine rg_quiet rfl rfl rfl rfl ?_; intro K hK; go_big_quiet_op; go_big_quiet_on
  refine rg_quiet rfl rfl rfl rfl ?_; intro K hK; go_big_quiet_op; go_big_quiet_on
  refine rg_val [] rfl rfl rfl (by kernel_rfl) (fun w1 hE hf => ?_) ?_
  · go_simp
    exact (join_c a.live.val a.live.dead a.live.at_ a.live.fin b.live.val b.live.dead b.live.at_ b.live.fin w1).mono fun e w' ⟨he, hw⟩ => ⟨_, he, rg_done hE hw (by rw [Hc.out])⟩
  simp only [Act.put, List.setIfInBounds_toArray, List.set_cons_zero, List.set_cons_succ]
  refine rg_quiet rfl rfl rfl rfl ?_; intro K hK; go_big_quiet_op; go_big_quiet_on
  refine rg_quiet rfl rfl rfl rfl ?_; intro K hK; go_big_quiet_op; go_big_quiet_on
  refine rg_quiet rfl rfl rfl rfl ?_; intro K hK; go_big_quiet_op; go_big_quiet_on
  refine rg_quiet rfl rfl rfl rfl ?_; intro K hK; go_big_quiet_op; go_big_quiet_on
  refine rg_val [] rfl rfl rfl (by kernel_rfl) (fun w1 hE hf => ?_) ?_
  · go_simp
    exact rg_done hE (Ext.refl w1) (by rw [Hg.out])
  simp only [Act.put, List.setIfInBounds_toArray, List.set_cons_zero, List.set_cons_succ]
  refine rg_quiet rfl rfl rfl rfl ?_; intro K hK; go_big_quiet_op; go_big_quiet_on
  refine rg_quiet rfl rfl rfl rfl ?_; intro K hK; go_big_quiet_op; go_big_quiet_on
  refine rg_quiet rfl rfl rfl rfl ?_; intro K hK; go_big_quiet_op; go_big_quiet_on
  refine rg_quiet rfl rfl rfl rfl ?_; intro K hK; go_big_quiet_op; go_big_quiet_on
  refine rg_val [] rfl rfl rfl (by kernel_rfl) (fun w1 hE hf => ?_) ?_
  · go_simp
    exact rg_done hE (Ext.refl w1) (by rw [Hs.out])
  simp only [Act.put, List.setIfInBounds_toArray, List.set_cons_zero, List.set_cons_succ]
  refine rg_quiet rfl rfl rfl rfl ?_; intro K hK; go_big_quiet_op; go_big_quiet_on
  refine rg_quiet rfl rfl rfl rfl ?_; intro K hK; go_big_quiet_op; go_big_quiet_on
  refine rel_tail rfl rfl fun w5 hE5 hG => ?_
  obtain ⟨c2, hown, hE⟩ := FIN.out w5 hE5
  clear x0 x1 x2 x3 x4 x5 x6 y1 y2 y3 y4 y5 y6 hE5 hG FIN
  go_wp2_with ((guard_target =~ wpList _ _ _ (Oper.mk none (Op.store _ (Operand.tmp 4) (Operand.tmp 29)) _ _ _ _ :: _) _ _); go_must (refine storeBox rfl 26 (.tmp 4) (.tmp 29) rfl (w.heap.size + 1 + 1) _ _ _ (by rfl) (by rfl) (c2) (by kernel_rfl) (by rfl) (by simp [Value.oneCell']) ?_); intro w6 c6 g6)
  have hX6 := hE.grown g6 (fun q hq => by cases hq; omega)
  have hown6 := hown.kept g6 (own_ne_box hown c2 (by decide))
  clear hE hown g6 c2
  obtain ⟨z0, z1, z2, z3, z4, z5, z6, z7⟩ := c6.ro (r := ⟨a.key, c, g, s, L⟩) (v := .slice ca L.length cc)
  refine bodyPost_ret (v := .agg #[.string a.key, .string c.val, .bool c.dead, .int .i64 c.at_, .int .i64 c.fin, .int .i64 g, .int .i64 s, .slice ca L.length cc]) ?_ rfl ⟨_, rfl, hown6, hX6⟩
  simp [results, Tryd.results13, go_sem, Act.put, z0, z1, z2, z3, z4, z5, z6, z7]
end Go.Proofs.YteamiiekpjoclaaDoor

/- Lists of rows in memory; 'append' to such a list of one's own; rows' columns that stay while such a list grows. -/
namespace Go.Proofs.YteamiiekpjoclaaDoor
open Go Go.RowKit

theorem info_Row : (Tryd.prog.info? 26).map (fun i => (i.zero, i.size, i.bytes)) = some (some (.agg #[.string ⟨#[]⟩, .string ⟨#[]⟩, .bool false, .int .i64 0, .int .i64 0, .int .i64 0, .int .i64 0, .slice none 0 0]), 8, 96) := by kernel_rfl
theorem und_Rows : Tryd.prog.underlying 33 = some (.slice 26) := by kernel_rfl
/-- The cells of rows, each with the value of its columns. -/
def roCells : List (Ro × Value) → List Value
  | [] => []
  | p :: l => .string p.1.key :: .string p.1.live.val :: .bool p.1.live.dead :: .int .i64 p.1.live.at_ :: .int .i64 p.1.live.fin :: .int .i64 p.1.gone :: .int .i64 p.1.shade :: p.2 :: roCells l
theorem roCells_length (l : List (Ro × Value)) : (roCells l).length = l.length * 8 := by
  induction l with
  | nil => rfl
  | cons c l ih => simp [roCells, ih]; omega
theorem roCells_append (l m : List (Ro × Value)) : roCells (l ++ m) = roCells l ++ roCells m := by
  induction l with
  | nil => rfl
  | cons c l ih => simp [roCells, ih]
theorem roCells_get : ∀ (l : List (Ro × Value)) (k : Nat) (h : k < l.length) (j : Nat), j < 8 → (roCells l)[k * 8 + j]? = (ro8 l[k].1 l[k].2)[j]?
  | c :: l, 0, _, j, hj => by
    obtain rfl | rfl | rfl | rfl | rfl | rfl | rfl | rfl : j = 0 ∨ j = 1 ∨ j = 2 ∨ j = 3 ∨ j = 4 ∨ j = 5 ∨ j = 6 ∨ j = 7 := by omega
    all_goals simp [roCells, ro8]
  | c :: l, k + 1, h, j, hj => by
    have ih := roCells_get l k (by simpa using h) j hj
    have e : (k + 1) * 8 + j = k * 8 + j + 8 := by omega
    simp only [e, roCells, List.getElem_cons_succ]
    simpa using ih
/-- Rows in memory: v is a slice that reads as ps, each row's columns lie where its value says. -/
structure RowsIn (w : World) (v : Value) (ps : List (Ro × Value)) : Prop where
  rows : SliceIn w v ps.length (roCells ps)
  cols : ∀ p ∈ ps, ColsIn w p.2 p.1.cols
theorem RowsIn.ext {w w' : World} (hE : Ext w w') {v : Value} {ps : List (Ro × Value)} (h : RowsIn w v ps) : RowsIn w' v ps := ⟨h.rows.ext hE, fun p hp => (h.cols p hp).ext hE⟩
/-- A row at a place in memory. -/
structure RoAt (w : World) (b o : Nat) (r : Ro) (v : Value) : Prop where
  c0 : w.cell? ⟨b, o, none⟩ = some (.string r.key)
  c1 : w.cell? ⟨b, o + 1, none⟩ = some (.string r.live.val)
  c2 : w.cell? ⟨b, o + 2, none⟩ = some (.bool r.live.dead)
  c3 : w.cell? ⟨b, o + 3, none⟩ = some (.int .i64 r.live.at_)
  c4 : w.cell? ⟨b, o + 4, none⟩ = some (.int .i64 r.live.fin)
  c5 : w.cell? ⟨b, o + 5, none⟩ = some (.int .i64 r.gone)
  c6 : w.cell? ⟨b, o + 6, none⟩ = some (.int .i64 r.shade)
  c7 : w.cell? ⟨b, o + 7, none⟩ = some v
theorem RoAt.ext {w w' : World} (hE : Ext w w') {b o : Nat} {r : Ro} {v : Value} (h : RoAt w b o r v) : RoAt w' b o r v := ⟨hE.cell h.c0, hE.cell h.c1, hE.cell h.c2, hE.cell h.c3, hE.cell h.c4, hE.cell h.c5, hE.cell h.c6, hE.cell h.c7⟩
theorem RowsIn.get {w : World} {v : Value} {ps : List (Ro × Value)} (h : RowsIn w v ps) : ∃ a c, v = .slice a ps.length c ∧ ps.length ≤ c ∧ c ≤ 9223372036854775807 ∧ ∀ k (hk : k < ps.length), ∃ b o, a = some ⟨b, o, none⟩ ∧ RoAt w b (o + k * 8) ps[k].1 ps[k].2 := by
  obtain ⟨a, c, rfl, hc, hcm, ha, hcell⟩ := h.rows
  unfold maxLen at hcm
  refine ⟨a, c, rfl, hc, by omega, fun k hk => ?_⟩
  have g : ∀ j u, j < 8 → (ro8 ps[k].1 ps[k].2)[j]? = some u → ∃ b o, a = some ⟨b, o, none⟩ ∧ w.cell? ⟨b, o + (k * 8 + j), none⟩ = some u := fun j u hj he => hcell _ u ((roCells_get ps k hk j hj).trans he)
  obtain ⟨b, o, rfl, h0⟩ := g 0 _ (by decide) rfl
  obtain ⟨b1, o1, e1, h1⟩ := g 1 _ (by decide) rfl
  obtain ⟨b2, o2, e2, h2⟩ := g 2 _ (by decide) rfl
  obtain ⟨b3, o3, e3, h3⟩ := g 3 _ (by decide) rfl
  obtain ⟨b4, o4, e4, h4⟩ := g 4 _ (by decide) rfl
  obtain ⟨b5, o5, e5, h5⟩ := g 5 _ (by decide) rfl
  obtain ⟨b6, o6, e6, h6⟩ := g 6 _ (by decide) rfl
  obtain ⟨b7, o7, e7, h7⟩ := g 7 _ (by decide) rfl
  cases e1; cases e2; cases e3; cases e4; cases e5; cases e6; cases e7
  exact ⟨b, o, rfl, h0, h1, h2, h3, h4, h5, h6, h7⟩
theorem rows_one {w : World} {b : Nat} {r : Ro} {v : Value} {T : TypeId} (hb : BoxAt w b (ro8 r v) T) (hc : ColsIn w v r.cols) : RowsIn w (.slice (some ⟨b, 0, none⟩) 1 1) [(r, v)] :=
  ⟨⟨_, 1, rfl, Nat.le_refl _, by unfold maxLen; decide, nofun, fun j u hj => ⟨b, 0, rfl, by rw [Nat.zero_add, hb.cell j]; simpa [roCells, ro8] using hj⟩⟩, fun p hp => by rw [List.mem_singleton.1 hp]; exact hc⟩

theorem ColsIn.shape {w : World} {v : Value} {l : List Co} (h : ColsIn w v l) : ∃ a c, v = .slice a l.length c := by
  obtain ⟨a, c, e, _⟩ := h
  exact ⟨a, c, e⟩
theorem RowsIn.nil (w : World) : RowsIn w (.slice none 0 0) [] := ⟨SliceIn.nil w, nofun⟩
theorem roCells_one (l : List (Ro × Value)) (h : ∀ p ∈ l, ∃ a n c, p.2 = .slice a n c) : ∀ u ∈ roCells l, u.oneCell' = true := by
  induction l with
  | nil => intro u h; cases h
  | cons c l ih =>
    intro u hu
    simp only [roCells, List.mem_cons] at hu
    rcases hu with rfl | rfl | rfl | rfl | rfl | rfl | rfl | rfl | hu
    all_goals try rfl
    · obtain ⟨a, n, c, e⟩ := h _ (List.mem_cons_self ..)
      rw [e]
      rfl
    · exact ih (fun p hp => h p (List.mem_cons_of_mem _ hp)) u hu
theorem RowsIn.uncons {w : World} {v : Value} {l : List (Ro × Value)} (h : RowsIn w v l) (hl : 0 < l.length) : ∃ b o c A a cc l', l = (A, .slice a A.cols.length cc) :: l' ∧ v = .slice (some ⟨b, o, none⟩) l.length c ∧ l.length ≤ c ∧ c ≤ 9223372036854775807 ∧ RoAt w b o A (.slice a A.cols.length cc) ∧ ColsIn w (.slice a A.cols.length cc) A.cols ∧ RowsIn w (.slice (if c = 1 then some ⟨b, o, none⟩ else some ⟨b, o + 8, none⟩) (l.length - 1) (c - 1)) l' := by
  obtain ⟨a, c, rfl, hc, hcm, hg⟩ := h.get
  obtain ⟨b, o, rfl, h0⟩ := hg 0 hl
  cases l with
  | nil => cases hl
  | cons p l' =>
    obtain ⟨A, u⟩ := p
    have hcol := h.cols _ (List.mem_cons_self ..)
    obtain ⟨a, cc, e⟩ := hcol.shape
    simp only at e
    subst e
    refine ⟨b, o, c, A, a, cc, l', rfl, rfl, hc, hcm, by simpa using h0, hcol, ?_, fun p hp => h.cols p (List.mem_cons_of_mem _ hp)⟩
    obtain ⟨a', c', e, hc', hcm', ha', hcell⟩ := h.rows
    cases e
    refine ⟨if c = 1 then some ⟨b, o, none⟩ else some ⟨b, o + 8, none⟩, c - 1, by simp, by simp at hc' ⊢; omega, by unfold maxLen; omega, (by intro h; split at h <;> cases h), fun j u hj => ?_⟩
    obtain ⟨b', o', e, hx⟩ := hcell (j + 8) u (by simpa [roCells] using hj)
    cases e
    by_cases h1 : c = 1
    · have h2 : l' = [] := List.eq_nil_of_length_eq_zero (by simp at hc'; omega)
      subst h2
      cases hj
    · rw [if_neg h1]
      exact ⟨b, o + 8, rfl, by rw [Nat.add_assoc, Nat.add_comm 8 j]; exact hx⟩
theorem appRows {ops : Array Oper} {rest : List Oper} {o : Oper} {a : Act} {Q : Exit → Act → World → Prop} (w : World) (hg : o.guard = none) (s x : Operand)
    (hop : o.op = Op.call { callee := Callee.builtin Builtin.append, args := #[s, x], argTypes := #[33, 33] })
    (B : Nat) (hB : B ≤ w.heap.size) (v : Value) (l : List (Ro × Value)) (hown : w.ownsRow B 26 8 v l.length (roCells l)) (hs : a.eval s = v) (u : Value) (m : List (Ro × Value)) (hin : RowsIn w u m) (hx : a.eval x = u) (hb : l.length + m.length ≤ 1000000)
    (hK : ∀ v' w', w'.ownsRow B 26 8 v' (l ++ m).length (roCells (l ++ m)) → w.grownBy w' v.ownBlock → wpList Tryd.prog ops Q rest (a.put o.dst v') w') : wpList Tryd.prog ops Q (o :: rest) a w := by
  obtain ⟨i0, hi, hz0, hz1, hz2⟩ := info_parts info_Row
  obtain ⟨⟨ao, c, rfl, hc, hcm, ha, hcell⟩, hcols⟩ := hin
  have hone := roCells_one m (fun p hp => let ⟨a, c, e⟩ := (hcols p hp).shape; ⟨a, _, c, e⟩)
  cases ao with
  | none =>
    have hc0 := ha rfl
    obtain rfl : m = [] := List.eq_nil_of_length_eq_zero (by omega)
    subst hc0
    refine wpList_append_own_none hg s x 33 hop B 26 i0 8 und_Rows hi v l.length (roCells l) hs hown hx (hK _ _ (by rw [List.append_nil]; exact hown) ⟨rfl, rfl, rfl, Nat.le_refl _, fun _ _ _ => rfl⟩)
  | some ad =>
    refine wpList_append_own _ hg s x 33 hop B 26 i0 _ 8 96 und_Rows hi hz0 hz1 hz2 rfl (by decide) v l.length (roCells l) hs hown ad m.length c (roCells m) hx (roCells_length m) ?_ hone (by unfold maxLen; omega) (by omega) hB ?_
    · intro j u hj
      obtain ⟨b, o, e, h⟩ := hcell j u hj
      cases e
      rw [Addr.add_lit]
      exact h
    · intro v' w' h2 h3 _
      refine hK v' w' ?_ h3
      rw [roCells_append, List.length_append]
      exact h2

/-- A row's columns that stay: they lie in the first world, or are one's own. -/
def SafeC (w x : World) (p : Ro × Value) : Prop := ColsIn w p.2 p.1.cols ∨ x.ownsRow w.heap.size 80 5 p.2 p.1.cols.length (coCells p.1.cols)
theorem SafeC.ext {w x y : World} {p : Ro × Value} (hE : Ext x y) (h : SafeC w x p) : SafeC w y p := h.imp_right fun h => ownsRow_ext h hE
theorem SafeC.grown {w x y : World} {p : Ro × Value} {B n : Nat} {v : Value} {xs : List Value} (hown : x.ownsRow B 26 8 v n xs) (hg : x.grownBy y v.ownBlock) (h : SafeC w x p) : SafeC w y p :=
  h.imp_right fun h => h.kept hg (own_ne_own h hown (by decide))
theorem SafeC.cols {w x : World} {p : Ro × Value} (hE : Ext w x) (h : SafeC w x p) : ColsIn x p.2 p.1.cols := by
  rcases h with h | h
  · exact h.ext hE
  · exact cols_own h
theorem rows_own {w x : World} {B : Nat} {v : Value} {l : List (Ro × Value)} (h : x.ownsRow B 26 8 v l.length (roCells l)) (hE : Ext w x) (hs : ∀ p ∈ l, SafeC w x p) : RowsIn x v l :=
  ⟨SliceIn.of_owns h, fun p hp => (hs p hp).cols hE⟩

/-- A slice that reads as cells, in a block of its own type: what a store to a block of another type leaves alone. -/
def TIn (x : World) (e : TypeId) (v : Value) (n : Nat) (xs : List Value) : Prop := (v = .slice none 0 0 ∧ n = 0 ∧ xs = []) ∨ ∃ b c Z, v = .slice (some ⟨b, 0, none⟩) n c ∧ BoxAt x b Z e ∧ n ≤ c ∧ c ≤ maxLen ∧ ∀ (j : Nat) u, xs[j]? = some u → Z[j]? = some u
theorem box_ne {x : World} {p q : Nat} {A B : Array Value} {S T : TypeId} (h : BoxAt x p A S) (h' : BoxAt x q B T) (hne : S ≠ T) : p ≠ q := by
  rintro rfl
  unfold BoxAt at h h'
  rw [h] at h'
  injection h' with h'
  injection h' with _ h'
  exact hne h'
theorem TIn.nil (x : World) (e : TypeId) : TIn x e (.slice none 0 0) 0 [] := .inl ⟨rfl, rfl, rfl⟩
theorem TIn.slice {x : World} {e : TypeId} {v : Value} {n : Nat} {xs : List Value} (h : TIn x e v n xs) : SliceIn x v n xs := by
  rcases h with ⟨rfl, rfl, rfl⟩ | ⟨b, c, Z, rfl, hb, hn, hc, hx⟩
  · exact SliceIn.nil x
  · exact ⟨_, _, rfl, hn, hc, nofun, fun j u hj => ⟨b, 0, rfl, by rw [Nat.zero_add, hb.cell j]; exact hx j u hj⟩⟩
theorem TIn.box {x : World} {e : TypeId} {b n : Nat} {xs : List Value} (hb : BoxAt x b xs.toArray e) (hn : n ≤ maxLen) : TIn x e (.slice (some ⟨b, 0, none⟩) n n) n xs :=
  .inr ⟨b, n, _, rfl, hb, Nat.le_refl _, hn, fun j u hj => by simpa using hj⟩
theorem TIn.own {x : World} {B : Nat} {e : TypeId} {size : Nat} {v : Value} {n : Nat} {xs : List Value} (h : x.ownsRow B e size v n xs) : TIn x e v n xs := by
  obtain ⟨hl, h⟩ := h
  rcases h with ⟨rfl, rfl⟩ | ⟨g, cap, cur, rfl, _, hg, hn, hm, hs, ht⟩
  · exact .inl ⟨rfl, rfl, List.eq_nil_of_length_eq_zero (by simpa using hl)⟩
  · refine .inr ⟨g, cap, cur, rfl, hg, hn, hm, fun j u hj => ?_⟩
    have hjl : j < n * size := by
      have := (List.getElem?_eq_some_iff.1 hj).1
      omega
    rw [← ht, List.getElem?_take, if_pos hjl] at hj
    simpa using hj
theorem TIn.ext {x y : World} {e : TypeId} {v : Value} {n : Nat} {xs : List Value} (hE : Ext x y) (h : TIn x e v n xs) : TIn y e v n xs := h.imp_right fun ⟨b, c, Z, e, hb, h⟩ => ⟨b, c, Z, e, hb.ext hE, h⟩
theorem TIn.keep {x y : World} {e : TypeId} {v : Value} {n : Nat} {xs : List Value} {q : Nat} {W : Array Value} {T : TypeId} (hg : x.grownBy y (some q)) (hq : BoxAt x q W T) (hne : e ≠ T) (h : TIn x e v n xs) : TIn y e v n xs :=
  h.imp_right fun ⟨b, c, Z, e, hb, h⟩ => ⟨b, c, Z, e, hb.grown hg (fun e => box_ne hb hq hne (Option.some.inj e)), h⟩
theorem TIn.set {x : World} {e : TypeId} {v : Value} {n : Nat} {xs : List Value} {q : Nat} {W : Array Value} {T : TypeId} (i : Nat) (u : Value) (hq : BoxAt x q W T) (hne : e ≠ T) (h : TIn x e v n xs) : TIn (x.setCell ⟨q, i, none⟩ u) e v n xs :=
  h.imp_right fun ⟨b, c, Z, e, hb, h⟩ => ⟨b, c, Z, e, hb.other (box_ne hb hq hne) i u, h⟩
theorem TIn.keepOwn {x y : World} {e : TypeId} {v : Value} {n : Nat} {xs : List Value} {B : Nat} {T : TypeId} {size m : Nat} {vo : Value} {ys : List Value} (hown : x.ownsRow B T size vo m ys) (hg : x.grownBy y vo.ownBlock) (hne : e ≠ T) (h : TIn x e v n xs) : TIn y e v n xs :=
  h.imp_right fun ⟨b, c, Z, e, hb, h⟩ => ⟨b, c, Z, e, hb.grown hg (fun e => by
    rcases own_ne_box hown hb (fun e => hne e.symm) with h | h
    · rw [h] at e; cases e
    · exact h e.symm), h⟩
theorem TIn.shape {x : World} {e : TypeId} {v : Value} {n : Nat} {xs : List Value} (h : TIn x e v n xs) : ∃ a c, v = .slice a n c := by
  rcases h with ⟨rfl, rfl, rfl⟩ | ⟨b, c, Z, e, _⟩
  · exact ⟨_, _, rfl⟩
  · exact ⟨_, _, e⟩

/-- Columns, rows in blocks of their own types. -/
def ColsT (x : World) (v : Value) (l : List Co) : Prop := TIn x 80 v l.length (coCells l)
structure RowsT (x : World) (v : Value) (qs : List (Ro × Value)) : Prop where
  tin : TIn x 26 v qs.length (roCells qs)
  typed : ∀ p ∈ qs, ColsT x p.2 p.1.cols
theorem ColsT.cols {x : World} {v : Value} {l : List Co} (h : ColsT x v l) : ColsIn x v l := TIn.slice h
theorem ColsT.nil (x : World) : ColsT x (.slice none 0 0) [] := TIn.nil x _
theorem ColsT.ext {x y : World} {v : Value} {l : List Co} (hE : Ext x y) (h : ColsT x v l) : ColsT y v l := TIn.ext hE h
theorem ColsT.keep {x y : World} {v : Value} {l : List Co} {q : Nat} {Z : Array Value} {T : TypeId} (hg : x.grownBy y (some q)) (hb : BoxAt x q Z T) (h2 : 80 ≠ T) (h : ColsT x v l) : ColsT y v l := TIn.keep hg hb h2 h
theorem RowsT.rows {x : World} {v : Value} {qs : List (Ro × Value)} (h : RowsT x v qs) : RowsIn x v qs := ⟨h.tin.slice, fun p hp => (h.typed p hp).cols⟩
theorem RowsT.ext {x y : World} {v : Value} {qs : List (Ro × Value)} (hE : Ext x y) (h : RowsT x v qs) : RowsT y v qs := ⟨h.tin.ext hE, fun p hp => (h.typed p hp).ext hE⟩
theorem RowsT.keep {x y : World} {v : Value} {qs : List (Ro × Value)} {q : Nat} {Z : Array Value} {T : TypeId} (hg : x.grownBy y (some q)) (hb : BoxAt x q Z T) (h1 : 26 ≠ T) (h2 : 80 ≠ T) (h : RowsT x v qs) : RowsT y v qs :=
  ⟨h.tin.keep hg hb h1, fun p hp => (h.typed p hp).keep hg hb h2⟩
theorem RowsT.set {x : World} {v : Value} {qs : List (Ro × Value)} {q : Nat} {Z : Array Value} {T : TypeId} (i : Nat) (u : Value) (hb : BoxAt x q Z T) (h1 : 26 ≠ T) (h2 : 80 ≠ T) (h : RowsT x v qs) : RowsT (x.setCell ⟨q, i, none⟩ u) v qs :=
  ⟨h.tin.set i u hb h1, fun p hp => TIn.set i u hb h2 (h.typed p hp)⟩
theorem RowsT.keepOwn {x y : World} {v : Value} {qs : List (Ro × Value)} {B : Nat} {T : TypeId} {size m : Nat} {vo : Value} {ys : List Value} (hown : x.ownsRow B T size vo m ys) (hg : x.grownBy y vo.ownBlock) (h1 : 26 ≠ T) (h2 : 80 ≠ T) (h : RowsT x v qs) : RowsT y v qs :=
  ⟨h.tin.keepOwn hown hg h1, fun p hp => TIn.keepOwn hown hg h2 (h.typed p hp)⟩
theorem RowsT.nil (x : World) : RowsT x (.slice none 0 0) [] := ⟨TIn.nil x _, nofun⟩
theorem RowsT.shape {x : World} {v : Value} {qs : List (Ro × Value)} (h : RowsT x v qs) : ∃ a c, v = .slice a qs.length c := h.tin.shape
theorem RowsT.one {x : World} {b : Nat} {r : Ro} {v : Value} (hb : BoxAt x b (ro8 r v) 26) (hc : ColsT x v r.cols) : RowsT x (.slice (some ⟨b, 0, none⟩) 1 1) [(r, v)] :=
  ⟨TIn.box (xs := roCells [(r, v)]) hb (by unfold maxLen; decide), fun p hp => by rw [List.mem_singleton.1 hp]; exact hc⟩
end Go.Proofs.YteamiiekpjoclaaDoor
