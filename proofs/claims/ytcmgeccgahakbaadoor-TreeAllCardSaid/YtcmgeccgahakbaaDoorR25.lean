/- TreeAll: the law's walk. -/
import Derived.Test.YtcmgeccgahakbaaDoorR15
import Derived.Test.YtcmgeccgahakbaaDoorR17
import Derived.Test.YtcmgeccgahakbaaDoorR18
import Derived.Test.YtcmgeccgahakbaaDoorR19
import Derived.Test.YtcmgeccgahakbaaDoorR24
import Derived.Test.YtcmgeccgahakbaaDoorR5
import Derived.Test.YtcmgeccgahakbaaDoorR9
import Derived.Test.YtcmgeccgahakbaaDoorR1
import Derived.Test.YtcmgeccgahakbaaDoorProg
import Derived.Test.YtcmgeccgahakbaaDoorR7
set_option linter.unusedSimpArgs false
set_option linter.unusedVariables false
namespace Go.Proofs.YtcmgeccgahakbaaDoor
open Go Go.RowKit
attribute [local go_sem] yields yUpon

theorem Few12.key {L : List Pa} (h : Few12 L) : ∀ p ∈ L, p.key.size ≤ maxLen := fun p hp => by have := (ptB_ok (h.pt p hp)).key; unfold maxLen; omega
theorem Few12.low {L : List Pa} (h : Few12 L) : ∀ p ∈ L, ∀ q ∈ p.ps, ∀ d ∈ q.1.cols, d.name.size ≤ 1000000 := fun p hp q hq d hd => by
  have := (((ptB_ok (h.pt p hp)).rows _ (List.mem_map_of_mem (f := (·.1)) hq)).cols d hd).name
  omega
theorem Few12.few {L : List Pa} (h : Few12 L) : ∀ p ∈ L, p.ps.length ≤ 10000 ∧ ∀ q ∈ p.ps, q.1.cols.length ≤ 1000000 := fun p hp => by
  have h1 := ptB_ok (h.pt p hp)
  refine ⟨?_, fun q hq => ?_⟩
  · have := h1.many; rw [List.length_map] at this; omega
  · have := (h1.rows _ (List.mem_map_of_mem (f := (·.1)) hq)).many; omega
theorem ofF_data {F : ByteArray → Bool} {bs : List Int} : ∀ {L M : List Pa}, L.map Pa.data = M.map Pa.data → ofF F bs L = ofF F bs M
  | [], [], _ => rfl
  | [], _ :: _, h => by simp at h
  | _ :: _, [], h => by simp at h
  | p :: L, q :: M, h => by
    simp only [List.map_cons, List.cons.injEq] at h
    have ih := ofF_data (F := F) (bs := bs) h.2
    have hk : p.key = q.key := by have := h.1; unfold Pa.data at this; simpa using (congrArg (·.1) this)
    unfold ofF at ih ⊢
    simp only [List.filter_cons, hk]
    split
    · rw [List.map_cons, List.map_cons, h.1, ih]
    · exact ih
theorem Few12.data {L M : List Pa} (h : Few12 L) (hM : M.map Pa.data = L.map Pa.data) : Few12 M := by
  refine ⟨by have := congrArg List.length hM; simp at this; have := h.many; omega, fun p hp => ?_⟩
  have hp' : p.data ∈ L.map Pa.data := by rw [← hM]; exact List.mem_map_of_mem hp
  obtain ⟨q, hq, e⟩ := List.mem_map.1 hp'
  have e1 : q.key = p.key ∧ q.gone = p.gone ∧ q.ps.map (·.1) = p.ps.map (·.1) := by unfold Pa.data at e; simpa using e
  have := h.pt q hq
  rw [e1.1, e1.2.1, e1.2.2] at this
  exact this

set_option maxRecDepth 100000 in
set_option maxHeartbeats 16000000 in
theorem law_treeAll (n c t : Int) (vp : Value) (L : List Pa) (a b : Int) (vl : Value) (l : List Int) (vm : Value) (m : List ByteArray) (w : World) (hP : PartsIn w vp L) (hl : IntsIn w vl .i64 l) (hlb : ∀ x ∈ l, -9223372036854775808 ≤ x ∧ x ≤ 9223372036854775807) (hm : TsIn w vm m) (hT : TabV w) :
    Calls Tryd.prog 6 #[.agg #[.int .i64 n, .int .i64 c, .int .i64 t], vp, .int .i64 a, .int .i64 b, vl, vm] w fun e w' => e = .returned (.bool true) ∧ Ext w w' := by
  have b0 := BoxAt.made w #[.int .i64 n, .int .i64 c, .int .i64 t] 67
  have hE0 := (Ext.refl w).alloc (.cells #[.int .i64 n, .int .i64 c, .int .i64 t] 67)
  have HP := Lib.hid hP
  have HL := Lib.hid hl
  have HLB := Lib.hid hlb
  have HMM := Lib.hid hm
  have HT := Lib.hid hT
  obtain ⟨ap, cp, rfl, hcp, hcpm, _⟩ := hP.get
  obtain ⟨al, cl, rfl, hcl, hclm, _⟩ := hl.getX
  obtain ⟨am, cm, rfl, hcm, hcmm, hmc⟩ := hm.get
  have HMC := Lib.hid hmc
  clear hP hl hm hT hmc hlb
  obtain ⟨np, hnp⟩ : ∃ q, q = L.length := ⟨_, rfl⟩
  obtain ⟨nl, hnl⟩ : ∃ q, q = l.length := ⟨_, rfl⟩
  obtain ⟨nm, hnm⟩ : ∃ q, q = m.length := ⟨_, rfl⟩
  have HNP := Lib.hid hnp
  have HNL := Lib.hid hnl
  have HNM := Lib.hid hnm
  rw [← hnp] at hcp HP ⊢
  rw [← hnl] at hcl HL ⊢
  rw [← hnm] at hcm HMM ⊢
  clear hnp hnl hnm
  by_cases h1 : 30 < (nl : Int)
  · go_enter Tryd.func6, Tryd.ntmps6
    go_wp2_with (first
      | (go_at_call 34; go_must (refine (few23_any _ L _ (HP.out.ext hE0)).mono ?_); rintro e w1 ⟨B, rfl, _, hE1⟩; have hX1 := hE0.trans hE1; cases B)
      | (go_at_call 35; go_must (refine (awake23_any _ (pow10_ext HT.out.p hX1)).mono ?_); rintro e w7 ⟨rfl, hE7⟩))
    all_goals
      go_ret
      exact ⟨rfl, hX1.trans hE7⟩
  by_cases h2 : 30 < (nm : Int)
  · go_enter Tryd.func6, Tryd.ntmps6
    go_wp2_with (first
      | (go_at_call 34; go_must (refine (few23_any _ L _ (HP.out.ext hE0)).mono ?_); rintro e w1 ⟨B, rfl, _, hE1⟩; have hX1 := hE0.trans hE1; cases B)
      | (go_at_call 35; go_must (refine (awake23_any _ (pow10_ext HT.out.p hX1)).mono ?_); rintro e w7 ⟨rfl, hE7⟩))
    all_goals
      go_ret
      exact ⟨rfl, hX1.trans hE7⟩
  go_enter Tryd.func6, Tryd.ntmps6
  go_wp2_with (first
    | (go_at_call 34; go_must (refine (few23_any _ L _ (HP.out.ext hE0)).mono ?_); rintro e w1 ⟨B, rfl, hB, hE1⟩; have HB := Lib.hid hB; clear hB; have hX1 := hE0.trans hE1; cases B)
    | (go_at_call 35; go_must (refine (awake23_any _ (pow10_ext HT.out.p hX1)).mono ?_); rintro e w7 ⟨rfl, hE7⟩))
  · go_ret
    exact ⟨rfl, hX1.trans hE7⟩
  have HF : Hid (Few12 L) := Lib.hid (HB.out trivial)
  clear HB
  go_loopw [13] (fun i wr => ∃ k : Nat, k ≤ nm ∧ i = .int .i64 k ∧ Ext w1 wr) (fun i _ => nm - (intOf i).toNat)
  case atStart => exact ⟨0, Nat.zero_le _, rfl, Ext.refl _⟩
  case round =>
    obtain ⟨k, hk, rfl, hE⟩ := hrel
    have hX := hX1.trans hE
    by_cases hkm : k < nm
    · have hkl : k < m.length := by rw [← HNM.out]; exact hkm
      obtain ⟨bm, om, rfl, hco⟩ := HMC.out k hkl
      replace hco := hX.cell hco
      obtain ⟨s, hs⟩ : ∃ s, s = m[k] := ⟨_, rfl⟩
      rw [← hs] at hco
      clear hs
      by_cases hsz : 100 < (s.size : Int)
      · go_wp2_with (go_at_call 35; go_must (refine (awake23_any _ (pow10_ext HT.out.p hX)).mono ?_); rintro e w7 ⟨rfl, hE7⟩)
        go_ret
        exact ⟨rfl, hX.trans hE7⟩
      · go_wp2_with fail
        go_roundw
        case rel => exact ⟨k + 1, hkm, by go_num, hE⟩
        case measure => simp [intOf]; omega
    · obtain rfl : k = nm := by omega
      go_upto_region 8 with fail
      have z := b0.ext (hE1.trans hE)
      have x0 := held (show wr.cell? ⟨w.heap.size, 0, none⟩ = some (.int .i64 n) from z.cell 0)
      have x1 := held (show wr.cell? ⟨w.heap.size, 1, none⟩ = some (.int .i64 c) from z.cell 1)
      have x2 := held (show wr.cell? ⟨w.heap.size, 2, none⟩ = some (.int .i64 t) from z.cell 2)
      have HLl : Hid (L.length ≤ 1000000) := Lib.hid (by have := HF.out.many; omega)
      have HPr := Lib.hid (HP.out.ext hX)
      have HLr := Lib.hid (HL.out.ext hX)
      have HMr := Lib.hid (HMM.out.ext hX)
      refine wp_region_tab 8 [(2, fun v z => ∃ M, PartsT z v M ∧ M.map Pa.data = L.map Pa.data), (6, fun v z => IntsIn z v .i64 l), (7, fun v z => ∃ M, PartsIn z v M ∧ M.map Pa.data = ofF (bothF n c t a b) l L)] (by kernel_rfl) (by kernel_rfl) (by kernel_rfl) ⟨fun _ _ _ hE ⟨M, h1, h2⟩ => ⟨M, h1.ext hE, h2⟩, fun _ _ _ hE h => h.ext hE, fun _ _ _ hE ⟨M, h1, h2⟩ => ⟨M, h1.ext hE, h2⟩, trivial⟩ ?_
      refine rg_quiet rfl rfl rfl rfl ?_; intro K hK; go_big_quiet_op; go_big_quiet_on
      refine rg_quiet rfl rfl rfl rfl ?_; intro K hK; go_big_quiet_op; go_big_quiet_on
      refine rg_fact [] rfl rfl rfl (by kernel_rfl) (fun u hE hf => ?_) (fun v2 u2 hE2 hG2 h2' => ?_)
      · go_simp
        refine (parts_any _ L u (HPr.out.ext hE) HLl.out HF.out.few).mono ?_
        rintro e w' ⟨v', M, ⟨⟨rfl, hw⟩, hP⟩, hM, _⟩
        exact ⟨_, rfl, rg_doneR hE hw ⟨M, hP, hM⟩⟩
      clear hE2 hG2 h2'
      simp only [Act.put, List.setIfInBounds_toArray, List.set_cons_zero, List.set_cons_succ]
      refine rg_quiet rfl rfl rfl rfl ?_; intro K hK; go_big_quiet_op; go_big_quiet_on
      refine rg_quiet rfl rfl rfl rfl ?_; intro K hK; go_big_quiet_op; go_big_quiet_on
      refine rg_quiet rfl rfl rfl rfl ?_; intro K hK; go_big_quiet_op; go_big_quiet_on
      refine rg_fact [] rfl rfl rfl (by kernel_rfl) (fun u hE hf => ?_) (fun v6 u6 hE6 hG6 h6 => ?_)
      · have hin := HLr.out.ext hE
        unfold IntsIn at hin
        rw [← HNL.out] at hin
        refine yields_app info_intX und_intsX rfl (by decide) (.const (.slice none 0 0)) (.tmp 48) rfl u.heap.size (Nat.le_refl _) _ 0 [] (World.ownsRow_nil _ _ _ _) rfl hin rfl (by rw [kcells_length, ← HNL.out, Nat.mul_one]) (by simp [kcells, Value.oneCell']) (by unfold maxLen; omega) (by omega) ?_
        intro v' w' ho _ hg
        have hw : Ext u w' := (Ext.refl u).grown hg (fun q hq => by cases hq)
        exact rg_doneR hE hw (by have h := SliceIn.of_owns ho; unfold IntsIn; rw [← HNL.out]; simpa using h)
      clear hE6 hG6 h6
      simp only [Act.put, List.setIfInBounds_toArray, List.set_cons_zero, List.set_cons_succ]
      refine rg_fact [2, 6] rfl rfl rfl (by kernel_rfl) (fun u hE hf => ?_) (fun v7 u7 hE7 hG7 h7 => ?_)
      · obtain ⟨M, hPM, hM⟩ := (hf 2 (by simp)).1.2 rfl
        have h6 := (hf 6 (by simp)).2 rfl
        go_simp
        have hfm := HF.out.data hM
        refine (of_any n c t _ M a b _ l u hPM.parts h6 (by have := hfm.many; omega) hfm.key (fun p hp => ⟨by have := (hfm.few p hp).1; omega, (hfm.few p hp).2⟩)).mono ?_
        rintro e w' ⟨v', M', ⟨⟨rfl, hw⟩, hP'⟩, hM'⟩
        exact ⟨_, rfl, rg_doneR hE hw ⟨M', hP'.parts, by rw [hM', ofF_data hM]⟩⟩
      clear hE7 hG7 h7
      simp only [Act.put, List.setIfInBounds_toArray, List.set_cons_zero, List.set_cons_succ]
      refine rel_tail rfl rfl fun w3 hE3 hG => ?_
      obtain ⟨M3, hP3, hM3⟩ := (hG 7).2 rfl
      obtain ⟨a3, c3, rfl, _⟩ := hP3.get
      obtain ⟨n3, hn3⟩ : ∃ q, q = M3.length := ⟨_, rfl⟩
      rw [← hn3] at hP3 ⊢
      have HP3 := Lib.hid hP3
      have HM3 := Lib.hid hM3
      clear hG hP3 hM3 hn3 x0 x1 x2 z
      have hX3 := hX.trans hE3
      have z := b0.ext ((hE1.trans hE).trans hE3)
      have x0 : w3.cell? ⟨w.heap.size, 0, none⟩ = some (.int .i64 n) := z.cell 0
      have x1 : w3.cell? ⟨w.heap.size, 1, none⟩ = some (.int .i64 c) := z.cell 1
      have x2 : w3.cell? ⟨w.heap.size, 2, none⟩ = some (.int .i64 t) := z.cell 2
      go_upto_region 10 with (go_at_call 38; go_must (refine (of23_any n c t _ L a b _ l _ (HPr.out.ext hE3) (HLr.out.ext hE3) HLl.out HF.out.key).mono ?_); rintro e w4 ⟨v4, M4, ⟨⟨rfl, hE4⟩, hP4⟩, hM4⟩; have HP4 := Lib.hid hP4; have HM4 := Lib.hid hM4; clear hP4 hM4)
      clear x0 x1 x2 z
      have hX4 := hX3.trans hE4
      have hEr := hE3.trans hE4
      have z := b0.ext ((hE1.trans hE).trans hEr)
      have x0 := held (show w4.cell? ⟨w.heap.size, 0, none⟩ = some (.int .i64 n) from z.cell 0)
      have x1 := held (show w4.cell? ⟨w.heap.size, 1, none⟩ = some (.int .i64 c) from z.cell 1)
      have x2 := held (show w4.cell? ⟨w.heap.size, 2, none⟩ = some (.int .i64 t) from z.cell 2)
      refine wp_region_tab 36 [(4, fun v z => IntsIn z v .i64 (sumsF n c t a b L)), (9, fun v z => IntsIn z v .i64 (sumsF n c t a b L)), (10, fun v _ => v = .bool true), (13, fun v z => TsIn z v (stxs l)), (15, fun v z => TsIn z v (stxs l)), (16, fun v _ => v = .bool true), (21, fun v z => IntsIn z v .i64 (oth (stxs l) m l.length)), (24, fun v z => IntsIn z v .i64 (oth (stxs l) m l.length)), (25, fun v _ => v = .bool true), (30, fun v _ => v = .bool true), (33, fun v _ => v = .bool true)] (by kernel_rfl) (by kernel_rfl) (by kernel_rfl) ⟨fun _ _ _ hE h => h.ext hE, fun _ _ _ hE h => h.ext hE, stays_eq _, fun _ _ _ hE h => h.ext hE, fun _ _ _ hE h => h.ext hE, stays_eq _, fun _ _ _ hE h => h.ext hE, fun _ _ _ hE h => h.ext hE, stays_eq _, stays_eq _, stays_eq _, trivial⟩ ?_
      refine rg_quiet rfl rfl rfl rfl ?_; intro K hK; go_big_quiet_op; go_big_quiet_on
      refine rg_quiet rfl rfl rfl rfl ?_; intro K hK; go_big_quiet_op; go_big_quiet_on
      refine rg_quiet rfl rfl rfl rfl ?_; intro K hK; go_big_quiet_op; go_big_quiet_on
      refine rg_quiet rfl rfl rfl rfl ?_; intro K hK; go_big_quiet_op; go_big_quiet_on
      refine rg_fact [] rfl rfl rfl (by kernel_rfl) (fun u hE hf => ?_) (fun v4' u4 hE4' hG4 h4 => ?_)
      · go_simp
        refine (sumsF_any n c t _ L a b u (HPr.out.ext (hEr.trans hE)) HLl.out HF.out.key HF.out.low (HT.out.u.ext (hX4.trans hE))).mono ?_
        rintro e w' ⟨v', ⟨rfl, hw⟩, hi⟩
        exact ⟨_, rfl, rg_doneR hE hw hi⟩
      clear hE4' hG4 h4
      simp only [Act.put, List.setIfInBounds_toArray, List.set_cons_zero, List.set_cons_succ]
      refine rg_quiet rfl rfl rfl rfl ?_; intro K hK; go_big_quiet_op; go_big_quiet_on
      refine rg_quiet rfl rfl rfl rfl ?_; intro K hK; go_big_quiet_op; go_big_quiet_on
      refine rg_quiet rfl rfl rfl rfl ?_; intro K hK; go_big_quiet_op; go_big_quiet_on
      refine rg_quiet rfl rfl rfl rfl ?_; intro K hK; go_big_quiet_op; go_big_quiet_on
      refine rg_fact [] rfl rfl rfl (by kernel_rfl) (fun u hE hf => ?_) (fun v9 u9 hE9 hG9 h9 => ?_)
      · go_simp
        refine (sums23F_any n c t _ L a b u (HPr.out.ext (hEr.trans hE)) HLl.out HF.out.key HF.out.low).mono ?_
        rintro e w' ⟨v', ⟨rfl, hw⟩, hi⟩
        exact ⟨_, rfl, rg_doneR hE hw hi⟩
      clear hE9 hG9 h9
      simp only [Act.put, List.setIfInBounds_toArray, List.set_cons_zero, List.set_cons_succ]
      refine rg_val [4, 9] rfl rfl rfl (by kernel_rfl) (fun w1 hE hf => ?_) ?_
      · go_simp
        exact (sameInts_alike _ _ _ _ ((hf 4 (by simp)).1.2 rfl) ((hf 9 (by simp)).2 rfl)).mono fun e w' ⟨he, hw⟩ => ⟨_, he, rg_done hE hw (rfl)⟩
      simp only [Act.put, List.setIfInBounds_toArray, List.set_cons_zero, List.set_cons_succ]
      refine rg_quiet rfl rfl rfl rfl ?_; intro K hK; go_big_quiet_op; go_big_quiet_on
      refine rg_quiet rfl rfl rfl rfl ?_; intro K hK; go_big_quiet_op; go_big_quiet_on
      refine rg_fact [] rfl rfl rfl (by kernel_rfl) (fun u hE hf => ?_) (fun v13 u13 hE13 hG13 h13 => ?_)
      · go_simp
        refine (texts_any _ l u (HLr.out.ext (hEr.trans hE)) HLB.out (by have := HNL.out; omega) (pow10_ext HT.out.p (hX4.trans hE))).mono ?_
        rintro e w' ⟨v', ⟨rfl, hw⟩, ho⟩
        exact ⟨_, rfl, rg_doneR hE hw (by have h := SliceIn.of_owns ho; unfold TsIn; simpa [stxs] using h)⟩
      clear hE13 hG13 h13
      simp only [Act.put, List.setIfInBounds_toArray, List.set_cons_zero, List.set_cons_succ]
      refine rg_quiet rfl rfl rfl rfl ?_; intro K hK; go_big_quiet_op; go_big_quiet_on
      refine rg_fact [] rfl rfl rfl (by kernel_rfl) (fun u hE hf => ?_) (fun v15 u15 hE15 hG15 h15 => ?_)
      · go_simp
        refine (texts23_any _ l u (HLr.out.ext (hEr.trans hE)) HLB.out (by have := HNL.out; omega)).mono ?_
        rintro e w' ⟨v', ⟨rfl, hw⟩, ho⟩
        exact ⟨_, rfl, rg_doneR hE hw (by have h := SliceIn.of_owns ho; unfold TsIn; simpa [stxs] using h)⟩
      clear hE15 hG15 h15
      simp only [Act.put, List.setIfInBounds_toArray, List.set_cons_zero, List.set_cons_succ]
      refine rg_val [13, 15] rfl rfl rfl (by kernel_rfl) (fun w1 hE hf => ?_) ?_
      · go_simp
        exact (sameTs_any _ _ _ _ ((hf 13 (by simp)).1.2 rfl) ((hf 15 (by simp)).2 rfl)).mono fun e w' ⟨he, hw⟩ => ⟨_, he, rg_done hE hw (rfl)⟩
      simp only [Act.put, List.setIfInBounds_toArray, List.set_cons_zero, List.set_cons_succ]
      refine rg_quiet rfl rfl rfl rfl ?_; intro K hK; go_big_quiet_op; go_big_quiet_on
      refine rg_quiet rfl rfl rfl rfl ?_; intro K hK; go_big_quiet_op; go_big_quiet_on
      refine rg_quiet rfl rfl rfl rfl ?_; intro K hK; go_big_quiet_op; go_big_quiet_on
      refine rg_quiet rfl rfl rfl rfl ?_; intro K hK; go_big_quiet_op; go_big_quiet_on
      refine rg_fact [] rfl rfl rfl (by kernel_rfl) (fun u hE hf => ?_) (fun v21 u21 hE21 hG21 h21 => ?_)
      · go_simp
        refine (other_any _ _ l m u (HLr.out.ext (hEr.trans hE)) (HMr.out.ext (hEr.trans hE)) HLB.out (by have := HNL.out; omega) (pow10_ext HT.out.p (hX4.trans hE))).mono ?_
        rintro e w' ⟨v', ⟨rfl, hw⟩, hi⟩
        exact ⟨_, rfl, rg_doneR hE hw hi⟩
      clear hE21 hG21 h21
      simp only [Act.put, List.setIfInBounds_toArray, List.set_cons_zero, List.set_cons_succ]
      refine rg_quiet rfl rfl rfl rfl ?_; intro K hK; go_big_quiet_op; go_big_quiet_on
      refine rg_quiet rfl rfl rfl rfl ?_; intro K hK; go_big_quiet_op; go_big_quiet_on
      refine rg_fact [] rfl rfl rfl (by kernel_rfl) (fun u hE hf => ?_) (fun v24 u24 hE24 hG24 h24 => ?_)
      · go_simp
        refine (other23_any _ _ l m u (HLr.out.ext (hEr.trans hE)) (HMr.out.ext (hEr.trans hE)) HLB.out (by have := HNL.out; omega)).mono ?_
        rintro e w' ⟨v', ⟨rfl, hw⟩, hi⟩
        exact ⟨_, rfl, rg_doneR hE hw hi⟩
      clear hE24 hG24 h24
      simp only [Act.put, List.setIfInBounds_toArray, List.set_cons_zero, List.set_cons_succ]
      refine rg_val [21, 24] rfl rfl rfl (by kernel_rfl) (fun w1 hE hf => ?_) ?_
      · go_simp
        exact (sameInts_alike _ _ _ _ ((hf 21 (by simp)).1.2 rfl) ((hf 24 (by simp)).2 rfl)).mono fun e w' ⟨he, hw⟩ => ⟨_, he, rg_done hE hw (rfl)⟩
      simp only [Act.put, List.setIfInBounds_toArray, List.set_cons_zero, List.set_cons_succ]
      refine rg_quiet rfl rfl rfl rfl ?_; intro K hK; go_big_quiet_op; go_big_quiet_on
      refine rg_quiet rfl rfl rfl rfl ?_; intro K hK; go_big_quiet_op; go_big_quiet_on
      refine rg_quiet rfl rfl rfl rfl ?_; intro K hK; go_big_quiet_op; go_big_quiet_on
      refine rg_quiet rfl rfl rfl rfl ?_; intro K hK; go_big_quiet_op; go_big_quiet_on
      refine rg_val [] rfl rfl rfl (by kernel_rfl) (fun w1 hE hf => ?_) ?_
      · go_simp
        exact (sameParts_any _ _ M3 M4 (by rw [HM3.out, HM4.out]) _ (HP3.out.ext (hE4.trans hE)) (HP4.out.ext hE)).mono fun e w' ⟨he, hw⟩ => ⟨_, he, rg_done hE hw (rfl)⟩
      simp only [Act.put, List.setIfInBounds_toArray, List.set_cons_zero, List.set_cons_succ]
      refine rg_quiet rfl rfl rfl rfl ?_; intro K hK; go_big_quiet_op; go_big_quiet_on
      refine rg_quiet rfl rfl rfl rfl ?_; intro K hK; go_big_quiet_op; go_big_quiet_on
      refine rg_val [] rfl rfl rfl (by kernel_rfl) (fun w1 hE hf => ?_) ?_
      · go_simp
        exact (awake23_any _ (pow10_ext HT.out.p (hX4.trans hE))).mono fun e w' ⟨he, hw⟩ => ⟨_, he, rg_done hE hw (rfl)⟩
      simp only [Act.put, List.setIfInBounds_toArray, List.set_cons_zero, List.set_cons_succ]
      refine rg_quiet rfl rfl rfl rfl ?_; intro K hK; go_big_quiet_op; go_big_quiet_on
      refine rg_quiet rfl rfl rfl rfl ?_; intro K hK; go_big_quiet_op; go_big_quiet_on
      refine rel_nil fun w5 hE5 _ => ?_
      go_wp2_with fail
      go_ret
      exact ⟨rfl, hX4.trans hE5⟩
theorem walk_treeAll (n c t : Int) (v1 : Value) (a2 a3 : Int) (v4 v5 : Value) (W : World) (w1 : ∃ L : List Pa, PartsIn W v1 L) (_ : (Lit.int .i64 a2).wf = true) (_ : (Lit.int .i64 a3).wf = true) (w4 : ∃ l : List Int, IntsIn W v4 .i64 l ∧ ∀ n ∈ l, (Lit.int .i64 n).wf = true) (w5 : ∃ m : List ByteArray, TsIn W v5 m) (hT : TabV W) :
    Calls Tryd.prog 6 #[.agg #[.int .i64 n, .int .i64 c, .int .i64 t], v1, .int .i64 a2, .int .i64 a3, v4, v5] W fun e w' => e = .returned (.bool true) ∧ Ext W w' := by
  obtain ⟨L, hL⟩ := w1
  obtain ⟨l, hl, hb⟩ := w4
  obtain ⟨m, hm⟩ := w5
  exact law_treeAll n c t v1 L a2 a3 v4 l v5 m W hL hl (fun x hx => wf_i64 (hb x hx)) hm hT
end Go.Proofs.YtcmgeccgahakbaaDoor

/- Slices and structs that come in, read. -/
namespace Go.Proofs.YtcmgeccgahakbaaDoor
open Go Go.RowKit Go.ChangeShapes Go.WideShapes Go.ChangeAt

theorem flat_get {α β : Type} {f : α → List β} {n : Nat} : ∀ {l : List α} {j : Nat} {u : β}, (∀ a ∈ l, (f a).length = n) → (l.flatMap f)[j]? = some u → ∃ (k : Nat) (h : k < l.length) (r : Nat), r < n ∧ j = k * n + r ∧ (f l[k])[r]? = some u
  | [], j, u, _, h => by simp at h
  | a :: l, j, u, hn, h => by
    have ha := hn a (List.mem_cons_self ..)
    rw [List.flatMap_cons] at h
    by_cases hj : j < n
    · rw [List.getElem?_append_left (by omega)] at h
      exact ⟨0, by simp, j, hj, by omega, h⟩
    · rw [List.getElem?_append_right (by omega), ha] at h
      obtain ⟨k, hk, r, hr, e, hu⟩ := flat_get (fun b hb => hn b (List.mem_cons_of_mem _ hb)) h
      exact ⟨k + 1, by simpa using hk, r, hr, by rw [Nat.succ_mul]; omega, by simpa using hu⟩
theorem list_of {α : Type} {p : Nat → α → Prop} : ∀ n, (∀ i, i < n → ∃ a, p i a) → ∃ l : List α, l.length = n ∧ ∀ i (h : i < l.length), p i l[i]
  | 0, _ => ⟨[], rfl, fun i h => absurd h (Nat.not_lt_zero _)⟩
  | n + 1, h => by
    obtain ⟨l, hl, hp⟩ := list_of n (fun i hi => h i (by omega))
    obtain ⟨a, ha⟩ := h n (by omega)
    refine ⟨l ++ [a], by simp [hl], fun i hi => ?_⟩
    by_cases hlt : i < l.length
    · rw [List.getElem_append_left hlt]; exact hp i hlt
    · have e : i = l.length := by simp at hi; omega
      subst e
      rw [List.getElem_append_right (Nat.le_refl _)]
      simpa [hl] using ha

section
variable {H : Type} {enc : TypeId × Value → H} {P : Program} {W : World} {spare : Nat → Bool} {held : Bool} {n : Nat} {cs : List Value} {x : DataW H × List MemPlace}
theorem read_slice {α : Type} {T e : TypeId} {size fuel : Nat} (ht : P.underlying T = some (.slice e)) (hs : P.cellsOf e = size) (hpos : 0 < size) (f : α → List Value) (Q : α → Prop)
    (h1 : ∀ n cs x, DataW.trod enc P W 0 spare held n e cs = some x → ∃ a, cs = f a ∧ Q a) (h : DataW.trod enc P W 0 spare held fuel T cs = some x) :
    ∃ v, cs = [v] ∧ ∃ l : List α, SliceIn W v l.length (l.flatMap f) ∧ ∀ a ∈ l, Q a := by
  rcases DataW.trod_slice ht h with ⟨rfl, _⟩ | ⟨a, len, cap, elems, rest, n, _, rfl, _, _, hl, hm, hlen, hel, _⟩
  · exact ⟨_, rfl, [], SliceIn.nil W, nofun⟩
  · have each : ∀ i, i < len → ∃ b : α, W.cells? 0 (a.add (i * size)) size = some (f b) ∧ Q b := by
      intro i hi
      have := hel i hi
      rw [List.getElem?_eq_getElem (by omega), hs, Option.bind_eq_some_iff] at this
      obtain ⟨cs', h2, h3⟩ := this
      obtain ⟨b, rfl, hq⟩ := h1 _ _ _ h3
      exact ⟨b, h2, hq⟩
    obtain ⟨l, hll, hp⟩ := list_of len each
    have flen : ∀ b ∈ l, (f b).length = size := by
      intro b hb
      obtain ⟨i, hi, rfl⟩ := List.getElem_of_mem hb
      exact (World.cells?_some (hp i hi).1).2.1
    refine ⟨_, rfl, l, ⟨some a, cap, by rw [hll], by rw [hll]; exact hl, hm, nofun, fun j u hj => ?_⟩, fun b hb => ?_⟩
    · obtain ⟨k, hk, r, hr, rfl, hu⟩ := flat_get flen hj
      have h2 := (World.cells?_some (hp k hk).1).2.2 r hr
      rw [hu] at h2
      obtain ⟨b, o, s⟩ := a
      cases s with
      | none =>
        rw [Addr.add_lit, Addr.add_lit] at h2
        exact ⟨b, o, rfl, by rw [← Nat.add_assoc]; exact h2⟩
      | some s =>
        exfalso
        have h0 := (World.cells?_some (hp 0 (by omega)).1).2.2 0 hpos
        rw [Nat.zero_mul] at h0
        simp only [Addr.add, if_pos] at h0
        unfold World.cell? at h0
        have hf0 : (f l[0])[0]? ≠ none := by
          rw [Ne, List.getElem?_eq_none_iff, flen _ (List.getElem_mem _)]
          omega
        split at h0 <;> simp at h0 <;> exact hf0 (by simp [← h0])
    · obtain ⟨i, hi, rfl⟩ := List.getElem_of_mem hb
      exact (hp i hi).2
theorem fld_string {t : TypeId} {o : Nat} {y : DataW H × List MemPlace} (ht : P.underlying t = some .string) (hc : P.cellsOf t = 1) (h : DataW.trod enc P W 0 spare held n t ((cs.drop o).take (P.cellsOf t)) = some y) : ∃ s : ByteArray, cs[o]? = some (.string s) := by
  obtain ⟨s, e, _⟩ := DataW.trod_string ht h
  rw [hc] at e
  exact ⟨s, cell_of_cut e⟩
theorem fld_int {t : TypeId} {o : Nat} {y : DataW H × List MemPlace} {k : IntKind} (ht : P.underlying t = some (.int k)) (hc : P.cellsOf t = 1) (h : DataW.trod enc P W 0 spare held n t ((cs.drop o).take (P.cellsOf t)) = some y) : ∃ s : Int, cs[o]? = some (.int k s) ∧ (Lit.int k s).wf = true := by
  obtain ⟨s, e, _, hw⟩ := DataW.trod_int ht h
  rw [hc] at e
  exact ⟨s, cell_of_cut e, hw⟩
theorem fld_bool {t : TypeId} {o : Nat} {y : DataW H × List MemPlace} (ht : P.underlying t = some .bool) (hc : P.cellsOf t = 1) (h : DataW.trod enc P W 0 spare held n t ((cs.drop o).take (P.cellsOf t)) = some y) : ∃ s : Bool, cs[o]? = some (.bool s) := by
  obtain ⟨s, e, _⟩ := DataW.trod_bool ht h
  rw [hc] at e
  exact ⟨s, cell_of_cut e⟩
theorem list3 {α : Type} {l : List α} {a b c : α} (h : l.length = 3) (h0 : l[0]? = some a) (h1 : l[1]? = some b) (h2 : l[2]? = some c) : l = [a, b, c] := by
  match l, h with
  | [x, y, z], _ => simp at h0 h1 h2; rw [h0, h1, h2]
theorem list4 {α : Type} {l : List α} {a b c d : α} (h : l.length = 4) (h0 : l[0]? = some a) (h1 : l[1]? = some b) (h2 : l[2]? = some c) (h3 : l[3]? = some d) : l = [a, b, c, d] := by
  match l, h with
  | [x, y, z, u], _ => simp at h0 h1 h2 h3; rw [h0, h1, h2, h3]
theorem list5 {α : Type} {l : List α} {a b c d e : α} (h : l.length = 5) (h0 : l[0]? = some a) (h1 : (l.drop 1).take 4 = [b, c, d, e]) : l = [a, b, c, d, e] := by
  match l, h with
  | [x, y, z, u, v], _ => simp at h0 h1; simp [h0, h1]
theorem list8 {α : Type} {l : List α} {a b c d e f g i : α} (h : l.length = 8) (h0 : l[0]? = some a) (h1 : (l.drop 1).take 4 = [b, c, d, e]) (h5 : l[5]? = some f) (h6 : l[6]? = some g) (h7 : l[7]? = some i) : l = [a, b, c, d, e, f, g, i] := by
  match l, h with
  | [x, y, z, u, v, p, q, r], _ => simp at h0 h1 h5 h6 h7; simp [h0, h1, h5, h6, h7]
end
theorem cells_string : Tryd.prog.cellsOf 9 = 1 := by kernel_rfl
theorem cells_int : Tryd.prog.cellsOf 3 = 1 := by kernel_rfl
theorem cells_bool : Tryd.prog.cellsOf 4 = 1 := by kernel_rfl
end Go.Proofs.YtcmgeccgahakbaaDoor

/- Rows and partitions that come in, read. -/
namespace Go.Proofs.YtcmgeccgahakbaaDoor
open Go Go.RowKit Go.ChangeShapes Go.WideShapes Go.ChangeAt

section
variable {H : Type} {enc : TypeId × Value → H} {W : World} {spare : Nat → Bool} {held : Bool} {n : Nat} {cs : List Value} {x : DataW H × List MemPlace}
theorem cellsA_Cell : Tryd.prog.cellsOf 88 = 4 := by kernel_rfl
theorem cellsA_Col : Tryd.prog.cellsOf 154 = 5 := by kernel_rfl
theorem cellsA_Row : Tryd.prog.cellsOf 91 = 8 := by kernel_rfl
theorem cellsA_Part : Tryd.prog.cellsOf 24 = 3 := by kernel_rfl
theorem cellsA_Cols : Tryd.prog.cellsOf 89 = 1 := by kernel_rfl
theorem cellsA_Rows : Tryd.prog.cellsOf 22 = 1 := by kernel_rfl
theorem trod_cell (h : DataW.trod enc Tryd.prog W 0 spare held n 88 cs = some x) : ∃ c : Cl, cs = [.string c.val, .bool c.dead, .int .i64 c.at_, .int .i64 c.fin] := by
  obtain ⟨xs, m, _, _, hl, hlen, hf⟩ := DataW.trod_struct Tryd.underlying88 h
  rw [cellsA_Cell] at hl
  match xs, hlen with
  | [y0, y1, y2, y3], _ =>
    obtain ⟨s, e0⟩ := fld_string Tryd.underlying9 cells_string (hf 0 _ rfl)
    obtain ⟨b, e1⟩ := fld_bool Tryd.underlying4 cells_bool (hf 1 _ rfl)
    obtain ⟨i, e2, _⟩ := fld_int Tryd.underlying3 cells_int (hf 2 _ rfl)
    obtain ⟨j, e3, _⟩ := fld_int Tryd.underlying3 cells_int (hf 3 _ rfl)
    exact ⟨⟨s, b, i, j⟩, list4 hl e0 e1 e2 e3⟩
theorem trod_col (h : DataW.trod enc Tryd.prog W 0 spare held n 154 cs = some x) : ∃ c : Co, cs = [.string c.name, .string c.cell.val, .bool c.cell.dead, .int .i64 c.cell.at_, .int .i64 c.cell.fin] := by
  obtain ⟨xs, m, _, _, hl, hlen, hf⟩ := DataW.trod_struct Tryd.underlying154 h
  rw [cellsA_Col] at hl
  match xs, hlen with
  | [y0, y1], _ =>
    obtain ⟨s, e0⟩ := fld_string Tryd.underlying9 cells_string (hf 0 _ rfl)
    obtain ⟨c, e1⟩ := trod_cell (hf 1 _ rfl)
    have e1' : (cs.drop 1).take (Tryd.prog.cellsOf 88) = _ := e1
    rw [cellsA_Cell] at e1'
    exact ⟨⟨s, c⟩, list5 hl e0 e1'⟩
theorem coCells_flat (l : List Co) : coCells l = l.flatMap fun c => [.string c.name, .string c.cell.val, .bool c.cell.dead, .int .i64 c.cell.at_, .int .i64 c.cell.fin] := by
  induction l with
  | nil => rfl
  | cons c l ih => simp [coCells, ih]
theorem roCells_flat (l : List (Ro × Value)) : roCells l = l.flatMap fun p => [.string p.1.key, .string p.1.live.val, .bool p.1.live.dead, .int .i64 p.1.live.at_, .int .i64 p.1.live.fin, .int .i64 p.1.gone, .int .i64 p.1.shade, p.2] := by
  induction l with
  | nil => rfl
  | cons c l ih => simp [roCells, ih]
theorem trod_cols (h : DataW.trod enc Tryd.prog W 0 spare held n 89 cs = some x) : ∃ v l, cs = [v] ∧ ColsIn W v l := by
  obtain ⟨v, rfl, l, h, _⟩ := read_slice Tryd.underlying89 cellsA_Col (by decide) _ (fun _ => True) (fun _ _ _ h => let ⟨c, e⟩ := trod_col h; ⟨c, e, trivial⟩) h
  exact ⟨v, l, rfl, by unfold ColsIn; rw [coCells_flat]; exact h⟩
/-- A row's cells, its columns in memory. -/
theorem trod_row (h : DataW.trod enc Tryd.prog W 0 spare held n 91 cs = some x) : ∃ p : Ro × Value, cs = [.string p.1.key, .string p.1.live.val, .bool p.1.live.dead, .int .i64 p.1.live.at_, .int .i64 p.1.live.fin, .int .i64 p.1.gone, .int .i64 p.1.shade, p.2] ∧ ColsIn W p.2 p.1.cols := by
  obtain ⟨xs, m, _, _, hl, hlen, hf⟩ := DataW.trod_struct Tryd.underlying91 h
  rw [cellsA_Row] at hl
  match xs, hlen with
  | [y0, y1, y2, y3, y4], _ =>
    obtain ⟨s, e0⟩ := fld_string Tryd.underlying9 cells_string (hf 0 _ rfl)
    obtain ⟨c, e1⟩ := trod_cell (hf 1 _ rfl)
    obtain ⟨i, e2, _⟩ := fld_int Tryd.underlying3 cells_int (hf 2 _ rfl)
    obtain ⟨j, e3, _⟩ := fld_int Tryd.underlying3 cells_int (hf 3 _ rfl)
    obtain ⟨v, l, e4, hin⟩ := trod_cols (hf 4 _ rfl)
    have e1' : (cs.drop 1).take (Tryd.prog.cellsOf 88) = _ := e1
    have e4' : (cs.drop 7).take (Tryd.prog.cellsOf 89) = _ := e4
    rw [cellsA_Cell] at e1'
    rw [cellsA_Cols] at e4'
    exact ⟨(⟨s, c, i, j, l⟩, v), list8 hl e0 e1' e2 e3 (cell_of_cut e4'), hin⟩
theorem trod_rows (h : DataW.trod enc Tryd.prog W 0 spare held n 22 cs = some x) : ∃ v ps, cs = [v] ∧ RowsIn W v ps := by
  obtain ⟨v, rfl, l, h, hc⟩ := read_slice Tryd.underlying22 cellsA_Row (by decide) _ _ (fun _ _ _ h => trod_row h) h
  exact ⟨v, l, rfl, by rw [roCells_flat]; exact h, hc⟩
set_option maxRecDepth 100000 in
/-- A row that comes in. -/
theorem read_row {base : Nat} {v : Value} {d : DataW H} {p : List MemPlace} (hv : Value.okWide Tryd.prog W .any base 91 v)
    (h : DataW.Trod enc Tryd.prog W 0 (fun _ => true) true 91 v d p) : ∃ (r : Ro) (u : Value), v = (.agg #[.string r.key, .string r.live.val, .bool r.live.dead, .int .i64 r.live.at_, .int .i64 r.live.fin, .int .i64 r.gone, .int .i64 r.shade, u]) ∧ ColsIn W u r.cols := by
  obtain ⟨cs, rfl, hsz⟩ := okWide_struct Tryd.underlying91 hv
  obtain ⟨fuel, hf⟩ := h
  obtain ⟨⟨r, u⟩, e, hin⟩ := trod_row hf
  exact ⟨r, u, congrArg Value.agg (Array.toList_inj.1 e), hin⟩
set_option maxRecDepth 100000 in
/-- A partition that comes in. -/
theorem read_part {base : Nat} {v : Value} {d : DataW H} {p : List MemPlace} (hv : Value.okWide Tryd.prog W .any base 24 v)
    (h : DataW.Trod enc Tryd.prog W 0 (fun _ => true) true 24 v d p) : ∃ (k : ByteArray) (g : Int) (u : Value) (ps : List (Ro × Value)), v = .agg #[.string k, .int .i64 g, u] ∧ RowsIn W u ps := by
  obtain ⟨cs, rfl, hsz⟩ := okWide_struct Tryd.underlying24 hv
  obtain ⟨fuel, hf⟩ := h
  have hf : DataW.trod enc Tryd.prog W 0 (fun _ => true) true fuel 24 cs.toList = some (d, p) := hf
  obtain ⟨xs, m, _, _, hl, hlen, hff⟩ := DataW.trod_struct Tryd.underlying24 hf
  rw [cellsA_Part] at hl
  match xs, hlen with
  | [y0, y1, y2], _ =>
    obtain ⟨s, e0⟩ := fld_string Tryd.underlying9 cells_string (hff 0 _ rfl)
    obtain ⟨i, e1, _⟩ := fld_int Tryd.underlying3 cells_int (hff 1 _ rfl)
    obtain ⟨u, ps, e2, hin⟩ := trod_rows (hff 2 _ rfl)
    have e2' : (cs.toList.drop 2).take (Tryd.prog.cellsOf 22) = _ := e2
    rw [cellsA_Rows] at e2'
    exact ⟨s, i, u, ps, congrArg Value.agg (Array.toList_inj.1 (list3 hl e0 e1 (cell_of_cut e2'))), hin⟩
end
end Go.Proofs.YtcmgeccgahakbaaDoor
