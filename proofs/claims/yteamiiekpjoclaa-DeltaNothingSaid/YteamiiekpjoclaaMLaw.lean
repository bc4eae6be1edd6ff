/- DeltaNothing: what turns nothing of a view has no deltas: the law's walk. -/
import Derived.Test.YteamiiekpjoclaaM21
import Derived.Test.YteamiiekpjoclaaM24
import Derived.Test.YteamiiekpjoclaaM4
namespace Go.Proofs.Yteamiiekpjoclaa
open Go Go.RowKit
attribute [local go_sem] yields yUpon ro8 pa3 vw5 tabV viewV co5

theorem ik_small (i : Nat) (h : i < 4) : (ik i).size ≤ 10 ∧ (vkey ⟨#[109]⟩ (ik i)).size ≤ 400 := by
  obtain rfl | rfl | rfl | rfl : i = 0 ∨ i = 1 ∨ i = 2 ∨ i = 3 := by omega
  all_goals decide
theorem num_keys {ps : List (Ro × Value)} (h : ∀ r ∈ ps.map (·.1), ∃ i, i < 4 ∧ r.key = ik i) : ∀ p ∈ ps, p.1.key.size ≤ 10000000 ∧ (vkey ⟨#[109]⟩ p.1.key).size ≤ 400 ∧ (vkey ⟨#[109]⟩ p.1.key).size ≤ 400 := fun p hp => by
  obtain ⟨i, hi, e⟩ := h _ (List.mem_map_of_mem hp)
  obtain ⟨h1, h2⟩ := ik_small i hi
  rw [e]
  exact ⟨by omega, h2, h2⟩
theorem out_nil {L : List Pa} {l : List (ByteArray × Ro)} (h : L.map Pa.data = outP l) (hl : l = []) : L = [] := by
  subst hl
  simpa [outP] using h

set_option maxRecDepth 100000 in
set_option maxHeartbeats 8000000 in
theorem law_deltaNothing (v0 : Value) (z : List Int) (at_ val : Int) (w : World) (hin : IntsIn w v0 .i64 z) (hz : z.length ≤ 60) :
    Calls Try.prog 5 #[v0, .int .i64 at_, .int .i64 val] w fun e w' => e = .returned (.bool true) ∧ Ext w w' := by
  obtain ⟨a, c, rfl, hc, hcm, ha⟩ := hin.block
  go_enter Try.func5, Try.ntmps5
  go_wp2_with fail
  refine (view_any w).mono ?_
  rintro e w1 ⟨bs, bu, rfl, hns, hE1⟩
  go_wp2_with (first
    | (((guard_target =~ wpList _ _ _ (Oper.mk none (Op.store _ (Operand.tmp 7) (Operand.tmp 20)) _ _ _ _ :: _) _ _); go_must (refine storeBox rfl 28 (.tmp 7) (.tmp 20) rfl (w1.heap.size) _ _ _ (by rfl) (by rfl) (((BoxAt.made w1 #[.string ⟨#[]⟩, .int .i64 0, .string ⟨#[]⟩, .int .i64 0, .string ⟨#[]⟩, .int .i64 0, .slice none 0 0] 28).ext ((Ext.refl _).alloc _))) (by kernel_rfl) (by rfl) (by simp [Value.oneCell']) ?_); intro w2 c2 g2); have hX2 : Ext w1 w2 := (((Ext.refl w1).alloc _).alloc _).grown g2 (fun q hq => by cases hq; omega); have hv2 := (BoxAt.madeN #[.string ⟨#[]⟩, .int .i64 0, .string ⟨#[]⟩, .string ⟨#[]⟩, .slice none 0 0] 31 (show (w1.alloc (.cells #[.string ⟨#[]⟩, .int .i64 0, .string ⟨#[]⟩, .int .i64 0, .string ⟨#[]⟩, .int .i64 0, .slice none 0 0] 28)).heap.size = w1.heap.size + 1 by simp)).grown g2 (fun e => by have := Option.some.inj e; omega))
    | (((guard_target =~ wpList _ _ _ (Oper.mk none (Op.store _ (Operand.tmp 8) (Operand.tmp 21)) _ _ _ _ :: _) _ _); go_must (refine storeBox rfl 31 (.tmp 8) (.tmp 21) rfl (w1.heap.size + 1) _ _ _ (by rfl) (by rfl) (hv2) (by kernel_rfl) (by rfl) (by simp [Value.oneCell']) ?_); intro w3 c3 g3); have hX3 : Ext w1 w3 := hX2.grown g3 (fun q hq => by cases hq; omega); have b2 : BoxAt w3 w1.heap.size #[.string ⟨#[116]⟩, .int .i64 1, .string ⟨#[112]⟩, .int .i64 1, .string ⟨#[107]⟩, .int .i64 2, .slice (some ⟨bs, 0, none⟩) 4 4] 28 := c2.grown g3 (fun e => by have := Option.some.inj e; omega); have b3 : BoxAt w3 (w1.heap.size + 1) (vw5 dV (.slice (some ⟨bu, 0, none⟩) 2 2)) 31 := c3))
  have hE3 : Ext w w3 := hE1.trans hX3
  obtain ⟨bt, hbt⟩ : ∃ b, b = w1.heap.size := ⟨_, rfl⟩
  obtain ⟨bv, hbv⟩ : ∃ b, b = w1.heap.size + 1 := ⟨_, rfl⟩
  rw [← hbv] at b3
  rw [← hbt] at b2
  rw [← hbv, ← hbt]
  replace hns := hns.ext hX3
  have hl3 := b3.lt
  have hbb : bt < bv := by omega
  refine (made_any _ z ⟨#[109]⟩ w3 (hin.ext hE3)).mono ?_
  rintro e w4 ⟨⟨pk, pg, prv, ps⟩, rfl, ⟨hpk, hpg, hgr⟩, hrows, hE4⟩
  simp only at hpk hpg hgr hrows
  obtain ⟨ar, cr, rfl⟩ := hrows.shape
  have hnum := hgr.num
  obtain ⟨n, hn⟩ : ∃ n, n = ps.length := ⟨_, rfl⟩
  rw [← hn] at hrows ⊢
  have HN := Lib.hid hn
  have HNUM := Lib.hid hnum
  have hn4 : n ≤ 4 := by have := hnum.len; rw [List.length_map] at this; omega
  clear hn hnum hgr hpk c2 c3 hv2 hX2
  clear hbt hbv
  obtain ⟨TB, hTB⟩ : ∃ T : Array Value, T = #[.string ⟨#[116]⟩, .int .i64 1, .string ⟨#[112]⟩, .int .i64 1, .string ⟨#[107]⟩, .int .i64 2, .slice (some ⟨bs, 0, none⟩) 4 4] := ⟨_, rfl⟩
  have HTB := Lib.hid hTB
  rw [← hTB] at b2
  clear hTB
  go_wp2_with (((guard_target =~ wpList _ _ _ (Oper.mk none (Op.store _ (Operand.tmp 9) (Operand.tmp 23)) _ _ _ _ :: _) _ _); go_must (refine storeBox rfl 39 (.tmp 9) (.tmp 23) rfl (w4.heap.size) _ _ _ (by rfl) (by rfl) ((BoxAt.made w4 (pa3 ⟨#[]⟩ 0 (.slice none 0 0)) 39)) (by kernel_rfl) (by rfl) (by simp [Value.oneCell']) ?_); intro w5 c5 g5); have hX5 : Ext w4 w5 := ((Ext.refl w4).alloc _).grown g5 (fun q hq => by cases hq; omega); have d5 : BoxAt w5 w4.heap.size (pa3 ⟨#[109]⟩ pg (.slice ar n cr)) 39 := c5; have d2 := b2.ext (hE4.trans hX5); have d3 := b3.ext (hE4.trans hX5); have yt : ∀ i, w5.cell? ⟨bt, i, none⟩ = TB[i]? := (fun i => d2.cell i); have yv : ∀ i, w5.cell? ⟨bv, i, none⟩ = (vw5 dV (.slice (some ⟨bu, 0, none⟩) 2 2))[i]? := (fun i => d3.cell i); have yp : ∀ i, w5.cell? ⟨w4.heap.size, i, none⟩ = (pa3 ⟨#[109]⟩ pg (.slice ar n cr))[i]? := (fun i => d5.cell i); rw [HTB.out] at yt)
  have hE5 : Ext w w5 := hE3.trans (hE4.trans hX5)
  have hr5 := hrows.ext hX5
  have hns5 := hns.ext (hE4.trans hX5)
  have hcl : ∀ p ∈ ps, p.1.cols.length ≤ 4 := fun p hp => (HNUM.out.row p.1 (List.mem_map_of_mem hp)).len
  have HCL := Lib.hid hcl
  clear c5 g5 b2 b3 hns hrows hX5 hE4 hX3 hE1 hcl
  refine (deltaOf_any (.slice (some ⟨bs, 0, none⟩) 4 4) dV (.slice (some ⟨bu, 0, none⟩) 2 2) dNs ⟨#[109]⟩ pg _ ps ⟨#[109]⟩ pg _ ps w5 hr5.rows hr5.rows hns5 (fun p hp => by have := HCL.out p hp; omega) (fun p hp => by have := HCL.out p hp; omega) (by have := HN.out; omega) (by decide) (by decide) (num_keys HNUM.out.key)).mono ?_
  rintro e w6 ⟨v6, rfl, L6, hown6, _, hdata6, hE6⟩
  obtain rfl := out_nil hdata6 (nothing_self HNUM.out.up)
  obtain ⟨a6, c6, rfl⟩ := own_shape hown6
  have e2 := d2.ext hE6
  have e3 := d3.ext hE6
  have e5 := d5.ext hE6
  have hr6 := hr5.ext hE6
  have hns6 := hns5.ext hE6
  have yt : ∀ i, w6.cell? ⟨bt, i, none⟩ = TB[i]? := fun i => e2.cell i
  have yv : ∀ i, w6.cell? ⟨bv, i, none⟩ = (vw5 dV (.slice (some ⟨bu, 0, none⟩) 2 2))[i]? := fun i => e3.cell i
  have yp : ∀ i, w6.cell? ⟨w4.heap.size, i, none⟩ = (pa3 ⟨#[109]⟩ pg (.slice ar n cr))[i]? := fun i => e5.cell i
  rw [HTB.out] at yt
  clear hown6 hdata6 hr5 hns5 d2 d3
  replace hE6 := hE5.trans hE6
  obtain ⟨bp, hbp⟩ : ∃ b, b = w4.heap.size := ⟨_, rfl⟩
  rw [← hbp] at e5 yp d5
  rw [← hbp]
  have hl5 := d5.lt
  clear hbp d5
  by_cases hn0 : n = 0
  · subst hn0
    go_wp2_with fail
    refine (deltaOf_any (.slice (some ⟨bs, 0, none⟩) 4 4) dV (.slice (some ⟨bu, 0, none⟩) 2 2) dNs ⟨#[109]⟩ pg _ ps ⟨#[109]⟩ pg _ ps w6 hr6.rows hr6.rows hns6 (fun p hp => by have := HCL.out p hp; omega) (fun p hp => by have := HCL.out p hp; omega) (by have := HN.out; omega) (by decide) (by decide) (num_keys HNUM.out.key)).mono ?_
    rintro e w7 ⟨v7, rfl, L7, hown7, _, hdata7, hE7⟩
    obtain rfl := out_nil hdata7 (nothing_self HNUM.out.up)
    obtain ⟨a7, c7, rfl⟩ := own_shape hown7
    go_wp2_with fail
    refine (awake19_any w7).mono ?_
    rintro e w8 ⟨rfl, hE8⟩
    go_wp2_with fail
    go_ret
    exact ⟨rfl, (hE6.trans hE7).trans hE8⟩
  · go_wp2_with fail
    refine (place_any at_ n (by omega) (by omega) w6).mono ?_
    obtain ⟨K, hK⟩ : ∃ K : Nat, (K : Int) = at_ % n := ⟨(at_ % n).toNat, by have := Int.emod_nonneg at_ (show (n : Int) ≠ 0 by omega); omega⟩
    have hKn : K < n := by have := Int.emod_lt_of_pos at_ (show (0 : Int) < n by omega); omega
    rw [← hK]
    rintro e w7 ⟨rfl, rfl⟩
    clear hK
    obtain ⟨T, hT⟩ : ∃ T : Nat, (T : Int) = val % 3 := ⟨(val % 3).toNat, by omega⟩
    have hT3 : T < 3 := by omega
    have HT := Lib.hid hT
    clear hT
    obtain ⟨vv, hvv⟩ : ∃ vv : ByteArray, vv = (⟨#[117, 118, 119]⟩ : ByteArray).extract T (T + 1) := ⟨_, rfl⟩
    have HVV := Lib.hid hvv
    clear hvv
    have hKp : K < ps.length := by rw [← HN.out]; exact hKn
    obtain ⟨a', c', ee, hcc, hccm, hget⟩ := hr6.rows.get
    obtain ⟨bb, oo, e', hat⟩ := hget K hKp
    injection ee with ee1 ee2 ee3
    subst ee1 ee3
    subst e'
    obtain ⟨key, hkey⟩ : ∃ k, k = ps[K].1.key := ⟨_, rfl⟩
    have k0 := hat.c0
    rw [← hkey] at k0
    have HKEY := Lib.hid hkey
    have q2 : w6.cell? ⟨bp, 2, none⟩ = some (.slice (some ⟨bb, oo, none⟩) n cr) := e5.cell 2
    have hl6 := e5.lt
    have hbt6 := e2.lt
    have hbv6 := e3.lt
    have hw6 := hE6.le
    have FIN : Hid (∀ y, Ext w6 y → Ext w y ∧ BoxAt y bt TB 28 ∧ BoxAt y bv (vw5 dV (.slice (some ⟨bu, 0, none⟩) 2 2)) 31 ∧ BoxAt y bp (pa3 ⟨#[109]⟩ pg (.slice (some ⟨bb, oo, none⟩) n cr)) 39 ∧ RowsT y (.slice (some ⟨bb, oo, none⟩) n cr) ps ∧ StrsIn y (.slice (some ⟨bu, 0, none⟩) 2 2) dNs) := fun y h => ⟨hE6.trans h, e2.ext h, e3.ext h, e5.ext h, hr6.ext h, hns6.ext h⟩
    clear hkey hat hget ee2 yt yv yp e2 e3 e5 hr6 hns6 hE6
    go_wp2_with fail
    refine wp_region_tab 20 [(8, fun v _ => v = .int .i64 (T : Int)), (10, fun v _ => v = .int .i64 (T : Int)), (12, fun v _ => v = .string vv), (15, fun v x => ∃ b, v = .slice (some ⟨b, 0, none⟩) 1 1 ∧ BoxAt x b (co5 ⟨⟨#[99]⟩, ⟨vv, false, 20, 0⟩⟩) 58), (17, fun v x => ∃ b b', v = .slice (some ⟨b, 0, none⟩) 1 1 ∧ BoxAt x b (ro8 (nRow key vv) (.slice (some ⟨b', 0, none⟩) 1 1)) 55 ∧ BoxAt x b' (co5 ⟨⟨#[99]⟩, ⟨vv, false, 20, 0⟩⟩) 58), (19, fun v x => ∃ b, v = .pointer (some ⟨b, 0, none⟩) ∧ w6.heap.size ≤ b ∧ BoxAt x b (pa3 ⟨#[]⟩ 0 (.slice none 0 0)) 39)] (by kernel_rfl) (by kernel_rfl) (by kernel_rfl) ⟨stays_eq _, stays_eq _, stays_eq _, fun _ _ _ hE ⟨b, e, h⟩ => ⟨b, e, h.ext hE⟩, fun _ _ _ hE ⟨b, b', e, h, h'⟩ => ⟨b, b', e, h.ext hE, h'.ext hE⟩, fun _ _ _ hE ⟨b, e, h, h'⟩ => ⟨b, e, h, h'.ext hE⟩, trivial⟩ ?_
    replace q2 := held q2
    replace k0 := held k0
    refine rg_quiet rfl rfl rfl rfl ?_; intro K hK; go_big_quiet_op; go_big_quiet_on
    refine rg_quiet rfl rfl rfl rfl ?_; intro K hK; go_big_quiet_op; go_big_quiet_on
    refine rg_quiet rfl rfl rfl rfl ?_; intro K hK; go_big_quiet_op; go_big_quiet_on
    refine rg_quiet rfl rfl rfl rfl ?_; intro K hK; go_big_quiet_op; go_big_quiet_on
    refine rg_quiet rfl rfl rfl rfl ?_; intro K hK; go_big_quiet_op; go_big_quiet_on
    refine rg_quiet rfl rfl rfl rfl ?_; intro K hK; go_big_quiet_op; go_big_quiet_on
    refine rg_quiet rfl rfl rfl rfl ?_; intro K hK; go_big_quiet_op; go_big_quiet_on
    refine rg_quiet rfl rfl rfl rfl ?_; intro K hK; go_big_quiet_op; go_big_quiet_on
    refine rg_val [] rfl rfl rfl (by kernel_rfl) (fun y hE hf => ?_) ?_
    · go_simp
      exact (place_any val 3 (by decide) (by decide) y).mono fun e w' ⟨he, hw⟩ => ⟨_, he, rg_done hE (Ext.of_eq hw) (by rw [HT.out])⟩
    simp only [Act.put, List.setIfInBounds_toArray, List.set_cons_zero, List.set_cons_succ]
    refine rg_quiet rfl rfl rfl rfl ?_; intro K hK; go_big_quiet_op; go_big_quiet_on
    refine rg_val [] rfl rfl rfl (by kernel_rfl) (fun y hE hf => ?_) ?_
    · go_simp
      exact (place_any val 3 (by decide) (by decide) y).mono fun e w' ⟨he, hw⟩ => ⟨_, he, rg_done hE (Ext.of_eq hw) (by rw [HT.out])⟩
    simp only [Act.put, List.setIfInBounds_toArray, List.set_cons_zero, List.set_cons_succ]
    refine rg_quiet rfl rfl rfl rfl ?_; intro K hK; go_big_quiet_op; go_big_quiet_on
    refine rg_val [] rfl rfl rfl (by kernel_rfl) (fun y hE hf => ?_) ?_
    · have hv := HVV.out
      clear HT
      obtain rfl | rfl | rfl : T = 0 ∨ T = 1 ∨ T = 2 := by omega
      all_goals
        rw [hv]
        go_simp
        exact rg_done hE (Ext.refl y) rfl
    simp only [Act.put, List.setIfInBounds_toArray, List.set_cons_zero, List.set_cons_succ]
    refine rg_quiet rfl rfl rfl rfl ?_; intro K hK; go_big_quiet_op; go_big_quiet_on
    refine rg_quiet rfl rfl rfl rfl ?_; intro K hK; go_big_quiet_op; go_big_quiet_on
    refine rg_fact [] rfl rfl rfl (by kernel_rfl) (fun y hE hf => ?_) (fun v15 y15 hE15 hG15 h15 => ?_)
    · go_simp
      exact rg_doneR hE ((Ext.refl y).alloc _) ⟨_, rfl, BoxAt.made y _ _⟩
    obtain ⟨b15, rfl, _⟩ := h15
    clear hE15 hG15
    simp only [Act.put, List.setIfInBounds_toArray, List.set_cons_zero, List.set_cons_succ]
    refine rg_quiet rfl rfl rfl rfl ?_; intro K hK; go_big_quiet_op; go_big_quiet_on
    refine rg_fact [15] rfl rfl rfl (by kernel_rfl) (fun y hE hf => ?_) (fun v17 y17 hE17 hG17 h17 => ?_)
    · obtain ⟨b, e, hb⟩ := (hf 15 (by simp)).2 rfl
      cases e
      go_simp
      exact rg_doneR hE ((Ext.refl y).alloc _) ⟨_, rfl, _, BoxAt.made y _ _, hb.ext ((Ext.refl y).alloc _)⟩
    obtain ⟨b17, b17', rfl, _⟩ := h17
    clear hE17 hG17
    simp only [Act.put, List.setIfInBounds_toArray, List.set_cons_zero, List.set_cons_succ]
    refine rg_quiet rfl rfl rfl rfl ?_; intro K hK; go_big_quiet_op; go_big_quiet_on
    refine rg_fact [] rfl rfl rfl (by kernel_rfl) (fun y hE hf => ?_) (fun v19 y19 hE19 hG19 h19 => ?_)
    · go_simp
      exact rg_doneR hE ((Ext.refl y).alloc _) ⟨_, rfl, hE.le, BoxAt.made y _ _⟩
    obtain ⟨b19, rfl, hb19, _⟩ := h19
    clear hE19 hG19
    simp only [Act.put, List.setIfInBounds_toArray, List.set_cons_zero, List.set_cons_succ]
    refine rel_tail rfl rfl fun w8 hE8 hG => ?_
    obtain ⟨b, b', e17, hbr, hbc⟩ := (hG 17).1.2 rfl
    cases e17
    obtain ⟨b, e19, _, hbx⟩ := (hG 19).2 rfl
    cases e19
    obtain ⟨hX8, k2, k3, k5, kr, kns⟩ := FIN.out w8 hE8
    have hct : ColsT w8 (.slice (some ⟨b', 0, none⟩) 1 1) [⟨⟨#[99]⟩, ⟨vv, false, 20, 0⟩⟩] := TIn.box (xs := coCells [⟨⟨#[99]⟩, ⟨vv, false, 20, 0⟩⟩]) hbc (by unfold maxLen; decide)
    have hnr : RowsT w8 (.slice (some ⟨b17, 0, none⟩) 1 1) [(nRow key vv, .slice (some ⟨b', 0, none⟩) 1 1)] := RowsT.one hbr hct
    have hE8' := hE8
    clear hG q2 k0 hbr hbc hct hE8
    have kl := k5.lt
    go_wp2_with (((guard_target =~ wpList _ _ _ (Oper.mk none (Op.store _ (Operand.tmp 11) (Operand.tmp 70)) _ _ _ _ :: _) _ _); go_must (refine storeBox rfl 39 (.tmp 11) (.tmp 70) rfl (b19) _ _ _ (by rfl) (by rfl) (hbx) (by kernel_rfl) (by rfl) (by simp [Value.oneCell']) ?_); intro w9 c9 g9); have hX9 : Ext w w9 := hX8.grown g9 (fun q hq => by cases hq; omega); have hX89 : Ext w6 w9 := hE8'.grown g9 (fun q hq => by cases hq; omega); have j2 : BoxAt w9 bt TB 28 := k2.grown g9 (fun e => by have := Option.some.inj e; omega); have j3 : BoxAt w9 bv (vw5 dV (.slice (some ⟨bu, 0, none⟩) 2 2)) 31 := k3.grown g9 (fun e => by have := Option.some.inj e; omega); have j5 : BoxAt w9 bp (pa3 ⟨#[109]⟩ pg (.slice (some ⟨bb, oo, none⟩) n cr)) 39 := k5.grown g9 (fun e => by have := Option.some.inj e; omega); have j9 : BoxAt w9 b19 (pa3 ⟨#[109]⟩ 0 (.slice (some ⟨b17, 0, none⟩) 1 1)) 39 := c9; have jn := hnr.keep g9 hbx (by decide) (by decide); have yp : ∀ i, w9.cell? ⟨bp, i, none⟩ = (pa3 ⟨#[109]⟩ pg (.slice (some ⟨bb, oo, none⟩) n cr))[i]? := (fun i => j5.cell i); have yq : ∀ i, w9.cell? ⟨b19, i, none⟩ = (pa3 ⟨#[109]⟩ 0 (.slice (some ⟨b17, 0, none⟩) 1 1))[i]? := (fun i => j9.cell i))
    clear c9 g9 hbx k2 k3 k5 kr hnr yp yq
    obtain ⟨_, _, _, _, jr, jns⟩ := FIN.out w9 hX89
    have hJ0 : foldG keyR foldRo (ps.map (·.1)) ([(nRow key vv, Value.slice (some ⟨b', 0, none⟩) 1 1)].map (·.1)) = mergeRo (ps.map (·.1)) [nRow key vv] := fold_merge HNUM.out.good (nRow_good key vv)
    have hJl : (mergeRo (ps.map (·.1)) [nRow key vv]).length ≤ 5 := by
      have := mergeG_len keyR joinRo (ps.map (·.1)) [nRow key vv]
      have h2 := HNUM.out.len
      simp only [List.length_map, List.length_cons, List.length_nil] at this h2
      unfold mergeRo
      omega
    have hJk : ∀ r ∈ mergeRo (ps.map (·.1)) [nRow key vv], ∃ i, i < 4 ∧ r.key = ik i := fun r hr => by
      have hkk : ∃ i, i < 4 ∧ key = ik i := by rw [HKEY.out]; exact HNUM.out.key _ (List.mem_map_of_mem (List.getElem_mem hKp))
      rcases mem_mergeRs hr with (h | h) | ⟨x, hx, y, hy, _, rfl⟩
      · exact HNUM.out.key r h
      · rw [List.mem_singleton.1 h]; exact hkk
      · exact HNUM.out.key x hx
    have hJf : ∀ r ∈ mergeRo (ps.map (·.1)) [nRow key vv], r.cols.length ≤ 1000000 := few_merge (fun r hr => by have := (HNUM.out.row r hr).len; omega) (fun r hr => by rw [List.mem_singleton.1 hr]; show 1 ≤ 500000; decide)
    have hJd : deltaRs dV dNs ⟨#[109]⟩ pg ⟨#[109]⟩ pg (ps.map (·.1)) (mergeRo (ps.map (·.1)) [nRow key vv]) = [] := by
      have h1 := nothing_join HNUM.out (k := K) (by rw [List.length_map]; exact hKp) vv ⟨#[109]⟩ pg
      rw [List.getElem_map, ← HKEY.out] at h1
      exact h1
    obtain ⟨J, hJ⟩ : ∃ J, J = mergeRo (ps.map (·.1)) [nRow key vv] := ⟨_, rfl⟩
    rw [← hJ] at hJ0 hJl hJk hJf hJd
    have HJ0 := Lib.hid hJ0
    have HJK := Lib.hid hJk
    have HJF := Lib.hid hJf
    have HJD := Lib.hid hJd
    clear hJ0 hJk hJf hJd hJ
    refine (join8_any ⟨#[109]⟩ ⟨#[109]⟩ pg 0 _ _ ps [(nRow key vv, .slice (some ⟨b', 0, none⟩) 1 1)] w9 jr jn (by have := HN.out; omega) (by simp) (fun p hp => by have := HCL.out p hp; omega) (fun p hp => by rw [List.mem_singleton.1 hp]; show 1 ≤ 1000; decide)).mono ?_
    rw [HJ0.out, show max pg 0 = pg by omega]
    rintro e w10 ⟨hE10, ⟨_, v10, rfl, q10, hq10, hm10⟩ | ⟨hbad, _⟩⟩
    · obtain ⟨a10, c10, rfl⟩ := hq10.shape
      obtain ⟨m10, hm10'⟩ : ∃ m, m = q10.length := ⟨_, rfl⟩
      have hml : m10 ≤ 5 := by rw [hm10', ← List.length_map, hm10]; exact hJl
      rw [← hm10'] at hq10 ⊢
      have HM10 := Lib.hid hm10
      have HML := Lib.hid hm10'
      have l2 := j2.ext hE10
      have l3 := j3.ext hE10
      have l5 := j5.ext hE10
      clear hm10 hm10' j2 j3 j5 jr jn
      go_wp2_with (((guard_target =~ wpList _ _ _ (Oper.mk none (Op.store _ (Operand.tmp 12) (Operand.tmp 75)) _ _ _ _ :: _) _ _); go_must (refine storeBox rfl 39 (.tmp 12) (.tmp 75) rfl (w10.heap.size) _ _ _ (by rfl) (by rfl) ((BoxAt.made w10 (pa3 ⟨#[]⟩ 0 (.slice none 0 0)) 39)) (by kernel_rfl) (by rfl) (by simp [Value.oneCell']) ?_); intro w11 c11 g11); have hX11 : Ext w10 w11 := ((Ext.refl w10).alloc _).grown g11 (fun q hq => by cases hq; omega); have d2 := l2.ext hX11; have d3 := l3.ext hX11; have d5 := l5.ext hX11; have d12 : BoxAt w11 w10.heap.size (pa3 ⟨#[109]⟩ pg (.slice a10 m10 c10)) 39 := c11; have yt : ∀ i, w11.cell? ⟨bt, i, none⟩ = TB[i]? := (fun i => d2.cell i); have yv : ∀ i, w11.cell? ⟨bv, i, none⟩ = (vw5 dV (.slice (some ⟨bu, 0, none⟩) 2 2))[i]? := (fun i => d3.cell i); have yp : ∀ i, w11.cell? ⟨bp, i, none⟩ = (pa3 ⟨#[109]⟩ pg (.slice (some ⟨bb, oo, none⟩) n cr))[i]? := (fun i => d5.cell i); have yq : ∀ i, w11.cell? ⟨w10.heap.size, i, none⟩ = (pa3 ⟨#[109]⟩ pg (.slice a10 m10 c10))[i]? := (fun i => d12.cell i); rw [HTB.out] at yt)
      have hX611 : Ext w6 w11 := hX89.trans (hE10.trans hX11)
      obtain ⟨hX, _, _, _, kr, kns⟩ := FIN.out w11 hX611
      have hq11 := hq10.ext hX11
      clear l2 l3 l5 c11 g11
      refine (deltaOf_any (.slice (some ⟨bs, 0, none⟩) 4 4) dV (.slice (some ⟨bu, 0, none⟩) 2 2) dNs ⟨#[109]⟩ pg _ ps ⟨#[109]⟩ pg _ q10 w11 kr.rows hq11.rows kns (fun p hp => by have := HCL.out p hp; omega) (fun p hp => HJF.out p.1 (by rw [← HM10.out]; exact List.mem_map_of_mem hp)) (by have := HML.out; omega) (by decide) (by decide) (num_keys (by rw [HM10.out]; exact HJK.out))).mono ?_
      rintro e w12 ⟨v12, rfl, L12, hown12, _, hdata12, hE12⟩
      obtain rfl := out_nil hdata12 (by rw [HM10.out]; exact HJD.out)
      obtain ⟨a12, c12, rfl⟩ := own_shape hown12
      have f2 := d2.ext hE12
      have f3 := d3.ext hE12
      have yt : ∀ i, w12.cell? ⟨bt, i, none⟩ = TB[i]? := fun i => f2.cell i
      have yv : ∀ i, w12.cell? ⟨bv, i, none⟩ = (vw5 dV (.slice (some ⟨bu, 0, none⟩) 2 2))[i]? := fun i => f3.cell i
      rw [HTB.out] at yt
      have kns12 := kns.ext hE12
      clear hown12 hdata12 kr hq11 hq10 d2 d3 d5 d12 yp yq
      go_wp2_with fail
      refine (deltaOf_any (.slice (some ⟨bs, 0, none⟩) 4 4) dV (.slice (some ⟨bu, 0, none⟩) 2 2) dNs ⟨#[109]⟩ 0 (.slice none 0 0) [] ⟨#[109]⟩ 9 (.slice none 0 0) [] w12 (RowsIn.nil _) (RowsIn.nil _) kns12 nofun nofun (by decide) (by decide) (by decide) nofun).mono ?_
      rintro e w13 ⟨v13, rfl, L13, hown13, _, hdata13, hE13⟩
      obtain rfl := out_nil hdata13 rfl
      obtain ⟨a13, c13, rfl⟩ := own_shape hown13
      clear yt yv f2 f3
      go_wp2_with fail
      refine (awake19_any w13).mono ?_
      rintro e w14 ⟨rfl, hE14⟩
      go_wp2_with fail
      go_ret
      exact ⟨rfl, ((hX.trans hE12).trans hE13).trans hE14⟩
    · omega
theorem law_deltaNothing_long (v0 : Value) (z : List Int) (at_ val : Int) (w : World) (hin : IntsIn w v0 .i64 z) (hz : 60 < z.length) :
    Calls Try.prog 5 #[v0, .int .i64 at_, .int .i64 val] w fun e w' => e = .returned (.bool true) ∧ Ext w w' := by
  obtain ⟨a, c, rfl, hc, hcm, ha⟩ := hin.block
  have k1 : decide ((60 : Int) < (z.length : Int)) = true := by simp; omega
  go_enter Try.func5, Try.ntmps5
  go_wp2_with fail
  refine (awake19_any w).mono ?_
  rintro e w10 ⟨rfl, hE10⟩
  go_wp2_with fail
  go_ret
  exact ⟨rfl, hE10⟩
theorem walk_deltaNothing (v : Value) (at_ val : Int) (W : World) (w0 : ∃ l : List Int, IntsIn W v .i64 l ∧ ∀ n ∈ l, (Lit.int .i64 n).wf = true) (_ : (Lit.int .i64 at_).wf = true) (_ : (Lit.int .i64 val).wf = true) :
    Calls Try.prog 5 #[v, .int .i64 at_, .int .i64 val] W fun e w' => e = .returned (.bool true) ∧ Ext W w' := by
  obtain ⟨z, hin, _⟩ := w0
  by_cases hz : z.length ≤ 60
  · exact law_deltaNothing v z at_ val W hin hz
  · exact law_deltaNothing_long v z at_ val W hin (by omega)
end Go.Proofs.Yteamiiekpjoclaa
