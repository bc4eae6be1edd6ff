/- ProjectAll: the law's walk. -/
import Derived.Test.YtfagnbofnaoncaaP18
import Derived.Test.YtfagnbofnaoncaaP19
import Derived.Test.YtfagnbofnaoncaaP20
import Derived.Test.YtfagnbofnaoncaaP22
import Derived.Test.YtfagnbofnaoncaaP23
import Derived.Test.YtfagnbofnaoncaaP24
set_option linter.unusedSimpArgs false
set_option linter.unusedVariables false
namespace Go.Proofs.Ytfagnbofnaoncaa
open Go Go.RowKit
attribute [local go_sem] yields yUpon ro8 pa3 vw5 tabV viewV cl4

theorem split_same (k : ByteArray) (hk : k.size ≤ 10000000) : ∃ (A B : ByteArray) (C : Bool), (∀ w : World, Calls Try.prog 8 #[.string k] w fun e w' => e = .returned (.tuple #[.string A, .string B, .bool C]) ∧ Ext w w') ∧
    (∀ w : World, Calls Try.prog 9 #[.string k] w fun e w' => e = .returned (.tuple #[.string A, .string B, .bool C]) ∧ Ext w w') := by
  by_cases h : (getText k.data.toList 0).2.2 = 0
  · refine ⟨str (getText k.data.toList 0).1, k.extract (txt (getText k.data.toList 0).1).length k.size, true, fun w => (split_any k w hk).mono ?_, fun w => (split18_any k w hk).mono ?_⟩
    all_goals
      rintro e w' ⟨⟨h1, _⟩ | ⟨_, rfl⟩, hE⟩
      · exact absurd h h1
      · exact ⟨rfl, hE⟩
  · refine ⟨⟨#[]⟩, ⟨#[]⟩, false, fun w => (split_any k w hk).mono ?_, fun w => (split18_any k w hk).mono ?_⟩
    all_goals
      rintro e w' ⟨⟨_, rfl⟩ | ⟨h1, _⟩, hE⟩
      · exact ⟨rfl, hE⟩
      · exact absurd h1 h
theorem few_low18 {ps : List (Ro × Value)} (h : ∀ p ∈ ps, FewR p.1) : ∀ p ∈ ps, ∀ c ∈ p.1.cols, c.name.size ≤ 1000000 := fun p hp c hc => by
  have := ((h p hp).each c hc).1
  omega
theorem pt_dist {k : ByteArray} {g : Int} {l : List Ro} (h : ptB k g l = true) : ∀ r ∈ l, DistN r.cols := fun r hr => distN_of_up (csB_up (rwB_parts ((rsB_up (ptB_parts h).2.2.2).2.1 r hr)).2).1

set_option maxRecDepth 100000 in
set_option maxHeartbeats 16000000 in
theorem law_projectAll (x : Vw) (u : Value) (ns : List ByteArray) (k : ByteArray) (g : Int) (pu : Value) (ps : List (Ro × Value)) (now : Int) (key clus : ByteArray) (w : World) (hns : StrsIn w u ns) (hnb : ∀ s ∈ ns, s.size ≤ maxLen) (hob : x.on.size ≤ maxLen) (hin : RowsIn w pu ps) (hkey : key.size ≤ maxLen) (hclus : clus.size ≤ maxLen) :
    Calls Try.prog 3 #[.agg #[.string x.name, .int .i64 x.id, .string x.table, .string x.on, u], .agg #[.string k, .int .i64 g, pu], .int .i64 now, .string key, .string clus] w fun e w' => e = .returned (.bool true) ∧ Ext w w' := by
  obtain ⟨b0, b1, hE0⟩ := boxes2 w (vw5 x u) (pa3 k g pu) 24 27
  replace hns := hns.ext hE0
  obtain ⟨au, cu, rfl, hcu, hcum, hget⟩ := hin.get
  have HGET := Lib.hid hget
  clear hget
  replace hin := hin.ext hE0
  unfold maxLen at hkey hclus
  have HNB := Lib.hid hnb
  have hf1 := few18_any x u ns ((w.alloc (.cells (vw5 x u) 24)).alloc (.cells (pa3 k g (.slice au ps.length cu)) 27)) hns hnb hob
  clear hnb hob
  obtain ⟨n, hn⟩ : ∃ n, n = ps.length := ⟨_, rfl⟩
  rw [← hn] at hcu hE0 b0 b1 hin hns hf1 ⊢
  have HN := Lib.hid hn
  clear hn
  go_enter Try.func3, Try.ntmps3
  go_wp2_with fail
  obtain ⟨w0, hw0⟩ : ∃ w0, w0 = (w.alloc (.cells (vw5 x u) 24)).alloc (.cells (pa3 k g (.slice au n cu)) 27) := ⟨_, rfl⟩
  have hw0' := hw0
  unfold vw5 pa3 at hw0'
  rw [← hw0] at b0 b1 hE0 hin hns hf1
  rw [← hw0']
  clear hw0 hw0'
  refine hf1.mono ?_
  rintro e w1 ⟨F1, rfl, hF1, hE1⟩
  have HF1 := Lib.hid hF1
  clear hF1 hf1
  cases F1
  · go_wp2_with (go_at_call 6; go_must (refine (pawake_any _).mono ?_); rintro e w7 ⟨rfl, hE7⟩)
    go_ret
    exact ⟨rfl, (hE0.trans hE1).trans hE7⟩
  obtain ⟨p0, p1, p2⟩ := (b1.ext hE1).pa
  go_wp2_with fail
  refine (fewPart_any k g _ ps 20 w1 (hin.ext hE1)).mono ?_
  rintro e w2 ⟨F2, rfl, hF2, hE2⟩
  have HF2 := Lib.hid hF2
  clear hF2 p0 p1 p2
  have hE02 := hE1.trans hE2
  cases F2
  · go_wp2_with (go_at_call 6; go_must (refine (pawake_any _).mono ?_); rintro e w7 ⟨rfl, hE7⟩)
    go_ret
    exact ⟨rfl, (hE0.trans hE02).trans hE7⟩
  cases hs3 : decide ((300 : Int) < (key.size : Int))
  rotate_left
  · go_wp2_with (go_at_call 6; go_must (refine (pawake_any _).mono ?_); rintro e w7 ⟨rfl, hE7⟩)
    go_ret
    exact ⟨rfl, (hE0.trans hE02).trans hE7⟩
  cases hs4 : decide ((300 : Int) < (clus.size : Int))
  rotate_left
  · go_wp2_with (go_at_call 6; go_must (refine (pawake_any _).mono ?_); rintro e w7 ⟨rfl, hE7⟩)
    go_ret
    exact ⟨rfl, (hE0.trans hE02).trans hE7⟩
  have hk3 : key.size ≤ 300 := by simp at hs3; omega
  have hc3 : clus.size ≤ 300 := by simp at hs4; omega
  go_wp2_with fail
  refine (view_any w2).mono ?_
  rintro e w3 ⟨bs, bu, rfl, _, hE3⟩
  go_wp2_with (first
    | (((guard_target =~ wpList _ _ _ (Oper.mk none (Op.store _ (Operand.tmp 11) (Operand.tmp 45)) _ _ _ _ :: _) _ _); go_must (refine storeBox rfl 35 (.tmp 11) (.tmp 45) rfl (w3.heap.size) _ _ _ (by rfl) (by rfl) (((BoxAt.made w3 #[.string ⟨#[]⟩, .int .i64 0, .string ⟨#[]⟩, .int .i64 0, .string ⟨#[]⟩, .int .i64 0, .slice none 0 0] 35).ext ((Ext.refl _).alloc _))) (by kernel_rfl) (by rfl) (by simp [Value.oneCell']) ?_); intro w4 c4 g4); have hX4 : Ext w3 w4 := (((Ext.refl w3).alloc _).alloc _).grown g4 (fun q hq => by cases hq; omega); have hv4 := (BoxAt.madeN #[.string ⟨#[]⟩, .int .i64 0, .string ⟨#[]⟩, .string ⟨#[]⟩, .slice none 0 0] 24 (show (w3.alloc (.cells #[.string ⟨#[]⟩, .int .i64 0, .string ⟨#[]⟩, .int .i64 0, .string ⟨#[]⟩, .int .i64 0, .slice none 0 0] 35)).heap.size = w3.heap.size + 1 by simp)).grown g4 (fun e => by have := Option.some.inj e; omega))
    | (((guard_target =~ wpList _ _ _ (Oper.mk none (Op.store _ (Operand.tmp 12) (Operand.tmp 46)) _ _ _ _ :: _) _ _); go_must (refine storeBox rfl 24 (.tmp 12) (.tmp 46) rfl (w3.heap.size + 1) _ _ _ (by rfl) (by rfl) (hv4) (by kernel_rfl) (by rfl) (by simp [Value.oneCell']) ?_); intro w5 c5 g5); have hX5 : Ext w3 w5 := hX4.grown g5 (fun q hq => by cases hq; omega); have bT : BoxAt w5 w3.heap.size #[.string ⟨#[116]⟩, .int .i64 1, .string ⟨#[112]⟩, .int .i64 1, .string ⟨#[107]⟩, .int .i64 2, .slice (some ⟨bs, 0, none⟩) 4 4] 35 := c4.grown g5 (fun e => by have := Option.some.inj e; omega)))
  have hE05 : Ext w0 w5 := (hE02.trans hE3).trans hX5
  clear c4 g4 hX4 hv4 c5 g5 hX5 hE3 hE1 hE2 hE02 hs3 hs4
  obtain ⟨bt, hbt⟩ : ∃ b, b = w3.heap.size := ⟨_, rfl⟩
  rw [← hbt] at bT
  rw [← hbt]
  clear hbt
  obtain ⟨TB, hTB⟩ : ∃ T : Array Value, T = #[.string ⟨#[116]⟩, .int .i64 1, .string ⟨#[112]⟩, .int .i64 1, .string ⟨#[107]⟩, .int .i64 2, .slice (some ⟨bs, 0, none⟩) 4 4] := ⟨_, rfl⟩
  rw [← hTB] at bT
  have HTB := Lib.hid hTB
  clear hTB
  obtain ⟨A, B, C, hs1, hs2⟩ := split_same key (by omega)
  have ta : (A.toList != A.toList) = false := by simp
  have tb : (B.toList != B.toList) = false := by simp
  have tc : (C != C) = false := by simp
  obtain ⟨V, hV⟩ : ∃ V, V = vkey key clus := ⟨_, rfl⟩
  have hky := fun w => Lib.hid (key_any key clus w (by omega) (by omega))
  have hky2 := fun w => Lib.hid (key18_any key clus w (by omega) (by omega))
  rw [← hV] at hky hky2
  have tv : (V.toList != V.toList) = false := by simp
  clear hV
  have c1 := b1.ext hE05
  go_upto_region 8 with (first
    | (go_at_call 8; go_must (refine (hs1 _).mono ?_); rintro e w6 ⟨rfl, hE6⟩)
    | (go_at_call 9; go_must (refine (hs2 _).mono ?_); rintro e w7 ⟨rfl, hE7⟩)
    | (go_at_call 10; go_must (refine (hky _).out.mono ?_); rintro e w8 ⟨rfl, hE8⟩)
    | (go_at_call 11; go_must (refine (hky2 _).out.mono ?_); rintro e w9 ⟨rfl, rfl⟩))
  have hE58 := (hE6.trans hE7).trans hE8
  have hE08 := hE05.trans hE58
  obtain ⟨p0, p1, p2⟩ := (c1.ext hE58).pa
  clear hky hky2 hs1 hs2
  have hlw := few_low18 (HF2.out trivial).2.2
  go_wp2_with fail
  refine (check8_any k g _ ps w8 (hin.ext hE08) hlw).mono ?_
  rintro e w9 ⟨rfl, hE9⟩
  have hE09 := hE08.trans hE9
  clear p0 p1 p2
  cases hq : ptB k g (ps.map (·.1))
  · go_wp2_with (go_at_call 6; go_must (refine (pawake_any _).mono ?_); rintro e w7 ⟨rfl, hE7⟩)
    go_ret
    exact ⟨rfl, (hE0.trans hE09).trans hE7⟩
  have HQ := Lib.hid hq
  have hps : ps.length ≤ 100 := by have := (ptB_parts hq).2.2.1; rw [List.length_map] at this; exact this
  have hkz : k.size ≤ 100 := (ptB_parts hq).1
  have hrk : ∀ p ∈ ps, p.1.key.size ≤ 1000 ∧ p.1.cols.length ≤ 20 := fun p hp => ⟨((HF2.out trivial).2.2 p hp).key, ((HF2.out trivial).2.2 p hp).cols⟩
  have hdn : ∀ p ∈ ps, DistN p.1.cols := fun p hp => pt_dist hq p.1 (List.mem_map_of_mem (f := (·.1)) hp)
  have hcol := hin.cols
  have HCOL := Lib.hid hcol
  have HRK := Lib.hid hrk
  have HDN := Lib.hid hdn
  clear hq hrk hcol hdn hlw
  have bT9 := bT.ext (hE58.trans hE9)
  have b09 := b0.ext hE09
  have b19 := b1.ext hE09
  have hns9 := hns.ext hE09
  have hin9 := hin.ext hE09
  have hEE := hE0.trans hE09
  have hnp : n ≤ 100 := by have := HN.out; omega
  go_wp2_with fail
  go_loopw [19] (fun i wr => ∃ j : Nat, j ≤ n ∧ i = .int .i64 (j : Int) ∧ Ext w9 wr) (fun i _ => n - (intOf i).toNat)
  case atStart => exact ⟨0, Nat.zero_le _, rfl, Ext.refl w9⟩
  case round =>
    obtain ⟨j, hj, rfl, hE⟩ := hrel
    have d0 := b09.ext hE
    have d1 := b19.ext hE
    have dT := bT9.ext hE
    obtain ⟨p0, p1, p2⟩ := d1.pa
    by_cases hlt : j < n
    · have hjp : j < ps.length := by rw [← HN.out]; exact hlt
      obtain ⟨hrk, hcl⟩ := HRK.out _ (List.getElem_mem hjp)
      have hcc := HCOL.out _ (List.getElem_mem hjp)
      obtain ⟨b, o, rfl, hat⟩ := HGET.out j hjp
      obtain ⟨M, hM⟩ : ∃ M, M = ps[j].1 := ⟨_, rfl⟩
      obtain ⟨aq, cq, hu⟩ := hcc.shape
      rw [← hM] at hrk hcl hcc hu hat
      rw [hu] at hcc hat
      clear hM hu
      obtain ⟨mc, hmc⟩ : ∃ m, m = M.cols.length := ⟨_, rfl⟩
      rw [← hmc] at hcc hat hcl
      have hlc : M.cols.length ≤ 1000000 := by rw [← hmc]; omega
      have HLC := Lib.hid hlc
      clear hmc hlc
      have hcr := hcc.ext (hE09.trans hE)
      have hnr := hns9.ext hE
      obtain ⟨g0, g1, g2, g3, g4, g5, g6, g7⟩ := hat.ext (hEE.trans hE)
      have HAT := Lib.hid hat
      clear hat hcc
      obtain ⟨mr, hmr⟩ : ∃ mr, mr = mirF x ns k g M := ⟨_, rfl⟩
      have HMR := Lib.hid hmr
      clear hmr
      obtain ⟨z0, z1, z2, z3, z4⟩ := d0.vw
      have t1 : decide ((j : Int) < (n : Int)) = true := by simpa using hlt
      have yt : ∀ i, wr.cell? ⟨bt, i, none⟩ = TB[i]? := fun i => dT.cell i
      rw [HTB.out] at yt
      have y0 : wr.cell? ⟨bt, 0, none⟩ = some (.string ⟨#[116]⟩) := yt 0
      have y1 : wr.cell? ⟨bt, 1, none⟩ = some (.int .i64 1) := yt 1
      have y2 : wr.cell? ⟨bt, 2, none⟩ = some (.string ⟨#[112]⟩) := yt 2
      have y3 : wr.cell? ⟨bt, 3, none⟩ = some (.int .i64 1) := yt 3
      have y4 : wr.cell? ⟨bt, 4, none⟩ = some (.string ⟨#[107]⟩) := yt 4
      have y5 : wr.cell? ⟨bt, 5, none⟩ = some (.int .i64 2) := yt 5
      have y6 : wr.cell? ⟨bt, 6, none⟩ = some (.slice (some ⟨bs, 0, none⟩) 4 4) := yt 6
      clear yt
      go_wp2_with fail
      refine wp_region_late_in 13 11 13 [(8, fun v y => ∃ rv qs, v = .tuple #[.agg #[.string (mirK mr), .int .i64 0, rv], .bool mr.isSome] ∧ RowsT y rv qs ∧ qs.map (·.1) = mirR mr), (12, fun v y => ∃ q, v = .pointer (some ⟨q, 0, none⟩) ∧ wr.heap.size ≤ q ∧ BoxAt y q (pa3 ⟨#[]⟩ 0 (.slice none 0 0)) 27)] (by kernel_rfl) (by kernel_rfl) (by kernel_rfl) (by kernel_rfl) (fun c a d v w h => by cases d <;> exact h) ⟨fun _ _ _ hE ⟨rv, qs, e, h, h'⟩ => ⟨rv, qs, e, h.ext hE, h'⟩, fun _ _ _ hE ⟨q, e, h1, h2⟩ => ⟨q, e, h1, h2.ext hE⟩, trivial⟩ ?_
      simp only [late, List.modify_succ_cons, List.modify_zero_cons, List.push_toArray, List.cons_append, List.nil_append]
      replace z0 := held z0
      replace z1 := held z1
      replace z2 := held z2
      replace z3 := held z3
      replace z4 := held z4
      replace p0 := held p0
      replace p1 := held p1
      replace p2 := held p2
      replace g0 := held g0
      replace g1 := held g1
      replace g2 := held g2
      replace g3 := held g3
      replace g4 := held g4
      replace g5 := held g5
      replace g6 := held g6
      replace g7 := held g7
      replace y0 := held y0
      replace y1 := held y1
      replace y2 := held y2
      replace y3 := held y3
      replace y4 := held y4
      replace y5 := held y5
      replace y6 := held y6
      refine rg_quiet rfl rfl rfl rfl ?_; intro K hK; go_big_quiet_op; go_big_quiet_on
      refine rg_quiet rfl rfl rfl rfl ?_; intro K hK; go_big_quiet_op; go_big_quiet_on
      refine rg_quiet rfl rfl rfl rfl ?_; intro K hK; go_big_quiet_op; go_big_quiet_on
      refine rg_quiet rfl rfl rfl rfl ?_; intro K hK; go_big_quiet_op; go_big_quiet_on
      refine rg_quiet rfl rfl rfl rfl ?_; intro K hK; go_big_quiet_op; go_big_quiet_on
      refine rg_quiet rfl rfl rfl rfl ?_; intro K hK; go_big_quiet_op; go_big_quiet_on
      refine rg_quiet rfl rfl rfl rfl ?_; intro K hK; go_big_quiet_op; go_big_quiet_on
      refine rg_quiet rfl rfl rfl rfl ?_; intro K hK; go_big_quiet_op; go_big_quiet_on
      refine rg_fact [] rfl rfl rfl (by kernel_rfl) (fun y hY hf => ?_) (fun v8 y8 hE8 hG8 h8 => ?_)
      · go_simp
        refine (mirrorF_any (.slice (some ⟨bs, 0, none⟩) 4 4) x u ns k g (.slice (some ⟨b, o, none⟩) n cu) M (.slice aq mc cq) y (hcr.ext hY) HLC.out (hnr.ext hY) (by omega) (by omega)).mono ?_
        rw [← HMR.out]
        rintro e y' ⟨rv, he, qs, hqs, hqm, hy⟩
        exact ⟨_, he, rg_doneR hY hy ⟨rv, rfl, qs, hqs, hqm⟩⟩
      obtain ⟨rv, qs, rfl, hqs, _⟩ := h8
      obtain ⟨aq1, cq1, rfl⟩ := hqs.shape
      clear hE8 hG8 hqs
      simp only [Act.put, List.setIfInBounds_toArray, List.set_cons_zero, List.set_cons_succ]
      refine rg_quiet rfl rfl rfl rfl ?_; intro K hK; go_big_quiet_op; go_big_quiet_on
      refine rg_quiet rfl rfl rfl rfl ?_; intro K hK; go_big_quiet_op; go_big_quiet_on
      refine rg_quiet rfl rfl rfl rfl ?_; intro K hK; go_big_quiet_op; go_big_quiet_on
      refine rg_fact [] rfl rfl rfl (by kernel_rfl) (fun y hY hf => ?_) (fun v12 y12 hE12 hG12 h12 => ?_)
      · go_simp
        exact rg_doneR hY ((Ext.refl y).alloc _) ⟨_, rfl, hY.le, BoxAt.made y _ _⟩
      obtain ⟨q1, rfl, _⟩ := h12
      clear hE12 hG12
      simp only [Act.put, List.setIfInBounds_toArray, List.set_cons_zero, List.set_cons_succ]
      refine rel_tail rfl rfl fun w5 hEq1 hG => ?_
      obtain ⟨rv, qsq1, e8, hqsq1, hqmq1⟩ := (hG 8).1.2 rfl
      obtain ⟨q', e12, hqq1, hbxq1⟩ := (hG 12).2 rfl
      cases e8
      cases e12
      have hqn : qs.length = qsq1.length := by
        obtain ⟨_, _, e⟩ := hqsq1.shape
        exact congrArg (fun v => match v with | .slice _ n _ => n | _ => 0) e
      rw [hqn] at hqsq1 ⊢
      clear hqn hG z0 z1 z2 z3 z4 p0 p1 p2 g0 g1 g2 g3 g4 g5 g6 g7 y0 y1 y2 y3 y4 y5 y6
      obtain ⟨nq1, hnq1⟩ : ∃ n, n = qsq1.length := ⟨_, rfl⟩
      rw [← hnq1] at hqsq1 ⊢
      have HNq1 := Lib.hid hnq1
      have HMq1 := Lib.hid hqmq1
      clear hnq1 hqmq1
      obtain ⟨Bm, hBm⟩ : ∃ B, B = mr.isSome := ⟨_, rfl⟩
      rw [← hBm]
      have HBM := Lib.hid hBm
      clear hBm
      go_wp2_with (((guard_target =~ wpList _ _ _ (Oper.mk none (Op.store _ (Operand.tmp 20) (Operand.tmp 102)) _ _ _ _ :: _) _ _); go_must (refine storeBox rfl 27 (.tmp 20) (.tmp 102) rfl (q1) _ _ _ (by rfl) (by rfl) (hbxq1) (by kernel_rfl) (by rfl) (by simp [Value.oneCell']) ?_); intro w6 c6 h6))
      have hX6 : Ext wr w6 := hEq1.grown h6 (fun q hq => by cases hq; exact hqq1)
      have c6' : BoxAt w6 q1 (pa3 (mirK mr) 0 (.slice aq1 nq1 cq1)) 27 := c6
      have r6 := hqsq1.keep h6 hbxq1 (by decide) (by decide)
      have hlq1 := c6'.lt
      have hcr6 := hcr.ext hX6
      have hnr6 := hnr.ext hX6
      obtain ⟨p0, p1, p2⟩ := (d1.ext hX6).pa
      obtain ⟨z0, z1, z2, z3, z4⟩ := (d0.ext hX6).vw
      obtain ⟨g0, g1, g2, g3, g4, g5, g6, g7⟩ := HAT.out.ext ((hEE.trans hE).trans hX6)
      clear c6 h6 hbxq1 hqsq1 hEq1 hcr hnr d0 d1 dT HAT
      refine wp_region_late_in 12 10 12 [(7, fun v y => ∃ rv qs, v = .tuple #[.agg #[.string (mirK mr), .int .i64 0, rv], .bool mr.isSome] ∧ RowsT y rv qs ∧ qs.map (·.1) = mirR mr), (11, fun v y => ∃ q, v = .pointer (some ⟨q, 0, none⟩) ∧ w6.heap.size ≤ q ∧ BoxAt y q (pa3 ⟨#[]⟩ 0 (.slice none 0 0)) 27)] (by kernel_rfl) (by kernel_rfl) (by kernel_rfl) (by kernel_rfl) (fun c a d v w h => by cases d <;> exact h) ⟨fun _ _ _ hE ⟨rv, qs, e, h, h'⟩ => ⟨rv, qs, e, h.ext hE, h'⟩, fun _ _ _ hE ⟨q, e, h1, h2⟩ => ⟨q, e, h1, h2.ext hE⟩, trivial⟩ ?_
      simp only [late, List.modify_succ_cons, List.modify_zero_cons, List.push_toArray, List.cons_append, List.nil_append]
      replace z0 := held z0
      replace z1 := held z1
      replace z2 := held z2
      replace z3 := held z3
      replace z4 := held z4
      replace p0 := held p0
      replace p1 := held p1
      replace p2 := held p2
      replace g0 := held g0
      replace g1 := held g1
      replace g2 := held g2
      replace g3 := held g3
      replace g4 := held g4
      replace g5 := held g5
      replace g6 := held g6
      replace g7 := held g7
      refine rg_quiet rfl rfl rfl rfl ?_; intro K hK; go_big_quiet_op; go_big_quiet_on
      refine rg_quiet rfl rfl rfl rfl ?_; intro K hK; go_big_quiet_op; go_big_quiet_on
      refine rg_quiet rfl rfl rfl rfl ?_; intro K hK; go_big_quiet_op; go_big_quiet_on
      refine rg_quiet rfl rfl rfl rfl ?_; intro K hK; go_big_quiet_op; go_big_quiet_on
      refine rg_quiet rfl rfl rfl rfl ?_; intro K hK; go_big_quiet_op; go_big_quiet_on
      refine rg_quiet rfl rfl rfl rfl ?_; intro K hK; go_big_quiet_op; go_big_quiet_on
      refine rg_quiet rfl rfl rfl rfl ?_; intro K hK; go_big_quiet_op; go_big_quiet_on
      refine rg_fact [] rfl rfl rfl (by kernel_rfl) (fun y hY hf => ?_) (fun v8 y8 hE8 hG8 h8 => ?_)
      · go_simp
        refine (mirror18_any x u ns k g (.slice (some ⟨b, o, none⟩) n cu) M (.slice aq mc cq) y (hcr6.ext hY) HLC.out (hnr6.ext hY) (by omega) (by omega)).mono ?_
        rw [← HMR.out]
        rintro e y' ⟨rv, he, qs, hqs, hqm, hy⟩
        exact ⟨_, he, rg_doneR hY hy ⟨rv, rfl, qs, hqs, hqm⟩⟩
      obtain ⟨rv, qs, rfl, hqs, _⟩ := h8
      obtain ⟨aq2, cq2, rfl⟩ := hqs.shape
      clear hE8 hG8 hqs
      simp only [Act.put, List.setIfInBounds_toArray, List.set_cons_zero, List.set_cons_succ]
      refine rg_quiet rfl rfl rfl rfl ?_; intro K hK; go_big_quiet_op; go_big_quiet_on
      refine rg_quiet rfl rfl rfl rfl ?_; intro K hK; go_big_quiet_op; go_big_quiet_on
      refine rg_quiet rfl rfl rfl rfl ?_; intro K hK; go_big_quiet_op; go_big_quiet_on
      refine rg_fact [] rfl rfl rfl (by kernel_rfl) (fun y hY hf => ?_) (fun v12 y12 hE12 hG12 h12 => ?_)
      · go_simp
        exact rg_doneR hY ((Ext.refl y).alloc _) ⟨_, rfl, hY.le, BoxAt.made y _ _⟩
      obtain ⟨q2, rfl, _⟩ := h12
      clear hE12 hG12
      simp only [Act.put, List.setIfInBounds_toArray, List.set_cons_zero, List.set_cons_succ]
      refine rel_tail rfl rfl fun w7 hEq2 hG => ?_
      obtain ⟨rv, qsq2, e8, hqsq2, hqmq2⟩ := (hG 7).1.2 rfl
      obtain ⟨q', e12, hqq2, hbxq2⟩ := (hG 11).2 rfl
      cases e8
      cases e12
      have hqn : qs.length = qsq2.length := by
        obtain ⟨_, _, e⟩ := hqsq2.shape
        exact congrArg (fun v => match v with | .slice _ n _ => n | _ => 0) e
      rw [hqn] at hqsq2 ⊢
      clear hqn hG z0 z1 z2 z3 z4 p0 p1 p2 g0 g1 g2 g3 g4 g5 g6 g7
      obtain ⟨nq2, hnq2⟩ : ∃ n, n = qsq2.length := ⟨_, rfl⟩
      rw [← hnq2] at hqsq2 ⊢
      have HNq2 := Lib.hid hnq2
      have HMq2 := Lib.hid hqmq2
      clear hnq2 hqmq2
      rw [← HBM.out]
      have tq : (!Bm == Bm) = false := by cases Bm <;> rfl
      have tq2 : (Bm != Bm) = false := by cases Bm <;> rfl
      go_wp2_with (first
        | (((guard_target =~ wpList _ _ _ (Oper.mk none (Op.store _ (Operand.tmp 22) (Operand.tmp 113)) _ _ _ _ :: _) _ _); go_must (refine storeBox rfl 27 (.tmp 22) (.tmp 113) rfl (q2) _ _ _ (by rfl) (by rfl) (hbxq2) (by kernel_rfl) (by rfl) (by simp [Value.oneCell']) ?_); intro w8 c8 h8); have hX8 : Ext w6 w8 := hEq2.grown h8 (fun q hq => by cases hq; exact hqq2); have e1 : BoxAt w8 q1 (pa3 (mirK mr) 0 (.slice aq1 nq1 cq1)) 27 := (c6'.ext hEq2).grown h8 (fun e => by have := Option.some.inj e; omega); have e2 : BoxAt w8 q2 (pa3 (mirK mr) 0 (.slice aq2 nq2 cq2)) 27 := c8; have r1 := (r6.ext hEq2).keep h8 hbxq2 (by decide) (by decide); have r2 := hqsq2.keep h8 hbxq2 (by decide) (by decide); obtain ⟨x0, x1, x2⟩ := e1.pa; obtain ⟨y0, y1, y2⟩ := e2.pa)
        | (go_at_call 15; go_must (refine (same8_alike (mirK mr) 0 _ _ qsq1 qsq2 _ r1.rows r2.rows (HMq1.out.trans HMq2.out.symm)).mono ?_); rintro e w10 ⟨rfl, hE10⟩))
      go_roundw
      case rel => exact ⟨j + 1, by omega, by go_num, ((hE.trans hX6).trans hX8).trans hE10⟩
      case measure => simp [intOf]; omega
    · obtain rfl : j = n := by omega
      have t1 : decide ((j : Int) < (j : Int)) = false := by simp
      have hnr := hns9.ext hE
      have hir := hin9.ext hE
      obtain ⟨FF, hFF⟩ : ∃ F, F = outQ (fullF x ns k g (ps.map (·.1))) := ⟨_, rfl⟩
      obtain ⟨VV, hVV⟩ : ∃ F, F = outQ (viewF x ns k g now (ps.map (·.1))) := ⟨_, rfl⟩
      have HFF := Lib.hid hFF
      have HVV := Lib.hid hVV
      clear hFF hVV
      have hlc4 : ∀ p ∈ ps, p.1.cols.length ≤ 400000 := fun p hp => by have := (HRK.out p hp).2; omega
      have hlc6 : ∀ p ∈ ps, p.1.cols.length ≤ 1000000 := fun p hp => by have := (HRK.out p hp).2; omega
      have hke : ∀ p ∈ ps, p.1.key.size ≤ 10000000 := fun p hp => by have := (HRK.out p hp).1; omega
      have HLC4 := Lib.hid hlc4
      have HLC6 := Lib.hid hlc6
      have HKE := Lib.hid hke
      have HIR := Lib.hid hir
      have HNR := Lib.hid hnr
      clear hlc4 hlc6 hke hir hnr
      obtain ⟨z0, z1, z2, z3, z4⟩ := d0.vw
      have yt : ∀ i, wr.cell? ⟨bt, i, none⟩ = TB[i]? := fun i => dT.cell i
      rw [HTB.out] at yt
      have y0 : wr.cell? ⟨bt, 0, none⟩ = some (.string ⟨#[116]⟩) := yt 0
      have y1 : wr.cell? ⟨bt, 1, none⟩ = some (.int .i64 1) := yt 1
      have y2 : wr.cell? ⟨bt, 2, none⟩ = some (.string ⟨#[112]⟩) := yt 2
      have y3 : wr.cell? ⟨bt, 3, none⟩ = some (.int .i64 1) := yt 3
      have y4 : wr.cell? ⟨bt, 4, none⟩ = some (.string ⟨#[107]⟩) := yt 4
      have y5 : wr.cell? ⟨bt, 5, none⟩ = some (.int .i64 2) := yt 5
      have y6 : wr.cell? ⟨bt, 6, none⟩ = some (.slice (some ⟨bs, 0, none⟩) 4 4) := yt 6
      clear yt d0 d1 dT
      go_wp2_with fail
      refine wp_region_tab 24 [(3, fun v y => ∃ L, PartsIn y v L ∧ L.map Pa.data = FF), (6, fun v y => ∃ L, PartsIn y v L ∧ L.map Pa.data = FF), (7, fun v _ => v = .bool true), (13, fun v y => ∃ L, PartsIn y v L ∧ L.map Pa.data = VV), (17, fun v y => ∃ L, PartsIn y v L ∧ L.map Pa.data = VV), (18, fun v _ => v = .bool true), (21, fun v _ => v = .bool true)] (by kernel_rfl) (by kernel_rfl) (by kernel_rfl) ⟨fun _ _ _ hE ⟨L, h, h'⟩ => ⟨L, h.ext hE, h'⟩, fun _ _ _ hE ⟨L, h, h'⟩ => ⟨L, h.ext hE, h'⟩, stays_eq _, fun _ _ _ hE ⟨L, h, h'⟩ => ⟨L, h.ext hE, h'⟩, fun _ _ _ hE ⟨L, h, h'⟩ => ⟨L, h.ext hE, h'⟩, stays_eq _, stays_eq _, trivial⟩ ?_
      replace z0 := held z0
      replace z1 := held z1
      replace z2 := held z2
      replace z3 := held z3
      replace z4 := held z4
      replace p0 := held p0
      replace p1 := held p1
      replace p2 := held p2
      replace y0 := held y0
      replace y1 := held y1
      replace y2 := held y2
      replace y3 := held y3
      replace y4 := held y4
      replace y5 := held y5
      replace y6 := held y6
      refine rg_quiet rfl rfl rfl rfl ?_; intro K hK; go_big_quiet_op; go_big_quiet_on
      refine rg_quiet rfl rfl rfl rfl ?_; intro K hK; go_big_quiet_op; go_big_quiet_on
      refine rg_quiet rfl rfl rfl rfl ?_; intro K hK; go_big_quiet_op; go_big_quiet_on
      refine rg_fact [] rfl rfl rfl (by kernel_rfl) (fun y hY hf => ?_) (fun v3 u3 hE3 hG3 h3 => ?_)
      · go_simp
        refine (fullL_any (.slice (some ⟨bs, 0, none⟩) 4 4) x u ns k g _ ps y (HIR.out.ext hY) (by omega) HLC6.out (HNR.out.ext hY) (by omega) HKE.out).mono ?_
        rintro e y' ⟨v', he, L, hown, hrs, hd, hy⟩
        exact ⟨_, he, rg_doneR hY hy ⟨L, PartsT.parts ⟨TIn.own hown, hrs⟩, by rw [HFF.out]; exact hd⟩⟩
      clear hE3 hG3 h3
      simp only [Act.put, List.setIfInBounds_toArray, List.set_cons_zero, List.set_cons_succ]
      refine rg_quiet rfl rfl rfl rfl ?_; intro K hK; go_big_quiet_op; go_big_quiet_on
      refine rg_quiet rfl rfl rfl rfl ?_; intro K hK; go_big_quiet_op; go_big_quiet_on
      refine rg_fact [] rfl rfl rfl (by kernel_rfl) (fun y hY hf => ?_) (fun v6 u6 hE6 hG6 h6 => ?_)
      · go_simp
        refine (full18_any x u ns k g _ ps y (HIR.out.ext hY) (by omega) HLC6.out (HNR.out.ext hY) (by omega) HKE.out).mono ?_
        rintro e y' ⟨v', he, L, hown, hrs, hd, hy⟩
        exact ⟨_, he, rg_doneR hY hy ⟨L, PartsT.parts ⟨TIn.own hown, hrs⟩, by rw [HFF.out]; exact hd⟩⟩
      clear hE6 hG6 h6
      simp only [Act.put, List.setIfInBounds_toArray, List.set_cons_zero, List.set_cons_succ]
      refine rg_val [3, 6] rfl rfl rfl (by kernel_rfl) (fun y hE hf => ?_) ?_
      · obtain ⟨L1, hL1, hd1⟩ := (hf 3 (by simp)).1.2 rfl
        obtain ⟨L2, hL2, hd2⟩ := (hf 6 (by simp)).2 rfl
        go_simp
        exact (sameParts_any _ _ L1 L2 (hd1.trans hd2.symm) y hL1 hL2).mono fun e w' ⟨he, hw⟩ => ⟨_, he, rg_done hE hw rfl⟩
      simp only [Act.put, List.setIfInBounds_toArray, List.set_cons_zero, List.set_cons_succ]
      refine rg_quiet rfl rfl rfl rfl ?_; intro K hK; go_big_quiet_op; go_big_quiet_on
      refine rg_quiet rfl rfl rfl rfl ?_; intro K hK; go_big_quiet_op; go_big_quiet_on
      refine rg_quiet rfl rfl rfl rfl ?_; intro K hK; go_big_quiet_op; go_big_quiet_on
      refine rg_quiet rfl rfl rfl rfl ?_; intro K hK; go_big_quiet_op; go_big_quiet_on
      refine rg_quiet rfl rfl rfl rfl ?_; intro K hK; go_big_quiet_op; go_big_quiet_on
      refine rg_fact [] rfl rfl rfl (by kernel_rfl) (fun y hY hf => ?_) (fun v13 u13 hE13 hG13 h13 => ?_)
      · go_simp
        refine (projseenL_any (.slice (some ⟨bs, 0, none⟩) 4 4) x u ns k g _ ps now y (HIR.out.ext hY) (by omega) HLC6.out (HNR.out.ext hY) (by omega) HKE.out).mono ?_
        rintro e y' ⟨v', he, L, hown, hrs, hd, hy⟩
        exact ⟨_, he, rg_doneR hY hy ⟨L, PartsT.parts ⟨TIn.own hown, hrs⟩, by rw [HVV.out]; exact hd⟩⟩
      clear hE13 hG13 h13
      simp only [Act.put, List.setIfInBounds_toArray, List.set_cons_zero, List.set_cons_succ]
      refine rg_quiet rfl rfl rfl rfl ?_; intro K hK; go_big_quiet_op; go_big_quiet_on
      refine rg_quiet rfl rfl rfl rfl ?_; intro K hK; go_big_quiet_op; go_big_quiet_on
      refine rg_quiet rfl rfl rfl rfl ?_; intro K hK; go_big_quiet_op; go_big_quiet_on
      refine rg_fact [] rfl rfl rfl (by kernel_rfl) (fun y hY hf => ?_) (fun v17 u17 hE17 hG17 h17 => ?_)
      · go_simp
        refine (seen18_any x u ns k g _ ps now y (HIR.out.ext hY) (by omega) HLC4.out HDN.out (HNR.out.ext hY) (by omega) HKE.out).mono ?_
        rintro e y' ⟨v', he, L, hown, hrs, hd, hy⟩
        exact ⟨_, he, rg_doneR hY hy ⟨L, PartsT.parts ⟨TIn.own hown, hrs⟩, by rw [HVV.out]; exact hd⟩⟩
      clear hE17 hG17 h17
      simp only [Act.put, List.setIfInBounds_toArray, List.set_cons_zero, List.set_cons_succ]
      refine rg_val [13, 17] rfl rfl rfl (by kernel_rfl) (fun y hE hf => ?_) ?_
      · obtain ⟨L1, hL1, hd1⟩ := (hf 13 (by simp)).1.2 rfl
        obtain ⟨L2, hL2, hd2⟩ := (hf 17 (by simp)).2 rfl
        go_simp
        exact (sameParts_any _ _ L1 L2 (hd1.trans hd2.symm) y hL1 hL2).mono fun e w' ⟨he, hw⟩ => ⟨_, he, rg_done hE hw rfl⟩
      simp only [Act.put, List.setIfInBounds_toArray, List.set_cons_zero, List.set_cons_succ]
      refine rg_quiet rfl rfl rfl rfl ?_; intro K hK; go_big_quiet_op; go_big_quiet_on
      refine rg_quiet rfl rfl rfl rfl ?_; intro K hK; go_big_quiet_op; go_big_quiet_on
      refine rg_val [] rfl rfl rfl (by kernel_rfl) (fun y hE hf => ?_) ?_
      · go_simp
        exact (pawake_any y).mono fun e w' ⟨he, hw⟩ => ⟨_, he, rg_done hE hw rfl⟩
      simp only [Act.put, List.setIfInBounds_toArray, List.set_cons_zero, List.set_cons_succ]
      refine rg_quiet rfl rfl rfl rfl ?_; intro K hK; go_big_quiet_op; go_big_quiet_on
      refine rg_quiet rfl rfl rfl rfl ?_; intro K hK; go_big_quiet_op; go_big_quiet_on
      refine rel_nil fun w20 hE20 _ => ?_
      clear z0 z1 z2 z3 z4 p0 p1 p2 y0 y1 y2 y3 y4 y5 y6
      go_wp2_with fail
      go_ret
      exact ⟨rfl, (hEE.trans hE).trans hE20⟩
theorem walk_projectAll (v0 v1 : Value) (now : Int) (key clus : ByteArray) (W : World) (w0 : ∃ (x : Vw) (u : Value) (ns : List ByteArray), v0 = .agg (vw5 x u) ∧ StrsIn W u ns ∧ (∀ s ∈ ns, s.size ≤ maxLen) ∧ x.on.size ≤ maxLen)
    (w1 : ∃ (k : ByteArray) (g : Int) (u : Value) (ps : List (Ro × Value)), v1 = .agg #[.string k, .int .i64 g, u] ∧ RowsIn W u ps) (_ : (Lit.int .i64 now).wf = true) (w3 : key.size ≤ maxLen) (w4 : clus.size ≤ maxLen) :
    Calls Try.prog 3 #[v0, v1, .int .i64 now, .string key, .string clus] W fun e w' => e = .returned (.bool true) ∧ Ext W w' := by
  obtain ⟨x, u, ns, rfl, hns, hnb, hob⟩ := w0
  obtain ⟨k, g, pu, ps, rfl, hp⟩ := w1
  exact law_projectAll x u ns k g pu ps now key clus W hns hnb hob hp w3 w4
end Go.Proofs.Ytfagnbofnaoncaa
