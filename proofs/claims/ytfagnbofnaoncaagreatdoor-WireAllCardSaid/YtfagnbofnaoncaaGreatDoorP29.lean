/- WireAll: the law's walk. -/
import Derived.Test.YtfagnbofnaoncaaGreatDoorP25
import Derived.Test.YtfagnbofnaoncaaGreatDoorP26
import Derived.Test.YtfagnbofnaoncaaGreatDoorP27
import Derived.Test.YtfagnbofnaoncaaGreatDoorP28
set_option linter.unusedSimpArgs false
set_option linter.unusedVariables false
namespace Go.Proofs.YtfagnbofnaoncaaGreatDoor
open Go Go.RowKit
attribute [local go_sem] yields yUpon

theorem few_lowW {rows : Int} {M : List Mt} (h : ∀ m ∈ M, FewM rows m) : ∀ x ∈ M, x.table.size ≤ 1000000 ∧ ∀ p ∈ x.pa.ps, ∀ c ∈ p.1.cols, c.name.size ≤ 1000000 := fun x hx => by
  obtain ⟨h1, h2, h3⟩ := h x hx
  refine ⟨by omega, fun p hp c hc => ?_⟩
  have := ((h3 p hp).each c hc).1
  omega
theorem few_wholeW {M : List Mt} (h : ∀ m ∈ M, FewM 10 m) : ∀ x ∈ M, okMt x = true → (wholeP x.pa.key x.pa.gone (x.pa.ps.map (·.1))).length ≤ 262144 := fun x hx hok => by
  obtain ⟨h1, h2, h3⟩ := h x hx
  unfold okMt at hok
  simp only [Bool.and_eq_true] at hok
  have := (wholeP_few2 hok.2).1
  rw [List.length_map] at this
  omega

set_option maxRecDepth 100000 in
set_option maxHeartbeats 16000000 in
theorem law_wireAll (m : Hd) (vm vk : Value) (M : List Mt) (K : List ByteArray) (s : ByteArray) (w : World) (hM : MtsIn w vm M) (hK : TxIn w vk K) (hKb : ∀ k ∈ K, k.size ≤ maxLen) (hs : s.size ≤ maxLen) (hT : TabU w) :
    Calls Tryz.prog 3 #[.agg (hd7 m vm vk), .string s] w fun e w' => e = .returned (.bool true) ∧ Ext w w' := by
  have b0 := BoxAt.made w (hd7 m vm vk) 25
  have hE0 := (Ext.refl w).alloc (.cells (hd7 m vm vk) 25)
  replace hM := hM.ext hE0
  replace hK := hK.ext hE0
  replace hT := hT.ext hE0
  unfold maxLen at hs
  obtain ⟨am, cm, rfl, _⟩ := hM.get
  obtain ⟨ak, ck, rfl, _⟩ := hK.get
  have hfew := few21_any m _ _ M K (w.alloc (.cells (hd7 m (.slice am M.length cm) (.slice ak K.length ck)) 25)) hM hK hKb
  obtain ⟨Q, hQ⟩ : ∃ Q, Q = putQ ⟨m, M.map Mt.q, K⟩ := ⟨_, rfl⟩
  obtain ⟨Z, hZ⟩ : ∃ Z, Z = msB m M K := ⟨_, rfl⟩
  have hput := fun (w1 : World) (hE : Ext (w.alloc (.cells (hd7 m (.slice am M.length cm) (.slice ak K.length ck)) 25)) w1) (h1 : ∀ x ∈ M, FewM 10 x) (h2 : ∀ k ∈ K, k.size ≤ 300) => Lib.hid (wput_any m _ _ M K w1 (hT.ext hE) (hM.ext hE) (hK.ext hE) (few_lowW h1) (fun x hx => by have := h2 x hx; omega) (few_wholeW h1))
  have hput2 := fun (w1 : World) (hE : Ext (w.alloc (.cells (hd7 m (.slice am M.length cm) (.slice ak K.length ck)) 25)) w1) (h1 : ∀ x ∈ M, FewM 10 x) (h2 : ∀ k ∈ K, k.size ≤ 300) => Lib.hid (rput21 m _ _ M K w1 (hM.ext hE) (hK.ext hE) (few_lowW h1) (fun x hx => by have := h2 x hx; omega))
  have hck := fun (w1 : World) (hE : Ext (w.alloc (.cells (hd7 m (.slice am M.length cm) (.slice ak K.length ck)) 25)) w1) (h1 : ∀ x ∈ M, FewM 10 x) (h2 : ∀ k ∈ K, k.size ≤ 300) => Lib.hid (wcheck_gen m _ _ M K w1 (hT.ext hE) (hM.ext hE) (hK.ext hE) (few_lowW h1) (fun x hx => by have := h2 x hx; omega))
  have hck2 := fun (w1 : World) (hE : Ext (w.alloc (.cells (hd7 m (.slice am M.length cm) (.slice ak K.length ck)) 25)) w1) (h1 : ∀ x ∈ M, FewM 10 x) (h2 : ∀ k ∈ K, k.size ≤ 300) => Lib.hid (rcheck21 m _ _ M K w1 (hM.ext hE) (hK.ext hE) (few_lowW h1) (fun x hx => by have := h2 x hx; omega))
  rw [← hQ] at hput hput2
  rw [← hZ] at hck hck2
  clear hM hK hKb hQ hZ
  obtain ⟨kd, fr, tt, id, nm⟩ := m
  unfold hd7 at *
  simp only at *
  obtain ⟨ml, hml⟩ : ∃ n, n = M.length := ⟨_, rfl⟩
  obtain ⟨kl, hkl⟩ : ∃ n, n = K.length := ⟨_, rfl⟩
  rw [← hml, ← hkl] at b0 hE0 hT hfew hput hput2 hck hck2 ⊢
  clear hml hkl
  go_enter Tryz.func3, Tryz.ntmps3
  go_wp2_with fail
  obtain ⟨w0, hw0⟩ : ∃ w0, w0 = w.alloc (.cells #[.int .i64 kd, .int .i64 fr, .int .i64 tt, .int .i64 id, .slice am ml cm, .slice ak kl ck, .int .i64 nm] 25) := ⟨_, rfl⟩
  rw [← hw0] at b0 hE0 hT hfew hput hput2 hck hck2 ⊢
  clear hw0
  refine hfew.mono ?_
  rintro e w1 ⟨F1, rfl, hF1, hE1⟩
  have HF1 := Lib.hid hF1
  clear hF1 hfew
  cases F1
  · go_wp2_with (go_at_call 6; go_must (refine (awake21_any _ (hT.ext hE1)).mono ?_); rintro e w7 ⟨rfl, hE7⟩)
    go_ret
    exact ⟨rfl, (hE0.trans hE1).trans hE7⟩
  cases hs3 : decide ((5000 : Int) < (s.size : Int))
  rotate_left
  · go_wp2_with (go_at_call 6; go_must (refine (awake21_any _ (hT.ext hE1)).mono ?_); rintro e w7 ⟨rfl, hE7⟩)
    go_ret
    exact ⟨rfl, (hE0.trans hE1).trans hE7⟩
  have hs50 : s.size ≤ 5000 := by simp at hs3; omega
  have f1 := (HF1.out rfl).2.2
  have f2 := (HF1.out rfl).1.2
  have hp := fun w1 hE => hput w1 hE f1 f2
  have hp2 := fun w1 hE => hput2 w1 hE f1 f2
  have hc := fun w1 hE => hck w1 hE f1 f2
  have hc2 := fun w1 hE => hck2 w1 hE f1 f2
  clear hput hput2 hck hck2 hs3 f1 f2 HF1
  obtain ⟨q1, q2⟩ := Q
  simp only at hp hp2
  have b1 := b0.ext hE1
  have x0 : w1.cell? ⟨w.heap.size, 0, none⟩ = some (.int .i64 kd) := b1.cell 0
  have x1 : w1.cell? ⟨w.heap.size, 1, none⟩ = some (.int .i64 fr) := b1.cell 1
  have x2 : w1.cell? ⟨w.heap.size, 2, none⟩ = some (.int .i64 tt) := b1.cell 2
  have x3 : w1.cell? ⟨w.heap.size, 3, none⟩ = some (.int .i64 id) := b1.cell 3
  have x4 : w1.cell? ⟨w.heap.size, 4, none⟩ = some (.slice am ml cm) := b1.cell 4
  have x5 : w1.cell? ⟨w.heap.size, 5, none⟩ = some (.slice ak kl ck) := b1.cell 5
  have x6 : w1.cell? ⟨w.heap.size, 6, none⟩ = some (.int .i64 nm) := b1.cell 6
  go_wp2_with (go_at_call 7; go_must (refine (hp _ hE1).out.mono ?_); rintro e w2 ⟨rfl, hE2⟩; have b2 := b1.ext hE2; have x0 : w2.cell? ⟨w.heap.size, 0, none⟩ = some (.int .i64 kd) := b2.cell 0; have x1 : w2.cell? ⟨w.heap.size, 1, none⟩ = some (.int .i64 fr) := b2.cell 1; have x2 : w2.cell? ⟨w.heap.size, 2, none⟩ = some (.int .i64 tt) := b2.cell 2; have x3 : w2.cell? ⟨w.heap.size, 3, none⟩ = some (.int .i64 id) := b2.cell 3; have x4 : w2.cell? ⟨w.heap.size, 4, none⟩ = some (.slice am ml cm) := b2.cell 4; have x5 : w2.cell? ⟨w.heap.size, 5, none⟩ = some (.slice ak kl ck) := b2.cell 5; have x6 : w2.cell? ⟨w.heap.size, 6, none⟩ = some (.int .i64 nm) := b2.cell 6)
  refine (hp2 _ (hE1.trans hE2)).out.mono ?_
  rintro e w3 ⟨rfl, hE3⟩
  have b3 := b2.ext hE3
  have hw03 := (hE1.trans hE2).trans hE3
  clear x0 x1 x2 x3 x4 x5 x6 b1 b2 hE2 hE3 hp hp2
  obtain ⟨X, hX⟩ : ∃ X, X = gxMg s := ⟨_, rfl⟩
  obtain ⟨cd, hcd⟩ : ∃ X, X = gxErr s := ⟨_, rfl⟩
  have hg1 := wget_gen s w3 (hT.ext hw03) (by omega)
  have hg2 := fun w4 => Lib.hid (rget21_gen s w4 (by omega))
  rw [← hX, ← hcd] at hg1 hg2
  clear hX hcd
  obtain ⟨⟨kd', fr', tt', id', nm'⟩, MU, KE⟩ := X
  simp only at hg1 hg2
  go_wp2_with fail
  refine hg1.mono ?_
  rintro e w4 ⟨v4, k4, ms4, rfl, hG4, hE4⟩
  obtain ⟨a4, c4, rfl, _⟩ := hG4.mt.get
  obtain ⟨d4, f4, rfl, _⟩ := hG4.ks.get
  simp only at hG4
  have b5 := BoxAt.made w4 (hd7 ⟨kd', fr', tt', id', nm'⟩ (.slice a4 ms4.length c4) (.slice d4 KE.length f4)) 25
  have hE5 : Ext w4 (w4.alloc (.cells (hd7 ⟨kd', fr', tt', id', nm'⟩ (.slice a4 ms4.length c4) (.slice d4 KE.length f4)) 25)) := (Ext.refl w4).alloc _
  unfold hd7 at b5 hE5 ⊢
  simp only at b5 hE5 ⊢
  go_wp2_with fail
  refine (hg2 _).out.mono ?_
  rintro e w6 ⟨v6, k6, ms6, rfl, hG6, hE6⟩
  obtain ⟨a6, c6, rfl, _⟩ := hG6.mt.get
  obtain ⟨d6, f6, rfl, _⟩ := hG6.ks.get
  simp only at hG6
  have b7 := BoxAt.made w6 (hd7 ⟨kd', fr', tt', id', nm'⟩ (.slice a6 ms6.length c6) (.slice d6 KE.length f6)) 25
  have hE7 : Ext w6 (w6.alloc (.cells (hd7 ⟨kd', fr', tt', id', nm'⟩ (.slice a6 ms6.length c6) (.slice d6 KE.length f6)) 25)) := (Ext.refl w6).alloc _
  unfold hd7 at b7 hE7 ⊢
  simp only at b7 hE7 ⊢
  have hG4' := hG4.ext ((hE5.trans hE6).trans hE7)
  have hG6' := hG6.ext hE7
  have c5 := (b5.ext hE6).ext hE7
  have c0 := b3.ext (((hE4.trans hE5).trans hE6).trans hE7)
  have hw07 := (((hw03.trans hE4).trans hE5).trans hE6).trans hE7
  go_wp2_with fail
  generalize World.alloc w6 _ = w8 at b7 c5 c0 hG4' hG6' hw07 hE7 ⊢
  have hmq : ms4.map Mt.q = ms6.map Mt.q := hG4'.q.trans hG6'.q.symm
  have HMQ := Lib.hid hmq
  have HC := Lib.hid (fun w9 (hE : Ext w8 w9) => (hc w9 (hw07.trans hE)).out)
  have HC2 := Lib.hid (fun w9 (hE : Ext w8 w9) => (hc2 w9 (hw07.trans hE)).out)
  have HG4 := Lib.hid hG4'
  have HG6 := Lib.hid hG6'
  have hEE := hE0.trans hw07
  have HT := Lib.hid (hT.ext hw07)
  clear hc hc2 hG4 hG6 hG4' hG6' hmq hE4 hE5 hE6 hE7 hw03 b3 b5 hT hw07 hE1 b0 hE0
  have ta : (q1.toList == q1.toList) = true := by simp
  have tb : (q2 == q2) = true := by simp
  have tc : (cd == cd) = true := by simp
  have td : (Z == Z) = true := by simp
  have x0 := held (show w8.cell? ⟨w.heap.size, 0, none⟩ = some (.int .i64 kd) from c0.cell 0)
  have x1 := held (show w8.cell? ⟨w.heap.size, 1, none⟩ = some (.int .i64 fr) from c0.cell 1)
  have x2 := held (show w8.cell? ⟨w.heap.size, 2, none⟩ = some (.int .i64 tt) from c0.cell 2)
  have x3 := held (show w8.cell? ⟨w.heap.size, 3, none⟩ = some (.int .i64 id) from c0.cell 3)
  have x4 := held (show w8.cell? ⟨w.heap.size, 4, none⟩ = some (.slice am ml cm) from c0.cell 4)
  have x5 := held (show w8.cell? ⟨w.heap.size, 5, none⟩ = some (.slice ak kl ck) from c0.cell 5)
  have x6 := held (show w8.cell? ⟨w.heap.size, 6, none⟩ = some (.int .i64 nm) from c0.cell 6)
  have y0 := held (show w8.cell? ⟨w4.heap.size, 0, none⟩ = some (.int .i64 kd') from c5.cell 0)
  have y1 := held (show w8.cell? ⟨w4.heap.size, 1, none⟩ = some (.int .i64 fr') from c5.cell 1)
  have y2 := held (show w8.cell? ⟨w4.heap.size, 2, none⟩ = some (.int .i64 tt') from c5.cell 2)
  have y3 := held (show w8.cell? ⟨w4.heap.size, 3, none⟩ = some (.int .i64 id') from c5.cell 3)
  have y4 := held (show w8.cell? ⟨w4.heap.size, 4, none⟩ = some (.slice a4 ms4.length c4) from c5.cell 4)
  have y5 := held (show w8.cell? ⟨w4.heap.size, 5, none⟩ = some (.slice d4 KE.length f4) from c5.cell 5)
  have y6 := held (show w8.cell? ⟨w4.heap.size, 6, none⟩ = some (.int .i64 nm') from c5.cell 6)
  have z0 := held (show w8.cell? ⟨w6.heap.size, 0, none⟩ = some (.int .i64 kd') from b7.cell 0)
  have z1 := held (show w8.cell? ⟨w6.heap.size, 1, none⟩ = some (.int .i64 fr') from b7.cell 1)
  have z2 := held (show w8.cell? ⟨w6.heap.size, 2, none⟩ = some (.int .i64 tt') from b7.cell 2)
  have z3 := held (show w8.cell? ⟨w6.heap.size, 3, none⟩ = some (.int .i64 id') from b7.cell 3)
  have z4 := held (show w8.cell? ⟨w6.heap.size, 4, none⟩ = some (.slice a6 ms6.length c6) from b7.cell 4)
  have z5 := held (show w8.cell? ⟨w6.heap.size, 5, none⟩ = some (.slice d6 KE.length f6) from b7.cell 5)
  have z6 := held (show w8.cell? ⟨w6.heap.size, 6, none⟩ = some (.int .i64 nm') from b7.cell 6)
  refine wp_region_tab 29 [(11, fun v _ => v = .bool true), (20, fun v _ => v = .bool Z), (22, fun v _ => v = .bool Z), (26, fun v _ => v = .bool true)] (by kernel_rfl) (by kernel_rfl) (by kernel_rfl) ⟨stays_eq _, stays_eq _, stays_eq _, stays_eq _, trivial⟩ ?_
  refine rg_quiet rfl rfl rfl rfl ?_; intro K hK; go_big_quiet_op; go_big_quiet_on
  refine rg_quiet rfl rfl rfl rfl ?_; intro K hK; go_big_quiet_op; go_big_quiet_on
  refine rg_quiet rfl rfl rfl rfl ?_; intro K hK; go_big_quiet_op; go_big_quiet_on
  refine rg_quiet rfl rfl rfl rfl ?_; intro K hK; go_big_quiet_op; go_big_quiet_on
  refine rg_quiet rfl rfl rfl rfl ?_; intro K hK; go_big_quiet_op; go_big_quiet_on
  refine rg_quiet rfl rfl rfl rfl ?_; intro K hK; go_big_quiet_op; go_big_quiet_on
  refine rg_quiet rfl rfl rfl rfl ?_; intro K hK; go_big_quiet_op; go_big_quiet_on
  refine rg_quiet rfl rfl rfl rfl ?_; intro K hK; go_big_quiet_op; go_big_quiet_on
  refine rg_quiet rfl rfl rfl rfl ?_; intro K hK; go_big_quiet_op; go_big_quiet_on
  refine rg_quiet rfl rfl rfl rfl ?_; intro K hK; go_big_quiet_op; go_big_quiet_on
  refine rg_quiet rfl rfl rfl rfl ?_; intro K hK; go_big_quiet_op; go_big_quiet_on
  refine rg_val [] rfl rfl rfl (by kernel_rfl) (fun y hE hf => ?_) ?_
  · go_simp
    exact (sameMsg_any ⟨kd', fr', tt', id', nm'⟩ _ _ _ _ ms4 ms6 HMQ.out KE y (HG4.out.ext hE).mt (HG6.out.ext hE).mt (HG4.out.ext hE).ks (HG6.out.ext hE).ks).mono fun e w' ⟨he, hw⟩ => ⟨_, he, rg_done hE hw rfl⟩
  simp only [Act.put, List.setIfInBounds_toArray, List.set_cons_zero, List.set_cons_succ]
  refine rg_quiet rfl rfl rfl rfl ?_; intro K hK; go_big_quiet_op; go_big_quiet_on
  refine rg_quiet rfl rfl rfl rfl ?_; intro K hK; go_big_quiet_op; go_big_quiet_on
  refine rg_quiet rfl rfl rfl rfl ?_; intro K hK; go_big_quiet_op; go_big_quiet_on
  refine rg_quiet rfl rfl rfl rfl ?_; intro K hK; go_big_quiet_op; go_big_quiet_on
  refine rg_quiet rfl rfl rfl rfl ?_; intro K hK; go_big_quiet_op; go_big_quiet_on
  refine rg_quiet rfl rfl rfl rfl ?_; intro K hK; go_big_quiet_op; go_big_quiet_on
  refine rg_quiet rfl rfl rfl rfl ?_; intro K hK; go_big_quiet_op; go_big_quiet_on
  refine rg_quiet rfl rfl rfl rfl ?_; intro K hK; go_big_quiet_op; go_big_quiet_on
  refine rg_val [] rfl rfl rfl (by kernel_rfl) (fun y hE hf => ?_) ?_
  · go_simp
    exact (HC.out y hE).mono fun e w' ⟨he, hw⟩ => ⟨_, he, rg_done hE hw rfl⟩
  simp only [Act.put, List.setIfInBounds_toArray, List.set_cons_zero, List.set_cons_succ]
  refine rg_quiet rfl rfl rfl rfl ?_; intro K hK; go_big_quiet_op; go_big_quiet_on
  refine rg_val [] rfl rfl rfl (by kernel_rfl) (fun y hE hf => ?_) ?_
  · go_simp
    exact (HC2.out y hE).mono fun e w' ⟨he, hw⟩ => ⟨_, he, rg_done hE hw rfl⟩
  simp only [Act.put, List.setIfInBounds_toArray, List.set_cons_zero, List.set_cons_succ]
  refine rg_quiet rfl rfl rfl rfl ?_; intro K hK; go_big_quiet_op; go_big_quiet_on
  refine rg_quiet rfl rfl rfl rfl ?_; intro K hK; go_big_quiet_op; go_big_quiet_on
  refine rg_quiet rfl rfl rfl rfl ?_; intro K hK; go_big_quiet_op; go_big_quiet_on
  refine rg_val [] rfl rfl rfl (by kernel_rfl) (fun y hE hf => ?_) ?_
  · go_simp
    exact (awake21_any y (HT.out.ext hE)).mono fun e w' ⟨he, hw⟩ => ⟨_, he, rg_done hE hw rfl⟩
  simp only [Act.put, List.setIfInBounds_toArray, List.set_cons_zero, List.set_cons_succ]
  refine rg_quiet rfl rfl rfl rfl ?_; intro K hK; go_big_quiet_op; go_big_quiet_on
  refine rg_quiet rfl rfl rfl rfl ?_; intro K hK; go_big_quiet_op; go_big_quiet_on
  refine rel_nil fun w20 hE20 _ => ?_
  clear x0 x1 x2 x3 x4 x5 x6 y0 y1 y2 y3 y4 y5 y6 z0 z1 z2 z3 z4 z5 z6
  go_wp2_with fail
  go_ret
  exact ⟨rfl, hEE.trans hE20⟩
theorem walk_wireAll (v0 : Value) (s : ByteArray) (W : World) (w0 : ∃ (m : Hd) (vm vk : Value) (M : List Mt) (K : List ByteArray), v0 = .agg (hd7 m vm vk) ∧ MtsIn W vm M ∧ TxIn W vk K ∧ (∀ m ∈ M, m.table.size ≤ maxLen) ∧ ∀ k ∈ K, k.size ≤ maxLen) (w1 : s.size ≤ maxLen) (hT : TabU W) :
    Calls Tryz.prog 3 #[v0, .string s] W fun e w' => e = .returned (.bool true) ∧ Ext W w' := by
  obtain ⟨m, vm, vk, M, K, rfl, hM, hK, _, hKb⟩ := w0
  exact law_wireAll m vm vk M K s W hM hK hKb w1 hT
end Go.Proofs.YtfagnbofnaoncaaGreatDoor
