/- How many bytes a partition of few rows takes. -/
import Derived.Test.YtfagnbofnaoncaaDoorP14
import Derived.Test.YtfagnbofnaoncaaDoorP17
import Derived.Test.YtfagnbofnaoncaaDoorP19
import Derived.Test.YtfagnbofnaoncaaDoorP20
import Derived.Test.YtfagnbofnaoncaaDoorP21
import Derived.Test.YtfagnbofnaoncaaDoorP22
import Derived.Deep.CutBlock
import Derived.Deep.CutRange
set_option linter.unusedSimpArgs false
set_option linter.unusedVariables false
namespace Go.Proofs.YtfagnbofnaoncaaDoor
open Go Go.RowKit
theorem cellP_few2 {c : Cl} (h : checkC c.val c.dead c.at_ c.fin = true) : (cellP c).length ≤ 128 := by
  rcases check_shape h with rfl | ⟨n, h0, h1, rfl⟩ | ⟨n, m, h0, h1, h2, h3, h4⟩
  · decide
  · have l1 := num_length (x := n) (by omega)
    unfold cellP
    simp only [Int.toNat_natCast]
    rw [if_neg (show ¬ (n : Int) = 0 by omega)]
    simp only [if_true, List.length_append, List.length_cons, List.length_nil]
    omega
  · have hok := checkC_ok h
    obtain ⟨g0, g1, g2, g3, g4⟩ := hok
    have l1 := num_length (x := c.at_.toNat) (by omega)
    have l2 := num_length (x := c.val.size) (by omega)
    have l3 := num_length (x := c.fin.toNat) (by omega)
    unfold cellP
    split
    · simp only [List.append_nil]; omega
    · split
      · simp only [List.length_append, List.length_cons, List.length_nil]; omega
      · simp only [List.length_append, List.length_cons, List.length_nil, dat_size]; omega
theorem rowP_few2 {r : Ro} (h : rwB r = true) : (rowP r).length ≤ 2500 := by
  have hok := rwB_ok h
  unfold rwB at h
  simp only [Bool.and_eq_true] at h
  obtain ⟨a, hl, _, _, _, _, g⟩ := hdB_parts h.1
  have a' := of_decide_eq_false a
  have g' := of_decide_eq_false g
  obtain ⟨h1, h2, h3, h4, h5, h6, h7, h8⟩ := hok
  have l1 := num_length (x := r.key.size) (by omega)
  have l2 := cellP_few2 hl
  have l3 := num_length (x := r.gone.toNat) (by omega)
  have l4 := num_length (x := r.shade.toNat) (by omega)
  have l5 := num_length (x := r.cols.length) (by omega)
  have l6 := flat_le (f := colP) (n := 237) (fun c hc => by
    obtain ⟨_, k1, k2, _⟩ := csB_ok h.2 c hc
    have m1 := nameB_size k1
    have m2 := cellP_few2 k2
    have m3 := num_length (x := c.name.size) (by omega)
    unfold colP
    simp only [List.length_append, dat_size]
    omega)
  unfold rowP
  simp only [List.length_append, dat_size]
  omega
theorem wholeP_few2 {k : ByteArray} {g : Int} {rs : List Ro} (h : ptB k g rs = true) : (wholeP k g rs).length ≤ 200 + rs.length * 2500 ∧ 3 ≤ (wholeP k g rs).length := by
  have hok := ptB_ok h
  unfold ptB at h
  simp only [Bool.and_eq_true, Bool.not_eq_true'] at h
  obtain ⟨⟨⟨⟨h0, _⟩, _⟩, h4⟩, h5⟩ := h
  have c := of_decide_eq_false h0
  obtain ⟨h1, h2, h3, _, _⟩ := hok
  have l1 := num_length (x := k.size) (by omega)
  have l3 := num_length (x := g.toNat) (by omega)
  have l5 := num_length (x := rs.length) (by have := of_decide_eq_false h4; omega)
  have l6 := flat_le (f := rowP) (fun c hc => rowP_few2 (rsB_ok h5 c hc))
  have n1 := num_ge k.size
  have n2 := num_ge g.toNat
  have n3 := num_ge rs.length
  unfold wholeP
  simp only [List.length_append, dat_size]
  constructor <;> omega
end Go.Proofs.YtfagnbofnaoncaaDoor

/- WireBack: the law's walk. -/
namespace Go.Proofs.YtfagnbofnaoncaaDoor
open Go Go.RowKit
attribute [local go_sem] yields yUpon

theorem few_lowW {rows : Int} {M : List Mt} (h : ∀ m ∈ M, FewM rows m) : ∀ x ∈ M, x.table.size ≤ 1000000 ∧ ∀ p ∈ x.pa.ps, ∀ c ∈ p.1.cols, c.name.size ≤ 1000000 := fun x hx => by
  obtain ⟨h1, h2, h3⟩ := h x hx
  refine ⟨by omega, fun p hp c hc => ?_⟩
  have := ((h3 p hp).each c hc).1
  omega
theorem few_wholeW {M : List Mt} (h : ∀ m ∈ M, FewM 10 m) : ∀ x ∈ M, okMt x = true → (wholeP x.pa.key x.pa.gone (x.pa.ps.map (·.1))).length ≤ 262144 := fun x hx hok => by
  obtain ⟨h1, h2, h3⟩ := h x hx
  unfold okMt at hok
  simp only [Bool.and_eq_true] at hok
  have := (wholeP_few2 hok.2).1
  rw [List.length_map] at this
  omega
/-- A message that was got may be put. -/
theorem got_low {m : Mg} (h : msQ m = true) {ms : List Mt} (hq : ms.map Mt.q = m.muts) (hl : (msgE m).length ≤ 262144) : (∀ x ∈ ms, x.table.size ≤ 1000000 ∧ ∀ p ∈ x.pa.ps, ∀ c ∈ p.1.cols, c.name.size ≤ 1000000) ∧ (∀ s ∈ m.keys, s.size ≤ 1000000) ∧ ∀ x ∈ ms, okMt x = true → (wholeP x.pa.key x.pa.gone (x.pa.ps.map (·.1))).length ≤ 262144 := by
  obtain ⟨_, _, _, _, _, _, _, h8, h9⟩ := msQ_parts h
  refine ⟨fun x hx => ?_, fun s hs => by have := h8 s hs; omega, fun x hx _ => ?_⟩
  · have hm : x.q ∈ m.muts := by rw [← hq]; exact List.mem_map_of_mem hx
    have ho := h9 _ hm
    unfold okMq Mt.q at ho
    simp only [Bool.and_eq_true] at ho
    have := nameB_size ho.1
    refine ⟨by omega, fun p hp c hc => ?_⟩
    have := (((ptB_ok ho.2).rows p.1 (List.mem_map_of_mem (f := (·.1)) hp)).cols c hc).name
    omega
  · have hm : x.q ∈ m.muts := by rw [← hq]; exact List.mem_map_of_mem hx
    have := whole_le hm
    unfold Mt.q at this
    simp only at this
    omega

set_option maxRecDepth 100000 in
set_option maxHeartbeats 16000000 in
theorem law_wireBack (m : Hd) (vm vk : Value) (M : List Mt) (K : List ByteArray) (s : ByteArray) (w : World) (hM : MtsIn w vm M) (hK : TxIn w vk K) (hKb : ∀ k ∈ K, k.size ≤ maxLen) (hs : s.size ≤ maxLen) (hT : TabU w) :
    Calls Tryd.prog 3 #[.agg (hd7 m vm vk), .string s] w fun e w' => e = .returned (.bool true) ∧ Ext w w' := by
  have b0 := BoxAt.made w (hd7 m vm vk) 25
  have hE0 := (Ext.refl w).alloc (.cells (hd7 m vm vk) 25)
  replace hM := hM.ext hE0
  replace hK := hK.ext hE0
  replace hT := hT.ext hE0
  have HKB := Lib.hid hKb
  unfold maxLen at hs
  obtain ⟨am, cm, rfl, _⟩ := hM.get
  obtain ⟨ak, ck, rfl, _⟩ := hK.get
  have hfew := few21_any m _ _ M K (w.alloc (.cells (hd7 m (.slice am M.length cm) (.slice ak K.length ck)) 25)) hM hK hKb
  obtain ⟨Q, hQ⟩ : ∃ Q, Q = putQ ⟨m, M.map Mt.q, K⟩ := ⟨_, rfl⟩
  have hput := fun (w1 : World) (hE : Ext (w.alloc (.cells (hd7 m (.slice am M.length cm) (.slice ak K.length ck)) 25)) w1) (h1 : ∀ x ∈ M, FewM 10 x) (h2 : ∀ k ∈ K, k.size ≤ 300) => Lib.hid (wput_any m _ _ M K w1 (hT.ext hE) (hM.ext hE) (hK.ext hE) (few_lowW h1) (fun x hx => by have := h2 x hx; omega) (few_wholeW h1))
  rw [← hQ] at hput
  have HGX := far (fun h => gx_put (m := ⟨m, M.map Mt.q, K⟩) h)
  have HGM := far (fun h => gx_more (m := ⟨m, M.map Mt.q, K⟩) h)
  have HSZ := far (fun h => (putQ_ok (m := ⟨m, M.map Mt.q, K⟩) h).2)
  rw [← hQ] at HGX HGM HSZ
  have HSame := Lib.hid (fun (w1 : World) (vb kb : Value) (ms : List Mt) (hE : Ext (w.alloc (.cells (hd7 m (.slice am M.length cm) (.slice ak K.length ck)) 25)) w1) (hG : GotW w1 vb kb ms ⟨m, M.map Mt.q, K⟩) => sameMsg_any m vb _ kb _ ms M hG.q K w1 hG.mt (hM.ext hE) hG.ks (hK.ext hE))
  clear hM hK hKb hQ
  obtain ⟨kd, fr, tt, id, nm⟩ := m
  unfold hd7 at *
  simp only at *
  obtain ⟨ml, hml⟩ : ∃ n, n = M.length := ⟨_, rfl⟩
  obtain ⟨kl, hkl⟩ : ∃ n, n = K.length := ⟨_, rfl⟩
  rw [← hml, ← hkl] at b0 hE0 hT hfew hput HSame ⊢
  clear hml hkl
  go_enter Tryd.func3, Tryd.ntmps3
  go_wp2_with fail
  obtain ⟨w0, hw0⟩ : ∃ w0, w0 = w.alloc (.cells #[.int .i64 kd, .int .i64 fr, .int .i64 tt, .int .i64 id, .slice am ml cm, .slice ak kl ck, .int .i64 nm] 25) := ⟨_, rfl⟩
  rw [← hw0] at b0 hE0 hT hfew hput HSame ⊢
  clear hw0
  refine hfew.mono ?_
  rintro e w1 ⟨F1, rfl, hF1, hE1⟩
  have HF1 := Lib.hid hF1
  clear hF1 hfew
  cases F1
  · go_wp2_with (go_at_call 6; go_must (refine (awake21_any _ (hT.ext hE1)).mono ?_); rintro e w7 ⟨rfl, hE7⟩)
    go_ret
    exact ⟨rfl, (hE0.trans hE1).trans hE7⟩
  cases hs3 : decide ((5000 : Int) < (s.size : Int))
  rotate_left
  · go_wp2_with (go_at_call 6; go_must (refine (awake21_any _ (hT.ext hE1)).mono ?_); rintro e w7 ⟨rfl, hE7⟩)
    go_ret
    exact ⟨rfl, (hE0.trans hE1).trans hE7⟩
  have hs50 : s.size ≤ 5000 := by simp at hs3; omega
  have HP := hput w1 hE1 (HF1.out rfl).2.2 (HF1.out rfl).1.2
  clear hput hs3
  have b1 := b0.ext hE1
  have x0 : w1.cell? ⟨w.heap.size, 0, none⟩ = some (.int .i64 kd) := b1.cell 0
  have x1 : w1.cell? ⟨w.heap.size, 1, none⟩ = some (.int .i64 fr) := b1.cell 1
  have x2 : w1.cell? ⟨w.heap.size, 2, none⟩ = some (.int .i64 tt) := b1.cell 2
  have x3 : w1.cell? ⟨w.heap.size, 3, none⟩ = some (.int .i64 id) := b1.cell 3
  have x4 : w1.cell? ⟨w.heap.size, 4, none⟩ = some (.slice am ml cm) := b1.cell 4
  have x5 : w1.cell? ⟨w.heap.size, 5, none⟩ = some (.slice ak kl ck) := b1.cell 5
  have x6 : w1.cell? ⟨w.heap.size, 6, none⟩ = some (.int .i64 nm) := b1.cell 6
  go_upto_if 30 with (go_at_call 7; go_must (refine HP.out.mono ?_); rintro e w2 ⟨rfl, hE2⟩)
  clear x0 x1 x2 x3 x4 x5 x6 b1
  have hw02 := hE1.trans hE2
  go_cut [] from 5 (fun wc => Ext w0 wc)
  case first =>
    by_cases hq : Q.2 = 0
    · obtain ⟨g1, g2⟩ := HGX.out hq
      have g3 := HGM.out hq
      have g4 := HSZ.out hq
      obtain ⟨A, z⟩ := Q
      simp only at hq g1 g2 g3 g4
      subst hq
      have hAz : A.size ≤ 4096 := by rw [g4.2, str_size]; exact g4.1
      obtain ⟨A2, hA2⟩ : ∃ A2, A2 = A ++ (⟨#[0]⟩ : ByteArray) := ⟨_, rfl⟩
      have hA2s : A2.size ≤ 4097 := by
        have := congrArg ByteArray.size hA2
        rw [ByteArray.size_append, show (⟨#[0]⟩ : ByteArray).size = 1 from rfl] at this
        omega
      rw [← hA2] at g3
      have HA2 := far hA2
      clear hA2
      have H1 := far g1
      have H2 := far g2
      have H3 := far g3
      clear g1 g2 g3 g4 HGX HGM HSZ
      go_wp2_with fail
      refine (wget_gen A w2 (hT.ext hw02) (by omega)).mono ?_
      rintro e w3 ⟨v3, k3, ms3, rfl, hG3, hE3⟩
      rw [H1.out, H2.out]
      rw [H2.out] at hG3
      simp only at hG3 ⊢
      have HS3 := HSame.out
      obtain ⟨a3, c3, rfl, _⟩ := hG3.mt.get
      obtain ⟨d3, f3, rfl, _⟩ := hG3.ks.get
      have hw03 := hw02.trans hE3
      have hE4 : Ext w3 (w3.alloc (.cells (hd7 ⟨kd, fr, tt, id, nm⟩ (.slice a3 ms3.length c3) (.slice d3 K.length f3)) 25)) := (Ext.refl w3).alloc _
      have b4 := BoxAt.made w3 (hd7 ⟨kd, fr, tt, id, nm⟩ (.slice a3 ms3.length c3) (.slice d3 K.length f3)) 25
      unfold hd7 at b4 hE4 ⊢
      simp only at b4 hE4 ⊢
      go_wp2_with fail
      have hw04 := hw03.trans hE4
      rw [← HA2.out]
      refine (wget_gen A2 _ (hT.ext hw04) (by omega)).mono ?_
      rintro e w5 ⟨v5, k5, ms5, rfl, hG5, hE5⟩
      have HM2 : Far (gxMg A2 = mg0) := far (gx_none (fun h0 => by rcases H3.out with h | ⟨h, _⟩ <;> omega))
      rw [HM2.out] at hG5 ⊢
      obtain ⟨a5, c5, rfl, _⟩ := hG5.mt.get
      obtain ⟨d5, f5, rfl, _⟩ := hG5.ks.get
      have hw05 := hw04.trans hE5
      have b5 := b4.ext hE5
      have b05 := b0.ext hw05
      obtain ⟨cd, hcd⟩ : ∃ c, c = gxErr A2 := ⟨_, rfl⟩
      rw [← hcd] at H3 ⊢
      clear hcd HM2
      unfold hd7 mg0
      simp only
      have hE6 : ∀ o, Ext w5 (w5.alloc o) := fun o => (Ext.refl w5).alloc o
      have y0 := fun o => b5.allocs o 0
      have y1 := fun o => b5.allocs o 1
      have y2 := fun o => b5.allocs o 2
      have y3 := fun o => b5.allocs o 3
      have y4 := fun o => b5.allocs o 4
      have y5 := fun o => b5.allocs o 5
      have y6 := fun o => b5.allocs o 6
      have x0 := fun o => b05.allocs o 0
      have x1 := fun o => b05.allocs o 1
      have x2 := fun o => b05.allocs o 2
      have x3 := fun o => b05.allocs o 3
      have x4 := fun o => b05.allocs o 4
      have x5 := fun o => b05.allocs o 5
      have x6 := fun o => b05.allocs o 6
      simp at y0 y1 y2 y3 y4 y5 y6 x0 x1 x2 x3 x4 x5 x6
      have hG7 := fun o => hG3.ext ((hE4.trans hE5).trans (hE6 o))
      rcases H3.out with rfl | ⟨rfl, hA4⟩
      · go_wp2_with (go_at_call 9; go_must (refine (HS3 _ _ _ ms3 (hw05.trans (hE6 _)) (hG7 _)).mono ?_); rintro e w7 ⟨rfl, hE7⟩)
        go_meet
        case rel => exact (hw05.trans (hE6 _)).trans hE7
      · have t4 : ¬ (A.size : Int) < 4096 := by omega
        go_wp2_with (go_at_call 9; go_must (refine (HS3 _ _ _ ms3 (hw05.trans (hE6 _)) (hG7 _)).mono ?_); rintro e w7 ⟨rfl, hE7⟩)
        go_meet
        case rel => exact (hw05.trans (hE6 _)).trans hE7
    · have d0 : (Q.2 == 0) = false := by simpa using hq
      go_wp2_with fail
      go_meet
      case rel => exact hw02
  case rest =>
    have hTc := hT.ext hcut
    have hEc := hE0.trans hcut
    clear HP HSame HGX HGM HSZ hw02
    go_wp2_with fail
    refine (wget_gen s wc hTc (by omega)).mono ?_
    rintro e w3 ⟨v3, k3, ms3, rfl, hG3, hE3⟩
    have hT3 := hTc.ext hE3
    have hE03 := hEc.trans hE3
    by_cases hq : gxErr s = 0
    · have hpb := putQ_back hq
      obtain ⟨h1, h2, h3⟩ := gx_back hq
      rw [hq]
      have hl2 := congrArg List.length h2
      rw [dat_size] at hl2
      obtain ⟨X, hX⟩ : ∃ X, X = gxMg s := ⟨_, rfl⟩
      rw [← hX] at hG3 hpb h1 h2 hl2 ⊢
      obtain ⟨l1, l2, l3⟩ := got_low h1 hG3.q (by omega)
      clear hX h2 hq
      obtain ⟨⟨kd', fr', tt', id', nm'⟩, MU, KE⟩ := X
      have hmq : ms3.map Mt.q = MU := hG3.q
      subst hmq
      simp only at hG3 l2 hpb h1 ⊢
      have hp := fun w4 (hE : Ext w3 w4) => Lib.hid (wput_any ⟨kd', fr', tt', id', nm'⟩ v3 k3 ms3 KE w4 (hT3.ext hE) (hG3.mt.ext hE) (hG3.ks.ext hE) l1 l2 l3)
      rw [hpb] at hp
      have hc := fun w4 (hE : Ext w3 w4) => Lib.hid (wcheck_gen ⟨kd', fr', tt', id', nm'⟩ v3 k3 ms3 KE w4 (hT3.ext hE) (hG3.mt.ext hE) (hG3.ks.ext hE) l1 l2)
      rw [msB_q, h1] at hc
      obtain ⟨a3, c3, rfl, _⟩ := hG3.mt.get
      obtain ⟨d3, f3, rfl, _⟩ := hG3.ks.get
      clear hpb h1 l1 l2 l3 hl2 hG3
      unfold hd7 at *
      simp only at hp hc ⊢
      obtain ⟨n3, hn3⟩ : ∃ n, n = ms3.length := ⟨_, rfl⟩
      obtain ⟨g3, hg3⟩ : ∃ n, n = KE.length := ⟨_, rfl⟩
      rw [← hn3, ← hg3] at hp hc ⊢
      clear hn3 hg3
      have hE4 : Ext w3 (w3.alloc (.cells #[.int .i64 kd', .int .i64 fr', .int .i64 tt', .int .i64 id', .slice a3 n3 c3, .slice d3 g3 f3, .int .i64 nm'] 25)) := (Ext.refl w3).alloc _
      have b4 := BoxAt.made w3 #[.int .i64 kd', .int .i64 fr', .int .i64 tt', .int .i64 id', .slice a3 n3 c3, .slice d3 g3 f3, .int .i64 nm'] 25
      have t5 : (s.toList == s.toList) = true := by simp
      go_wp2_with (first
        | (go_at_call 7; go_must (refine (hp _ hE4).out.mono ?_); rintro e w5 ⟨rfl, hE5⟩; have b5 := b4.ext hE5; have y0 : w5.cell? ⟨w3.heap.size, 0, none⟩ = some (.int .i64 kd') := b5.cell 0; have y1 : w5.cell? ⟨w3.heap.size, 1, none⟩ = some (.int .i64 fr') := b5.cell 1; have y2 : w5.cell? ⟨w3.heap.size, 2, none⟩ = some (.int .i64 tt') := b5.cell 2; have y3 : w5.cell? ⟨w3.heap.size, 3, none⟩ = some (.int .i64 id') := b5.cell 3; have y4 : w5.cell? ⟨w3.heap.size, 4, none⟩ = some (.slice a3 n3 c3) := b5.cell 4; have y5 : w5.cell? ⟨w3.heap.size, 5, none⟩ = some (.slice d3 g3 f3) := b5.cell 5; have y6 : w5.cell? ⟨w3.heap.size, 6, none⟩ = some (.int .i64 nm') := b5.cell 6)
        | (go_at_call 10; go_must (refine (hc _ (hE4.trans hE5)).out.mono ?_); rintro e w6 ⟨rfl, hE6⟩)
        | (go_at_call 6; go_must (refine (awake21_any _ (hT3.ext ((hE4.trans hE5).trans hE6))).mono ?_); rintro e w7 ⟨rfl, hE7⟩))
      go_ret
      exact ⟨rfl, (((hE03.trans hE4).trans hE5).trans hE6).trans hE7⟩
    · have hn := gx_none hq
      obtain ⟨cd, hcd⟩ : ∃ c, c = gxErr s := ⟨_, rfl⟩
      rw [← hcd] at hq ⊢
      rw [hn] at hG3 ⊢
      clear hcd hn
      have hS := fun w4 (hE : Ext w3 w4) => Lib.hid (sameMsg_any mg0.hd v3 (.slice none 0 0) k3 (.slice none 0 0) ms3 [] hG3.q [] w4 (hG3.mt.ext hE) (MtsIn.nil _) (hG3.ks.ext hE) (SliceIn.nil _))
      obtain ⟨a3, c3, rfl, _⟩ := hG3.mt.get
      obtain ⟨d3, f3, rfl, _⟩ := hG3.ks.get
      have d0 : (cd == 0) = false := by simpa using hq
      unfold hd7 mg0 at *
      simp only at hS ⊢
      obtain ⟨n3, hn3⟩ : ∃ n, n = ms3.length := ⟨_, rfl⟩
      rw [← hn3] at hS ⊢
      clear hn3 hG3 hq
      have hE4 : Ext w3 (w3.alloc (.cells #[.int .i64 0, .int .i64 0, .int .i64 0, .int .i64 0, .slice a3 n3 c3, .slice d3 ([] : List ByteArray).length f3, .int .i64 0] 25)) := (Ext.refl w3).alloc _
      go_wp2_with (first
        | (go_at_call 9; go_must (refine (hS _ hE4).out.mono ?_); rintro e w5 ⟨rfl, hE5⟩)
        | (go_at_call 6; go_must (refine (awake21_any _ (hT3.ext (hE4.trans hE5))).mono ?_); rintro e w7 ⟨rfl, hE7⟩))
      go_ret
      exact ⟨rfl, ((hE03.trans hE4).trans hE5).trans hE7⟩
theorem walk_wireBack (v0 : Value) (s : ByteArray) (W : World) (w0 : ∃ (m : Hd) (vm vk : Value) (M : List Mt) (K : List ByteArray), v0 = .agg (hd7 m vm vk) ∧ MtsIn W vm M ∧ TxIn W vk K ∧ (∀ m ∈ M, m.table.size ≤ maxLen) ∧ ∀ k ∈ K, k.size ≤ maxLen) (w1 : s.size ≤ maxLen) (hT : TabU W) :
    Calls Tryd.prog 3 #[v0, .string s] W fun e w' => e = .returned (.bool true) ∧ Ext W w' := by
  obtain ⟨m, vm, vk, M, K, rfl, hM, hK, _, hKb⟩ := w0
  exact law_wireBack m vm vk M K s W hM hK hKb w1 hT
end Go.Proofs.YtfagnbofnaoncaaDoor
