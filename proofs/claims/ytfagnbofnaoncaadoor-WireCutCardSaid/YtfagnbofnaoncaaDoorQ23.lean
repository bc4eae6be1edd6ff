/- How many bytes a partition of few rows takes. -/
import Derived.Test.YtfagnbofnaoncaaDoorQ14
import Derived.Test.YtfagnbofnaoncaaDoorQ17
import Derived.Test.YtfagnbofnaoncaaDoorQ19
import Derived.Test.YtfagnbofnaoncaaDoorQ20
import Derived.Test.YtfagnbofnaoncaaDoorQ21
import Derived.Test.YtfagnbofnaoncaaDoorQ22
import Derived.Deep.CutBlock
import Derived.Deep.CutRange
import Derived.Test.YtfagnbofnaoncaaDoorQ6
import Derived.Test.YtfagnbofnaoncaaDoorQ5
import Derived.Test.YtfagnbofnaoncaaDoorQ2
import Derived.Test.YtfagnbofnaoncaaDoorQ3
import Derived.Test.YtfagnbofnaoncaaDoorQ7
set_option linter.unusedSimpArgs false
set_option linter.unusedVariables false
namespace Go.Proofs.YtfagnbofnaoncaaDoor
open Go Go.RowKit
theorem cellP_few2 {c : Cl} (h : checkC c.val c.dead c.at_ c.fin = true) : (cellP c).length ≤ 128 := by
  rcases check_shape h with rfl | ⟨n, h0, h1, rfl⟩ | ⟨n, m, h0, h1, h2, h3, h4⟩
  · decide
  · have l1 := num_length (x := n) (by omega)
    unfold cellP
    simp only [Int.toNat_natCast]
    rw [if_neg (show ¬ (n : Int) = 0 by omega)]
    simp only [if_true, List.length_append, List.length_cons, List.length_nil]
    omega
  · have hok := checkC_ok h
    obtain ⟨g0, g1, g2, g3, g4⟩ := hok
    have l1 := num_length (x := c.at_.toNat) (by omega)
    have l2 := num_length (x := c.val.size) (by omega)
    have l3 := num_length (x := c.fin.toNat) (by omega)
    unfold cellP
    split
    · simp only [List.append_nil]; omega
    · split
      · simp only [List.length_append, List.length_cons, List.length_nil]; omega
      · simp only [List.length_append, List.length_cons, List.length_nil, dat_size]; omega
theorem rowP_few2 {r : Ro} (h : rwB r = true) : (rowP r).length ≤ 2500 := by
  have hok := rwB_ok h
  unfold rwB at h
  simp only [Bool.and_eq_true] at h
  obtain ⟨a, hl, _, _, _, _, g⟩ := hdB_parts h.1
  have a' := of_decide_eq_false a
  have g' := of_decide_eq_false g
  obtain ⟨h1, h2, h3, h4, h5, h6, h7, h8⟩ := hok
  have l1 := num_length (x := r.key.size) (by omega)
  have l2 := cellP_few2 hl
  have l3 := num_length (x := r.gone.toNat) (by omega)
  have l4 := num_length (x := r.shade.toNat) (by omega)
  have l5 := num_length (x := r.cols.length) (by omega)
  have l6 := flat_le (f := colP) (n := 237) (fun c hc => by
    obtain ⟨_, k1, k2, _⟩ := csB_ok h.2 c hc
    have m1 := nameB_size k1
    have m2 := cellP_few2 k2
    have m3 := num_length (x := c.name.size) (by omega)
    unfold colP
    simp only [List.length_append, dat_size]
    omega)
  unfold rowP
  simp only [List.length_append, dat_size]
  omega
theorem wholeP_few2 {k : ByteArray} {g : Int} {rs : List Ro} (h : ptB k g rs = true) : (wholeP k g rs).length ≤ 200 + rs.length * 2500 ∧ 3 ≤ (wholeP k g rs).length := by
  have hok := ptB_ok h
  unfold ptB at h
  simp only [Bool.and_eq_true, Bool.not_eq_true'] at h
  obtain ⟨⟨⟨⟨h0, _⟩, _⟩, h4⟩, h5⟩ := h
  have c := of_decide_eq_false h0
  obtain ⟨h1, h2, h3, _, _⟩ := hok
  have l1 := num_length (x := k.size) (by omega)
  have l3 := num_length (x := g.toNat) (by omega)
  have l5 := num_length (x := rs.length) (by have := of_decide_eq_false h4; omega)
  have l6 := flat_le (f := rowP) (fun c hc => rowP_few2 (rsB_ok h5 c hc))
  have n1 := num_ge k.size
  have n2 := num_ge g.toNat
  have n3 := num_ge rs.length
  unfold wholeP
  simp only [List.length_append, dat_size]
  constructor <;> omega
end Go.Proofs.YtfagnbofnaoncaaDoor

/- WireBack: the law's walk. -/
namespace Go.Proofs.YtfagnbofnaoncaaDoor
open Go Go.RowKit
attribute [local go_sem] yields yUpon

theorem few_lowW {rows : Int} {M : List Mt} (h : ∀ m ∈ M, FewM rows m) : ∀ x ∈ M, x.table.size ≤ 1000000 ∧ ∀ p ∈ x.pa.ps, ∀ c ∈ p.1.cols, c.name.size ≤ 1000000 := fun x hx => by
  obtain ⟨h1, h2, h3⟩ := h x hx
  refine ⟨by omega, fun p hp c hc => ?_⟩
  have := ((h3 p hp).each c hc).1
  omega
theorem few_wholeW {M : List Mt} (h : ∀ m ∈ M, FewM 10 m) : ∀ x ∈ M, okMt x = true → (wholeP x.pa.key x.pa.gone (x.pa.ps.map (·.1))).length ≤ 262144 := fun x hx hok => by
  obtain ⟨h1, h2, h3⟩ := h x hx
  unfold okMt at hok
  simp only [Bool.and_eq_true] at hok
  have := (wholeP_few2 hok.2).1
  rw [List.length_map] at this
  omega
/-- A message that was got may be put. -/
theorem got_low {m : Mg} (h : msQ m = true) {ms : List Mt} (hq : ms.map Mt.q = m.muts) (hl : (msgE m).length ≤ 262144) : (∀ x ∈ ms, x.table.size ≤ 1000000 ∧ ∀ p ∈ x.pa.ps, ∀ c ∈ p.1.cols, c.name.size ≤ 1000000) ∧ (∀ s ∈ m.keys, s.size ≤ 1000000) ∧ ∀ x ∈ ms, okMt x = true → (wholeP x.pa.key x.pa.gone (x.pa.ps.map (·.1))).length ≤ 262144 := by
  obtain ⟨_, _, _, _, _, _, _, h8, h9⟩ := msQ_parts h
  refine ⟨fun x hx => ?_, fun s hs => by have := h8 s hs; omega, fun x hx _ => ?_⟩
  · have hm : x.q ∈ m.muts := by rw [← hq]; exact List.mem_map_of_mem hx
    have ho := h9 _ hm
    unfold okMq Mt.q at ho
    simp only [Bool.and_eq_true] at ho
    have := nameB_size ho.1
    refine ⟨by omega, fun p hp c hc => ?_⟩
    have := (((ptB_ok ho.2).rows p.1 (List.mem_map_of_mem (f := (·.1)) hp)).cols c hc).name
    omega
  · have hm : x.q ∈ m.muts := by rw [← hq]; exact List.mem_map_of_mem hx
    have := whole_le hm
    unfold Mt.q at this
    simp only at this
    omega

set_option maxRecDepth 100000 in
set_option maxHeartbeats 16000000 in
theorem law_wireBack (m : Hd) (vm vk : Value) (M : List Mt) (K : List ByteArray) (s : ByteArray) (w : World) (hM : MtsIn w vm M) (hK : TxIn w vk K) (hKb : ∀ k ∈ K, k.size ≤ maxLen) (hs : s.size ≤ maxLen) (hT : TabU w) :
    Calls Tryd.prog 3 #[.agg (hd7 m vm vk), .string s] w fun e w' => e = .returned (.bool true) ∧ Ext w w' := by
  have b0 := BoxAt.made w (hd7 m vm vk) 25
  have hE0 := (Ext.refl w).alloc (.cells (hd7 m vm vk) 25)
  replace hM := hM.ext hE0
  replace hK := hK.ext hE0
  replace hT := hT.ext hE0
  have HKB := Lib.hid hKb
  unfold maxLen at hs
  obtain ⟨am, cm, rfl, _⟩ := hM.get
  obtain ⟨ak, ck, rfl, _⟩ := hK.get
  have hfew := few21_any m _ _ M K (w.alloc (.cells (hd7 m (.slice am M.length cm) (.slice ak K.length ck)) 25)) hM hK hKb
  obtain ⟨Q, hQ⟩ : ∃ Q, Q = putQ ⟨m, M.map Mt.q, K⟩ := ⟨_, rfl⟩
  have hput := fun (w1 : World) (hE : Ext (w.alloc (.cells (hd7 m (.slice am M.length cm) (.slice ak K.length ck)) 25)) w1) (h1 : ∀ x ∈ M, FewM 10 x) (h2 : ∀ k ∈ K, k.size ≤ 300) => Lib.hid (wput_any m _ _ M K w1 (hT.ext hE) (hM.ext hE) (hK.ext hE) (few_lowW h1) (fun x hx => by have := h2 x hx; omega) (few_wholeW h1))
  rw [← hQ] at hput
  have HGX := far (fun h => gx_put (m := ⟨m, M.map Mt.q, K⟩) h)
  have HGM := far (fun h => gx_more (m := ⟨m, M.map Mt.q, K⟩) h)
  have HSZ := far (fun h => (putQ_ok (m := ⟨m, M.map Mt.q, K⟩) h).2)
  rw [← hQ] at HGX HGM HSZ
  have HSame := Lib.hid (fun (w1 : World) (vb kb : Value) (ms : List Mt) (hE : Ext (w.alloc (.cells (hd7 m (.slice am M.length cm) (.slice ak K.length ck)) 25)) w1) (hG : GotW w1 vb kb ms ⟨m, M.map Mt.q, K⟩) => sameMsg_any m vb _ kb _ ms M hG.q K w1 hG.mt (hM.ext hE) hG.ks (hK.ext hE))
  clear hM hK hKb hQ
  obtain ⟨kd, fr, tt, id, nm⟩ := m
  unfold hd7 at *
  simp only at *
  obtain ⟨ml, hml⟩ : ∃ n, n = M.length := ⟨_, rfl⟩
  obtain ⟨kl, hkl⟩ : ∃ n, n = K.length := ⟨_, rfl⟩
  rw [← hml, ← hkl] at b0 hE0 hT hfew hput HSame ⊢
  clear hml hkl
  go_enter Tryd.func3, Tryd.ntmps3
  go_wp2_with fail
  obtain ⟨w0, hw0⟩ : ∃ w0, w0 = w.alloc (.cells #[.int .i64 kd, .int .i64 fr, .int .i64 tt, .int .i64 id, .slice am ml cm, .slice ak kl ck, .int .i64 nm] 25) := ⟨_, rfl⟩
  rw [← hw0] at b0 hE0 hT hfew hput HSame ⊢
  clear hw0
  refine hfew.mono ?_
  rintro e w1 ⟨F1, rfl, hF1, hE1⟩
  have HF1 := Lib.hid hF1
  clear hF1 hfew
  cases F1
  · go_wp2_with (go_at_call 6; go_must (refine (awake21_any _ (hT.ext hE1)).mono ?_); rintro e w7 ⟨rfl, hE7⟩)
    go_ret
    exact ⟨rfl, (hE0.trans hE1).trans hE7⟩
  cases hs3 : decide ((5000 : Int) < (s.size : Int))
  rotate_left
  · go_wp2_with (go_at_call 6; go_must (refine (awake21_any _ (hT.ext hE1)).mono ?_); rintro e w7 ⟨rfl, hE7⟩)
    go_ret
    exact ⟨rfl, (hE0.trans hE1).trans hE7⟩
  have hs50 : s.size ≤ 5000 := by simp at hs3; omega
  have HP := hput w1 hE1 (HF1.out rfl).2.2 (HF1.out rfl).1.2
  clear hput hs3
  have b1 := b0.ext hE1
  have x0 : w1.cell? ⟨w.heap.size, 0, none⟩ = some (.int .i64 kd) := b1.cell 0
  have x1 : w1.cell? ⟨w.heap.size, 1, none⟩ = some (.int .i64 fr) := b1.cell 1
  have x2 : w1.cell? ⟨w.heap.size, 2, none⟩ = some (.int .i64 tt) := b1.cell 2
  have x3 : w1.cell? ⟨w.heap.size, 3, none⟩ = some (.int .i64 id) := b1.cell 3
  have x4 : w1.cell? ⟨w.heap.size, 4, none⟩ = some (.slice am ml cm) := b1.cell 4
  have x5 : w1.cell? ⟨w.heap.size, 5, none⟩ = some (.slice ak kl ck) := b1.cell 5
  have x6 : w1.cell? ⟨w.heap.size, 6, none⟩ = some (.int .i64 nm) := b1.cell 6
  go_upto_if 30 with (go_at_call 7; go_must (refine HP.out.mono ?_); rintro e w2 ⟨rfl, hE2⟩)
  clear x0 x1 x2 x3 x4 x5 x6 b1
  have hw02 := hE1.trans hE2
  go_cut [] from 5 (fun wc => Ext w0 wc)
  case first =>
    by_cases hq : Q.2 = 0
    · obtain ⟨g1, g2⟩ := HGX.out hq
      have g3 := HGM.out hq
      have g4 := HSZ.out hq
      obtain ⟨A, z⟩ := Q
      simp only at hq g1 g2 g3 g4
      subst hq
      have hAz : A.size ≤ 4096 := by rw [g4.2, str_size]; exact g4.1
      obtain ⟨A2, hA2⟩ : ∃ A2, A2 = A ++ (⟨#[0]⟩ : ByteArray) := ⟨_, rfl⟩
      have hA2s : A2.size ≤ 4097 := by
        have := congrArg ByteArray.size hA2
        rw [ByteArray.size_append, show (⟨#[0]⟩ : ByteArray).size = 1 from rfl] at this
        omega
      rw [← hA2] at g3
      have HA2 := far hA2
      clear hA2
      have H1 := far g1
      have H2 := far g2
      have H3 := far g3
      clear g1 g2 g3 g4 HGX HGM HSZ
      go_wp2_with fail
      refine (wget_gen A w2 (hT.ext hw02) (by omega)).mono ?_
      rintro e w3 ⟨v3, k3, ms3, rfl, hG3, hE3⟩
      rw [H1.out, H2.out]
      rw [H2.out] at hG3
      simp only at hG3 ⊢
      have HS3 := HSame.out
      obtain ⟨a3, c3, rfl, _⟩ := hG3.mt.get
      obtain ⟨d3, f3, rfl, _⟩ := hG3.ks.get
      have hw03 := hw02.trans hE3
      have hE4 : Ext w3 (w3.alloc (.cells (hd7 ⟨kd, fr, tt, id, nm⟩ (.slice a3 ms3.length c3) (.slice d3 K.length f3)) 25)) := (Ext.refl w3).alloc _
      have b4 := BoxAt.made w3 (hd7 ⟨kd, fr, tt, id, nm⟩ (.slice a3 ms3.length c3) (.slice d3 K.length f3)) 25
      unfold hd7 at b4 hE4 ⊢
      simp only at b4 hE4 ⊢
      go_wp2_with fail
      have hw04 := hw03.trans hE4
      rw [← HA2.out]
      refine (wget_gen A2 _ (hT.ext hw04) (by omega)).mono ?_
      rintro e w5 ⟨v5, k5, ms5, rfl, hG5, hE5⟩
      have HM2 : Far (gxMg A2 = mg0) := far (gx_none (fun h0 => by rcases H3.out with h | ⟨h, _⟩ <;> omega))
      rw [HM2.out] at hG5 ⊢
      obtain ⟨a5, c5, rfl, _⟩ := hG5.mt.get
      obtain ⟨d5, f5, rfl, _⟩ := hG5.ks.get
      have hw05 := hw04.trans hE5
      have b5 := b4.ext hE5
      have b05 := b0.ext hw05
      obtain ⟨cd, hcd⟩ : ∃ c, c = gxErr A2 := ⟨_, rfl⟩
      rw [← hcd] at H3 ⊢
      clear hcd HM2
      unfold hd7 mg0
      simp only
      have hE6 : ∀ o, Ext w5 (w5.alloc o) := fun o => (Ext.refl w5).alloc o
      have y0 := fun o => b5.allocs o 0
      have y1 := fun o => b5.allocs o 1
      have y2 := fun o => b5.allocs o 2
      have y3 := fun o => b5.allocs o 3
      have y4 := fun o => b5.allocs o 4
      have y5 := fun o => b5.allocs o 5
      have y6 := fun o => b5.allocs o 6
      have x0 := fun o => b05.allocs o 0
      have x1 := fun o => b05.allocs o 1
      have x2 := fun o => b05.allocs o 2
      have x3 := fun o => b05.allocs o 3
      have x4 := fun o => b05.allocs o 4
      have x5 := fun o => b05.allocs o 5
      have x6 := fun o => b05.allocs o 6
      simp at y0 y1 y2 y3 y4 y5 y6 x0 x1 x2 x3 x4 x5 x6
      have hG7 := fun o => hG3.ext ((hE4.trans hE5).trans (hE6 o))
      rcases H3.out with rfl | ⟨rfl, hA4⟩
      · go_wp2_with (go_at_call 9; go_must (refine (HS3 _ _ _ ms3 (hw05.trans (hE6 _)) (hG7 _)).mono ?_); rintro e w7 ⟨rfl, hE7⟩)
        go_meet
        case rel => exact (hw05.trans (hE6 _)).trans hE7
      · have t4 : ¬ (A.size : Int) < 4096 := by omega
        go_wp2_with (go_at_call 9; go_must (refine (HS3 _ _ _ ms3 (hw05.trans (hE6 _)) (hG7 _)).mono ?_); rintro e w7 ⟨rfl, hE7⟩)
        go_meet
        case rel => exact (hw05.trans (hE6 _)).trans hE7
    · have d0 : (Q.2 == 0) = false := by simpa using hq
      go_wp2_with fail
      go_meet
      case rel => exact hw02
  case rest =>
    have hTc := hT.ext hcut
    have hEc := hE0.trans hcut
    clear HP HSame HGX HGM HSZ hw02
    go_wp2_with fail
    refine (wget_gen s wc hTc (by omega)).mono ?_
    rintro e w3 ⟨v3, k3, ms3, rfl, hG3, hE3⟩
    have hT3 := hTc.ext hE3
    have hE03 := hEc.trans hE3
    by_cases hq : gxErr s = 0
    · have hpb := putQ_back hq
      obtain ⟨h1, h2, h3⟩ := gx_back hq
      rw [hq]
      have hl2 := congrArg List.length h2
      rw [dat_size] at hl2
      obtain ⟨X, hX⟩ : ∃ X, X = gxMg s := ⟨_, rfl⟩
      rw [← hX] at hG3 hpb h1 h2 hl2 ⊢
      obtain ⟨l1, l2, l3⟩ := got_low h1 hG3.q (by omega)
      clear hX h2 hq
      obtain ⟨⟨kd', fr', tt', id', nm'⟩, MU, KE⟩ := X
      have hmq : ms3.map Mt.q = MU := hG3.q
      subst hmq
      simp only at hG3 l2 hpb h1 ⊢
      have hp := fun w4 (hE : Ext w3 w4) => Lib.hid (wput_any ⟨kd', fr', tt', id', nm'⟩ v3 k3 ms3 KE w4 (hT3.ext hE) (hG3.mt.ext hE) (hG3.ks.ext hE) l1 l2 l3)
      rw [hpb] at hp
      have hc := fun w4 (hE : Ext w3 w4) => Lib.hid (wcheck_gen ⟨kd', fr', tt', id', nm'⟩ v3 k3 ms3 KE w4 (hT3.ext hE) (hG3.mt.ext hE) (hG3.ks.ext hE) l1 l2)
      rw [msB_q, h1] at hc
      obtain ⟨a3, c3, rfl, _⟩ := hG3.mt.get
      obtain ⟨d3, f3, rfl, _⟩ := hG3.ks.get
      clear hpb h1 l1 l2 l3 hl2 hG3
      unfold hd7 at *
      simp only at hp hc ⊢
      obtain ⟨n3, hn3⟩ : ∃ n, n = ms3.length := ⟨_, rfl⟩
      obtain ⟨g3, hg3⟩ : ∃ n, n = KE.length := ⟨_, rfl⟩
      rw [← hn3, ← hg3] at hp hc ⊢
      clear hn3 hg3
      have hE4 : Ext w3 (w3.alloc (.cells #[.int .i64 kd', .int .i64 fr', .int .i64 tt', .int .i64 id', .slice a3 n3 c3, .slice d3 g3 f3, .int .i64 nm'] 25)) := (Ext.refl w3).alloc _
      have b4 := BoxAt.made w3 #[.int .i64 kd', .int .i64 fr', .int .i64 tt', .int .i64 id', .slice a3 n3 c3, .slice d3 g3 f3, .int .i64 nm'] 25
      have t5 : (s.toList == s.toList) = true := by simp
      go_wp2_with (first
        | (go_at_call 7; go_must (refine (hp _ hE4).out.mono ?_); rintro e w5 ⟨rfl, hE5⟩; have b5 := b4.ext hE5; have y0 : w5.cell? ⟨w3.heap.size, 0, none⟩ = some (.int .i64 kd') := b5.cell 0; have y1 : w5.cell? ⟨w3.heap.size, 1, none⟩ = some (.int .i64 fr') := b5.cell 1; have y2 : w5.cell? ⟨w3.heap.size, 2, none⟩ = some (.int .i64 tt') := b5.cell 2; have y3 : w5.cell? ⟨w3.heap.size, 3, none⟩ = some (.int .i64 id') := b5.cell 3; have y4 : w5.cell? ⟨w3.heap.size, 4, none⟩ = some (.slice a3 n3 c3) := b5.cell 4; have y5 : w5.cell? ⟨w3.heap.size, 5, none⟩ = some (.slice d3 g3 f3) := b5.cell 5; have y6 : w5.cell? ⟨w3.heap.size, 6, none⟩ = some (.int .i64 nm') := b5.cell 6)
        | (go_at_call 10; go_must (refine (hc _ (hE4.trans hE5)).out.mono ?_); rintro e w6 ⟨rfl, hE6⟩)
        | (go_at_call 6; go_must (refine (awake21_any _ (hT3.ext ((hE4.trans hE5).trans hE6))).mono ?_); rintro e w7 ⟨rfl, hE7⟩))
      go_ret
      exact ⟨rfl, (((hE03.trans hE4).trans hE5).trans hE6).trans hE7⟩
    · have hn := gx_none hq
      obtain ⟨cd, hcd⟩ : ∃ c, c = gxErr s := ⟨_, rfl⟩
      rw [← hcd] at hq ⊢
      rw [hn] at hG3 ⊢
      clear hcd hn
      have hS := fun w4 (hE : Ext w3 w4) => Lib.hid (sameMsg_any mg0.hd v3 (.slice none 0 0) k3 (.slice none 0 0) ms3 [] hG3.q [] w4 (hG3.mt.ext hE) (MtsIn.nil _) (hG3.ks.ext hE) (SliceIn.nil _))
      obtain ⟨a3, c3, rfl, _⟩ := hG3.mt.get
      obtain ⟨d3, f3, rfl, _⟩ := hG3.ks.get
      have d0 : (cd == 0) = false := by simpa using hq
      unfold hd7 mg0 at *
      simp only at hS ⊢
      obtain ⟨n3, hn3⟩ : ∃ n, n = ms3.length := ⟨_, rfl⟩
      rw [← hn3] at hS ⊢
      clear hn3 hG3 hq
      have hE4 : Ext w3 (w3.alloc (.cells #[.int .i64 0, .int .i64 0, .int .i64 0, .int .i64 0, .slice a3 n3 c3, .slice d3 ([] : List ByteArray).length f3, .int .i64 0] 25)) := (Ext.refl w3).alloc _
      go_wp2_with (first
        | (go_at_call 9; go_must (refine (hS _ hE4).out.mono ?_); rintro e w5 ⟨rfl, hE5⟩)
        | (go_at_call 6; go_must (refine (awake21_any _ (hT3.ext (hE4.trans hE5))).mono ?_); rintro e w7 ⟨rfl, hE7⟩))
      go_ret
      exact ⟨rfl, ((hE03.trans hE4).trans hE5).trans hE7⟩
theorem walk_wireBack (v0 : Value) (s : ByteArray) (W : World) (w0 : ∃ (m : Hd) (vm vk : Value) (M : List Mt) (K : List ByteArray), v0 = .agg (hd7 m vm vk) ∧ MtsIn W vm M ∧ TxIn W vk K ∧ (∀ m ∈ M, m.table.size ≤ maxLen) ∧ ∀ k ∈ K, k.size ≤ maxLen) (w1 : s.size ≤ maxLen) (hT : TabU W) :
    Calls Tryd.prog 3 #[v0, .string s] W fun e w' => e = .returned (.bool true) ∧ Ext W w' := by
  obtain ⟨m, vm, vk, M, K, rfl, hM, hK, _, hKb⟩ := w0
  exact law_wireBack m vm vk M K s W hM hK hKb w1 hT
end Go.Proofs.YtfagnbofnaoncaaDoor

/- What makes things by numbers: L.Next, L.Cell. -/
namespace Go.Proofs.YtfagnbofnaoncaaDoor
open Go Go.RowKit
attribute [local go_sem] yields yUpon

/-- The next number, the numbers behind it. -/
def nextN (l : List Int) (n : Int) : Int := match l with | [] => 0 | x :: _ => x % n
theorem IntsIn.block {w : World} {v : Value} {k : IntKind} {l : List Int} (h : IntsIn w v k l) : ∃ a c, v = .slice a l.length c ∧ l.length ≤ c ∧ c ≤ maxLen ∧ (a = none → c = 0) := by
  obtain ⟨a, c, h1, h2, h3, h4, _⟩ := h
  exact ⟨a, c, h1, h2, h3, h4⟩

theorem ints_tail {W : World} {b o c : Nat} {x : Int} {l : List Int} {k : IntKind} (hcm : c ≤ maxLen) (hcell : ∀ j u, (kcells k (x :: l))[j]? = some u → ∃ b' o', (some ⟨b, o, none⟩ : Option Addr) = some ⟨b', o', none⟩ ∧ W.cell? ⟨b', o' + j, none⟩ = some u) (hc : l.length + 1 ≤ c) :
    IntsIn W (.slice (some ⟨b, o + 1, none⟩) l.length (c - 1)) k l :=
  ⟨_, c - 1, rfl, by omega, by omega, nofun, fun j u hj => by
    obtain ⟨b', o', e, hc⟩ := hcell (j + 1) u (by simpa [kcells] using hj)
    cases e
    exact ⟨b, o + 1, rfl, by rw [show o + 1 + j = o + (j + 1) by omega]; exact hc⟩⟩

set_option maxHeartbeats 400000 in
theorem next_any (W : World) (p : Nat) (hp : W.heap.size ≤ p) (v : Value) (x : Int) (l : List Int) (hin : IntsIn W v .i64 (x :: l)) (n : Int) (h1 : 1 ≤ n) (h2 : n ≤ 9223372036854775807)
    (w : World) (hE : Ext W w) (hv : w.heap[p]? = some (.cells #[v] 67 (0, 0))) :
    Calls Tryd.prog 33 #[.pointer (some ⟨p, 0, none⟩), .int .i64 n] w fun e w' => e = .returned (.int .i64 (x % n)) ∧ ∃ v', w' = w.setCell ⟨p, 0, none⟩ v' ∧ IntsIn W v' .i64 l := by
  obtain ⟨a, c, rfl, hc, hcm, ha, hcell⟩ := hin
  obtain ⟨b, o, rfl, h0⟩ := hcell 0 (.int .i64 x) (by simp [kcells])
  have c0 := var_cell hv 0
  have f0 := var_free hv 0
  simp at c0
  have g0 := hE.cell h0
  simp at g0 hc
  unfold maxLen at hcm
  have HC := Lib.hid hcell
  clear hcell ha h0
  go_enter Tryd.func33, Tryd.ntmps33
  go_wp2_with fail
  refine (place_any _ _ h1 h2 _).mono ?_
  rintro e w1 ⟨rfl, rfl⟩
  go_wp2_with fail
  · subst h
    obtain rfl : l = [] := List.eq_nil_of_length_eq_zero (by omega)
    go_ret
    exact ⟨rfl, _, rfl, ⟨_, 0, rfl, Nat.le_refl _, Nat.zero_le _, nofun, fun j u hj => by simp [kcells] at hj⟩⟩
  · go_ret
    exact ⟨rfl, _, rfl, ints_tail (by unfold maxLen; omega) HC.out hc⟩

/-- A cell by a number. -/
def cellN (v : Int) : Cl := if v / 7 % 4 = 0 then ⟨⟨#[]⟩, true, 1 + v % 7, 0⟩ else ⟨(⟨#[120, 121, 122]⟩ : ByteArray).extract (v / 28 % 3).toNat (v / 28 % 3 + 1).toNat, false, 1 + v % 7, if v / 84 % 4 = 0 then 1 + v / 336 % 10 else 0⟩

set_option maxHeartbeats 1000000 in
theorem lcell_any (W : World) (p : Nat) (hp : W.heap.size ≤ p) (v : Value) (x : Int) (l : List Int) (hin : IntsIn W v .i64 (x :: l))
    (w : World) (hE : Ext W w) (hv : w.heap[p]? = some (.cells #[v] 67 (0, 0))) :
    Calls Tryd.prog 42 #[.pointer (some ⟨p, 0, none⟩)] w fun e w' => e = .returned (.agg #[.string (cellN (x % 1048576)).val, .bool (cellN (x % 1048576)).dead, .int .i64 (cellN (x % 1048576)).at_, .int .i64 (cellN (x % 1048576)).fin]) ∧ ∃ v', Ext (w.setCell ⟨p, 0, none⟩ v') w' ∧ IntsIn W v' .i64 l := by
  have hpl : p < w.heap.size := (Array.getElem?_eq_some_iff.1 hv).1
  obtain ⟨N, hN⟩ : ∃ N, N = x % 1048576 := ⟨_, rfl⟩
  have N0 : 0 ≤ N := by omega
  have N1 : N < 1048576 := by omega
  rw [← hN]
  have HN := Lib.hid hN
  clear hN
  go_enter Tryd.func42, Tryd.ntmps42
  go_wp2_with fail
  refine (next_any W p hp v x l hin _ (by omega) (by omega) _ (hE.alloc _) (by rw [((Ext.refl w).alloc _).block p hpl]; exact hv)).mono ?_
  rw [← HN.out]
  rintro e w1 ⟨rfl, v', rfl, hin'⟩
  by_cases k1 : N / 7 % 4 = 0
  · have h1 : (N / 7 % 4 == 0) = true := by simpa using k1
    go_wp2
    have e1 : cellN N = ⟨⟨#[]⟩, true, 1 + N % 7, 0⟩ := by unfold cellN; rw [if_pos k1]
    rw [e1]
    refine bodyPost_ret (v := (.agg #[.string (⟨⟨#[]⟩, true, 1 + N % 7, 0⟩ : Cl).val, .bool (⟨⟨#[]⟩, true, 1 + N % 7, 0⟩ : Cl).dead, .int .i64 (⟨⟨#[]⟩, true, 1 + N % 7, 0⟩ : Cl).at_, .int .i64 (⟨⟨#[]⟩, true, 1 + N % 7, 0⟩ : Cl).fin])) (by simp [results, Tryd.results42, go_sem]) rfl ⟨rfl, v', ((Ext.refl _).alloc _).alloc _, hin'⟩
  · have h1 : (N / 7 % 4 == 0) = false := by simpa using k1
    by_cases k2 : N / 84 % 4 = 0
    · have h2 : (N / 84 % 4 == 0) = true := by simpa using k2
      go_wp2
      have e1 : cellN N = ⟨(⟨#[120, 121, 122]⟩ : ByteArray).extract (N / 28 % 3).toNat (N / 28 % 3 + 1).toNat, false, 1 + N % 7, 1 + N / 336 % 10⟩ := by unfold cellN; rw [if_neg k1, if_pos k2]
      rw [e1]
      refine bodyPost_ret (v := (.agg #[.string (⟨(⟨#[120, 121, 122]⟩ : ByteArray).extract (N / 28 % 3).toNat (N / 28 % 3 + 1).toNat, false, 1 + N % 7, 1 + N / 336 % 10⟩ : Cl).val, .bool (⟨(⟨#[120, 121, 122]⟩ : ByteArray).extract (N / 28 % 3).toNat (N / 28 % 3 + 1).toNat, false, 1 + N % 7, 1 + N / 336 % 10⟩ : Cl).dead, .int .i64 (⟨(⟨#[120, 121, 122]⟩ : ByteArray).extract (N / 28 % 3).toNat (N / 28 % 3 + 1).toNat, false, 1 + N % 7, 1 + N / 336 % 10⟩ : Cl).at_, .int .i64 (⟨(⟨#[120, 121, 122]⟩ : ByteArray).extract (N / 28 % 3).toNat (N / 28 % 3 + 1).toNat, false, 1 + N % 7, 1 + N / 336 % 10⟩ : Cl).fin])) (by simp [results, Tryd.results42, go_sem]) rfl ⟨rfl, v', ((Ext.refl _).alloc _).alloc _, hin'⟩
    · have h2 : (N / 84 % 4 == 0) = false := by simpa using k2
      go_wp2
      have e1 : cellN N = ⟨(⟨#[120, 121, 122]⟩ : ByteArray).extract (N / 28 % 3).toNat (N / 28 % 3 + 1).toNat, false, 1 + N % 7, 0⟩ := by unfold cellN; rw [if_neg k1, if_neg k2]
      rw [e1]
      refine bodyPost_ret (v := (.agg #[.string (⟨(⟨#[120, 121, 122]⟩ : ByteArray).extract (N / 28 % 3).toNat (N / 28 % 3 + 1).toNat, false, 1 + N % 7, 0⟩ : Cl).val, .bool (⟨(⟨#[120, 121, 122]⟩ : ByteArray).extract (N / 28 % 3).toNat (N / 28 % 3 + 1).toNat, false, 1 + N % 7, 0⟩ : Cl).dead, .int .i64 (⟨(⟨#[120, 121, 122]⟩ : ByteArray).extract (N / 28 % 3).toNat (N / 28 % 3 + 1).toNat, false, 1 + N % 7, 0⟩ : Cl).at_, .int .i64 (⟨(⟨#[120, 121, 122]⟩ : ByteArray).extract (N / 28 % 3).toNat (N / 28 % 3 + 1).toNat, false, 1 + N % 7, 0⟩ : Cl).fin])) (by simp [results, Tryd.results42, go_sem]) rfl ⟨rfl, v', ((Ext.refl _).alloc _).alloc _, hin'⟩

/-! ### The same, whether or not numbers are left -/
theorem grownBy_set {w : World} (p : Nat) (v : Value) : w.grownBy (w.setCell ⟨p, 0, none⟩ v) (some p) :=
  ⟨rfl, rfl, rfl, by rw [Deep.nblk_setCell]; exact Nat.le_refl _, fun k _ hne => Deep.blk_setCell_other _ _ _ _ (fun e => hne (by rw [e]))⟩
theorem grownBy_refl (w : World) (r : Option Nat) : w.grownBy w r := ⟨rfl, rfl, rfl, Nat.le_refl _, fun _ _ _ => rfl⟩
theorem grownBy_ext {a b c : World} {r : Option Nat} (h : a.grownBy b r) (hE : Ext b c) : a.grownBy c r :=
  ⟨hE.os.trans h.os, hE.tape.trans h.tape, hE.output.trans h.output, Nat.le_trans h.size hE.size, fun k hk hne => (hE.block k (Nat.lt_of_lt_of_le hk h.size)).trans (h.block k hk hne)⟩
theorem ext_grownBy {a b c : World} {r : Option Nat} (hE : Ext a b) (h : b.grownBy c r) : a.grownBy c r :=
  ⟨h.os.trans hE.os, h.tape.trans hE.tape, h.output.trans hE.output, Nat.le_trans hE.size h.size, fun k hk hne => (h.block k (Nat.lt_of_lt_of_le hk hE.size) hne).trans (hE.block k hk)⟩
theorem grownBy_trans {a b c : World} {r : Option Nat} (h : a.grownBy b r) (k : b.grownBy c r) : a.grownBy c r :=
  ⟨k.os.trans h.os, k.tape.trans h.tape, k.output.trans h.output, Nat.le_trans h.size k.size, fun i hi hne => (k.block i (Nat.lt_of_lt_of_le hi h.size) hne).trans (h.block i hi hne)⟩

set_option maxHeartbeats 400000 in
theorem next_gen (W : World) (p : Nat) (hp : W.heap.size ≤ p) (v : Value) (l : List Int) (hin : IntsIn W v .i64 l) (n : Int) (h1 : 1 ≤ n) (h2 : n ≤ 9223372036854775807)
    (w : World) (hE : Ext W w) (hv : BoxAt w p #[v] 67) :
    Calls Tryd.prog 33 #[.pointer (some ⟨p, 0, none⟩), .int .i64 n] w fun e w' => e = .returned (.int .i64 (nextN l n)) ∧ w.grownBy w' (some p) ∧ ∃ v', BoxAt w' p #[v'] 67 ∧ IntsIn W v' .i64 l.tail := by
  cases l with
  | cons x l =>
    refine (next_any W p hp v x l hin n h1 h2 w hE hv).mono ?_
    rintro e w' ⟨rfl, v', rfl, hin'⟩
    exact ⟨rfl, grownBy_set p v', v', hv.set 0 v', hin'⟩
  | nil =>
    have hin0 := hin
    obtain ⟨a, c, rfl, hc, hcm, ha⟩ := hin.block
    have c0 := hv.cell 0
    simp at c0
    go_enter Tryd.func33, Tryd.ntmps33
    go_wp2
    go_ret
    exact ⟨rfl, grownBy_refl w _, _, hv, hin0⟩
end Go.Proofs.YtfagnbofnaoncaaDoor

/- Rows by numbers: L.Cell whatever numbers are left; Names. -/
namespace Go.Proofs.YtfagnbofnaoncaaDoor
open Go Go.RowKit
attribute [local go_sem] yields yUpon

theorem next_nil (p : Nat) (w : World) (hv : BoxAt w p #[.slice none 0 0] 67) (n : Int) :
    Calls Tryd.prog 33 #[.pointer (some ⟨p, 0, none⟩), .int .i64 n] w fun e w' => e = .returned (.int .i64 0) ∧ w = w' := by
  have c0 := hv.cell 0
  simp at c0
  go_enter Tryd.func33, Tryd.ntmps33
  go_wp2
  go_ret
  exact ⟨rfl, rfl⟩
theorem next_nil' (W : World) (p : Nat) (v : Value) (hin : IntsIn W v .i64 []) (w : World) (hv : BoxAt w p #[v] 67) (n : Int) :
    Calls Tryd.prog 33 #[.pointer (some ⟨p, 0, none⟩), .int .i64 n] w fun e w' => e = .returned (.int .i64 0) ∧ w = w' := by
  obtain ⟨a, c, rfl, hc, hcm, ha⟩ := hin.block
  have c0 := hv.cell 0
  simp at c0
  go_enter Tryd.func33, Tryd.ntmps33
  go_wp2
  go_ret
  exact ⟨rfl, rfl⟩

set_option maxHeartbeats 1000000 in
theorem lcell_nil (W : World) (p : Nat) (v : Value) (hin : IntsIn W v .i64 []) (w : World) (hv : BoxAt w p #[v] 67) :
    Calls Tryd.prog 42 #[.pointer (some ⟨p, 0, none⟩)] w fun e w' => e = .returned (.agg #[.string (cellN 0).val, .bool (cellN 0).dead, .int .i64 (cellN 0).at_, .int .i64 (cellN 0).fin]) ∧ Ext w w' := by
  go_enter Tryd.func42, Tryd.ntmps42
  go_wp2_with fail
  refine (next_nil' W p v hin _ (hv.ext ((Ext.refl _).alloc _)) _).mono ?_
  rintro e w1 ⟨rfl, rfl⟩
  go_wp2
  refine bodyPost_ret (v := (.agg #[.string (cellN 0).val, .bool (cellN 0).dead, .int .i64 (cellN 0).at_, .int .i64 (cellN 0).fin])) (by simp [results, Tryd.results42, go_sem, cellN]) rfl ⟨rfl, ((Ext.refl _).alloc _).alloc _⟩

/-- The numbers that are left: any. -/
def LeftIn (W w : World) (p : Nat) : Prop := ∃ v l, BoxAt w p #[v] 67 ∧ IntsIn W v .i64 l

theorem lcell_ex (W : World) (p : Nat) (hp : W.heap.size ≤ p) (w : World) (hE : Ext W w) (hL : LeftIn W w p) :
    Calls Tryd.prog 42 #[.pointer (some ⟨p, 0, none⟩)] w fun e w' => ∃ n : Int, 0 ≤ n ∧ e = .returned (.agg #[.string (cellN n).val, .bool (cellN n).dead, .int .i64 (cellN n).at_, .int .i64 (cellN n).fin]) ∧ w.grownBy w' (some p) ∧ LeftIn W w' p := by
  obtain ⟨v, l, hv, hin⟩ := hL
  cases l with
  | nil =>
    refine (lcell_nil W p v hin w hv).mono ?_
    rintro e w' ⟨rfl, hX⟩
    exact ⟨0, Int.le_refl 0, rfl, grownBy_ext (grownBy_refl w _) hX, v, [], hv.ext hX, hin⟩
  | cons x l =>
    refine (lcell_any W p hp v x l hin w hE hv).mono ?_
    rintro e w' ⟨rfl, v', hX, hin'⟩
    exact ⟨x % 1048576, by omega, rfl, grownBy_ext (grownBy_set p v') hX, v', l, (hv.set 0 v').ext hX, hin'⟩
theorem next_ex (W : World) (p : Nat) (hp : W.heap.size ≤ p) (w : World) (hE : Ext W w) (hL : LeftIn W w p) :
    Calls Tryd.prog 33 #[.pointer (some ⟨p, 0, none⟩), .int .i64 1048576] w fun e w' => ∃ n : Int, 0 ≤ n ∧ n < 1048576 ∧ e = .returned (.int .i64 n) ∧ w.grownBy w' (some p) ∧ LeftIn W w' p := by
  obtain ⟨v, l, hv, hin⟩ := hL
  refine (next_gen W p hp v l hin 1048576 (by omega) (by omega) w hE hv).mono ?_
  rintro e w' ⟨rfl, hg, v', hb, hin'⟩
  refine ⟨nextN l 1048576, ?_, ?_, rfl, hg, v', l.tail, hb, hin'⟩
  · cases l with
    | nil => exact Int.le_refl 0
    | cons x l => show 0 ≤ x % 1048576; omega
  · cases l with
    | nil => show (0 : Int) < 1048576; omega
    | cons x l => show x % 1048576 < 1048576; omega

/-- The names of columns. -/
def nm4 : Array Value := #[.string ⟨#[97]⟩, .string ⟨#[98]⟩, .string ⟨#[99]⟩, .string ⟨#[100]⟩]
set_option maxHeartbeats 1000000 in
theorem names_any (w : World) :
    Calls Tryd.prog 41 #[] w fun e w' => e = .returned (.slice (some ⟨w.heap.size, 0, none⟩) 4 4) ∧ w' = w.alloc (.cells nm4 9) := by
  go_enter Tryd.func41, Tryd.ntmps41
  go_wp2
  go_ret
  exact ⟨rfl, rfl⟩

def nmK : Nat → ByteArray
  | 0 => ⟨#[97]⟩
  | 1 => ⟨#[98]⟩
  | 2 => ⟨#[99]⟩
  | _ => ⟨#[100]⟩
/-- Columns by numbers, of the first so many names. -/
inductive GenCols : Nat → List Co → Prop
  | nil : GenCols 0 []
  | skip {k l} : GenCols k l → GenCols (k + 1) l
  | put {k l} {n : Int} : GenCols k l → 0 ≤ n → GenCols (k + 1) (l ++ [⟨nmK k, cellN n⟩])
theorem GenCols.len {k : Nat} {l : List Co} (h : GenCols k l) : l.length ≤ k := by
  induction h with
  | nil => exact Nat.le_refl 0
  | skip _ ih => omega
  | put _ _ ih => simp; omega
end Go.Proofs.YtfagnbofnaoncaaDoor
