/- DeltaSteps: a view that mirrors a base mirrors it behind one more mutation: the law's walk. -/
import Derived.Test.YteamiiekpjoclaaM29
import Derived.Test.YteamiiekpjoclaaM32
import Derived.Test.YteamiiekpjoclaaM33
import Derived.Test.YteamiiekpjoclaaM34
import Derived.Test.YteamiiekpjoclaaM35
namespace Go.Proofs.Yteamiiekpjoclaa
open Go Go.RowKit
attribute [local go_sem] yields yUpon ro8 pa3 vw5 tabV viewV

theorem ik_small9 (i : Nat) (h : i < 4) : (ik i).size ≤ 10 ∧ (vkey ⟨#[109]⟩ (ik i)).size ≤ 400 := by
  obtain rfl | rfl | rfl | rfl : i = 0 ∨ i = 1 ∨ i = 2 ∨ i = 3 := by omega
  all_goals decide
theorem nmK_size (j : Nat) (h : j < 4) : (nmK j).size ≤ 300 := by
  obtain rfl | rfl | rfl | rfl : j = 0 ∨ j = 1 ∨ j = 2 ∨ j = 3 := by omega
  all_goals decide
theorem parts_keep {x y : World} {v : Value} {L : List Pa} {vo : Value} {B n : Nat} {xs : List Value} (hown : x.ownsRow B 39 3 vo n xs) (hg : x.grownBy y vo.ownBlock) (h : PartsT x v L) (hne : ∀ q, v.ownBlock = some q → vo.ownBlock ≠ some q) : PartsT y v L := by
  refine ⟨?_, fun p hp => (h.rows p hp).keepOwn hown hg (by decide) (by decide)⟩
  rcases h.tin with ⟨rfl, h2, h3⟩ | ⟨b, c, Z, rfl, hb, h4⟩
  · exact .inl ⟨rfl, h2, h3⟩
  · exact .inr ⟨b, c, Z, rfl, hb.grown hg (fun e => hne b rfl e.symm), h4⟩
theorem outP_at {L : List Pa} {l : List (ByteArray × Ro)} (h : L.map Pa.data = outP l) : L.length = l.length ∧ ∀ (k : Nat) (h1 : k < L.length) (h2 : k < l.length), L[k].key = l[k].1 ∧ L[k].gone = 0 ∧ L[k].ps.map (·.1) = [l[k].2] := by
  have hl : L.length = l.length := by have := congrArg List.length h; simpa [outP] using this
  refine ⟨hl, fun k h1 h2 => ?_⟩
  have : (L.map Pa.data)[k]'(by simpa using h1) = (outP l)[k]'(by simpa [outP] using h2) := by congr 1
  simp only [outP, List.getElem_map, Pa.data, Prod.mk.injEq] at this
  exact this
theorem viL_mem {L : List Pa} {q : Pa} (h : q ∈ L) : (q.key, q.ps.map (·.1)) ∈ viL L := List.mem_map_of_mem h
/-- What put19 asks, of a view on its way. -/
theorem way_put {L : List Pa} {N : Nat} (h : OnWay (viL L) N) (hN : N ≤ 49) : L.length ≤ 1000 ∧ (∀ q ∈ L, GoodRs (q.ps.map (·.1))) ∧ (∀ q ∈ L, ∀ p ∈ q.ps, p.1.cols.length ≤ 1000) ∧ ∀ q ∈ L, q.ps.length ≤ 99 := by
  refine ⟨?_, fun q hq => h.good _ (viL_mem hq), fun q hq p hp => ?_, fun q hq => ?_⟩
  · have := h.bnd.len
    unfold viL at this
    rw [List.length_map] at this
    omega
  · have := h.bnd.cols _ (viL_mem hq) p.1 (List.mem_map_of_mem hp)
    omega
  · have := h.bnd.rows _ (viL_mem hq)
    simp only [List.length_map] at this
    omega

set_option maxRecDepth 100000 in
set_option maxHeartbeats 16000000 in
theorem law_deltaSteps (v0 : Value) (z : List Int) (mk : ByteArray) (mg : Int) (mu : Value) (ms : List (Ro × Value)) (now : Int) (w : World) (hin : IntsIn w v0 .i64 z) (hz : z.length ≤ 60) (hm : RowsIn w mu ms) :
    Calls Try.prog 4 #[v0, .agg #[.string mk, .int .i64 mg, mu], .int .i64 now] w fun e w' => e = .returned (.bool true) ∧ Ext w w' := by
  obtain ⟨a, c, rfl, hc, hcm, ha⟩ := hin.block
  obtain ⟨am, cm, rfl, _⟩ := hm.get
  obtain ⟨nm, hnm⟩ : ∃ nm, nm = ms.length := ⟨_, rfl⟩
  rw [← hnm] at hm ⊢
  have HNM := Lib.hid hnm
  clear hnm
  have a4 := BoxAt.made w (pa3 mk mg (.slice am nm cm)) 39
  have hE0 := (Ext.refl w).alloc (.cells (pa3 mk mg (.slice am nm cm)) 39)
  have hm0 := hm.ext hE0
  have hin0 := hin.ext hE0
  go_enter Try.func4, Try.ntmps4
  go_wp2_with fail
  refine (fewPart_any mk mg _ ms 12 _ hm0).mono ?_
  rintro e w1 ⟨B, rfl, hB, hE1⟩
  cases B
  · clear hB
    go_wp2_with fail
    refine (awake19_any w1).mono ?_
    rintro e w10 ⟨rfl, hE10⟩
    go_wp2_with fail
    go_ret
    exact ⟨rfl, (hE0.trans hE1).trans hE10⟩
  · obtain ⟨_, hm12, hmf⟩ := hB rfl
    have hmf' := hmf
    have HMF := Lib.hid hmf'
    have hE01 := hE0.trans hE1
    have b4 := a4.ext hE1
    have hm1 := hm0.ext hE1
    obtain ⟨z0, z1, z2⟩ := b4.pa
    clear hB hmf hmf' hE1 a4 hm0
    go_wp2_with fail
    refine (check8_any mk mg _ ms w1 hm1 (fun p hp c hc => by have := ((HMF.out p hp).each c hc).1; omega)).mono ?_
    obtain ⟨PB, hPB⟩ : ∃ B, B = ptB mk mg (ms.map (·.1)) := ⟨_, rfl⟩
    rw [← hPB]
    have HPB := Lib.hid hPB
    clear hPB
    rintro e w2 ⟨rfl, hE2⟩
    cases PB
    · go_wp2_with fail
      refine (awake19_any w2).mono ?_
      rintro e w10 ⟨rfl, hE10⟩
      go_wp2_with fail
      go_ret
      exact ⟨rfl, (hE01.trans hE2).trans hE10⟩
    · obtain ⟨hokq, hqr⟩ := ptB_ok HPB.out.symm
      have HOKQ := Lib.hid hokq
      have HQR := Lib.hid hqr
      have hEa := hE01.trans hE2
      have b4a := b4.ext hE2
      have hma := hm1.ext hE2
      have hina := hin.ext hEa
      clear hin0 hE01 hE2 b4 hm1 z0 z1 z2 hE0 hin hm
      go_wp2_with fail
      refine (view_any w2).mono ?_
      rintro e w3 ⟨bs, bu, rfl, hns, hE3⟩
      go_wp2_with (first
        | (((guard_target =~ wpList _ _ _ (Oper.mk none (Op.store _ (Operand.tmp 7) (Operand.tmp 35)) _ _ _ _ :: _) _ _); go_must (refine storeBox rfl 28 (.tmp 7) (.tmp 35) rfl (w3.heap.size) _ _ _ (by rfl) (by rfl) (((BoxAt.made w3 #[.string ⟨#[]⟩, .int .i64 0, .string ⟨#[]⟩, .int .i64 0, .string ⟨#[]⟩, .int .i64 0, .slice none 0 0] 28).ext ((Ext.refl _).alloc _))) (by kernel_rfl) (by rfl) (by simp [Value.oneCell']) ?_); intro w4 c4 g4); have hX4 : Ext w3 w4 := (((Ext.refl w3).alloc _).alloc _).grown g4 (fun q hq => by cases hq; omega); have hv4 := (BoxAt.madeN #[.string ⟨#[]⟩, .int .i64 0, .string ⟨#[]⟩, .string ⟨#[]⟩, .slice none 0 0] 31 (show (w3.alloc (.cells #[.string ⟨#[]⟩, .int .i64 0, .string ⟨#[]⟩, .int .i64 0, .string ⟨#[]⟩, .int .i64 0, .slice none 0 0] 28)).heap.size = w3.heap.size + 1 by simp)).grown g4 (fun e => by have := Option.some.inj e; omega))
        | (((guard_target =~ wpList _ _ _ (Oper.mk none (Op.store _ (Operand.tmp 8) (Operand.tmp 36)) _ _ _ _ :: _) _ _); go_must (refine storeBox rfl 31 (.tmp 8) (.tmp 36) rfl (w3.heap.size + 1) _ _ _ (by rfl) (by rfl) (hv4) (by kernel_rfl) (by rfl) (by simp [Value.oneCell']) ?_); intro w5 c5 g5); have hX5 : Ext w3 w5 := hX4.grown g5 (fun q hq => by cases hq; omega); have b7 : BoxAt w5 w3.heap.size #[.string ⟨#[116]⟩, .int .i64 1, .string ⟨#[112]⟩, .int .i64 1, .string ⟨#[107]⟩, .int .i64 2, .slice (some ⟨bs, 0, none⟩) 4 4] 28 := c4.grown g5 (fun e => by have := Option.some.inj e; omega); have b8 : BoxAt w5 (w3.heap.size + 1) (vw5 dV (.slice (some ⟨bu, 0, none⟩) 2 2)) 31 := c5))
      have hE5 : Ext w w5 := hEa.trans (hE3.trans hX5)
      obtain ⟨bt, hbt⟩ : ∃ b, b = w3.heap.size := ⟨_, rfl⟩
      obtain ⟨bv, hbv⟩ : ∃ b, b = w3.heap.size + 1 := ⟨_, rfl⟩
      rw [← hbv] at b8
      rw [← hbt] at b7
      rw [← hbv, ← hbt]
      replace hns := hns.ext hX5
      have hin5 := hina.ext (hE3.trans hX5)
      have b45 := b4a.ext (hE3.trans hX5)
      have hm5 := hma.ext (hE3.trans hX5)
      clear hbt hbv c4 g4 hX4 hv4 c5 g5 hX5 hE3 hina b4a hma hEa
      refine (made_any _ z ⟨#[109]⟩ w5 hin5).mono ?_
      rintro e w6 ⟨⟨pk, pg, prv, ps⟩, rfl, ⟨hpk, hpg, hgr⟩, hrows, hE6⟩
      simp only at hpk hpg hgr hrows
      obtain ⟨ar, cr, rfl⟩ := hrows.shape
      have hnum := hgr.num
      obtain ⟨n, hn⟩ : ∃ n, n = ps.length := ⟨_, rfl⟩
      rw [← hn] at hrows ⊢
      have HN := Lib.hid hn
      have HNUM := Lib.hid hnum
      have hn4 : n ≤ 4 := by have := hnum.len; rw [List.length_map] at this; omega
      clear hn hnum hgr hpk hin5
      obtain ⟨TB, hTB⟩ : ∃ T : Array Value, T = #[.string ⟨#[116]⟩, .int .i64 1, .string ⟨#[112]⟩, .int .i64 1, .string ⟨#[107]⟩, .int .i64 2, .slice (some ⟨bs, 0, none⟩) 4 4] := ⟨_, rfl⟩
      have HTB := Lib.hid hTB
      rw [← hTB] at b7
      clear hTB
      go_wp2_with (((guard_target =~ wpList _ _ _ (Oper.mk none (Op.store _ (Operand.tmp 9) (Operand.tmp 38)) _ _ _ _ :: _) _ _); go_must (refine storeBox rfl 39 (.tmp 9) (.tmp 38) rfl (w6.heap.size) _ _ _ (by rfl) (by rfl) ((BoxAt.made w6 (pa3 ⟨#[]⟩ 0 (.slice none 0 0)) 39)) (by kernel_rfl) (by rfl) (by simp [Value.oneCell']) ?_); intro w7 c7 g7); have hX7 : Ext w6 w7 := ((Ext.refl w6).alloc _).grown g7 (fun q hq => by cases hq; omega); have d9 : BoxAt w7 w6.heap.size (pa3 ⟨#[109]⟩ pg (.slice ar n cr)) 39 := c7; have d7 := b7.ext (hE6.trans hX7); have d8 := b8.ext (hE6.trans hX7); have yt : ∀ i, w7.cell? ⟨bt, i, none⟩ = TB[i]? := (fun i => d7.cell i); have yv : ∀ i, w7.cell? ⟨bv, i, none⟩ = (vw5 dV (.slice (some ⟨bu, 0, none⟩) 2 2))[i]? := (fun i => d8.cell i); have yp : ∀ i, w7.cell? ⟨w6.heap.size, i, none⟩ = (pa3 ⟨#[109]⟩ pg (.slice ar n cr))[i]? := (fun i => d9.cell i); rw [HTB.out] at yt)
      have hE7 : Ext w w7 := hE5.trans (hE6.trans hX7)
      have hr7 := hrows.ext hX7
      have hns7 := hns.ext (hE6.trans hX7)
      have hm7 := hm5.ext (hE6.trans hX7)
      have d4 := b45.ext (hE6.trans hX7)
      have hcl : ∀ p ∈ ps, p.1.cols.length ≤ 4 := fun p hp => (HNUM.out.row p.1 (List.mem_map_of_mem hp)).len
      have HCL := Lib.hid hcl
      have hky : ∀ p ∈ ps, p.1.key.size ≤ 10000000 ∧ (vkey ⟨#[109]⟩ p.1.key).size ≤ 400 ∧ (vkey ⟨#[109]⟩ p.1.key).size ≤ 400 := fun p hp => by
        obtain ⟨i, hi, e⟩ := HNUM.out.key p.1 (List.mem_map_of_mem hp)
        obtain ⟨h1, h2⟩ := ik_small9 i hi
        rw [e]
        exact ⟨by omega, h2, h2⟩
      have HKY := Lib.hid hky
      obtain ⟨bp, hbp⟩ : ∃ b, b = w6.heap.size := ⟨_, rfl⟩
      rw [← hbp] at d9 yp ⊢
      clear c7 g7 b7 b8 hns hrows hX7 hE6 hE5 hcl hky hm5 b45 hbp
      refine (deltaOf_any (.slice (some ⟨bs, 0, none⟩) 4 4) dV (.slice (some ⟨bu, 0, none⟩) 2 2) dNs ⟨#[109]⟩ 0 (.slice none 0 0) [] ⟨#[109]⟩ pg _ ps w7 (RowsIn.nil _) hr7.rows hns7 nofun (fun p hp => by have := HCL.out p hp; omega) (by have := HN.out; omega) (by decide) (by decide) HKY.out).mono ?_
      rintro e w8 ⟨v8, rfl, L8, hown8, hrs8, hdata8, hE8⟩
      -- the plain law
      obtain ⟨D1, D2, hD1, hD2, hDD, hl1, hl2, hw1, hw2, hend⟩ := two_steps (x := dV) (ns := dNs) (pk := ⟨#[109]⟩) (num_ok hpg.1 HNUM.out) HOKQ.out (fun r hr => (HNUM.out.row r hr).len) (fun r hr => (HQR.out r hr).2) HNUM.out.len (by rw [List.length_map]; omega) (by decide)
      have hdata8 : L8.map Pa.data = outP D1 := by rw [hD1]; exact hdata8
      obtain ⟨hL8, hat8⟩ := outP_at hdata8
      have hpt8 : PartsT w8 v8 L8 := ⟨TIn.own hown8, hrs8⟩
      obtain ⟨a8, c8, rfl, hc8, hc8m, hget8⟩ := hpt8.get
      obtain ⟨n8, hn8⟩ : ∃ n, n = L8.length := ⟨_, rfl⟩
      rw [← hn8] at hc8 hpt8 ⊢
      have hn8D : n8 = D1.length := hn8.trans hL8
      have HN8 := Lib.hid hn8
      have HN8D := Lib.hid hn8D
      have HG8 := Lib.hid hget8
      have HA8 := Lib.hid hat8
      have HR8 := Lib.hid hrs8
      have HW1 := Lib.hid hw1
      have HW2 := Lib.hid hw2
      have HDD := Lib.hid hDD
      have HEND := Lib.hid hend
      have HD2 := Lib.hid hD2
      have hn88 : n8 ≤ 8 := by omega
      have FIN : Hid (∀ y, Ext w8 y → Ext w y ∧ BoxAt y w.heap.size (pa3 mk mg (.slice am nm cm)) 39 ∧ BoxAt y bt TB 28 ∧ BoxAt y bv (vw5 dV (.slice (some ⟨bu, 0, none⟩) 2 2)) 31 ∧ BoxAt y bp (pa3 ⟨#[109]⟩ pg (.slice ar n cr)) 39 ∧ RowsT y (.slice ar n cr) ps ∧ StrsIn y (.slice (some ⟨bu, 0, none⟩) 2 2) dNs ∧ RowsIn y (.slice am nm cm) ms) :=
        fun y h => ⟨(hE7.trans hE8).trans h, d4.ext (hE8.trans h), d7.ext (hE8.trans h), d8.ext (hE8.trans h), d9.ext (hE8.trans h), hr7.ext (hE8.trans h), hns7.ext (hE8.trans h), hm7.ext (hE8.trans h)⟩
      clear hn8 hL8 hn8D hget8 hat8 hrs8 hw1 hw2 hDD hend hD2 hdata8 hown8 hpt8 hE7 hE8 d4 d7 d8 d9 hr7 hns7 hm7 yt yv yp hD1
      go_wp2_with fail
      go_loopw [10, 11, 13] (fun vv ok i wr => ∃ (k : Nat) (L : List Pa), k ≤ n8 ∧ i = .int .i64 k ∧ ok = .bool true ∧ Ext w8 wr ∧ wr.ownsRow w8.heap.size 39 3 vv L.length (paCells L) ∧ (∀ q ∈ L, RowsT wr q.rv q.ps) ∧ (∀ q ∈ L, q.gone = 0) ∧ Hid (viL L = (D1.take k).foldl putV [])) (fun _ _ i _ => n8 - (intOf i).toNat)
      case atStart => exact ⟨0, [], Nat.zero_le _, rfl, rfl, Ext.refl w8, World.ownsRow_nil _ _ _ _, nofun, nofun, rfl⟩
      case round =>
        obtain ⟨k, L, hkn, rfl, rfl, hE, hown, hLr, hLg, HV⟩ := hrel
        by_cases hlt : k < n8
        · have hki : decide ((k : Int) < (n8 : Int)) = true := by simpa using hlt
          have hkL : k < L8.length := by rw [← HN8.out]; exact hlt
          have hkD : k < D1.length := by rw [← HN8D.out]; exact hlt
          obtain ⟨g8, rfl, hat⟩ := HG8.out k hkL
          obtain ⟨hk1, hk2, hk3⟩ := HA8.out k hkL hkD
          have hqr := (HR8.out _ (List.getElem_mem hkL)).ext hE
          have hdd := HDD.out _ (List.mem_append_left _ (List.getElem_mem hkD))
          have hft := foldl_take putV [] D1 k hkD
          obtain ⟨d, hd⟩ : ∃ d, d = D1[k] := ⟨_, rfl⟩
          obtain ⟨Q, hQ⟩ : ∃ Q, Q = L8[k] := ⟨_, rfl⟩
          rw [← hd] at hk1 hk3 hdd hft
          rw [← hQ] at hk1 hk2 hk3 hqr hat
          obtain ⟨Qk, Qg, Qrv, Qps⟩ := Q
          obtain ⟨da, ds⟩ := d
          simp only at hk1 hk2 hk3 hqr hat hdd
          subst hk1 hk2
          obtain ⟨aq, cq, rfl⟩ := hqr.shape
          obtain ⟨ql, hql⟩ : ∃ ql, ql = Qps.length := ⟨_, rfl⟩
          rw [← hql] at hqr hat
          obtain ⟨y0, y1, y2⟩ := hat.ext hE
          simp only at y0 y1 y2
          have hway := HW1.out k (by omega)
          rw [← HV.out] at hway
          obtain ⟨p1, p2, p3, p4⟩ := way_put hway (by omega)
          have HFT : Hid (putV (viL L) (Qk, ds) = (D1.take (k + 1)).foldl putV []) := by show _ = _; rw [hft, HV.out]
          have HK3 := Lib.hid hk3
          have hP2 := Lib.hid p2
          have hP3 := Lib.hid p3
          have hP4 := Lib.hid p4
          have hLR := Lib.hid hLr
          have hLG := Lib.hid hLg
          clear hat hft hd hQ hway hql p2 p3 p4 hk3 hLr hLg
          obtain ⟨av, cv, rfl⟩ := own_shape hown
          go_wp2_with fail
          refine (put19_any w8.heap.size _ L Qk _ Qps ds wr hE.le hown hLR.out hLG.out hqr.rows HK3.out p1 hP2.out hdd.1 hP3.out (by have := hdd.2; omega) hP4.out).mono ?_
          rintro e w9 ⟨v9, L9, rfl, hown9, hr9, hg9, hv9, hgr9, _⟩
          have hE9 : Ext w8 w9 := hE.grown hgr9 (fun q hq => (hown.lt q hq).1)
          obtain ⟨a9, c9, rfl⟩ := own_shape hown9
          have HV9 : Hid (viL L9 = (D1.take (k + 1)).foldl putV []) := hv9.trans HFT.out
          clear hv9 hgr9 y0 y1 y2
          go_wp2_with fail
          go_roundw
          case rel => exact ⟨k + 1, L9, by omega, by go_num, rfl, hE9, hown9, hr9, hg9, HV9⟩
          case measure => simp [intOf]; omega
        · obtain rfl : k = n8 := by omega
          have hki : decide ((k : Int) < (k : Int)) = false := by simp
          have hV1 : viL L = D1.foldl putV [] := by rw [HV.out, HN8D.out, List.take_length]
          have HV1 := Lib.hid hV1
          obtain ⟨hX, e4, e7, e8, e9, hr, hns, hmr⟩ := FIN.out wr hE
          obtain ⟨av, cv, rfl⟩ := own_shape hown
          have q9 : ∀ i, wr.cell? ⟨bp, i, none⟩ = (pa3 ⟨#[109]⟩ pg (.slice ar n cr))[i]? := fun i => e9.cell i
          have q4 : ∀ i, wr.cell? ⟨w.heap.size, i, none⟩ = (pa3 mk mg (.slice am nm cm))[i]? := fun i => e4.cell i
          have hJe : foldG keyR foldRo (ps.map (·.1)) (ms.map (·.1)) = mergeRo (ps.map (·.1)) (ms.map (·.1)) := fold_merge HNUM.out.good HOKQ.out.good
          obtain ⟨J, hJ⟩ : ∃ J, J = joinD (pg, ps.map (·.1)) (mg, ms.map (·.1)) := ⟨_, rfl⟩
          have hJ1 : max pg mg = J.1 := by rw [hJ]; rfl
          have hJ2 : mergeRo (ps.map (·.1)) (ms.map (·.1)) = J.2 := by rw [hJ]; rfl
          have hJl : J.2.length ≤ 16 := by
            rw [← hJ2]
            have h1 := mergeG_len keyR joinRo (ps.map (·.1)) (ms.map (·.1))
            have h2 := HN.out
            have h3 := HNM.out
            simp only [List.length_map] at h1
            unfold mergeRo
            omega
          obtain ⟨hokJ, _⟩ := joinD_le (num_ok hpg.1 HNUM.out) HOKQ.out
          rw [← hJ] at hokJ
          have hJc : ∀ r ∈ J.2, r.cols.length ≤ 12 ∧ r.key.size ≤ 400 ∧ ∀ c ∈ r.cols, c.name.size ≤ 300 := fun r hr => by
            rw [← hJ2] at hr
            have hb : ∀ r ∈ ps.map (·.1), r.cols.length ≤ 4 ∧ r.key.size ≤ 400 ∧ ∀ c ∈ r.cols, c.name.size ≤ 300 := fun r hr => ⟨(HNUM.out.row r hr).len, by obtain ⟨i, hi, e⟩ := HNUM.out.key r hr; rw [e]; have := (ik_small9 i hi).1; omega, fun c hc => by obtain ⟨⟨j, hj, e⟩, _⟩ := (HNUM.out.row r hr).cols c hc; rw [e]; exact nmK_size j hj⟩
            have hm : ∀ r ∈ ms.map (·.1), r.cols.length ≤ 8 ∧ r.key.size ≤ 400 ∧ ∀ c ∈ r.cols, c.name.size ≤ 300 := fun r hr => by
              obtain ⟨p, hp, rfl⟩ := List.mem_map.1 hr
              exact ⟨(HQR.out p.1 hr).2, (HQR.out p.1 hr).1, fun c hc => ((HMF.out p hp).each c hc).1⟩
            rcases mem_mergeRs hr with (h | h) | ⟨x, hx, y, hy, _, rfl⟩
            · obtain ⟨h1, h2, h3⟩ := hb r h; exact ⟨by omega, h2, h3⟩
            · obtain ⟨h1, h2, h3⟩ := hm r h; exact ⟨by omega, h2, h3⟩
            · obtain ⟨h1, h2, h3⟩ := hb x hx
              obtain ⟨k1, k2, k3⟩ := hm y hy
              refine ⟨?_, h2, fun c hc => ?_⟩
              · have := mergeG_len keyC joinCo x.cols y.cols
                show (mergeCo x.cols y.cols).length ≤ _
                unfold mergeCo
                omega
              · rcases mem_mergeCo hc with (h | h) | ⟨u, hu, v, hv, _, rfl⟩
                · exact h3 c h
                · exact k3 c h
                · exact h3 u hu
          have HJE := Lib.hid hJe
          have HJ1 := Lib.hid hJ1
          have HJ2 := Lib.hid hJ2
          have HJC := Lib.hid hJc
          have HJ := Lib.hid hJ
          have HOKJ := Lib.hid hokJ
          clear hJe hJ1 hJ2 hJc hokJ hV1 hJ
          go_wp2_with fail
          refine (join8_any ⟨#[109]⟩ mk pg mg _ _ ps ms wr hr.rows hmr (by have := HN.out; omega) (by have := HNM.out; omega) (fun p hp => by have := HCL.out p hp; omega) (fun p hp => by have := (HQR.out p.1 (List.mem_map_of_mem hp)).2; omega)).mono ?_
          rw [HJE.out, HJ1.out, HJ2.out]
          rintro e w9 ⟨hE9, ⟨_, v9, rfl, q10, hq10, hm10⟩ | ⟨hbad, _⟩⟩
          · obtain ⟨a10, c10, rfl⟩ := hq10.shape
            obtain ⟨m10, hm10'⟩ : ∃ m, m = q10.length := ⟨_, rfl⟩
            have hml : m10 ≤ 16 := by rw [hm10', ← List.length_map (f := (·.1)), hm10]; exact hJl
            rw [← hm10'] at hq10 ⊢
            have HM10 := Lib.hid hm10
            have HML := Lib.hid hm10'
            have hs0 := hE9.le
            clear hm10 hm10' q4 q9
            obtain ⟨w10, hw10⟩ : ∃ w10, w10 = w9.alloc (.cells (pa3 ⟨#[109]⟩ J.1 (.slice a10 m10 c10)) 39) := ⟨_, rfl⟩
            have HW10 : Hid (w10 = w9.alloc (.cells #[.string ⟨#[109]⟩, .int .i64 J.1, .slice a10 m10 c10] 39)) := hw10
            have d14 : BoxAt w10 w9.heap.size (pa3 ⟨#[109]⟩ J.1 (.slice a10 m10 c10)) 39 := by rw [hw10]; exact BoxAt.made _ _ _
            have hX10 : Ext w9 w10 := by rw [hw10]; exact (Ext.refl w9).alloc _
            clear hw10
            go_wp2_with fail
            rw [← HW10.out]
            have hEA : Ext wr w10 := hE9.trans hX10
            have hq10' := hq10.ext hX10
            obtain ⟨q14, hq14⟩ : ∃ q, q = w9.heap.size := ⟨_, rfl⟩
            rw [← hq14] at d14 ⊢
            have hq14s : wr.heap.size ≤ q14 := by omega
            clear hX10 hE9 hq10 hs0 hq14 HW10
            refine (check8_any ⟨#[109]⟩ J.1 _ q10 w10 hq10'.rows (fun p hp c hc => by
              have h1 : p.1 ∈ J.2 := by rw [← HM10.out]; exact List.mem_map_of_mem hp
              have := (HJC.out p.1 h1).2.2 c hc
              omega)).mono ?_
            obtain ⟨PB, hPB⟩ : ∃ B, B = ptB ⟨#[109]⟩ J.1 (q10.map (·.1)) := ⟨_, rfl⟩
            rw [← hPB]
            clear hPB
            rintro e w11 ⟨rfl, hE11⟩
            have hEA11 := hEA.trans hE11
            have d14b := d14.ext hE11
            have hq11 := hq10'.ext hE11
            clear d14 hq10' hE11 hEA
            cases PB
            · go_wp2_with fail
              refine (awake19_any w11).mono ?_
              rintro e w12 ⟨rfl, hE12⟩
              go_wp2_with fail
              go_ret
              exact ⟨rfl, (hX.trans hEA11).trans hE12⟩
            · go_wp2_with fail
              obtain ⟨aJ, cJ, eJ, hcJ, hcJm, hgetJ⟩ := hq11.rows.get
              injection eJ with eJ1 eJ2 eJ3
              subst eJ1 eJ3
              rw [← HML.out] at hcJ
              have HGJ := Lib.hid hgetJ
              clear hgetJ eJ2
              obtain ⟨wA, rfl⟩ : ∃ w', w' = wr := ⟨_, rfl⟩
              go_loopw [16] (fun i wr => ∃ k : Nat, k ≤ m10 ∧ i = .int .i64 k ∧ Ext w11 wr ∧ Hid (∀ j (h : j < q10.length), j < k → (vkey ⟨#[109]⟩ (q10[j]'h).1.key).size ≤ 400)) (fun i _ => m10 - (intOf i).toNat)
              case atStart => exact ⟨0, Nat.zero_le _, rfl, Ext.refl w11, fun j h hj => absurd hj (Nat.not_lt_zero _)⟩
              case round =>
                obtain ⟨k, hkm, rfl, hEk, HK⟩ := hrel
                obtain ⟨y0, y1, y2⟩ := (d14b.ext hEk).pa
                by_cases hlt : k < m10
                · have hki : decide ((k : Int) < (m10 : Int)) = true := by simpa using hlt
                  have hkq : k < q10.length := by rw [← HML.out]; exact hlt
                  obtain ⟨bJ, oJ, rfl, hro⟩ := HGJ.out k hkq
                  have hkk := (HJC.out q10[k].1 (by rw [← HM10.out]; exact List.mem_map_of_mem (List.getElem_mem hkq))).2.1
                  obtain ⟨key, hkey⟩ : ∃ key, key = q10[k].1.key := ⟨_, rfl⟩
                  have r0 := (hro.ext hEk).c0
                  rw [← hkey] at r0 hkk
                  have HKEY := Lib.hid hkey
                  obtain ⟨VK, hVK⟩ : ∃ VK, VK = vkey ⟨#[109]⟩ key := ⟨_, rfl⟩
                  have HVK := Lib.hid hVK
                  clear hro hkey hVK
                  go_wp2_with fail
                  refine (key18_any ⟨#[109]⟩ key wr (by decide) (by omega)).mono ?_
                  rw [← HVK.out]
                  rintro e w12 ⟨rfl, rfl⟩
                  cases hs : decide ((400 : Int) < (VK.size : Int))
                  · have hs' : Hid (VK.size ≤ 400) := by show VK.size ≤ 400; simp at hs; omega
                    go_wp2_with fail
                    go_roundw
                    case rel =>
                      refine ⟨k + 1, by omega, by go_num, hEk, fun j h hj => ?_⟩
                      by_cases hjk : j < k
                      · exact HK.out j h hjk
                      · obtain rfl : j = k := by omega
                        rw [← HKEY.out, ← HVK.out]
                        exact hs'.out
                    case measure => simp [intOf]; omega
                  · go_wp2_with fail
                    refine (awake19_any wr).mono ?_
                    rintro e w12 ⟨rfl, hE12⟩
                    go_wp2_with fail
                    go_ret
                    exact ⟨rfl, ((hX.trans hEA11).trans hEk).trans hE12⟩
                · obtain rfl : m10 = k := by omega
                  have hki : decide ((m10 : Int) < (m10 : Int)) = false := by simp
                  have hkeys : ∀ p ∈ q10, (vkey ⟨#[109]⟩ p.1.key).size ≤ 400 := fun p hp => by
                    obtain ⟨j, hj, rfl⟩ := List.getElem_of_mem hp
                    exact HK.out j hj (by have := HML.out; omega)
                  have HKEYS := Lib.hid hkeys
                  have hEw := hEA11.trans hEk
                  obtain ⟨hX2, e4', e7', e8', e9', hr', hns', hmr'⟩ := FIN.out wr (hE.trans hEw)
                  have hq12 := hq11.ext hEk
                  have yt : ∀ i, wr.cell? ⟨bt, i, none⟩ = TB[i]? := fun i => e7'.cell i
                  have yv : ∀ i, wr.cell? ⟨bv, i, none⟩ = (vw5 dV (.slice (some ⟨bu, 0, none⟩) 2 2))[i]? := fun i => e8'.cell i
                  have yp : ∀ i, wr.cell? ⟨bp, i, none⟩ = (pa3 ⟨#[109]⟩ pg (.slice ar n cr))[i]? := fun i => e9'.cell i
                  rw [HTB.out] at yt
                  have hown2 := ownsRow_ext hown hEw
                  have hown0 := hown.lt
                  have hLr2 : ∀ q ∈ L, RowsT wr q.rv q.ps := fun q hq => (hLr q hq).ext hEw
                  have d14c := d14b.ext hEk
                  have hsA : wA.heap.size ≤ wr.heap.size := hEw.le
                  have HLR2 := Lib.hid hLr2
                  have HLG := Lib.hid hLg
                  clear hkeys hLr2 hLr hLg e4 e7 e8 e9 hr hns hmr hX e4' hmr' hown d14b hq11 HGJ HK
                  go_wp2_with fail
                  refine (deltaOf_any (.slice (some ⟨bs, 0, none⟩) 4 4) dV (.slice (some ⟨bu, 0, none⟩) 2 2) dNs ⟨#[109]⟩ pg _ ps ⟨#[109]⟩ J.1 _ q10 wr hr'.rows hq12.rows hns' (fun p hp => by have := HCL.out p hp; omega) (fun p hp => by have := (HJC.out p.1 (by rw [← HM10.out]; exact List.mem_map_of_mem hp)).1; omega) (by have := HML.out; omega) (by decide) (by decide) (fun p hp => ⟨by have := (HJC.out p.1 (by rw [← HM10.out]; exact List.mem_map_of_mem hp)).2.1; omega, HKEYS.out p hp, HKEYS.out p hp⟩)).mono ?_
                  rintro e w12 ⟨v12, rfl, L12, hown12, hrs12, hdata12, hE12⟩
                  have hdata12 : L12.map Pa.data = outP D2 := by
                    rw [HD2.out, ← HJ.out]
                    rw [HM10.out] at hdata12
                    exact hdata12
                  obtain ⟨hL12, hat12⟩ := outP_at hdata12
                  have hpt12 : PartsT w12 v12 L12 := ⟨TIn.own hown12, hrs12⟩
                  obtain ⟨a12, c12, rfl, hc12, hc12m, _⟩ := hpt12.get
                  obtain ⟨n12, hn12⟩ : ∃ n, n = L12.length := ⟨_, rfl⟩
                  rw [← hn12] at hc12 hpt12 hown12 ⊢
                  have HN12 := Lib.hid hn12
                  have hn12D := hn12.trans hL12
                  have HN12D := Lib.hid hn12D
                  have HA12 := Lib.hid hat12
                  have hd12l := hown12.lt
                  have hn1232 : n12 ≤ 32 := by omega
                  have hown3 := ownsRow_ext hown2 hE12
                  have hLr3 : ∀ q ∈ L, RowsT w12 q.rv q.ps := fun q hq => (HLR2.out q hq).ext hE12
                  have hq13 := hq12.ext hE12
                  have d14d := d14c.ext hE12
                  have hEw12 := (hE.trans hEw).trans hE12
                  have hs12 := hE12.le
                  have hq14l := d14c.lt
                  clear hdata12 hL12 hat12 hn12 hn12D hrs12 hown12 hown2 hr' hns' hq12 d14c yt yv yp e7' e8' e9' HLR2 y0 y1 y2
                  go_wp2_with fail
                  obtain ⟨wB, rfl⟩ : ∃ w', w' = wr := ⟨_, rfl⟩
                  go_loopw [10, 11, 18] (fun vv ok i wr => ∃ (k : Nat) (L : List Pa), k ≤ n12 ∧ i = .int .i64 k ∧ ok = .bool true ∧ Ext w8 wr ∧ wr.ownsRow w8.heap.size 39 3 vv L.length (paCells L) ∧ (∀ q ∈ L, RowsT wr q.rv q.ps) ∧ (∀ q ∈ L, q.gone = 0) ∧ Hid (viL L = (D2.take k).foldl putV (D1.foldl putV [])) ∧ PartsT wr (.slice a12 n12 c12) L12 ∧ BoxAt wr q14 (pa3 ⟨#[109]⟩ J.1 (.slice a10 m10 c10)) 39 ∧ RowsT wr (.slice a10 m10 c10) q10 ∧ w12.heap.size ≤ wr.heap.size ∧ Hid (∀ q, vv.ownBlock = some q → q < wA.heap.size ∨ w12.heap.size ≤ q)) (fun _ _ i _ => n12 - (intOf i).toNat)
                  case atStart => exact ⟨0, L, Nat.zero_le _, rfl, rfl, hEw12, hown3, hLr3, HLG.out, HV1.out, hpt12, d14d, hq13, Nat.le_refl _, fun q hq => .inl (hown0 q hq).2⟩
                  case round =>
                    clear hown3 hLr3 hpt12 d14d hq13 HLG HV1 hEw12
                    obtain ⟨k, L, hkn, rfl, rfl, hE, hown, hLr, hLg, HV, hpt, hb14, hqJ, hsz, HO⟩ := hrel
                    by_cases hlt : k < n12
                    · have hki : decide ((k : Int) < (n12 : Int)) = true := by simpa using hlt
                      have hkL : k < L12.length := by rw [← HN12.out]; exact hlt
                      have hkD : k < D2.length := by rw [← HN12D.out]; exact hlt
                      obtain ⟨a', c', ee, hcc, hccm, hget⟩ := hpt.get
                      injection ee with ee1 ee2 ee3
                      subst ee1 ee3
                      obtain ⟨g8, rfl, hat⟩ := hget k hkL
                      obtain ⟨hk1, hk2, hk3⟩ := HA12.out k hkL hkD
                      have hqr := hpt.rows _ (List.getElem_mem hkL)
                      have hdd := HDD.out _ (List.mem_append_right _ (List.getElem_mem hkD))
                      have hft := foldl_take putV (D1.foldl putV []) D2 k hkD
                      obtain ⟨d, hd⟩ : ∃ d, d = D2[k] := ⟨_, rfl⟩
                      obtain ⟨Q, hQ⟩ : ∃ Q, Q = L12[k] := ⟨_, rfl⟩
                      rw [← hd] at hk1 hk3 hdd hft
                      rw [← hQ] at hk1 hk2 hk3 hqr hat
                      obtain ⟨Qk, Qg, Qrv, Qps⟩ := Q
                      obtain ⟨da, ds⟩ := d
                      simp only at hk1 hk2 hk3 hqr hat hdd
                      subst hk1 hk2
                      obtain ⟨aq, cq, rfl⟩ := hqr.shape
                      obtain ⟨ql, hql⟩ : ∃ ql, ql = Qps.length := ⟨_, rfl⟩
                      rw [← hql] at hqr hat
                      obtain ⟨y0, y1, y2⟩ := hat
                      simp only at y0 y1 y2
                      have hway := HW2.out k (by omega)
                      rw [← HV.out] at hway
                      obtain ⟨p1, p2, p3, p4⟩ := way_put hway (by omega)
                      have HFT : Hid (putV (viL L) (Qk, ds) = (D2.take (k + 1)).foldl putV (D1.foldl putV [])) := by show _ = _; rw [hft, HV.out]
                      have HK3 := Lib.hid hk3
                      have hP2 := Lib.hid p2
                      have hP3 := Lib.hid p3
                      have hP4 := Lib.hid p4
                      have hLR := Lib.hid hLr
                      have hLG := Lib.hid hLg
                      clear hft hd hQ hway hql p2 p3 p4 hk3 hLr hLg hget ee2
                      obtain ⟨av, cv, rfl⟩ := own_shape hown
                      go_wp2_with fail
                      refine (put19_any w8.heap.size _ L Qk _ Qps ds wr hE.le hown hLR.out hLG.out hqr.rows HK3.out p1 hP2.out hdd.1 hP3.out (by have := hdd.2; omega) hP4.out).mono ?_
                      rintro e w13 ⟨v13, L13, rfl, hown13, hr13, hg13, hv13, hgr13, hw13⟩
                      have hE13 : Ext w8 w13 := hE.grown hgr13 (fun q hq => (hown.lt q hq).1)
                      have hpt13 := parts_keep hown hgr13 hpt (fun q hq hq' => by
                        have h1 := hd12l q hq
                        have h2 := HO.out q hq'
                        omega)
                      have hb13 := hb14.grown hgr13 (fun e => by
                        have h2 := HO.out q14 e.symm
                        omega)
                      have hq13 := hqJ.keepOwn hown hgr13 (by decide) (by decide)
                      have hs13 := hgr13.size
                      have HO13 : Hid (∀ q, v13.ownBlock = some q → q < wA.heap.size ∨ w12.heap.size ≤ q) := fun q hq => by
                        rcases hw13 q hq with h | h
                        · exact HO.out q h
                        · right; omega
                      obtain ⟨a13, c13, rfl⟩ := own_shape hown13
                      have HV13 : Hid (viL L13 = (D2.take (k + 1)).foldl putV (D1.foldl putV [])) := hv13.trans HFT.out
                      clear hv13 hgr13 y0 y1 y2 hw13 hpt hb14 hqJ hqr
                      go_wp2_with fail
                      go_roundw
                      case rel => exact ⟨k + 1, L13, by omega, by go_num, rfl, hE13, hown13, hr13, hg13, HV13, hpt13, hb13, hq13, by omega, HO13⟩
                      case measure => simp [intOf]; omega
                    · obtain rfl : k = n12 := by omega
                      have hki : decide ((k : Int) < (k : Int)) = false := by simp
                      have hV2 : viL L = D2.foldl putV (D1.foldl putV []) := by rw [HV.out, HN12D.out, List.take_length]
                      have hway := HW2.out k (by have := HN12D.out; omega)
                      rw [← HV.out] at hway
                      obtain ⟨p1, p2, p3, p4⟩ := way_put hway (by have := HN12D.out; omega)
                      obtain ⟨hX3, _, _, e8'', _, _, hns'', _⟩ := FIN.out wr hE
                      have yv : ∀ i, wr.cell? ⟨bv, i, none⟩ = (vw5 dV (.slice (some ⟨bu, 0, none⟩) 2 2))[i]? := fun i => e8''.cell i
                      obtain ⟨y0, y1, y2⟩ := hb14.pa
                      obtain ⟨m1, m2⟩ := HEND.out now
                      rw [← hV2, ← HJ.out] at m1 m2
                      have hvF : viewF dV dNs ⟨#[109]⟩ J.1 now (q10.map (·.1)) = viewRs dV dNs ⟨#[109]⟩ J.1 now J.2 := by
                        rw [HM10.out]
                        refine viewF_short fun r hr => ?_
                        rw [← HM10.out] at hr
                        obtain ⟨p, hp, rfl⟩ := List.mem_map.1 hr
                        exact HKEYS.out p hp
                      have hM1 : ∀ e, e ∈ seenV dV (viL L) now → e ∈ viewF dV dNs ⟨#[109]⟩ J.1 now (q10.map (·.1)) := fun e he => by rw [hvF]; exact (m1 e).1 he
                      have hM2 : (seenV dV (viL L) now).length = (viewF dV dNs ⟨#[109]⟩ J.1 now (q10.map (·.1))).length := by rw [hvF]; exact m2
                      have HM1 := Lib.hid hM1
                      have HM2 := Lib.hid hM2
                      have hP1 := Lib.hid p1
                      have hLL : ∀ q ∈ L, q.ps.length ≤ 1000 ∧ ∀ p ∈ q.ps, p.1.cols.length ≤ 1000 ∧ DistN p.1.cols := fun q hq => ⟨by have := p4 q hq; omega, fun p hp => ⟨p3 q hq p hp, distN_of_up ((p2 q hq).2 p.1 (List.mem_map_of_mem hp))⟩⟩
                      have HLL := Lib.hid hLL
                      have hLG := Lib.hid hLg
                      have hptV : PartsT wr u10 L := ⟨TIn.own hown, hLr⟩
                      obtain ⟨av, cv, rfl⟩ := own_shape hown
                      clear m1 m2 hvF hM1 hM2 hLL p1 p2 p3 p4 hway hV2 hLg hLr hown HO hpt HV
                      go_wp2_with fail
                      refine (mirrors19_any _ L dV (.slice (some ⟨bu, 0, none⟩) 2 2) dNs ⟨#[109]⟩ J.1 _ q10 now wr hptV hP1.out hLG.out HLL.out hqJ.rows (by have := HML.out; omega) (fun p hp => by have := (HJC.out p.1 (by rw [← HM10.out]; exact List.mem_map_of_mem hp)).1; omega) (fun p hp => distN_of_up (HOKJ.out.good.2 p.1 (by rw [← HM10.out]; exact List.mem_map_of_mem hp))) hns'' (by decide) (fun p hp => by have := (HJC.out p.1 (by rw [← HM10.out]; exact List.mem_map_of_mem hp)).2.1; omega) HM1.out HM2.out).mono ?_
                      rintro e w14 ⟨rfl, hE14⟩
                      go_wp2_with fail
                      refine (awake19_any w14).mono ?_
                      rintro e w15 ⟨rfl, hE15⟩
                      go_wp2_with fail
                      go_ret
                      exact ⟨rfl, (hX3.trans hE14).trans hE15⟩
          · omega
theorem law_deltaSteps_long (v0 : Value) (z : List Int) (m : Value) (now : Int) (w : World) (hin : IntsIn w v0 .i64 z) (hz : 60 < z.length) (mk : ByteArray) (mg : Int) (mu : Value) (hm : m = .agg #[.string mk, .int .i64 mg, mu]) :
    Calls Try.prog 4 #[v0, m, .int .i64 now] w fun e w' => e = .returned (.bool true) ∧ Ext w w' := by
  obtain ⟨a, c, rfl, hc, hcm, ha⟩ := hin.block
  subst hm
  have k1 : decide ((60 : Int) < (z.length : Int)) = true := by simp; omega
  have hE0 := (Ext.refl w).alloc (.cells (pa3 mk mg mu) 39)
  go_enter Try.func4, Try.ntmps4
  go_wp2_with fail
  refine (awake19_any _).mono ?_
  rintro e w10 ⟨rfl, hE10⟩
  go_wp2_with fail
  go_ret
  exact ⟨rfl, hE0.trans hE10⟩
theorem walk_deltaSteps (v m : Value) (now : Int) (W : World) (w0 : ∃ l : List Int, IntsIn W v .i64 l ∧ ∀ n ∈ l, (Lit.int .i64 n).wf = true) (w1 : ∃ (k : ByteArray) (g : Int) (u : Value) (ps : List (Ro × Value)), m = .agg #[.string k, .int .i64 g, u] ∧ RowsIn W u ps) (_ : (Lit.int .i64 now).wf = true) :
    Calls Try.prog 4 #[v, m, .int .i64 now] W fun e w' => e = .returned (.bool true) ∧ Ext W w' := by
  obtain ⟨z, hin, _⟩ := w0
  obtain ⟨k, g, u, ps, rfl, hm⟩ := w1
  by_cases hz : z.length ≤ 60
  · exact law_deltaSteps v z k g u ps now W hin hz hm
  · exact law_deltaSteps_long v z _ now W hin (by omega) k g u rfl
end Go.Proofs.Yteamiiekpjoclaa
