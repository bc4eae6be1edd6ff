/- TreeSame: the law's walk. -/
import Derived.Test.YtcmgeccgahakbaaDoorQ13
import Derived.Test.YtcmgeccgahakbaaDoorQ15
import Derived.Test.YtcmgeccgahakbaaDoorQ5
import Derived.Test.YtcmgeccgahakbaaDoorQ16
import Derived.Test.YtcmgeccgahakbaaDoorQ18
import Derived.Test.YtcmgeccgahakbaaDoorQ12
import Derived.Test.YtcmgeccgahakbaaDoorQ23
import Derived.Test.YtcmgeccgahakbaaDoorQ8
import Derived.Deep.CutBlock
set_option linter.unusedSimpArgs false
set_option linter.unusedVariables false
namespace Go.Proofs.YtcmgeccgahakbaaDoor
open Go Go.RowKit
attribute [local go_sem] yields yUpon

/-- What a law's partitions are. -/
def Good6 (L : List Pa) : Prop := L.length = 6 ∧ ∀ p ∈ L, p.key.size ≤ 1 ∧ GenPa p.key p
theorem Good6.key {L : List Pa} (h : Good6 L) : ∀ p ∈ L, p.key.size ≤ maxLen := fun p hp => by have := (h.2 p hp).1; unfold maxLen; omega
theorem Good6.pt {L : List Pa} (h : Good6 L) : ∀ p ∈ L, ptB p.key p.gone (p.ps.map (·.1)) = true := fun p hp => gen_ptB (h.2 p hp).2 (by have := (h.2 p hp).1; omega)
theorem Good6.low {L : List Pa} (h : Good6 L) : ∀ p ∈ L, ∀ q ∈ p.ps, ∀ d ∈ q.1.cols, d.name.size ≤ 1000000 := fun p hp => gen_low (h.pt p hp)
theorem Good6.few {L : List Pa} (h : Good6 L) : ∀ p ∈ L, p.ps.length ≤ 10000 ∧ ∀ q ∈ p.ps, q.1.cols.length ≤ 1000000 := fun p hp => by
  have h1 := ptB_ok (h.pt p hp)
  refine ⟨?_, fun q hq => ?_⟩
  · have := h1.many; rw [List.length_map] at this; omega
  · have := (h1.rows _ (List.mem_map_of_mem (f := (·.1)) hq)).many; omega
theorem Good6.set {L : List Pa} (h : Good6 L) {k : Nat} (hk : k < L.length) {s : ByteArray} (hs : s.size ≤ 1) : Good6 (L.set k (L[k].withKey s)) := by
  refine ⟨by rw [List.length_set]; exact h.1, fun p hp => ?_⟩
  rcases List.mem_or_eq_of_mem_set hp with hp | rfl
  · exact h.2 p hp
  · obtain ⟨h1, h2⟩ := h.2 _ (List.getElem_mem hk)
    exact ⟨hs, rfl, h2.gone, h2.rows⟩

/-- The same partitions elsewhere. -/
theorem Good6.data {L M : List Pa} (h : Good6 L) (hM : M.map Pa.data = L.map Pa.data) : Good6 M := by
  refine ⟨by have := congrArg List.length hM; simpa [h.1] using this, fun p hp => ?_⟩
  have hp' : p.data ∈ L.map Pa.data := by rw [← hM]; exact List.mem_map_of_mem hp
  obtain ⟨q, hq, e⟩ := List.mem_map.1 hp'
  have e1 : q.key = p.key ∧ q.gone = p.gone ∧ q.ps.map (·.1) = p.ps.map (·.1) := by unfold Pa.data at e; simpa using e
  obtain ⟨h1, h2⟩ := h.2 q hq
  rw [e1.1] at h1
  exact ⟨h1, rfl, by rw [← e1.2.1]; exact h2.gone, by rw [← e1.2.2]; exact h2.rows⟩

theorem set_gone_mem {L : List Pa} {k : Nat} (hk : k < L.length) {g : Int} {P : Pa → Prop} (hP : ∀ p, P p → P (p.withGone g)) (h : ∀ p ∈ L, P p) : ∀ p ∈ L.set k (L[k].withGone g), P p := fun p hp => by
  rcases List.mem_or_eq_of_mem_set hp with hp | rfl
  · exact h p hp
  · exact hP _ (h _ (List.getElem_mem hk))
theorem set_gone_data {L M : List Pa} (hM : M.map Pa.data = L.map Pa.data) {k : Nat} (hk : k < L.length) (hm : k < M.length) (g : Int) : (M.set k (M[k].withGone g)).map Pa.data = (L.set k (L[k].withGone g)).map Pa.data := by
  have h1 : (M.map Pa.data)[k]? = (L.map Pa.data)[k]? := by rw [hM]
  rw [List.getElem?_map, List.getElem?_map, List.getElem?_eq_getElem hk, List.getElem?_eq_getElem hm] at h1
  have h2 : (M[k].withGone g).data = (L[k].withGone g).data := by
    unfold Pa.data Pa.withGone at *
    simp at h1 ⊢
    exact ⟨h1.1, h1.2.2⟩
  rw [List.map_set, List.map_set, hM, h2]
theorem parts_at {w : World} {b n c : Nat} {L : List Pa} (h : PartsT w (.slice (some ⟨b, 0, none⟩) n c) L) {k : Nat} (hk : k < L.length) : PaAt w b (k * 3) L[k] := by
  obtain ⟨a', c', e, _, _, hg⟩ := h.get
  obtain ⟨b', e', hp⟩ := hg k hk
  injection e with e1 e2 e3
  rw [e'] at e1
  cases e1
  exact hp
theorem parts_block {w : World} {v : Value} {L : List Pa} {n : Nat} (h : PartsT w v L) (hn : L.length = n) (h0 : 0 < n) : ∃ b c, v = .slice (some ⟨b, 0, none⟩) n c ∧ n ≤ c ∧ c ≤ 9223372036854775807 := by
  subst hn
  obtain ⟨a', c', e, h1, h2, hg⟩ := h.get
  obtain ⟨b', e', hp⟩ := hg 0 h0
  exact ⟨b', c', by rw [e, e'], h1, h2⟩

theorem sums_cell {w : World} {B : Nat} {v : Value} {n c : Nat} {x y : Int} {L : List Pa} (h : w.ownsRow B 3 1 v 16 (kcells .i64 (sumsL n c x y L))) {K : Nat} (hK : K < 16) : ∃ b o c', v = .slice (some ⟨b, o, none⟩) 16 c' ∧ w.cell? ⟨b, o + K, none⟩ = some (.int .i64 (sumAt n c x y L K : Int)) := by
  obtain ⟨a, c', e, _, _, _, hc⟩ := SliceIn.of_owns h
  obtain ⟨b, o, rfl, hx⟩ := hc K (.int .i64 (sumAt n c x y L K : Int)) (by unfold kcells; rw [List.getElem?_map, sumsL_at _ _ _ _ _ hK]; rfl)
  exact ⟨b, o, c', e, hx⟩

set_option maxRecDepth 100000 in
set_option maxHeartbeats 16000000 in
theorem law_treeSame (v0 : Value) (l : List Int) (nodes copies which a b : Int) (w : World) (hin : IntsIn w v0 .i64 l) (hT : TabV w) :
    Calls Tryd.prog 8 #[v0, .int .i64 nodes, .int .i64 copies, .int .i64 which, .int .i64 a, .int .i64 b] w fun e w' => e = .returned (.bool true) ∧ Ext w w' := by
  have HI := Lib.hid hin
  have HT := Lib.hid hT
  obtain ⟨a0, c0, rfl, hc0, hcm0, _⟩ := hin.getX
  clear hin hT
  obtain ⟨n, hn⟩ : ∃ n, n = l.length := ⟨_, rfl⟩
  have HNL := Lib.hid hn
  rw [← hn] at hc0 HI ⊢
  clear hn
  by_cases h100 : 100 < (n : Int)
  · go_enter Tryd.func8, Tryd.ntmps8
    go_wp2_with (go_at_call 35; go_must (refine (awake23_any _ HT.out.p).mono ?_); rintro e w7 ⟨rfl, hE7⟩)
    go_ret
    exact ⟨rfl, hE7⟩
  obtain ⟨N, hN⟩ : ∃ N : Nat, (N : Int) = 1 + nodes % 5 := ⟨(1 + nodes % 5).toNat, by omega⟩
  have hN1 : 1 ≤ N ∧ N ≤ 5 := by omega
  have HNN := Lib.hid hN.symm
  obtain ⟨C, hC⟩ : ∃ C : Nat, (C : Int) = 1 + copies % (N : Int) := ⟨(1 + copies % (N : Int)).toNat, by have := Int.emod_nonneg copies (show (N : Int) ≠ 0 by omega); omega⟩
  have hC1 : 1 ≤ C ∧ C ≤ N := by have := Int.emod_nonneg copies (show (N : Int) ≠ 0 by omega); have := Int.emod_lt_of_pos copies (show (0 : Int) < (N : Int) by omega); omega
  have HCC := Lib.hid hC.symm
  have hconf : confB N C 1 = true := by simp [confB]; omega
  have HCF := Lib.hid hconf
  obtain ⟨x, hx⟩ : ∃ x, x = a % (N : Int) := ⟨_, rfl⟩
  have HX := Lib.hid hx.symm
  obtain ⟨y, hy⟩ : ∃ y, y = b % (N : Int) := ⟨_, rfl⟩
  have HY := Lib.hid hy.symm
  clear hN hC hconf hx hy
  have HSV : Hid (∀ u : World, Ext w u → Calls Tryd.prog 51 #[.slice a0 n c0, .int .i64 6, .string ⟨#[]⟩] u fun e w' => ∃ (v' : Value) (L : List Pa), e = .returned v' ∧ Good6 L ∧ PartsT w' v' L ∧ Ext u w' ∧ ∀ q, v'.ownBlock = some q → u.heap.size ≤ q) := Lib.hid (fun u hu =>
    (several_own _ l 6 (by omega) ⟨#[]⟩ u (HI.out.ext hu)).mono fun e w' ⟨v', L, h1, h2, h3, h4, h5, h6⟩ => ⟨v', L, h1, ⟨h2, fun p hp => by rw [(h4 p hp).key]; exact ⟨by decide, h4 p hp⟩⟩, h3, h5, h6⟩)
  go_enter Tryd.func8, Tryd.ntmps8
  go_wp2_with (first
    | (go_at_call 32; have q := m1; rw [HNN.out]; go_must (refine (place_any copies N (by omega) (by omega) _).mono ?_); rintro e w4 ⟨rfl, rfl⟩)
    | (go_at_call 32; go_must (refine (place_any nodes 5 (by omega) (by omega) _).mono ?_); rintro e w4 ⟨rfl, rfl⟩; have m1 := trivial)
    | ((guard_target =~ wpList _ _ _ (Oper.mk none (Op.store _ (Operand.tmp 14) (Operand.tmp 37)) _ _ _ _ :: _) _ _); rw [HCC.out, show wrap64 (C : Int) = (C : Int) from by (unfold wrap64; omega)]; go_must (refine storeBox rfl 67 (.tmp 14) (.tmp 37) rfl (w.heap.size) _ _ _ (by rfl) (by rfl) (BoxAt.made w #[.int .i64 0, .int .i64 0, .int .i64 0] 67) (by kernel_rfl) (by rfl) (by simp [Value.oneCell']) ?_); intro w2 d2 g2; have hE2 : Ext w w2 := ((Ext.refl w).alloc _).grown g2 (fun q hq => by cases hq; exact Nat.le_refl _))
    | (go_at_call 51; go_must (refine (HSV.out _ hE2).mono ?_); rintro e w3 ⟨v3, L0, rfl, hL0, hP0, hE3, hq3⟩; obtain ⟨a3, c3, e3, hc36, hc3m, hg3⟩ := hP0.get; rw [hL0.1] at e3 hc36; subst e3; obtain ⟨b3, rfl, hpx⟩ := hg3 0 (by rw [hL0.1]; omega); clear hpx hg3))
  clear g2 m1
  have hb3 : w2.heap.size ≤ b3 := hq3 b3 rfl
  have HL0 := Lib.hid hL0
  have HP0 := Lib.hid hP0
  clear hL0 hP0 hq3
  go_loopw [16] (fun i wr => ∃ (k : Nat) (L : List Pa), k ≤ 6 ∧ i = .int .i64 k ∧ Hid (Good6 L) ∧ Hid (PartsT wr (.slice (some ⟨b3, 0, none⟩) 6 c3) L) ∧ Ext w2 wr) (fun i _ => 6 - (intOf i).toNat)
  case atStart => exact ⟨0, L0, Nat.zero_le _, rfl, HL0, HP0, hE3⟩
  case round =>
    clear HP0 HL0 hE3
    obtain ⟨k, L, hk, rfl, HG, HP, hE⟩ := hrel
    by_cases hk6 : k < 6
    · have hkl : k < L.length := by rw [HG.out.1]; exact hk6
      obtain ⟨Z, hZ⟩ := HP.out.box
      have p0 : ∃ s, wr.cell? ⟨b3, k * 3, none⟩ = some (.string s) := by
        obtain ⟨a', c', e, _, _, hg⟩ := HP.out.get
        obtain ⟨b', e', hp⟩ := hg k hkl
        injection e with e1 e2 e3
        rw [e'] at e1
        cases e1
        exact ⟨_, hp.c0⟩
      obtain ⟨s0, p0⟩ := p0
      have f0 := hZ.free (k * 3)
      go_wp2_with fail
      go_roundw
      case rel =>
        refine ⟨k + 1, L.set k (L[k].withKey _), hk6, by go_num, Lib.hid (HG.out.set hkl ?_), Lib.hid (HP.out.setKey HG.out.1.symm hkl _), hE.setCell (p := ⟨b3, k * 3, none⟩) hb3 _⟩
        simp only [ByteArray.size_extract]
        omega
      case measure => simp [intOf]; omega
    · obtain rfl : k = 6 := by omega
      have z := d2.ext hE
      have x0 : wr.cell? ⟨w.heap.size, 0, none⟩ = some (.int .i64 (N : Int)) := z.cell 0
      have x1 : wr.cell? ⟨w.heap.size, 1, none⟩ = some (.int .i64 (C : Int)) := z.cell 1
      have x2 : wr.cell? ⟨w.heap.size, 2, none⟩ = some (.int .i64 1) := z.cell 2
      have hEw := hE2.trans hE
      have HPI := Lib.hid HP.out.parts
      have HLN : Hid (L.length ≤ 1000000) := Lib.hid (by rw [HG.out.1]; omega)
      clear z
      go_upto_region 12 with (first
        | (go_at_call 32; have q := m2; go_must (refine (place_any b N (by omega) (by omega) _).mono ?_); rintro e w4 ⟨rfl, rfl⟩; rw [HY.out])
        | (go_at_call 32; go_must (refine (place_any a N (by omega) (by omega) _).mono ?_); rintro e w4 ⟨rfl, rfl⟩; rw [HX.out]; have m2 := trivial)
        | (go_at_call 40; go_must (refine (sums_yes N C 1 HCF.out _ L x y _ HPI.out HLN.out HG.out.key HG.out.low (HT.out.u.ext hEw)).mono ?_); rintro e w5 ⟨b5, ⟨rfl, hE5⟩, hb5⟩))
      have HS := Lib.hid (sums_ints hb5)
      clear hb5 m2 x0 x1 x2
      have hX5 := hE.trans hE5
      have z := d2.ext hX5
      have x0 := held (show w5.cell? ⟨w.heap.size, 0, none⟩ = some (.int .i64 (N : Int)) from z.cell 0)
      have x1 := held (show w5.cell? ⟨w.heap.size, 1, none⟩ = some (.int .i64 (C : Int)) from z.cell 1)
      have x2 := held (show w5.cell? ⟨w.heap.size, 2, none⟩ = some (.int .i64 1) from z.cell 2)
      refine wp_region_tab 17 [(3, fun v z => ∃ M, PartsT z v M ∧ M.map Pa.data = L.map Pa.data), (6, fun v z => IntsIn z v .i64 (sumsL N C x y L)), (7, fun v _ => v = .bool true), (12, fun v z => TsIn z v (stxs (sumsL N C x y L))), (13, fun v _ => ∃ a c, v = .slice a 0 c)] (by kernel_rfl) (by kernel_rfl) (by kernel_rfl) ⟨fun _ _ _ hE ⟨M, h1, h2⟩ => ⟨M, h1.ext hE, h2⟩, fun _ _ _ hE h => h.ext hE, stays_eq _, fun _ _ _ hE h => h.ext hE, fun _ _ _ hE h => h, trivial⟩ ?_
      refine rg_quiet rfl rfl rfl rfl ?_; intro K hK; go_big_quiet_op; go_big_quiet_on
      refine rg_quiet rfl rfl rfl rfl ?_; intro K hK; go_big_quiet_op; go_big_quiet_on
      refine rg_quiet rfl rfl rfl rfl ?_; intro K hK; go_big_quiet_op; go_big_quiet_on
      refine rg_fact [] rfl rfl rfl (by kernel_rfl) (fun u hE hf => ?_) (fun v3 u3 hE3 hG3 h3 => ?_)
      · go_simp
        refine (parts_any _ L u (HPI.out.ext (hE5.trans hE)) HLN.out HG.out.few).mono ?_
        rintro e w' ⟨v', M, ⟨⟨rfl, hw⟩, hP⟩, hM, _⟩
        exact ⟨_, rfl, rg_doneR hE hw ⟨M, hP, hM⟩⟩
      clear hE3 hG3 h3
      simp only [Act.put, List.setIfInBounds_toArray, List.set_cons_zero, List.set_cons_succ]
      refine rg_quiet rfl rfl rfl rfl ?_; intro K hK; go_big_quiet_op; go_big_quiet_on
      refine rg_quiet rfl rfl rfl rfl ?_; intro K hK; go_big_quiet_op; go_big_quiet_on
      refine rg_fact [3] rfl rfl rfl (by kernel_rfl) (fun u hE hf => ?_) (fun v6 u6 hE6 hG6 h6 => ?_)
      · obtain ⟨M, hP, hM⟩ := (hf 3 (by simp)).2 rfl
        go_simp
        have hgood : Good6 M := HG.out.data hM
        refine (sums_yes N C 1 HCF.out _ M y x u hP.parts (by rw [hgood.1]; omega) hgood.key hgood.low (HT.out.u.ext ((hE2.trans hX5).trans hE))).mono ?_
        rintro e w' ⟨b', ⟨rfl, hw⟩, hb'⟩
        exact ⟨_, rfl, rg_doneR hE hw (by rw [← sumsL_data hM, sumsL_comm]; exact sums_ints hb')⟩
      clear hE6 hG6 h6
      simp only [Act.put, List.setIfInBounds_toArray, List.set_cons_zero, List.set_cons_succ]
      refine rg_val [6] rfl rfl rfl (by kernel_rfl) (fun w1 hE hf => ?_) ?_
      · go_simp
        exact (sameInts_alike _ _ _ _ (HS.out.ext hE) ((hf 6 (by simp)).2 rfl)).mono fun e w' ⟨he, hw⟩ => ⟨_, he, rg_done hE hw (rfl)⟩
      simp only [Act.put, List.setIfInBounds_toArray, List.set_cons_zero, List.set_cons_succ]
      refine rg_quiet rfl rfl rfl rfl ?_; intro K hK; go_big_quiet_op; go_big_quiet_on
      refine rg_quiet rfl rfl rfl rfl ?_; intro K hK; go_big_quiet_op; go_big_quiet_on
      refine rg_quiet rfl rfl rfl rfl ?_; intro K hK; go_big_quiet_op; go_big_quiet_on
      refine rg_quiet rfl rfl rfl rfl ?_; intro K hK; go_big_quiet_op; go_big_quiet_on
      refine rg_fact [] rfl rfl rfl (by kernel_rfl) (fun u hE hf => ?_) (fun v12 u12 hE12 hG12 h12 => ?_)
      · go_simp
        refine (texts_any _ _ u (HS.out.ext hE) (sumsL_wf N C x y L) (by rw [sumsL_length]; omega) (pow10_ext HT.out.p ((hE2.trans hX5).trans hE))).mono ?_
        rintro e w' ⟨v', ⟨rfl, hw⟩, ho⟩
        exact ⟨_, rfl, rg_doneR hE hw (by have h := SliceIn.of_owns ho; unfold TsIn; simpa [stxs] using h)⟩
      clear hE12 hG12 h12
      simp only [Act.put, List.setIfInBounds_toArray, List.set_cons_zero, List.set_cons_succ]
      refine rg_fact [12] rfl rfl rfl (by kernel_rfl) (fun u hE hf => ?_) (fun v13 u13 hE13 hG13 h13 => ?_)
      · have h12 := (hf 12 (by simp)).2 rfl
        go_simp
        refine (other_any _ _ _ _ u (HS.out.ext hE) h12 (sumsL_wf N C x y L) (by rw [sumsL_length]; omega) (pow10_ext HT.out.p ((hE2.trans hX5).trans hE))).mono ?_
        rintro e w' ⟨v', ⟨rfl, hw⟩, ho⟩
        rw [oth_same] at ho
        obtain ⟨a', c', e', _⟩ := ho
        exact ⟨_, rfl, rg_doneR hE hw ⟨a', c', e'⟩⟩
      obtain ⟨a13, c13, rfl⟩ := h13
      clear hE13 hG13
      simp only [Act.put, List.setIfInBounds_toArray, List.set_cons_zero, List.set_cons_succ]
      refine rg_quiet rfl rfl rfl rfl ?_; intro K hK; go_big_quiet_op; go_big_quiet_on
      refine rg_quiet rfl rfl rfl rfl ?_; intro K hK; go_big_quiet_op; go_big_quiet_on
      refine rg_quiet rfl rfl rfl rfl ?_; intro K hK; go_big_quiet_op; go_big_quiet_on
      refine rel_nil fun w6 hE6 _ => ?_
      clear x0 x1 x2 z
      have hX6 := hX5.trans hE6
      obtain ⟨W, hW⟩ : ∃ W : Nat, (W : Int) = which % 6 := ⟨(which % 6).toNat, by omega⟩
      have hW6 : W < 6 := by omega
      have HW := Lib.hid hW.symm
      have hWL : W < L.length := by rw [HG.out.1]; exact hW6
      obtain ⟨g, hg⟩ : ∃ g, g = (L[W]).gone := ⟨_, rfl⟩
      have hg7 : 0 ≤ g ∧ g ≤ 7 := by rw [hg]; exact (HG.out.2 _ (List.getElem_mem hWL)).2.gone
      have HGG := Lib.hid hg
      clear hW hg
      go_upto_region 16 with (first
        | (go_at_call 32; go_must (refine (place_any which 6 (by omega) (by omega) _).mono ?_); rintro e w4 ⟨rfl, rfl⟩; rw [HW.out])
        | (go_at_call 37; go_must (refine (parts_any _ L _ (HPI.out.ext (hE5.trans hE6)) HLN.out HG.out.few).mono ?_); rintro e w7 ⟨v7, M, ⟨⟨rfl, hE7⟩, hP7⟩, hM7, hq7⟩; obtain ⟨b7, c7, rfl, hc76, hc7m⟩ := parts_block hP7 (HG.out.data hM7).1 (by omega)))
      have hb7 : w6.heap.size ≤ b7 := hq7 b7 rfl
      have hWM : W < M.length := by rw [(HG.out.data hM7).1]; exact hW6
      have HM7 := Lib.hid hM7
      have HP7 := Lib.hid hP7
      obtain ⟨Z7, hZ7⟩ := hP7.box
      have p1 : w7.cell? ⟨b7, W * 3 + 1, none⟩ = some (.int .i64 g) := by
        have h := (parts_at hP7 hWM).c1
        have h2 : (M.map Pa.data)[W]? = (L.map Pa.data)[W]? := by rw [hM7]
        rw [List.getElem?_map, List.getElem?_map, List.getElem?_eq_getElem hWL, List.getElem?_eq_getElem hWM] at h2
        have h3 : M[W].gone = L[W].gone := by unfold Pa.data at h2; simp at h2; exact h2.2.1
        rw [h, HGG.out, h3]
      have f1 := hZ7.free (W * 3 + 1)
      clear hq7 hM7 hP7
      go_upto_region 17 with fail
      have HP8 := Lib.hid (HP7.out.setGone (HG.out.data HM7.out).1.symm hWM (g + 1))
      have hE8 : Ext w6 (w7.setCell ⟨b7, W * 3 + 1, none⟩ (.int .i64 (g + 1))) := hE7.setCell (p := ⟨b7, W * 3 + 1, none⟩) hb7 _
      generalize w7.setCell _ _ = w8 at HP8 hE8 ⊢
      obtain ⟨M', hM'⟩ : ∃ M', M' = M.set W (M[W].withGone (g + 1)) := ⟨_, rfl⟩
      obtain ⟨p', hp'⟩ : ∃ p', p' = L[W].withGone (g + 1) := ⟨_, rfl⟩
      obtain ⟨T, hTd⟩ : ∃ T, T = L.set W p' := ⟨_, rfl⟩
      have HMT : Hid (M'.map Pa.data = T.map Pa.data) := Lib.hid (by rw [hM', hTd, hp']; exact set_gone_data HM7.out hWL hWM (g + 1))
      have HMk : Hid (∀ p ∈ M', p.key.size ≤ maxLen) := Lib.hid (by rw [hM']; exact set_gone_mem hWM (P := fun p => p.key.size ≤ maxLen) (fun _ h => h) (HG.out.data HM7.out).key)
      have HMl : Hid (∀ p ∈ M', ∀ q ∈ p.ps, ∀ d ∈ q.1.cols, d.name.size ≤ 1000000) := Lib.hid (by rw [hM']; exact set_gone_mem hWM (P := fun p => ∀ q ∈ p.ps, ∀ d ∈ q.1.cols, d.name.size ≤ 1000000) (fun _ h => h) (HG.out.data HM7.out).low)
      have HMn : Hid (M'.length ≤ 1000000) := Lib.hid (by rw [hM', List.length_set, (HG.out.data HM7.out).1]; omega)
      have HMS : Hid (sumsL N C x y M' = sumsL N C x y T) := Lib.hid (sumsL_data HMT.out)
      rw [← hM'] at HP8
      obtain ⟨ky, hky⟩ : ∃ ky, ky = L[W].key := ⟨_, rfl⟩
      have hkz : ky.size ≤ maxLen := by rw [hky]; exact HG.out.key _ (List.getElem_mem hWL)
      obtain ⟨K, hK⟩ : ∃ K, K = bucket1 ky := ⟨_, rfl⟩
      have hK16 : K < 16 := by rw [hK]; exact bucket1_lt _
      obtain ⟨D, hD⟩ : ∃ D : Bool, D = decide (¬ sumAt N C x y L K = sumAt N C x y T K) := ⟨_, rfl⟩
      obtain ⟨OL, hOL⟩ : ∃ OL, OL = if D = true then [(K : Int)] else [] := ⟨_, rfl⟩
      have HOL := Lib.hid hOL
      have HOT : Hid (oth (stxs (sumsL N C x y L)) (stxs (sumsL N C x y T)) 16 = OL) := Lib.hid (by
        rw [hOL, hTd, oth_turn hWL (by rw [hp']; rfl), ← hky, ← hK, hD, hTd]
        by_cases h : sumAt N C x y L K = sumAt N C x y (L.set W p') K
        · rw [if_pos h, if_neg (by simp [h])]
        · rw [if_neg h, if_pos (by simp [h])])
      have HBT : Hid (bothP N C x y L[W] = false → D = false) := Lib.hid (fun h => by rw [hD, hTd, turn_no hWL (by rw [hp']; rfl) h]; simp)
      have HKY := Lib.hid hky
      have HK := Lib.hid hK
      have HD := Lib.hid hD
      have hX8 := hX6.trans hE8
      have HL8 := Lib.hid (HP.out.ext ((hE5.trans hE6).trans hE8))
      have z := d2.ext hX8
      have x0 : w8.cell? ⟨w.heap.size, 0, none⟩ = some (.int .i64 (N : Int)) := z.cell 0
      have x1 : w8.cell? ⟨w.heap.size, 1, none⟩ = some (.int .i64 (C : Int)) := z.cell 1
      have x2 : w8.cell? ⟨w.heap.size, 2, none⟩ = some (.int .i64 1) := z.cell 2
      clear hM' hp' hTd hky hK hD hZ7 p1 f1 hOL
      go_upto_region 19 with (first
        | (go_at_call 40; go_must (refine (sums_yes N C 1 HCF.out _ M' x y _ HP8.out.parts HMn.out HMk.out HMl.out (HT.out.u.ext (hE2.trans hX8))).mono ?_); rintro e w9 ⟨b9, ⟨rfl, hE9⟩, hb9⟩; have hs9 := sums_ints hb9; rw [HMS.out] at hs9; have HS9 := Lib.hid hs9; clear hb9 hs9; have hX9 := hX8.trans hE9)
        | (go_at_call 43; go_must (refine (texts_any _ _ _ HS9.out (sumsL_wf N C x y T) (by rw [sumsL_length]; omega) (pow10_ext HT.out.p (hE2.trans hX9))).mono ?_); rintro e w10 ⟨v10, ⟨rfl, hE10⟩, ho10⟩; have h10 : TsIn w10 v10 (stxs (sumsL N C x y T)) := (by have h := SliceIn.of_owns ho10; unfold TsIn; simpa [stxs] using h); have H10 := Lib.hid h10; obtain ⟨a10, c10, rfl, _⟩ := h10.get; clear ho10; have hX10 := hX9.trans hE10)
        | (go_at_call 45; go_must (refine (other_any _ _ _ _ _ (HS.out.ext ((hE6.trans hE8).trans (hE9.trans hE10))) H10.out (sumsL_wf N C x y L) (by rw [sumsL_length]; omega) (pow10_ext HT.out.p (hE2.trans hX10))).mono ?_); rintro e w11 ⟨v11, ⟨rfl, hE11⟩, ho11⟩; rw [sumsL_length, HOT.out] at ho11; obtain ⟨a11, c11, rfl, hc11, hcm11, hg11⟩ := ho11.getX; have HO11 := Lib.hid hg11; obtain ⟨r, hr⟩ : ∃ r, r = OL.length := ⟨_, rfl⟩; rw [← hr] at hc11 ⊢; have HR := Lib.hid hr; clear hr; clear ho11 hg11; have hX11 := hX10.trans hE11; have p0 : w11.cell? ⟨b3, W * 3, none⟩ = some (.string ky) := (by have h := ((parts_at HL8.out hWL).ext (hE9.trans (hE10.trans hE11))).c0; rw [h, HKY.out]))
        | (go_at_call 49; go_must (refine (rbucket_any ky hkz _).mono ?_); rintro e w12 ⟨rfl, hE12⟩; rw [← HK.out]; have hX12 := hX11.trans hE12))
      clear x0 x1 x2 p0 z
      have HPK : Hid (w12.cell? ⟨b3, W * 3, none⟩ = some (.string ky)) := Lib.hid (by have h := ((parts_at HL8.out hWL).ext (hE9.trans (hE10.trans (hE11.trans hE12)))).c0; rw [h, HKY.out])
      go_cut [23] from 112 (fun bv wc => bv = .bool D ∧ Ext w12 wc)
      case first =>
        have z := d2.ext hX12
        have x0 := held (show w12.cell? ⟨w.heap.size, 0, none⟩ = some (.int .i64 (N : Int)) from z.cell 0)
        have x1 := held (show w12.cell? ⟨w.heap.size, 1, none⟩ = some (.int .i64 (C : Int)) from z.cell 1)
        have x2 := held (show w12.cell? ⟨w.heap.size, 2, none⟩ = some (.int .i64 1) from z.cell 2)
        have p0 := held HPK.out
        obtain ⟨A, hA⟩ : ∃ A, A = ownN N C (place1 ky) x := ⟨_, rfl⟩
        obtain ⟨B, hB⟩ : ∃ B, B = ownN N C (place1 ky) y := ⟨_, rfl⟩
        have HAB : Hid (bothP N C x y L[W] = (A && B)) := Lib.hid (by unfold bothP; rw [hA, hB, HKY.out])
        have HA := Lib.hid hA
        have HB := Lib.hid hB
        have hw6 : decide ((W : Int) < 6) = true := by simp; omega
        clear hA hB z
        cases A
        · obtain rfl : D = false := HBT.out (by rw [HAB.out]; rfl)
          refine wp_region_tab 37 [(7, fun v _ => v = .bool false)] (by kernel_rfl) (by kernel_rfl) (by kernel_rfl) ⟨stays_eq _, trivial⟩ ?_
          refine rg_quiet rfl rfl rfl rfl ?_; intro K hK; go_big_quiet_op; go_big_quiet_on
          refine rg_quiet rfl rfl rfl rfl ?_; intro K hK; go_big_quiet_op; go_big_quiet_on
          refine rg_quiet rfl rfl rfl rfl ?_; intro K hK; go_big_quiet_op; go_big_quiet_on
          refine rg_quiet rfl rfl rfl rfl ?_; intro K hK; go_big_quiet_op; go_big_quiet_on
          refine rg_quiet rfl rfl rfl rfl ?_; intro K hK; go_big_quiet_op; go_big_quiet_on
          refine rg_quiet rfl rfl rfl rfl ?_; intro K hK; go_big_quiet_op; go_big_quiet_on
          refine rg_quiet rfl rfl rfl rfl ?_; intro K hK; go_big_quiet_op; go_big_quiet_on
          refine rg_val [] rfl rfl rfl (by kernel_rfl) (fun w1 hE hf => ?_) ?_
          · go_simp
            exact ((HA.out ▸ owns20_yes N C 1 HCF.out ky hkz x _)).mono fun e w' ⟨he, hw⟩ => ⟨_, he, rg_done hE hw (rfl)⟩
          simp only [Act.put, List.setIfInBounds_toArray, List.set_cons_zero, List.set_cons_succ]
          refine rg_quiet rfl rfl rfl rfl ?_; intro K hK; go_big_quiet_op; go_big_quiet_on
          refine rel_skip rfl rfl ?_
          simp only [Act.put, List.setIfInBounds_toArray, List.set_cons_zero, List.set_cons_succ]
          refine rel_skip rfl rfl ?_
          simp only [Act.put, List.setIfInBounds_toArray, List.set_cons_zero, List.set_cons_succ]
          refine rel_skip rfl rfl ?_
          simp only [Act.put, List.setIfInBounds_toArray, List.set_cons_zero, List.set_cons_succ]
          refine rel_skip rfl rfl ?_
          simp only [Act.put, List.setIfInBounds_toArray, List.set_cons_zero, List.set_cons_succ]
          refine rel_skip rfl rfl ?_
          simp only [Act.put, List.setIfInBounds_toArray, List.set_cons_zero, List.set_cons_succ]
          refine rel_skip rfl rfl ?_
          simp only [Act.put, List.setIfInBounds_toArray, List.set_cons_zero, List.set_cons_succ]
          refine rel_skip rfl rfl ?_
          simp only [Act.put, List.setIfInBounds_toArray, List.set_cons_zero, List.set_cons_succ]
          refine rel_skip rfl rfl ?_
          simp only [Act.put, List.setIfInBounds_toArray, List.set_cons_zero, List.set_cons_succ]
          refine rg_quiet rfl rfl rfl rfl ?_; intro K hK; go_big_quiet_op; go_big_quiet_on
          refine rg_quiet rfl rfl rfl rfl ?_; intro K hK; go_big_quiet_op; go_big_quiet_on
          refine rel_skip rfl rfl ?_
          simp only [Act.put, List.setIfInBounds_toArray, List.set_cons_zero, List.set_cons_succ]
          refine rel_skip rfl rfl ?_
          simp only [Act.put, List.setIfInBounds_toArray, List.set_cons_zero, List.set_cons_succ]
          refine rel_skip rfl rfl ?_
          simp only [Act.put, List.setIfInBounds_toArray, List.set_cons_zero, List.set_cons_succ]
          refine rel_skip rfl rfl ?_
          simp only [Act.put, List.setIfInBounds_toArray, List.set_cons_zero, List.set_cons_succ]
          refine rel_skip rfl rfl ?_
          simp only [Act.put, List.setIfInBounds_toArray, List.set_cons_zero, List.set_cons_succ]
          refine rel_skip rfl rfl ?_
          simp only [Act.put, List.setIfInBounds_toArray, List.set_cons_zero, List.set_cons_succ]
          refine rel_skip rfl rfl ?_
          simp only [Act.put, List.setIfInBounds_toArray, List.set_cons_zero, List.set_cons_succ]
          refine rel_skip rfl rfl ?_
          simp only [Act.put, List.setIfInBounds_toArray, List.set_cons_zero, List.set_cons_succ]
          refine rel_skip rfl rfl ?_
          simp only [Act.put, List.setIfInBounds_toArray, List.set_cons_zero, List.set_cons_succ]
          refine rel_skip rfl rfl ?_
          simp only [Act.put, List.setIfInBounds_toArray, List.set_cons_zero, List.set_cons_succ]
          refine rel_skip rfl rfl ?_
          simp only [Act.put, List.setIfInBounds_toArray, List.set_cons_zero, List.set_cons_succ]
          refine rel_skip rfl rfl ?_
          simp only [Act.put, List.setIfInBounds_toArray, List.set_cons_zero, List.set_cons_succ]
          refine rel_skip rfl rfl ?_
          simp only [Act.put, List.setIfInBounds_toArray, List.set_cons_zero, List.set_cons_succ]
          refine rel_skip rfl rfl ?_
          simp only [Act.put, List.setIfInBounds_toArray, List.set_cons_zero, List.set_cons_succ]
          refine rel_skip rfl rfl ?_
          simp only [Act.put, List.setIfInBounds_toArray, List.set_cons_zero, List.set_cons_succ]
          refine rel_skip rfl rfl ?_
          simp only [Act.put, List.setIfInBounds_toArray, List.set_cons_zero, List.set_cons_succ]
          refine rel_skip rfl rfl ?_
          simp only [Act.put, List.setIfInBounds_toArray, List.set_cons_zero, List.set_cons_succ]
          refine rg_quiet rfl rfl rfl rfl ?_; intro K hK; go_big_quiet_op; go_big_quiet_on
          refine rel_tail rfl rfl fun w13 hE13 _ => ?_
          go_wp2_with fail
          go_meet
          case rel => exact ⟨rfl, hE13⟩
        · cases B
          · obtain rfl : D = false := HBT.out (by rw [HAB.out]; rfl)
            refine wp_region_tab 37 [(7, fun v _ => v = .bool true), (16, fun v _ => v = .bool false)] (by kernel_rfl) (by kernel_rfl) (by kernel_rfl) ⟨stays_eq _, stays_eq _, trivial⟩ ?_
            refine rg_quiet rfl rfl rfl rfl ?_; intro K hK; go_big_quiet_op; go_big_quiet_on
            refine rg_quiet rfl rfl rfl rfl ?_; intro K hK; go_big_quiet_op; go_big_quiet_on
            refine rg_quiet rfl rfl rfl rfl ?_; intro K hK; go_big_quiet_op; go_big_quiet_on
            refine rg_quiet rfl rfl rfl rfl ?_; intro K hK; go_big_quiet_op; go_big_quiet_on
            refine rg_quiet rfl rfl rfl rfl ?_; intro K hK; go_big_quiet_op; go_big_quiet_on
            refine rg_quiet rfl rfl rfl rfl ?_; intro K hK; go_big_quiet_op; go_big_quiet_on
            refine rg_quiet rfl rfl rfl rfl ?_; intro K hK; go_big_quiet_op; go_big_quiet_on
            refine rg_val [] rfl rfl rfl (by kernel_rfl) (fun w1 hE hf => ?_) ?_
            · go_simp
              exact ((HA.out ▸ owns20_yes N C 1 HCF.out ky hkz x _)).mono fun e w' ⟨he, hw⟩ => ⟨_, he, rg_done hE hw (rfl)⟩
            simp only [Act.put, List.setIfInBounds_toArray, List.set_cons_zero, List.set_cons_succ]
            refine rg_quiet rfl rfl rfl rfl ?_; intro K hK; go_big_quiet_op; go_big_quiet_on
            refine rg_quiet rfl rfl rfl rfl ?_; intro K hK; go_big_quiet_op; go_big_quiet_on
            refine rg_quiet rfl rfl rfl rfl ?_; intro K hK; go_big_quiet_op; go_big_quiet_on
            refine rg_quiet rfl rfl rfl rfl ?_; intro K hK; go_big_quiet_op; go_big_quiet_on
            refine rg_quiet rfl rfl rfl rfl ?_; intro K hK; go_big_quiet_op; go_big_quiet_on
            refine rg_quiet rfl rfl rfl rfl ?_; intro K hK; go_big_quiet_op; go_big_quiet_on
            refine rg_quiet rfl rfl rfl rfl ?_; intro K hK; go_big_quiet_op; go_big_quiet_on
            refine rg_quiet rfl rfl rfl rfl ?_; intro K hK; go_big_quiet_op; go_big_quiet_on
            refine rg_val [] rfl rfl rfl (by kernel_rfl) (fun w1 hE hf => ?_) ?_
            · go_simp
              exact ((HB.out ▸ owns20_yes N C 1 HCF.out ky hkz y _)).mono fun e w' ⟨he, hw⟩ => ⟨_, he, rg_done hE hw (rfl)⟩
            simp only [Act.put, List.setIfInBounds_toArray, List.set_cons_zero, List.set_cons_succ]
            refine rg_quiet rfl rfl rfl rfl ?_; intro K hK; go_big_quiet_op; go_big_quiet_on
            refine rg_quiet rfl rfl rfl rfl ?_; intro K hK; go_big_quiet_op; go_big_quiet_on
            refine rel_skip rfl rfl ?_
            simp only [Act.put, List.setIfInBounds_toArray, List.set_cons_zero, List.set_cons_succ]
            refine rel_skip rfl rfl ?_
            simp only [Act.put, List.setIfInBounds_toArray, List.set_cons_zero, List.set_cons_succ]
            refine rel_skip rfl rfl ?_
            simp only [Act.put, List.setIfInBounds_toArray, List.set_cons_zero, List.set_cons_succ]
            refine rel_skip rfl rfl ?_
            simp only [Act.put, List.setIfInBounds_toArray, List.set_cons_zero, List.set_cons_succ]
            refine rel_skip rfl rfl ?_
            simp only [Act.put, List.setIfInBounds_toArray, List.set_cons_zero, List.set_cons_succ]
            refine rel_skip rfl rfl ?_
            simp only [Act.put, List.setIfInBounds_toArray, List.set_cons_zero, List.set_cons_succ]
            refine rel_skip rfl rfl ?_
            simp only [Act.put, List.setIfInBounds_toArray, List.set_cons_zero, List.set_cons_succ]
            refine rel_skip rfl rfl ?_
            simp only [Act.put, List.setIfInBounds_toArray, List.set_cons_zero, List.set_cons_succ]
            refine rel_skip rfl rfl ?_
            simp only [Act.put, List.setIfInBounds_toArray, List.set_cons_zero, List.set_cons_succ]
            refine rel_skip rfl rfl ?_
            simp only [Act.put, List.setIfInBounds_toArray, List.set_cons_zero, List.set_cons_succ]
            refine rel_skip rfl rfl ?_
            simp only [Act.put, List.setIfInBounds_toArray, List.set_cons_zero, List.set_cons_succ]
            refine rel_skip rfl rfl ?_
            simp only [Act.put, List.setIfInBounds_toArray, List.set_cons_zero, List.set_cons_succ]
            refine rel_skip rfl rfl ?_
            simp only [Act.put, List.setIfInBounds_toArray, List.set_cons_zero, List.set_cons_succ]
            refine rel_skip rfl rfl ?_
            simp only [Act.put, List.setIfInBounds_toArray, List.set_cons_zero, List.set_cons_succ]
            refine rel_skip rfl rfl ?_
            simp only [Act.put, List.setIfInBounds_toArray, List.set_cons_zero, List.set_cons_succ]
            refine rel_skip rfl rfl ?_
            simp only [Act.put, List.setIfInBounds_toArray, List.set_cons_zero, List.set_cons_succ]
            refine rel_skip rfl rfl ?_
            simp only [Act.put, List.setIfInBounds_toArray, List.set_cons_zero, List.set_cons_succ]
            refine rg_quiet rfl rfl rfl rfl ?_; intro K hK; go_big_quiet_op; go_big_quiet_on
            refine rel_tail rfl rfl fun w13 hE13 _ => ?_
            go_wp2_with fail
            go_meet
            case rel => exact ⟨rfl, hE13⟩
          · obtain ⟨SL, hSL⟩ : ∃ SL : Int, SL = (sumAt N C x y L K : Int) := ⟨_, rfl⟩
            obtain ⟨SM, hSM⟩ : ∃ SM : Int, SM = (sumAt N C x y T K : Int) := ⟨_, rfl⟩
            have HSL := Lib.hid hSL
            have HSM := Lib.hid hSM
            have hneD : (!(SL == SM)) = D := by
              rw [HD.out, hSL, hSM, Bool.eq_iff_iff]
              simp
              omega
            have HND := Lib.hid hneD
            have hK16i : (K : Int) < 16 := by omega
            clear hSL hSM hneD
            refine wp_region_tab 37 [(7, fun v _ => v = .bool true), (16, fun v _ => v = .bool true), (23, fun v z => ∃ b o c, v = .slice (some ⟨b, o, none⟩) 16 c ∧ z.cell? ⟨b, o + K, none⟩ = some (.int .i64 SL)), (26, fun v _ => v = .int .i64 SL), (31, fun v z => ∃ b o c, v = .slice (some ⟨b, o, none⟩) 16 c ∧ z.cell? ⟨b, o + K, none⟩ = some (.int .i64 SM)), (34, fun v _ => v = .int .i64 SM)] (by kernel_rfl) (by kernel_rfl) (by kernel_rfl) ⟨stays_eq _, stays_eq _, fun _ _ _ hE ⟨b, o, c, h1, h2⟩ => ⟨b, o, c, h1, hE.cell h2⟩, stays_eq _, fun _ _ _ hE ⟨b, o, c, h1, h2⟩ => ⟨b, o, c, h1, hE.cell h2⟩, stays_eq _, trivial⟩ ?_
            refine rg_quiet rfl rfl rfl rfl ?_; intro K hK; go_big_quiet_op; go_big_quiet_on
            refine rg_quiet rfl rfl rfl rfl ?_; intro K hK; go_big_quiet_op; go_big_quiet_on
            refine rg_quiet rfl rfl rfl rfl ?_; intro K hK; go_big_quiet_op; go_big_quiet_on
            refine rg_quiet rfl rfl rfl rfl ?_; intro K hK; go_big_quiet_op; go_big_quiet_on
            refine rg_quiet rfl rfl rfl rfl ?_; intro K hK; go_big_quiet_op; go_big_quiet_on
            refine rg_quiet rfl rfl rfl rfl ?_; intro K hK; go_big_quiet_op; go_big_quiet_on
            refine rg_quiet rfl rfl rfl rfl ?_; intro K hK; go_big_quiet_op; go_big_quiet_on
            refine rg_val [] rfl rfl rfl (by kernel_rfl) (fun w1 hE hf => ?_) ?_
            · go_simp
              exact ((HA.out ▸ owns20_yes N C 1 HCF.out ky hkz x _)).mono fun e w' ⟨he, hw⟩ => ⟨_, he, rg_done hE hw (rfl)⟩
            simp only [Act.put, List.setIfInBounds_toArray, List.set_cons_zero, List.set_cons_succ]
            refine rg_quiet rfl rfl rfl rfl ?_; intro K hK; go_big_quiet_op; go_big_quiet_on
            refine rg_quiet rfl rfl rfl rfl ?_; intro K hK; go_big_quiet_op; go_big_quiet_on
            refine rg_quiet rfl rfl rfl rfl ?_; intro K hK; go_big_quiet_op; go_big_quiet_on
            refine rg_quiet rfl rfl rfl rfl ?_; intro K hK; go_big_quiet_op; go_big_quiet_on
            refine rg_quiet rfl rfl rfl rfl ?_; intro K hK; go_big_quiet_op; go_big_quiet_on
            refine rg_quiet rfl rfl rfl rfl ?_; intro K hK; go_big_quiet_op; go_big_quiet_on
            refine rg_quiet rfl rfl rfl rfl ?_; intro K hK; go_big_quiet_op; go_big_quiet_on
            refine rg_quiet rfl rfl rfl rfl ?_; intro K hK; go_big_quiet_op; go_big_quiet_on
            refine rg_val [] rfl rfl rfl (by kernel_rfl) (fun w1 hE hf => ?_) ?_
            · go_simp
              exact ((HB.out ▸ owns20_yes N C 1 HCF.out ky hkz y _)).mono fun e w' ⟨he, hw⟩ => ⟨_, he, rg_done hE hw (rfl)⟩
            simp only [Act.put, List.setIfInBounds_toArray, List.set_cons_zero, List.set_cons_succ]
            refine rg_quiet rfl rfl rfl rfl ?_; intro K hK; go_big_quiet_op; go_big_quiet_on
            refine rg_quiet rfl rfl rfl rfl ?_; intro K hK; go_big_quiet_op; go_big_quiet_on
            refine rg_quiet rfl rfl rfl rfl ?_; intro K hK; go_big_quiet_op; go_big_quiet_on
            refine rg_quiet rfl rfl rfl rfl ?_; intro K hK; go_big_quiet_op; go_big_quiet_on
            refine rg_quiet rfl rfl rfl rfl ?_; intro K hK; go_big_quiet_op; go_big_quiet_on
            refine rg_quiet rfl rfl rfl rfl ?_; intro K hK; go_big_quiet_op; go_big_quiet_on
            refine rg_fact [] rfl rfl rfl (by kernel_rfl) (fun u hE hf => ?_) (fun v23 u23 hE23 hG23 h23 => ?_)
            · go_simp
              refine (sums23_yes N C 1 HCF.out _ L x y u ((HL8.out.ext (hE9.trans (hE10.trans (hE11.trans (hE12.trans hE))))).parts) HLN.out HG.out.key HG.out.low).mono ?_
              rintro e w' ⟨v', ⟨rfl, hw⟩, ho⟩
              exact ⟨_, rfl, rg_doneR hE hw (by rw [HSL.out]; obtain ⟨b', o', c', h1, h2⟩ := sums_cell ho hK16; exact ⟨b', o', ⟨c', h1⟩, h2⟩)⟩
            obtain ⟨b23, o23, c23, rfl, _⟩ := h23
            clear hE23 hG23
            simp only [Act.put, List.setIfInBounds_toArray, List.set_cons_zero, List.set_cons_succ]
            refine rg_quiet rfl rfl rfl rfl ?_; intro K hK; go_big_quiet_op; go_big_quiet_on
            refine rg_quiet rfl rfl rfl rfl ?_; intro K hK; go_big_quiet_op; go_big_quiet_on
            refine rg_val [23] rfl rfl rfl (by kernel_rfl) (fun u hE hf => ?_) ?_
            · obtain ⟨b', o', c', e', hc'⟩ := (hf 23 (by simp)).2 rfl
              cases e'
              go_simp
              exact rg_done hE (Ext.refl u) rfl
            simp only [Act.put, List.setIfInBounds_toArray, List.set_cons_zero, List.set_cons_succ]
            refine rg_quiet rfl rfl rfl rfl ?_; intro K hK; go_big_quiet_op; go_big_quiet_on
            refine rg_quiet rfl rfl rfl rfl ?_; intro K hK; go_big_quiet_op; go_big_quiet_on
            refine rg_quiet rfl rfl rfl rfl ?_; intro K hK; go_big_quiet_op; go_big_quiet_on
            refine rg_quiet rfl rfl rfl rfl ?_; intro K hK; go_big_quiet_op; go_big_quiet_on
            refine rg_fact [] rfl rfl rfl (by kernel_rfl) (fun u hE hf => ?_) (fun v31 u31 hE31 hG31 h31 => ?_)
            · go_simp
              refine (sums23_yes N C 1 HCF.out _ M' x y u ((HP8.out.ext (hE9.trans (hE10.trans (hE11.trans (hE12.trans hE))))).parts) HMn.out HMk.out HMl.out).mono ?_
              rintro e w' ⟨v', ⟨rfl, hw⟩, ho⟩
              rw [HMS.out] at ho
              exact ⟨_, rfl, rg_doneR hE hw (by rw [HSM.out]; obtain ⟨b', o', c', h1, h2⟩ := sums_cell ho hK16; exact ⟨b', o', ⟨c', h1⟩, h2⟩)⟩
            obtain ⟨b31, o31, c31, rfl, _⟩ := h31
            clear hE31 hG31
            simp only [Act.put, List.setIfInBounds_toArray, List.set_cons_zero, List.set_cons_succ]
            refine rg_quiet rfl rfl rfl rfl ?_; intro K hK; go_big_quiet_op; go_big_quiet_on
            refine rg_quiet rfl rfl rfl rfl ?_; intro K hK; go_big_quiet_op; go_big_quiet_on
            refine rg_val [31] rfl rfl rfl (by kernel_rfl) (fun u hE hf => ?_) ?_
            · obtain ⟨b', o', c', e', hc'⟩ := (hf 31 (by simp)).2 rfl
              cases e'
              go_simp
              exact rg_done hE (Ext.refl u) rfl
            simp only [Act.put, List.setIfInBounds_toArray, List.set_cons_zero, List.set_cons_succ]
            refine rg_quiet rfl rfl rfl rfl ?_; intro K hK; go_big_quiet_op; go_big_quiet_on
            refine rg_quiet rfl rfl rfl rfl ?_; intro K hK; go_big_quiet_op; go_big_quiet_on
            refine rel_tail rfl rfl fun w13 hE13 _ => ?_
            go_wp2_with fail
            go_meet
            case rel => exact ⟨by rw [← HND.out]; rfl, hE13⟩
      case rest =>
        obtain ⟨rfl, hE13⟩ := hcut
        have hX13 := hX12.trans hE13
        have hE813 := hE9.trans (hE10.trans (hE11.trans (hE12.trans hE13)))
        have HPA := Lib.hid ((parts_at HL8.out hWL).ext hE813)
        have HRO := Lib.hid ((HL8.out.rows _ (List.getElem_mem hWL)).ext hE813)
        have HPT := Lib.hid (HG.out.pt _ (List.getElem_mem hWL))
        have HLW := Lib.hid (HG.out.low _ (List.getElem_mem hWL))
        obtain ⟨P, hP⟩ : ∃ P, P = L[W] := ⟨_, rfl⟩
        rw [← hP] at HPA HRO HPT HLW
        clear hP HPK
        obtain ⟨pk, pg, pv, ps⟩ := P
        have HRO' : Hid (RowsT wc pv ps) := Lib.hid HRO.out
        clear HRO
        obtain ⟨av, cv, rfl⟩ := HRO'.out.shape
        have hrD : (r = 0 ∧ D = false) ∨ (r = 1 ∧ D = true ∧ ∃ bo oo, a11 = some ⟨bo, oo, none⟩ ∧ wc.cell? ⟨bo, oo, none⟩ = some (.int .i64 (K : Int))) := by
          cases hDc : D
          · exact .inl ⟨by rw [HR.out, HOL.out, hDc]; rfl, rfl⟩
          · refine .inr ⟨by rw [HR.out, HOL.out, hDc]; rfl, rfl, ?_⟩
            have hOL : OL = [(K : Int)] := by rw [HOL.out, hDc]; rfl
            obtain ⟨bo, oo, h1, h2⟩ := HO11.out 0 (by rw [hOL]; exact Nat.zero_lt_one)
            refine ⟨bo, oo, h1, (hE12.trans hE13).cell ?_⟩
            rw [← Nat.add_zero oo, h2]
            simp [hOL]
        rcases hrD with ⟨rfl, rfl⟩ | ⟨rfl, rfl, bo, oo, rfl, hco⟩
        · go_wp2_with fail
          go_loopw [24] (fun i wr => i = .int .i64 0 ∧ Ext wc wr) (fun _ _ => 0)
          case atStart => exact ⟨rfl, Ext.refl _⟩
          case round =>
            obtain ⟨rfl, hE14⟩ := hrel
            have h14 := HPA.out.ext hE14
            have p0 : wr.cell? ⟨b3, W * 3, none⟩ = some (.string pk) := h14.c0
            have p1 : wr.cell? ⟨b3, W * 3 + 1, none⟩ = some (.int .i64 pg) := h14.c1
            have p2 : wr.cell? ⟨b3, W * 3 + 2, none⟩ = some (.slice av ps.length cv) := h14.c2
            go_wp2_with (first
              | (go_at_call 50; go_must (refine (check8_any pk pg _ ps _ (HRO'.out.ext hE14).rows HLW.out).mono ?_); rintro e w15 ⟨rfl, hE15⟩; rw [show ptB pk pg (ps.map (·.1)) = true from HPT.out])
              | (go_at_call 35; go_must (refine (awake23_any _ (pow10_ext HT.out.p (hE2.trans (hX13.trans (hE14.trans hE15))))).mono ?_); rintro e w16 ⟨rfl, hE16⟩))
            go_ret
            exact ⟨rfl, (hE2.trans (hX13.trans (hE14.trans hE15))).trans hE16⟩
        · go_wp2_with fail
          go_loopw [24] (fun i wr => ∃ q : Nat, q ≤ 1 ∧ i = .int .i64 q ∧ Ext wc wr) (fun i _ => 1 - (intOf i).toNat)
          case atStart => exact ⟨0, by omega, rfl, Ext.refl _⟩
          case round =>
            obtain ⟨q, hq, rfl, hE14⟩ := hrel
            by_cases hq0 : q = 0
            · subst hq0
              have c0 := hE14.cell hco
              go_wp2_with fail
              go_roundw
              case rel => exact ⟨1, by omega, by go_num, hE14⟩
              case measure => simp [intOf]
            · obtain rfl : q = 1 := by omega
              have h14 := HPA.out.ext hE14
              have p0 : wr.cell? ⟨b3, W * 3, none⟩ = some (.string pk) := h14.c0
              have p1 : wr.cell? ⟨b3, W * 3 + 1, none⟩ = some (.int .i64 pg) := h14.c1
              have p2 : wr.cell? ⟨b3, W * 3 + 2, none⟩ = some (.slice av ps.length cv) := h14.c2
              go_wp2_with (first
                | (go_at_call 50; go_must (refine (check8_any pk pg _ ps _ (HRO'.out.ext hE14).rows HLW.out).mono ?_); rintro e w15 ⟨rfl, hE15⟩; rw [show ptB pk pg (ps.map (·.1)) = true from HPT.out])
                | (go_at_call 35; go_must (refine (awake23_any _ (pow10_ext HT.out.p (hE2.trans (hX13.trans (hE14.trans hE15))))).mono ?_); rintro e w16 ⟨rfl, hE16⟩))
              go_ret
              exact ⟨rfl, (hE2.trans (hX13.trans (hE14.trans hE15))).trans hE16⟩
theorem walk_treeSame (v0 : Value) (a1 a2 a3 a4 a5 : Int) (W : World) (w0 : ∃ l : List Int, IntsIn W v0 .i64 l ∧ ∀ n ∈ l, (Lit.int .i64 n).wf = true) (_ : (Lit.int .i64 a1).wf = true) (_ : (Lit.int .i64 a2).wf = true) (_ : (Lit.int .i64 a3).wf = true) (_ : (Lit.int .i64 a4).wf = true) (_ : (Lit.int .i64 a5).wf = true) (hT : TabV W) :
    Calls Tryd.prog 8 #[v0, .int .i64 a1, .int .i64 a2, .int .i64 a3, .int .i64 a4, .int .i64 a5] W fun e w' => e = .returned (.bool true) ∧ Ext W w' := by
  obtain ⟨l, hl, _⟩ := w0
  exact law_treeSame v0 l a1 a2 a3 a4 a5 W hl hT
end Go.Proofs.YtcmgeccgahakbaaDoor
