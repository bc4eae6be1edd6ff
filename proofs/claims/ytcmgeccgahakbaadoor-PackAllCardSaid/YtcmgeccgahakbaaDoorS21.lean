/- The reference of chapter 9: Muts, Batch (the writers). -/
import Derived.Test.YtcmgeccgahakbaaDoorS20
import Derived.Test.YtcmgeccgahakbaaDoorS13
import Derived.Test.YtcmgeccgahakbaaDoorS2
import Derived.Test.YtcmgeccgahakbaaDoorS3
import Derived.Test.YtcmgeccgahakbaaDoorS5
import Derived.BigQuiet
import Derived.RegionTactic
import Derived.Test.YtcmgeccgahakbaaDoorS4
set_option linter.unusedSimpArgs false
set_option linter.unusedVariables false
namespace Go.Proofs.YtcmgeccgahakbaaDoor
open Go Go.RowKit
attribute [local go_sem] yields yUpon

set_option maxRecDepth 100000 in
set_option maxHeartbeats 8000000 in
theorem r9_muts (vm : Value) (M : List Mt) (w : World) (hM : MtsIn w vm M) (h64 : M.length ≤ 64) (hMo : ∀ m ∈ M, okMt m = true) :
    Calls Tryd.prog 61 #[vm] w fun e w' => e = .returned (.string (str (num M.length ++ M.flatMap mutP))) ∧ Ext w w' := by
  have HROW := Lib.hid hM.rows
  obtain ⟨am, cm, rfl, hcm, hcmm, hgm⟩ := hM.get
  have HGM := Lib.hid hgm
  have HMB := Lib.hid hMo
  have HMT := Lib.hid (fun k (hk : k ≤ 64) => flat_takeLe (f := mutP) (l := M) (k := k) (m := 64) (fun m hm => mutP_le (hMo m hm)) hk)
  clear hgm hMo hM
  obtain ⟨mn, hmn⟩ : ∃ n, n = M.length := ⟨_, rfl⟩
  rw [← hmn] at hcm h64 ⊢
  have HMN := Lib.hid hmn
  clear hmn
  obtain ⟨B0, hB0⟩ : ∃ B, B = num mn := ⟨_, rfl⟩
  rw [← hB0]
  have hB0l : B0.length ≤ 9 := by rw [hB0]; exact num_length (by omega)
  have H0 := Lib.hid hB0
  clear hB0
  go_enter Tryd.func61, Tryd.ntmps61
  go_wp2_with (go_at_call 62; go_must (refine (r9_num (mn : Int) (by omega) (by omega) _).mono ?_); rintro e w2 ⟨rfl, hE2⟩; rw [Int.toNat_natCast, ← H0.out])
  go_loopw [3, 4] (fun s i wr => ∃ (k : Nat) (S : ByteArray), k ≤ mn ∧ i = .int .i64 (k : Int) ∧ s = .string S ∧ Ext w wr ∧ Hid (S = str (B0 ++ (M.take k).flatMap mutP))) (fun _ i _ => mn - (intOf i).toNat)
  case atStart => exact ⟨0, _, Nat.zero_le _, rfl, rfl, hE2, Lib.hid (by rw [List.take_zero, List.flatMap_nil, List.append_nil])⟩
  case round =>
    obtain ⟨k, S, hk, rfl, rfl, hE, HS⟩ := hrel
    have htl := HMT.out k (by omega)
    have hSl : S.size ≤ 122252809 := by rw [HS.out, str_size, List.length_append]; omega
    clear htl
    by_cases hlt : k < mn
    · have hkF : k < M.length := by rw [← HMN.out]; exact hlt
      obtain ⟨b, o, rfl, ⟨g0, g1, g2, g3⟩⟩ := HGM.out k hkF
      obtain ⟨ra, rc, hrv⟩ : ∃ a c, (M[k]).pa.rv = .slice a (M[k]).pa.ps.length c := let ⟨a, c, e, _⟩ := (HROW.out _ (List.getElem_mem hkF)).get; ⟨a, c, e⟩
      have hrw := HROW.out _ (List.getElem_mem hkF)
      rw [hrv] at g3 hrw
      replace g0 := hE.cell g0
      replace g1 := hE.cell g1
      replace g2 := hE.cell g2
      replace g3 := hE.cell g3
      have hok := HMB.out _ (List.getElem_mem hkF)
      unfold okMt at hok
      simp only [Bool.and_eq_true] at hok
      have HTK : Hid ((M.take (k + 1)).flatMap mutP = (M.take k).flatMap mutP ++ mutQ (M[k]).table (M[k]).pa.key (M[k]).pa.gone ((M[k]).pa.ps.map (·.1))) := Lib.hid (flat_take (f := mutP) (List.drop_eq_getElem_cons hkF))
      obtain ⟨t, ht⟩ : ∃ t, t = (M[k]).table := ⟨_, rfl⟩
      obtain ⟨ky, hky⟩ : ∃ t, t = (M[k]).pa.key := ⟨_, rfl⟩
      obtain ⟨gn, hgn⟩ : ∃ t, t = (M[k]).pa.gone := ⟨_, rfl⟩
      obtain ⟨ps, hps⟩ : ∃ t, t = (M[k]).pa.ps := ⟨_, rfl⟩
      rw [← ht] at g0 hok HTK
      rw [← hky] at g1 hok HTK
      rw [← hgn] at g2 hok HTK
      rw [← hps] at g3 hrw hok HTK
      obtain ⟨rn, hrn⟩ : ∃ n, n = ps.length := ⟨_, rfl⟩
      rw [← hrn] at g3 hrw
      have q1 := nameB_size hok.1
      have HOP := Lib.hid (ptB_ok hok.2)
      have hwl := wholeP_le8 hok.2
      clear ht hky hgn hps hrv hrn hok
      obtain ⟨Wh, hWh⟩ : ∃ L, L = str (wholeP ky gn (ps.map (·.1))) := ⟨_, rfl⟩
      obtain ⟨T1, hT1⟩ : ∃ T, T = txT t := ⟨_, rfl⟩
      obtain ⟨T2, hT2⟩ : ∃ T, T = txT Wh := ⟨_, rfl⟩
      have zW : Wh.size ≤ 1910000 := by rw [hWh, str_size]; exact hwl
      have z1 : T1.size ≤ 109 := by rw [hT1]; have := txT_size t (by omega); omega
      have z2 : T2.size ≤ 1910009 := by rw [hT2]; have := txT_size Wh (by omega); omega
      have p1 : ¬ 9223372036854775807 < S.size + T1.size := by omega
      have p2 : ¬ 9223372036854775807 < S.size + T1.size + T2.size := by omega
      have t1 : decide ((k : Int) < (mn : Int)) = true := by simp; omega
      have HW := Lib.hid hWh
      have HT1 := Lib.hid hT1
      have HT2 := Lib.hid hT2
      have HRW := Lib.hid hrw
      have hEr := hE
      clear hWh hT1 hT2 hwl hrw
      replace g0 := held g0
      replace g1 := held g1
      replace g2 := held g2
      replace g3 := held g3
      go_wp2_with fail
      refine wp_region_tab 16 [(6, fun v _ => v = .string T1), (13, fun v _ => v = .string Wh), (14, fun v _ => v = .string T2)] (by kernel_rfl) (by kernel_rfl) (by kernel_rfl) ⟨stays_eq _, stays_eq _, stays_eq _, trivial⟩ ?_
      refine rg_quiet rfl rfl rfl rfl ?_; intro K hK; go_big_quiet_op; go_big_quiet_on
      refine rg_quiet rfl rfl rfl rfl ?_; intro K hK; go_big_quiet_op; go_big_quiet_on
      refine rg_quiet rfl rfl rfl rfl ?_; intro K hK; go_big_quiet_op; go_big_quiet_on
      refine rg_quiet rfl rfl rfl rfl ?_; intro K hK; go_big_quiet_op; go_big_quiet_on
      refine rg_quiet rfl rfl rfl rfl ?_; intro K hK; go_big_quiet_op; go_big_quiet_on
      refine rg_quiet rfl rfl rfl rfl ?_; intro K hK; go_big_quiet_op; go_big_quiet_on
      refine rg_val [] rfl rfl rfl (by kernel_rfl) (fun w1 hE hf => ?_) ?_
      · go_simp
        exact ((HT1.out ▸ r9_text t (by omega) _)).mono fun e w' ⟨he, hw⟩ => ⟨_, he, rg_done hE hw (rfl)⟩
      simp only [Act.put, List.setIfInBounds_toArray, List.set_cons_zero, List.set_cons_succ]
      refine rg_quiet rfl rfl rfl rfl ?_; intro K hK; go_big_quiet_op; go_big_quiet_on
      refine rg_quiet rfl rfl rfl rfl ?_; intro K hK; go_big_quiet_op; go_big_quiet_on
      refine rg_quiet rfl rfl rfl rfl ?_; intro K hK; go_big_quiet_op; go_big_quiet_on
      refine rg_quiet rfl rfl rfl rfl ?_; intro K hK; go_big_quiet_op; go_big_quiet_on
      refine rg_quiet rfl rfl rfl rfl ?_; intro K hK; go_big_quiet_op; go_big_quiet_on
      refine rg_quiet rfl rfl rfl rfl ?_; intro K hK; go_big_quiet_op; go_big_quiet_on
      refine rg_val [] rfl rfl rfl (by kernel_rfl) (fun w1 hE hf => ?_) ?_
      · go_simp
        exact ((HW.out ▸ r9_bytes ky gn _ ps HOP.out _ (HRW.out.ext (hEr.trans hE)))).mono fun e w' ⟨he, hw⟩ => ⟨_, he, rg_done hE hw (rfl)⟩
      simp only [Act.put, List.setIfInBounds_toArray, List.set_cons_zero, List.set_cons_succ]
      refine rg_val [] rfl rfl rfl (by kernel_rfl) (fun w1 hE hf => ?_) ?_
      · go_simp
        exact ((HT2.out ▸ r9_text Wh (by omega) _)).mono fun e w' ⟨he, hw⟩ => ⟨_, he, rg_done hE hw (rfl)⟩
      simp only [Act.put, List.setIfInBounds_toArray, List.set_cons_zero, List.set_cons_succ]
      refine rg_quiet rfl rfl rfl rfl ?_; intro K hK; go_big_quiet_op; go_big_quiet_on
      refine rel_tail rfl rfl fun w6 hE6 _ => ?_
      clear g0 g1 g2 g3
      go_wp2_with fail
      go_roundw
      case rel => exact ⟨k + 1, _, hlt, by go_num, rfl, hE.trans hE6, Lib.hid (by
        rw [HTK.out, HS.out, HT1.out, HT2.out, HW.out]
        unfold mutQ txT
        simp only [str_app, List.append_assoc, str_size]
        rfl)⟩
      case measure => simp [intOf]; omega
    · obtain rfl : k = mn := by omega
      have HF : Hid (S = str (B0 ++ M.flatMap mutP)) := Lib.hid (by rw [HS.out, List.take_of_length_le (by rw [HMN.out]; exact Nat.le_refl _)])
      go_wp2_with fail
      go_ret
      exact ⟨ret_str HF.out, hE⟩

set_option maxRecDepth 100000 in
set_option maxHeartbeats 8000000 in
theorem r9_batch_bad (vm va vd : Value) (M : List Mt) (A : List Nt) (D : List Int) (w : World) (hM : MtsIn w vm M) (hA : NtsIn w va A) (hD : IntsIn w vd .i64 D) (hMb : ∀ x ∈ M, x.table.size ≤ 1000000 ∧ ∀ p ∈ x.pa.ps, ∀ c ∈ p.1.cols, c.name.size ≤ 1000000) (hc : cbG M A D = false) :
    Calls Tryd.prog 17 #[.agg #[vm, va, vd]] w fun e w' => e = .returned (.tuple #[.string ⟨#[]⟩, .int .i64 1]) ∧ Ext w w' := by
  have hE0 := (Ext.refl w).alloc (.cells #[vm, va, vd] 29)
  have hbx := BoxAt.made w #[vm, va, vd] 29
  have k1 := r9_checkbatch vm va vd M A D _ (hM.ext hE0) (hA.ext hE0) (hD.ext hE0) hMb
  rw [hc] at k1
  obtain ⟨am, cm, rfl, _⟩ := hM.get
  obtain ⟨aa, ca, rfl, _⟩ := hA.get
  have hD' := hD
  obtain ⟨ad, cd, rfl, _⟩ := hD'
  have K1 := Lib.hid k1
  have c0 : (w.alloc (.cells #[.slice am M.length cm, .slice aa A.length ca, .slice ad D.length cd] 29)).cell? ⟨w.heap.size, 0, none⟩ = some (.slice am M.length cm) := hbx.cell 0
  have c1 : (w.alloc (.cells #[.slice am M.length cm, .slice aa A.length ca, .slice ad D.length cd] 29)).cell? ⟨w.heap.size, 1, none⟩ = some (.slice aa A.length ca) := hbx.cell 1
  have c2 : (w.alloc (.cells #[.slice am M.length cm, .slice aa A.length ca, .slice ad D.length cd] 29)).cell? ⟨w.heap.size, 2, none⟩ = some (.slice ad D.length cd) := hbx.cell 2
  clear k1 hc hMb hM hA hD hbx
  go_enter Tryd.func17, Tryd.ntmps17
  go_wp2_with (go_at_call 25; go_must (refine K1.out.mono ?_); rintro e w1 ⟨rfl, hE1⟩)
  go_ret2
  exact ⟨rfl, hE0.trans hE1⟩

set_option maxRecDepth 100000 in
set_option maxHeartbeats 16000000 in
theorem r9_batch_good (vm va vd : Value) (M : List Mt) (A : List Nt) (D : List Int) (w : World) (hM : MtsIn w vm M) (hA : NtsIn w va A) (hD : IntsIn w vd .i64 D) (hMb : ∀ x ∈ M, x.table.size ≤ 1000000 ∧ ∀ p ∈ x.pa.ps, ∀ c ∈ p.1.cols, c.name.size ≤ 1000000) (hc : cbG M A D = true) :
    Calls Tryd.prog 17 #[.agg #[vm, va, vd]] w fun e w' => e = .returned (.tuple #[.string (str (batR M A D).1), .int .i64 (batR M A D).2]) ∧ Ext w w' := by
  have hE0 := (Ext.refl w).alloc (.cells #[vm, va, vd] 29)
  have hbx := BoxAt.made w #[vm, va, vd] 29
  have k1 := r9_checkbatch vm va vd M A D _ (hM.ext hE0) (hA.ext hE0) (hD.ext hE0) hMb
  rw [hc] at k1
  obtain ⟨am, cm, rfl, hcm, hcmm, hgm⟩ := hM.get
  obtain ⟨aa, ca, rfl, hca, hcma, hga⟩ := hA.get
  have hD' := hD
  obtain ⟨ad, cd, rfl, hcd, hcmd, _, hgd⟩ := hD'
  unfold maxLen at hcmd
  have hcp := hc
  unfold cbG at hcp
  simp only [Bool.and_eq_true, decide_eq_true_eq, List.all_eq_true] at hcp
  obtain ⟨⟨⟨⟨⟨z1, z2⟩, z3⟩, hMo⟩, hAo⟩, hDo⟩ := hcp
  have HGA := Lib.hid hga
  have HGD := Lib.hid hgd
  have HMIN := Lib.hid hM
  have HMO := Lib.hid hMo
  have HAB := Lib.hid hAo
  have HDB := Lib.hid hDo
  have HML := Lib.hid z1
  obtain ⟨RB, hRB⟩ : ∃ R, R = batR M A D := ⟨_, rfl⟩
  rw [← hRB]
  have HBR : Hid (RB = if (batP M A D).length ≤ 262144 then (batP M A D, 0) else ([], 2)) := Lib.hid (by rw [hRB]; unfold batR; rw [hc]; rfl)
  clear hRB
  clear hgm hga hgd hc hMb hM hA hD
  have hM1 := flat_takeLe (f := mutP) (l := M) (k := 64) (m := 64) (fun m hm => mutP_le (hMo m hm)) (Nat.le_refl _)
  have hA1 := flat_takeLe (f := notP) (l := A) (k := 300) (m := 300) (fun m hm => notP_le (hAo m hm)) (Nat.le_refl _)
  rw [List.take_of_length_le z1] at hM1
  rw [List.take_of_length_le z2] at hA1
  have HAT := Lib.hid (fun k (hk : k ≤ 300) => flat_takeLe (f := notP) (l := A) (k := k) (m := 300) (fun m hm => notP_le (HAB.out m hm)) hk)
  have HDT := Lib.hid (fun k (hk : k ≤ 300) => flat_takeLe (f := fun d : Int => num d.toNat) (l := D) (k := k) (m := 300) (n := 9) (fun d hd => num_length (by have := HDB.out d hd; unfold idB at this; simp at this; omega)) hk)
  clear hMo hAo hDo
  obtain ⟨X0, hX0⟩ : ∃ X, X = str (num M.length ++ M.flatMap mutP) := ⟨_, rfl⟩
  have zX0 : X0.size ≤ 122252809 := by
    have := num_length (x := M.length) (by omega)
    rw [hX0, str_size, List.length_append]; omega
  obtain ⟨X1, hX1⟩ : ∃ X, X = str (num A.length) := ⟨_, rfl⟩
  have zX1 : X1.size ≤ 9 := by rw [hX1, str_size]; exact num_length (by omega)
  obtain ⟨X2, hX2⟩ : ∃ X, X = str (num D.length) := ⟨_, rfl⟩
  have zX2 : X2.size ≤ 9 := by rw [hX2, str_size]; exact num_length (by omega)
  obtain ⟨B1, hB1⟩ : ∃ B, B = num M.length ++ M.flatMap mutP ++ num A.length := ⟨_, rfl⟩
  obtain ⟨B2, hB2⟩ : ∃ B, B = B1 ++ A.flatMap notP ++ num D.length := ⟨_, rfl⟩
  have zB1 : B1.length ≤ 122252818 := by
    have h1 := num_length (x := M.length) (by omega)
    have h2 := num_length (x := A.length) (by omega)
    rw [hB1]; simp only [List.length_append]; omega
  have zB2 : B2.length ≤ 125000000 := by
    have h2 := num_length (x := D.length) (by omega)
    rw [hB2]; simp only [List.length_append]; omega
  have HX01 : Hid (X0 ++ X1 = str B1) := Lib.hid (by rw [hX0, hX1, hB1, str_app])
  have HB2 := Lib.hid hB2
  have HBP : Hid (batP M A D = B2 ++ D.flatMap fun d => num d.toNat) := Lib.hid (by rw [hB2, hB1]; unfold batP; simp only [List.append_assoc])
  clear hM1 hA1 hB1 hB2
  obtain ⟨mn, hmn⟩ : ∃ n, n = M.length := ⟨_, rfl⟩
  obtain ⟨an, han⟩ : ∃ n, n = A.length := ⟨_, rfl⟩
  obtain ⟨dn, hdn⟩ : ∃ n, n = D.length := ⟨_, rfl⟩
  rw [← hmn] at hcm z1 hbx hE0 k1 HMIN ⊢
  rw [← han] at hca z2 hbx hE0 k1 hX1 ⊢
  rw [← hdn] at hcd z3 hbx hE0 k1 hX2 ⊢
  have HAN := Lib.hid han
  have HDN := Lib.hid hdn
  have H0 := Lib.hid hX0
  have H1 := Lib.hid hX1
  have H2 := Lib.hid hX2
  have K1 := Lib.hid k1
  have p1 : ¬ 9223372036854775807 < X0.size + X1.size := by omega
  clear hmn han hdn hX0 hX1 hX2 k1
  have c0 : (w.alloc (.cells #[.slice am mn cm, .slice aa an ca, .slice ad dn cd] 29)).cell? ⟨w.heap.size, 0, none⟩ = some (.slice am mn cm) := hbx.cell 0
  have c1 : (w.alloc (.cells #[.slice am mn cm, .slice aa an ca, .slice ad dn cd] 29)).cell? ⟨w.heap.size, 1, none⟩ = some (.slice aa an ca) := hbx.cell 1
  have c2 : (w.alloc (.cells #[.slice am mn cm, .slice aa an ca, .slice ad dn cd] 29)).cell? ⟨w.heap.size, 2, none⟩ = some (.slice ad dn cd) := hbx.cell 2
  go_enter Tryd.func17, Tryd.ntmps17
  go_wp2_with (go_at_call 25; go_must (refine K1.out.mono ?_); rintro e w1 ⟨rfl, hE1⟩)
  have hEw := hE0.trans hE1
  replace c0 := held (hE1.cell c0)
  replace c1 := held (hE1.cell c1)
  clear c2
  refine wp_region_tab 8 [(2, fun v _ => v = .string X0), (6, fun v _ => v = .string X1)] (by kernel_rfl) (by kernel_rfl) (by kernel_rfl) ⟨stays_eq _, stays_eq _, trivial⟩ ?_
  have hEw1 := hEw
  refine rg_quiet rfl rfl rfl rfl ?_; intro K hK; go_big_quiet_op; go_big_quiet_on
  refine rg_quiet rfl rfl rfl rfl ?_; intro K hK; go_big_quiet_op; go_big_quiet_on
  refine rg_val [] rfl rfl rfl (by kernel_rfl) (fun w1 hE hf => ?_) ?_
  · go_simp
    exact ((H0.out ▸ r9_muts _ M _ (HMIN.out.ext (hEw1.trans hE)) HML.out HMO.out)).mono fun e w' ⟨he, hw⟩ => ⟨_, he, rg_done hE hw (rfl)⟩
  simp only [Act.put, List.setIfInBounds_toArray, List.set_cons_zero, List.set_cons_succ]
  refine rg_quiet rfl rfl rfl rfl ?_; intro K hK; go_big_quiet_op; go_big_quiet_on
  refine rg_quiet rfl rfl rfl rfl ?_; intro K hK; go_big_quiet_op; go_big_quiet_on
  refine rg_quiet rfl rfl rfl rfl ?_; intro K hK; go_big_quiet_op; go_big_quiet_on
  refine rg_val [] rfl rfl rfl (by kernel_rfl) (fun w1 hE hf => ?_) ?_
  · go_simp
    exact ((H1.out ▸ r9_num (an : Int) (by omega) (by omega) _)).mono fun e w' ⟨he, hw⟩ => ⟨_, he, rg_done hE hw (rfl)⟩
  simp only [Act.put, List.setIfInBounds_toArray, List.set_cons_zero, List.set_cons_succ]
  refine rg_quiet rfl rfl rfl rfl ?_; intro K hK; go_big_quiet_op; go_big_quiet_on
  refine rel_tail rfl rfl fun w2 hE2 _ => ?_
  clear c0 c1 hEw1
  have hX2 := hEw.trans hE2
  have hb2 := (hbx.ext hE1).ext hE2
  have c1 : w2.cell? ⟨w.heap.size, 1, none⟩ = some (.slice aa an ca) := hb2.cell 1
  clear hE1 hE2 hEw hE0
  go_wp2_with fail
  go_loopw [4, 5] (fun s i wr => ∃ (k : Nat) (S : ByteArray), k ≤ an ∧ i = .int .i64 (k : Int) ∧ s = .string S ∧ Ext w2 wr ∧ Hid (S = str (B1 ++ (A.take k).flatMap notP))) (fun _ i _ => an - (intOf i).toNat)
  case atStart => exact ⟨0, _, Nat.zero_le _, rfl, rfl, Ext.refl w2, Lib.hid (by rw [List.take_zero, List.flatMap_nil, List.append_nil]; exact HX01.out)⟩
  case round =>
    obtain ⟨k, S, hk, rfl, rfl, hE, HS⟩ := hrel
    have hEa := hX2.trans hE
    have htl := HAT.out k (by omega)
    have hSl : S.size ≤ 124000000 := by rw [HS.out, str_size, List.length_append]; omega
    clear htl
    have c1 : wr.cell? ⟨w.heap.size, 1, none⟩ = some (.slice aa an ca) := (hb2.ext hE).cell 1
    have c2 : wr.cell? ⟨w.heap.size, 2, none⟩ = some (.slice ad dn cd) := (hb2.ext hE).cell 2
    by_cases hlt : k < an
    · have hkF : k < A.length := by rw [← HAN.out]; exact hlt
      obtain ⟨b, o, rfl, g0, g1⟩ := HGA.out k hkF
      replace g0 := hEa.cell g0
      replace g1 := hEa.cell g1
      have hok := HAB.out _ (List.getElem_mem hkF)
      unfold okNt idB at hok
      simp only [Bool.and_eq_true, decide_eq_true_eq] at hok
      have HTK : Hid ((A.take (k + 1)).flatMap notP = (A.take k).flatMap notP ++ (num (A[k]).id.toNat ++ num (A[k]).body.size ++ (A[k]).body.data.toList)) := Lib.hid (flat_take (f := notP) (List.drop_eq_getElem_cons hkF))
      obtain ⟨x, hx⟩ : ∃ t, t = (A[k]).id := ⟨_, rfl⟩
      obtain ⟨bd, hbd⟩ : ∃ t, t = (A[k]).body := ⟨_, rfl⟩
      rw [← hx] at g0 hok HTK
      rw [← hbd] at g1 hok HTK
      clear hx hbd
      obtain ⟨T1, hT1⟩ : ∃ T, T = str (num x.toNat) := ⟨_, rfl⟩
      obtain ⟨T2, hT2⟩ : ∃ T, T = txT bd := ⟨_, rfl⟩
      have y1 : T1.size ≤ 9 := by rw [hT1, str_size]; exact num_length (by omega)
      have y2 : T2.size ≤ 4105 := by rw [hT2]; have := txT_size bd (by omega); omega
      have q1 : ¬ 9223372036854775807 < S.size + T1.size := by omega
      have q2 : ¬ 9223372036854775807 < S.size + T1.size + T2.size := by omega
      have t1 : decide ((k : Int) < (an : Int)) = true := by simp; omega
      have HT1 := Lib.hid hT1
      have HT2 := Lib.hid hT2
      clear hT1 hT2 c2
      replace g0 := held g0
      replace g1 := held g1
      have c1' := held c1
      go_wp2_with fail
      refine wp_region_tab 17 [(7, fun v _ => v = .string T1), (15, fun v _ => v = .string T2)] (by kernel_rfl) (by kernel_rfl) (by kernel_rfl) ⟨stays_eq _, stays_eq _, trivial⟩ ?_
      refine rg_quiet rfl rfl rfl rfl ?_; intro K hK; go_big_quiet_op; go_big_quiet_on
      refine rg_quiet rfl rfl rfl rfl ?_; intro K hK; go_big_quiet_op; go_big_quiet_on
      refine rg_quiet rfl rfl rfl rfl ?_; intro K hK; go_big_quiet_op; go_big_quiet_on
      refine rg_quiet rfl rfl rfl rfl ?_; intro K hK; go_big_quiet_op; go_big_quiet_on
      refine rg_quiet rfl rfl rfl rfl ?_; intro K hK; go_big_quiet_op; go_big_quiet_on
      refine rg_quiet rfl rfl rfl rfl ?_; intro K hK; go_big_quiet_op; go_big_quiet_on
      refine rg_quiet rfl rfl rfl rfl ?_; intro K hK; go_big_quiet_op; go_big_quiet_on
      refine rg_val [] rfl rfl rfl (by kernel_rfl) (fun w1 hE hf => ?_) ?_
      · go_simp
        exact ((HT1.out ▸ r9_num x (by omega) (by omega) _)).mono fun e w' ⟨he, hw⟩ => ⟨_, he, rg_done hE hw (rfl)⟩
      simp only [Act.put, List.setIfInBounds_toArray, List.set_cons_zero, List.set_cons_succ]
      refine rg_quiet rfl rfl rfl rfl ?_; intro K hK; go_big_quiet_op; go_big_quiet_on
      refine rg_quiet rfl rfl rfl rfl ?_; intro K hK; go_big_quiet_op; go_big_quiet_on
      refine rg_quiet rfl rfl rfl rfl ?_; intro K hK; go_big_quiet_op; go_big_quiet_on
      refine rg_quiet rfl rfl rfl rfl ?_; intro K hK; go_big_quiet_op; go_big_quiet_on
      refine rg_quiet rfl rfl rfl rfl ?_; intro K hK; go_big_quiet_op; go_big_quiet_on
      refine rg_quiet rfl rfl rfl rfl ?_; intro K hK; go_big_quiet_op; go_big_quiet_on
      refine rg_quiet rfl rfl rfl rfl ?_; intro K hK; go_big_quiet_op; go_big_quiet_on
      refine rg_val [] rfl rfl rfl (by kernel_rfl) (fun w1 hE hf => ?_) ?_
      · go_simp
        exact ((HT2.out ▸ r9_text bd (by omega) _)).mono fun e w' ⟨he, hw⟩ => ⟨_, he, rg_done hE hw (rfl)⟩
      simp only [Act.put, List.setIfInBounds_toArray, List.set_cons_zero, List.set_cons_succ]
      refine rg_quiet rfl rfl rfl rfl ?_; intro K hK; go_big_quiet_op; go_big_quiet_on
      refine rel_tail rfl rfl fun w6 hE6 _ => ?_
      clear g0 g1 c1'
      go_wp2_with fail
      go_roundw
      case rel => exact ⟨k + 1, _, hlt, by go_num, rfl, hE.trans hE6, Lib.hid (by
        rw [HTK.out, HS.out, HT1.out, HT2.out]
        unfold txT
        simp only [str_app, List.append_assoc])⟩
      case measure => simp [intOf]; omega
    · obtain rfl : k = an := by omega
      have HS2 : Hid (S ++ X2 = str B2) := Lib.hid (by rw [HS.out, H2.out, List.take_of_length_le (by rw [HAN.out]; exact Nat.le_refl _), HB2.out, str_app, HDN.out])
      have q1 : ¬ 9223372036854775807 < S.size + X2.size := by omega
      clear HS
      go_wp2_with (go_at_call 62; go_must (refine (r9_num (dn : Int) (by omega) (by omega) _).mono ?_); rintro e w3 ⟨rfl, hE3⟩; rw [show str (num (dn : Int).toNat) = X2 from by rw [H2.out, Int.toNat_natCast]]; have c2 : w3.cell? ⟨w.heap.size, 2, none⟩ = some (.slice ad dn cd) := ((hb2.ext hE).ext hE3).cell 2)
      have hb3 := (hb2.ext hE).ext hE3
      have hX3 := hEa.trans hE3
      clear c1 hb2 hX2 hE hEa hE3
      go_loopw [4, 6] (fun s i wr => ∃ (k : Nat) (S : ByteArray), k ≤ dn ∧ i = .int .i64 (k : Int) ∧ s = .string S ∧ Ext w3 wr ∧ Hid (S = str (B2 ++ (D.take k).flatMap fun d => num d.toNat))) (fun _ i _ => dn - (intOf i).toNat)
      case atStart => exact ⟨0, _, Nat.zero_le _, rfl, rfl, Ext.refl w3, Lib.hid (by rw [List.take_zero, List.flatMap_nil, List.append_nil]; exact HS2.out)⟩
      case round =>
        obtain ⟨j, Z, hj, rfl, rfl, hE, HZ⟩ := hrel
        have hEa := hX3.trans hE
        have htl := HDT.out j (by omega)
        have hZl : Z.size ≤ 126000000 := by rw [HZ.out, str_size, List.length_append]; omega
        clear htl
        have c2 : wr.cell? ⟨w.heap.size, 2, none⟩ = some (.slice ad dn cd) := (hb3.ext hE).cell 2
        by_cases hlt : j < dn
        · have hkF : j < D.length := by rw [← HDN.out]; exact hlt
          obtain ⟨b, o, rfl, g0⟩ := HGD.out j (.int .i64 D[j]) (by rw [kcells_get, List.getElem?_eq_getElem hkF]; rfl)
          replace g0 := hEa.cell g0
          have hok := HDB.out _ (List.getElem_mem hkF)
          unfold idB at hok
          simp only [Bool.and_eq_true, decide_eq_true_eq] at hok
          have HTK := Lib.hid (flat_takeD (f := fun d : Int => num d.toNat) hkF)
          obtain ⟨x, hx⟩ : ∃ t, t = D[j] := ⟨_, rfl⟩
          rw [← hx] at g0 hok HTK
          clear hx
          obtain ⟨T1, hT1⟩ : ∃ T, T = str (num x.toNat) := ⟨_, rfl⟩
          have y1 : T1.size ≤ 9 := by rw [hT1, str_size]; exact num_length (by omega)
          have q1 : ¬ 9223372036854775807 < Z.size + T1.size := by omega
          have t1 : decide ((j : Int) < (dn : Int)) = true := by simp; omega
          have HT1 := Lib.hid hT1
          clear hT1
          go_wp2_with (go_at_call 62; go_must (refine (r9_num x (by omega) (by omega) _).mono ?_); rintro e w4 ⟨rfl, hE4⟩; rw [show str (num x.toNat) = T1 from HT1.out.symm])
          go_roundw
          case rel => exact ⟨j + 1, _, hlt, by go_num, rfl, hE.trans hE4, Lib.hid (by
            rw [HTK.out, HZ.out, HT1.out, str_app, List.append_assoc])⟩
          case measure => simp [intOf]; omega
        · obtain rfl : j = dn := by omega
          have HF : Hid (Z = str (batP M A D)) := Lib.hid (by rw [HBP.out, HZ.out, List.take_of_length_le (by rw [HDN.out]; exact Nat.le_refl _)])
          have HZs : Hid (Z.size = (batP M A D).length) := Lib.hid (by rw [HF.out, str_size])
          by_cases hlen : Z.size ≤ 262144
          · have t2 : decide ((262144 : Int) < (Z.size : Int)) = false := by simp; omega
            have e : Hid (RB = (batP M A D, 0)) := Lib.hid (by rw [HBR.out, if_pos (by rw [← HZs.out]; exact hlen)])
            go_wp2_with fail
            go_ret2
            rw [e.out]
            exact ⟨by rw [← HF.out]; rfl, hEa⟩
          · have t2 : decide ((262144 : Int) < (Z.size : Int)) = true := by simp; omega
            have e : Hid (RB = ([], 2)) := Lib.hid (by rw [HBR.out, if_neg (by rw [← HZs.out]; exact hlen)])
            go_wp2_with fail
            go_ret2
            rw [e.out]
            exact ⟨rfl, hEa⟩

theorem r9_batch (vm va vd : Value) (M : List Mt) (A : List Nt) (D : List Int) (w : World) (hM : MtsIn w vm M) (hA : NtsIn w va A) (hD : IntsIn w vd .i64 D) (hMb : ∀ x ∈ M, x.table.size ≤ 1000000 ∧ ∀ p ∈ x.pa.ps, ∀ c ∈ p.1.cols, c.name.size ≤ 1000000) :
    Calls Tryd.prog 17 #[.agg #[vm, va, vd]] w fun e w' => e = .returned (.tuple #[.string (str (batR M A D).1), .int .i64 (batR M A D).2]) ∧ Ext w w' := by
  cases hc : cbG M A D
  · have e : batR M A D = ([], 1) := by unfold batR; rw [hc]; rfl
    rw [e]
    exact r9_batch_bad vm va vd M A D w hM hA hD hMb hc
  · exact r9_batch_good vm va vd M A D w hM hA hD hMb hc
end Go.Proofs.YtcmgeccgahakbaaDoor

/- The walk over the reference 02: GetNum. -/
namespace Go.Proofs.YtcmgeccgahakbaaDoor
open Go Go.RowKit
attribute [local go_sem] yields yUpon

theorem byte_eqG {b c : UInt8} (h : b = c) : ((b.toNat : Int) == (c.toNat : Int)) = true := by rw [h]; simp
theorem byte_neG {b c : UInt8} (h : b ≠ c) : ((b.toNat : Int) == (c.toNat : Int)) = false := by
  rw [beq_eq_false_iff_ne]
  intro e
  exact h (UInt8.toNat.inj (by omega))
/-! ### GetNum -/
theorem add_step (V x : Nat) (hx : x < 256) (hV : V < 72057594037927936) : IntKind.u64.wrap (IntKind.u64.wrap ((V : Int) * 256) + IntKind.u64.wrap (x : Int)) = ((V * 256 + x : Nat) : Int) := by
  simp only [IntKind.wrap_u64]
  omega

set_option maxHeartbeats 2000000 in
theorem rgetNum_any (s : ByteArray) (at_ : Int) (w : World) (hl : s.size ≤ 140737488000000) :
    Calls Tryd.prog 150 #[.string s, .int .i64 at_] w fun e w' => e = .returned (tup3 (getNum s.data.toList at_)) ∧ w = w' := by
  obtain ⟨l, hls⟩ : ∃ l, l = s.data.toList := ⟨_, rfl⟩
  have hlen : l.length = s.size := by rw [hls]; rfl
  have hget : ∀ (k : Nat) (h : k < s.size), l[k]'(by omega) = s[k]'h := by subst hls; intro k h; rfl
  rw [← hls]
  have HL := Lib.hid hls
  have HG := Lib.hid hget
  clear hls hget
  by_cases h0 : at_ < 0
  · have d0 : decide (at_ < 0) = true := by simpa using h0
    go_enter Tryd.func150, Tryd.ntmps150
    go_wp2
    go_ret3
    refine ⟨tup3_ret (v := 0) ?_ (by rfl), rfl⟩
    unfold getNum
    rw [if_pos h0]
  · have d0 : decide (at_ < 0) = false := by simpa using h0
    obtain ⟨i, rfl⟩ : ∃ i : Nat, at_ = i := ⟨at_.toNat, by omega⟩
    have EN : Hid (getNum l (i : Int) = getNumN l i) := by unfold getNum; rw [if_neg h0]; rfl
    by_cases h1 : s.size < i
    · have d1 : decide ((s.size : Int) < (i : Int)) = true := by simpa using h1
      go_enter Tryd.func150, Tryd.ntmps150
      go_wp2
      go_ret3
      refine ⟨tup3_ret (v := 0) ?_ (by rfl), rfl⟩
      rw [EN.out]
      unfold getNumN
      rw [if_pos (by omega)]
    · have d1 : decide ((s.size : Int) < (i : Int)) = false := by simpa using h1
      have g1 : ¬ l.length < i := by omega
      by_cases h2 : i < s.size
      · have d2 : ((i : Int) == (s.size : Int)) = false := by simp; omega
        have g2 : i < l.length := by omega
        obtain ⟨n, hn⟩ : ∃ n, n = l[i].toNat := ⟨_, rfl⟩
        have hn256 : n < 256 := by rw [hn]; exact l[i].toNat_lt
        have hsn : s[i].toNat = n := by rw [hn, HG.out i h2]
        by_cases h3 : 8 < n
        · have d3 : decide ((8 : Int) < (n : Int)) = true := by simp; omega
          have HN := Lib.hid hn
          clear hn
          go_enter Tryd.func150, Tryd.ntmps150
          go_wp2
          go_ret3
          refine ⟨tup3_ret (v := 0) ?_ (by rfl), rfl⟩
          rw [EN.out]
          unfold getNumN
          rw [if_neg g1, dif_pos g2, if_pos (by rw [← HN.out]; exact h3)]
        · have d3 : decide ((8 : Int) < (n : Int)) = false := by simp; omega
          by_cases h4 : 0 < n ∧ l[i + 1]? = some 0
          · obtain ⟨h4, h5⟩ := h4
            have h6 : i + 1 < s.size := by have := (List.getElem?_eq_some_iff.1 h5).1; omega
            have d4 : decide ((0 : Int) < (n : Int)) = true := by simp; omega
            have d5 : decide ((i : Int) + 1 < (s.size : Int)) = true := by simp; omega
            have d6 : ((s[i + 1].toNat : Int) == 0) = true := by
              refine byte_eqG (c := 0) ?_
              rw [← HG.out (i + 1) h6]
              exact (List.getElem?_eq_some_iff.1 h5).2
            have HN := Lib.hid hn
            have H5 := Lib.hid h5
            clear hn h5
            go_enter Tryd.func150, Tryd.ntmps150
            go_wp2
            go_ret3
            refine ⟨tup3_ret (v := 0) ?_ (by rfl), rfl⟩
            rw [EN.out]
            unfold getNumN
            rw [if_neg g1, dif_pos g2, if_neg (by rw [← HN.out]; exact h3), if_pos ⟨by rw [← HN.out]; exact h4, H5.out⟩]
          · by_cases hn0 : n = 0
            · have d4 : decide ((0 : Int) < (n : Int)) = false := by simp; omega
              have h7 : ¬ s.size - i - 1 < n := by omega
              have hk0 := hn0
              have hn0 := Lib.hid hn0
              have HN := Lib.hid hn
              have H4 := Lib.hid h4
              have d7 : decide ((s.size : Int) - (i : Int) - 1 < (n : Int)) = false := by simp; omega
              clear hn h4
              go_enter Tryd.func150, Tryd.ntmps150
              go_wp2
              go_loop [8, 9] (fun v j => ∃ k : Nat, k ≤ n ∧ j = .int .i64 ((k : Int) + 1) ∧ v = .int .u64 (valB ((l.drop (i + 1)).take k))) (fun v j => n + 1 - (intOf j).toNat)
              case atStart => exact ⟨0, Nat.zero_le _, rfl, rfl⟩
              case round =>
                obtain ⟨k, hk, rfl, rfl⟩ := hrel
                by_cases hlt : k < n
                · first
                  | (exfalso; omega)
                  | (
                  have hle : decide ((k : Int) + 1 ≤ (n : Int)) = true := by simp; omega
                  have hle' : decide ((k : Int) < (n : Int)) = true := by simp; omega
                  have hix : i + (k + 1) < s.size := by omega
                  go_wp2
                  go_round
                  case rel =>
                    refine ⟨k + 1, by omega, by go_num, ?_⟩
                    rw [valB_take _ _ (by simp; omega), add_step _ _ (UInt8.toNat_lt _) (valB_take_lt _ _ (by omega))]
                    have e1 : (l.drop (i + 1))[k]'(by simp; omega) = s[i + (k + 1)] := by rw [← HG.out _ hix, List.getElem_drop]; congr 1; omega
                    rw [e1]
                  case measure => simp [intOf] <;> omega)
                · have hle : decide ((k : Int) + 1 ≤ (n : Int)) = false := by simp; omega
                  have hle' : decide ((k : Int) < (n : Int)) = false := by simp; omega
                  have hkn := Lib.hid (show k = n by omega)
                  go_wp2
                  go_ret3
                  refine ⟨tup3_ret (v := valB ((l.drop (i + 1)).take n)) ?_ ?_, rfl⟩
                  · rw [EN.out]
                    unfold getNumN
                    rw [if_neg g1, dif_pos g2, if_neg (by rw [← HN.out]; exact h3), if_neg (by rw [← HN.out]; exact H4.out), if_neg (by rw [← HN.out]; omega), ← HN.out]
                    try simp [hn0.out]
                  · first
                    | (rw [hn0.out]; rfl)
                    | rw [← hkn.out]
            · have d4 : decide ((0 : Int) < (n : Int)) = true := by simp; omega
              by_cases h6 : i + 1 < s.size
              · have d5 : decide ((i : Int) + 1 < (s.size : Int)) = true := by simp; omega
                have d6 : ((s[i + 1].toNat : Int) == 0) = false := by
                  refine byte_neG (c := 0) fun he => h4 ⟨by omega, ?_⟩
                  rw [List.getElem?_eq_getElem (by omega), HG.out (i + 1) h6, he]
                by_cases h7 : s.size < i + 1 + n
                · have HN := Lib.hid hn
                  have H4 := Lib.hid h4
                  have d7 : decide ((s.size : Int) - (i : Int) - 1 < (n : Int)) = true := by simp; omega
                  clear hn h4
                  go_enter Tryd.func150, Tryd.ntmps150
                  go_wp2
                  go_ret3
                  refine ⟨tup3_ret (v := 0) ?_ (by rfl), rfl⟩
                  rw [EN.out]
                  unfold getNumN
                  rw [if_neg g1, dif_pos g2, if_neg (by rw [← HN.out]; exact h3), if_neg (by rw [← HN.out]; exact H4.out), if_pos (by rw [← HN.out]; omega)]
                · have HN := Lib.hid hn
                  have H4 := Lib.hid h4
                  have d7 : decide ((s.size : Int) - (i : Int) - 1 < (n : Int)) = false := by simp; omega
                  clear hn h4
                  go_enter Tryd.func150, Tryd.ntmps150
                  go_wp2
                  go_loop [8, 9] (fun v j => ∃ k : Nat, k ≤ n ∧ j = .int .i64 ((k : Int) + 1) ∧ v = .int .u64 (valB ((l.drop (i + 1)).take k))) (fun v j => n + 1 - (intOf j).toNat)
                  case atStart => exact ⟨0, Nat.zero_le _, rfl, rfl⟩
                  case round =>
                    obtain ⟨k, hk, rfl, rfl⟩ := hrel
                    by_cases hlt : k < n
                    · first
                      | (exfalso; omega)
                      | (
                      have hle : decide ((k : Int) + 1 ≤ (n : Int)) = true := by simp; omega
                      have hle' : decide ((k : Int) < (n : Int)) = true := by simp; omega
                      have hix : i + (k + 1) < s.size := by omega
                      go_wp2
                      go_round
                      case rel =>
                        refine ⟨k + 1, by omega, by go_num, ?_⟩
                        rw [valB_take _ _ (by simp; omega), add_step _ _ (UInt8.toNat_lt _) (valB_take_lt _ _ (by omega))]
                        have e1 : (l.drop (i + 1))[k]'(by simp; omega) = s[i + (k + 1)] := by rw [← HG.out _ hix, List.getElem_drop]; congr 1; omega
                        rw [e1]
                      case measure => simp [intOf] <;> omega)
                    · have hle : decide ((k : Int) + 1 ≤ (n : Int)) = false := by simp; omega
                      have hle' : decide ((k : Int) < (n : Int)) = false := by simp; omega
                      have hkn := Lib.hid (show k = n by omega)
                      go_wp2
                      go_ret3
                      refine ⟨tup3_ret (v := valB ((l.drop (i + 1)).take n)) ?_ ?_, rfl⟩
                      · rw [EN.out]
                        unfold getNumN
                        rw [if_neg g1, dif_pos g2, if_neg (by rw [← HN.out]; exact h3), if_neg (by rw [← HN.out]; exact H4.out), if_neg (by rw [← HN.out]; omega), ← HN.out]
                        try simp [hn0.out]
                      · first
                        | (rw [hn0.out]; rfl)
                        | rw [← hkn.out]
              · have d5 : decide ((i : Int) + 1 < (s.size : Int)) = false := by simp; omega
                have HN := Lib.hid hn
                have H4 := Lib.hid h4
                have d7 : decide ((s.size : Int) - (i : Int) - 1 < (n : Int)) = true := by simp; omega
                clear hn h4
                go_enter Tryd.func150, Tryd.ntmps150
                go_wp2
                go_ret3
                refine ⟨tup3_ret (v := 0) ?_ (by rfl), rfl⟩
                rw [EN.out]
                unfold getNumN
                rw [if_neg g1, dif_pos g2, if_neg (by rw [← HN.out]; exact h3), if_neg (by rw [← HN.out]; exact H4.out), if_pos (by rw [← HN.out]; omega)]
      · have d2 : ((i : Int) == (s.size : Int)) = true := by simp; omega
        go_enter Tryd.func150, Tryd.ntmps150
        go_wp2
        go_ret3
        refine ⟨tup3_ret (v := 0) ?_ (by rfl), rfl⟩
        rw [EN.out]
        unfold getNumN
        rw [if_neg g1, dif_neg (by omega)]
end Go.Proofs.YtcmgeccgahakbaaDoor

/- The reference of chapter 9: its reader R in memory; Wrong, raw, Num, Count, Text, End. -/
namespace Go.Proofs.YtcmgeccgahakbaaDoor
open Go Go.RowKit
attribute [local go_sem] yields yUpon

/-- A reader of the reference in memory: its bytes (a text), the next place, what is wrong. -/
structure RqAt (w : World) (q : Nat) (S : ByteArray) (s : Nat × Int) : Prop where
  box : BoxAt w q #[.string S, .int .i64 (s.1 : Int), .int .i64 s.2] 105
  le : s.1 ≤ S.size
  big : S.size ≤ 900000
theorem cntR_err {B : List UInt8} {s : Nat × Int} (h : (cntR B s).2.2 ≠ 0) : (cntR B s).1 = 0 := by
  by_cases a : (anyR B s).1 ≤ B.length - (anyR B s).2.1
  · by_cases b : (anyR B s).2.2 = 0
    · exact absurd (by unfold cntR; rw [if_pos a, if_pos b]; exact b) h
    · unfold cntR; rw [if_pos a, if_neg b]
  · unfold cntR; rw [if_neg a]
theorem dat_size9 (s : ByteArray) : s.data.toList.length = s.size := by rw [Array.length_toList]; rfl
theorem extract_dat (S : ByteArray) (i V : Nat) : S.extract i (i + V) = str ((S.data.toList.drop i).take V) := by
  apply ByteArray.ext
  apply Array.toList_inj.1
  rw [ByteArray.data_extract]
  simp [str, List.take_drop]
section
variable {w w' : World} {q : Nat} {S : ByteArray} {s : Nat × Int}
theorem RqAt.ext (h : RqAt w q S s) (hE : Ext w w') : RqAt w' q S s := ⟨h.box.ext hE, h.le, h.big⟩
theorem RqAt.c0 (h : RqAt w q S s) : w.cell? ⟨q, 0, none⟩ = some (.string S) := h.box.cell 0
theorem RqAt.c1 (h : RqAt w q S s) : w.cell? ⟨q, 1, none⟩ = some (.int .i64 (s.1 : Int)) := h.box.cell 1
theorem RqAt.c2 (h : RqAt w q S s) : w.cell? ⟨q, 2, none⟩ = some (.int .i64 s.2) := h.box.cell 2
theorem RqAt.f1 (h : RqAt w q S s) : w.frozen? ⟨q, 1, none⟩ = false := h.box.free 1
theorem RqAt.f2 (h : RqAt w q S s) : w.frozen? ⟨q, 2, none⟩ = false := h.box.free 2
theorem RqAt.lt (h : RqAt w q S s) : q < w.heap.size := BoxAt.lt h.box
theorem RqAt.set1 (h : RqAt w q S s) (i : Nat) (hi : i ≤ S.size) : RqAt (w.setCell ⟨q, 1, none⟩ (.int .i64 (i : Int))) q S (i, s.2) := ⟨h.box.set 1 _, hi, h.big⟩
theorem RqAt.set2 (h : RqAt w q S s) (e : Int) : RqAt (w.setCell ⟨q, 2, none⟩ (.int .i64 e)) q S (s.1, e) := ⟨h.box.set 2 _, h.le, h.big⟩
theorem RqAt.len (h : RqAt w q S s) : s.1 ≤ S.data.toList.length := by rw [dat_size9]; exact h.le
end

set_option maxHeartbeats 400000 in
theorem rq_wrong {w : World} {q : Nat} {S : ByteArray} {s : Nat × Int} (k : Int) (h : RqAt w q S s) :
    Calls Tryd.prog 67 #[.pointer (some ⟨q, 0, none⟩), .int .i64 k] w fun e w' => e = .returned (.tuple #[]) ∧ RqAt w' q S (failR k s) ∧ Touch9 w w' q := by
  have c2 := h.c2
  have f2 := h.f2
  obtain ⟨i, e⟩ := s
  simp only at c2
  by_cases he : e = 0
  · subst he
    have hf : failR k (i, 0) = (i, k) := if_pos rfl
    rw [hf]
    go_enter Tryd.func67, Tryd.ntmps67
    go_wp2
    go_end0
    exact ⟨rfl, h.set2 k, Touch9.set w 2 _⟩
  · have hf : failR k (i, e) = (i, e) := if_neg he
    rw [hf]
    go_enter Tryd.func67, Tryd.ntmps67
    go_wp2
    go_end0
    exact ⟨rfl, h, Touch9.refl w q⟩

set_option maxRecDepth 100000 in
set_option maxHeartbeats 1000000 in
theorem rq_raw {w : World} {q : Nat} {S : ByteArray} {s : Nat × Int} (h : RqAt w q S s) :
    Calls Tryd.prog 121 #[.pointer (some ⟨q, 0, none⟩)] w fun e w' => e = .returned (.int .u64 ((anyR S.data.toList s).1 : Int)) ∧ RqAt w' q S (anyR S.data.toList s).2 ∧ Touch9 w w' q := by
  have c0 := h.c0
  have c1 := h.c1
  have c2 := h.c2
  have f1 := h.f1
  have hle := h.le
  have hbig := h.big
  obtain ⟨i, e⟩ := s
  simp only at c1 c2 hle
  by_cases he : e = 0
  · subst he
    obtain ⟨V, N, K, hg⟩ : ∃ V N K, getNum S.data.toList (i : Int) = (V, N, K) := ⟨_, _, _, rfl⟩
    have hcall : ∀ n, Calls Tryd.prog 150 #[.string S, .int .i64 (i : Int)] (w.drewN n) fun e w'' => e = .returned (.tuple #[.int .u64 (V : Int), .int .i64 N, .int .i64 K]) ∧ w'' = w.drewN n := fun n => by
      have hx := rgetNum_any S (i : Int) (w.drewN n) (by omega)
      rw [hg] at hx
      exact hx.mono fun e w'' hh => ⟨hh.1, hh.2.symm⟩
    by_cases hK : K = 0
    · subst hK
      have hn : N = ((N.toNat : Nat) : Int) ∧ N.toNat ≤ S.size := by
        have := @getNumN_next S.data.toList i
        rw [← getNum_nat, hg] at this
        have := this rfl
        simp only [dat_size9] at this
        omega
      have e1 : Hid (anyR S.data.toList (i, 0) = (V, (N.toNat, 0))) := Lib.hid (by unfold anyR; rw [if_pos rfl, hg]; rfl)
      have HC := Lib.hid hcall
      have HN := Lib.hid hn
      rw [e1.out]
      clear hcall hg hn e1
      go_enter Tryd.func121, Tryd.ntmps121
      go_wp2
      go_quiet (first | (go_at_call 150; go_must (refine Calls.quiet_of_same (HC.out _))))
      go_wp2
      go_ret
      rw [HN.out.1]
      exact ⟨rfl, (h.ext ((Ext.refl w).drewN nq)).set1 _ HN.out.2, (Touch9.refl w q).drewN nq |>.put 1 _⟩
    · have e1 : Hid (anyR S.data.toList (i, 0) = (0, (i, K))) := Lib.hid (by unfold anyR; rw [if_pos rfl, hg, if_neg hK])
      have HC := Lib.hid hcall
      have ef : Hid (failR K (i, 0) = (i, K)) := Lib.hid (if_pos rfl)
      rw [e1.out]
      clear hcall hg e1
      go_enter Tryd.func121, Tryd.ntmps121
      go_wp2
      go_quiet (first | (go_at_call 150; go_must (refine Calls.quiet_of_same (HC.out _))))
      go_wp2_with (go_at_call 67; go_must (refine (rq_wrong K (h.ext ((Ext.refl w).drewN nq))).mono ?_); rintro e w1 ⟨rfl, h1, hT1⟩)
      go_ret
      exact ⟨rfl, by rw [ef.out] at h1; exact h1, ((Touch9.refl w q).drewN nq).trans hT1⟩
  · have e1 : anyR S.data.toList (i, e) = (0, (i, e)) := by unfold anyR; rw [if_neg he]
    rw [e1]
    go_enter Tryd.func121, Tryd.ntmps121
    go_wp2
    go_ret
    exact ⟨rfl, h, Touch9.refl w q⟩

set_option maxHeartbeats 1000000 in
theorem rq_num {w : World} {q : Nat} {S : ByteArray} {s : Nat × Int} (h : RqAt w q S s) :
    Calls Tryd.prog 79 #[.pointer (some ⟨q, 0, none⟩)] w fun e w' => e = .returned (.int .i64 ((numR S.data.toList s).1 : Int)) ∧ RqAt w' q S (numR S.data.toList s).2 ∧ Touch9 w w' q := by
  obtain ⟨V, s1, hV⟩ : ∃ V s1, anyR S.data.toList s = (V, s1) := ⟨_, _, rfl⟩
  have hA := rq_raw h
  rw [hV] at hA
  simp only at hA
  have HA := Lib.hid hA
  have hlt := anyR_lt S.data.toList s
  rw [hV] at hlt
  simp only at hlt
  clear hA
  by_cases hc : V ≤ 1099511627776
  · have e1 : numR S.data.toList s = (V, s1) := by unfold numR; rw [hV]; exact if_pos hc
    rw [e1]
    have d : ¬ (1099511627776 : Int) < (V : Int) := by omega
    clear e1 hV
    go_enter Tryd.func79, Tryd.ntmps79
    go_wp2_with (go_at_call 121; go_must (refine HA.out.mono ?_); rintro e w1 ⟨rfl, h1, hT1⟩)
    go_ret
    exact ⟨ret_int (by omega), h1, hT1⟩
  · have e1 : numR S.data.toList s = (0, failR 6 s1) := by unfold numR; rw [hV]; exact if_neg hc
    rw [e1]
    have d : decide ((1099511627776 : Int) < (V : Int)) = true := decide_eq_true (by omega)
    clear e1 hV
    go_enter Tryd.func79, Tryd.ntmps79
    go_wp2_with (first
      | (go_at_call 121; go_must (refine HA.out.mono ?_); rintro e w1 ⟨rfl, h1, hT1⟩)
      | (go_at_call 67; go_must (refine (rq_wrong 6 h1).mono ?_); rintro e w2 ⟨rfl, h2, hT2⟩))
    go_ret
    exact ⟨rfl, h2, hT1.trans hT2⟩

set_option maxRecDepth 100000 in
set_option maxHeartbeats 2000000 in
theorem rq_count {w : World} {q : Nat} {S : ByteArray} {s : Nat × Int} (h : RqAt w q S s) :
    Calls Tryd.prog 78 #[.pointer (some ⟨q, 0, none⟩)] w fun e w' => e = .returned (.int .i64 ((cntR S.data.toList s).1 : Int)) ∧ RqAt w' q S (cntR S.data.toList s).2 ∧ Touch9 w w' q := by
  obtain ⟨V, i, e, hV⟩ : ∃ V i e, anyR S.data.toList s = (V, i, e) := ⟨_, _, _, rfl⟩
  have hA := rq_raw h
  have hlt := anyR_lt S.data.toList s
  have hle := anyR_le h.len
  have hbig := h.big
  have hez : ¬ e = 0 → V = 0 := fun he => by
    have := hV
    unfold anyR at this
    split at this
    · split at this
      · cases this; exact absurd rfl he
      · cases this; rfl
    · cases this; rfl
  rw [hV] at hA hlt hle
  simp only [dat_size9] at hA hlt hle
  have HA := Lib.hid hA
  clear hA
  obtain ⟨lf, hlf⟩ : ∃ lf, lf = S.size - i := ⟨_, rfl⟩
  have hsub : (S.size : Int) - (i : Int) = (lf : Int) := by omega
  have hw : IntKind.u64.wrap (lf : Int) = (lf : Int) := by rw [IntKind.wrap_u64]; omega
  by_cases hc : V ≤ lf
  · have d : ¬ ((lf : Int) < (V : Int)) := by omega
    have e1 : cntR S.data.toList s = (V, i, e) := by
      unfold cntR
      rw [hV]
      simp only [dat_size9]
      rw [if_pos (by omega)]
      by_cases he : e = 0
      · rw [if_pos he]
      · rw [if_neg he, hez he]
    rw [e1]
    clear e1 hV hlf
    go_enter Tryd.func78, Tryd.ntmps78
    go_wp2_with (go_at_call 121; go_must (refine HA.out.mono ?_); rintro e' w1 ⟨rfl, h1, hT1⟩; have c0 := h1.c0; have c1 : w1.cell? ⟨q, 1, none⟩ = some (.int .i64 (i : Int)) := h1.c1)
    go_quiet (fail)
    go_wp2_with fail
    go_ret
    exact ⟨ret_int (by first | omega | (simp only [wrap64]; omega)), h1.ext ((Ext.refl w1).drewN _), hT1.drewN _⟩
  · have d : decide ((lf : Int) < (V : Int)) = true := decide_eq_true (by omega)
    have e1 : cntR S.data.toList s = (0, failR 8 (i, e)) := by
      unfold cntR
      rw [hV]
      simp only [dat_size9]
      rw [if_neg (by omega)]
    rw [e1]
    clear e1 hV hlf
    go_enter Tryd.func78, Tryd.ntmps78
    go_wp2_with (go_at_call 121; go_must (refine HA.out.mono ?_); rintro e' w1 ⟨rfl, h1, hT1⟩; have c0 := h1.c0; have c1 : w1.cell? ⟨q, 1, none⟩ = some (.int .i64 (i : Int)) := h1.c1)
    go_quiet (fail)
    go_wp2_with (go_at_call 67; go_must (refine (rq_wrong 8 (h1.ext ((Ext.refl w1).drewN _))).mono ?_); rintro e w2 ⟨rfl, h2, hT2⟩)
    go_ret
    exact ⟨rfl, h2, (hT1.drewN _).trans hT2⟩

set_option maxRecDepth 100000 in
set_option maxHeartbeats 2000000 in
theorem rq_text {w : World} {q : Nat} {S : ByteArray} {s : Nat × Int} (h : RqAt w q S s) :
    Calls Tryd.prog 80 #[.pointer (some ⟨q, 0, none⟩)] w fun e w' => e = .returned (.string (txtR S.data.toList s).1) ∧ RqAt w' q S (txtR S.data.toList s).2 ∧ Touch9 w w' q := by
  have hA := rq_count h
  have hle := cntR_le h.len
  have hbig := h.big
  unfold txtR
  obtain ⟨V, i, e, hV⟩ : ∃ V i e, cntR S.data.toList s = (V, i, e) := ⟨_, _, _, rfl⟩
  have hez : ¬ e = 0 → V = 0 := fun he => by
    have := cntR_err (B := S.data.toList) (s := s) (by rw [hV]; exact he)
    rw [hV] at this
    exact this
  rw [hV] at hA hle ⊢
  simp only [dat_size9] at hA hle ⊢
  have HA := Lib.hid hA
  clear hA hV
  by_cases he : e = 0
  · subst he
    have HX : Hid (S.extract i (i + V) = str ((S.data.toList.drop i).take V)) := Lib.hid (extract_dat S i V)
    obtain ⟨j, hj⟩ : ∃ j, j = i + V := ⟨_, rfl⟩
    have hji : (i : Int) + (V : Int) = (j : Int) := by omega
    have hij : i ≤ j := by omega
    have hjs : j ≤ S.size := by omega
    rw [← hj] at HX
    have HJ := Lib.hid hj
    clear hj hez hle
    go_enter Tryd.func80, Tryd.ntmps80
    go_wp2_with (go_at_call 78; go_must (refine HA.out.mono ?_); rintro e' w1 ⟨rfl, h1, hT1⟩; have c0 := h1.c0; have c1 : w1.cell? ⟨q, 1, none⟩ = some (.int .i64 (i : Int)) := h1.c1; have c2 : w1.cell? ⟨q, 2, none⟩ = some (.int .i64 0) := h1.c2; have f1 := h1.f1)
    go_quiet (fail)
    go_wp2_with fail
    go_ret
    rw [HX.out, ← HJ.out]
    exact ⟨rfl, (h1.ext ((Ext.refl w1).drewN _)).set1 j hjs, (hT1.drewN _).put 1 _⟩
  · obtain rfl : V = 0 := hez he
    go_enter Tryd.func80, Tryd.ntmps80
    go_wp2_with (go_at_call 78; go_must (refine HA.out.mono ?_); rintro e' w1 ⟨rfl, h1, hT1⟩; have c2 : w1.cell? ⟨q, 2, none⟩ = some (.int .i64 e) := h1.c2)
    go_ret
    exact ⟨rfl, h1, hT1⟩
end Go.Proofs.YtcmgeccgahakbaaDoor

/- The reference of chapter 9: its reader's cell. -/
namespace Go.Proofs.YtcmgeccgahakbaaDoor
open Go Go.RowKit
attribute [local go_sem] yields yUpon

section
variable {w a : World} {q : Nat} {S : ByteArray} {s s' : Nat × Int}
theorem RqAt.put (h : RqAt w q S s) (h1 : RqAt a q S s') {p : Nat} (hp : w.heap.size ≤ p) (i : Nat) (u : Value) : RqAt (a.setCell ⟨p, i, none⟩ u) q S s' :=
  ⟨h1.box.other (by have := h.lt; omega) i u, h1.le, h1.big⟩
theorem rq_done1 (h : RqAt w q S s) (hx : RqAt a q S s' ∧ Touch9 w a q) {p : Nat} (hp : w.heap.size ≤ p) (i : Nat) (u : Value) : RqAt (a.setCell ⟨p, i, none⟩ u) q S s' ∧ Touch9 w (a.setCell ⟨p, i, none⟩ u) q :=
  ⟨h.put hx.1 hp i u, hx.2.put2 hp i u⟩
theorem rq_done (h : RqAt w q S s) (hT : Touch9 w a q) (h1 : RqAt a q S s') {p : Nat} (hp : w.heap.size ≤ p) (u0 u1 u2 u3 : Value) :
    RqAt ((((a.setCell ⟨p, 0, none⟩ u0).setCell ⟨p, 1, none⟩ u1).setCell ⟨p, 2, none⟩ u2).setCell ⟨p, 3, none⟩ u3) q S s' ∧ Touch9 w ((((a.setCell ⟨p, 0, none⟩ u0).setCell ⟨p, 1, none⟩ u1).setCell ⟨p, 2, none⟩ u2).setCell ⟨p, 3, none⟩ u3) q :=
  rq_done1 h (rq_done1 h (rq_done1 h (rq_done1 h ⟨h1, hT⟩ hp 0 u0) hp 1 u1) hp 2 u2) hp 3 u3
end
theorem anyR_err {B : List UInt8} {s : Nat × Int} (h : s.2 ≠ 0) : anyR B s = (0, s) := if_neg h
theorem anyR_errV {B : List UInt8} {s : Nat × Int} (h : (anyR B s).2.2 ≠ 0) : (anyR B s).1 = 0 := by
  unfold anyR at h ⊢
  by_cases a : s.2 = 0
  · rw [if_pos a] at h ⊢
    by_cases b : (getNum B s.1).2.2 = 0
    · rw [if_pos b] at h; exact absurd rfl h
    · rw [if_neg b]
  · rw [if_neg a]
theorem numR_err {B : List UInt8} {s : Nat × Int} (h : s.2 ≠ 0) : numR B s = (0, s) := by
  unfold numR
  rw [anyR_err h]
  exact if_pos (by omega)
theorem numR_errV {B : List UInt8} {s : Nat × Int} (h : (numR B s).2.2 ≠ 0) : (numR B s).1 = 0 := by
  unfold numR at h ⊢
  by_cases a : (anyR B s).1 ≤ 1099511627776
  · rw [if_pos a] at h ⊢; exact anyR_errV h
  · rw [if_neg a]
theorem txtR_err {B : List UInt8} {s : Nat × Int} (h : s.2 ≠ 0) : txtR B s = (⟨#[]⟩, s) := by
  have e : cntR B s = (0, s) := by
    unfold cntR
    rw [anyR_err h]
    simp only
    rw [if_pos (Nat.zero_le _), if_neg h]
  unfold txtR
  rw [e]
  simp [str]
theorem cellR_zero {B : List UInt8} {s s1 : Nat × Int} (h : numR B s = (0, s1)) : cellR B s = (zeroCl, s1) := by
  unfold cellR; rw [h]; rfl
theorem cellR_end {B : List UInt8} {s : Nat × Int} {A i : Nat} (h : numR B s = (A, (i, 0))) (hA : A ≠ 0) (hi : B.length ≤ i) : cellR B s = (⟨⟨#[]⟩, false, A, 0⟩, (i, 8)) := by
  have e : truR B (i, 0) = (false, (i, 8)) := by
    unfold truR
    rw [if_pos rfl, List.getElem?_eq_none (by omega)]
  unfold cellR
  rw [h]
  simp only
  rw [if_neg hA, e]
  simp only [Bool.false_eq_true, if_false]
  rw [txtR_err (show (8 : Int) ≠ 0 by decide), numR_err (show (8 : Int) ≠ 0 by decide)]
  rfl
theorem cellR_dead {B : List UInt8} {s : Nat × Int} {A i : Nat} (h : numR B s = (A, (i, 0))) (hA : A ≠ 0) (hi : i < B.length) (hb : B[i].toNat = 1) : cellR B s = (⟨⟨#[]⟩, true, A, 0⟩, (i + 1, 0)) := by
  have e : truR B (i, 0) = (true, (i + 1, 0)) := by
    unfold truR
    rw [if_pos rfl, List.getElem?_eq_getElem hi]
    simp only [hb]
    have : B[i] = 1 := UInt8.toNat.inj (by rw [hb]; rfl)
    rw [this]
    rfl
  unfold cellR
  rw [h]
  simp only
  rw [if_neg hA, e]
  rfl
theorem cellR_live {B : List UInt8} {s s2 s3 : Nat × Int} {A i F : Nat} {X : ByteArray} (h : numR B s = (A, (i, 0))) (hA : A ≠ 0) (hi : i < B.length) (hb : B[i].toNat = 0) (hX : txtR B (i + 1, 0) = (X, s2)) (hF : numR B s2 = (F, s3)) : cellR B s = (⟨X, false, A, F⟩, s3) := by
  have e : truR B (i, 0) = (false, (i + 1, 0)) := by
    unfold truR
    rw [if_pos rfl, List.getElem?_eq_getElem hi]
    simp only [hb]
    have : B[i] = 0 := UInt8.toNat.inj (by rw [hb]; rfl)
    rw [this]
    rfl
  unfold cellR
  rw [h]
  simp only
  rw [if_neg hA, e]
  simp only [Bool.false_eq_true, if_false]
  rw [hX]
  simp only
  rw [hF]
theorem cellR_odd {B : List UInt8} {s : Nat × Int} {A i : Nat} (h : numR B s = (A, (i, 0))) (hA : A ≠ 0) (hi : i < B.length) (hb : 1 < B[i].toNat) : cellR B s = (⟨⟨#[]⟩, false, A, 0⟩, (i + 1, 6)) := by
  have e : truR B (i, 0) = (false, (i + 1, 6)) := by
    unfold truR
    rw [if_pos rfl, List.getElem?_eq_getElem hi]
    simp only [if_pos hb]
    have : (B[i] == 1) = false := by
      rw [beq_eq_false_iff_ne]
      intro e
      rw [e] at hb
      exact absurd hb (by decide)
    rw [this]
  unfold cellR
  rw [h]
  simp only
  rw [if_neg hA, e]
  simp only [Bool.false_eq_true, if_false]
  rw [txtR_err (show (6 : Int) ≠ 0 by decide), numR_err (show (6 : Int) ≠ 0 by decide)]
  rfl

set_option maxRecDepth 100000 in
set_option maxHeartbeats 8000000 in
theorem rq_cell {w : World} {q : Nat} {S : ByteArray} {s : Nat × Int} (h : RqAt w q S s) :
    Calls Tryd.prog 148 #[.pointer (some ⟨q, 0, none⟩)] w fun e w' => e = .returned (.agg (cl4 (cellR S.data.toList s).1)) ∧ RqAt w' q S (cellR S.data.toList s).2 ∧ Touch9 w w' q := by
  have hq := h.lt
  have hE0 := (Ext.refl w).alloc (.cells (cl4 zeroCl) 88)
  have b2 := BoxAt.made w (cl4 zeroCl) 88
  have h0 := h.ext hE0
  have hq2 : w.heap.size ≠ q := by omega
  obtain ⟨A, ⟨i, e⟩, hA⟩ : ∃ A s1, numR S.data.toList s = (A, s1) := ⟨_, _, rfl⟩
  have k1 := rq_num h0
  rw [hA] at k1
  simp only at k1
  have K1 := Lib.hid k1
  clear k1
  by_cases hA0 : A = 0
  · subst hA0
    have HCR := Lib.hid (cellR_zero hA)
    rw [HCR.out]
    clear hA HCR
    have K1' : Hid (Calls Tryd.prog 79 #[.pointer (some ⟨q, 0, none⟩)] (w.alloc (.cells (cl4 zeroCl) 88)) fun e' w' => e' = .returned (.int .i64 0) ∧ RqAt w' q S (i, e) ∧ Touch9 (w.alloc (.cells (cl4 zeroCl) 88)) w' q) := Lib.hid K1.out
    clear K1
    by_cases he : e = 0
    · subst he
      go_enter Tryd.func148, Tryd.ntmps148
      go_wp2_with (go_at_call 79; go_must (refine K1'.out.mono ?_); rintro e w1 ⟨rfl, h1, hT1⟩; have b21 := hT1.box b2 hq2; have c2 : ∀ o, (w1.alloc o).cell? ⟨q, 2, none⟩ = some (.int .i64 0) := fun o => h1.box.allocs o 2; have y0 : ∀ o, (w1.alloc o).cell? ⟨w.heap.size, 0, none⟩ = some (.string ⟨#[]⟩) := fun o => b21.allocs o 0; have y1 : ∀ o, (w1.alloc o).cell? ⟨w.heap.size, 1, none⟩ = some (.bool false) := fun o => b21.allocs o 1; have y2 : ∀ o, (w1.alloc o).cell? ⟨w.heap.size, 2, none⟩ = some (.int .i64 0) := fun o => b21.allocs o 2; have y3 : ∀ o, (w1.alloc o).cell? ⟨w.heap.size, 3, none⟩ = some (.int .i64 0) := fun o => b21.allocs o 3; have xf := b21.frees)
      refine bodyPost_ret (v := .agg (cl4 zeroCl)) ?_ rfl ⟨rfl, rq_done h ((Touch9.of_ext hE0 q).trans (hT1.alloc _)) (h1.ext ((Ext.refl w1).alloc _)) (Nat.le_refl _) _ _ _ _⟩
      generalize hW : World.setCell _ _ _ = w9
      have hb : BoxAt w9 w.heap.size (cl4 zeroCl) 88 := by rw [← hW]; exact (b21.ext ((Ext.refl _).alloc _)).put4 (d := zeroCl)
      obtain ⟨z0, z1, z2, z3⟩ := hb.cl
      simp [results, Tryd.results148, go_sem, z0, z1, z2, z3]
      rfl
    · have d0 : (e == 0) = false := by simpa using he
      go_enter Tryd.func148, Tryd.ntmps148
      go_wp2_with (go_at_call 79; go_must (refine K1'.out.mono ?_); rintro e' w1 ⟨rfl, h1, hT1⟩; have b21 := hT1.box b2 hq2; have c2 : ∀ o, (w1.alloc o).cell? ⟨q, 2, none⟩ = some (.int .i64 e) := fun o => h1.box.allocs o 2; have y0 : ∀ o, (w1.alloc o).cell? ⟨w.heap.size, 0, none⟩ = some (.string ⟨#[]⟩) := fun o => b21.allocs o 0; have y1 : ∀ o, (w1.alloc o).cell? ⟨w.heap.size, 1, none⟩ = some (.bool false) := fun o => b21.allocs o 1; have y2 : ∀ o, (w1.alloc o).cell? ⟨w.heap.size, 2, none⟩ = some (.int .i64 0) := fun o => b21.allocs o 2; have y3 : ∀ o, (w1.alloc o).cell? ⟨w.heap.size, 3, none⟩ = some (.int .i64 0) := fun o => b21.allocs o 3; have xf := b21.frees)
      refine bodyPost_ret (v := .agg (cl4 zeroCl)) ?_ rfl ⟨rfl, rq_done h ((Touch9.of_ext hE0 q).trans (hT1.alloc _)) (h1.ext ((Ext.refl w1).alloc _)) (Nat.le_refl _) _ _ _ _⟩
      generalize hW : World.setCell _ _ _ = w9
      have hb : BoxAt w9 w.heap.size (cl4 zeroCl) 88 := by rw [← hW]; exact (b21.ext ((Ext.refl _).alloc _)).put4 (d := zeroCl)
      obtain ⟨z0, z1, z2, z3⟩ := hb.cl
      simp [results, Tryd.results148, go_sem, z0, z1, z2, z3]
      rfl
  · obtain rfl : e = 0 := Classical.byContradiction fun he => hA0 (by have := numR_errV (B := S.data.toList) (s := s) (by rw [hA]; exact he); rw [hA] at this; exact this)
    have hAi : ¬ (A : Int) = 0 := by omega
    obtain ⟨CS, hCS⟩ : ∃ CS, CS = cellR S.data.toList s := ⟨_, rfl⟩
    rw [← hCS]
    have HCS := Lib.hid hCS
    have HNA := Lib.hid hA
    clear hCS hA
    go_enter Tryd.func148, Tryd.ntmps148
    go_upto_region 4 with (go_at_call 79; go_must (refine K1.out.mono ?_); rintro e w1 ⟨rfl, h1, hT1⟩; have b21 := hT1.box b2 hq2; have c2 : ∀ o, (w1.alloc o).cell? ⟨q, 2, none⟩ = some (.int .i64 0) := fun o => h1.box.allocs o 2)
    clear c2
    have b3 := BoxAt.made w1 #[.string ⟨#[]⟩, .bool false, .int .i64 (A : Int), .int .i64 0] 88
    have hEa := (Ext.refl w1).alloc (.cells #[.string ⟨#[]⟩, .bool false, .int .i64 (A : Int), .int .i64 0] 88)
    have h1a := h1.ext hEa
    have hT1a := (Touch9.of_ext hE0 q).trans (hT1.more hEa)
    have hle1 : w.heap.size ≤ w1.heap.size := by have := hE0.le; have := hT1.size; omega
    have hne23 : w.heap.size ≠ w1.heap.size := by have := b21.lt; omega
    have hq3 : w1.heap.size ≠ q := by have := h1.lt; omega
    have b22 := b21.ext hEa
    generalize hw2 : w1.alloc _ = w2 at b3 hEa h1a hT1a b22 ⊢
    replace b3 : BoxAt w2 w1.heap.size (cl4 ⟨⟨#[]⟩, false, (A : Int), 0⟩) 88 := b3
    have c0 := h1a.c0
    have c1 : w2.cell? ⟨q, 1, none⟩ = some (.int .i64 (i : Int)) := h1a.c1
    have hbig := h1a.big
    clear hw2
    by_cases hi : i < S.size
    · obtain ⟨x, hx⟩ : ∃ x, x = S[i].toNat := ⟨_, rfl⟩
      have hx256 : x < 256 := by rw [hx]; exact S[i].toNat_lt
      have hxd : (S.data.toList[i]'(by rw [dat_size9]; exact hi)).toNat = x := by rw [hx]; rfl
      have hil : i < S.data.toList.length := by rw [dat_size9]; exact hi
      have HXD := Lib.hid hxd
      have hxr := hx.symm
      have hii : (i : Int) < (S.size : Int) := by omega
      clear hxd hx
      go_quiet (fail)
      have h2 := h1a.ext ((Ext.refl w2).drewN nq)
      have hT2 := hT1a.drewN nq
      have b32 := b3.ext ((Ext.refl w2).drewN nq)
      have b23 := b22.ext ((Ext.refl w2).drewN nq)
      clear c0 c1
      generalize w2.drewN nq = w3 at h2 hT2 b32 b23 ⊢
      have c0 := h2.c0
      have c1 : w3.cell? ⟨q, 1, none⟩ = some (.int .i64 (i : Int)) := h2.c1
      go_wp2_with fail
      go_quiet (fail)
      have h4 := h2.ext ((Ext.refl w3).drewN nq)
      have hT4 := hT2.drewN nq
      have b34 := b32.ext ((Ext.refl w3).drewN nq)
      have b24 := b23.ext ((Ext.refl w3).drewN nq)
      clear c0 c1
      generalize w3.drewN nq = w4 at h4 hT4 b34 b24 ⊢
      have c1 : w4.cell? ⟨q, 1, none⟩ = some (.int .i64 (i : Int)) := h4.c1
      have f1 := h4.f1
      have h5 := h4.set1 (i + 1) (by omega)
      have hT5 := hT4.put 1 (.int .i64 ((i + 1 : Nat) : Int))
      have b35 := b34.other (q := q) hq3 1 (.int .i64 ((i + 1 : Nat) : Int))
      have b25 := b24.other (q := q) hq2 1 (.int .i64 ((i + 1 : Nat) : Int))
      have hcast : ((i + 1 : Nat) : Int) = (i : Int) + 1 := by omega
      rw [hcast] at h5 hT5 b35 b25
      by_cases hx0 : x = 0
      · subst hx0
        obtain ⟨X, s2, hX⟩ : ∃ X s2, txtR S.data.toList (i + 1, 0) = (X, s2) := ⟨_, _, rfl⟩
        obtain ⟨F, s3, hF⟩ : ∃ F s3, numR S.data.toList s2 = (F, s3) := ⟨_, _, rfl⟩
        have HC : Hid (CS = (⟨X, false, A, F⟩, s3)) := Lib.hid (by rw [HCS.out, cellR_live HNA.out hA0 hil HXD.out hX hF])
        have k5 := rq_text h5
        rw [hX] at k5
        simp only at k5
        have K5 := Lib.hid k5
        have HF := Lib.hid hF
        clear k5 hX hF
        go_wp2_with (first
          | (go_at_call 80; go_must (refine K5.out.mono ?_); rintro e w6 ⟨rfl, h6, hT6⟩; have b36 := hT6.box b35 hq3; have b26 := hT6.box b25 hq2; have hT6a := hT5.trans hT6; have d0 : w6.cell? ⟨w1.heap.size, 0, none⟩ = some (.string ⟨#[]⟩) := b36.cell 0; have g0 := b36.free 0; have h7 := h.put h6 hle1 0 (.string X); have hT7 := hT6a.put2 hle1 0 (.string X); have b37 := b36.set 0 (.string X); have b27 := b26.other (q := w1.heap.size) hne23 0 (.string X))
          | (go_at_call 79; go_must (refine (rq_num h7).mono ?_); rintro e w8 ⟨rfl, h8, hT8⟩; rw [HF.out] at h8; simp only at h8; rw [HF.out]; have b38 := hT8.box b37 hq3; have b28 := hT8.box b27 hq2; have hT8a := hT7.trans hT8; have d3 : w8.cell? ⟨w1.heap.size, 3, none⟩ = some (.int .i64 0) := b38.cell 3; have g3 := b38.free 3; have z0 : w8.cell? ⟨w1.heap.size, 0, none⟩ = some (.string X) := b38.cell 0; have z1 : w8.cell? ⟨w1.heap.size, 1, none⟩ = some (.bool false) := b38.cell 1; have z2 : w8.cell? ⟨w1.heap.size, 2, none⟩ = some (.int .i64 (A : Int)) := b38.cell 2; have y0 : w8.cell? ⟨w.heap.size, 0, none⟩ = some (.string ⟨#[]⟩) := b28.cell 0; have y1 : w8.cell? ⟨w.heap.size, 1, none⟩ = some (.bool false) := b28.cell 1; have y2 : w8.cell? ⟨w.heap.size, 2, none⟩ = some (.int .i64 0) := b28.cell 2; have y3 : w8.cell? ⟨w.heap.size, 3, none⟩ = some (.int .i64 0) := b28.cell 3; have xf := b28.free; have b39 := b38.set 3 (.int .i64 (F : Int)); have b29 := b28.other (q := w1.heap.size) hne23 3 (.int .i64 (F : Int)); have h9 := h.put h8 hle1 3 (.int .i64 (F : Int)); have hT9 := hT8a.put2 hle1 3 (.int .i64 (F : Int))))
        refine bodyPost_ret (v := .agg (cl4 ⟨X, false, (A : Int), (F : Int)⟩)) ?_ rfl ⟨by rw [HC.out], by rw [HC.out]; exact rq_done h hT9 h9 (Nat.le_refl _) _ _ _ _⟩
        generalize hW : World.setCell _ _ _ = w9
        have hb : BoxAt w9 w.heap.size (cl4 ⟨X, false, (A : Int), (F : Int)⟩) 88 := by rw [← hW]; exact b29.put4 (d := ⟨X, false, (A : Int), (F : Int)⟩)
        obtain ⟨z0, z1, z2, z3⟩ := hb.cl
        simp [results, Tryd.results148, go_sem, z0, z1, z2, z3]
        rfl
      · by_cases hx1 : x = 1
        · subst hx1
          have HC : Hid (CS = (⟨⟨#[]⟩, true, A, 0⟩, (i + 1, 0))) := Lib.hid (by rw [HCS.out, cellR_dead HNA.out hA0 hil HXD.out])
          have d1 : w4.cell? ⟨w1.heap.size, 1, none⟩ = some (.bool false) := b34.cell 1
          have d1' : (w4.setCell ⟨q, 1, none⟩ (.int .i64 ((i : Int) + 1))).cell? ⟨w1.heap.size, 1, none⟩ = some (.bool false) := b35.cell 1
          have g1 := b34.free 1
          have g1' := b35.free 1
          have b36 := b35.set 1 (.bool true)
          have b26 := b25.other (q := w1.heap.size) hne23 1 (.bool true)
          have h6 := h.put h5 hle1 1 (.bool true)
          have hT6 := hT5.put2 hle1 1 (.bool true)
          have hne32 : w1.heap.size ≠ w.heap.size := by omega
          have z0 : w4.cell? ⟨w1.heap.size, 0, none⟩ = some (.string ⟨#[]⟩) := b34.cell 0
          have z2 : w4.cell? ⟨w1.heap.size, 2, none⟩ = some (.int .i64 (A : Int)) := b34.cell 2
          have z3 : w4.cell? ⟨w1.heap.size, 3, none⟩ = some (.int .i64 0) := b34.cell 3
          have y0 : w4.cell? ⟨w.heap.size, 0, none⟩ = some (.string ⟨#[]⟩) := b24.cell 0
          have y1 : w4.cell? ⟨w.heap.size, 1, none⟩ = some (.bool false) := b24.cell 1
          have y2 : w4.cell? ⟨w.heap.size, 2, none⟩ = some (.int .i64 0) := b24.cell 2
          have y3 : w4.cell? ⟨w.heap.size, 3, none⟩ = some (.int .i64 0) := b24.cell 3
          have xf := b24.free
          go_wp2_with fail
          refine bodyPost_ret (v := .agg (cl4 ⟨⟨#[]⟩, true, (A : Int), 0⟩)) ?_ rfl ⟨by rw [HC.out], by rw [HC.out]; exact rq_done h hT6 h6 (Nat.le_refl _) _ _ _ _⟩
          generalize hW : World.setCell _ _ _ = w9
          have hb : BoxAt w9 w.heap.size (cl4 ⟨⟨#[]⟩, true, (A : Int), 0⟩) 88 := by rw [← hW]; exact b26.put4 (d := ⟨⟨#[]⟩, true, (A : Int), 0⟩)
          obtain ⟨z0, z1, z2, z3⟩ := hb.cl
          simp [results, Tryd.results148, go_sem, z0, z1, z2, z3]
          rfl
        · have hxg : 1 < x := by omega
          have HC : Hid (CS = (⟨⟨#[]⟩, false, A, 0⟩, (i + 1, 6))) := Lib.hid (by rw [HCS.out, cellR_odd HNA.out hA0 hil (by rw [HXD.out]; exact hxg)])
          have e0 : ((x : Int) == 0) = false := by simp; omega
          have e1 : ((x : Int) == 1) = false := by simp; omega
          go_wp2_with (go_at_call 67; go_must (refine (rq_wrong 6 h5).mono ?_); rintro e w6 ⟨rfl, h6, hT6⟩; have h6' : RqAt w6 q S (i + 1, 6) := h6; have b36 := hT6.box b35 hq3; have b26 := hT6.box b25 hq2; have z0 : w6.cell? ⟨w1.heap.size, 0, none⟩ = some (.string ⟨#[]⟩) := b36.cell 0; have z1 : w6.cell? ⟨w1.heap.size, 1, none⟩ = some (.bool false) := b36.cell 1; have z2 : w6.cell? ⟨w1.heap.size, 2, none⟩ = some (.int .i64 (A : Int)) := b36.cell 2; have z3 : w6.cell? ⟨w1.heap.size, 3, none⟩ = some (.int .i64 0) := b36.cell 3; have y0 : w6.cell? ⟨w.heap.size, 0, none⟩ = some (.string ⟨#[]⟩) := b26.cell 0; have y1 : w6.cell? ⟨w.heap.size, 1, none⟩ = some (.bool false) := b26.cell 1; have y2 : w6.cell? ⟨w.heap.size, 2, none⟩ = some (.int .i64 0) := b26.cell 2; have y3 : w6.cell? ⟨w.heap.size, 3, none⟩ = some (.int .i64 0) := b26.cell 3; have xf := b26.free)
          refine bodyPost_ret (v := .agg (cl4 ⟨⟨#[]⟩, false, (A : Int), 0⟩)) ?_ rfl ⟨by rw [HC.out], by rw [HC.out]; exact rq_done h (hT5.trans hT6) h6' (Nat.le_refl _) _ _ _ _⟩
          generalize hW : World.setCell _ _ _ = w9
          have hb : BoxAt w9 w.heap.size (cl4 ⟨⟨#[]⟩, false, (A : Int), 0⟩) 88 := by rw [← hW]; exact b26.put4 (d := ⟨⟨#[]⟩, false, (A : Int), 0⟩)
          obtain ⟨z0, z1, z2, z3⟩ := hb.cl
          simp [results, Tryd.results148, go_sem, z0, z1, z2, z3]
          rfl
    · have hle : decide ((S.size : Int) ≤ (i : Int)) = true := by simp; omega
      have HC : Hid (CS = (⟨⟨#[]⟩, false, A, 0⟩, (i, 8))) := Lib.hid (by rw [HCS.out, cellR_end HNA.out hA0 (by rw [dat_size9]; omega)])
      go_quiet (fail)
      go_wp2_with (go_at_call 67; go_must (refine (rq_wrong 8 (h1a.ext ((Ext.refl w2).drewN nq))).mono ?_); rintro e w3 ⟨rfl, h3, hT3⟩; have h3' : RqAt w3 q S (i, 8) := h3; have b23 := hT3.box (b22.ext ((Ext.refl w2).drewN nq)) hq2; have b33 := hT3.box (b3.ext ((Ext.refl w2).drewN nq)) hq3; have y0 : w3.cell? ⟨w.heap.size, 0, none⟩ = some (.string ⟨#[]⟩) := b23.cell 0; have y1 : w3.cell? ⟨w.heap.size, 1, none⟩ = some (.bool false) := b23.cell 1; have y2 : w3.cell? ⟨w.heap.size, 2, none⟩ = some (.int .i64 0) := b23.cell 2; have y3 : w3.cell? ⟨w.heap.size, 3, none⟩ = some (.int .i64 0) := b23.cell 3; have z0 : w3.cell? ⟨w1.heap.size, 0, none⟩ = some (.string ⟨#[]⟩) := b33.cell 0; have z1 : w3.cell? ⟨w1.heap.size, 1, none⟩ = some (.bool false) := b33.cell 1; have z2 : w3.cell? ⟨w1.heap.size, 2, none⟩ = some (.int .i64 (A : Int)) := b33.cell 2; have z3 : w3.cell? ⟨w1.heap.size, 3, none⟩ = some (.int .i64 0) := b33.cell 3; have xf := b23.free)
      refine bodyPost_ret (v := .agg (cl4 ⟨⟨#[]⟩, false, (A : Int), 0⟩)) ?_ rfl ⟨by rw [HC.out], by rw [HC.out]; exact rq_done h ((hT1a.drewN nq).trans hT3) h3' (Nat.le_refl _) _ _ _ _⟩
      generalize hW : World.setCell _ _ _ = w9
      have hb : BoxAt w9 w.heap.size (cl4 ⟨⟨#[]⟩, false, (A : Int), 0⟩) 88 := by rw [← hW]; exact b23.put4 (d := ⟨⟨#[]⟩, false, (A : Int), 0⟩)
      obtain ⟨z0, z1, z2, z3⟩ := hb.cl
      simp [results, Tryd.results148, go_sem, z0, z1, z2, z3]
      rfl
end Go.Proofs.YtcmgeccgahakbaaDoor
