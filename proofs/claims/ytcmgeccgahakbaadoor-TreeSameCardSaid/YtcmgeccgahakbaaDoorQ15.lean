/- clerestoryref23.Sums of any list of partitions (configuration that may be). -/
import Derived.Test.YtcmgeccgahakbaaDoorQ14
import Derived.Test.YtcmgeccgahakbaaDoorQ12
import Derived.Test.YtcmgeccgahakbaaDoorQ10
import Derived.Test.YtcmgeccgahakbaaDoorQ2
import Derived.Laws.Entries
import Derived.Laws.OwnMore
import Derived.Laws.AppendOwnNone
import Derived.Test.YtcmgeccgahakbaaDoorQ7
set_option linter.unusedSimpArgs false
set_option linter.unusedVariables false
namespace Go.Proofs.YtcmgeccgahakbaaDoor
open Go Go.RowKit
attribute [local go_sem] yields yUpon

theorem bodyP_le (p : Pa) : (bodyP p).length ≤ 262144 := by
  unfold bodyP partR
  split
  · split
    · assumption
    · simp
  · simp

set_option maxRecDepth 100000 in
set_option maxHeartbeats 16000000 in
theorem sums23_yes (n c : Nat) (t : Int) (hc : confB n c t = true) (v : Value) (L : List Pa) (x y : Int) (w : World) (hin : PartsIn w v L) (hlen : L.length ≤ 1000000) (hkey : ∀ p ∈ L, p.key.size ≤ maxLen) (hlow : ∀ p ∈ L, ∀ q ∈ p.ps, ∀ d ∈ q.1.cols, d.name.size ≤ 1000000) :
    Calls Tryd.prog 41 #[.agg #[.int .i64 (n : Int), .int .i64 (c : Int), .int .i64 t], v, .int .i64 x, .int .i64 y] w fun e w' => ∃ v', (e = .returned v' ∧ Ext w w') ∧ w'.ownsRow w.heap.size 3 1 v' 16 (kcells .i64 (sumsL n c x y L)) := by
  have b0 := BoxAt.made w #[.int .i64 (n : Int), .int .i64 (c : Int), .int .i64 t] 67
  have hE0 := (Ext.refl w).alloc (.cells #[.int .i64 (n : Int), .int .i64 (c : Int), .int .i64 t] 67)
  have x0 : (w.alloc (.cells #[.int .i64 (n : Int), .int .i64 (c : Int), .int .i64 t] 67)).cell? ⟨w.heap.size, 0, none⟩ = some (.int .i64 (n : Int)) := b0.cell 0
  have x1 : (w.alloc (.cells #[.int .i64 (n : Int), .int .i64 (c : Int), .int .i64 t] 67)).cell? ⟨w.heap.size, 1, none⟩ = some (.int .i64 (c : Int)) := b0.cell 1
  have x2 : (w.alloc (.cells #[.int .i64 (n : Int), .int .i64 (c : Int), .int .i64 t] 67)).cell? ⟨w.heap.size, 2, none⟩ = some (.int .i64 t) := b0.cell 2
  have HC := Lib.hid hc
  have HI := Lib.hid hin
  obtain ⟨a, cc, rfl, hcc, hccm, hcell⟩ := hin.get
  have HL := Lib.hid hcell
  have HK := Lib.hid hkey
  have HLo := Lib.hid hlow
  clear hin hc hcell hkey hlow
  obtain ⟨m, hm⟩ : ∃ m, m = L.length := ⟨_, rfl⟩
  have HM := Lib.hid hm
  rw [← hm] at hcc hlen HI ⊢
  clear hm
  go_enter Tryd.func41, Tryd.ntmps41
  go_wp2_with (go_at_call 103; go_must (refine (rcheck20_any n c t _).mono ?_); rintro e w1 ⟨rfl, hE1⟩; rw [HC.out])
  have b1 := b0.ext hE1
  have hE01 := hE0.trans hE1
  clear x0 x1 x2 b0 hE0 hE1
  go_loopw [9, 10] (fun vl i wr => ∃ (k : Nat) (va : Value), k ≤ 16 ∧ i = .int .i64 k ∧ vl = va ∧ wr.ownsRow w1.heap.size 3 1 va k (kcells .i64 ((sumsL n c x y L).take k)) ∧ Ext w1 wr) (fun _ i _ => 16 - (intOf i).toNat)
  case atStart => exact ⟨0, _, Nat.zero_le _, rfl, rfl, World.ownsRow_nil _ _ _ _, Ext.refl _⟩
  case round =>
    obtain ⟨k, va, hk, rfl, rfl, hown, hE⟩ := hrel
    obtain ⟨al, cl, rfl⟩ := own_shape hown
    by_cases hlt : k < 16
    · have t0 : decide ((k : Int) < 16) = true := by simp; omega
      go_wp2_with fail
      obtain ⟨wo, rfl⟩ : ∃ w', w' = wr := ⟨_, rfl⟩
      go_loopw [11, 12] (fun s i wr => ∃ (j : Nat) (S : ByteArray), j ≤ m ∧ i = .int .i64 j ∧ s = .string S ∧ S.size ≤ j * 262144 ∧ Hid (S = str (((L.take j).filter (inB n c x y k)).flatMap bodyP)) ∧ Ext wo wr) (fun _ i _ => m - (intOf i).toNat)
      case atStart => exact ⟨0, ⟨#[]⟩, Nat.zero_le _, rfl, rfl, by simp [ByteArray.size], Lib.hid rfl, Ext.refl _⟩
      case round =>
        obtain ⟨j, S, hj, rfl, rfl, hSz, HS, hE2⟩ := hrel
        have hX := hE.trans hE2
        by_cases hjm : j < m
        · have hjl : j < L.length := by rw [← HM.out]; exact hjm
          obtain ⟨b, o, rfl, hpa⟩ := HL.out j hjl
          replace hpa := hpa.ext (hE01.trans hX)
          have hmem : L[j] ∈ L := List.getElem_mem hjl
          have hr := (HI.out.rows _ hmem).ext (hE01.trans hX)
          have hks := HK.out _ hmem
          have hlo := Lib.hid (HLo.out _ hmem)
          obtain ⟨p, hp⟩ : ∃ p, p = L[j] := ⟨_, rfl⟩
          have HTK : Hid (L.take (j + 1) = L.take j ++ [p]) := Lib.hid (by rw [List.take_succ_eq_append_getElem hjl, hp])
          rw [← hp] at hpa hr hks hlo
          clear hp hmem
          obtain ⟨pk, pg, pu, ps⟩ := p
          have HPA := Lib.hid hpa
          obtain ⟨p0, p1, p2⟩ := hpa
          replace hr : RowsIn wr pu ps := hr
          replace hks : pk.size ≤ maxLen := hks
          replace p0 : wr.cell? ⟨b, o + j * 3, none⟩ = some (.string pk) := p0
          replace p1 : wr.cell? ⟨b, o + j * 3 + 1, none⟩ = some (.int .i64 pg) := p1
          replace p2 : wr.cell? ⟨b, o + j * 3 + 2, none⟩ = some pu := p2
          have HR := Lib.hid hr
          obtain ⟨au, cu, rfl, _⟩ := hr.get
          have z := b1.ext hX
          have c0 : wr.cell? ⟨w.heap.size, 0, none⟩ = some (.int .i64 (n : Int)) := z.cell 0
          have c1 : wr.cell? ⟨w.heap.size, 1, none⟩ = some (.int .i64 (c : Int)) := z.cell 1
          have c2 : wr.cell? ⟨w.heap.size, 2, none⟩ = some (.int .i64 t) := z.cell 2
          replace p0 := held p0
          replace c0 := held c0
          replace c1 := held c1
          replace c2 := held c2
          have t1 : decide ((j : Int) < (m : Int)) = true := by simp; omega
          clear hr z
          obtain ⟨bk, hbk⟩ : ∃ bk, bk = bucket1 pk := ⟨_, rfl⟩
          have HBK := Lib.hid hbk
          obtain ⟨B, hB⟩ : ∃ B, B = (ownN n c (place1 pk) x && ownN n c (place1 pk) y) := ⟨_, rfl⟩
          have HB := Lib.hid hB
          clear hB hbk
          by_cases hbe : bk = k
          · have hbi : ((bk : Int) == (k : Int)) = true := by rw [hbe]; simp
            have HBE := Lib.hid hbe
            clear hbe
            go_wp2_with fail
            refine wp_region_tab 19 [(5, fun v _ => v = .int .i64 (bk : Int)), (17, fun v _ => v = .bool B)] (by kernel_rfl) (by kernel_rfl) (by kernel_rfl) ⟨stays_eq _, stays_eq _, trivial⟩ ?_
            refine rg_quiet rfl rfl rfl rfl ?_; intro K hK; go_big_quiet_op; go_big_quiet_on
            refine rg_quiet rfl rfl rfl rfl ?_; intro K hK; go_big_quiet_op; go_big_quiet_on
            refine rg_quiet rfl rfl rfl rfl ?_; intro K hK; go_big_quiet_op; go_big_quiet_on
            refine rg_quiet rfl rfl rfl rfl ?_; intro K hK; go_big_quiet_op; go_big_quiet_on
            refine rg_quiet rfl rfl rfl rfl ?_; intro K hK; go_big_quiet_op; go_big_quiet_on
            refine rg_val [] rfl rfl rfl (by kernel_rfl) (fun w1 hE hf => ?_) ?_
            · go_simp
              exact ((HBK.out ▸ rbucket_any pk hks _)).mono fun e w' ⟨he, hw⟩ => ⟨_, he, rg_done hE hw (rfl)⟩
            simp only [Act.put, List.setIfInBounds_toArray, List.set_cons_zero, List.set_cons_succ]
            refine rg_quiet rfl rfl rfl rfl ?_; intro K hK; go_big_quiet_op; go_big_quiet_on
            refine rg_quiet rfl rfl rfl rfl ?_; intro K hK; go_big_quiet_op; go_big_quiet_on
            refine rg_quiet rfl rfl rfl rfl ?_; intro K hK; go_big_quiet_op; go_big_quiet_on
            refine rg_quiet rfl rfl rfl rfl ?_; intro K hK; go_big_quiet_op; go_big_quiet_on
            refine rg_quiet rfl rfl rfl rfl ?_; intro K hK; go_big_quiet_op; go_big_quiet_on
            refine rg_quiet rfl rfl rfl rfl ?_; intro K hK; go_big_quiet_op; go_big_quiet_on
            refine rg_quiet rfl rfl rfl rfl ?_; intro K hK; go_big_quiet_op; go_big_quiet_on
            refine rg_quiet rfl rfl rfl rfl ?_; intro K hK; go_big_quiet_op; go_big_quiet_on
            refine rg_quiet rfl rfl rfl rfl ?_; intro K hK; go_big_quiet_op; go_big_quiet_on
            refine rg_quiet rfl rfl rfl rfl ?_; intro K hK; go_big_quiet_op; go_big_quiet_on
            refine rg_quiet rfl rfl rfl rfl ?_; intro K hK; go_big_quiet_op; go_big_quiet_on
            refine rg_val [] rfl rfl rfl (by kernel_rfl) (fun w1 hE hf => ?_) ?_
            · go_simp
              exact ((HB.out ▸ both23_yes n c t HC.out pk hks x y _)).mono fun e w' ⟨he, hw⟩ => ⟨_, he, rg_done hE hw (rfl)⟩
            simp only [Act.put, List.setIfInBounds_toArray, List.set_cons_zero, List.set_cons_succ]
            refine rg_quiet rfl rfl rfl rfl ?_; intro K hK; go_big_quiet_op; go_big_quiet_on
            refine rel_nil fun w2 hE3 _ => ?_
            have h2 := HPA.out.ext hE3
            have hX2 := hX.trans hE3
            clear p0 p1 p2 c0 c1 c2
            have p0 : w2.cell? ⟨b, o + j * 3, none⟩ = some (.string pk) := h2.c0
            have p1 : w2.cell? ⟨b, o + j * 3 + 1, none⟩ = some (.int .i64 pg) := h2.c1
            have p2 : w2.cell? ⟨b, o + j * 3 + 2, none⟩ = some (.slice au ps.length cu) := h2.c2
            cases B
            · have HIN : Hid (inB n c x y k ⟨pk, pg, .slice au ps.length cu, ps⟩ = false) := Lib.hid (by unfold inB bothP; simp only; rw [← HB.out]; rfl)
              go_wp2_with fail
              go_roundw
              case rel => exact ⟨j + 1, S, hjm, by go_num, rfl, Nat.le_trans hSz (Nat.mul_le_mul_right _ (Nat.le_succ j)), Lib.hid (by rw [HTK.out, List.filter_append, show [(⟨pk, pg, .slice au ps.length cu, ps⟩ : Pa)].filter (inB n c x y k) = [] by simp [HIN.out], List.append_nil]; exact HS.out), hE2.trans hE3⟩
              case measure => simp [intOf]; omega
            · have HIN : Hid (inB n c x y k ⟨pk, pg, .slice au ps.length cu, ps⟩ = true) := Lib.hid (by unfold inB bothP; simp only; rw [← HB.out, ← HBK.out, HBE.out]; simp)
              obtain ⟨D, hD⟩ : ∃ D, D = str (partR pk pg (ps.map (·.1))).1 := ⟨_, rfl⟩
              have hDz : D.size ≤ 262144 := by rw [hD, str_size]; exact bodyP_le ⟨pk, pg, .slice au ps.length cu, ps⟩
              have HD := Lib.hid hD
              have q1 : ¬ 9223372036854775807 < S.size + D.size := by omega
              clear hD
              go_wp2_with (go_at_call 14; go_must (refine (r9_part pk pg _ ps _ (HR.out.ext hE3) hlo.out).mono ?_); rintro e w4 ⟨rfl, hE4⟩; rw [← HD.out])
              go_roundw
              case rel => exact ⟨j + 1, _, hjm, by go_num, rfl, by simp only [ByteArray.size_append]; omega, Lib.hid (by rw [HTK.out, List.filter_append, show [(⟨pk, pg, .slice au ps.length cu, ps⟩ : Pa)].filter (inB n c x y k) = [⟨pk, pg, .slice au ps.length cu, ps⟩] by simp [HIN.out], HS.out, HD.out, str_app, List.flatMap_append]; simp [bodyP]), (hE2.trans hE3).trans hE4⟩
              case measure => simp [intOf]; omega
          · have HIN : Hid (inB n c x y k ⟨pk, pg, .slice au ps.length cu, ps⟩ = false) := Lib.hid (by unfold inB; simp only; rw [← HBK.out]; simp [hbe])
            have hbi : ((bk : Int) == (k : Int)) = false := by simp; omega
            go_wp2_with fail
            refine wp_region_tab 19 [(5, fun v _ => v = .int .i64 (bk : Int))] (by kernel_rfl) (by kernel_rfl) (by kernel_rfl) ⟨stays_eq _, trivial⟩ ?_
            refine rg_quiet rfl rfl rfl rfl ?_; intro K hK; go_big_quiet_op; go_big_quiet_on
            refine rg_quiet rfl rfl rfl rfl ?_; intro K hK; go_big_quiet_op; go_big_quiet_on
            refine rg_quiet rfl rfl rfl rfl ?_; intro K hK; go_big_quiet_op; go_big_quiet_on
            refine rg_quiet rfl rfl rfl rfl ?_; intro K hK; go_big_quiet_op; go_big_quiet_on
            refine rg_quiet rfl rfl rfl rfl ?_; intro K hK; go_big_quiet_op; go_big_quiet_on
            refine rg_val [] rfl rfl rfl (by kernel_rfl) (fun w1 hE hf => ?_) ?_
            · go_simp
              exact ((HBK.out ▸ rbucket_any pk hks _)).mono fun e w' ⟨he, hw⟩ => ⟨_, he, rg_done hE hw (rfl)⟩
            simp only [Act.put, List.setIfInBounds_toArray, List.set_cons_zero, List.set_cons_succ]
            refine rg_quiet rfl rfl rfl rfl ?_; intro K hK; go_big_quiet_op; go_big_quiet_on
            refine rg_quiet rfl rfl rfl rfl ?_; intro K hK; go_big_quiet_op; go_big_quiet_on
            refine rg_quiet rfl rfl rfl rfl ?_; intro K hK; go_big_quiet_op; go_big_quiet_on
            refine rel_skip rfl rfl ?_
            simp only [Act.put, List.setIfInBounds_toArray, List.set_cons_zero, List.set_cons_succ]
            refine rel_skip rfl rfl ?_
            simp only [Act.put, List.setIfInBounds_toArray, List.set_cons_zero, List.set_cons_succ]
            refine rel_skip rfl rfl ?_
            simp only [Act.put, List.setIfInBounds_toArray, List.set_cons_zero, List.set_cons_succ]
            refine rel_skip rfl rfl ?_
            simp only [Act.put, List.setIfInBounds_toArray, List.set_cons_zero, List.set_cons_succ]
            refine rel_skip rfl rfl ?_
            simp only [Act.put, List.setIfInBounds_toArray, List.set_cons_zero, List.set_cons_succ]
            refine rel_skip rfl rfl ?_
            simp only [Act.put, List.setIfInBounds_toArray, List.set_cons_zero, List.set_cons_succ]
            refine rel_skip rfl rfl ?_
            simp only [Act.put, List.setIfInBounds_toArray, List.set_cons_zero, List.set_cons_succ]
            refine rel_skip rfl rfl ?_
            simp only [Act.put, List.setIfInBounds_toArray, List.set_cons_zero, List.set_cons_succ]
            refine rel_skip rfl rfl ?_
            simp only [Act.put, List.setIfInBounds_toArray, List.set_cons_zero, List.set_cons_succ]
            refine rg_quiet rfl rfl rfl rfl ?_; intro K hK; go_big_quiet_op; go_big_quiet_on
            refine rel_nil fun w2 hE3 _ => ?_
            clear p0 p1 p2 c0 c1 c2
            go_wp2_with fail
            go_roundw
            case rel => exact ⟨j + 1, S, hjm, by go_num, rfl, Nat.le_trans hSz (Nat.mul_le_mul_right _ (Nat.le_succ j)), Lib.hid (by rw [HTK.out, List.filter_append, show [(⟨pk, pg, .slice au ps.length cu, ps⟩ : Pa)].filter (inB n c x y k) = [] by simp [HIN.out], List.append_nil]; exact HS.out), hE2.trans hE3⟩
            case measure => simp [intOf]; omega
        · obtain rfl : j = m := by omega
          have hSm : S.size ≤ maxLen := by unfold maxLen; have := Nat.mul_le_mul_right 262144 hlen; omega
          have HT : Hid (((tok 1 S.data.toList : Nat) : Int) = (sumAt n c x y L k : Int)) := Lib.hid (by
            have h := HS.out
            rw [List.take_of_length_le (by rw [← HM.out]; exact Nat.le_refl _)] at h
            rw [h]
            rfl)
          have HSU : Hid (kcells .i64 ((sumsL n c x y L).take (k + 1)) = kcells .i64 ((sumsL n c x y L).take k) ++ [.int .i64 (sumAt n c x y L k : Int)]) := Lib.hid (by
            have hl : k < (sumsL n c x y L).length := by simp [sumsL]; omega
            rw [List.take_succ_eq_append_getElem hl]
            simp [kcells, sumsL])
          have hown2 := ownsRow_ext hown hE2
          go_wp2_with (first
            | (go_at_call 104; go_must (refine (rof_any S hSm _).mono ?_); rintro e w5 ⟨rfl, rfl⟩; rw [HT.out])
            | (at_builtin; go_must (refine appR info_intX und_intsX rfl (by decide) wr rfl (.tmp 58) (.tmp 61) rfl w1.heap.size hX.le (.slice al k cl) k _ hown2 (by rfl) 1 _ (by rfl) (by rfl) (by simp [Value.oneCell']) (by unfold maxLen; omega) (by omega) ?_); intro v6 w6 ho6 hg6))
          go_roundw
          case rel => exact ⟨k + 1, _, by omega, by go_num, rfl, by rw [HSU.out]; exact ho6, (hX.alloc _).grown hg6 (fun q hq => (hown2.lt q hq).1)⟩
          case measure => simp [intOf]; omega
    · obtain rfl : k = 16 := by omega
      go_wp2_with fail
      go_ret
      refine ⟨_, ⟨rfl, hE01.trans hE⟩, ?_⟩
      rw [List.take_of_length_le (by simp [sumsL])] at hown
      exact ownsRow_base hown hE01.le
end Go.Proofs.YtcmgeccgahakbaaDoor

/- tree.Sums of any list of partitions. -/
namespace Go.Proofs.YtcmgeccgahakbaaDoor
open Go Go.RowKit
attribute [local go_sem] yields yUpon

set_option maxRecDepth 100000 in
set_option maxHeartbeats 16000000 in
theorem sums_yes (n c : Nat) (t : Int) (hc : confB n c t = true) (v : Value) (L : List Pa) (x y : Int) (w : World) (hin : PartsIn w v L) (hlen : L.length ≤ 1000000) (hkey : ∀ p ∈ L, p.key.size ≤ maxLen) (hlow : ∀ p ∈ L, ∀ q ∈ p.ps, ∀ d ∈ q.1.cols, d.name.size ≤ 1000000) (hT : TabU w) :
    Calls Tryd.prog 40 #[.agg #[.int .i64 (n : Int), .int .i64 (c : Int), .int .i64 t], v, .int .i64 x, .int .i64 y] w fun e w' => ∃ b, (e = .returned (.slice (some ⟨b, 0, none⟩) 16 16) ∧ Ext w w') ∧ BoxAt w' b (sumsA n c x y L) 150 := by
  have b0 := BoxAt.made w #[.int .i64 (n : Int), .int .i64 (c : Int), .int .i64 t] 67
  have hE0 := (Ext.refl w).alloc (.cells #[.int .i64 (n : Int), .int .i64 (c : Int), .int .i64 t] 67)
  have x0 : (w.alloc (.cells #[.int .i64 (n : Int), .int .i64 (c : Int), .int .i64 t] 67)).cell? ⟨w.heap.size, 0, none⟩ = some (.int .i64 (n : Int)) := b0.cell 0
  have x1 : (w.alloc (.cells #[.int .i64 (n : Int), .int .i64 (c : Int), .int .i64 t] 67)).cell? ⟨w.heap.size, 1, none⟩ = some (.int .i64 (c : Int)) := b0.cell 1
  have x2 : (w.alloc (.cells #[.int .i64 (n : Int), .int .i64 (c : Int), .int .i64 t] 67)).cell? ⟨w.heap.size, 2, none⟩ = some (.int .i64 t) := b0.cell 2
  have HC := Lib.hid hc
  have HI := Lib.hid hin
  obtain ⟨a, cc, rfl, hcc, hccm, hcell⟩ := hin.get
  have HL := Lib.hid hcell
  have HK := Lib.hid hkey
  have HLo := Lib.hid hlow
  have HT := Lib.hid hT
  clear hin hc hcell hkey hlow hT
  obtain ⟨m, hm⟩ : ∃ m, m = L.length := ⟨_, rfl⟩
  have HM := Lib.hid hm
  rw [← hm] at hcc hlen HI ⊢
  clear hm
  go_enter Tryd.func40, Tryd.ntmps40
  go_wp2_with (go_at_call 100; go_must (refine (rgcheck_any n c t _).mono ?_); rintro e w1 ⟨rfl, hE1⟩; rw [HC.out])
  go_loopw [19] (fun i wr => ∃ k : Nat, k ≤ 16 ∧ i = .int .i64 k ∧ BoxAt wr w1.heap.size (onesA k) 150 ∧ Ext w1 wr) (fun i _ => 16 - (intOf i).toNat)
  case atStart => exact ⟨0, Nat.zero_le _, rfl, BoxAt.made w1 _ _, (Ext.refl w1).alloc _⟩
  case round =>
    obtain ⟨k, hk, rfl, hbox, hE⟩ := hrel
    by_cases hlt : k < 16
    · have HA := Lib.hid (onesA_at hlt)
      have HS := Lib.hid (onesA_set hlt)
      go_wp2_with (go_at_call 101; go_must (refine (tof_any ⟨#[]⟩ (by decide) _).mono ?_); rintro e w2 ⟨rfl, hE2⟩; rw [show (tok 1 (⟨#[]⟩ : ByteArray).data.toList : Int) = 1 from rfl]; have hbox2 := hbox.ext hE2; have cc := hbox2.cell k; have ff := hbox2.free k; rw [HA.out] at cc)
      go_roundw
      case rel => exact ⟨k + 1, by omega, by go_num, by rw [← HS.out]; exact hbox2.set k _, (hE.trans hE2).setCell (Nat.le_refl _) _⟩
      case measure => simp [intOf]; omega
    · obtain rfl : k = 16 := by omega
      have hE01 := hE0.trans hE1
      replace b0 := b0.ext hE1
      clear x0 x1 x2 hE0 hE1
      go_wp2
      obtain ⟨wo, hwo⟩ : ∃ w', w' = wr := ⟨_, rfl⟩
      rw [show (((16 : Nat)) : Int) = 16 from rfl]
      go_loopw [28] (fun i wr => ∃ k : Nat, k ≤ m ∧ i = .int .i64 k ∧ BoxAt wr w1.heap.size (sumsA n c x y (L.take k)) 150 ∧ Ext w1 wr) (fun i _ => m - (intOf i).toNat)
      case atStart => exact ⟨0, Nat.zero_le _, rfl, by rw [List.take_zero, sumsA_nil]; exact hbox, hE⟩
      case round =>
        clear hbox hE hwo
        obtain ⟨k, hk, rfl, hbox, hE⟩ := hrel
        by_cases hkm : k < m
        · have hkl : k < L.length := by rw [← HM.out]; exact hkm
          obtain ⟨b, o, rfl, hpa⟩ := HL.out k hkl
          replace hpa := hpa.ext (hE01.trans hE)
          obtain ⟨p, hp⟩ : ∃ p, p = L[k] := ⟨_, rfl⟩
          have hmem : p ∈ L := by rw [hp]; exact List.getElem_mem hkl
          have HTK : Hid (L.take (k + 1) = L.take k ++ [p]) := Lib.hid (by rw [List.take_succ_eq_append_getElem hkl, hp])
          rw [← hp] at hpa
          clear hp
          have hr := (HI.out.rows p hmem).ext (hE01.trans hE)
          have hks := HK.out p hmem
          have hlo := Lib.hid (HLo.out p hmem)
          obtain ⟨pk, pg, pu, ps⟩ := p
          obtain ⟨p0, p1, p2⟩ := hpa
          replace hr : RowsIn wr pu ps := hr
          replace hks : pk.size ≤ maxLen := hks
          replace p0 : wr.cell? ⟨b, o + k * 3, none⟩ = some (.string pk) := p0
          replace p1 : wr.cell? ⟨b, o + k * 3 + 1, none⟩ = some (.int .i64 pg) := p1
          replace p2 : wr.cell? ⟨b, o + k * 3 + 2, none⟩ = some pu := p2
          have HR := Lib.hid hr
          obtain ⟨au, cu, rfl, _⟩ := hr.get
          clear hr
          obtain ⟨B, hB⟩ : ∃ B, B = (ownN n c (place1 pk) x && ownN n c (place1 pk) y) := ⟨_, rfl⟩
          have HBB := Lib.hid hB
          clear hB
          go_wp2_with (first
            | (((guard_target =~ wpList _ _ _ (Oper.mk none (Op.store _ (Operand.tmp 12) (Operand.tmp 31)) _ _ _ _ :: _) _ _); go_must (refine storeBox rfl 24 (.tmp 12) (.tmp 31) rfl (wr.heap.size) _ _ _ (by rfl) (by rfl) ((BoxAt.made wr #[.string ⟨#[]⟩, .int .i64 0, .slice none 0 0] 24)) (by kernel_rfl) (by rfl) (by simp [Value.oneCell']) ?_); intro w2 d2 g2); have hE2 : Ext wr w2 := (((Ext.refl wr).alloc _).grown g2 (fun q hq => by cases hq; exact Nat.le_refl _)); have q0 : w2.cell? ⟨wr.heap.size, 0, none⟩ = some (.string pk) := d2.cell 0; have z2 := b0.ext (hE.trans hE2); have x0 : w2.cell? ⟨w.heap.size, 0, none⟩ = some (.int .i64 (n : Int)) := z2.cell 0; have x1 : w2.cell? ⟨w.heap.size, 1, none⟩ = some (.int .i64 (c : Int)) := z2.cell 1; have x2 : w2.cell? ⟨w.heap.size, 2, none⟩ = some (.int .i64 t) := z2.cell 2)
            | (go_at_call 97; go_must (refine (both_yes n c t HC.out pk hks x y _).mono ?_); rintro e w3 ⟨rfl, hE3⟩; rw [← HBB.out]; have hX3 := hE2.trans hE3; have d3 := d2.ext hE3; have q0 : w3.cell? ⟨wr.heap.size, 0, none⟩ = some (.string pk) := d3.cell 0; have q1 : w3.cell? ⟨wr.heap.size, 1, none⟩ = some (.int .i64 pg) := d3.cell 1; have q2 : w3.cell? ⟨wr.heap.size, 2, none⟩ = some (.slice au ps.length cu) := d3.cell 2; cases B)
            | (go_at_call 12; go_must (refine (pk_part pk pg _ ps _ (HR.out.ext hX3) hlo.out (HT.out.ext (hE01.trans (hE.trans hX3)))).mono ?_); rintro e w4 ⟨v4, rfl, ho4, hE4⟩; have hX4 := hX3.trans hE4; have q0 : w4.cell? ⟨wr.heap.size, 0, none⟩ = some (.string pk) := (d3.ext hE4).cell 0)
            | (go_at_call 96; go_must (refine (rgbucket_any pk hks _).mono ?_); rintro e w5 ⟨rfl, hE5⟩; have hX5 := hX4.trans hE5; have ho5 := ho4.bytes.ext hE5))
          · go_roundw
            case rel => exact ⟨k + 1, hkm, by go_num, by rw [HTK.out, sumsA_skip (by exact HBB.out.symm)]; exact hbox.ext hX3, hE.trans hX3⟩
            case measure => simp [intOf]; omega
          · have hbl := bucket1_lt pk
            have hS := sumAt_lt n c x y (L.take k) (bucket1 pk)
            have hbox5 := hbox.ext hX5
            have zz := hbox5.cell (bucket1 pk)
            rw [sumsA_at _ _ _ _ _ hbl] at zz
            have hset := sumsA_set (n := n) (c := c) (x := x) (y := y) (L := L.take k) (p := ⟨pk, pg, .slice au ps.length cu, ps⟩) (by exact HBB.out.symm)
            rw [← HTK.out] at hset
            obtain ⟨l, hl⟩ : ∃ l, l = (partR pk pg (ps.map (·.1))).1 := ⟨_, rfl⟩
            rw [show bodyP ⟨pk, pg, .slice au ps.length cu, ps⟩ = l from hl.symm] at hset
            replace hset : (sumsA n c x y (L.take k)).setIfInBounds (bucket1 pk) (.int .i64 (tok (sumAt n c x y (L.take k) (bucket1 pk)) l : Int)) = sumsA n c x y (L.take (k + 1)) := hset
            rw [← hl] at ho5
            clear hl
            obtain ⟨S, hSd⟩ : ∃ S, S = sumAt n c x y (L.take k) (bucket1 pk) := ⟨_, rfl⟩
            rw [← hSd] at zz hset hS
            obtain ⟨bk, hbk⟩ : ∃ bk, bk = bucket1 pk := ⟨_, rfl⟩
            rw [← hbk] at zz hset hbl ⊢
            have HSET := Lib.hid hset
            have hll : (str l).size ≤ maxLen := by
              obtain ⟨_, _, _, h1, h2, _⟩ := ho5
              rw [str_size]
              omega
            clear hSd hbk hset
            have z5 := held zz
            refine wp_region_tab 7 [(5, fun v _ => v = .string (str l)), (6, fun v _ => v = .int .i64 (tok S l : Int))] (by kernel_rfl) (by kernel_rfl) (by kernel_rfl) ⟨stays_eq _, stays_eq _, trivial⟩ ?_
            refine rg_quiet rfl rfl rfl rfl ?_; intro K hK; go_big_quiet_op; go_big_quiet_on
            refine rg_quiet rfl rfl rfl rfl ?_; intro K hK; go_big_quiet_op; go_big_quiet_on
            refine rg_quiet rfl rfl rfl rfl ?_; intro K hK; go_big_quiet_op; go_big_quiet_on
            refine rg_quiet rfl rfl rfl rfl ?_; intro K hK; go_big_quiet_op; go_big_quiet_on
            refine rg_quiet rfl rfl rfl rfl ?_; intro K hK; go_big_quiet_op; go_big_quiet_on
            refine rg_text [] 33 9 5 (.tmp 50) l rfl rfl rfl rfl (by kernel_rfl) (by kernel_rfl) (by kernel_rfl) (by kernel_rfl) (fun w1 hE hf => (ho5.ext hE)) ?_
            simp only [Act.put, List.setIfInBounds_toArray, List.set_cons_zero, List.set_cons_succ]
            refine rg_val [] rfl rfl rfl (by kernel_rfl) (fun w1 hE hf => ?_) ?_
            · go_simp
              exact (tmore_any S hS (str l) hll _).mono fun e w' ⟨he, hw⟩ => ⟨_, he, rg_done hE hw (rfl)⟩
            simp only [Act.put, List.setIfInBounds_toArray, List.set_cons_zero, List.set_cons_succ]
            refine rel_tail rfl rfl fun w6 hE6 _ => ?_
            clear z5
            have hbox6 := hbox5.ext hE6
            have zz6 := hE6.cell zz
            have zf := hbox6.free bk
            clear zz
            go_wp2
            go_roundw
            case rel => exact ⟨k + 1, hkm, by go_num, by rw [← HSET.out]; exact hbox6.set bk _, ((hE.trans hX5).trans hE6).setCell (Nat.le_refl _) _⟩
            case measure => simp [intOf]; omega
        · obtain rfl : k = m := by omega
          rw [HM.out, List.take_length] at hbox
          go_wp2
          go_ret
          exact ⟨_, ⟨rfl, hE01.trans hE⟩, hbox⟩
end Go.Proofs.YtcmgeccgahakbaaDoor

/- append([]T(nil), s...) of any slice in memory. -/
namespace Go.Proofs.YtcmgeccgahakbaaDoor
open Go Go.RowKit

section
variable {P : Program} {ops : Array Oper} {Q : Exit → Act → World → Prop} {a : Act} {w : World} {rest : List Oper} {o : Oper}
/-- append([]T(nil), s...) of any slice in memory. -/
theorem wpList_cloneS {Tt e : TypeId} {z : Value} {size bytes : Nat} (hg : o.guard = none) (info : (P.info? e).map (fun i => (i.zero, i.size, i.bytes)) = some (some z, size, bytes)) (und : P.underlying Tt = some (.slice e)) (hzs : z.cells.size = size) (hsz : 0 < size) (s x : Operand)
    (hop : o.op = Op.call { callee := Callee.builtin Builtin.append, args := #[s, x], argTypes := #[Tt, Tt] }) (hs : a.eval s = .slice none 0 0) {u : Value} {m : Nat} {xs : List Value} (hin : SliceIn w u m xs) (hx : a.eval x = u)
    (hl : xs.length = m * size) (h1 : ∀ u ∈ xs, u.oneCell' = true) (h63 : m ≤ maxLen) (hb : m * bytes ≤ 140737488355328)
    (hK : ∀ v' w', w'.ownsRow w.heap.size e size v' m xs → Ext w w' → wpList P ops Q rest (a.put o.dst v') w') : wpList P ops Q (o :: rest) a w := by
  obtain ⟨i0, hi, hz0, hz1, hz2⟩ := info_parts info
  obtain ⟨ao, c, rfl, hc, hcm, ha, hcell⟩ := hin
  cases ao with
  | none =>
    have hc0 := ha rfl
    obtain rfl : m = 0 := by omega
    obtain rfl : xs = [] := List.eq_nil_of_length_eq_zero (by omega)
    subst hc0
    exact wpList_append_own_none hg s x Tt hop w.heap.size e i0 size und hi (.slice none 0 0) 0 [] hs (World.ownsRow_nil _ _ _ _) hx (hK _ _ (World.ownsRow_nil _ _ _ _) (Ext.refl w))
  | some ad =>
    refine wpList_append_own _ hg s x Tt hop w.heap.size e i0 z size bytes und hi hz0 hz1 hz2 hzs hsz (.slice none 0 0) 0 [] hs (World.ownsRow_nil _ _ _ _) ad m c xs hx hl ?_ h1 (by omega) (by rw [Nat.zero_add]; exact hb) (Nat.le_refl _) ?_
    · intro j u hj
      obtain ⟨b, o, e, h⟩ := hcell j u hj
      cases e
      rw [Addr.add_lit]
      exact h
    · intro v' w' h2 h3 _
      rw [Nat.zero_add, List.nil_append] at h2
      exact hK v' w' h2 ((Ext.refl w).grown h3 (fun q hq => by cases hq))
end
end Go.Proofs.YtcmgeccgahakbaaDoor

/- clerestoryref08.CopyRow, Copy. -/
namespace Go.Proofs.YtcmgeccgahakbaaDoor
open Go Go.RowKit
attribute [local go_sem] yields yUpon ro8

set_option maxRecDepth 100000 in
set_option maxHeartbeats 4000000 in
theorem copyRow_any (r : Ro) (v : Value) (w : World) (h : ColsIn w v r.cols) (hlen : r.cols.length ≤ 1000000) :
    Calls Tryd.prog 111 #[(.agg #[.string r.key, .string r.live.val, .bool r.live.dead, .int .i64 r.live.at_, .int .i64 r.live.fin, .int .i64 r.gone, .int .i64 r.shade, v])] w fun e w' => ∃ v', e = .returned (.agg #[.string r.key, .string r.live.val, .bool r.live.dead, .int .i64 r.live.at_, .int .i64 r.live.fin, .int .i64 r.gone, .int .i64 r.shade, v']) ∧ ColsT w' v' r.cols ∧ Ext w w' := by
  obtain ⟨a0, a1, hE⟩ := boxes2 w (ro8 r v) (ro8 ⟨⟨#[]⟩, zeroCl, 0, 0, []⟩ (.slice none 0 0)) 91 91
  have h0 := h.ext hE
  obtain ⟨av, cv, rfl⟩ := h.shape
  obtain ⟨n, hn⟩ : ∃ n, n = r.cols.length := ⟨_, rfl⟩
  rw [← hn] at a0 a1 hE h0 hlen ⊢
  have HN := Lib.hid hn
  clear hn h
  go_enter Tryd.func111, Tryd.ntmps111
  go_wp2_with (first
    | (((guard_target =~ wpList _ _ _ (Oper.mk none (Op.store _ (Operand.tmp 3) (Operand.tmp 4)) _ _ _ _ :: _) _ _); go_must (refine storeBox rfl 91 (.tmp 3) (.tmp 4) rfl (w.heap.size + 1 + 1) _ _ _ (by rfl) (by rfl) ((BoxAt.madeN (ro8 ⟨⟨#[]⟩, zeroCl, 0, 0, []⟩ (.slice none 0 0)) 91 (by simp))) (by kernel_rfl) (by rfl) (by simp [Value.oneCell']) ?_); intro w4 c4 g4); have hX4 : Ext w w4 := (hE.alloc (.cells (ro8 ⟨⟨#[]⟩, zeroCl, 0, 0, []⟩ (.slice none 0 0)) 91)).grown g4 (fun q hq => by cases hq; omega); have b0 : BoxAt w4 w.heap.size (ro8 r (.slice av n cv)) 91 := (a0.ext ((Ext.refl _).alloc _)).grown g4 (fun e => by have := Option.some.inj e; omega); have b1 : BoxAt w4 (w.heap.size + 1) (ro8 ⟨⟨#[]⟩, zeroCl, 0, 0, []⟩ (.slice none 0 0)) 91 := (a1.ext ((Ext.refl _).alloc _)).grown g4 (fun e => by have := Option.some.inj e; omega); have h4 : ColsIn w4 (.slice av n cv) r.cols := h0.ext (((Ext.refl _).alloc (.cells (ro8 ⟨⟨#[]⟩, zeroCl, 0, 0, []⟩ (.slice none 0 0)) 91)).grown g4 (fun q hq => by cases hq; simp)); have y7 : w4.cell? ⟨w.heap.size, 7, none⟩ = some (.slice av n cv) := b0.cell 7)
    | ((guard_target =~ wpList _ _ _ (Oper.mk (some 7) _ _ _ _ _ :: _) _ _); go_must (refine wpList_cloneS rfl info_Col und_Cols rfl (by decide) (.const (.slice none 0 0)) (.tmp 6) rfl (by rfl) h4 (by rfl) (coCells_length _) (coCells_one _) (by unfold maxLen; have := HN.out; omega) (by have := HN.out; omega) ?_); intro v5 w5 hown5 hE5; obtain ⟨a5, c5, rfl⟩ := own_shape hown5; have d3 : BoxAt w5 (w.heap.size + 1 + 1) (ro8 r (.slice av n cv)) 91 := BoxAt.ext hE5 c4; have d1 := b1.ext hE5; obtain ⟨z0, z1, z2, z3, z4, z5, z6, z7⟩ := d3.ro; have zf := d3.free 7)
    | (((guard_target =~ wpList _ _ _ (Oper.mk none (Op.store _ (Operand.tmp 2) (Operand.tmp 9)) _ _ _ _ :: _) _ _); go_must (refine storeBox rfl 91 (.tmp 2) (.tmp 9) rfl (w.heap.size + 1) _ _ _ (by rfl) (by rfl) ((d1.other (by omega) 7 _)) (by kernel_rfl) (by rfl) (by simp [Value.oneCell']) ?_); intro w6 c6 g6); have hX6 : Ext w w6 := ((hX4.trans hE5).setCell (p := ⟨w.heap.size + 1 + 1, 7, none⟩) (by show w.heap.size ≤ w.heap.size + 1 + 1; omega) _).grown g6 (fun q hq => by cases hq; omega); have h6 : ColsT w6 (.slice a5 r.cols.length c5) r.cols := ColsT.keep g6 (d1.other (by omega) 7 _) (by decide) (TIn.set 7 _ d3 (by decide) (TIn.own hown5))))
  obtain ⟨z0, z1, z2, z3, z4, z5, z6, z7⟩ := BoxAt.ro (r := r) (v := .slice a5 r.cols.length c5) c6
  refine bodyPost_ret (v := (.agg #[.string r.key, .string r.live.val, .bool r.live.dead, .int .i64 r.live.at_, .int .i64 r.live.fin, .int .i64 r.gone, .int .i64 r.shade, (.slice a5 r.cols.length c5)])) ?_ rfl ⟨_, rfl, h6, hX6⟩
  simp [results, Tryd.results111, go_sem, Act.put, z0, z1, z2, z3, z4, z5, z6, z7]
end Go.Proofs.YtcmgeccgahakbaaDoor
