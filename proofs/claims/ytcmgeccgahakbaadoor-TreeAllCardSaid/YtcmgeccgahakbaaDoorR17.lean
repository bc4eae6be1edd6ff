/- tree.Of of any list of partitions, any configuration. -/
import Derived.Test.YtcmgeccgahakbaaDoorR14
import Derived.Test.YtcmgeccgahakbaaDoorR12
import Derived.Test.YtcmgeccgahakbaaDoorR16
import Derived.Test.YtcmgeccgahakbaaDoorR15
import Derived.Test.YtcmgeccgahakbaaDoorR13
import Derived.Test.YtcmgeccgahakbaaDoorR7
import Derived.Lib.Hide
set_option linter.unusedSimpArgs false
set_option linter.unusedVariables false
namespace Go.Proofs.YtcmgeccgahakbaaDoor
open Go Go.RowKit
attribute [local go_sem] yields yUpon

/-- The partitions of some buckets whose keys F takes. -/
def ofF (F : ByteArray → Bool) (bs : List Int) (L : List Pa) : List (ByteArray × Int × List Ro) := (L.filter fun p => hasI bs (bucket1 p.key : Int) && F p.key).map Pa.data
theorem ofF_skip {F : ByteArray → Bool} {bs : List Int} {L : List Pa} {p : Pa} (h : (hasI bs (bucket1 p.key : Int) && F p.key) = false) : ofF F bs (L ++ [p]) = ofF F bs L := by
  simp [ofF, List.filter_append, h]
theorem ofF_hit {F : ByteArray → Bool} {bs : List Int} {L : List Pa} {p : Pa} (h : (hasI bs (bucket1 p.key : Int) && F p.key) = true) : ofF F bs (L ++ [p]) = ofF F bs L ++ [p.data] := by
  simp [ofF, List.filter_append, h]

set_option maxRecDepth 100000 in
set_option maxHeartbeats 16000000 in
theorem of_any (n c t : Int) (v : Value) (L : List Pa) (x y : Int) (bv : Value) (bs : List Int) (w : World) (hin : PartsIn w v L) (hbs : IntsIn w bv .i64 bs) (hlen : L.length ≤ 1000000) (hkey : ∀ p ∈ L, p.key.size ≤ maxLen) (hrow : ∀ p ∈ L, p.ps.length ≤ 1000000 ∧ ∀ q ∈ p.ps, q.1.cols.length ≤ 1000000) :
    Calls Tryd.prog 36 #[.agg #[.int .i64 n, .int .i64 c, .int .i64 t], v, .int .i64 x, .int .i64 y, bv] w fun e w' => ∃ v' M, ((e = .returned v' ∧ Ext w w') ∧ PartsT w' v' M) ∧ M.map Pa.data = ofF (bothF n c t x y) bs L := by
  have b0 := BoxAt.made w #[.int .i64 n, .int .i64 c, .int .i64 t] 67
  have hE0 := (Ext.refl w).alloc (.cells #[.int .i64 n, .int .i64 c, .int .i64 t] 67)
  have HI := Lib.hid hin
  have HB := Lib.hid hbs
  obtain ⟨a, cc, rfl, hcc, hccm, hcell⟩ := hin.get
  have HL := Lib.hid hcell
  have HK := Lib.hid hkey
  have HRw := Lib.hid hrow
  clear hin hcell hkey hbs hrow
  obtain ⟨m, hm⟩ : ∃ m, m = L.length := ⟨_, rfl⟩
  have HM := Lib.hid hm
  rw [← hm] at hcc hlen HI ⊢
  clear hm
  go_enter Tryd.func36, Tryd.ntmps36
  go_wp2
  obtain ⟨w0, hw0⟩ : ∃ w0, w0 = w.alloc (.cells #[.int .i64 n, .int .i64 c, .int .i64 t] 67) := ⟨_, rfl⟩
  rw [← hw0] at b0 hE0 ⊢
  clear hw0
  go_loopw [11, 16] (fun vb i wr => ∃ (k : Nat) (vo : Value) (M : List Pa), k ≤ m ∧ i = .int .i64 k ∧ vb = vo ∧ M.length ≤ k ∧ wr.ownsRow w0.heap.size 24 3 vo M.length (paCells M) ∧ (∀ p ∈ M, RowsT wr p.rv p.ps) ∧ Hid (M.map Pa.data = ofF (bothF n c t x y) bs (L.take k)) ∧ Ext w0 wr) (fun _ i _ => m - (intOf i).toNat)
  case atStart => exact ⟨0, _, [], Nat.zero_le _, rfl, rfl, Nat.le_refl _, World.ownsRow_nil _ _ _ _, nofun, Lib.hid rfl, Ext.refl _⟩
  case round =>
    obtain ⟨k, vo, M, hk, rfl, rfl, hMk, hown, hrows, HD, hE⟩ := hrel
    obtain ⟨ao, co, rfl⟩ := own_shapeX hown
    by_cases hkm : k < m
    · have hkl : k < L.length := by rw [← HM.out]; exact hkm
      obtain ⟨b, o, rfl, hpa⟩ := HL.out k hkl
      replace hpa := hpa.ext (hE0.trans hE)
      obtain ⟨p, hp⟩ : ∃ p, p = L[k] := ⟨_, rfl⟩
      have hmem : p ∈ L := by rw [hp]; exact List.getElem_mem hkl
      have HTK : Hid (L.take (k + 1) = L.take k ++ [p]) := Lib.hid (by rw [List.take_succ_eq_append_getElem hkl, hp])
      rw [← hp] at hpa
      clear hp
      have hr := (HI.out.rows p hmem).ext (hE0.trans hE)
      have hks := HK.out p hmem
      have HLo := Lib.hid (HRw.out p hmem)
      obtain ⟨pk, pg, pu, ps⟩ := p
      obtain ⟨p0, p1, p2⟩ := hpa
      replace hr : RowsIn wr pu ps := hr
      replace hks : pk.size ≤ maxLen := hks
      replace p0 : wr.cell? ⟨b, o + k * 3, none⟩ = some (.string pk) := p0
      replace p1 : wr.cell? ⟨b, o + k * 3 + 1, none⟩ = some (.int .i64 pg) := p1
      replace p2 : wr.cell? ⟨b, o + k * 3 + 2, none⟩ = some pu := p2
      have HR := Lib.hid hr
      obtain ⟨au, cu, rfl, _⟩ := hr.get
      clear hr
      obtain ⟨A, hA⟩ : ∃ A, A = hasI bs (bucket1 pk : Int) := ⟨_, rfl⟩
      have HA := Lib.hid hA
      obtain ⟨B, hB⟩ : ∃ B, B = bothF n c t x y pk := ⟨_, rfl⟩
      have HBB := Lib.hid hB
      clear hA hB
      go_wp2_with (first
        | (((guard_target =~ wpList _ _ _ (Oper.mk none (Op.store _ (Operand.tmp 13) (Operand.tmp 19)) _ _ _ _ :: _) _ _); go_must (refine storeBox rfl 24 (.tmp 13) (.tmp 19) rfl (wr.heap.size) _ _ _ (by rfl) (by rfl) ((BoxAt.made wr #[.string ⟨#[]⟩, .int .i64 0, .slice none 0 0] 24)) (by kernel_rfl) (by rfl) (by simp [Value.oneCell']) ?_); intro w2 d2 g2); have hE2 : Ext wr w2 := (((Ext.refl wr).alloc _).grown g2 (fun q hq => by cases hq; exact Nat.le_refl _)); have q0 : w2.cell? ⟨wr.heap.size, 0, none⟩ = some (.string pk) := d2.cell 0)
        | (go_at_call 96; go_must (refine (rgbucket_any pk hks _).mono ?_); rintro e w3 ⟨rfl, hE3⟩; have hX3 := hE2.trans hE3)
        | (go_at_call 95; go_must (refine (contI_any _ bs _ _ (HB.out.ext (hE0.trans (hE.trans hX3)))).mono ?_); rintro e w4 ⟨rfl, rfl⟩; rw [← HA.out]; have d3 := d2.ext hE3; have q0 : w3.cell? ⟨wr.heap.size, 0, none⟩ = some (.string pk) := d3.cell 0; have z2 := b0.ext (hE.trans hX3); have x0 : w3.cell? ⟨w.heap.size, 0, none⟩ = some (.int .i64 n) := z2.cell 0; have x1 : w3.cell? ⟨w.heap.size, 1, none⟩ = some (.int .i64 c) := z2.cell 1; have x2 : w3.cell? ⟨w.heap.size, 2, none⟩ = some (.int .i64 t) := z2.cell 2; cases A)
        | (go_at_call 97; go_must (refine (both_any n c t pk hks x y _).mono ?_); rintro e w5 ⟨rfl, hE5⟩; rw [← HBB.out]; have hX5 := hX3.trans hE5; have d5 := d3.ext hE5; have q0 : w5.cell? ⟨wr.heap.size, 0, none⟩ = some (.string pk) := d5.cell 0; have q1 : w5.cell? ⟨wr.heap.size, 1, none⟩ = some (.int .i64 pg) := d5.cell 1; have q2 : w5.cell? ⟨wr.heap.size, 2, none⟩ = some (.slice au ps.length cu) := d5.cell 2; cases B)
        | (go_at_call 98; go_must (refine (pcopy_any pk pg _ ps _ (HR.out.ext hX5) HLo.out.1 HLo.out.2).mono ?_); rintro e w6 ⟨v6, rfl, qs, hq6, hm6, hE6⟩; obtain ⟨a6, c6, rfl⟩ := hq6.shape; have HM6 := Lib.hid hm6; obtain ⟨nq, hnq⟩ : ∃ nq, nq = qs.length := ⟨_, rfl⟩; rw [← hnq] at hq6 ⊢; clear hnq hm6; have hX6 := hX5.trans hE6; have hown6 := ownsRow_ext hown hX6)
        | (at_builtin; go_must (refine appR info_Part und_Parts rfl (by decide) w6 rfl (.tmp 33) (.tmp 36) rfl w0.heap.size (hE.trans hX6).le (.slice ao M.length co) M.length (paCells M) hown6 rfl 1 (pa3 pk pg (.slice a6 nq c6)) rfl rfl (by simp [pa3, Value.oneCell']) (by unfold maxLen; omega) (by omega) ?_); intro v7 w7 hown7 hg7))
      · go_roundw
        case rel => exact ⟨k + 1, _, M, hkm, by go_num, rfl, by omega, ownsRow_ext hown hX3, fun p hp => (hrows p hp).ext hX3, Lib.hid (by rw [HTK.out, ofF_skip (by simp [← HA.out])]; exact HD.out), hE.trans hX3⟩
        case measure => simp [intOf]; omega
      · go_roundw
        case rel => exact ⟨k + 1, _, M, hkm, by go_num, rfl, by omega, ownsRow_ext hown hX5, fun p hp => (hrows p hp).ext hX5, Lib.hid (by rw [HTK.out, ofF_skip (by simp [← HBB.out])]; exact HD.out), hE.trans hX5⟩
        case measure => simp [intOf]; omega
      · have hXa := (Ext.refl w6).alloc (.cells (pa3 pk pg (.slice a6 nq c6)) 24)
        have howna := ownsRow_ext hown6 hXa
        have hkr : ∀ {rv ps}, RowsT w6 rv ps → RowsT w7 rv ps := fun h => (h.ext hXa).keepOwn howna hg7 (by decide) (by decide)
        have hE7 : Ext w0 w7 := ((hE.trans hX6).trans hXa).grown hg7 (fun q hq => (hown6.lt q hq).1)
        go_roundw
        case rel =>
          refine ⟨k + 1, _, M ++ [⟨pk, pg, .slice a6 nq c6, qs⟩], hkm, by go_num, rfl, by simp; omega, ?_, fun p hp => ?_, Lib.hid ?_, hE7⟩
          · rw [paCells_append, List.length_append]
            exact hown7
          · rcases List.mem_append.1 hp with hp | hp
            · exact hkr ((hrows p hp).ext hX6)
            · rw [List.mem_singleton.1 hp]
              exact hkr hq6
          · rw [HTK.out, ofF_hit (by simp [← HA.out, ← HBB.out]), List.map_append, HD.out]
            simp [Pa.data, HM6.out]
        case measure => simp [intOf]; omega
    · obtain rfl : k = m := by omega
      have hD := HD.out
      rw [HM.out, List.take_length] at hD
      have HD2 := Lib.hid hD
      clear hD
      go_wp2
      go_ret
      exact ⟨_, M, ⟨⟨rfl, hE0.trans hE⟩, ⟨TIn.own hown, hrows⟩⟩, HD2.out⟩
end Go.Proofs.YtcmgeccgahakbaaDoor

/- clerestoryref23.Of of any list of partitions, any configuration. -/
namespace Go.Proofs.YtcmgeccgahakbaaDoor
open Go Go.RowKit
attribute [local go_sem] yields yUpon

theorem hasI_nil (b : Int) : hasI [] b = false := rfl
theorem hasI_succ {l : List Int} {k : Nat} (hk : k < l.length) (b : Int) : hasI (l.take (k + 1)) b = (hasI (l.take k) b || (l[k] == b)) := by
  rw [List.take_succ_eq_append_getElem hk]
  generalize List.take k l = A
  generalize l[k] = x
  unfold hasI
  rw [Bool.eq_iff_iff]
  simp only [Bool.or_eq_true, List.contains_eq_mem, decide_eq_true_eq, beq_iff_eq, List.mem_append, List.mem_singleton]
  exact or_congr Iff.rfl eq_comm

set_option maxRecDepth 100000 in
set_option maxHeartbeats 16000000 in
theorem of23_any (n c t : Int) (v : Value) (L : List Pa) (x y : Int) (bv : Value) (bs : List Int) (w : World) (hin : PartsIn w v L) (hbs : IntsIn w bv .i64 bs) (hlen : L.length ≤ 1000000) (hkey : ∀ p ∈ L, p.key.size ≤ maxLen) :
    Calls Tryd.prog 38 #[.agg #[.int .i64 n, .int .i64 c, .int .i64 t], v, .int .i64 x, .int .i64 y, bv] w fun e w' => ∃ v' M, ((e = .returned v' ∧ Ext w w') ∧ PartsIn w' v' M) ∧ M.map Pa.data = ofF (bothF n c t x y) bs L := by
  have b0 := BoxAt.made w #[.int .i64 n, .int .i64 c, .int .i64 t] 67
  have hE0 := (Ext.refl w).alloc (.cells #[.int .i64 n, .int .i64 c, .int .i64 t] 67)
  have HI := Lib.hid hin
  obtain ⟨a, cc, rfl, hcc, hccm, hcell⟩ := hin.get
  obtain ⟨ab, cb, rfl, hcb, hcbm, hbcell⟩ := hbs.getX
  have HL := Lib.hid hcell
  have HB := Lib.hid hbcell
  have HK := Lib.hid hkey
  clear hin hcell hkey hbs hbcell
  obtain ⟨m, hm⟩ : ∃ m, m = L.length := ⟨_, rfl⟩
  have HM := Lib.hid hm
  rw [← hm] at hcc hlen HI ⊢
  clear hm
  obtain ⟨nb, hnb⟩ : ∃ nb, nb = bs.length := ⟨_, rfl⟩
  have HNB := Lib.hid hnb
  rw [← hnb] at hcb ⊢
  clear hnb
  go_enter Tryd.func38, Tryd.ntmps38
  go_wp2
  obtain ⟨w0, hw0⟩ : ∃ w0, w0 = w.alloc (.cells #[.int .i64 n, .int .i64 c, .int .i64 t] 67) := ⟨_, rfl⟩
  rw [← hw0] at b0 hE0 ⊢
  clear hw0
  go_loopw [11, 12] (fun vb i wr => ∃ (k : Nat) (vo : Value) (M : List Pa), k ≤ m ∧ i = .int .i64 k ∧ vb = vo ∧ M.length ≤ k ∧ wr.ownsRow w0.heap.size 24 3 vo M.length (paCells M) ∧ (∀ p ∈ M, RowsIn w p.rv p.ps) ∧ Hid (M.map Pa.data = ofF (bothF n c t x y) bs (L.take k)) ∧ Ext w0 wr) (fun _ i _ => m - (intOf i).toNat)
  case atStart => exact ⟨0, _, [], Nat.zero_le _, rfl, rfl, Nat.le_refl _, World.ownsRow_nil _ _ _ _, nofun, Lib.hid rfl, Ext.refl _⟩
  case round =>
    obtain ⟨k, vo, M, hk, rfl, rfl, hMk, hown, hrows, HD, hE⟩ := hrel
    obtain ⟨ao, co, rfl⟩ := own_shapeX hown
    by_cases hkm : k < m
    · have hkl : k < L.length := by rw [← HM.out]; exact hkm
      obtain ⟨b, o, rfl, hpa⟩ := HL.out k hkl
      have hmem : L[k] ∈ L := List.getElem_mem hkl
      have hr := HI.out.rows _ hmem
      have hks := HK.out _ hmem
      obtain ⟨p, hp⟩ : ∃ p, p = L[k] := ⟨_, rfl⟩
      have HTK : Hid (L.take (k + 1) = L.take k ++ [p]) := Lib.hid (by rw [List.take_succ_eq_append_getElem hkl, hp])
      rw [← hp] at hpa hr hks
      clear hp hmem
      obtain ⟨pk, pg, pu, ps⟩ := p
      replace hr : RowsIn w pu ps := hr
      replace hks : pk.size ≤ maxLen := hks
      have HR := Lib.hid hr
      obtain ⟨au, cu, rfl, _⟩ := hr.get
      clear hr
      have HPA := Lib.hid (hpa.ext hE0)
      clear hpa
      obtain ⟨bk, hbk⟩ : ∃ bk, bk = bucket1 pk := ⟨_, rfl⟩
      have HBK := Lib.hid hbk
      obtain ⟨B, hB⟩ : ∃ B, B = bothF n c t x y pk := ⟨_, rfl⟩
      have HBB := Lib.hid hB
      have t0 : decide ((k : Int) < (m : Int)) = true := by simp; omega
      clear hB hbk
      go_wp2_with fail
      obtain ⟨wo, rfl⟩ : ∃ w', w' = wr := ⟨_, rfl⟩
      go_loopw [13, 14] (fun s i wr => ∃ (j : Nat) (S : Bool), j ≤ nb ∧ i = .int .i64 j ∧ s = .bool S ∧ Hid (S = hasI (bs.take j) (bk : Int)) ∧ Ext wo wr) (fun _ i _ => nb - (intOf i).toNat)
      case atStart => exact ⟨0, false, Nat.zero_le _, rfl, rfl, Lib.hid rfl, Ext.refl _⟩
      case round =>
        obtain ⟨j, S, hj, rfl, rfl, HS, hE2⟩ := hrel
        have hX := hE.trans hE2
        by_cases hjn : j < nb
        · have hjl : j < bs.length := by rw [← HNB.out]; exact hjn
          have t1 : decide ((j : Int) < (nb : Int)) = true := by simp; omega
          have HSU := Lib.hid (hasI_succ hjl (bk : Int))
          cases S
          · obtain ⟨b2, o2, rfl, hbc⟩ := HB.out j hjl
            replace hbc := held ((hE0.trans hX).cell hbc)
            have p0 := held (show wr.cell? ⟨b, o + k * 3, none⟩ = some (.string pk) from (HPA.out.ext hX).c0)
            obtain ⟨q, hq⟩ : ∃ q, q = bs[j] := ⟨_, rfl⟩
            rw [← hq] at hbc HSU
            clear hq
            go_wp2_with fail
            refine wp_region_tab 14 [(11, fun v _ => v = .int .i64 (bk : Int))] (by kernel_rfl) (by kernel_rfl) (by kernel_rfl) ⟨stays_eq _, trivial⟩ ?_
            refine rg_quiet rfl rfl rfl rfl ?_; intro K hK; go_big_quiet_op; go_big_quiet_on
            refine rg_quiet rfl rfl rfl rfl ?_; intro K hK; go_big_quiet_op; go_big_quiet_on
            refine rg_quiet rfl rfl rfl rfl ?_; intro K hK; go_big_quiet_op; go_big_quiet_on
            refine rg_quiet rfl rfl rfl rfl ?_; intro K hK; go_big_quiet_op; go_big_quiet_on
            refine rg_quiet rfl rfl rfl rfl ?_; intro K hK; go_big_quiet_op; go_big_quiet_on
            refine rg_quiet rfl rfl rfl rfl ?_; intro K hK; go_big_quiet_op; go_big_quiet_on
            refine rg_quiet rfl rfl rfl rfl ?_; intro K hK; go_big_quiet_op; go_big_quiet_on
            refine rg_quiet rfl rfl rfl rfl ?_; intro K hK; go_big_quiet_op; go_big_quiet_on
            refine rg_quiet rfl rfl rfl rfl ?_; intro K hK; go_big_quiet_op; go_big_quiet_on
            refine rg_quiet rfl rfl rfl rfl ?_; intro K hK; go_big_quiet_op; go_big_quiet_on
            refine rg_quiet rfl rfl rfl rfl ?_; intro K hK; go_big_quiet_op; go_big_quiet_on
            refine rg_val [] rfl rfl rfl (by kernel_rfl) (fun w1 hE hf => ?_) ?_
            · go_simp
              exact ((HBK.out ▸ rbucket_any pk hks _)).mono fun e w' ⟨he, hw⟩ => ⟨_, he, rg_done hE hw (rfl)⟩
            simp only [Act.put, List.setIfInBounds_toArray, List.set_cons_zero, List.set_cons_succ]
            refine rg_quiet rfl rfl rfl rfl ?_; intro K hK; go_big_quiet_op; go_big_quiet_on
            refine rg_quiet rfl rfl rfl rfl ?_; intro K hK; go_big_quiet_op; go_big_quiet_on
            refine rel_tail rfl rfl fun w2 hE3 _ => ?_
            clear hbc p0
            go_wp2_with fail
            go_roundw
            case rel => exact ⟨j + 1, _, hjn, by go_num, rfl, Lib.hid (by rw [HSU.out, ← HS.out]; rfl), hE2.trans hE3⟩
            case measure => simp [intOf]; omega
          · go_wp2_with fail
            refine wp_region_tab 14 [] (by kernel_rfl) (by kernel_rfl) (by kernel_rfl) trivial ?_
            refine rg_quiet rfl rfl rfl rfl ?_; intro K hK; go_big_quiet_op; go_big_quiet_on
            refine rg_quiet rfl rfl rfl rfl ?_; intro K hK; go_big_quiet_op; go_big_quiet_on
            refine rel_skip rfl rfl ?_
            simp only [Act.put, List.setIfInBounds_toArray, List.set_cons_zero, List.set_cons_succ]
            refine rel_skip rfl rfl ?_
            simp only [Act.put, List.setIfInBounds_toArray, List.set_cons_zero, List.set_cons_succ]
            refine rel_skip rfl rfl ?_
            simp only [Act.put, List.setIfInBounds_toArray, List.set_cons_zero, List.set_cons_succ]
            refine rel_skip rfl rfl ?_
            simp only [Act.put, List.setIfInBounds_toArray, List.set_cons_zero, List.set_cons_succ]
            refine rel_skip rfl rfl ?_
            simp only [Act.put, List.setIfInBounds_toArray, List.set_cons_zero, List.set_cons_succ]
            refine rel_skip rfl rfl ?_
            simp only [Act.put, List.setIfInBounds_toArray, List.set_cons_zero, List.set_cons_succ]
            refine rel_skip rfl rfl ?_
            simp only [Act.put, List.setIfInBounds_toArray, List.set_cons_zero, List.set_cons_succ]
            refine rel_skip rfl rfl ?_
            simp only [Act.put, List.setIfInBounds_toArray, List.set_cons_zero, List.set_cons_succ]
            refine rel_skip rfl rfl ?_
            simp only [Act.put, List.setIfInBounds_toArray, List.set_cons_zero, List.set_cons_succ]
            refine rel_skip rfl rfl ?_
            simp only [Act.put, List.setIfInBounds_toArray, List.set_cons_zero, List.set_cons_succ]
            refine rel_skip rfl rfl ?_
            simp only [Act.put, List.setIfInBounds_toArray, List.set_cons_zero, List.set_cons_succ]
            refine rg_quiet rfl rfl rfl rfl ?_; intro K hK; go_big_quiet_op; go_big_quiet_on
            refine rel_tail rfl rfl fun w2 hE3 _ => ?_
            go_wp2_with fail
            go_roundw
            case rel => exact ⟨j + 1, true, hjn, by go_num, rfl, Lib.hid (by rw [HSU.out, ← HS.out]; rfl), hE2.trans hE3⟩
            case measure => simp [intOf]; omega
        · obtain rfl : j = nb := by omega
          have HSF : Hid (S = hasI bs (bk : Int)) := Lib.hid (by
            have h := HS.out
            rw [HNB.out, List.take_length] at h
            exact h)
          cases S
          · go_wp2_with fail
            refine wp_region_tab 12 [] (by kernel_rfl) (by kernel_rfl) (by kernel_rfl) trivial ?_
            refine rg_quiet rfl rfl rfl rfl ?_; intro K hK; go_big_quiet_op; go_big_quiet_on
            refine rg_quiet rfl rfl rfl rfl ?_; intro K hK; go_big_quiet_op; go_big_quiet_on
            refine rel_skip rfl rfl ?_
            simp only [Act.put, List.setIfInBounds_toArray, List.set_cons_zero, List.set_cons_succ]
            refine rel_skip rfl rfl ?_
            simp only [Act.put, List.setIfInBounds_toArray, List.set_cons_zero, List.set_cons_succ]
            refine rel_skip rfl rfl ?_
            simp only [Act.put, List.setIfInBounds_toArray, List.set_cons_zero, List.set_cons_succ]
            refine rel_skip rfl rfl ?_
            simp only [Act.put, List.setIfInBounds_toArray, List.set_cons_zero, List.set_cons_succ]
            refine rel_skip rfl rfl ?_
            simp only [Act.put, List.setIfInBounds_toArray, List.set_cons_zero, List.set_cons_succ]
            refine rel_skip rfl rfl ?_
            simp only [Act.put, List.setIfInBounds_toArray, List.set_cons_zero, List.set_cons_succ]
            refine rel_skip rfl rfl ?_
            simp only [Act.put, List.setIfInBounds_toArray, List.set_cons_zero, List.set_cons_succ]
            refine rel_skip rfl rfl ?_
            simp only [Act.put, List.setIfInBounds_toArray, List.set_cons_zero, List.set_cons_succ]
            refine rel_skip rfl rfl ?_
            simp only [Act.put, List.setIfInBounds_toArray, List.set_cons_zero, List.set_cons_succ]
            refine rg_quiet rfl rfl rfl rfl ?_; intro K hK; go_big_quiet_op; go_big_quiet_on
            refine rel_nil fun w2 hE3 _ => ?_
            go_wp2_with fail
            go_roundw
            case rel => exact ⟨k + 1, _, M, hkm, by go_num, rfl, by omega, ownsRow_ext hown (hE2.trans hE3), hrows, Lib.hid (by rw [HTK.out, ofF_skip (by simp only; rw [← HBK.out, ← HSF.out]; rfl)]; exact HD.out), hX.trans hE3⟩
            case measure => simp [intOf]; omega
          · have z := b0.ext hX
            have x0 := held (show wr.cell? ⟨w.heap.size, 0, none⟩ = some (.int .i64 n) from z.cell 0)
            have x1 := held (show wr.cell? ⟨w.heap.size, 1, none⟩ = some (.int .i64 c) from z.cell 1)
            have x2 := held (show wr.cell? ⟨w.heap.size, 2, none⟩ = some (.int .i64 t) from z.cell 2)
            have p0 := held (show wr.cell? ⟨b, o + k * 3, none⟩ = some (.string pk) from (HPA.out.ext hX).c0)
            clear z
            go_wp2_with fail
            refine wp_region_tab 12 [(10, fun v _ => v = .bool B)] (by kernel_rfl) (by kernel_rfl) (by kernel_rfl) ⟨stays_eq _, trivial⟩ ?_
            refine rg_quiet rfl rfl rfl rfl ?_; intro K hK; go_big_quiet_op; go_big_quiet_on
            refine rg_quiet rfl rfl rfl rfl ?_; intro K hK; go_big_quiet_op; go_big_quiet_on
            refine rg_quiet rfl rfl rfl rfl ?_; intro K hK; go_big_quiet_op; go_big_quiet_on
            refine rg_quiet rfl rfl rfl rfl ?_; intro K hK; go_big_quiet_op; go_big_quiet_on
            refine rg_quiet rfl rfl rfl rfl ?_; intro K hK; go_big_quiet_op; go_big_quiet_on
            refine rg_quiet rfl rfl rfl rfl ?_; intro K hK; go_big_quiet_op; go_big_quiet_on
            refine rg_quiet rfl rfl rfl rfl ?_; intro K hK; go_big_quiet_op; go_big_quiet_on
            refine rg_quiet rfl rfl rfl rfl ?_; intro K hK; go_big_quiet_op; go_big_quiet_on
            refine rg_quiet rfl rfl rfl rfl ?_; intro K hK; go_big_quiet_op; go_big_quiet_on
            refine rg_quiet rfl rfl rfl rfl ?_; intro K hK; go_big_quiet_op; go_big_quiet_on
            refine rg_val [] rfl rfl rfl (by kernel_rfl) (fun w1 hE hf => ?_) ?_
            · go_simp
              exact ((HBB.out ▸ both23_any n c t pk hks x y _)).mono fun e w' ⟨he, hw⟩ => ⟨_, he, rg_done hE hw (rfl)⟩
            simp only [Act.put, List.setIfInBounds_toArray, List.set_cons_zero, List.set_cons_succ]
            refine rg_quiet rfl rfl rfl rfl ?_; intro K hK; go_big_quiet_op; go_big_quiet_on
            refine rel_nil fun w2 hE3 _ => ?_
            clear x0 x1 x2 p0
            have hX3 := hX.trans hE3
            have hown3 := ownsRow_ext hown (hE2.trans hE3)
            cases B
            · go_wp2_with fail
              go_roundw
              case rel => exact ⟨k + 1, _, M, hkm, by go_num, rfl, by omega, hown3, hrows, Lib.hid (by rw [HTK.out, ofF_skip (by simp only; rw [← HBB.out, Bool.and_false])]; exact HD.out), hX3⟩
              case measure => simp [intOf]; omega
            · have h3 := HPA.out.ext hX3
              have p0 : w2.cell? ⟨b, o + k * 3, none⟩ = some (.string pk) := h3.c0
              have p1 : w2.cell? ⟨b, o + k * 3 + 1, none⟩ = some (.int .i64 pg) := h3.c1
              have p2 : w2.cell? ⟨b, o + k * 3 + 2, none⟩ = some (.slice au ps.length cu) := h3.c2
              obtain ⟨nq, hnq⟩ : ∃ nq, nq = ps.length := ⟨_, rfl⟩
              rw [← hnq] at p2
              have HNQ := Lib.hid hnq
              clear hnq
              go_wp2_with (at_builtin; go_must (refine appR info_Part und_Parts rfl (by decide) w2 rfl (.tmp 53) (.tmp 58) rfl w0.heap.size hX3.le (.slice ao M.length co) M.length (paCells M) hown3 rfl 1 (pa3 pk pg (.slice au nq cu)) rfl rfl (by simp [pa3, Value.oneCell']) (by unfold maxLen; omega) (by omega) ?_); intro v7 w7 hown7 hg7)
              have hE7 : Ext w0 w7 := (hX3.alloc _).grown hg7 (fun q hq => (hown3.lt q hq).1)
              go_roundw
              case rel =>
                refine ⟨k + 1, _, M ++ [⟨pk, pg, .slice au nq cu, ps⟩], hkm, by go_num, rfl, by simp; omega, ?_, fun p hp => ?_, Lib.hid ?_, hE7⟩
                · rw [paCells_append, List.length_append]
                  exact hown7
                · rcases List.mem_append.1 hp with hp | hp
                  · exact hrows p hp
                  · rw [List.mem_singleton.1 hp, HNQ.out]
                    exact HR.out
                · rw [HTK.out, ofF_hit (by simp only; rw [← HBK.out, ← HSF.out, ← HBB.out]; rfl), List.map_append, HD.out]
                  rfl
              case measure => simp [intOf]; omega
    · obtain rfl : k = m := by omega
      have hD := HD.out
      rw [HM.out, List.take_length] at hD
      have HD2 := Lib.hid hD
      clear hD
      go_wp2
      go_ret
      exact ⟨_, M, ⟨⟨rfl, hE0.trans hE⟩, ⟨SliceIn.of_owns hown, fun p hp => (hrows p hp).ext (hE0.trans hE)⟩⟩, HD2.out⟩
end Go.Proofs.YtcmgeccgahakbaaDoor

/- The reference of chapter 23: dec, Texts, Other. -/
namespace Go.Proofs.YtcmgeccgahakbaaDoor
open Go Go.RowKit
attribute [local go_sem] yields yUpon

/-- A digit of the list of digits. -/
theorem digit_at {d : Nat} (h : d < 10) : (⟨#[48, 49, 50, 51, 52, 53, 54, 55, 56, 57]⟩ : ByteArray).extract d (d + 1) = str [UInt8.ofNat (48 + d)] := by
  obtain rfl | rfl | rfl | rfl | rfl | rfl | rfl | rfl | rfl | rfl : d = 0 ∨ d = 1 ∨ d = 2 ∨ d = 3 ∨ d = 4 ∨ d = 5 ∨ d = 6 ∨ d = 7 ∨ d = 8 ∨ d = 9 := by omega
  all_goals rfl
theorem dec_small {v : Nat} (h : v < 10) : str (Lib.decDigits v) = str [UInt8.ofNat (48 + v)] := by rw [Lib.decDigits_one h]
theorem dec_big {v : Nat} (h : ¬ v < 10) : str (Lib.decDigits v) = str (Lib.decDigits (v / 10)) ++ str [UInt8.ofNat (48 + v % 10)] := by
  rw [str_app, Lib.decDigits, dif_neg h]
theorem nDig_le : ∀ (v : Nat), (Lib.decDigits v).length ≤ v + 1 := fun v => by
  induction v using Nat.strongRecOn with
  | _ v ih =>
    by_cases h : v < 10
    · rw [Lib.decDigits_one h]; simp
    · rw [Lib.decDigits, dif_neg h]
      have := ih (v / 10) (by omega)
      simp
      omega

set_option maxRecDepth 100000 in
set_option maxHeartbeats 4000000 in
theorem dec_any : ∀ (v : Nat), v ≤ 9223372036854775807 → ∀ w : World,
    Calls Tryd.prog 106 #[.int .i64 (v : Int)] w fun e w' => e = .returned (.string (str (Lib.decDigits v))) ∧ Ext w w' := by
  intro v
  induction v using Nat.strongRecOn with
  | _ v ih =>
    intro hv w
    by_cases h : v < 10
    · have HD := Lib.hid (digit_at h)
      have HS := Lib.hid (dec_small h)
      have hi : (v : Int) < 10 := by omega
      go_enter Tryd.func106, Tryd.ntmps106
      go_wp2
      go_ret
      exact ⟨ret_str (by rw [HS.out, ← HD.out]), Ext.refl w⟩
    · have HI := Lib.hid (fun u : World => ih (v / 10) (by omega) (by omega) u)
      obtain ⟨d, hd⟩ : ∃ d, d = v % 10 := ⟨_, rfl⟩
      have hd10 : d < 10 := by omega
      have HB := Lib.hid (dec_big h)
      rw [← hd] at HB
      have HD := Lib.hid (digit_at hd10)
      have hq : Int.tdiv (v : Int) 10 = ((v / 10 : Nat) : Int) := by rw [Int.tdiv_eq_ediv_of_nonneg (by omega)]; omega
      have hr : Int.tmod (v : Int) 10 = (d : Int) := by rw [Int.tmod_eq_emod_of_nonneg (by omega)]; omega
      obtain ⟨P, hP⟩ : ∃ P, P = str (Lib.decDigits (v / 10)) := ⟨_, rfl⟩
      have hPz : P.size ≤ 9223372036854775000 := by
        rw [hP, str_size]
        have := nDig_le (v / 10)
        omega
      have q1 : ¬ 9223372036854775807 < P.size + 1 := by omega
      have HP := Lib.hid hP
      obtain ⟨G, hG⟩ : ∃ G, G = (⟨#[48, 49, 50, 51, 52, 53, 54, 55, 56, 57]⟩ : ByteArray).extract d (d + 1) := ⟨_, rfl⟩
      have hGz : G.size = 1 := by rw [hG, HD.out]; rfl
      have HG := Lib.hid hG
      clear ih hd hP hG
      go_enter Tryd.func106, Tryd.ntmps106
      go_wp2
      refine wp_region_tab 10 [(2, fun v _ => v = .string P)] (by kernel_rfl) (by kernel_rfl) (by kernel_rfl) ⟨stays_eq _, trivial⟩ ?_
      refine rg_quiet rfl rfl rfl rfl ?_; intro K hK; go_big_quiet_op; go_big_quiet_on
      refine rg_quiet rfl rfl rfl rfl ?_; intro K hK; go_big_quiet_op; go_big_quiet_on
      refine rg_val [] rfl rfl rfl (by kernel_rfl) (fun w1 hE hf => ?_) ?_
      · go_simp
        exact ((HP.out ▸ HI.out _)).mono fun e w' ⟨he, hw⟩ => ⟨_, he, rg_done hE hw (rfl)⟩
      simp only [Act.put, List.setIfInBounds_toArray, List.set_cons_zero, List.set_cons_succ]
      refine rg_quiet rfl rfl rfl rfl ?_; intro K hK; go_big_quiet_op; go_big_quiet_on
      refine rg_quiet rfl rfl rfl rfl ?_; intro K hK; go_big_quiet_op; go_big_quiet_on
      refine rg_quiet rfl rfl rfl rfl ?_; intro K hK; go_big_quiet_op; go_big_quiet_on
      refine rg_quiet rfl rfl rfl rfl ?_; intro K hK; go_big_quiet_op; go_big_quiet_on
      refine rg_quiet rfl rfl rfl rfl ?_; intro K hK; go_big_quiet_op; go_big_quiet_on
      refine rg_quiet rfl rfl rfl rfl ?_; intro K hK; go_big_quiet_op; go_big_quiet_on
      rw [← HG.out]
      have q2 : ¬ 9223372036854775807 < P.size + G.size := by omega
      refine rg_quiet rfl rfl rfl rfl ?_; intro K hK; go_big_quiet_op; go_big_quiet_on
      refine rel_tail rfl rfl fun w2 hE2 _ => ?_
      go_wp2
      go_ret
      exact ⟨ret_str (by rw [HB.out, HP.out, HG.out, HD.out]), hE2⟩

set_option maxRecDepth 100000 in
set_option maxHeartbeats 4000000 in
theorem texts23_any (v : Value) (l : List Int) (w : World) (hin : IntsIn w v .i64 l) (hb : ∀ x ∈ l, -9223372036854775808 ≤ x ∧ x ≤ 9223372036854775807) (hlen : l.length ≤ 1000000) :
    Calls Tryd.prog 44 #[v] w fun e w' => ∃ v', (e = .returned v' ∧ Ext w w') ∧ w'.ownsRow w.heap.size 9 1 v' l.length (tsC (stxs l)) := by
  obtain ⟨a, c, rfl, hc, hcm, hcell⟩ := hin.getX
  have HC := Lib.hid hcell
  have HB := Lib.hid hb
  obtain ⟨n, hn⟩ : ∃ n, n = l.length := ⟨_, rfl⟩
  have HN := Lib.hid hn
  rw [← hn] at hc hlen ⊢
  clear hcell hin hb hn
  go_enter Tryd.func44, Tryd.ntmps44
  go_wp2
  go_loopw [3, 4] (fun vb i wr => ∃ k : Nat, k ≤ n ∧ i = .int .i64 k ∧ Ext w wr ∧ wr.ownsRow w.heap.size 9 1 vb k (tsC (stxs (l.take k)))) (fun _ i _ => n - (intOf i).toNat)
  case atStart => exact ⟨0, Nat.zero_le _, rfl, Ext.refl w, World.ownsRow_nil _ _ _ _⟩
  case round =>
    obtain ⟨k, hk, rfl, hE, hown⟩ := hrel
    by_cases hlt : k < n
    · have hkl : k < l.length := by rw [← HN.out]; exact hlt
      obtain ⟨b, o, rfl, hco⟩ := HC.out k hkl
      replace hco := hE.cell hco
      have hx := HB.out _ (List.getElem_mem hkl)
      obtain ⟨x, hxe⟩ : ∃ x, x = l[k] := ⟨_, rfl⟩
      rw [← hxe] at hco hx
      have hcells : tsC (stxs (l.take (k + 1))) = tsC (stxs (l.take k)) ++ [.string (stx x)] := by
        rw [List.take_succ_eq_append_getElem hkl, hxe]
        simp only [stxs, tsC, List.map_append, List.map_cons, List.map_nil]
      have HX := Lib.hid hcells
      obtain ⟨q, hq⟩ : ∃ q : Nat, (q : Int) = max x 0 := ⟨(max x 0).toNat, by omega⟩
      have hmx : (if x < 0 then 0 else x) = (q : Int) := by split <;> omega
      have hmx2 : max x 0 = (q : Int) := hq.symm
      have HSX : Hid (str (Lib.decDigits q) = stx x) := Lib.hid (by
        unfold stx Lib.itoa
        rw [if_neg (by omega), show (max x 0).toNat = q by omega]
        rfl)
      have hq9 : q ≤ 9223372036854775807 := by omega
      clear hcells hxe hq
      go_wp2_with (first
        | (go_at_call 106; go_must (refine (dec_any q hq9 _).mono ?_); rintro e w7 ⟨rfl, hE7⟩; rw [HSX.out]; have hO7 := ownsRow_ext hown hE7)
        | (at_builtin; go_must (refine appR info_stringX und_strsX rfl (by decide) w7 rfl (.tmp 11) (.tmp 18) rfl w.heap.size (hE.trans hE7).le _ k _ hO7 (by rfl) 1 _ (by rfl) (by rfl) (by simp [Value.oneCell']) (by unfold maxLen; omega) (by omega) ?_); intro v8 w8 ho8 hg8))
      have hE8 := ((hE.trans hE7).alloc (.cells #[.string (stx x)] 9)).grown hg8 (fun k hk => (hO7.lt k hk).1)
      go_roundw
      case rel =>
        refine ⟨k + 1, hlt, by go_num, hE8, ?_⟩
        rw [HX.out]
        exact ho8
      case measure => simp [intOf]; omega
    · go_wp2
      go_ret
      have : k = n := by omega
      subst this
      refine ⟨_, ⟨rfl, hE⟩, ?_⟩
      rw [List.take_of_length_le (by rw [← HN.out]; exact Nat.le_refl _)] at hown
      exact hown

set_option maxRecDepth 100000 in
set_option maxHeartbeats 8000000 in
theorem other23_any (v u : Value) (l : List Int) (m : List ByteArray) (w : World) (hin : IntsIn w v .i64 l) (hu : TsIn w u m) (hb : ∀ x ∈ l, -9223372036854775808 ≤ x ∧ x ≤ 9223372036854775807) (hlen : l.length ≤ 1000000) :
    Calls Tryd.prog 46 #[v, u] w fun e w' => ∃ v', (e = .returned v' ∧ Ext w w') ∧ IntsIn w' v' .i64 (oth (stxs l) m l.length) := by
  have HB := Lib.hid hb
  have HI := Lib.hid hin
  obtain ⟨au, cu, rfl, hcu, hcum, hucell⟩ := hu.get
  have HU := Lib.hid hucell
  obtain ⟨n, hn⟩ : ∃ n, n = l.length := ⟨_, rfl⟩
  have HN := Lib.hid hn
  rw [← hn] at hlen ⊢
  obtain ⟨nm, hnm⟩ : ∃ nm, nm = m.length := ⟨_, rfl⟩
  have HM := Lib.hid hnm
  rw [← hnm] at hcu
  rw [← hnm]
  obtain ⟨ts, hts⟩ : ∃ ts, ts = stxs l := ⟨_, rfl⟩
  have HS := Lib.hid hts
  have hns : n = ts.length := by rw [hts, hn]; simp [stxs]
  have HNS := Lib.hid hns
  rw [← hts]
  clear hb hucell hin hn hnm hts hns hu
  go_enter Tryd.func46, Tryd.ntmps46
  go_wp2_with (go_at_call 44; go_must (refine (texts23_any _ l _ HI.out HB.out (by rw [← HN.out]; exact hlen)).mono ?_); rintro e w1 ⟨v1, ⟨rfl, hE1⟩, ho1⟩; have hr1 : TsIn w1 v1 (stxs l) := (by have h := SliceIn.of_owns ho1; unfold TsIn; simpa [stxs] using h); rw [← HS.out] at hr1; obtain ⟨a1, c1, rfl, hc1, hcm1, hcell1⟩ := hr1.get; rw [← HNS.out] at hc1 ⊢; have HC := Lib.hid hcell1; clear hcell1 hr1 ho1)
  go_loopw [5, 7] (fun vb i wr => ∃ k : Nat, k ≤ n ∧ i = .int .i64 k ∧ Ext w1 wr ∧ wr.ownsRow w1.heap.size 3 1 vb (oth ts m k).length (kcells .i64 (oth ts m k))) (fun _ i _ => n - (intOf i).toNat)
  case atStart => exact ⟨0, Nat.zero_le _, rfl, Ext.refl w1, by unfold oth; exact World.ownsRow_nil _ _ _ _⟩
  case round =>
    obtain ⟨k, hk, rfl, hE, hown⟩ := hrel
    by_cases hlt : k < n
    · have hkl : k < ts.length := by rw [← HNS.out]; exact hlt
      obtain ⟨b, o, rfl, hco⟩ := HC.out k hkl
      replace hco := hE.cell hco
      have hts : ts[k]? = some ts[k] := List.getElem?_eq_getElem hkl
      obtain ⟨x, hx⟩ : ∃ x, x = ts[k] := ⟨_, rfl⟩
      rw [← hx] at hco hts
      clear hx
      have hol := oth_le ts m k
      have t0 : decide ((k : Int) < (n : Int)) = true := by simp; omega
      by_cases hkm : k < nm
      · have hkm' : k < m.length := by rw [← HM.out]; exact hkm
        obtain ⟨bu, ou, rfl, hcv⟩ := HU.out k hkm'
        replace hcv := (hE1.trans hE).cell hcv
        have hms : m[k]? = some m[k] := List.getElem?_eq_getElem hkm'
        obtain ⟨z, hz⟩ : ∃ z, z = m[k] := ⟨_, rfl⟩
        rw [← hz] at hcv hms
        clear hz
        have t1 : decide ((nm : Int) ≤ (k : Int)) = false := by simp; omega
        cases hbe : (z.toList == x.toList)
        · have HQ : Hid (m[k]? ≠ ts[k]?) := Lib.hid (by
            rw [hms, hts]
            intro e
            cases Option.some.inj e
            simp at hbe)
          have HK := Lib.hid (oth_hit HQ.out)
          have hl : (oth ts m (k + 1)).length = (oth ts m k).length + 1 := by
            have := congrArg List.length HK.out
            simpa using this
          obtain ⟨q, hq⟩ : ∃ q, q = (oth ts m k).length := ⟨_, rfl⟩
          rw [← hq] at hown hol hl
          have HL1 := Lib.hid hl
          have HQQ := Lib.hid hq
          clear hq hl hts hms
          go_wp2_with fail
          go_quiet (fail)
          have hown2 := ownsRow_ext hown ((Ext.refl wr).drewN nq)
          go_wp2_with (at_builtin; go_must (refine appR info_intX und_intsX rfl (by decide) (wr.drewN nq) rfl (.tmp 31) (.tmp 33) rfl w1.heap.size (hE.drewN nq).le _ q _ hown2 (by rfl) 1 _ (by rfl) (by rfl) (by simp [Value.oneCell']) (by unfold maxLen; omega) (by omega) ?_); intro v8 w8 ho8 hg8)
          have hE8 := ((hE.drewN nq).alloc (.cells #[.int .i64 (k : Int)] 3)).grown hg8 (fun k hk => (hown2.lt k hk).1)
          go_roundw
          case rel => exact ⟨k + 1, hlt, by go_num, hE8, by rw [HL1.out, HK.out]; exact ho8⟩
          case measure => simp [intOf]; omega
        · have HQ : Hid (m[k]? = ts[k]?) := Lib.hid (by
            rw [hms, hts, (Lib.bytes_beq_iff z x).1 hbe])
          have HK := Lib.hid (oth_miss HQ.out)
          clear hts hms
          go_wp2_with fail
          go_quiet (fail)
          go_wp2_with fail
          go_roundw
          case rel => exact ⟨k + 1, hlt, by go_num, hE.drewN _, by rw [HK.out]; exact ownsRow_ext hown ((Ext.refl wr).drewN _)⟩
          case measure => simp [intOf]; omega
      · have t1 : decide ((nm : Int) ≤ (k : Int)) = true := by simp; omega
        have HQ : Hid (m[k]? ≠ ts[k]?) := Lib.hid (by
          rw [List.getElem?_eq_none (by rw [← HM.out]; omega), hts]
          simp)
        have HK := Lib.hid (oth_hit HQ.out)
        have hl : (oth ts m (k + 1)).length = (oth ts m k).length + 1 := by
          have := congrArg List.length HK.out
          simpa using this
        obtain ⟨q, hq⟩ : ∃ q, q = (oth ts m k).length := ⟨_, rfl⟩
        rw [← hq] at hown hol hl
        have HL1 := Lib.hid hl
        have HQQ := Lib.hid hq
        clear hq hl hts
        go_wp2_with fail
        go_quiet (fail)
        have hown2 := ownsRow_ext hown ((Ext.refl wr).drewN nq)
        go_wp2_with (at_builtin; go_must (refine appR info_intX und_intsX rfl (by decide) (wr.drewN nq) rfl (.tmp 31) (.tmp 33) rfl w1.heap.size (hE.drewN nq).le _ q _ hown2 (by rfl) 1 _ (by rfl) (by rfl) (by simp [Value.oneCell']) (by unfold maxLen; omega) (by omega) ?_); intro v8 w8 ho8 hg8)
        have hE8 := ((hE.drewN nq).alloc (.cells #[.int .i64 (k : Int)] 3)).grown hg8 (fun k hk => (hown2.lt k hk).1)
        go_roundw
        case rel => exact ⟨k + 1, hlt, by go_num, hE8, by rw [HL1.out, HK.out]; exact ho8⟩
        case measure => simp [intOf]; omega
    · go_wp2
      go_ret
      have : k = n := by omega
      subst this
      exact ⟨_, ⟨rfl, hE1.trans hE⟩, SliceIn.of_owns hown⟩
end Go.Proofs.YtcmgeccgahakbaaDoor

/- FewRow, FewPart: not too much. -/
namespace Go.Proofs.YtcmgeccgahakbaaDoor
open Go Go.RowKit
attribute [local go_sem] yields yUpon ro8 pa3

/-- A row that is not too much. -/
structure FewR (r : Ro) : Prop where
  key : r.key.size ≤ 1000
  cols : r.cols.length ≤ 20
  val : r.live.val.size ≤ 1000
  each : ∀ c ∈ r.cols, c.name.size ≤ 300 ∧ c.cell.val.size ≤ 300

set_option maxRecDepth 100000 in
set_option maxHeartbeats 4000000 in
theorem fewRow_any (r : Ro) (v : Value) (w : World) (hin : ColsIn w v r.cols) :
    Calls Tryd.prog 52 #[(.agg #[.string r.key, .string r.live.val, .bool r.live.dead, .int .i64 r.live.at_, .int .i64 r.live.fin, .int .i64 r.gone, .int .i64 r.shade, v])] w fun e w' => ∃ b, e = .returned (.bool b) ∧ (b = true → FewR r) ∧ Ext w w' := by
  obtain ⟨a, c, rfl, hc, hcm, hcell⟩ := hin.get
  have b0 := BoxAt.made w (ro8 r (.slice a r.cols.length c)) 91
  have hE0 := (Ext.refl w).alloc (.cells (ro8 r (.slice a r.cols.length c)) 91)
  obtain ⟨n, hn⟩ : ∃ n, n = r.cols.length := ⟨_, rfl⟩
  rw [← hn] at hc b0 hE0 ⊢
  have HN := Lib.hid hn
  have HC := Lib.hid hcell
  clear hcell hin hn
  cases q1 : decide ((1000 : Int) < (r.key.size : Int))
  · cases q2 : decide ((20 : Int) < (n : Int))
    · cases q3 : decide ((1000 : Int) < (r.live.val.size : Int))
      · have HQ : Hid (r.key.size ≤ 1000 ∧ n ≤ 20 ∧ r.live.val.size ≤ 1000) := by
          simp at q1 q2 q3
          exact ⟨by omega, by omega, by omega⟩
        go_enter Tryd.func52, Tryd.ntmps52
        go_wp2_with fail
        clear q1 q2 q3
        go_loopw [3] (fun i wr => ∃ k : Nat, k ≤ n ∧ i = .int .i64 k ∧ BoxAt wr w.heap.size (ro8 r (.slice a n c)) 91 ∧ Ext w wr ∧ ∀ j (h : j < r.cols.length), j < k → (r.cols[j]'h).name.size ≤ 300 ∧ (r.cols[j]'h).cell.val.size ≤ 300) (fun i _ => n - (intOf i).toNat)
        case atStart => exact ⟨0, Nat.zero_le _, rfl, b0, hE0, fun j h hj => absurd hj (Nat.not_lt_zero _)⟩
        case round =>
          obtain ⟨k, hk, rfl, hb, hE, hall⟩ := hrel
          have HALL := Lib.hid hall
          clear hall b0 hE0
          obtain ⟨x0, x1, x2, x3, x4, x5, x6, x7⟩ := hb.ro
          by_cases hlt : k < n
          · have hkn : k < r.cols.length := by rw [← HN.out]; exact hlt
            obtain ⟨b, o, rfl, hco⟩ := HC.out k hkn
            obtain ⟨M, hM⟩ : ∃ M, M = r.cols[k] := ⟨_, rfl⟩
            rw [← hM] at hco
            have HM := Lib.hid hM
            clear hM
            obtain ⟨g0, g1, g2, g3, g4⟩ := hco.ext hE
            have hki : decide ((k : Int) < (n : Int)) = true := by simpa using hlt
            cases p1 : decide ((300 : Int) < (M.name.size : Int))
            · cases p2 : decide ((300 : Int) < (M.cell.val.size : Int))
              · have HP : Hid (M.name.size ≤ 300 ∧ M.cell.val.size ≤ 300) := by
                  simp at p1 p2
                  exact ⟨by omega, by omega⟩
                go_wp2_with fail
                go_roundw
                case rel =>
                  refine ⟨k + 1, by omega, by go_num, hb, hE, fun j h hj => ?_⟩
                  by_cases hjk : j < k
                  · exact HALL.out j h hjk
                  · obtain rfl : j = k := by omega
                    rw [← HM.out]
                    exact HP.out
                case measure => simp [intOf] <;> omega
              · go_wp2_with fail
                go_ret
                exact ⟨false, rfl, nofun, hE⟩
            · go_wp2_with fail
              go_ret
              exact ⟨false, rfl, nofun, hE⟩
          · have hki : decide ((k : Int) < (n : Int)) = false := by simp; omega
            go_wp2_with fail
            go_ret
            refine ⟨true, rfl, fun _ => ⟨HQ.out.1, by rw [← HN.out]; exact HQ.out.2.1, HQ.out.2.2, fun c hc => ?_⟩, hE⟩
            obtain ⟨j, hj, rfl⟩ := List.getElem_of_mem hc
            exact HALL.out j hj (by have := HN.out; omega)
      · go_enter Tryd.func52, Tryd.ntmps52
        go_wp2_with fail
        go_ret
        exact ⟨false, rfl, nofun, hE0⟩
    · go_enter Tryd.func52, Tryd.ntmps52
      go_wp2_with fail
      go_ret
      exact ⟨false, rfl, nofun, hE0⟩
  · go_enter Tryd.func52, Tryd.ntmps52
    go_wp2_with fail
    go_ret
    exact ⟨false, rfl, nofun, hE0⟩

set_option maxRecDepth 100000 in
set_option maxHeartbeats 4000000 in
theorem fewPart_any (pk : ByteArray) (pg : Int) (pu : Value) (ps : List (Ro × Value)) (most : Int) (w : World) (hin : RowsIn w pu ps) :
    Calls Tryd.prog 9 #[.agg #[.string pk, .int .i64 pg, pu], .int .i64 most] w fun e w' => ∃ b, e = .returned (.bool b) ∧ (b = true → pk.size ≤ 300 ∧ (ps.length : Int) ≤ most ∧ ∀ p ∈ ps, FewR p.1) ∧ Ext w w' := by
  have b0 := BoxAt.made w (pa3 pk pg pu) 24
  have hE0 := (Ext.refl w).alloc (.cells (pa3 pk pg pu) 24)
  obtain ⟨aa, ca, rfl, hca, hcma, hget⟩ := hin.get
  obtain ⟨n, hn⟩ : ∃ n, n = ps.length := ⟨_, rfl⟩
  rw [← hn] at hca b0 hE0 ⊢
  have HN := Lib.hid hn
  have HGET := Lib.hid hget
  have HC := Lib.hid hin.cols
  clear hn hget hin
  cases q1 : decide ((300 : Int) < (pk.size : Int))
  · cases q2 : decide (most < (n : Int))
    · have HQ : Hid (pk.size ≤ 300 ∧ (n : Int) ≤ most) := by
        simp at q1 q2
        exact ⟨by omega, by omega⟩
      go_enter Tryd.func9, Tryd.ntmps9
      go_wp2_with fail
      clear q1 q2
      go_loopw [5] (fun i wr => ∃ k : Nat, k ≤ n ∧ i = .int .i64 k ∧ BoxAt wr w.heap.size (pa3 pk pg (.slice aa n ca)) 24 ∧ Ext w wr ∧ ∀ j (h : j < ps.length), j < k → FewR (ps[j]'h).1) (fun i _ => n - (intOf i).toNat)
      case atStart => exact ⟨0, Nat.zero_le _, rfl, b0, hE0, fun j h hj => absurd hj (Nat.not_lt_zero _)⟩
      case round =>
        obtain ⟨k, hk, rfl, hb, hE, hall⟩ := hrel
        have HALL := Lib.hid hall
        clear hall b0 hE0
        obtain ⟨x0, x1, x2⟩ := hb.pa
        by_cases hlt : k < n
        · have hkp : k < ps.length := by rw [← HN.out]; exact hlt
          obtain ⟨b, o, rfl, hat⟩ := HGET.out k hkp
          have hcu := HC.out _ (List.getElem_mem hkp)
          obtain ⟨M, hM⟩ : ∃ M, M = ps[k].1 := ⟨_, rfl⟩
          obtain ⟨au, cu, hu⟩ := hcu.shape
          have HM := Lib.hid hM
          rw [← hM] at hat hu hcu
          rw [hu] at hat hcu
          clear hM hu
          obtain ⟨m, hm⟩ : ∃ m, m = M.cols.length := ⟨_, rfl⟩
          rw [← hm] at hat hcu
          have HMM := Lib.hid hm
          clear hm
          have hki : decide ((k : Int) < (n : Int)) = true := by simpa using hlt
          obtain ⟨y0, y1, y2, y3, y4, y5, y6, y7⟩ := hat.ext hE
          have hcu1 := hcu.ext hE
          clear hat hcu
          go_wp2_with fail
          refine (fewRow_any M _ wr hcu1).mono ?_
          rintro e w1 ⟨B, rfl, hB, hE1⟩
          have HB := Lib.hid hB
          clear hB hcu1 y0 y1 y2 y3 y4 y5 y6 y7
          cases B
          · go_wp2_with fail
            go_ret
            exact ⟨false, rfl, nofun, hE.trans hE1⟩
          · go_wp2_with fail
            go_roundw
            case rel =>
              refine ⟨k + 1, by omega, by go_num, hb.ext hE1, hE.trans hE1, fun j h hj => ?_⟩
              by_cases hjk : j < k
              · exact HALL.out j h hjk
              · obtain rfl : j = k := by omega
                rw [← HM.out]
                exact HB.out (by trivial)
            case measure => simp [intOf] <;> omega
        · have hki : decide ((k : Int) < (n : Int)) = false := by simp; omega
          go_wp2_with fail
          go_ret
          refine ⟨true, rfl, fun _ => ⟨HQ.out.1, HQ.out.2, fun p hp => ?_⟩, hE⟩
          obtain ⟨j, hj, rfl⟩ := List.getElem_of_mem hp
          exact HALL.out j hj (by have := HN.out; omega)
    · go_enter Tryd.func9, Tryd.ntmps9
      go_wp2_with fail
      go_ret
      exact ⟨false, rfl, nofun, hE0⟩
  · go_enter Tryd.func9, Tryd.ntmps9
    go_wp2_with fail
    go_ret
    exact ⟨false, rfl, nofun, hE0⟩
end Go.Proofs.YtcmgeccgahakbaaDoor
