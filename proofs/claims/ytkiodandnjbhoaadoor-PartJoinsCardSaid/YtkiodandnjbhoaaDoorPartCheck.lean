/- part.Check of what may be. -/
import Derived.Test.YtkiodandnjbhoaaDoorRowCheck2
import Derived.Test.YtkiodandnjbhoaaDoorRowsIn
namespace Go.Proofs.YtkiodandnjbhoaaDoor
open Go Go.RowKit
attribute [local go_sem] yields yUpon ro8 pa3

set_option maxRecDepth 100000 in
set_option maxHeartbeats 4000000 in
theorem pcheck_good (pk : ByteArray) (pg : Int) (pu : Value) (ps : List (Ro × Value)) (w : World) (hin : RowsIn w pu ps) (hk : pk.size ≤ 100) (hg0 : 0 ≤ pg) (hg1 : pg ≤ 1099511627776) (hl : ps.length ≤ 100)
    (hrow : ∀ p ∈ ps, headB p.1 = true ∧ colsB none p.1.cols = true ∧ ∀ c ∈ p.1.cols, Low c.name) (hrise : ∀ j (h : j + 1 < ps.length), Op.bytesLess (ps[j].1.key.toList) (ps[j + 1].1.key.toList) = true) :
    Calls Tryd.prog 38 #[.agg #[.string pk, .int .i64 pg, pu]] w fun e w' => e = .returned (.bool true) ∧ Ext w w' := by
  have a0 := BoxAt.made w (pa3 pk pg pu) 35
  have hE := (Ext.refl w).alloc (.cells (pa3 pk pg pu) 35)
  obtain ⟨aa, ca, rfl, hca, hcma, hget⟩ := hin.get
  have c0 := a0.pa
  have k1 : decide ((100 : Int) < (pk.size : Int)) = false := by simp; omega
  have k2 : decide (pg < 0) = false := by simp; omega
  have k3 : decide ((1099511627776 : Int) < pg) = false := by simp; omega
  obtain ⟨n, hn⟩ : ∃ n, n = ps.length := ⟨_, rfl⟩
  rw [← hn] at hca a0 hE c0 hl ⊢
  have k4 : decide ((100 : Int) < (n : Int)) = false := by simp; omega
  have HN := Lib.hid hn
  have HGET := Lib.hid hget
  have HROW := Lib.hid hrow
  have HRISE := Lib.hid hrise
  have HC := Lib.hid hin.cols
  clear hn hget hrow hrise hin
  go_enter Tryd.func38, Tryd.ntmps38
  go_wp2_with fail
  go_loopw [28] (fun i wr => ∃ k : Nat, k ≤ n ∧ i = .int .i64 k ∧ BoxAt wr w.heap.size (pa3 pk pg (.slice aa n ca)) 35 ∧ Ext w wr) (fun i _ => n - (intOf i).toNat)
  case atStart => exact ⟨0, Nat.zero_le _, rfl, a0, hE⟩
  case round =>
    obtain ⟨k, hkn, rfl, b0, hE1⟩ := hrel
    clear a0 c0 hE k1 k2 k3 k4
    by_cases hlt : k < n
    · have hkp : k < ps.length := by rw [← HN.out]; exact hlt
      obtain ⟨hb1, hb2, hb3⟩ := HROW.out _ (List.getElem_mem hkp)
      obtain ⟨b, o, rfl, hat⟩ := HGET.out k hkp
      have hcu := HC.out _ (List.getElem_mem hkp)
      obtain ⟨M, hM⟩ : ∃ M, M = ps[k].1 := ⟨_, rfl⟩
      obtain ⟨au, cu, hu⟩ := hcu.shape
      have HM := Lib.hid hM
      rw [← hM] at hb1 hb2 hb3 hat hu hcu
      rw [hu] at hat hcu
      clear hM hu
      obtain ⟨m, hm⟩ : ∃ m, m = M.cols.length := ⟨_, rfl⟩
      rw [← hm] at hat hcu
      have HMM := Lib.hid hm
      clear hm
      obtain ⟨x0, x1, x2, x3, x4, x5, x6, x7⟩ := hat.ext hE1
      have hki : decide ((k : Int) < (n : Int)) = true := by simpa using hlt
      have HB1 := Lib.hid hb1
      have HB2 := Lib.hid hb2
      have HB3 := Lib.hid hb3
      clear hb1 hb2 hb3 hat
      go_wp2_with (((guard_target =~ wpList _ _ _ (Oper.mk none (Op.store _ (Operand.tmp 4) (Operand.tmp 32)) _ _ _ _ :: _) _ _); go_must (refine storeBox rfl 26 (.tmp 4) (.tmp 32) rfl (wr.heap.size) _ _ _ (by rfl) (by rfl) ((BoxAt.made wr (ro8 ⟨⟨#[]⟩, zeroCl, 0, 0, []⟩ (.slice none 0 0)) 26)) (by kernel_rfl) (by rfl) (by simp [Value.oneCell']) ?_); intro w4 c4 g4))
      have hX4 : Ext wr w4 := ((Ext.refl wr).alloc _).grown g4 (fun q hq => by cases hq; omega)
      have d4 : BoxAt w4 wr.heap.size (ro8 M (.slice au m cu)) 26 := c4
      have b4 := b0.ext hX4
      have hE4 := hE1.trans hX4
      have hcu4 := hcu.ext hE4
      clear c4 g4 x0 x1 x2 x3 x4 x5 x6 x7 b0 hX4 hcu
      simp only [Act.put]
      refine wp_region_in 19 [(1, fun v _ => v = .bool true)] (fun y => BoxAt y wr.heap.size (ro8 M (.slice au m cu)) 26 ∧ BoxAt y w.heap.size (pa3 pk pg (.slice (some ⟨b, o, none⟩) n ca)) 35 ∧ ColsIn y (.slice au m cu) M.cols ∧ Ext w y) (by kernel_rfl) (by kernel_rfl) (by kernel_rfl) ⟨stays_eq _, trivial⟩ ⟨d4, b4, hcu4, hE4⟩ ?_
      clear d4 b4 hE4 hcu4 hE1
      rintro w5 ⟨d5, b5, hcu, hE⟩
      have FIN : Hid (∀ wx, Ext w5 wx → BoxAt wx w.heap.size (pa3 pk pg (.slice (some ⟨b, o, none⟩) n ca)) 35 ∧ Ext w wx) := fun wx h => ⟨b5.ext h, hE.trans h⟩
      obtain ⟨x0, x1, x2, x3, x4, x5, x6, x7⟩ := d5.ro
      obtain ⟨y0, y1, y2⟩ := b5.pa
      clear d5 b5
      replace x0 := held x0
      replace x1 := held x1
      replace x2 := held x2
      replace x3 := held x3
      replace x4 := held x4
      replace x5 := held x5
      replace x6 := held x6
      replace x7 := held x7
      replace y2 := held y2
      clear y0 y1
      refine rg_quiet rfl rfl rfl rfl ?_; intro K hK; go_big_quiet_op; go_big_quiet_on
      refine rg_val [] rfl rfl rfl (by kernel_rfl) (fun w1 hE hf => ?_) ?_
      · go_simp
        refine (rcheck_good M _ w1 (hcu.ext hE) HB1.out (fun j hj => HB3.out _ (List.getElem_mem hj))).mono ?_
        rintro e w' ⟨he, hw⟩
        exact ⟨_, he, rg_done hE hw (by rw [HB2.out])⟩
      simp only [Act.put, List.setIfInBounds_toArray, List.set_cons_zero, List.set_cons_succ]
      cases k with
      | zero =>
        refine rg_quiet rfl rfl rfl rfl ?_; intro K hK; go_big_quiet_op; go_big_quiet_on
        refine rg_quiet rfl rfl rfl rfl ?_; intro K hK; go_big_quiet_op; go_big_quiet_on
        refine rg_quiet rfl rfl rfl rfl ?_; intro K hK; go_big_quiet_op; go_big_quiet_on
        refine rg_quiet rfl rfl rfl rfl ?_; intro K hK; go_big_quiet_op; go_big_quiet_on
        refine rg_quiet rfl rfl rfl rfl ?_; intro K hK; go_big_quiet_op; go_big_quiet_on
        refine rel_skip rfl rfl ?_
        simp only [Act.put, List.setIfInBounds_toArray, List.set_cons_zero, List.set_cons_succ]
        refine rel_skip rfl rfl ?_
        simp only [Act.put, List.setIfInBounds_toArray, List.set_cons_zero, List.set_cons_succ]
        refine rel_skip rfl rfl ?_
        simp only [Act.put, List.setIfInBounds_toArray, List.set_cons_zero, List.set_cons_succ]
        refine rel_skip rfl rfl ?_
        simp only [Act.put, List.setIfInBounds_toArray, List.set_cons_zero, List.set_cons_succ]
        refine rel_skip rfl rfl ?_
        simp only [Act.put, List.setIfInBounds_toArray, List.set_cons_zero, List.set_cons_succ]
        refine rel_skip rfl rfl ?_
        simp only [Act.put, List.setIfInBounds_toArray, List.set_cons_zero, List.set_cons_succ]
        refine rel_skip rfl rfl ?_
        simp only [Act.put, List.setIfInBounds_toArray, List.set_cons_zero, List.set_cons_succ]
        refine rel_skip rfl rfl ?_
        simp only [Act.put, List.setIfInBounds_toArray, List.set_cons_zero, List.set_cons_succ]
        refine rel_skip rfl rfl ?_
        simp only [Act.put, List.setIfInBounds_toArray, List.set_cons_zero, List.set_cons_succ]
        refine rel_skip rfl rfl ?_
        simp only [Act.put, List.setIfInBounds_toArray, List.set_cons_zero, List.set_cons_succ]
        refine rg_quiet rfl rfl rfl rfl ?_; intro K hK; go_big_quiet_op; go_big_quiet_on
        refine rg_quiet rfl rfl rfl rfl ?_; intro K hK; go_big_quiet_op; go_big_quiet_on
        refine rel_nil fun w6 hE6 _ => ?_
        obtain ⟨b6, hE7⟩ := FIN.out w6 hE6
        clear x0 x1 x2 x3 x4 x5 x6 x7 y2 FIN hE6 hE hcu
        go_wp2_with fail
        go_roundw
        case rel => exact ⟨0 + 1, by omega, by go_num, b6, hE7⟩
        case measure => simp [intOf] <;> omega
      | succ j =>
        have hjp : j < ps.length := by omega
        obtain ⟨b', o', e', hp⟩ := HGET.out j hjp
        cases e'
        replace hp := held (hE.cell hp.c0)
        have eo := HRISE.out j hkp
        obtain ⟨Pn, hPn⟩ : ∃ Pn, Pn = ps[j].1.key := ⟨_, rfl⟩
        rw [← hPn] at hp eo
        have hMk : ps[j + 1].1.key = M.key := by rw [HM.out]
        rw [hMk] at eo
        clear hPn hMk
        have hw : IntKind.i64.wrap ((j : Int) + 1 - 1) = (j : Int) := by rw [IntKind.wrap_i64]; omega
        have hjl : decide ((j : Int) < (n : Int)) = true := by simp; omega
        have hj0 : decide ((0 : Int) < (j : Int) + 1) = true := decide_eq_true (by omega)
        refine rg_quiet rfl rfl rfl rfl ?_; intro K hK; go_big_quiet_op; go_big_quiet_on
        refine rg_quiet rfl rfl rfl rfl ?_; intro K hK; go_big_quiet_op; go_big_quiet_on
        refine rg_quiet rfl rfl rfl rfl ?_; intro K hK; go_big_quiet_op; go_big_quiet_on
        refine rg_quiet rfl rfl rfl rfl ?_; intro K hK; go_big_quiet_op; go_big_quiet_on
        refine rg_quiet rfl rfl rfl rfl ?_; intro K hK; go_big_quiet_op; go_big_quiet_on
        refine rg_quiet rfl rfl rfl rfl ?_; intro K hK; go_big_quiet_op; go_big_quiet_on
        refine rg_quiet rfl rfl rfl rfl ?_; intro K hK; go_big_quiet_op; go_big_quiet_on
        refine rg_quiet rfl rfl rfl rfl ?_; intro K hK; go_big_quiet_op; go_big_quiet_on
        refine rg_quiet rfl rfl rfl rfl ?_; intro K hK; go_big_quiet_op; go_big_quiet_on
        refine rg_quiet rfl rfl rfl rfl ?_; intro K hK; go_big_quiet_op; go_big_quiet_on
        refine rg_quiet rfl rfl rfl rfl ?_; intro K hK; go_big_quiet_op; go_big_quiet_on
        refine rg_quiet rfl rfl rfl rfl ?_; intro K hK; go_big_quiet_op; go_big_quiet_on
        refine rg_quiet rfl rfl rfl rfl ?_; intro K hK; go_big_quiet_op; go_big_quiet_on
        refine rg_quiet rfl rfl rfl rfl ?_; intro K hK; go_big_quiet_op; go_big_quiet_on
        refine rg_quiet rfl rfl rfl rfl ?_; intro K hK; go_big_quiet_op; go_big_quiet_on
        refine rg_quiet rfl rfl rfl rfl ?_; intro K hK; go_big_quiet_op; go_big_quiet_on
        refine rg_quiet rfl rfl rfl rfl ?_; intro K hK; go_big_quiet_op; go_big_quiet_on
        refine rel_nil fun w6 hE6 _ => ?_
        obtain ⟨b6, hE7⟩ := FIN.out w6 hE6
        clear x0 x1 x2 x3 x4 x5 x6 x7 y2 FIN hE6 hE hcu hp eo
        go_wp2_with fail
        go_roundw
        case rel => exact ⟨j + 1 + 1, by omega, by go_num, b6, hE7⟩
        case measure => simp [intOf] <;> omega
    · go_wp2_with fail
      go_ret
      exact ⟨rfl, hE1⟩
theorem pcheck_bare (pk : ByteArray) (pg : Int) (pu : Value) (ps : List (Ro × Value)) (w : World) (hin : RowsIn w pu ps) (hk : pk.size ≤ 100) (hg0 : 0 ≤ pg) (hg1 : pg ≤ 1099511627776) (hl : ps.length ≤ 100)
    (hrow : ∀ p ∈ ps, headB p.1 = true ∧ p.1.cols = []) (hrise : ∀ j (h : j + 1 < ps.length), Op.bytesLess (ps[j].1.key.toList) (ps[j + 1].1.key.toList) = true) :
    Calls Tryd.prog 38 #[.agg #[.string pk, .int .i64 pg, pu]] w fun e w' => e = .returned (.bool true) ∧ Ext w w' :=
  pcheck_good pk pg pu ps w hin hk hg0 hg1 hl (fun p hp => ⟨(hrow p hp).1, by rw [(hrow p hp).2]; exact ⟨rfl, nofun⟩⟩) hrise
end Go.Proofs.YtkiodandnjbhoaaDoor
