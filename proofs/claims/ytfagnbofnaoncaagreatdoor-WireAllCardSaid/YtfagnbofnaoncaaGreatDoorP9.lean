/- row.Check: the columns. -/
import Derived.Test.YtfagnbofnaoncaaGreatDoorP8
import Derived.Test.YtfagnbofnaoncaaGreatDoorP4
import Derived.Test.YtfagnbofnaoncaaGreatDoorP7
import Derived.Test.YtfagnbofnaoncaaGreatDoorP5
set_option linter.unusedSimpArgs false
set_option linter.unusedVariables false
namespace Go.Proofs.YtfagnbofnaoncaaGreatDoor
open Go Go.RowKit
attribute [local go_sem] yields yUpon

theorem headB_parts {r : Ro} (h : headB r = true) : decide (400 < (r.key.size : Int)) = false ∧ checkC r.live.val r.live.dead r.live.at_ r.live.fin = true ∧ (r.live.val.toList == []) = true ∧ r.live.dead = false ∧ stampB r.gone = true ∧ stampB r.shade = true ∧ decide (8 < (r.cols.length : Int)) = false := by
  unfold headB at h
  simp only [Bool.and_eq_true, Bool.not_eq_true'] at h
  obtain ⟨⟨⟨⟨⟨⟨a, b⟩, c⟩, d⟩, e⟩, f⟩, g⟩ := h
  exact ⟨a, b, c, d, e, f, g⟩
theorem colsB_cons (p : Option ByteArray) (M : Co) (R : List Co) : colsB p (M :: R) = (lowB M.name && ordB p M.name && checkC M.cell.val M.cell.dead M.cell.at_ M.cell.fin && decide (0 < M.cell.at_) && colsB (some M.name) R) := rfl
theorem prevN_succ {l : List Co} {k : Nat} {M : Co} {R : List Co} (hd : l.drop k = M :: R) : prevN l (k + 1) = some M.name := by
  have hk : k < l.length := by
    rcases Nat.lt_or_ge k l.length with h | h
    · exact h
    · rw [List.drop_eq_nil_of_le h] at hd; cases hd
  have e : l[k] = M := by rw [List.drop_eq_getElem_cons hk] at hd; exact (List.cons.inj hd).1
  simp [prevN, hk, e]

set_option maxRecDepth 100000 in
set_option maxHeartbeats 8000000 in
theorem rcheck_good (r : Ro) (v : Value) (w : World) (hin : ColsIn w v r.cols) (hb : headB r = true) (hlow : ∀ k (h : k < r.cols.length), Low (r.cols[k]'h).name) :
    Calls Tryz.prog 99 #[(.agg #[.string r.key, .string r.live.val, .bool r.live.dead, .int .i64 r.live.at_, .int .i64 r.live.fin, .int .i64 r.gone, .int .i64 r.shade, v])] w fun e w' => e = .returned (.bool (colsB none r.cols)) ∧ Ext w w' := by
  obtain ⟨a, c, rfl, hc, hcm, hcell⟩ := hin.get
  obtain ⟨c1, c2, c3, c4, c5, c6, c7⟩ := headB_parts hb
  clear hin hb
  obtain ⟨key, ⟨val, dead, at_, fin⟩, gone, shade, l⟩ := r
  dsimp only at hcell hc c1 c2 c3 c4 c5 c6 c7 hlow ⊢
  subst c4
  have HC := Lib.hid hcell
  have HLow := Lib.hid hlow
  clear hcell hlow
  have b0 : BoxAt (w.alloc (.cells (ro8 ⟨key, ⟨val, false, at_, fin⟩, gone, shade, l⟩ (.slice a l.length c)) 58)) w.heap.size (ro8 ⟨key, ⟨val, false, at_, fin⟩, gone, shade, l⟩ (.slice a l.length c)) 58 := BoxAt.made w _ _
  have hE0 : Ext w (w.alloc (.cells (ro8 ⟨key, ⟨val, false, at_, fin⟩, gone, shade, l⟩ (.slice a l.length c)) 58)) := (Ext.refl w).alloc _
  go_enter Tryz.func99, Tryz.ntmps99
  go_wp2_with (first
    | (go_at_call 138; go_must (refine (check_any _ _ _ _ _).mono ?_; rw [c2]; rintro e w1 ⟨rfl, hE1⟩; replace hE0 := hE0.trans hE1; replace b0 := b0.ext hE1; obtain ⟨y0, y1, y2, y3, y4, y5, y6, y7⟩ := b0.ro))
    | (go_at_call 139; go_must (refine (rstamp_any _ _).mono ?_); (first | rw [c5] | rw [c6]); rintro e w2 ⟨rfl, rfl⟩))
  clear y0 y1 y2 y3 y4 y5 y6 y7 c1 c2 c3 c5 c6 c7
  obtain ⟨wz, rfl⟩ : ∃ w', w' = w1 := ⟨_, rfl⟩
  go_loopw [47] (fun i wr => ∃ k : Nat, k ≤ l.length ∧ i = .int .i64 k ∧ BoxAt wr w.heap.size (ro8 ⟨key, ⟨val, false, at_, fin⟩, gone, shade, l⟩ (.slice a l.length c)) 58 ∧ Ext w wr ∧ Hid (colsB none l = colsB (prevN l k) (l.drop k))) (fun i _ => l.length - (intOf i).toNat)
  case atStart => exact ⟨0, Nat.zero_le _, rfl, b0, hE0, rfl⟩
  case round =>
    clear b0 hE0
    obtain ⟨k, hk, rfl, hbox, hE, HX⟩ := hrel
    by_cases hlt : k < l.length
    · obtain ⟨b, o, rfl, hco⟩ := HC.out k hlt
      obtain ⟨M, hM⟩ : ∃ M, M = l[k] := ⟨_, rfl⟩
      have hML := HLow.out k hlt
      rw [← hM] at hco hML
      have hD : l.drop k = M :: l.drop (k + 1) := by rw [hM]; exact List.drop_eq_getElem_cons hlt
      clear hM
      have HN := Lib.hid (prevN_succ hD)
      have HD := Lib.hid (HX.out.trans ((congrArg (colsB (prevN l k)) hD).trans (colsB_cons _ _ _)))
      have HML := Lib.hid hML
      clear hD HX hML
      replace hco := hco.ext hE
      obtain ⟨g0, g1, g2, g3, g4⟩ := hco
      have y7 := hbox.allocs
      go_wp2_with fail
      refine wp_region_in 32 [(2, fun v _ => v = .bool (lowB M.name)), (23, fun v _ => v = .bool (checkC M.cell.val M.cell.dead M.cell.at_ M.cell.fin))] (fun w0 => BoxAt w0 wr.heap.size (co5 M) 111 ∧ BoxAt w0 w.heap.size (ro8 ⟨key, ⟨val, false, at_, fin⟩, gone, shade, l⟩ (.slice (some ⟨b, o, none⟩) l.length c)) 58 ∧ Ext w w0) (by kernel_rfl) (by kernel_rfl) (by kernel_rfl) ⟨stays_eq _, stays_eq _, trivial⟩ ?_ ?_
      · exact ⟨BoxAt.made _ _ _, hbox.ext ((Ext.refl _).alloc _), hE.alloc _⟩
      clear hbox hE g0 g1 g2 g3 g4 y7
      rintro w2 ⟨b2, b0, hE⟩
      have FIN : Hid (∀ wx, Ext w2 wx → BoxAt wx w.heap.size (ro8 ⟨key, ⟨val, false, at_, fin⟩, gone, shade, l⟩ (.slice (some ⟨b, o, none⟩) l.length c)) 58 ∧ Ext w wx) := fun wx h => ⟨b0.ext h, hE.trans h⟩
      obtain ⟨x0, x1, x2, x3, x4⟩ := b2.co
      obtain ⟨_, _, _, _, _, _, _, y7⟩ := b0.ro
      clear b2 b0
      replace x0 := held x0
      replace x1 := held x1
      replace x2 := held x2
      replace x3 := held x3
      replace x4 := held x4
      replace y7 := held y7
      cases e0 : lowB M.name
      · have HQ : Hid (colsB none l = false) := by show colsB none l = false; rw [HD.out, e0]; simp
        refine rg_quiet rfl rfl rfl rfl ?_; intro K hK; go_big_quiet_op; go_big_quiet_on
        refine rg_quiet rfl rfl rfl rfl ?_; intro K hK; go_big_quiet_op; go_big_quiet_on
        refine rg_val [] rfl rfl rfl (by kernel_rfl) (fun w1 hE hf => ?_) ?_
        · go_simp
          exact (name_lowB _ HML.out w1).mono fun e w' ⟨he, hw⟩ => ⟨_, he, rg_done hE hw (bool_congr e0)⟩
        simp only [Act.put, List.setIfInBounds_toArray, List.set_cons_zero, List.set_cons_succ]
        refine rg_quiet rfl rfl rfl rfl ?_; intro K hK; go_big_quiet_op; go_big_quiet_on
        refine rg_quiet rfl rfl rfl rfl ?_; intro K hK; go_big_quiet_op; go_big_quiet_on
        refine rel_skip rfl rfl ?_
        simp only [Act.put, List.setIfInBounds_toArray, List.set_cons_zero, List.set_cons_succ]
        refine rel_skip rfl rfl ?_
        simp only [Act.put, List.setIfInBounds_toArray, List.set_cons_zero, List.set_cons_succ]
        refine rel_skip rfl rfl ?_
        simp only [Act.put, List.setIfInBounds_toArray, List.set_cons_zero, List.set_cons_succ]
        refine rel_skip rfl rfl ?_
        simp only [Act.put, List.setIfInBounds_toArray, List.set_cons_zero, List.set_cons_succ]
        refine rel_skip rfl rfl ?_
        simp only [Act.put, List.setIfInBounds_toArray, List.set_cons_zero, List.set_cons_succ]
        refine rel_skip rfl rfl ?_
        simp only [Act.put, List.setIfInBounds_toArray, List.set_cons_zero, List.set_cons_succ]
        refine rel_skip rfl rfl ?_
        simp only [Act.put, List.setIfInBounds_toArray, List.set_cons_zero, List.set_cons_succ]
        refine rel_skip rfl rfl ?_
        simp only [Act.put, List.setIfInBounds_toArray, List.set_cons_zero, List.set_cons_succ]
        refine rel_skip rfl rfl ?_
        simp only [Act.put, List.setIfInBounds_toArray, List.set_cons_zero, List.set_cons_succ]
        refine rel_skip rfl rfl ?_
        simp only [Act.put, List.setIfInBounds_toArray, List.set_cons_zero, List.set_cons_succ]
        refine rel_skip rfl rfl ?_
        simp only [Act.put, List.setIfInBounds_toArray, List.set_cons_zero, List.set_cons_succ]
        refine rel_skip rfl rfl ?_
        simp only [Act.put, List.setIfInBounds_toArray, List.set_cons_zero, List.set_cons_succ]
        refine rel_skip rfl rfl ?_
        simp only [Act.put, List.setIfInBounds_toArray, List.set_cons_zero, List.set_cons_succ]
        refine rel_skip rfl rfl ?_
        simp only [Act.put, List.setIfInBounds_toArray, List.set_cons_zero, List.set_cons_succ]
        refine rg_quiet rfl rfl rfl rfl ?_; intro K hK; go_big_quiet_op; go_big_quiet_on
        refine rg_quiet rfl rfl rfl rfl ?_; intro K hK; go_big_quiet_op; go_big_quiet_on
        refine rel_skip rfl rfl ?_
        simp only [Act.put, List.setIfInBounds_toArray, List.set_cons_zero, List.set_cons_succ]
        refine rel_skip rfl rfl ?_
        simp only [Act.put, List.setIfInBounds_toArray, List.set_cons_zero, List.set_cons_succ]
        refine rel_skip rfl rfl ?_
        simp only [Act.put, List.setIfInBounds_toArray, List.set_cons_zero, List.set_cons_succ]
        refine rel_skip rfl rfl ?_
        simp only [Act.put, List.setIfInBounds_toArray, List.set_cons_zero, List.set_cons_succ]
        refine rg_quiet rfl rfl rfl rfl ?_; intro K hK; go_big_quiet_op; go_big_quiet_on
        refine rg_quiet rfl rfl rfl rfl ?_; intro K hK; go_big_quiet_op; go_big_quiet_on
        refine rel_skip rfl rfl ?_
        simp only [Act.put, List.setIfInBounds_toArray, List.set_cons_zero, List.set_cons_succ]
        refine rel_skip rfl rfl ?_
        simp only [Act.put, List.setIfInBounds_toArray, List.set_cons_zero, List.set_cons_succ]
        refine rel_skip rfl rfl ?_
        simp only [Act.put, List.setIfInBounds_toArray, List.set_cons_zero, List.set_cons_succ]
        refine rel_skip rfl rfl ?_
        simp only [Act.put, List.setIfInBounds_toArray, List.set_cons_zero, List.set_cons_succ]
        refine rg_quiet rfl rfl rfl rfl ?_; intro K hK; go_big_quiet_op; go_big_quiet_on
        refine rel_nil fun w5 hE5 _ => ?_
        obtain ⟨b0, hE⟩ := FIN.out w5 hE5
        clear x0 x1 x2 x3 x4 y7 hE5 FIN e0
        go_wp2_with fail
        go_ret
        exact ⟨ret_bool HQ.out.symm, hE⟩
      · cases k with
        | zero =>
          have ho : Hid (ordB (prevN l 0) M.name = true) := rfl
          refine rg_quiet rfl rfl rfl rfl ?_; intro K hK; go_big_quiet_op; go_big_quiet_on
          refine rg_quiet rfl rfl rfl rfl ?_; intro K hK; go_big_quiet_op; go_big_quiet_on
          refine rg_val [] rfl rfl rfl (by kernel_rfl) (fun w1 hE hf => ?_) ?_
          · go_simp
            exact (name_lowB _ HML.out w1).mono fun e w' ⟨he, hw⟩ => ⟨_, he, rg_done hE hw (bool_congr e0)⟩
          simp only [Act.put, List.setIfInBounds_toArray, List.set_cons_zero, List.set_cons_succ]
          refine rg_quiet rfl rfl rfl rfl ?_; intro K hK; go_big_quiet_op; go_big_quiet_on
          refine rg_quiet rfl rfl rfl rfl ?_; intro K hK; go_big_quiet_op; go_big_quiet_on
          refine rg_quiet rfl rfl rfl rfl ?_; intro K hK; go_big_quiet_op; go_big_quiet_on
          refine rg_quiet rfl rfl rfl rfl ?_; intro K hK; go_big_quiet_op; go_big_quiet_on
          refine rg_quiet rfl rfl rfl rfl ?_; intro K hK; go_big_quiet_op; go_big_quiet_on
          refine rel_skip rfl rfl ?_
          simp only [Act.put, List.setIfInBounds_toArray, List.set_cons_zero, List.set_cons_succ]
          refine rel_skip rfl rfl ?_
          simp only [Act.put, List.setIfInBounds_toArray, List.set_cons_zero, List.set_cons_succ]
          refine rel_skip rfl rfl ?_
          simp only [Act.put, List.setIfInBounds_toArray, List.set_cons_zero, List.set_cons_succ]
          refine rel_skip rfl rfl ?_
          simp only [Act.put, List.setIfInBounds_toArray, List.set_cons_zero, List.set_cons_succ]
          refine rel_skip rfl rfl ?_
          simp only [Act.put, List.setIfInBounds_toArray, List.set_cons_zero, List.set_cons_succ]
          refine rel_skip rfl rfl ?_
          simp only [Act.put, List.setIfInBounds_toArray, List.set_cons_zero, List.set_cons_succ]
          refine rel_skip rfl rfl ?_
          simp only [Act.put, List.setIfInBounds_toArray, List.set_cons_zero, List.set_cons_succ]
          refine rel_skip rfl rfl ?_
          simp only [Act.put, List.setIfInBounds_toArray, List.set_cons_zero, List.set_cons_succ]
          refine rel_skip rfl rfl ?_
          simp only [Act.put, List.setIfInBounds_toArray, List.set_cons_zero, List.set_cons_succ]
          refine rel_skip rfl rfl ?_
          simp only [Act.put, List.setIfInBounds_toArray, List.set_cons_zero, List.set_cons_succ]
          refine rg_quiet rfl rfl rfl rfl ?_; intro K hK; go_big_quiet_op; go_big_quiet_on
          refine rg_quiet rfl rfl rfl rfl ?_; intro K hK; go_big_quiet_op; go_big_quiet_on
          refine rg_quiet rfl rfl rfl rfl ?_; intro K hK; go_big_quiet_op; go_big_quiet_on
          cases e2 : checkC M.cell.val M.cell.dead M.cell.at_ M.cell.fin
          · have HQ : Hid (colsB none l = false) := by show colsB none l = false; rw [HD.out, e0, ho.out, e2]; simp
            refine rg_quiet rfl rfl rfl rfl ?_; intro K hK; go_big_quiet_op; go_big_quiet_on
            refine rg_quiet rfl rfl rfl rfl ?_; intro K hK; go_big_quiet_op; go_big_quiet_on
            refine rg_val [] rfl rfl rfl (by kernel_rfl) (fun w1 hE hf => ?_) ?_
            · go_simp
              exact (check_any _ _ _ _ w1).mono fun e w' ⟨he, hw⟩ => ⟨_, he, rg_done hE hw (bool_congr e2)⟩
            simp only [Act.put, List.setIfInBounds_toArray, List.set_cons_zero, List.set_cons_succ]
            refine rg_quiet rfl rfl rfl rfl ?_; intro K hK; go_big_quiet_op; go_big_quiet_on
            refine rg_quiet rfl rfl rfl rfl ?_; intro K hK; go_big_quiet_op; go_big_quiet_on
            refine rg_quiet rfl rfl rfl rfl ?_; intro K hK; go_big_quiet_op; go_big_quiet_on
            refine rel_skip rfl rfl ?_
            simp only [Act.put, List.setIfInBounds_toArray, List.set_cons_zero, List.set_cons_succ]
            refine rel_skip rfl rfl ?_
            simp only [Act.put, List.setIfInBounds_toArray, List.set_cons_zero, List.set_cons_succ]
            refine rel_skip rfl rfl ?_
            simp only [Act.put, List.setIfInBounds_toArray, List.set_cons_zero, List.set_cons_succ]
            refine rel_skip rfl rfl ?_
            simp only [Act.put, List.setIfInBounds_toArray, List.set_cons_zero, List.set_cons_succ]
            refine rg_quiet rfl rfl rfl rfl ?_; intro K hK; go_big_quiet_op; go_big_quiet_on
            refine rel_nil fun w5 hE5 _ => ?_
            obtain ⟨b0, hE⟩ := FIN.out w5 hE5
            clear x0 x1 x2 x3 x4 y7 hE5 FIN e0 e2 
            go_wp2_with fail
            go_ret
            exact ⟨ret_bool HQ.out.symm, hE⟩
          · cases e3 : decide (0 < M.cell.at_)
            · have e4 : decide (M.cell.at_ ≤ 0) = true := by simp at e3 ⊢ <;> omega
              have HQ : Hid (colsB none l = false) := by show colsB none l = false; rw [HD.out, e0, ho.out, e2, e3]; simp
              refine rg_quiet rfl rfl rfl rfl ?_; intro K hK; go_big_quiet_op; go_big_quiet_on
              refine rg_quiet rfl rfl rfl rfl ?_; intro K hK; go_big_quiet_op; go_big_quiet_on
              refine rg_val [] rfl rfl rfl (by kernel_rfl) (fun w1 hE hf => ?_) ?_
              · go_simp
                exact (check_any _ _ _ _ w1).mono fun e w' ⟨he, hw⟩ => ⟨_, he, rg_done hE hw (bool_congr e2)⟩
              simp only [Act.put, List.setIfInBounds_toArray, List.set_cons_zero, List.set_cons_succ]
              refine rg_quiet rfl rfl rfl rfl ?_; intro K hK; go_big_quiet_op; go_big_quiet_on
              refine rg_quiet rfl rfl rfl rfl ?_; intro K hK; go_big_quiet_op; go_big_quiet_on
              refine rg_quiet rfl rfl rfl rfl ?_; intro K hK; go_big_quiet_op; go_big_quiet_on
              refine rg_quiet rfl rfl rfl rfl ?_; intro K hK; go_big_quiet_op; go_big_quiet_on
              refine rg_quiet rfl rfl rfl rfl ?_; intro K hK; go_big_quiet_op; go_big_quiet_on
              refine rg_quiet rfl rfl rfl rfl ?_; intro K hK; go_big_quiet_op; go_big_quiet_on
              refine rg_quiet rfl rfl rfl rfl ?_; intro K hK; go_big_quiet_op; go_big_quiet_on
              refine rg_quiet rfl rfl rfl rfl ?_; intro K hK; go_big_quiet_op; go_big_quiet_on
              refine rel_nil fun w5 hE5 _ => ?_
              obtain ⟨b0, hE⟩ := FIN.out w5 hE5
              clear x0 x1 x2 x3 x4 y7 hE5 FIN e0 e2 e3 
              go_wp2_with fail
              go_ret
              exact ⟨ret_bool HQ.out.symm, hE⟩
            · have e4 : decide (M.cell.at_ ≤ 0) = false := by simp at e3 ⊢ <;> omega
              have HQ : Hid (colsB none l = colsB (prevN l (0 + 1)) (l.drop (0 + 1))) := by show colsB none l = _; rw [HD.out, e0, ho.out, e2, e3, HN.out]; rfl
              refine rg_quiet rfl rfl rfl rfl ?_; intro K hK; go_big_quiet_op; go_big_quiet_on
              refine rg_quiet rfl rfl rfl rfl ?_; intro K hK; go_big_quiet_op; go_big_quiet_on
              refine rg_val [] rfl rfl rfl (by kernel_rfl) (fun w1 hE hf => ?_) ?_
              · go_simp
                exact (check_any _ _ _ _ w1).mono fun e w' ⟨he, hw⟩ => ⟨_, he, rg_done hE hw (bool_congr e2)⟩
              simp only [Act.put, List.setIfInBounds_toArray, List.set_cons_zero, List.set_cons_succ]
              refine rg_quiet rfl rfl rfl rfl ?_; intro K hK; go_big_quiet_op; go_big_quiet_on
              refine rg_quiet rfl rfl rfl rfl ?_; intro K hK; go_big_quiet_op; go_big_quiet_on
              refine rg_quiet rfl rfl rfl rfl ?_; intro K hK; go_big_quiet_op; go_big_quiet_on
              refine rg_quiet rfl rfl rfl rfl ?_; intro K hK; go_big_quiet_op; go_big_quiet_on
              refine rg_quiet rfl rfl rfl rfl ?_; intro K hK; go_big_quiet_op; go_big_quiet_on
              refine rg_quiet rfl rfl rfl rfl ?_; intro K hK; go_big_quiet_op; go_big_quiet_on
              refine rg_quiet rfl rfl rfl rfl ?_; intro K hK; go_big_quiet_op; go_big_quiet_on
              refine rg_quiet rfl rfl rfl rfl ?_; intro K hK; go_big_quiet_op; go_big_quiet_on
              refine rel_nil fun w5 hE5 _ => ?_
              obtain ⟨b0, hE⟩ := FIN.out w5 hE5
              clear x0 x1 x2 x3 x4 y7 hE5 FIN e0 e2 e3 
              go_wp2_with fail
              go_roundw
              case rel => exact ⟨0 + 1, by omega, by go_num, b0, hE, HQ.out⟩
              case measure => simp [intOf] <;> omega
        | succ j =>
          have hj : j < l.length := by omega
          obtain ⟨b', o', e', hp⟩ := HC.out j hj
          cases e'
          replace hp := held (hE.cell hp.c0)
          obtain ⟨Pn, hPn⟩ : ∃ Pn, Pn = l[j].name := ⟨_, rfl⟩
          rw [← hPn] at hp
          have HO : Hid (ordB (prevN l (j + 1)) M.name = Op.bytesLess Pn.toList M.name.toList) := by show ordB (prevN l (j + 1)) M.name = _; simp [prevN, hj, ordB, hPn]
          clear hPn
          have hw : IntKind.i64.wrap ((j : Int) + 1 - 1) = (j : Int) := by rw [IntKind.wrap_i64]; omega
          have hjl : decide ((j : Int) < (l.length : Int)) = true := by simpa using hj
          have hj0 : decide ((0 : Int) < (j : Int) + 1) = true := decide_eq_true (by omega)
          cases eo : Op.bytesLess Pn.toList M.name.toList
          · have ho : Hid (ordB (prevN l (j + 1)) M.name = false) := HO.out.trans eo
            have HQ : Hid (colsB none l = false) := by show colsB none l = false; rw [HD.out, e0, ho.out]; simp
            refine rg_quiet rfl rfl rfl rfl ?_; intro K hK; go_big_quiet_op; go_big_quiet_on
            refine rg_quiet rfl rfl rfl rfl ?_; intro K hK; go_big_quiet_op; go_big_quiet_on
            refine rg_val [] rfl rfl rfl (by kernel_rfl) (fun w1 hE hf => ?_) ?_
            · go_simp
              exact (name_lowB _ HML.out w1).mono fun e w' ⟨he, hw⟩ => ⟨_, he, rg_done hE hw (bool_congr e0)⟩
            simp only [Act.put, List.setIfInBounds_toArray, List.set_cons_zero, List.set_cons_succ]
            refine rg_quiet rfl rfl rfl rfl ?_; intro K hK; go_big_quiet_op; go_big_quiet_on
            refine rg_quiet rfl rfl rfl rfl ?_; intro K hK; go_big_quiet_op; go_big_quiet_on
            refine rg_quiet rfl rfl rfl rfl ?_; intro K hK; go_big_quiet_op; go_big_quiet_on
            refine rg_quiet rfl rfl rfl rfl ?_; intro K hK; go_big_quiet_op; go_big_quiet_on
            refine rg_quiet rfl rfl rfl rfl ?_; intro K hK; go_big_quiet_op; go_big_quiet_on
            refine rg_quiet rfl rfl rfl rfl ?_; intro K hK; go_big_quiet_op; go_big_quiet_on
            refine rg_quiet rfl rfl rfl rfl ?_; intro K hK; go_big_quiet_op; go_big_quiet_on
            refine rg_quiet rfl rfl rfl rfl ?_; intro K hK; go_big_quiet_op; go_big_quiet_on
            refine rg_quiet rfl rfl rfl rfl ?_; intro K hK; go_big_quiet_op; go_big_quiet_on
            refine rg_quiet rfl rfl rfl rfl ?_; intro K hK; go_big_quiet_op; go_big_quiet_on
            refine rg_quiet rfl rfl rfl rfl ?_; intro K hK; go_big_quiet_op; go_big_quiet_on
            refine rg_quiet rfl rfl rfl rfl ?_; intro K hK; go_big_quiet_op; go_big_quiet_on
            refine rg_quiet rfl rfl rfl rfl ?_; intro K hK; go_big_quiet_op; go_big_quiet_on
            refine rg_quiet rfl rfl rfl rfl ?_; intro K hK; go_big_quiet_op; go_big_quiet_on
            refine rg_quiet rfl rfl rfl rfl ?_; intro K hK; go_big_quiet_op; go_big_quiet_on
            refine rg_quiet rfl rfl rfl rfl ?_; intro K hK; go_big_quiet_op; go_big_quiet_on
            refine rg_quiet rfl rfl rfl rfl ?_; intro K hK; go_big_quiet_op; go_big_quiet_on
            refine rg_quiet rfl rfl rfl rfl ?_; intro K hK; go_big_quiet_op; go_big_quiet_on
            refine rel_skip rfl rfl ?_
            simp only [Act.put, List.setIfInBounds_toArray, List.set_cons_zero, List.set_cons_succ]
            refine rel_skip rfl rfl ?_
            simp only [Act.put, List.setIfInBounds_toArray, List.set_cons_zero, List.set_cons_succ]
            refine rel_skip rfl rfl ?_
            simp only [Act.put, List.setIfInBounds_toArray, List.set_cons_zero, List.set_cons_succ]
            refine rel_skip rfl rfl ?_
            simp only [Act.put, List.setIfInBounds_toArray, List.set_cons_zero, List.set_cons_succ]
            refine rg_quiet rfl rfl rfl rfl ?_; intro K hK; go_big_quiet_op; go_big_quiet_on
            refine rg_quiet rfl rfl rfl rfl ?_; intro K hK; go_big_quiet_op; go_big_quiet_on
            refine rel_skip rfl rfl ?_
            simp only [Act.put, List.setIfInBounds_toArray, List.set_cons_zero, List.set_cons_succ]
            refine rel_skip rfl rfl ?_
            simp only [Act.put, List.setIfInBounds_toArray, List.set_cons_zero, List.set_cons_succ]
            refine rel_skip rfl rfl ?_
            simp only [Act.put, List.setIfInBounds_toArray, List.set_cons_zero, List.set_cons_succ]
            refine rel_skip rfl rfl ?_
            simp only [Act.put, List.setIfInBounds_toArray, List.set_cons_zero, List.set_cons_succ]
            refine rg_quiet rfl rfl rfl rfl ?_; intro K hK; go_big_quiet_op; go_big_quiet_on
            refine rel_nil fun w5 hE5 _ => ?_
            obtain ⟨b0, hE⟩ := FIN.out w5 hE5
            clear x0 x1 x2 x3 x4 y7 hE5 FIN e0 eo hp
            go_wp2_with fail
            go_ret
            exact ⟨ret_bool HQ.out.symm, hE⟩
          · have ho : Hid (ordB (prevN l (j + 1)) M.name = true) := HO.out.trans eo
            refine rg_quiet rfl rfl rfl rfl ?_; intro K hK; go_big_quiet_op; go_big_quiet_on
            refine rg_quiet rfl rfl rfl rfl ?_; intro K hK; go_big_quiet_op; go_big_quiet_on
            refine rg_val [] rfl rfl rfl (by kernel_rfl) (fun w1 hE hf => ?_) ?_
            · go_simp
              exact (name_lowB _ HML.out w1).mono fun e w' ⟨he, hw⟩ => ⟨_, he, rg_done hE hw (bool_congr e0)⟩
            simp only [Act.put, List.setIfInBounds_toArray, List.set_cons_zero, List.set_cons_succ]
            refine rg_quiet rfl rfl rfl rfl ?_; intro K hK; go_big_quiet_op; go_big_quiet_on
            refine rg_quiet rfl rfl rfl rfl ?_; intro K hK; go_big_quiet_op; go_big_quiet_on
            refine rg_quiet rfl rfl rfl rfl ?_; intro K hK; go_big_quiet_op; go_big_quiet_on
            refine rg_quiet rfl rfl rfl rfl ?_; intro K hK; go_big_quiet_op; go_big_quiet_on
            refine rg_quiet rfl rfl rfl rfl ?_; intro K hK; go_big_quiet_op; go_big_quiet_on
            refine rg_quiet rfl rfl rfl rfl ?_; intro K hK; go_big_quiet_op; go_big_quiet_on
            refine rg_quiet rfl rfl rfl rfl ?_; intro K hK; go_big_quiet_op; go_big_quiet_on
            refine rg_quiet rfl rfl rfl rfl ?_; intro K hK; go_big_quiet_op; go_big_quiet_on
            refine rg_quiet rfl rfl rfl rfl ?_; intro K hK; go_big_quiet_op; go_big_quiet_on
            refine rg_quiet rfl rfl rfl rfl ?_; intro K hK; go_big_quiet_op; go_big_quiet_on
            refine rg_quiet rfl rfl rfl rfl ?_; intro K hK; go_big_quiet_op; go_big_quiet_on
            refine rg_quiet rfl rfl rfl rfl ?_; intro K hK; go_big_quiet_op; go_big_quiet_on
            refine rg_quiet rfl rfl rfl rfl ?_; intro K hK; go_big_quiet_op; go_big_quiet_on
            refine rg_quiet rfl rfl rfl rfl ?_; intro K hK; go_big_quiet_op; go_big_quiet_on
            refine rg_quiet rfl rfl rfl rfl ?_; intro K hK; go_big_quiet_op; go_big_quiet_on
            refine rg_quiet rfl rfl rfl rfl ?_; intro K hK; go_big_quiet_op; go_big_quiet_on
            refine rg_quiet rfl rfl rfl rfl ?_; intro K hK; go_big_quiet_op; go_big_quiet_on
            refine rg_quiet rfl rfl rfl rfl ?_; intro K hK; go_big_quiet_op; go_big_quiet_on
            cases e2 : checkC M.cell.val M.cell.dead M.cell.at_ M.cell.fin
            · have HQ : Hid (colsB none l = false) := by show colsB none l = false; rw [HD.out, e0, ho.out, e2]; simp
              refine rg_quiet rfl rfl rfl rfl ?_; intro K hK; go_big_quiet_op; go_big_quiet_on
              refine rg_quiet rfl rfl rfl rfl ?_; intro K hK; go_big_quiet_op; go_big_quiet_on
              refine rg_val [] rfl rfl rfl (by kernel_rfl) (fun w1 hE hf => ?_) ?_
              · go_simp
                exact (check_any _ _ _ _ w1).mono fun e w' ⟨he, hw⟩ => ⟨_, he, rg_done hE hw (bool_congr e2)⟩
              simp only [Act.put, List.setIfInBounds_toArray, List.set_cons_zero, List.set_cons_succ]
              refine rg_quiet rfl rfl rfl rfl ?_; intro K hK; go_big_quiet_op; go_big_quiet_on
              refine rg_quiet rfl rfl rfl rfl ?_; intro K hK; go_big_quiet_op; go_big_quiet_on
              refine rg_quiet rfl rfl rfl rfl ?_; intro K hK; go_big_quiet_op; go_big_quiet_on
              refine rel_skip rfl rfl ?_
              simp only [Act.put, List.setIfInBounds_toArray, List.set_cons_zero, List.set_cons_succ]
              refine rel_skip rfl rfl ?_
              simp only [Act.put, List.setIfInBounds_toArray, List.set_cons_zero, List.set_cons_succ]
              refine rel_skip rfl rfl ?_
              simp only [Act.put, List.setIfInBounds_toArray, List.set_cons_zero, List.set_cons_succ]
              refine rel_skip rfl rfl ?_
              simp only [Act.put, List.setIfInBounds_toArray, List.set_cons_zero, List.set_cons_succ]
              refine rg_quiet rfl rfl rfl rfl ?_; intro K hK; go_big_quiet_op; go_big_quiet_on
              refine rel_nil fun w5 hE5 _ => ?_
              obtain ⟨b0, hE⟩ := FIN.out w5 hE5
              clear x0 x1 x2 x3 x4 y7 hE5 FIN e0 e2 eo hp
              go_wp2_with fail
              go_ret
              exact ⟨ret_bool HQ.out.symm, hE⟩
            · cases e3 : decide (0 < M.cell.at_)
              · have e4 : decide (M.cell.at_ ≤ 0) = true := by simp at e3 ⊢ <;> omega
                have HQ : Hid (colsB none l = false) := by show colsB none l = false; rw [HD.out, e0, ho.out, e2, e3]; simp
                refine rg_quiet rfl rfl rfl rfl ?_; intro K hK; go_big_quiet_op; go_big_quiet_on
                refine rg_quiet rfl rfl rfl rfl ?_; intro K hK; go_big_quiet_op; go_big_quiet_on
                refine rg_val [] rfl rfl rfl (by kernel_rfl) (fun w1 hE hf => ?_) ?_
                · go_simp
                  exact (check_any _ _ _ _ w1).mono fun e w' ⟨he, hw⟩ => ⟨_, he, rg_done hE hw (bool_congr e2)⟩
                simp only [Act.put, List.setIfInBounds_toArray, List.set_cons_zero, List.set_cons_succ]
                refine rg_quiet rfl rfl rfl rfl ?_; intro K hK; go_big_quiet_op; go_big_quiet_on
                refine rg_quiet rfl rfl rfl rfl ?_; intro K hK; go_big_quiet_op; go_big_quiet_on
                refine rg_quiet rfl rfl rfl rfl ?_; intro K hK; go_big_quiet_op; go_big_quiet_on
                refine rg_quiet rfl rfl rfl rfl ?_; intro K hK; go_big_quiet_op; go_big_quiet_on
                refine rg_quiet rfl rfl rfl rfl ?_; intro K hK; go_big_quiet_op; go_big_quiet_on
                refine rg_quiet rfl rfl rfl rfl ?_; intro K hK; go_big_quiet_op; go_big_quiet_on
                refine rg_quiet rfl rfl rfl rfl ?_; intro K hK; go_big_quiet_op; go_big_quiet_on
                refine rg_quiet rfl rfl rfl rfl ?_; intro K hK; go_big_quiet_op; go_big_quiet_on
                refine rel_nil fun w5 hE5 _ => ?_
                obtain ⟨b0, hE⟩ := FIN.out w5 hE5
                clear x0 x1 x2 x3 x4 y7 hE5 FIN e0 e2 e3 eo hp
                go_wp2_with fail
                go_ret
                exact ⟨ret_bool HQ.out.symm, hE⟩
              · have e4 : decide (M.cell.at_ ≤ 0) = false := by simp at e3 ⊢ <;> omega
                have HQ : Hid (colsB none l = colsB (prevN l ((j + 1) + 1)) (l.drop ((j + 1) + 1))) := by show colsB none l = _; rw [HD.out, e0, ho.out, e2, e3, HN.out]; rfl
                refine rg_quiet rfl rfl rfl rfl ?_; intro K hK; go_big_quiet_op; go_big_quiet_on
                refine rg_quiet rfl rfl rfl rfl ?_; intro K hK; go_big_quiet_op; go_big_quiet_on
                refine rg_val [] rfl rfl rfl (by kernel_rfl) (fun w1 hE hf => ?_) ?_
                · go_simp
                  exact (check_any _ _ _ _ w1).mono fun e w' ⟨he, hw⟩ => ⟨_, he, rg_done hE hw (bool_congr e2)⟩
                simp only [Act.put, List.setIfInBounds_toArray, List.set_cons_zero, List.set_cons_succ]
                refine rg_quiet rfl rfl rfl rfl ?_; intro K hK; go_big_quiet_op; go_big_quiet_on
                refine rg_quiet rfl rfl rfl rfl ?_; intro K hK; go_big_quiet_op; go_big_quiet_on
                refine rg_quiet rfl rfl rfl rfl ?_; intro K hK; go_big_quiet_op; go_big_quiet_on
                refine rg_quiet rfl rfl rfl rfl ?_; intro K hK; go_big_quiet_op; go_big_quiet_on
                refine rg_quiet rfl rfl rfl rfl ?_; intro K hK; go_big_quiet_op; go_big_quiet_on
                refine rg_quiet rfl rfl rfl rfl ?_; intro K hK; go_big_quiet_op; go_big_quiet_on
                refine rg_quiet rfl rfl rfl rfl ?_; intro K hK; go_big_quiet_op; go_big_quiet_on
                refine rg_quiet rfl rfl rfl rfl ?_; intro K hK; go_big_quiet_op; go_big_quiet_on
                refine rel_nil fun w5 hE5 _ => ?_
                obtain ⟨b0, hE⟩ := FIN.out w5 hE5
                clear x0 x1 x2 x3 x4 y7 hE5 FIN e0 e2 e3 eo hp
                go_wp2_with fail
                go_roundw
                case rel => exact ⟨(j + 1) + 1, by omega, by go_num, b0, hE, HQ.out⟩
                case measure => simp [intOf] <;> omega
    · obtain rfl : k = l.length := by omega
      have HQ : Hid (colsB none l = true) := by show colsB none l = true; rw [HX.out, List.drop_length]; rfl
      go_wp2_with fail
      go_ret
      exact ⟨ret_bool HQ.out.symm, hE⟩
end Go.Proofs.YtfagnbofnaoncaaGreatDoor

/- The reference's Check of cells, of rows. (what a smaller cut has) -/
namespace Go.Proofs.YtfagnbofnaoncaaGreatDoor
open Go Go.RowKit
attribute [local go_sem] yields yUpon

theorem less_leq : ∀ a b : List UInt8, (Op.bytesLess a b || a == b) = !Op.bytesLess b a
  | [], [] => rfl
  | [], b :: y => rfl
  | a :: x, [] => rfl
  | a :: x, b :: y => by
    have ih := less_leq x y
    unfold Op.bytesLess
    by_cases h : a = b
    · subst h
      simp [← ih]
    · by_cases h2 : a < b
      · have h3 : ¬ b < a := by
          rw [UInt8.lt_iff_toNat_lt] at *
          omega
        have h4 : ¬ b = a := fun e => h e.symm
        simp [h, h2, h3, h4]
      · have h3 : b < a := by
          rw [UInt8.lt_iff_toNat_lt] at *
          have h5 : a.toNat ≠ b.toNat := fun e => h (UInt8.toNat_inj.1 e)
          omega
        simp [h, h2, h3]
def orB : Option ByteArray → ByteArray → Bool
  | none, _ => true
  | some q, n => Op.bytesLess q.toList n.toList
/-- Columns that may be, behind a name. -/
def csB : Option ByteArray → List Co → Bool
  | _, [] => true
  | p, c :: l => nameB c.name && orB p c.name && checkC c.cell.val c.cell.dead c.cell.at_ c.cell.fin && decide (0 < c.cell.at_) && csB (some c.name) l
def prevM (l : List Co) : Nat → Option ByteArray
  | 0 => none
  | k + 1 => (l[k]?).map (·.name)
/-- A row's own cells may be. -/
def hdB (r : Ro) : Bool := !decide (400 < (r.key.size : Int)) && checkC r.live.val r.live.dead r.live.at_ r.live.fin && (r.live.val.toList == []) && !r.live.dead && stampB r.gone && stampB r.shade && !decide (8 < (r.cols.length : Int))
/-- A row that may be. -/
def rwB (r : Ro) : Bool := hdB r && csB none r.cols

theorem hdB_parts {r : Ro} (h : hdB r = true) : decide (400 < (r.key.size : Int)) = false ∧ checkC r.live.val r.live.dead r.live.at_ r.live.fin = true ∧ (r.live.val.toList == []) = true ∧ r.live.dead = false ∧ stampB r.gone = true ∧ stampB r.shade = true ∧ decide (8 < (r.cols.length : Int)) = false := by
  unfold hdB at h
  simp only [Bool.and_eq_true, Bool.not_eq_true'] at h
  obtain ⟨⟨⟨⟨⟨⟨a, b⟩, c⟩, d⟩, e⟩, f⟩, g⟩ := h
  exact ⟨a, b, c, d, e, f, g⟩
theorem csB_cons (p : Option ByteArray) (M : Co) (R : List Co) : csB p (M :: R) = (nameB M.name && orB p M.name && checkC M.cell.val M.cell.dead M.cell.at_ M.cell.fin && decide (0 < M.cell.at_) && csB (some M.name) R) := rfl
theorem prevM_succ {l : List Co} {k : Nat} {M : Co} {R : List Co} (hd : l.drop k = M :: R) : prevM l (k + 1) = some M.name := by
  have hk : k < l.length := by
    rcases Nat.lt_or_ge k l.length with h | h
    · exact h
    · rw [List.drop_eq_nil_of_le h] at hd; cases hd
  have e : l[k] = M := by rw [List.drop_eq_getElem_cons hk] at hd; exact (List.cons.inj hd).1
  simp [prevM, hk, e]
end Go.Proofs.YtfagnbofnaoncaaGreatDoor

/- row.Check of any row. -/
namespace Go.Proofs.YtfagnbofnaoncaaGreatDoor
open Go Go.RowKit
attribute [local go_sem] yields yUpon

set_option maxRecDepth 100000 in
set_option maxHeartbeats 8000000 in
theorem rcheck_gen0 (r : Ro) (v : Value) (w : World) (hin : ColsIn w v r.cols) (hb : headB r = true) (hlow : ∀ k (h : k < r.cols.length), (r.cols[k]'h).name.size ≤ 1000000) (hT : TabU w) :
    Calls Tryz.prog 99 #[(.agg #[.string r.key, .string r.live.val, .bool r.live.dead, .int .i64 r.live.at_, .int .i64 r.live.fin, .int .i64 r.gone, .int .i64 r.shade, v])] w fun e w' => e = .returned (.bool (csB none r.cols)) ∧ Ext w w' := by
  obtain ⟨a, c, rfl, hc, hcm, hcell⟩ := hin.get
  obtain ⟨c1, c2, c3, c4, c5, c6, c7⟩ := headB_parts hb
  clear hin hb
  obtain ⟨key, ⟨val, dead, at_, fin⟩, gone, shade, l⟩ := r
  dsimp only at hcell hc c1 c2 c3 c4 c5 c6 c7 hlow ⊢
  subst c4
  have HC := Lib.hid hcell
  have HLow := Lib.hid hlow
  clear hcell hlow
  have b0 : BoxAt (w.alloc (.cells (ro8 ⟨key, ⟨val, false, at_, fin⟩, gone, shade, l⟩ (.slice a l.length c)) 58)) w.heap.size (ro8 ⟨key, ⟨val, false, at_, fin⟩, gone, shade, l⟩ (.slice a l.length c)) 58 := BoxAt.made w _ _
  have hE0 : Ext w (w.alloc (.cells (ro8 ⟨key, ⟨val, false, at_, fin⟩, gone, shade, l⟩ (.slice a l.length c)) 58)) := (Ext.refl w).alloc _
  go_enter Tryz.func99, Tryz.ntmps99
  go_wp2_with (first
    | (go_at_call 138; go_must (refine (check_any _ _ _ _ _).mono ?_; rw [c2]; rintro e w1 ⟨rfl, hE1⟩; replace hE0 := hE0.trans hE1; replace b0 := b0.ext hE1; obtain ⟨y0, y1, y2, y3, y4, y5, y6, y7⟩ := b0.ro))
    | (go_at_call 139; go_must (refine (rstamp_any _ _).mono ?_); (first | rw [c5] | rw [c6]); rintro e w2 ⟨rfl, rfl⟩))
  clear y0 y1 y2 y3 y4 y5 y6 y7 c1 c2 c3 c5 c6 c7
  obtain ⟨wz, rfl⟩ : ∃ w', w' = w1 := ⟨_, rfl⟩
  go_loopw [47] (fun i wr => ∃ k : Nat, k ≤ l.length ∧ i = .int .i64 k ∧ BoxAt wr w.heap.size (ro8 ⟨key, ⟨val, false, at_, fin⟩, gone, shade, l⟩ (.slice a l.length c)) 58 ∧ Ext w wr ∧ Hid (csB none l = csB (prevM l k) (l.drop k))) (fun i _ => l.length - (intOf i).toNat)
  case atStart => exact ⟨0, Nat.zero_le _, rfl, b0, hE0, rfl⟩
  case round =>
    clear b0 hE0
    obtain ⟨k, hk, rfl, hbox, hE, HX⟩ := hrel
    by_cases hlt : k < l.length
    · obtain ⟨b, o, rfl, hco⟩ := HC.out k hlt
      obtain ⟨M, hM⟩ : ∃ M, M = l[k] := ⟨_, rfl⟩
      have hML := HLow.out k hlt
      rw [← hM] at hco hML
      have hD : l.drop k = M :: l.drop (k + 1) := by rw [hM]; exact List.drop_eq_getElem_cons hlt
      clear hM
      have HN := Lib.hid (prevM_succ hD)
      have HD := Lib.hid (HX.out.trans ((congrArg (csB (prevM l k)) hD).trans (csB_cons _ _ _)))
      have HML := Lib.hid hML
      clear hD HX hML
      replace hco := hco.ext hE
      obtain ⟨g0, g1, g2, g3, g4⟩ := hco
      have y7 := hbox.allocs
      go_wp2_with fail
      refine wp_region_in 32 [(2, fun v _ => v = .bool (nameB M.name)), (23, fun v _ => v = .bool (checkC M.cell.val M.cell.dead M.cell.at_ M.cell.fin))] (fun w0 => BoxAt w0 wr.heap.size (co5 M) 111 ∧ BoxAt w0 w.heap.size (ro8 ⟨key, ⟨val, false, at_, fin⟩, gone, shade, l⟩ (.slice (some ⟨b, o, none⟩) l.length c)) 58 ∧ Ext w w0) (by kernel_rfl) (by kernel_rfl) (by kernel_rfl) ⟨stays_eq _, stays_eq _, trivial⟩ ?_ ?_
      · exact ⟨BoxAt.made _ _ _, hbox.ext ((Ext.refl _).alloc _), hE.alloc _⟩
      clear hbox hE g0 g1 g2 g3 g4 y7
      rintro w2 ⟨b2, b0, hE⟩
      have HT2 : Hid (∀ wx, Ext w2 wx → TabU wx) := fun wx h => hT.ext (hE.trans h)
      have FIN : Hid (∀ wx, Ext w2 wx → BoxAt wx w.heap.size (ro8 ⟨key, ⟨val, false, at_, fin⟩, gone, shade, l⟩ (.slice (some ⟨b, o, none⟩) l.length c)) 58 ∧ Ext w wx) := fun wx h => ⟨b0.ext h, hE.trans h⟩
      obtain ⟨x0, x1, x2, x3, x4⟩ := b2.co
      obtain ⟨_, _, _, _, _, _, _, y7⟩ := b0.ro
      clear b2 b0
      replace x0 := held x0
      replace x1 := held x1
      replace x2 := held x2
      replace x3 := held x3
      replace x4 := held x4
      replace y7 := held y7
      cases e0 : nameB M.name
      · have HQ : Hid (csB none l = false) := by show csB none l = false; rw [HD.out, e0]; simp
        refine rg_quiet rfl rfl rfl rfl ?_; intro K hK; go_big_quiet_op; go_big_quiet_on
        refine rg_quiet rfl rfl rfl rfl ?_; intro K hK; go_big_quiet_op; go_big_quiet_on
        refine rg_val [] rfl rfl rfl (by kernel_rfl) (fun w1 hE hf => ?_) ?_
        · go_simp
          exact (name_gen _ HML.out w1 (HT2.out w1 hE)).mono fun e w' ⟨he, hw⟩ => ⟨_, he, rg_done hE hw (bool_congr e0)⟩
        simp only [Act.put, List.setIfInBounds_toArray, List.set_cons_zero, List.set_cons_succ]
        refine rg_quiet rfl rfl rfl rfl ?_; intro K hK; go_big_quiet_op; go_big_quiet_on
        refine rg_quiet rfl rfl rfl rfl ?_; intro K hK; go_big_quiet_op; go_big_quiet_on
        refine rel_skip rfl rfl ?_
        simp only [Act.put, List.setIfInBounds_toArray, List.set_cons_zero, List.set_cons_succ]
        refine rel_skip rfl rfl ?_
        simp only [Act.put, List.setIfInBounds_toArray, List.set_cons_zero, List.set_cons_succ]
        refine rel_skip rfl rfl ?_
        simp only [Act.put, List.setIfInBounds_toArray, List.set_cons_zero, List.set_cons_succ]
        refine rel_skip rfl rfl ?_
        simp only [Act.put, List.setIfInBounds_toArray, List.set_cons_zero, List.set_cons_succ]
        refine rel_skip rfl rfl ?_
        simp only [Act.put, List.setIfInBounds_toArray, List.set_cons_zero, List.set_cons_succ]
        refine rel_skip rfl rfl ?_
        simp only [Act.put, List.setIfInBounds_toArray, List.set_cons_zero, List.set_cons_succ]
        refine rel_skip rfl rfl ?_
        simp only [Act.put, List.setIfInBounds_toArray, List.set_cons_zero, List.set_cons_succ]
        refine rel_skip rfl rfl ?_
        simp only [Act.put, List.setIfInBounds_toArray, List.set_cons_zero, List.set_cons_succ]
        refine rel_skip rfl rfl ?_
        simp only [Act.put, List.setIfInBounds_toArray, List.set_cons_zero, List.set_cons_succ]
        refine rel_skip rfl rfl ?_
        simp only [Act.put, List.setIfInBounds_toArray, List.set_cons_zero, List.set_cons_succ]
        refine rel_skip rfl rfl ?_
        simp only [Act.put, List.setIfInBounds_toArray, List.set_cons_zero, List.set_cons_succ]
        refine rel_skip rfl rfl ?_
        simp only [Act.put, List.setIfInBounds_toArray, List.set_cons_zero, List.set_cons_succ]
        refine rel_skip rfl rfl ?_
        simp only [Act.put, List.setIfInBounds_toArray, List.set_cons_zero, List.set_cons_succ]
        refine rel_skip rfl rfl ?_
        simp only [Act.put, List.setIfInBounds_toArray, List.set_cons_zero, List.set_cons_succ]
        refine rg_quiet rfl rfl rfl rfl ?_; intro K hK; go_big_quiet_op; go_big_quiet_on
        refine rg_quiet rfl rfl rfl rfl ?_; intro K hK; go_big_quiet_op; go_big_quiet_on
        refine rel_skip rfl rfl ?_
        simp only [Act.put, List.setIfInBounds_toArray, List.set_cons_zero, List.set_cons_succ]
        refine rel_skip rfl rfl ?_
        simp only [Act.put, List.setIfInBounds_toArray, List.set_cons_zero, List.set_cons_succ]
        refine rel_skip rfl rfl ?_
        simp only [Act.put, List.setIfInBounds_toArray, List.set_cons_zero, List.set_cons_succ]
        refine rel_skip rfl rfl ?_
        simp only [Act.put, List.setIfInBounds_toArray, List.set_cons_zero, List.set_cons_succ]
        refine rg_quiet rfl rfl rfl rfl ?_; intro K hK; go_big_quiet_op; go_big_quiet_on
        refine rg_quiet rfl rfl rfl rfl ?_; intro K hK; go_big_quiet_op; go_big_quiet_on
        refine rel_skip rfl rfl ?_
        simp only [Act.put, List.setIfInBounds_toArray, List.set_cons_zero, List.set_cons_succ]
        refine rel_skip rfl rfl ?_
        simp only [Act.put, List.setIfInBounds_toArray, List.set_cons_zero, List.set_cons_succ]
        refine rel_skip rfl rfl ?_
        simp only [Act.put, List.setIfInBounds_toArray, List.set_cons_zero, List.set_cons_succ]
        refine rel_skip rfl rfl ?_
        simp only [Act.put, List.setIfInBounds_toArray, List.set_cons_zero, List.set_cons_succ]
        refine rg_quiet rfl rfl rfl rfl ?_; intro K hK; go_big_quiet_op; go_big_quiet_on
        refine rel_nil fun w5 hE5 _ => ?_
        obtain ⟨b0, hE⟩ := FIN.out w5 hE5
        clear x0 x1 x2 x3 x4 y7 hE5 FIN e0
        go_wp2_with fail
        go_ret
        exact ⟨ret_bool HQ.out.symm, hE⟩
      · cases k with
        | zero =>
          have ho : Hid (orB (prevM l 0) M.name = true) := rfl
          refine rg_quiet rfl rfl rfl rfl ?_; intro K hK; go_big_quiet_op; go_big_quiet_on
          refine rg_quiet rfl rfl rfl rfl ?_; intro K hK; go_big_quiet_op; go_big_quiet_on
          refine rg_val [] rfl rfl rfl (by kernel_rfl) (fun w1 hE hf => ?_) ?_
          · go_simp
            exact (name_gen _ HML.out w1 (HT2.out w1 hE)).mono fun e w' ⟨he, hw⟩ => ⟨_, he, rg_done hE hw (bool_congr e0)⟩
          simp only [Act.put, List.setIfInBounds_toArray, List.set_cons_zero, List.set_cons_succ]
          refine rg_quiet rfl rfl rfl rfl ?_; intro K hK; go_big_quiet_op; go_big_quiet_on
          refine rg_quiet rfl rfl rfl rfl ?_; intro K hK; go_big_quiet_op; go_big_quiet_on
          refine rg_quiet rfl rfl rfl rfl ?_; intro K hK; go_big_quiet_op; go_big_quiet_on
          refine rg_quiet rfl rfl rfl rfl ?_; intro K hK; go_big_quiet_op; go_big_quiet_on
          refine rg_quiet rfl rfl rfl rfl ?_; intro K hK; go_big_quiet_op; go_big_quiet_on
          refine rel_skip rfl rfl ?_
          simp only [Act.put, List.setIfInBounds_toArray, List.set_cons_zero, List.set_cons_succ]
          refine rel_skip rfl rfl ?_
          simp only [Act.put, List.setIfInBounds_toArray, List.set_cons_zero, List.set_cons_succ]
          refine rel_skip rfl rfl ?_
          simp only [Act.put, List.setIfInBounds_toArray, List.set_cons_zero, List.set_cons_succ]
          refine rel_skip rfl rfl ?_
          simp only [Act.put, List.setIfInBounds_toArray, List.set_cons_zero, List.set_cons_succ]
          refine rel_skip rfl rfl ?_
          simp only [Act.put, List.setIfInBounds_toArray, List.set_cons_zero, List.set_cons_succ]
          refine rel_skip rfl rfl ?_
          simp only [Act.put, List.setIfInBounds_toArray, List.set_cons_zero, List.set_cons_succ]
          refine rel_skip rfl rfl ?_
          simp only [Act.put, List.setIfInBounds_toArray, List.set_cons_zero, List.set_cons_succ]
          refine rel_skip rfl rfl ?_
          simp only [Act.put, List.setIfInBounds_toArray, List.set_cons_zero, List.set_cons_succ]
          refine rel_skip rfl rfl ?_
          simp only [Act.put, List.setIfInBounds_toArray, List.set_cons_zero, List.set_cons_succ]
          refine rel_skip rfl rfl ?_
          simp only [Act.put, List.setIfInBounds_toArray, List.set_cons_zero, List.set_cons_succ]
          refine rg_quiet rfl rfl rfl rfl ?_; intro K hK; go_big_quiet_op; go_big_quiet_on
          refine rg_quiet rfl rfl rfl rfl ?_; intro K hK; go_big_quiet_op; go_big_quiet_on
          refine rg_quiet rfl rfl rfl rfl ?_; intro K hK; go_big_quiet_op; go_big_quiet_on
          cases e2 : checkC M.cell.val M.cell.dead M.cell.at_ M.cell.fin
          · have HQ : Hid (csB none l = false) := by show csB none l = false; rw [HD.out, e0, ho.out, e2]; simp
            refine rg_quiet rfl rfl rfl rfl ?_; intro K hK; go_big_quiet_op; go_big_quiet_on
            refine rg_quiet rfl rfl rfl rfl ?_; intro K hK; go_big_quiet_op; go_big_quiet_on
            refine rg_val [] rfl rfl rfl (by kernel_rfl) (fun w1 hE hf => ?_) ?_
            · go_simp
              exact (check_any _ _ _ _ w1).mono fun e w' ⟨he, hw⟩ => ⟨_, he, rg_done hE hw (bool_congr e2)⟩
            simp only [Act.put, List.setIfInBounds_toArray, List.set_cons_zero, List.set_cons_succ]
            refine rg_quiet rfl rfl rfl rfl ?_; intro K hK; go_big_quiet_op; go_big_quiet_on
            refine rg_quiet rfl rfl rfl rfl ?_; intro K hK; go_big_quiet_op; go_big_quiet_on
            refine rg_quiet rfl rfl rfl rfl ?_; intro K hK; go_big_quiet_op; go_big_quiet_on
            refine rel_skip rfl rfl ?_
            simp only [Act.put, List.setIfInBounds_toArray, List.set_cons_zero, List.set_cons_succ]
            refine rel_skip rfl rfl ?_
            simp only [Act.put, List.setIfInBounds_toArray, List.set_cons_zero, List.set_cons_succ]
            refine rel_skip rfl rfl ?_
            simp only [Act.put, List.setIfInBounds_toArray, List.set_cons_zero, List.set_cons_succ]
            refine rel_skip rfl rfl ?_
            simp only [Act.put, List.setIfInBounds_toArray, List.set_cons_zero, List.set_cons_succ]
            refine rg_quiet rfl rfl rfl rfl ?_; intro K hK; go_big_quiet_op; go_big_quiet_on
            refine rel_nil fun w5 hE5 _ => ?_
            obtain ⟨b0, hE⟩ := FIN.out w5 hE5
            clear x0 x1 x2 x3 x4 y7 hE5 FIN e0 e2 
            go_wp2_with fail
            go_ret
            exact ⟨ret_bool HQ.out.symm, hE⟩
          · cases e3 : decide (0 < M.cell.at_)
            · have e4 : decide (M.cell.at_ ≤ 0) = true := by simp at e3 ⊢ <;> omega
              have HQ : Hid (csB none l = false) := by show csB none l = false; rw [HD.out, e0, ho.out, e2, e3]; simp
              refine rg_quiet rfl rfl rfl rfl ?_; intro K hK; go_big_quiet_op; go_big_quiet_on
              refine rg_quiet rfl rfl rfl rfl ?_; intro K hK; go_big_quiet_op; go_big_quiet_on
              refine rg_val [] rfl rfl rfl (by kernel_rfl) (fun w1 hE hf => ?_) ?_
              · go_simp
                exact (check_any _ _ _ _ w1).mono fun e w' ⟨he, hw⟩ => ⟨_, he, rg_done hE hw (bool_congr e2)⟩
              simp only [Act.put, List.setIfInBounds_toArray, List.set_cons_zero, List.set_cons_succ]
              refine rg_quiet rfl rfl rfl rfl ?_; intro K hK; go_big_quiet_op; go_big_quiet_on
              refine rg_quiet rfl rfl rfl rfl ?_; intro K hK; go_big_quiet_op; go_big_quiet_on
              refine rg_quiet rfl rfl rfl rfl ?_; intro K hK; go_big_quiet_op; go_big_quiet_on
              refine rg_quiet rfl rfl rfl rfl ?_; intro K hK; go_big_quiet_op; go_big_quiet_on
              refine rg_quiet rfl rfl rfl rfl ?_; intro K hK; go_big_quiet_op; go_big_quiet_on
              refine rg_quiet rfl rfl rfl rfl ?_; intro K hK; go_big_quiet_op; go_big_quiet_on
              refine rg_quiet rfl rfl rfl rfl ?_; intro K hK; go_big_quiet_op; go_big_quiet_on
              refine rg_quiet rfl rfl rfl rfl ?_; intro K hK; go_big_quiet_op; go_big_quiet_on
              refine rel_nil fun w5 hE5 _ => ?_
              obtain ⟨b0, hE⟩ := FIN.out w5 hE5
              clear x0 x1 x2 x3 x4 y7 hE5 FIN e0 e2 e3 
              go_wp2_with fail
              go_ret
              exact ⟨ret_bool HQ.out.symm, hE⟩
            · have e4 : decide (M.cell.at_ ≤ 0) = false := by simp at e3 ⊢ <;> omega
              have HQ : Hid (csB none l = csB (prevM l (0 + 1)) (l.drop (0 + 1))) := by show csB none l = _; rw [HD.out, e0, ho.out, e2, e3, HN.out]; rfl
              refine rg_quiet rfl rfl rfl rfl ?_; intro K hK; go_big_quiet_op; go_big_quiet_on
              refine rg_quiet rfl rfl rfl rfl ?_; intro K hK; go_big_quiet_op; go_big_quiet_on
              refine rg_val [] rfl rfl rfl (by kernel_rfl) (fun w1 hE hf => ?_) ?_
              · go_simp
                exact (check_any _ _ _ _ w1).mono fun e w' ⟨he, hw⟩ => ⟨_, he, rg_done hE hw (bool_congr e2)⟩
              simp only [Act.put, List.setIfInBounds_toArray, List.set_cons_zero, List.set_cons_succ]
              refine rg_quiet rfl rfl rfl rfl ?_; intro K hK; go_big_quiet_op; go_big_quiet_on
              refine rg_quiet rfl rfl rfl rfl ?_; intro K hK; go_big_quiet_op; go_big_quiet_on
              refine rg_quiet rfl rfl rfl rfl ?_; intro K hK; go_big_quiet_op; go_big_quiet_on
              refine rg_quiet rfl rfl rfl rfl ?_; intro K hK; go_big_quiet_op; go_big_quiet_on
              refine rg_quiet rfl rfl rfl rfl ?_; intro K hK; go_big_quiet_op; go_big_quiet_on
              refine rg_quiet rfl rfl rfl rfl ?_; intro K hK; go_big_quiet_op; go_big_quiet_on
              refine rg_quiet rfl rfl rfl rfl ?_; intro K hK; go_big_quiet_op; go_big_quiet_on
              refine rg_quiet rfl rfl rfl rfl ?_; intro K hK; go_big_quiet_op; go_big_quiet_on
              refine rel_nil fun w5 hE5 _ => ?_
              obtain ⟨b0, hE⟩ := FIN.out w5 hE5
              clear x0 x1 x2 x3 x4 y7 hE5 FIN e0 e2 e3 
              go_wp2_with fail
              go_roundw
              case rel => exact ⟨0 + 1, by omega, by go_num, b0, hE, HQ.out⟩
              case measure => simp [intOf] <;> omega
        | succ j =>
          have hj : j < l.length := by omega
          obtain ⟨b', o', e', hp⟩ := HC.out j hj
          cases e'
          replace hp := held (hE.cell hp.c0)
          obtain ⟨Pn, hPn⟩ : ∃ Pn, Pn = l[j].name := ⟨_, rfl⟩
          rw [← hPn] at hp
          have HO : Hid (orB (prevM l (j + 1)) M.name = Op.bytesLess Pn.toList M.name.toList) := by show orB (prevM l (j + 1)) M.name = _; simp [prevM, hj, orB, hPn]
          clear hPn
          have hw : IntKind.i64.wrap ((j : Int) + 1 - 1) = (j : Int) := by rw [IntKind.wrap_i64]; omega
          have hjl : decide ((j : Int) < (l.length : Int)) = true := by simpa using hj
          have hj0 : decide ((0 : Int) < (j : Int) + 1) = true := decide_eq_true (by omega)
          cases eo : Op.bytesLess Pn.toList M.name.toList
          · have ho : Hid (orB (prevM l (j + 1)) M.name = false) := HO.out.trans eo
            have HQ : Hid (csB none l = false) := by show csB none l = false; rw [HD.out, e0, ho.out]; simp
            refine rg_quiet rfl rfl rfl rfl ?_; intro K hK; go_big_quiet_op; go_big_quiet_on
            refine rg_quiet rfl rfl rfl rfl ?_; intro K hK; go_big_quiet_op; go_big_quiet_on
            refine rg_val [] rfl rfl rfl (by kernel_rfl) (fun w1 hE hf => ?_) ?_
            · go_simp
              exact (name_gen _ HML.out w1 (HT2.out w1 hE)).mono fun e w' ⟨he, hw⟩ => ⟨_, he, rg_done hE hw (bool_congr e0)⟩
            simp only [Act.put, List.setIfInBounds_toArray, List.set_cons_zero, List.set_cons_succ]
            refine rg_quiet rfl rfl rfl rfl ?_; intro K hK; go_big_quiet_op; go_big_quiet_on
            refine rg_quiet rfl rfl rfl rfl ?_; intro K hK; go_big_quiet_op; go_big_quiet_on
            refine rg_quiet rfl rfl rfl rfl ?_; intro K hK; go_big_quiet_op; go_big_quiet_on
            refine rg_quiet rfl rfl rfl rfl ?_; intro K hK; go_big_quiet_op; go_big_quiet_on
            refine rg_quiet rfl rfl rfl rfl ?_; intro K hK; go_big_quiet_op; go_big_quiet_on
            refine rg_quiet rfl rfl rfl rfl ?_; intro K hK; go_big_quiet_op; go_big_quiet_on
            refine rg_quiet rfl rfl rfl rfl ?_; intro K hK; go_big_quiet_op; go_big_quiet_on
            refine rg_quiet rfl rfl rfl rfl ?_; intro K hK; go_big_quiet_op; go_big_quiet_on
            refine rg_quiet rfl rfl rfl rfl ?_; intro K hK; go_big_quiet_op; go_big_quiet_on
            refine rg_quiet rfl rfl rfl rfl ?_; intro K hK; go_big_quiet_op; go_big_quiet_on
            refine rg_quiet rfl rfl rfl rfl ?_; intro K hK; go_big_quiet_op; go_big_quiet_on
            refine rg_quiet rfl rfl rfl rfl ?_; intro K hK; go_big_quiet_op; go_big_quiet_on
            refine rg_quiet rfl rfl rfl rfl ?_; intro K hK; go_big_quiet_op; go_big_quiet_on
            refine rg_quiet rfl rfl rfl rfl ?_; intro K hK; go_big_quiet_op; go_big_quiet_on
            refine rg_quiet rfl rfl rfl rfl ?_; intro K hK; go_big_quiet_op; go_big_quiet_on
            refine rg_quiet rfl rfl rfl rfl ?_; intro K hK; go_big_quiet_op; go_big_quiet_on
            refine rg_quiet rfl rfl rfl rfl ?_; intro K hK; go_big_quiet_op; go_big_quiet_on
            refine rg_quiet rfl rfl rfl rfl ?_; intro K hK; go_big_quiet_op; go_big_quiet_on
            refine rel_skip rfl rfl ?_
            simp only [Act.put, List.setIfInBounds_toArray, List.set_cons_zero, List.set_cons_succ]
            refine rel_skip rfl rfl ?_
            simp only [Act.put, List.setIfInBounds_toArray, List.set_cons_zero, List.set_cons_succ]
            refine rel_skip rfl rfl ?_
            simp only [Act.put, List.setIfInBounds_toArray, List.set_cons_zero, List.set_cons_succ]
            refine rel_skip rfl rfl ?_
            simp only [Act.put, List.setIfInBounds_toArray, List.set_cons_zero, List.set_cons_succ]
            refine rg_quiet rfl rfl rfl rfl ?_; intro K hK; go_big_quiet_op; go_big_quiet_on
            refine rg_quiet rfl rfl rfl rfl ?_; intro K hK; go_big_quiet_op; go_big_quiet_on
            refine rel_skip rfl rfl ?_
            simp only [Act.put, List.setIfInBounds_toArray, List.set_cons_zero, List.set_cons_succ]
            refine rel_skip rfl rfl ?_
            simp only [Act.put, List.setIfInBounds_toArray, List.set_cons_zero, List.set_cons_succ]
            refine rel_skip rfl rfl ?_
            simp only [Act.put, List.setIfInBounds_toArray, List.set_cons_zero, List.set_cons_succ]
            refine rel_skip rfl rfl ?_
            simp only [Act.put, List.setIfInBounds_toArray, List.set_cons_zero, List.set_cons_succ]
            refine rg_quiet rfl rfl rfl rfl ?_; intro K hK; go_big_quiet_op; go_big_quiet_on
            refine rel_nil fun w5 hE5 _ => ?_
            obtain ⟨b0, hE⟩ := FIN.out w5 hE5
            clear x0 x1 x2 x3 x4 y7 hE5 FIN e0 eo hp
            go_wp2_with fail
            go_ret
            exact ⟨ret_bool HQ.out.symm, hE⟩
          · have ho : Hid (orB (prevM l (j + 1)) M.name = true) := HO.out.trans eo
            refine rg_quiet rfl rfl rfl rfl ?_; intro K hK; go_big_quiet_op; go_big_quiet_on
            refine rg_quiet rfl rfl rfl rfl ?_; intro K hK; go_big_quiet_op; go_big_quiet_on
            refine rg_val [] rfl rfl rfl (by kernel_rfl) (fun w1 hE hf => ?_) ?_
            · go_simp
              exact (name_gen _ HML.out w1 (HT2.out w1 hE)).mono fun e w' ⟨he, hw⟩ => ⟨_, he, rg_done hE hw (bool_congr e0)⟩
            simp only [Act.put, List.setIfInBounds_toArray, List.set_cons_zero, List.set_cons_succ]
            refine rg_quiet rfl rfl rfl rfl ?_; intro K hK; go_big_quiet_op; go_big_quiet_on
            refine rg_quiet rfl rfl rfl rfl ?_; intro K hK; go_big_quiet_op; go_big_quiet_on
            refine rg_quiet rfl rfl rfl rfl ?_; intro K hK; go_big_quiet_op; go_big_quiet_on
            refine rg_quiet rfl rfl rfl rfl ?_; intro K hK; go_big_quiet_op; go_big_quiet_on
            refine rg_quiet rfl rfl rfl rfl ?_; intro K hK; go_big_quiet_op; go_big_quiet_on
            refine rg_quiet rfl rfl rfl rfl ?_; intro K hK; go_big_quiet_op; go_big_quiet_on
            refine rg_quiet rfl rfl rfl rfl ?_; intro K hK; go_big_quiet_op; go_big_quiet_on
            refine rg_quiet rfl rfl rfl rfl ?_; intro K hK; go_big_quiet_op; go_big_quiet_on
            refine rg_quiet rfl rfl rfl rfl ?_; intro K hK; go_big_quiet_op; go_big_quiet_on
            refine rg_quiet rfl rfl rfl rfl ?_; intro K hK; go_big_quiet_op; go_big_quiet_on
            refine rg_quiet rfl rfl rfl rfl ?_; intro K hK; go_big_quiet_op; go_big_quiet_on
            refine rg_quiet rfl rfl rfl rfl ?_; intro K hK; go_big_quiet_op; go_big_quiet_on
            refine rg_quiet rfl rfl rfl rfl ?_; intro K hK; go_big_quiet_op; go_big_quiet_on
            refine rg_quiet rfl rfl rfl rfl ?_; intro K hK; go_big_quiet_op; go_big_quiet_on
            refine rg_quiet rfl rfl rfl rfl ?_; intro K hK; go_big_quiet_op; go_big_quiet_on
            refine rg_quiet rfl rfl rfl rfl ?_; intro K hK; go_big_quiet_op; go_big_quiet_on
            refine rg_quiet rfl rfl rfl rfl ?_; intro K hK; go_big_quiet_op; go_big_quiet_on
            refine rg_quiet rfl rfl rfl rfl ?_; intro K hK; go_big_quiet_op; go_big_quiet_on
            cases e2 : checkC M.cell.val M.cell.dead M.cell.at_ M.cell.fin
            · have HQ : Hid (csB none l = false) := by show csB none l = false; rw [HD.out, e0, ho.out, e2]; simp
              refine rg_quiet rfl rfl rfl rfl ?_; intro K hK; go_big_quiet_op; go_big_quiet_on
              refine rg_quiet rfl rfl rfl rfl ?_; intro K hK; go_big_quiet_op; go_big_quiet_on
              refine rg_val [] rfl rfl rfl (by kernel_rfl) (fun w1 hE hf => ?_) ?_
              · go_simp
                exact (check_any _ _ _ _ w1).mono fun e w' ⟨he, hw⟩ => ⟨_, he, rg_done hE hw (bool_congr e2)⟩
              simp only [Act.put, List.setIfInBounds_toArray, List.set_cons_zero, List.set_cons_succ]
              refine rg_quiet rfl rfl rfl rfl ?_; intro K hK; go_big_quiet_op; go_big_quiet_on
              refine rg_quiet rfl rfl rfl rfl ?_; intro K hK; go_big_quiet_op; go_big_quiet_on
              refine rg_quiet rfl rfl rfl rfl ?_; intro K hK; go_big_quiet_op; go_big_quiet_on
              refine rel_skip rfl rfl ?_
              simp only [Act.put, List.setIfInBounds_toArray, List.set_cons_zero, List.set_cons_succ]
              refine rel_skip rfl rfl ?_
              simp only [Act.put, List.setIfInBounds_toArray, List.set_cons_zero, List.set_cons_succ]
              refine rel_skip rfl rfl ?_
              simp only [Act.put, List.setIfInBounds_toArray, List.set_cons_zero, List.set_cons_succ]
              refine rel_skip rfl rfl ?_
              simp only [Act.put, List.setIfInBounds_toArray, List.set_cons_zero, List.set_cons_succ]
              refine rg_quiet rfl rfl rfl rfl ?_; intro K hK; go_big_quiet_op; go_big_quiet_on
              refine rel_nil fun w5 hE5 _ => ?_
              obtain ⟨b0, hE⟩ := FIN.out w5 hE5
              clear x0 x1 x2 x3 x4 y7 hE5 FIN e0 e2 eo hp
              go_wp2_with fail
              go_ret
              exact ⟨ret_bool HQ.out.symm, hE⟩
            · cases e3 : decide (0 < M.cell.at_)
              · have e4 : decide (M.cell.at_ ≤ 0) = true := by simp at e3 ⊢ <;> omega
                have HQ : Hid (csB none l = false) := by show csB none l = false; rw [HD.out, e0, ho.out, e2, e3]; simp
                refine rg_quiet rfl rfl rfl rfl ?_; intro K hK; go_big_quiet_op; go_big_quiet_on
                refine rg_quiet rfl rfl rfl rfl ?_; intro K hK; go_big_quiet_op; go_big_quiet_on
                refine rg_val [] rfl rfl rfl (by kernel_rfl) (fun w1 hE hf => ?_) ?_
                · go_simp
                  exact (check_any _ _ _ _ w1).mono fun e w' ⟨he, hw⟩ => ⟨_, he, rg_done hE hw (bool_congr e2)⟩
                simp only [Act.put, List.setIfInBounds_toArray, List.set_cons_zero, List.set_cons_succ]
                refine rg_quiet rfl rfl rfl rfl ?_; intro K hK; go_big_quiet_op; go_big_quiet_on
                refine rg_quiet rfl rfl rfl rfl ?_; intro K hK; go_big_quiet_op; go_big_quiet_on
                refine rg_quiet rfl rfl rfl rfl ?_; intro K hK; go_big_quiet_op; go_big_quiet_on
                refine rg_quiet rfl rfl rfl rfl ?_; intro K hK; go_big_quiet_op; go_big_quiet_on
                refine rg_quiet rfl rfl rfl rfl ?_; intro K hK; go_big_quiet_op; go_big_quiet_on
                refine rg_quiet rfl rfl rfl rfl ?_; intro K hK; go_big_quiet_op; go_big_quiet_on
                refine rg_quiet rfl rfl rfl rfl ?_; intro K hK; go_big_quiet_op; go_big_quiet_on
                refine rg_quiet rfl rfl rfl rfl ?_; intro K hK; go_big_quiet_op; go_big_quiet_on
                refine rel_nil fun w5 hE5 _ => ?_
                obtain ⟨b0, hE⟩ := FIN.out w5 hE5
                clear x0 x1 x2 x3 x4 y7 hE5 FIN e0 e2 e3 eo hp
                go_wp2_with fail
                go_ret
                exact ⟨ret_bool HQ.out.symm, hE⟩
              · have e4 : decide (M.cell.at_ ≤ 0) = false := by simp at e3 ⊢ <;> omega
                have HQ : Hid (csB none l = csB (prevM l ((j + 1) + 1)) (l.drop ((j + 1) + 1))) := by show csB none l = _; rw [HD.out, e0, ho.out, e2, e3, HN.out]; rfl
                refine rg_quiet rfl rfl rfl rfl ?_; intro K hK; go_big_quiet_op; go_big_quiet_on
                refine rg_quiet rfl rfl rfl rfl ?_; intro K hK; go_big_quiet_op; go_big_quiet_on
                refine rg_val [] rfl rfl rfl (by kernel_rfl) (fun w1 hE hf => ?_) ?_
                · go_simp
                  exact (check_any _ _ _ _ w1).mono fun e w' ⟨he, hw⟩ => ⟨_, he, rg_done hE hw (bool_congr e2)⟩
                simp only [Act.put, List.setIfInBounds_toArray, List.set_cons_zero, List.set_cons_succ]
                refine rg_quiet rfl rfl rfl rfl ?_; intro K hK; go_big_quiet_op; go_big_quiet_on
                refine rg_quiet rfl rfl rfl rfl ?_; intro K hK; go_big_quiet_op; go_big_quiet_on
                refine rg_quiet rfl rfl rfl rfl ?_; intro K hK; go_big_quiet_op; go_big_quiet_on
                refine rg_quiet rfl rfl rfl rfl ?_; intro K hK; go_big_quiet_op; go_big_quiet_on
                refine rg_quiet rfl rfl rfl rfl ?_; intro K hK; go_big_quiet_op; go_big_quiet_on
                refine rg_quiet rfl rfl rfl rfl ?_; intro K hK; go_big_quiet_op; go_big_quiet_on
                refine rg_quiet rfl rfl rfl rfl ?_; intro K hK; go_big_quiet_op; go_big_quiet_on
                refine rg_quiet rfl rfl rfl rfl ?_; intro K hK; go_big_quiet_op; go_big_quiet_on
                refine rel_nil fun w5 hE5 _ => ?_
                obtain ⟨b0, hE⟩ := FIN.out w5 hE5
                clear x0 x1 x2 x3 x4 y7 hE5 FIN e0 e2 e3 eo hp
                go_wp2_with fail
                go_roundw
                case rel => exact ⟨(j + 1) + 1, by omega, by go_num, b0, hE, HQ.out⟩
                case measure => simp [intOf] <;> omega
    · obtain rfl : k = l.length := by omega
      have HQ : Hid (csB none l = true) := by show csB none l = true; rw [HX.out, List.drop_length]; rfl
      go_wp2_with fail
      go_ret
      exact ⟨ret_bool HQ.out.symm, hE⟩
theorem rcheck_gen (r : Ro) (v : Value) (w : World) (hin : ColsIn w v r.cols) (hlow : ∀ c ∈ r.cols, c.name.size ≤ 1000000) (hT : TabU w) :
    Calls Tryz.prog 99 #[(.agg #[.string r.key, .string r.live.val, .bool r.live.dead, .int .i64 r.live.at_, .int .i64 r.live.fin, .int .i64 r.gone, .int .i64 r.shade, v])] w fun e w' => e = .returned (.bool (rwB r)) ∧ Ext w w' := by
  cases hb : headB r
  · have e : rwB r = false := by unfold rwB; rw [show hdB r = headB r from rfl, hb]; rfl
    rw [e]
    exact rcheck_bad r v w hin hb
  · have e : rwB r = csB none r.cols := by unfold rwB; rw [show hdB r = headB r from rfl, hb]; rfl
    rw [e]
    exact rcheck_gen0 r v w hin hb (fun k h => hlow _ (List.getElem_mem h)) hT
end Go.Proofs.YtfagnbofnaoncaaGreatDoor

/- The reference's Check of partitions. (what a smaller cut has) -/
namespace Go.Proofs.YtfagnbofnaoncaaGreatDoor
open Go Go.RowKit
attribute [local go_sem] yields yUpon ro8 pa3

def rsB : Option ByteArray → List Ro → Bool
  | _, [] => true
  | p, r :: l => rwB r && orB p r.key && rsB (some r.key) l
def ptB (k : ByteArray) (g : Int) (l : List Ro) : Bool := !decide (100 < (k.size : Int)) && !decide (g < 0) && !decide (1099511627776 < g) && !decide (100 < (l.length : Int)) && rsB none l
def prevR (l : List (Ro × Value)) : Nat → Option ByteArray
  | 0 => none
  | k + 1 => (l[k]?).map (·.1.key)
theorem prevR_succ {l : List (Ro × Value)} {k : Nat} {M : Ro × Value} {R : List (Ro × Value)} (hd : l.drop k = M :: R) : prevR l (k + 1) = some M.1.key := by
  have hk : k < l.length := by
    rcases Nat.lt_or_ge k l.length with h | h
    · exact h
    · rw [List.drop_eq_nil_of_le h] at hd; cases hd
  have e : l[k] = M := by rw [List.drop_eq_getElem_cons hk] at hd; exact (List.cons.inj hd).1
  simp [prevR, hk, e]
end Go.Proofs.YtfagnbofnaoncaaGreatDoor
