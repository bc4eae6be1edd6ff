/- row.Check: the columns. -/
import Derived.Test.YteamiiekpjoclaaDoorM12
import Derived.Test.YteamiiekpjoclaaDoorM5
namespace Go.Proofs.YteamiiekpjoclaaDoor
open Go Go.RowKit
attribute [local go_sem] yields yUpon

theorem headB_parts {r : Ro} (h : headB r = true) : decide (400 < (r.key.size : Int)) = false ∧ checkC r.live.val r.live.dead r.live.at_ r.live.fin = true ∧ (r.live.val.toList == []) = true ∧ r.live.dead = false ∧ stampB r.gone = true ∧ stampB r.shade = true ∧ decide (8 < (r.cols.length : Int)) = false := by
  unfold headB at h
  simp only [Bool.and_eq_true, Bool.not_eq_true'] at h
  obtain ⟨⟨⟨⟨⟨⟨a, b⟩, c⟩, d⟩, e⟩, f⟩, g⟩ := h
  exact ⟨a, b, c, d, e, f, g⟩
theorem colsB_cons (p : Option ByteArray) (M : Co) (R : List Co) : colsB p (M :: R) = (lowB M.name && ordB p M.name && checkC M.cell.val M.cell.dead M.cell.at_ M.cell.fin && decide (0 < M.cell.at_) && colsB (some M.name) R) := rfl
theorem prevN_succ {l : List Co} {k : Nat} {M : Co} {R : List Co} (hd : l.drop k = M :: R) : prevN l (k + 1) = some M.name := by
  have hk : k < l.length := by
    rcases Nat.lt_or_ge k l.length with h | h
    · exact h
    · rw [List.drop_eq_nil_of_le h] at hd; cases hd
  have e : l[k] = M := by rw [List.drop_eq_getElem_cons hk] at hd; exact (List.cons.inj hd).1
  simp [prevN, hk, e]

set_option maxRecDepth 100000 in
set_option maxHeartbeats 8000000 in
theorem rcheck_good (r : Ro) (v : Value) (w : World) (hin : ColsIn w v r.cols) (hb : headB r = true) (hlow : ∀ k (h : k < r.cols.length), Low (r.cols[k]'h).name) :
    Calls Tryd.prog 9 #[(.agg #[.string r.key, .string r.live.val, .bool r.live.dead, .int .i64 r.live.at_, .int .i64 r.live.fin, .int .i64 r.gone, .int .i64 r.shade, v])] w fun e w' => e = .returned (.bool (colsB none r.cols)) ∧ Ext w w' := by
  obtain ⟨a, c, rfl, hc, hcm, hcell⟩ := hin.get
  obtain ⟨c1, c2, c3, c4, c5, c6, c7⟩ := headB_parts hb
  clear hin hb
  obtain ⟨key, ⟨val, dead, at_, fin⟩, gone, shade, l⟩ := r
  dsimp only at hcell hc c1 c2 c3 c4 c5 c6 c7 hlow ⊢
  subst c4
  have HC := Lib.hid hcell
  have HLow := Lib.hid hlow
  clear hcell hlow
  have b0 : BoxAt (w.alloc (.cells (ro8 ⟨key, ⟨val, false, at_, fin⟩, gone, shade, l⟩ (.slice a l.length c)) 26)) w.heap.size (ro8 ⟨key, ⟨val, false, at_, fin⟩, gone, shade, l⟩ (.slice a l.length c)) 26 := BoxAt.made w _ _
  have hE0 : Ext w (w.alloc (.cells (ro8 ⟨key, ⟨val, false, at_, fin⟩, gone, shade, l⟩ (.slice a l.length c)) 26)) := (Ext.refl w).alloc _
  go_enter Tryd.func9, Tryd.ntmps9
  go_wp2_with (first
    | (go_at_call 51; go_must (refine (check_any _ _ _ _ _).mono ?_; rw [c2]; rintro e w1 ⟨rfl, hE1⟩; replace hE0 := hE0.trans hE1; replace b0 := b0.ext hE1; obtain ⟨y0, y1, y2, y3, y4, y5, y6, y7⟩ := b0.ro))
    | (go_at_call 52; go_must (refine (rstamp_any _ _).mono ?_); (first | rw [c5] | rw [c6]); rintro e w2 ⟨rfl, rfl⟩))
  clear y0 y1 y2 y3 y4 y5 y6 y7 c1 c2 c3 c5 c6 c7
  obtain ⟨wz, rfl⟩ : ∃ w', w' = w1 := ⟨_, rfl⟩
  go_loopw [47] (fun i wr => ∃ k : Nat, k ≤ l.length ∧ i = .int .i64 k ∧ BoxAt wr w.heap.size (ro8 ⟨key, ⟨val, false, at_, fin⟩, gone, shade, l⟩ (.slice a l.length c)) 26 ∧ Ext w wr ∧ Hid (colsB none l = colsB (prevN l k) (l.drop k))) (fun i _ => l.length - (intOf i).toNat)
  case atStart => exact ⟨0, Nat.zero_le _, rfl, b0, hE0, rfl⟩
  case round =>
    clear b0 hE0
    obtain ⟨k, hk, rfl, hbox, hE, HX⟩ := hrel
    by_cases hlt : k < l.length
    · obtain ⟨b, o, rfl, hco⟩ := HC.out k hlt
      obtain ⟨M, hM⟩ : ∃ M, M = l[k] := ⟨_, rfl⟩
      have hML := HLow.out k hlt
      rw [← hM] at hco hML
      have hD : l.drop k = M :: l.drop (k + 1) := by rw [hM]; exact List.drop_eq_getElem_cons hlt
      clear hM
      have HN := Lib.hid (prevN_succ hD)
      have HD := Lib.hid (HX.out.trans ((congrArg (colsB (prevN l k)) hD).trans (colsB_cons _ _ _)))
      have HML := Lib.hid hML
      clear hD HX hML
      replace hco := hco.ext hE
      obtain ⟨g0, g1, g2, g3, g4⟩ := hco
      have y7 := hbox.allocs
      go_wp2_with fail
      refine wp_region_in 32 [(2, fun v _ => v = .bool (lowB M.name)), (23, fun v _ => v = .bool (checkC M.cell.val M.cell.dead M.cell.at_ M.cell.fin))] (fun w0 => BoxAt w0 wr.heap.size (co5 M) 80 ∧ BoxAt w0 w.heap.size (ro8 ⟨key, ⟨val, false, at_, fin⟩, gone, shade, l⟩ (.slice (some ⟨b, o, none⟩) l.length c)) 26 ∧ Ext w w0) (by kernel_rfl) (by kernel_rfl) (by kernel_rfl) ⟨stays_eq _, stays_eq _, trivial⟩ ?_ ?_
      · exact ⟨BoxAt.made _ _ _, hbox.ext ((Ext.refl _).alloc _), hE.alloc _⟩
      clear hbox hE g0 g1 g2 g3 g4 y7
      rintro w2 ⟨b2, b0, hE⟩
      have FIN : Hid (∀ wx, Ext w2 wx → BoxAt wx w.heap.size (ro8 ⟨key, ⟨val, false, at_, fin⟩, gone, shade, l⟩ (.slice (some ⟨b, o, none⟩) l.length c)) 26 ∧ Ext w wx) := fun wx h => ⟨b0.ext h, hE.trans h⟩
      obtain ⟨x0, x1, x2, x3, x4⟩ := b2.co
      obtain ⟨_, _, _, _, _, _, _, y7⟩ := b0.ro
      clear b2 b0
      replace x0 := held x0
      replace x1 := held x1
      replace x2 := held x2
      replace x3 := held x3
      replace x4 := held x4
      replace y7 := held y7
      cases e0 : lowB M.name
      · have HQ : Hid (colsB none l = false) := by show colsB none l = false; rw [HD.out, e0]; simp
        refine rg_quiet rfl rfl rfl rfl ?_; intro K hK; go_big_quiet_op; go_big_quiet_on
        refine rg_quiet rfl rfl rfl rfl ?_; intro K hK; go_big_quiet_op; go_big_quiet_on
        refine rg_val [] rfl rfl rfl (by kernel_rfl) (fun w1 hE hf => ?_) ?_
        · go_simp
          exact (name_lowB _ HML.out w1).mono fun e w' ⟨he, hw⟩ => ⟨_, he, rg_done hE hw (bool_congr e0)⟩
        simp only [Act.put, List.setIfInBounds_toArray, List.set_cons_zero, List.set_cons_succ]
        refine rg_quiet rfl rfl rfl rfl ?_; intro K hK; go_big_quiet_op; go_big_quiet_on
        refine rg_quiet rfl rfl rfl rfl ?_; intro K hK; go_big_quiet_op; go_big_quiet_on
        refine rel_skip rfl rfl ?_
        simp only [Act.put, List.setIfInBounds_toArray, List.set_cons_zero, List.set_cons_succ]
        refine rel_skip rfl rfl ?_
        simp only [Act.put, List.setIfInBounds_toArray, List.set_cons_zero, List.set_cons_succ]
        refine rel_skip rfl rfl ?_
        simp only [Act.put, List.setIfInBounds_toArray, List.set_cons_zero, List.set_cons_succ]
        refine rel_skip rfl rfl ?_
        simp only [Act.put, List.setIfInBounds_toArray, List.set_cons_zero, List.set_cons_succ]
        refine rel_skip rfl rfl ?_
        simp only [Act.put, List.setIfInBounds_toArray, List.set_cons_zero, List.set_cons_succ]
        refine rel_skip rfl rfl ?_
        simp only [Act.put, List.setIfInBounds_toArray, List.set_cons_zero, List.set_cons_succ]
        refine rel_skip rfl rfl ?_
        simp only [Act.put, List.setIfInBounds_toArray, List.set_cons_zero, List.set_cons_succ]
        refine rel_skip rfl rfl ?_
        simp only [Act.put, List.setIfInBounds_toArray, List.set_cons_zero, List.set_cons_succ]
        refine rel_skip rfl rfl ?_
        simp only [Act.put, List.setIfInBounds_toArray, List.set_cons_zero, List.set_cons_succ]
        refine rel_skip rfl rfl ?_
        simp only [Act.put, List.setIfInBounds_toArray, List.set_cons_zero, List.set_cons_succ]
        refine rel_skip rfl rfl ?_
        simp only [Act.put, List.setIfInBounds_toArray, List.set_cons_zero, List.set_cons_succ]
        refine rel_skip rfl rfl ?_
        simp only [Act.put, List.setIfInBounds_toArray, List.set_cons_zero, List.set_cons_succ]
        refine rel_skip rfl rfl ?_
        simp only [Act.put, List.setIfInBounds_toArray, List.set_cons_zero, List.set_cons_succ]
        refine rel_skip rfl rfl ?_
        simp only [Act.put, List.setIfInBounds_toArray, List.set_cons_zero, List.set_cons_succ]
        refine rg_quiet rfl rfl rfl rfl ?_; intro K hK; go_big_quiet_op; go_big_quiet_on
        refine rg_quiet rfl rfl rfl rfl ?_; intro K hK; go_big_quiet_op; go_big_quiet_on
        refine rel_skip rfl rfl ?_
        simp only [Act.put, List.setIfInBounds_toArray, List.set_cons_zero, List.set_cons_succ]
        refine rel_skip rfl rfl ?_
        simp only [Act.put, List.setIfInBounds_toArray, List.set_cons_zero, List.set_cons_succ]
        refine rel_skip rfl rfl ?_
        simp only [Act.put, List.setIfInBounds_toArray, List.set_cons_zero, List.set_cons_succ]
        refine rel_skip rfl rfl ?_
        simp only [Act.put, List.setIfInBounds_toArray, List.set_cons_zero, List.set_cons_succ]
        refine rg_quiet rfl rfl rfl rfl ?_; intro K hK; go_big_quiet_op; go_big_quiet_on
        refine rg_quiet rfl rfl rfl rfl ?_; intro K hK; go_big_quiet_op; go_big_quiet_on
        refine rel_skip rfl rfl ?_
        simp only [Act.put, List.setIfInBounds_toArray, List.set_cons_zero, List.set_cons_succ]
        refine rel_skip rfl rfl ?_
        simp only [Act.put, List.setIfInBounds_toArray, List.set_cons_zero, List.set_cons_succ]
        refine rel_skip rfl rfl ?_
        simp only [Act.put, List.setIfInBounds_toArray, List.set_cons_zero, List.set_cons_succ]
        refine rel_skip rfl rfl ?_
        simp only [Act.put, List.setIfInBounds_toArray, List.set_cons_zero, List.set_cons_succ]
        refine rg_quiet rfl rfl rfl rfl ?_; intro K hK; go_big_quiet_op; go_big_quiet_on
        refine rel_nil fun w5 hE5 _ => ?_
        obtain ⟨b0, hE⟩ := FIN.out w5 hE5
        clear x0 x1 x2 x3 x4 y7 hE5 FIN e0
        go_wp2_with fail
        go_ret
        exact ⟨ret_bool HQ.out.symm, hE⟩
      · cases k with
        | zero =>
          have ho : Hid (ordB (prevN l 0) M.name = true) := rfl
          refine rg_quiet rfl rfl rfl rfl ?_; intro K hK; go_big_quiet_op; go_big_quiet_on
          refine rg_quiet rfl rfl rfl rfl ?_; intro K hK; go_big_quiet_op; go_big_quiet_on
          refine rg_val [] rfl rfl rfl (by kernel_rfl) (fun w1 hE hf => ?_) ?_
          · go_simp
            exact (name_lowB _ HML.out w1).mono fun e w' ⟨he, hw⟩ => ⟨_, he, rg_done hE hw (bool_congr e0)⟩
          simp only [Act.put, List.setIfInBounds_toArray, List.set_cons_zero, List.set_cons_succ]
          refine rg_quiet rfl rfl rfl rfl ?_; intro K hK; go_big_quiet_op; go_big_quiet_on
          refine rg_quiet rfl rfl rfl rfl ?_; intro K hK; go_big_quiet_op; go_big_quiet_on
          refine rg_quiet rfl rfl rfl rfl ?_; intro K hK; go_big_quiet_op; go_big_quiet_on
          refine rg_quiet rfl rfl rfl rfl ?_; intro K hK; go_big_quiet_op; go_big_quiet_on
          refine rg_quiet rfl rfl rfl rfl ?_; intro K hK; go_big_quiet_op; go_big_quiet_on
          refine rel_skip rfl rfl ?_
          simp only [Act.put, List.setIfInBounds_toArray, List.set_cons_zero, List.set_cons_succ]
          refine rel_skip rfl rfl ?_
          simp only [Act.put, List.setIfInBounds_toArray, List.set_cons_zero, List.set_cons_succ]
          refine rel_skip rfl rfl ?_
          simp only [Act.put, List.setIfInBounds_toArray, List.set_cons_zero, List.set_cons_succ]
          refine rel_skip rfl rfl ?_
          simp only [Act.put, List.setIfInBounds_toArray, List.set_cons_zero, List.set_cons_succ]
          refine rel_skip rfl rfl ?_
          simp only [Act.put, List.setIfInBounds_toArray, List.set_cons_zero, List.set_cons_succ]
          refine rel_skip rfl rfl ?_
          simp only [Act.put, List.setIfInBounds_toArray, List.set_cons_zero, List.set_cons_succ]
          refine rel_skip rfl rfl ?_
          simp only [Act.put, List.setIfInBounds_toArray, List.set_cons_zero, List.set_cons_succ]
          refine rel_skip rfl rfl ?_
          simp only [Act.put, List.setIfInBounds_toArray, List.set_cons_zero, List.set_cons_succ]
          refine rel_skip rfl rfl ?_
          simp only [Act.put, List.setIfInBounds_toArray, List.set_cons_zero, List.set_cons_succ]
          refine rel_skip rfl rfl ?_
          simp only [Act.put, List.setIfInBounds_toArray, List.set_cons_zero, List.set_cons_succ]
          refine rg_quiet rfl rfl rfl rfl ?_; intro K hK; go_big_quiet_op; go_big_quiet_on
          refine rg_quiet rfl rfl rfl rfl ?_; intro K hK; go_big_quiet_op; go_big_quiet_on
          refine rg_quiet rfl rfl rfl rfl ?_; intro K hK; go_big_quiet_op; go_big_quiet_on
          cases e2 : checkC M.cell.val M.cell.dead M.cell.at_ M.cell.fin
          · have HQ : Hid (colsB none l = false) := by show colsB none l = false; rw [HD.out, e0, ho.out, e2]; simp
            refine rg_quiet rfl rfl rfl rfl ?_; intro K hK; go_big_quiet_op; go_big_quiet_on
            refine rg_quiet rfl rfl rfl rfl ?_; intro K hK; go_big_quiet_op; go_big_quiet_on
            refine rg_val [] rfl rfl rfl (by kernel_rfl) (fun w1 hE hf => ?_) ?_
            · go_simp
              exact (check_any _ _ _ _ w1).mono fun e w' ⟨he, hw⟩ => ⟨_, he, rg_done hE hw (bool_congr e2)⟩
            simp only [Act.put, List.setIfInBounds_toArray, List.set_cons_zero, List.set_cons_succ]
            refine rg_quiet rfl rfl rfl rfl ?_; intro K hK; go_big_quiet_op; go_big_quiet_on
            refine rg_quiet rfl rfl rfl rfl ?_; intro K hK; go_big_quiet_op; go_big_quiet_on
            refine rg_quiet rfl rfl rfl rfl ?_; intro K hK; go_big_quiet_op; go_big_quiet_on
            refine rel_skip rfl rfl ?_
            simp only [Act.put, List.setIfInBounds_toArray, List.set_cons_zero, List.set_cons_succ]
            refine rel_skip rfl rfl ?_
            simp only [Act.put, List.setIfInBounds_toArray, List.set_cons_zero, List.set_cons_succ]
            refine rel_skip rfl rfl ?_
            simp only [Act.put, List.setIfInBounds_toArray, List.set_cons_zero, List.set_cons_succ]
            refine rel_skip rfl rfl ?_
            simp only [Act.put, List.setIfInBounds_toArray, List.set_cons_zero, List.set_cons_succ]
            refine rg_quiet rfl rfl rfl rfl ?_; intro K hK; go_big_quiet_op; go_big_quiet_on
            refine rel_nil fun w5 hE5 _ => ?_
            obtain ⟨b0, hE⟩ := FIN.out w5 hE5
            clear x0 x1 x2 x3 x4 y7 hE5 FIN e0 e2 
            go_wp2_with fail
            go_ret
            exact ⟨ret_bool HQ.out.symm, hE⟩
          · cases e3 : decide (0 < M.cell.at_)
            · have e4 : decide (M.cell.at_ ≤ 0) = true := by simp at e3 ⊢ <;> omega
              have HQ : Hid (colsB none l = false) := by show colsB none l = false; rw [HD.out, e0, ho.out, e2, e3]; simp
              refine rg_quiet rfl rfl rfl rfl ?_; intro K hK; go_big_quiet_op; go_big_quiet_on
              refine rg_quiet rfl rfl rfl rfl ?_; intro K hK; go_big_quiet_op; go_big_quiet_on
              refine rg_val [] rfl rfl rfl (by kernel_rfl) (fun w1 hE hf => ?_) ?_
              · go_simp
                exact (check_any _ _ _ _ w1).mono fun e w' ⟨he, hw⟩ => ⟨_, he, rg_done hE hw (bool_congr e2)⟩
              simp only [Act.put, List.setIfInBounds_toArray, List.set_cons_zero, List.set_cons_succ]
              refine rg_quiet rfl rfl rfl rfl ?_; intro K hK; go_big_quiet_op; go_big_quiet_on
              refine rg_quiet rfl rfl rfl rfl ?_; intro K hK; go_big_quiet_op; go_big_quiet_on
              refine rg_quiet rfl rfl rfl rfl ?_; intro K hK; go_big_quiet_op; go_big_quiet_on
              refine rg_quiet rfl rfl rfl rfl ?_; intro K hK; go_big_quiet_op; go_big_quiet_on
              refine rg_quiet rfl rfl rfl rfl ?_; intro K hK; go_big_quiet_op; go_big_quiet_on
              refine rg_quiet rfl rfl rfl rfl ?_; intro K hK; go_big_quiet_op; go_big_quiet_on
              refine rg_quiet rfl rfl rfl rfl ?_; intro K hK; go_big_quiet_op; go_big_quiet_on
              refine rg_quiet rfl rfl rfl rfl ?_; intro K hK; go_big_quiet_op; go_big_quiet_on
              refine rel_nil fun w5 hE5 _ => ?_
              obtain ⟨b0, hE⟩ := FIN.out w5 hE5
              clear x0 x1 x2 x3 x4 y7 hE5 FIN e0 e2 e3 
              go_wp2_with fail
              go_ret
              exact ⟨ret_bool HQ.out.symm, hE⟩
            · have e4 : decide (M.cell.at_ ≤ 0) = false := by simp at e3 ⊢ <;> omega
              have HQ : Hid (colsB none l = colsB (prevN l (0 + 1)) (l.drop (0 + 1))) := by show colsB none l = _; rw [HD.out, e0, ho.out, e2, e3, HN.out]; rfl
              refine rg_quiet rfl rfl rfl rfl ?_; intro K hK; go_big_quiet_op; go_big_quiet_on
              refine rg_quiet rfl rfl rfl rfl ?_; intro K hK; go_big_quiet_op; go_big_quiet_on
              refine rg_val [] rfl rfl rfl (by kernel_rfl) (fun w1 hE hf => ?_) ?_
              · go_simp
                exact (check_any _ _ _ _ w1).mono fun e w' ⟨he, hw⟩ => ⟨_, he, rg_done hE hw (bool_congr e2)⟩
              simp only [Act.put, List.setIfInBounds_toArray, List.set_cons_zero, List.set_cons_succ]
              refine rg_quiet rfl rfl rfl rfl ?_; intro K hK; go_big_quiet_op; go_big_quiet_on
              refine rg_quiet rfl rfl rfl rfl ?_; intro K hK; go_big_quiet_op; go_big_quiet_on
              refine rg_quiet rfl rfl rfl rfl ?_; intro K hK; go_big_quiet_op; go_big_quiet_on
              refine rg_quiet rfl rfl rfl rfl ?_; intro K hK; go_big_quiet_op; go_big_quiet_on
              refine rg_quiet rfl rfl rfl rfl ?_; intro K hK; go_big_quiet_op; go_big_quiet_on
              refine rg_quiet rfl rfl rfl rfl ?_; intro K hK; go_big_quiet_op; go_big_quiet_on
              refine rg_quiet rfl rfl rfl rfl ?_; intro K hK; go_big_quiet_op; go_big_quiet_on
              refine rg_quiet rfl rfl rfl rfl ?_; intro K hK; go_big_quiet_op; go_big_quiet_on
              refine rel_nil fun w5 hE5 _ => ?_
              obtain ⟨b0, hE⟩ := FIN.out w5 hE5
              clear x0 x1 x2 x3 x4 y7 hE5 FIN e0 e2 e3 
              go_wp2_with fail
              go_roundw
              case rel => exact ⟨0 + 1, by omega, by go_num, b0, hE, HQ.out⟩
              case measure => simp [intOf] <;> omega
        | succ j =>
          have hj : j < l.length := by omega
          obtain ⟨b', o', e', hp⟩ := HC.out j hj
          cases e'
          replace hp := held (hE.cell hp.c0)
          obtain ⟨Pn, hPn⟩ : ∃ Pn, Pn = l[j].name := ⟨_, rfl⟩
          rw [← hPn] at hp
          have HO : Hid (ordB (prevN l (j + 1)) M.name = Op.bytesLess Pn.toList M.name.toList) := by show ordB (prevN l (j + 1)) M.name = _; simp [prevN, hj, ordB, hPn]
          clear hPn
          have hw : IntKind.i64.wrap ((j : Int) + 1 - 1) = (j : Int) := by rw [IntKind.wrap_i64]; omega
          have hjl : decide ((j : Int) < (l.length : Int)) = true := by simpa using hj
          have hj0 : decide ((0 : Int) < (j : Int) + 1) = true := decide_eq_true (by omega)
          cases eo : Op.bytesLess Pn.toList M.name.toList
          · have ho : Hid (ordB (prevN l (j + 1)) M.name = false) := HO.out.trans eo
            have HQ : Hid (colsB none l = false) := by show colsB none l = false; rw [HD.out, e0, ho.out]; simp
            refine rg_quiet rfl rfl rfl rfl ?_; intro K hK; go_big_quiet_op; go_big_quiet_on
            refine rg_quiet rfl rfl rfl rfl ?_; intro K hK; go_big_quiet_op; go_big_quiet_on
            refine rg_val [] rfl rfl rfl (by kernel_rfl) (fun w1 hE hf => ?_) ?_
            · go_simp
              exact (name_lowB _ HML.out w1).mono fun e w' ⟨he, hw⟩ => ⟨_, he, rg_done hE hw (bool_congr e0)⟩
            simp only [Act.put, List.setIfInBounds_toArray, List.set_cons_zero, List.set_cons_succ]
            refine rg_quiet rfl rfl rfl rfl ?_; intro K hK; go_big_quiet_op; go_big_quiet_on
            refine rg_quiet rfl rfl rfl rfl ?_; intro K hK; go_big_quiet_op; go_big_quiet_on
            refine rg_quiet rfl rfl rfl rfl ?_; intro K hK; go_big_quiet_op; go_big_quiet_on
            refine rg_quiet rfl rfl rfl rfl ?_; intro K hK; go_big_quiet_op; go_big_quiet_on
            refine rg_quiet rfl rfl rfl rfl ?_; intro K hK; go_big_quiet_op; go_big_quiet_on
            refine rg_quiet rfl rfl rfl rfl ?_; intro K hK; go_big_quiet_op; go_big_quiet_on
            refine rg_quiet rfl rfl rfl rfl ?_; intro K hK; go_big_quiet_op; go_big_quiet_on
            refine rg_quiet rfl rfl rfl rfl ?_; intro K hK; go_big_quiet_op; go_big_quiet_on
            refine rg_quiet rfl rfl rfl rfl ?_; intro K hK; go_big_quiet_op; go_big_quiet_on
            refine rg_quiet rfl rfl rfl rfl ?_; intro K hK; go_big_quiet_op; go_big_quiet_on
            refine rg_quiet rfl rfl rfl rfl ?_; intro K hK; go_big_quiet_op; go_big_quiet_on
            refine rg_quiet rfl rfl rfl rfl ?_; intro K hK; go_big_quiet_op; go_big_quiet_on
            refine rg_quiet rfl rfl rfl rfl ?_; intro K hK; go_big_quiet_op; go_big_quiet_on
            refine rg_quiet rfl rfl rfl rfl ?_; intro K hK; go_big_quiet_op; go_big_quiet_on
            refine rg_quiet rfl rfl rfl rfl ?_; intro K hK; go_big_quiet_op; go_big_quiet_on
            refine rg_quiet rfl rfl rfl rfl ?_; intro K hK; go_big_quiet_op; go_big_quiet_on
            refine rg_quiet rfl rfl rfl rfl ?_; intro K hK; go_big_quiet_op; go_big_quiet_on
            refine rg_quiet rfl rfl rfl rfl ?_; intro K hK; go_big_quiet_op; go_big_quiet_on
            refine rel_skip rfl rfl ?_
            simp only [Act.put, List.setIfInBounds_toArray, List.set_cons_zero, List.set_cons_succ]
            refine rel_skip rfl rfl ?_
            simp only [Act.put, List.setIfInBounds_toArray, List.set_cons_zero, List.set_cons_succ]
            refine rel_skip rfl rfl ?_
            simp only [Act.put, List.setIfInBounds_toArray, List.set_cons_zero, List.set_cons_succ]
            refine rel_skip rfl rfl ?_
            simp only [Act.put, List.setIfInBounds_toArray, List.set_cons_zero, List.set_cons_succ]
            refine rg_quiet rfl rfl rfl rfl ?_; intro K hK; go_big_quiet_op; go_big_quiet_on
            refine rg_quiet rfl rfl rfl rfl ?_; intro K hK; go_big_quiet_op; go_big_quiet_on
            refine rel_skip rfl rfl ?_
            simp only [Act.put, List.setIfInBounds_toArray, List.set_cons_zero, List.set_cons_succ]
            refine rel_skip rfl rfl ?_
            simp only [Act.put, List.setIfInBounds_toArray, List.set_cons_zero, List.set_cons_succ]
            refine rel_skip rfl rfl ?_
            simp only [Act.put, List.setIfInBounds_toArray, List.set_cons_zero, List.set_cons_succ]
            refine rel_skip rfl rfl ?_
            simp only [Act.put, List.setIfInBounds_toArray, List.set_cons_zero, List.set_cons_succ]
            refine rg_quiet rfl rfl rfl rfl ?_; intro K hK; go_big_quiet_op; go_big_quiet_on
            refine rel_nil fun w5 hE5 _ => ?_
            obtain ⟨b0, hE⟩ := FIN.out w5 hE5
            clear x0 x1 x2 x3 x4 y7 hE5 FIN e0 eo hp
            go_wp2_with fail
            go_ret
            exact ⟨ret_bool HQ.out.symm, hE⟩
          · have ho : Hid (ordB (prevN l (j + 1)) M.name = true) := HO.out.trans eo
            refine rg_quiet rfl rfl rfl rfl ?_; intro K hK; go_big_quiet_op; go_big_quiet_on
            refine rg_quiet rfl rfl rfl rfl ?_; intro K hK; go_big_quiet_op; go_big_quiet_on
            refine rg_val [] rfl rfl rfl (by kernel_rfl) (fun w1 hE hf => ?_) ?_
            · go_simp
              exact (name_lowB _ HML.out w1).mono fun e w' ⟨he, hw⟩ => ⟨_, he, rg_done hE hw (bool_congr e0)⟩
            simp only [Act.put, List.setIfInBounds_toArray, List.set_cons_zero, List.set_cons_succ]
            refine rg_quiet rfl rfl rfl rfl ?_; intro K hK; go_big_quiet_op; go_big_quiet_on
            refine rg_quiet rfl rfl rfl rfl ?_; intro K hK; go_big_quiet_op; go_big_quiet_on
            refine rg_quiet rfl rfl rfl rfl ?_; intro K hK; go_big_quiet_op; go_big_quiet_on
            refine rg_quiet rfl rfl rfl rfl ?_; intro K hK; go_big_quiet_op; go_big_quiet_on
            refine rg_quiet rfl rfl rfl rfl ?_; intro K hK; go_big_quiet_op; go_big_quiet_on
            refine rg_quiet rfl rfl rfl rfl ?_; intro K hK; go_big_quiet_op; go_big_quiet_on
            refine rg_quiet rfl rfl rfl rfl ?_; intro K hK; go_big_quiet_op; go_big_quiet_on
            refine rg_quiet rfl rfl rfl rfl ?_; intro K hK; go_big_quiet_op; go_big_quiet_on
            refine rg_quiet rfl rfl rfl rfl ?_; intro K hK; go_big_quiet_op; go_big_quiet_on
            refine rg_quiet rfl rfl rfl rfl ?_; intro K hK; go_big_quiet_op; go_big_quiet_on
            refine rg_quiet rfl rfl rfl rfl ?_; intro K hK; go_big_quiet_op; go_big_quiet_on
            refine rg_quiet rfl rfl rfl rfl ?_; intro K hK; go_big_quiet_op; go_big_quiet_on
            refine rg_quiet rfl rfl rfl rfl ?_; intro K hK; go_big_quiet_op; go_big_quiet_on
            refine rg_quiet rfl rfl rfl rfl ?_; intro K hK; go_big_quiet_op; go_big_quiet_on
            refine rg_quiet rfl rfl rfl rfl ?_; intro K hK; go_big_quiet_op; go_big_quiet_on
            refine rg_quiet rfl rfl rfl rfl ?_; intro K hK; go_big_quiet_op; go_big_quiet_on
            refine rg_quiet rfl rfl rfl rfl ?_; intro K hK; go_big_quiet_op; go_big_quiet_on
            refine rg_quiet rfl rfl rfl rfl ?_; intro K hK; go_big_quiet_op; go_big_quiet_on
            cases e2 : checkC M.cell.val M.cell.dead M.cell.at_ M.cell.fin
            · have HQ : Hid (colsB none l = false) := by show colsB none l = false; rw [HD.out, e0, ho.out, e2]; simp
              refine rg_quiet rfl rfl rfl rfl ?_; intro K hK; go_big_quiet_op; go_big_quiet_on
              refine rg_quiet rfl rfl rfl rfl ?_; intro K hK; go_big_quiet_op; go_big_quiet_on
              refine rg_val [] rfl rfl rfl (by kernel_rfl) (fun w1 hE hf => ?_) ?_
              · go_simp
                exact (check_any _ _ _ _ w1).mono fun e w' ⟨he, hw⟩ => ⟨_, he, rg_done hE hw (bool_congr e2)⟩
              simp only [Act.put, List.setIfInBounds_toArray, List.set_cons_zero, List.set_cons_succ]
              refine rg_quiet rfl rfl rfl rfl ?_; intro K hK; go_big_quiet_op; go_big_quiet_on
              refine rg_quiet rfl rfl rfl rfl ?_; intro K hK; go_big_quiet_op; go_big_quiet_on
              refine rg_quiet rfl rfl rfl rfl ?_; intro K hK; go_big_quiet_op; go_big_quiet_on
              refine rel_skip rfl rfl ?_
              simp only [Act.put, List.setIfInBounds_toArray, List.set_cons_zero, List.set_cons_succ]
              refine rel_skip rfl rfl ?_
              simp only [Act.put, List.setIfInBounds_toArray, List.set_cons_zero, List.set_cons_succ]
              refine rel_skip rfl rfl ?_
              simp only [Act.put, List.setIfInBounds_toArray, List.set_cons_zero, List.set_cons_succ]
              refine rel_skip rfl rfl ?_
              simp only [Act.put, List.setIfInBounds_toArray, List.set_cons_zero, List.set_cons_succ]
              refine rg_quiet rfl rfl rfl rfl ?_; intro K hK; go_big_quiet_op; go_big_quiet_on
              refine rel_nil fun w5 hE5 _ => ?_
              obtain ⟨b0, hE⟩ := FIN.out w5 hE5
              clear x0 x1 x2 x3 x4 y7 hE5 FIN e0 e2 eo hp
              go_wp2_with fail
              go_ret
              exact ⟨ret_bool HQ.out.symm, hE⟩
            · cases e3 : decide (0 < M.cell.at_)
              · have e4 : decide (M.cell.at_ ≤ 0) = true := by simp at e3 ⊢ <;> omega
                have HQ : Hid (colsB none l = false) := by show colsB none l = false; rw [HD.out, e0, ho.out, e2, e3]; simp
                refine rg_quiet rfl rfl rfl rfl ?_; intro K hK; go_big_quiet_op; go_big_quiet_on
                refine rg_quiet rfl rfl rfl rfl ?_; intro K hK; go_big_quiet_op; go_big_quiet_on
                refine rg_val [] rfl rfl rfl (by kernel_rfl) (fun w1 hE hf => ?_) ?_
                · go_simp
                  exact (check_any _ _ _ _ w1).mono fun e w' ⟨he, hw⟩ => ⟨_, he, rg_done hE hw (bool_congr e2)⟩
                simp only [Act.put, List.setIfInBounds_toArray, List.set_cons_zero, List.set_cons_succ]
                refine rg_quiet rfl rfl rfl rfl ?_; intro K hK; go_big_quiet_op; go_big_quiet_on
                refine rg_quiet rfl rfl rfl rfl ?_; intro K hK; go_big_quiet_op; go_big_quiet_on
                refine rg_quiet rfl rfl rfl rfl ?_; intro K hK; go_big_quiet_op; go_big_quiet_on
                refine rg_quiet rfl rfl rfl rfl ?_; intro K hK; go_big_quiet_op; go_big_quiet_on
                refine rg_quiet rfl rfl rfl rfl ?_; intro K hK; go_big_quiet_op; go_big_quiet_on
                refine rg_quiet rfl rfl rfl rfl ?_; intro K hK; go_big_quiet_op; go_big_quiet_on
                refine rg_quiet rfl rfl rfl rfl ?_; intro K hK; go_big_quiet_op; go_big_quiet_on
                refine rg_quiet rfl rfl rfl rfl ?_; intro K hK; go_big_quiet_op; go_big_quiet_on
                refine rel_nil fun w5 hE5 _ => ?_
                obtain ⟨b0, hE⟩ := FIN.out w5 hE5
                clear x0 x1 x2 x3 x4 y7 hE5 FIN e0 e2 e3 eo hp
                go_wp2_with fail
                go_ret
                exact ⟨ret_bool HQ.out.symm, hE⟩
              · have e4 : decide (M.cell.at_ ≤ 0) = false := by simp at e3 ⊢ <;> omega
                have HQ : Hid (colsB none l = colsB (prevN l ((j + 1) + 1)) (l.drop ((j + 1) + 1))) := by show colsB none l = _; rw [HD.out, e0, ho.out, e2, e3, HN.out]; rfl
                refine rg_quiet rfl rfl rfl rfl ?_; intro K hK; go_big_quiet_op; go_big_quiet_on
                refine rg_quiet rfl rfl rfl rfl ?_; intro K hK; go_big_quiet_op; go_big_quiet_on
                refine rg_val [] rfl rfl rfl (by kernel_rfl) (fun w1 hE hf => ?_) ?_
                · go_simp
                  exact (check_any _ _ _ _ w1).mono fun e w' ⟨he, hw⟩ => ⟨_, he, rg_done hE hw (bool_congr e2)⟩
                simp only [Act.put, List.setIfInBounds_toArray, List.set_cons_zero, List.set_cons_succ]
                refine rg_quiet rfl rfl rfl rfl ?_; intro K hK; go_big_quiet_op; go_big_quiet_on
                refine rg_quiet rfl rfl rfl rfl ?_; intro K hK; go_big_quiet_op; go_big_quiet_on
                refine rg_quiet rfl rfl rfl rfl ?_; intro K hK; go_big_quiet_op; go_big_quiet_on
                refine rg_quiet rfl rfl rfl rfl ?_; intro K hK; go_big_quiet_op; go_big_quiet_on
                refine rg_quiet rfl rfl rfl rfl ?_; intro K hK; go_big_quiet_op; go_big_quiet_on
                refine rg_quiet rfl rfl rfl rfl ?_; intro K hK; go_big_quiet_op; go_big_quiet_on
                refine rg_quiet rfl rfl rfl rfl ?_; intro K hK; go_big_quiet_op; go_big_quiet_on
                refine rg_quiet rfl rfl rfl rfl ?_; intro K hK; go_big_quiet_op; go_big_quiet_on
                refine rel_nil fun w5 hE5 _ => ?_
                obtain ⟨b0, hE⟩ := FIN.out w5 hE5
                clear x0 x1 x2 x3 x4 y7 hE5 FIN e0 e2 e3 eo hp
                go_wp2_with fail
                go_roundw
                case rel => exact ⟨(j + 1) + 1, by omega, by go_num, b0, hE, HQ.out⟩
                case measure => simp [intOf] <;> omega
    · obtain rfl : k = l.length := by omega
      have HQ : Hid (colsB none l = true) := by show colsB none l = true; rw [HX.out, List.drop_length]; rfl
      go_wp2_with fail
      go_ret
      exact ⟨ret_bool HQ.out.symm, hE⟩
end Go.Proofs.YteamiiekpjoclaaDoor

/- row.Check whole; clerestorylaw07.awake. -/
namespace Go.Proofs.YteamiiekpjoclaaDoor
open Go Go.RowKit
attribute [local go_sem] yields yUpon ro8

theorem rcheck_any (r : Ro) (v : Value) (w : World) (hin : ColsIn w v r.cols) (hlow : ∀ k (h : k < r.cols.length), Low (r.cols[k]'h).name) :
    Calls Tryd.prog 9 #[(.agg #[.string r.key, .string r.live.val, .bool r.live.dead, .int .i64 r.live.at_, .int .i64 r.live.fin, .int .i64 r.gone, .int .i64 r.shade, v])] w fun e w' => e = .returned (.bool (rowB r)) ∧ Ext w w' := by
  rcases head_cases r with h | h
  · have e : rowB r = colsB none r.cols := by unfold rowB; rw [h]; rfl
    rw [e]
    exact rcheck_good r v w hin h hlow
  · have e : rowB r = false := by unfold rowB; rw [h]; rfl
    rw [e]
    exact rcheck_bad r v w hin h
theorem cols_one (w : World) (c : Co) (T : TypeId) : ColsIn (w.alloc (.cells (co5 c) T)) (.slice (some ⟨w.heap.size, 0, none⟩) 1 1) [c] :=
  SliceIn.made w (co5 c) T 1 (by unfold maxLen; decide)
theorem low_one (s : ByteArray) (h : s = ⟨#[97]⟩) : Low s := by subst h; exact ⟨by decide, by decide⟩

def awR : Ro := ⟨⟨#[107]⟩, zeroCl, 5, 0, [⟨⟨#[97]⟩, ⟨⟨#[120]⟩, false, 5, 0⟩⟩]⟩
def awR2 : Ro := ⟨⟨#[]⟩, zeroCl, 0, 0, [⟨⟨#[97]⟩, ⟨⟨#[120]⟩, false, 5, 0⟩⟩]⟩
set_option maxRecDepth 100000 in
set_option maxHeartbeats 2000000 in
theorem rawake_any (w : World) :
    Calls Tryd.prog 10 #[] w fun e w' => e = .returned (.bool true) ∧ Ext w w' := by
  have q1 : bestB (cellOf awR.cols ⟨#[97]⟩) (max awR.gone 0) = false := by simp [awR, cellOf, bestB]; decide
  have q2 : bestB (cellOf awR2.cols ⟨#[97]⟩) (max awR2.gone 4) = true := by simp [awR2, cellOf, bestB]; decide
  have q3 : rowB awR = true := by simp [awR, rowB, headB, colsB, ordB, lowB, checkC, stampB, zeroCl, ByteArray.toList_eq, ByteArray.size]
  have q4 : max awR.gone 9 = 9 := by decide
  have Q1 := Lib.hid q1
  have Q2 := Lib.hid q2
  have Q3 := Lib.hid q3
  have Q4 := Lib.hid q4
  clear q1 q2 q3 q4
  obtain ⟨vs, hvs⟩ : ∃ vs : Value, vs = .slice (some ⟨w.heap.size, 0, none⟩) 1 1 := ⟨_, rfl⟩
  have hin : ColsIn ((w.alloc (.cells (co5 ⟨⟨#[97]⟩, ⟨⟨#[120]⟩, false, 5, 0⟩⟩) 80)).alloc (.cells (ro8 awR (.slice (some ⟨w.heap.size, 0, none⟩) 1 1)) 26)) (.slice (some ⟨w.heap.size, 0, none⟩) 1 1) awR.cols := (cols_one w _ _).ext ((Ext.refl _).alloc _)
  obtain ⟨_, hbox, hE⟩ := boxes2 w (co5 ⟨⟨#[97]⟩, ⟨⟨#[120]⟩, false, 5, 0⟩⟩) (ro8 awR (.slice (some ⟨w.heap.size, 0, none⟩) 1 1)) 80 26
  clear hvs
  go_enter Tryd.func10, Tryd.ntmps10
  go_wp2_with fail
  refine (best_any awR (.slice (some ⟨w.heap.size, 0, none⟩) 1 1) 0 ⟨#[97]⟩ _ hin).mono ?_
  rw [Q1.out]
  rintro e w1 ⟨rfl, hE1⟩
  replace hin := hin.ext hE1
  replace hbox := hbox.ext hE1
  replace hE := hE.trans hE1
  clear hE1
  have y := hbox.allocs
  go_wp2_with fail
  refine (best_any awR2 (.slice (some ⟨w.heap.size, 0, none⟩) 1 1) 4 ⟨#[97]⟩ _ (hin.ext ((Ext.refl _).alloc _))).mono ?_
  rw [Q2.out]
  rintro e w2 ⟨rfl, hE2⟩
  replace hin := (hin.ext ((Ext.refl _).alloc _)).ext hE2
  replace hbox := (hbox.ext ((Ext.refl _).alloc _)).ext hE2
  replace hE := (hE.alloc _).trans hE2
  clear hE2 y
  have y := hbox.allocs
  go_wp2_with fail
  refine (rcheck_any awR (.slice (some ⟨w.heap.size, 0, none⟩) 1 1) _ (hin.ext ((Ext.refl _).alloc _)) (fun k hk => by
    obtain rfl : k = 0 := by simp [awR] at hk; omega
    exact low_one _ rfl)).mono ?_
  rw [Q3.out]
  rintro e w3 ⟨rfl, hE3⟩
  replace hbox := (hbox.ext ((Ext.refl _).alloc _)).ext hE3
  replace hE := (hE.alloc _).trans hE3
  clear hE3 y
  have y : ∀ i, w3.cell? ⟨w.heap.size + 1, i, none⟩ = (ro8 awR (.slice (some ⟨w.heap.size, 0, none⟩) 1 1))[i]? := fun i => hbox.cell i
  go_wp2_with fail
  refine (rgone_any awR (.slice (some ⟨w.heap.size, 0, none⟩) 1 1) 9 _).mono ?_
  rw [Q4.out]
  rintro e w4 ⟨rfl, hE4⟩
  go_wp2
  go_ret
  exact ⟨rfl, hE.trans hE4⟩
end Go.Proofs.YteamiiekpjoclaaDoor

/- Rows by numbers may be; what spoils one. -/
namespace Go.Proofs.YteamiiekpjoclaaDoor
open Go Go.RowKit

def lastN (p : Option ByteArray) : List Co → Option ByteArray
  | [] => p
  | c :: l => lastN (some c.name) l
theorem colsB_snoc (c : Co) : ∀ (l : List Co) (p : Option ByteArray), colsB p (l ++ [c]) = (colsB p l && (lowB c.name && ordB (lastN p l) c.name && checkC c.cell.val c.cell.dead c.cell.at_ c.cell.fin && decide (0 < c.cell.at_)))
  | [], p => by simp [colsB, lastN]
  | d :: l, p => by
    rw [List.cons_append, colsB, colsB_snoc c l, colsB, lastN]
    simp only [Bool.and_assoc]
theorem lastN_snoc (c : Co) : ∀ (l : List Co) (p : Option ByteArray), lastN p (l ++ [c]) = some c.name
  | [], p => rfl
  | d :: l, p => by rw [List.cons_append, lastN, lastN_snoc c l]
theorem nm_low (k : Nat) : Low (nmK k) ∧ lowB (nmK k) = true := by
  match k with
  | 0 => exact ⟨⟨by decide, by decide⟩, by decide⟩
  | 1 => exact ⟨⟨by decide, by decide⟩, by decide⟩
  | 2 => exact ⟨⟨by decide, by decide⟩, by decide⟩
  | k + 3 =>
    have e : Low (⟨#[100]⟩ : ByteArray) ∧ lowB ⟨#[100]⟩ = true := ⟨⟨by decide, by decide⟩, by decide⟩
    exact e
theorem gen_cols {k : Nat} {l : List Co} (h : GenCols k l) : k ≤ 4 → colsB none l = true ∧ (lastN none l = none ∨ ∃ j, j < k ∧ lastN none l = some (nmK j)) ∧ ∀ c ∈ l, Low c.name := by
  induction h with
  | nil => intro _; exact ⟨rfl, .inl rfl, fun c h => by cases h⟩
  | skip _ ih =>
    intro hk
    obtain ⟨h1, h2, h3⟩ := ih (by omega)
    exact ⟨h1, h2.imp id fun ⟨j, hj, e⟩ => ⟨j, by omega, e⟩, h3⟩
  | @put k l n _ hn ih =>
    intro hk
    obtain ⟨h1, h2, h3⟩ := ih (by omega)
    obtain ⟨c1, c2⟩ := cellN_ok n hn
    refine ⟨?_, .inr ⟨k, by omega, lastN_snoc _ l none⟩, ?_⟩
    · rw [colsB_snoc, h1]
      have ho : ordB (lastN none l) (nmK k) = true := by
        rcases h2 with e | ⟨j, hj, e⟩
        · rw [e]; rfl
        · rw [e]; exact nm_less j k hj (by omega)
      simp only [ho, c1, (nm_low k).2, Bool.true_and]
      simpa using c2
    · intro c hc
      rcases List.mem_append.1 hc with hc | hc
      · exact h3 c hc
      · obtain rfl : c = ⟨nmK k, cellN n⟩ := by simpa using hc
        exact (nm_low k).1
theorem gen_row {r : Ro} (h : GenRow r) (hk : r.key.size ≤ 400) : rowB r = true ∧ headB r = true ∧ (∀ c ∈ r.cols, Low c.name) ∧ colsB none r.cols = true ∧ r.cols.length ≤ 4 := by
  obtain ⟨h1, _, h3⟩ := gen_cols h.cols (Nat.le_refl 4)
  have hl := h.cols.len
  have hh : headB r = true := by
    obtain ⟨⟨lv, ld, ll⟩, ⟨g0, g1⟩, s0, _⟩ := h
    have e : r.live.val.toList = [] := by rw [lv]; simp [ByteArray.toList_eq]
    have hc : checkC r.live.val r.live.dead r.live.at_ r.live.fin = true := by
      rw [ld]
      unfold checkC stampB
      have hv : r.live.val.size ≤ 100 := by rw [lv]; decide
      rcases ll with ⟨a, b⟩ | ⟨a, b, c, d⟩
      · rw [a, b, e]; simp
      · have : ¬ r.live.at_ = 0 := by omega
        simp [this, hv]
        omega
    unfold headB
    rw [hc, ld, e, s0]
    unfold stampB
    simp
    omega
  exact ⟨by unfold rowB; rw [hh, h1]; rfl, hh, h3, h1, hl⟩
theorem low_get {l : List Co} (h : ∀ c ∈ l, Low c.name) : ∀ k (hk : k < l.length), Low (l[k]'hk).name := fun k hk => h _ (List.getElem_mem hk)

/-! ### What spoils a row -/
def spA : Co := ⟨⟨#[97]⟩, ⟨⟨#[]⟩, false, 1, 0⟩⟩
def spE : Co := ⟨⟨#[]⟩, ⟨⟨#[]⟩, false, 1, 0⟩⟩
def spZ : Co := ⟨⟨#[122]⟩, zeroCl⟩
theorem sp0 (l : List Co) : colsB none (l ++ [spA, spA]) = false := by
  rw [show l ++ [spA, spA] = (l ++ [spA]) ++ [spA] by simp, colsB_snoc, lastN_snoc]
  have : ordB (some spA.name) spA.name = false := by simp [ordB, spA, ByteArray.toList_eq]; decide
  rw [this]
  simp
theorem sp1 (l : List Co) : colsB none ([spE] ++ l) = false := by
  simp [colsB, spE, lowB, ByteArray.size]
theorem sp2 (l : List Co) : colsB none (l ++ [spZ]) = false := by
  rw [colsB_snoc]
  simp [spZ, zeroCl]
theorem rowB_cols {r : Ro} (h : colsB none r.cols = false) : rowB r = false := by unfold rowB; rw [h]; simp
theorem rowB_head {r : Ro} (h : headB r = false) : rowB r = false := by unfold rowB; rw [h]; rfl
end Go.Proofs.YteamiiekpjoclaaDoor
