/- cell.stamp, cell.Check. -/
import Derived.Test.YtimbikbbbfpeeaaGreatDoorP3
import Derived.Test.YtimbikbbbfpeeaaGreatDoorP22
set_option linter.unusedSimpArgs false
set_option linter.unusedVariables false
namespace Go.Proofs.YtimbikbbbfpeeaaGreatDoor
open Go Go.RowKit

set_option maxHeartbeats 400000 in
theorem stamp_any (v : Int) (w : World) : Calls Tryz.prog 208 #[.int .i64 v] w fun e w' => e = .returned (.bool (stampB v)) ∧ w = w' := by
  by_cases h : 0 ≤ v
  all_goals
    go_enter Tryz.func208, Tryz.ntmps208
    go_wp2
    go_ret
    exact ⟨by unfold stampB; simp [h] <;> omega, rfl⟩

set_option maxHeartbeats 400000 in
theorem check_any (v : ByteArray) (d : Bool) (a e : Int) (w : World) :
    Calls Tryz.prog 174 #[.agg #[.string v, .bool d, .int .i64 a, .int .i64 e]] w fun r w' =>
      r = .returned (.bool (checkC v d a e)) ∧ Ext w w' := by
  go_enter Tryz.func174, Tryz.ntmps174
  cases h1 : stampB a <;> cases h2 : stampB e
  all_goals
    go_wp2_with (go_at_call 208; go_must (refine (stamp_any _ _).mono ?_); rintro r w1 ⟨rfl, rfl⟩)
  all_goals
    go_ret
    refine ⟨?_, (Ext.refl w).alloc _⟩
    refine ret_bool ?_
    go_light
    simp_all [checkC] <;> omega
end Go.Proofs.YtimbikbbbfpeeaaGreatDoor

/- row.Check, of rows whose names are small letters. -/
namespace Go.Proofs.YtimbikbbbfpeeaaGreatDoor
open Go Go.RowKit
attribute [local go_sem] yields yUpon

def ordB : Option ByteArray → ByteArray → Bool
  | none, _ => true
  | some q, n => Op.bytesLess q.toList n.toList
def colsB : Option ByteArray → List Co → Bool
  | _, [] => true
  | p, c :: l => lowB c.name && ordB p c.name && checkC c.cell.val c.cell.dead c.cell.at_ c.cell.fin && decide (0 < c.cell.at_) && colsB (some c.name) l
def prevN (l : List Co) : Nat → Option ByteArray
  | 0 => none
  | k + 1 => (l[k]?).map (·.name)
def headB (r : Ro) : Bool := !decide (400 < (r.key.size : Int)) && checkC r.live.val r.live.dead r.live.at_ r.live.fin && (r.live.val.toList == []) && !r.live.dead && stampB r.gone && stampB r.shade && !decide (8 < (r.cols.length : Int))
def rowB (r : Ro) : Bool := headB r && colsB none r.cols

set_option maxHeartbeats 400000 in
theorem rstamp_any (v : Int) (w : World) : Calls Tryz.prog 175 #[.int .i64 v] w fun e w' => e = .returned (.bool (stampB v)) ∧ w = w' := by
  by_cases h : 0 ≤ v
  all_goals
    go_enter Tryz.func175, Tryz.ntmps175
    go_wp2
    go_ret
    exact ⟨by unfold stampB; simp [h] <;> omega, rfl⟩


theorem head_cases (r : Ro) : headB r = true ∨ headB r = false := by cases headB r <;> simp

set_option maxRecDepth 100000 in
set_option maxHeartbeats 4000000 in
theorem rcheck_bad (r : Ro) (v : Value) (w : World) (hin : ColsIn w v r.cols) (hb : headB r = false) :
    Calls Tryz.prog 124 #[(.agg #[.string r.key, .string r.live.val, .bool r.live.dead, .int .i64 r.live.at_, .int .i64 r.live.fin, .int .i64 r.gone, .int .i64 r.shade, v])] w fun e w' => e = .returned (.bool false) ∧ Ext w w' := by
  obtain ⟨a, c, rfl, hc, hcm, hcell⟩ := hin.get
  clear hcell hin
  obtain ⟨key, ⟨val, dead, at_, fin⟩, gone, shade, cols⟩ := r
  have b0 : BoxAt (w.alloc (.cells (ro8 ⟨key, ⟨val, dead, at_, fin⟩, gone, shade, cols⟩ (.slice a cols.length c)) 66)) w.heap.size (ro8 ⟨key, ⟨val, dead, at_, fin⟩, gone, shade, cols⟩ (.slice a cols.length c)) 66 := BoxAt.made w _ _
  have hE0 : Ext w (w.alloc (.cells (ro8 ⟨key, ⟨val, dead, at_, fin⟩, gone, shade, cols⟩ (.slice a cols.length c)) 66)) := (Ext.refl w).alloc _
  obtain ⟨n, hn⟩ : ∃ n, n = cols.length := ⟨_, rfl⟩
  unfold headB at hb
  dsimp only at hb hc ⊢
  rw [← hn] at hb hc b0 hE0 ⊢
  clear hn
  cases c1 : decide (400 < (key.size : Int))
  · cases c2 : checkC val dead at_ fin
    · clear hb
      go_enter Tryz.func124, Tryz.ntmps124
      go_wp2_with (first
        | (go_at_call 174; go_must (refine (check_any _ _ _ _ _).mono ?_; rw [c2];rintro e w1 ⟨rfl, hE1⟩; replace hE0 := hE0.trans hE1; replace b0 := b0.ext hE1; obtain ⟨y0, y1, y2, y3, y4, y5, y6, y7⟩ := b0.ro))
        | (go_at_call 175; go_must (refine (rstamp_any _ _).mono ?_); rintro e w2 ⟨rfl, rfl⟩))
      go_ret
      exact ⟨rfl, by first | exact hE0 | exact Ext.refl _⟩
    · cases c3 : (val.toList == [])
      · clear hb
        go_enter Tryz.func124, Tryz.ntmps124
        go_wp2_with (first
          | (go_at_call 174; go_must (refine (check_any _ _ _ _ _).mono ?_; rw [c2];rintro e w1 ⟨rfl, hE1⟩; replace hE0 := hE0.trans hE1; replace b0 := b0.ext hE1; obtain ⟨y0, y1, y2, y3, y4, y5, y6, y7⟩ := b0.ro))
          | (go_at_call 175; go_must (refine (rstamp_any _ _).mono ?_); rintro e w2 ⟨rfl, rfl⟩))
        go_ret
        exact ⟨rfl, by first | exact hE0 | exact Ext.refl _⟩
      · cases dead
        · cases c5 : stampB gone
          · clear hb
            go_enter Tryz.func124, Tryz.ntmps124
            go_wp2_with (first
              | (go_at_call 174; go_must (refine (check_any _ _ _ _ _).mono ?_; rw [c2];rintro e w1 ⟨rfl, hE1⟩; replace hE0 := hE0.trans hE1; replace b0 := b0.ext hE1; obtain ⟨y0, y1, y2, y3, y4, y5, y6, y7⟩ := b0.ro))
              | (go_at_call 175; go_must (refine (rstamp_any _ _).mono ?_); rw [c5];rintro e w2 ⟨rfl, rfl⟩))
            go_ret
            exact ⟨rfl, by first | exact hE0 | exact Ext.refl _⟩
          · cases c6 : stampB shade
            · clear hb
              go_enter Tryz.func124, Tryz.ntmps124
              go_wp2_with (first
                | (go_at_call 174; go_must (refine (check_any _ _ _ _ _).mono ?_; rw [c2];rintro e w1 ⟨rfl, hE1⟩; replace hE0 := hE0.trans hE1; replace b0 := b0.ext hE1; obtain ⟨y0, y1, y2, y3, y4, y5, y6, y7⟩ := b0.ro))
                | (go_at_call 175; go_must (refine (rstamp_any _ _).mono ?_); (first | rw [c5] | rw [c6]);rintro e w2 ⟨rfl, rfl⟩))
              go_ret
              exact ⟨rfl, by first | exact hE0 | exact Ext.refl _⟩
            · have c7 : decide (8 < (n : Int)) = true := by rw [c1, c2, c3, c5, c6] at hb; simpa using hb
              clear hb
              go_enter Tryz.func124, Tryz.ntmps124
              go_wp2_with (first
                | (go_at_call 174; go_must (refine (check_any _ _ _ _ _).mono ?_; rw [c2];rintro e w1 ⟨rfl, hE1⟩; replace hE0 := hE0.trans hE1; replace b0 := b0.ext hE1; obtain ⟨y0, y1, y2, y3, y4, y5, y6, y7⟩ := b0.ro))
                | (go_at_call 175; go_must (refine (rstamp_any _ _).mono ?_); (first | rw [c5] | rw [c6]);rintro e w2 ⟨rfl, rfl⟩))
              go_ret
              exact ⟨rfl, by first | exact hE0 | exact Ext.refl _⟩
        · clear hb
          go_enter Tryz.func124, Tryz.ntmps124
          go_wp2_with (first
            | (go_at_call 174; go_must (refine (check_any _ _ _ _ _).mono ?_; rw [c2];rintro e w1 ⟨rfl, hE1⟩; replace hE0 := hE0.trans hE1; replace b0 := b0.ext hE1; obtain ⟨y0, y1, y2, y3, y4, y5, y6, y7⟩ := b0.ro))
            | (go_at_call 175; go_must (refine (rstamp_any _ _).mono ?_); rintro e w2 ⟨rfl, rfl⟩))
          go_ret
          exact ⟨rfl, by first | exact hE0 | exact Ext.refl _⟩
  · clear hb
    go_enter Tryz.func124, Tryz.ntmps124
    go_wp2_with (first
      | (go_at_call 174; go_must (refine (check_any _ _ _ _ _).mono ?_; rintro e w1 ⟨rfl, hE1⟩; replace hE0 := hE0.trans hE1; replace b0 := b0.ext hE1; obtain ⟨y0, y1, y2, y3, y4, y5, y6, y7⟩ := b0.ro))
      | (go_at_call 175; go_must (refine (rstamp_any _ _).mono ?_); rintro e w2 ⟨rfl, rfl⟩))
    go_ret
    exact ⟨rfl, by first | exact hE0 | exact Ext.refl _⟩
end Go.Proofs.YtimbikbbbfpeeaaGreatDoor

/- row.Check: the columns. -/
namespace Go.Proofs.YtimbikbbbfpeeaaGreatDoor
open Go Go.RowKit
attribute [local go_sem] yields yUpon

theorem headB_parts {r : Ro} (h : headB r = true) : decide (400 < (r.key.size : Int)) = false ∧ checkC r.live.val r.live.dead r.live.at_ r.live.fin = true ∧ (r.live.val.toList == []) = true ∧ r.live.dead = false ∧ stampB r.gone = true ∧ stampB r.shade = true ∧ decide (8 < (r.cols.length : Int)) = false := by
  unfold headB at h
  simp only [Bool.and_eq_true, Bool.not_eq_true'] at h
  obtain ⟨⟨⟨⟨⟨⟨a, b⟩, c⟩, d⟩, e⟩, f⟩, g⟩ := h
  exact ⟨a, b, c, d, e, f, g⟩
theorem colsB_cons (p : Option ByteArray) (M : Co) (R : List Co) : colsB p (M :: R) = (lowB M.name && ordB p M.name && checkC M.cell.val M.cell.dead M.cell.at_ M.cell.fin && decide (0 < M.cell.at_) && colsB (some M.name) R) := rfl
theorem prevN_succ {l : List Co} {k : Nat} {M : Co} {R : List Co} (hd : l.drop k = M :: R) : prevN l (k + 1) = some M.name := by
  have hk : k < l.length := by
    rcases Nat.lt_or_ge k l.length with h | h
    · exact h
    · rw [List.drop_eq_nil_of_le h] at hd; cases hd
  have e : l[k] = M := by rw [List.drop_eq_getElem_cons hk] at hd; exact (List.cons.inj hd).1
  simp [prevN, hk, e]

set_option maxRecDepth 100000 in
set_option maxHeartbeats 8000000 in
theorem rcheck_good (r : Ro) (v : Value) (w : World) (hin : ColsIn w v r.cols) (hb : headB r = true) (hlow : ∀ k (h : k < r.cols.length), Low (r.cols[k]'h).name) :
    Calls Tryz.prog 124 #[(.agg #[.string r.key, .string r.live.val, .bool r.live.dead, .int .i64 r.live.at_, .int .i64 r.live.fin, .int .i64 r.gone, .int .i64 r.shade, v])] w fun e w' => e = .returned (.bool (colsB none r.cols)) ∧ Ext w w' := by
  obtain ⟨a, c, rfl, hc, hcm, hcell⟩ := hin.get
  obtain ⟨c1, c2, c3, c4, c5, c6, c7⟩ := headB_parts hb
  clear hin hb
  obtain ⟨key, ⟨val, dead, at_, fin⟩, gone, shade, l⟩ := r
  dsimp only at hcell hc c1 c2 c3 c4 c5 c6 c7 hlow ⊢
  subst c4
  have HC := Lib.hid hcell
  have HLow := Lib.hid hlow
  clear hcell hlow
  have b0 : BoxAt (w.alloc (.cells (ro8 ⟨key, ⟨val, false, at_, fin⟩, gone, shade, l⟩ (.slice a l.length c)) 66)) w.heap.size (ro8 ⟨key, ⟨val, false, at_, fin⟩, gone, shade, l⟩ (.slice a l.length c)) 66 := BoxAt.made w _ _
  have hE0 : Ext w (w.alloc (.cells (ro8 ⟨key, ⟨val, false, at_, fin⟩, gone, shade, l⟩ (.slice a l.length c)) 66)) := (Ext.refl w).alloc _
  go_enter Tryz.func124, Tryz.ntmps124
  go_wp2_with (first
    | (go_at_call 174; go_must (refine (check_any _ _ _ _ _).mono ?_; rw [c2]; rintro e w1 ⟨rfl, hE1⟩; replace hE0 := hE0.trans hE1; replace b0 := b0.ext hE1; obtain ⟨y0, y1, y2, y3, y4, y5, y6, y7⟩ := b0.ro))
    | (go_at_call 175; go_must (refine (rstamp_any _ _).mono ?_); (first | rw [c5] | rw [c6]); rintro e w2 ⟨rfl, rfl⟩))
  clear y0 y1 y2 y3 y4 y5 y6 y7 c1 c2 c3 c5 c6 c7
  obtain ⟨wz, rfl⟩ : ∃ w', w' = w1 := ⟨_, rfl⟩
  go_loopw [47] (fun i wr => ∃ k : Nat, k ≤ l.length ∧ i = .int .i64 k ∧ BoxAt wr w.heap.size (ro8 ⟨key, ⟨val, false, at_, fin⟩, gone, shade, l⟩ (.slice a l.length c)) 66 ∧ Ext w wr ∧ Hid (colsB none l = colsB (prevN l k) (l.drop k))) (fun i _ => l.length - (intOf i).toNat)
  case atStart => exact ⟨0, Nat.zero_le _, rfl, b0, hE0, rfl⟩
  case round =>
    clear b0 hE0
    obtain ⟨k, hk, rfl, hbox, hE, HX⟩ := hrel
    by_cases hlt : k < l.length
    · obtain ⟨b, o, rfl, hco⟩ := HC.out k hlt
      obtain ⟨M, hM⟩ : ∃ M, M = l[k] := ⟨_, rfl⟩
      have hML := HLow.out k hlt
      rw [← hM] at hco hML
      have hD : l.drop k = M :: l.drop (k + 1) := by rw [hM]; exact List.drop_eq_getElem_cons hlt
      clear hM
      have HN := Lib.hid (prevN_succ hD)
      have HD := Lib.hid (HX.out.trans ((congrArg (colsB (prevN l k)) hD).trans (colsB_cons _ _ _)))
      have HML := Lib.hid hML
      clear hD HX hML
      replace hco := hco.ext hE
      obtain ⟨g0, g1, g2, g3, g4⟩ := hco
      have y7 := hbox.allocs
      go_wp2_with fail
      refine wp_region_in 32 [(2, fun v _ => v = .bool (lowB M.name)), (23, fun v _ => v = .bool (checkC M.cell.val M.cell.dead M.cell.at_ M.cell.fin))] (fun w0 => BoxAt w0 wr.heap.size (co5 M) 216 ∧ BoxAt w0 w.heap.size (ro8 ⟨key, ⟨val, false, at_, fin⟩, gone, shade, l⟩ (.slice (some ⟨b, o, none⟩) l.length c)) 66 ∧ Ext w w0) (by kernel_rfl) (by kernel_rfl) (by kernel_rfl) ⟨stays_eq _, stays_eq _, trivial⟩ ?_ ?_
      · exact ⟨BoxAt.made _ _ _, hbox.ext ((Ext.refl _).alloc _), hE.alloc _⟩
      clear hbox hE g0 g1 g2 g3 g4 y7
      rintro w2 ⟨b2, b0, hE⟩
      have FIN : Hid (∀ wx, Ext w2 wx → BoxAt wx w.heap.size (ro8 ⟨key, ⟨val, false, at_, fin⟩, gone, shade, l⟩ (.slice (some ⟨b, o, none⟩) l.length c)) 66 ∧ Ext w wx) := fun wx h => ⟨b0.ext h, hE.trans h⟩
      obtain ⟨x0, x1, x2, x3, x4⟩ := b2.co
      obtain ⟨_, _, _, _, _, _, _, y7⟩ := b0.ro
      clear b2 b0
      replace x0 := held x0
      replace x1 := held x1
      replace x2 := held x2
      replace x3 := held x3
      replace x4 := held x4
      replace y7 := held y7
      cases e0 : lowB M.name
      · have HQ : Hid (colsB none l = false) := by show colsB none l = false; rw [HD.out, e0]; simp
        refine rg_quiet rfl rfl rfl rfl ?_; intro K hK; go_big_quiet_op; go_big_quiet_on
        refine rg_quiet rfl rfl rfl rfl ?_; intro K hK; go_big_quiet_op; go_big_quiet_on
        refine rg_val [] rfl rfl rfl (by kernel_rfl) (fun w1 hE hf => ?_) ?_
        · go_simp
          exact (name_lowB _ HML.out w1).mono fun e w' ⟨he, hw⟩ => ⟨_, he, rg_done hE hw (bool_congr e0)⟩
        simp only [Act.put, List.setIfInBounds_toArray, List.set_cons_zero, List.set_cons_succ]
        refine rg_quiet rfl rfl rfl rfl ?_; intro K hK; go_big_quiet_op; go_big_quiet_on
        refine rg_quiet rfl rfl rfl rfl ?_; intro K hK; go_big_quiet_op; go_big_quiet_on
        refine rel_skip rfl rfl ?_
        simp only [Act.put, List.setIfInBounds_toArray, List.set_cons_zero, List.set_cons_succ]
        refine rel_skip rfl rfl ?_
        simp only [Act.put, List.setIfInBounds_toArray, List.set_cons_zero, List.set_cons_succ]
        refine rel_skip rfl rfl ?_
        simp only [Act.put, List.setIfInBounds_toArray, List.set_cons_zero, List.set_cons_succ]
        refine rel_skip rfl rfl ?_
        simp only [Act.put, List.setIfInBounds_toArray, List.set_cons_zero, List.set_cons_succ]
        refine rel_skip rfl rfl ?_
        simp only [Act.put, List.setIfInBounds_toArray, List.set_cons_zero, List.set_cons_succ]
        refine rel_skip rfl rfl ?_
        simp only [Act.put, List.setIfInBounds_toArray, List.set_cons_zero, List.set_cons_succ]
        refine rel_skip rfl rfl ?_
        simp only [Act.put, List.setIfInBounds_toArray, List.set_cons_zero, List.set_cons_succ]
        refine rel_skip rfl rfl ?_
        simp only [Act.put, List.setIfInBounds_toArray, List.set_cons_zero, List.set_cons_succ]
        refine rel_skip rfl rfl ?_
        simp only [Act.put, List.setIfInBounds_toArray, List.set_cons_zero, List.set_cons_succ]
        refine rel_skip rfl rfl ?_
        simp only [Act.put, List.setIfInBounds_toArray, List.set_cons_zero, List.set_cons_succ]
        refine rel_skip rfl rfl ?_
        simp only [Act.put, List.setIfInBounds_toArray, List.set_cons_zero, List.set_cons_succ]
        refine rel_skip rfl rfl ?_
        simp only [Act.put, List.setIfInBounds_toArray, List.set_cons_zero, List.set_cons_succ]
        refine rel_skip rfl rfl ?_
        simp only [Act.put, List.setIfInBounds_toArray, List.set_cons_zero, List.set_cons_succ]
        refine rel_skip rfl rfl ?_
        simp only [Act.put, List.setIfInBounds_toArray, List.set_cons_zero, List.set_cons_succ]
        refine rg_quiet rfl rfl rfl rfl ?_; intro K hK; go_big_quiet_op; go_big_quiet_on
        refine rg_quiet rfl rfl rfl rfl ?_; intro K hK; go_big_quiet_op; go_big_quiet_on
        refine rel_skip rfl rfl ?_
        simp only [Act.put, List.setIfInBounds_toArray, List.set_cons_zero, List.set_cons_succ]
        refine rel_skip rfl rfl ?_
        simp only [Act.put, List.setIfInBounds_toArray, List.set_cons_zero, List.set_cons_succ]
        refine rel_skip rfl rfl ?_
        simp only [Act.put, List.setIfInBounds_toArray, List.set_cons_zero, List.set_cons_succ]
        refine rel_skip rfl rfl ?_
        simp only [Act.put, List.setIfInBounds_toArray, List.set_cons_zero, List.set_cons_succ]
        refine rg_quiet rfl rfl rfl rfl ?_; intro K hK; go_big_quiet_op; go_big_quiet_on
        refine rg_quiet rfl rfl rfl rfl ?_; intro K hK; go_big_quiet_op; go_big_quiet_on
        refine rel_skip rfl rfl ?_
        simp only [Act.put, List.setIfInBounds_toArray, List.set_cons_zero, List.set_cons_succ]
        refine rel_skip rfl rfl ?_
        simp only [Act.put, List.setIfInBounds_toArray, List.set_cons_zero, List.set_cons_succ]
        refine rel_skip rfl rfl ?_
        simp only [Act.put, List.setIfInBounds_toArray, List.set_cons_zero, List.set_cons_succ]
        refine rel_skip rfl rfl ?_
        simp only [Act.put, List.setIfInBounds_toArray, List.set_cons_zero, List.set_cons_succ]
        refine rg_quiet rfl rfl rfl rfl ?_; intro K hK; go_big_quiet_op; go_big_quiet_on
        refine rel_nil fun w5 hE5 _ => ?_
        obtain ⟨b0, hE⟩ := FIN.out w5 hE5
        clear x0 x1 x2 x3 x4 y7 hE5 FIN e0
        go_wp2_with fail
        go_ret
        exact ⟨ret_bool HQ.out.symm, hE⟩
      · cases k with
        | zero =>
          have ho : Hid (ordB (prevN l 0) M.name = true) := rfl
          refine rg_quiet rfl rfl rfl rfl ?_; intro K hK; go_big_quiet_op; go_big_quiet_on
          refine rg_quiet rfl rfl rfl rfl ?_; intro K hK; go_big_quiet_op; go_big_quiet_on
          refine rg_val [] rfl rfl rfl (by kernel_rfl) (fun w1 hE hf => ?_) ?_
          · go_simp
            exact (name_lowB _ HML.out w1).mono fun e w' ⟨he, hw⟩ => ⟨_, he, rg_done hE hw (bool_congr e0)⟩
          simp only [Act.put, List.setIfInBounds_toArray, List.set_cons_zero, List.set_cons_succ]
          refine rg_quiet rfl rfl rfl rfl ?_; intro K hK; go_big_quiet_op; go_big_quiet_on
          refine rg_quiet rfl rfl rfl rfl ?_; intro K hK; go_big_quiet_op; go_big_quiet_on
          refine rg_quiet rfl rfl rfl rfl ?_; intro K hK; go_big_quiet_op; go_big_quiet_on
          refine rg_quiet rfl rfl rfl rfl ?_; intro K hK; go_big_quiet_op; go_big_quiet_on
          refine rg_quiet rfl rfl rfl rfl ?_; intro K hK; go_big_quiet_op; go_big_quiet_on
          refine rel_skip rfl rfl ?_
          simp only [Act.put, List.setIfInBounds_toArray, List.set_cons_zero, List.set_cons_succ]
          refine rel_skip rfl rfl ?_
          simp only [Act.put, List.setIfInBounds_toArray, List.set_cons_zero, List.set_cons_succ]
          refine rel_skip rfl rfl ?_
          simp only [Act.put, List.setIfInBounds_toArray, List.set_cons_zero, List.set_cons_succ]
          refine rel_skip rfl rfl ?_
          simp only [Act.put, List.setIfInBounds_toArray, List.set_cons_zero, List.set_cons_succ]
          refine rel_skip rfl rfl ?_
          simp only [Act.put, List.setIfInBounds_toArray, List.set_cons_zero, List.set_cons_succ]
          refine rel_skip rfl rfl ?_
          simp only [Act.put, List.setIfInBounds_toArray, List.set_cons_zero, List.set_cons_succ]
          refine rel_skip rfl rfl ?_
          simp only [Act.put, List.setIfInBounds_toArray, List.set_cons_zero, List.set_cons_succ]
          refine rel_skip rfl rfl ?_
          simp only [Act.put, List.setIfInBounds_toArray, List.set_cons_zero, List.set_cons_succ]
          refine rel_skip rfl rfl ?_
          simp only [Act.put, List.setIfInBounds_toArray, List.set_cons_zero, List.set_cons_succ]
          refine rel_skip rfl rfl ?_
          simp only [Act.put, List.setIfInBounds_toArray, List.set_cons_zero, List.set_cons_succ]
          refine rg_quiet rfl rfl rfl rfl ?_; intro K hK; go_big_quiet_op; go_big_quiet_on
          refine rg_quiet rfl rfl rfl rfl ?_; intro K hK; go_big_quiet_op; go_big_quiet_on
          refine rg_quiet rfl rfl rfl rfl ?_; intro K hK; go_big_quiet_op; go_big_quiet_on
          cases e2 : checkC M.cell.val M.cell.dead M.cell.at_ M.cell.fin
          · have HQ : Hid (colsB none l = false) := by show colsB none l = false; rw [HD.out, e0, ho.out, e2]; simp
            refine rg_quiet rfl rfl rfl rfl ?_; intro K hK; go_big_quiet_op; go_big_quiet_on
            refine rg_quiet rfl rfl rfl rfl ?_; intro K hK; go_big_quiet_op; go_big_quiet_on
            refine rg_val [] rfl rfl rfl (by kernel_rfl) (fun w1 hE hf => ?_) ?_
            · go_simp
              exact (check_any _ _ _ _ w1).mono fun e w' ⟨he, hw⟩ => ⟨_, he, rg_done hE hw (bool_congr e2)⟩
            simp only [Act.put, List.setIfInBounds_toArray, List.set_cons_zero, List.set_cons_succ]
            refine rg_quiet rfl rfl rfl rfl ?_; intro K hK; go_big_quiet_op; go_big_quiet_on
            refine rg_quiet rfl rfl rfl rfl ?_; intro K hK; go_big_quiet_op; go_big_quiet_on
            refine rg_quiet rfl rfl rfl rfl ?_; intro K hK; go_big_quiet_op; go_big_quiet_on
            refine rel_skip rfl rfl ?_
            simp only [Act.put, List.setIfInBounds_toArray, List.set_cons_zero, List.set_cons_succ]
            refine rel_skip rfl rfl ?_
            simp only [Act.put, List.setIfInBounds_toArray, List.set_cons_zero, List.set_cons_succ]
            refine rel_skip rfl rfl ?_
            simp only [Act.put, List.setIfInBounds_toArray, List.set_cons_zero, List.set_cons_succ]
            refine rel_skip rfl rfl ?_
            simp only [Act.put, List.setIfInBounds_toArray, List.set_cons_zero, List.set_cons_succ]
            refine rg_quiet rfl rfl rfl rfl ?_; intro K hK; go_big_quiet_op; go_big_quiet_on
            refine rel_nil fun w5 hE5 _ => ?_
            obtain ⟨b0, hE⟩ := FIN.out w5 hE5
            clear x0 x1 x2 x3 x4 y7 hE5 FIN e0 e2 
            go_wp2_with fail
            go_ret
            exact ⟨ret_bool HQ.out.symm, hE⟩
          · cases e3 : decide (0 < M.cell.at_)
            · have e4 : decide (M.cell.at_ ≤ 0) = true := by simp at e3 ⊢ <;> omega
              have HQ : Hid (colsB none l = false) := by show colsB none l = false; rw [HD.out, e0, ho.out, e2, e3]; simp
              refine rg_quiet rfl rfl rfl rfl ?_; intro K hK; go_big_quiet_op; go_big_quiet_on
              refine rg_quiet rfl rfl rfl rfl ?_; intro K hK; go_big_quiet_op; go_big_quiet_on
              refine rg_val [] rfl rfl rfl (by kernel_rfl) (fun w1 hE hf => ?_) ?_
              · go_simp
                exact (check_any _ _ _ _ w1).mono fun e w' ⟨he, hw⟩ => ⟨_, he, rg_done hE hw (bool_congr e2)⟩
              simp only [Act.put, List.setIfInBounds_toArray, List.set_cons_zero, List.set_cons_succ]
              refine rg_quiet rfl rfl rfl rfl ?_; intro K hK; go_big_quiet_op; go_big_quiet_on
              refine rg_quiet rfl rfl rfl rfl ?_; intro K hK; go_big_quiet_op; go_big_quiet_on
              refine rg_quiet rfl rfl rfl rfl ?_; intro K hK; go_big_quiet_op; go_big_quiet_on
              refine rg_quiet rfl rfl rfl rfl ?_; intro K hK; go_big_quiet_op; go_big_quiet_on
              refine rg_quiet rfl rfl rfl rfl ?_; intro K hK; go_big_quiet_op; go_big_quiet_on
              refine rg_quiet rfl rfl rfl rfl ?_; intro K hK; go_big_quiet_op; go_big_quiet_on
              refine rg_quiet rfl rfl rfl rfl ?_; intro K hK; go_big_quiet_op; go_big_quiet_on
              refine rg_quiet rfl rfl rfl rfl ?_; intro K hK; go_big_quiet_op; go_big_quiet_on
              refine rel_nil fun w5 hE5 _ => ?_
              obtain ⟨b0, hE⟩ := FIN.out w5 hE5
              clear x0 x1 x2 x3 x4 y7 hE5 FIN e0 e2 e3 
              go_wp2_with fail
              go_ret
              exact ⟨ret_bool HQ.out.symm, hE⟩
            · have e4 : decide (M.cell.at_ ≤ 0) = false := by simp at e3 ⊢ <;> omega
              have HQ : Hid (colsB none l = colsB (prevN l (0 + 1)) (l.drop (0 + 1))) := by show colsB none l = _; rw [HD.out, e0, ho.out, e2, e3, HN.out]; rfl
              refine rg_quiet rfl rfl rfl rfl ?_; intro K hK; go_big_quiet_op; go_big_quiet_on
              refine rg_quiet rfl rfl rfl rfl ?_; intro K hK; go_big_quiet_op; go_big_quiet_on
              refine rg_val [] rfl rfl rfl (by kernel_rfl) (fun w1 hE hf => ?_) ?_
              · go_simp
                exact (check_any _ _ _ _ w1).mono fun e w' ⟨he, hw⟩ => ⟨_, he, rg_done hE hw (bool_congr e2)⟩
              simp only [Act.put, List.setIfInBounds_toArray, List.set_cons_zero, List.set_cons_succ]
              refine rg_quiet rfl rfl rfl rfl ?_; intro K hK; go_big_quiet_op; go_big_quiet_on
              refine rg_quiet rfl rfl rfl rfl ?_; intro K hK; go_big_quiet_op; go_big_quiet_on
              refine rg_quiet rfl rfl rfl rfl ?_; intro K hK; go_big_quiet_op; go_big_quiet_on
              refine rg_quiet rfl rfl rfl rfl ?_; intro K hK; go_big_quiet_op; go_big_quiet_on
              refine rg_quiet rfl rfl rfl rfl ?_; intro K hK; go_big_quiet_op; go_big_quiet_on
              refine rg_quiet rfl rfl rfl rfl ?_; intro K hK; go_big_quiet_op; go_big_quiet_on
              refine rg_quiet rfl rfl rfl rfl ?_; intro K hK; go_big_quiet_op; go_big_quiet_on
              refine rg_quiet rfl rfl rfl rfl ?_; intro K hK; go_big_quiet_op; go_big_quiet_on
              refine rel_nil fun w5 hE5 _ => ?_
              obtain ⟨b0, hE⟩ := FIN.out w5 hE5
              clear x0 x1 x2 x3 x4 y7 hE5 FIN e0 e2 e3 
              go_wp2_with fail
              go_roundw
              case rel => exact ⟨0 + 1, by omega, by go_num, b0, hE, HQ.out⟩
              case measure => simp [intOf] <;> omega
        | succ j =>
          have hj : j < l.length := by omega
          obtain ⟨b', o', e', hp⟩ := HC.out j hj
          cases e'
          replace hp := held (hE.cell hp.c0)
          obtain ⟨Pn, hPn⟩ : ∃ Pn, Pn = l[j].name := ⟨_, rfl⟩
          rw [← hPn] at hp
          have HO : Hid (ordB (prevN l (j + 1)) M.name = Op.bytesLess Pn.toList M.name.toList) := by show ordB (prevN l (j + 1)) M.name = _; simp [prevN, hj, ordB, hPn]
          clear hPn
          have hw : IntKind.i64.wrap ((j : Int) + 1 - 1) = (j : Int) := by rw [IntKind.wrap_i64]; omega
          have hjl : decide ((j : Int) < (l.length : Int)) = true := by simpa using hj
          have hj0 : decide ((0 : Int) < (j : Int) + 1) = true := decide_eq_true (by omega)
          cases eo : Op.bytesLess Pn.toList M.name.toList
          · have ho : Hid (ordB (prevN l (j + 1)) M.name = false) := HO.out.trans eo
            have HQ : Hid (colsB none l = false) := by show colsB none l = false; rw [HD.out, e0, ho.out]; simp
            refine rg_quiet rfl rfl rfl rfl ?_; intro K hK; go_big_quiet_op; go_big_quiet_on
            refine rg_quiet rfl rfl rfl rfl ?_; intro K hK; go_big_quiet_op; go_big_quiet_on
            refine rg_val [] rfl rfl rfl (by kernel_rfl) (fun w1 hE hf => ?_) ?_
            · go_simp
              exact (name_lowB _ HML.out w1).mono fun e w' ⟨he, hw⟩ => ⟨_, he, rg_done hE hw (bool_congr e0)⟩
            simp only [Act.put, List.setIfInBounds_toArray, List.set_cons_zero, List.set_cons_succ]
            refine rg_quiet rfl rfl rfl rfl ?_; intro K hK; go_big_quiet_op; go_big_quiet_on
            refine rg_quiet rfl rfl rfl rfl ?_; intro K hK; go_big_quiet_op; go_big_quiet_on
            refine rg_quiet rfl rfl rfl rfl ?_; intro K hK; go_big_quiet_op; go_big_quiet_on
            refine rg_quiet rfl rfl rfl rfl ?_; intro K hK; go_big_quiet_op; go_big_quiet_on
            refine rg_quiet rfl rfl rfl rfl ?_; intro K hK; go_big_quiet_op; go_big_quiet_on
            refine rg_quiet rfl rfl rfl rfl ?_; intro K hK; go_big_quiet_op; go_big_quiet_on
            refine rg_quiet rfl rfl rfl rfl ?_; intro K hK; go_big_quiet_op; go_big_quiet_on
            refine rg_quiet rfl rfl rfl rfl ?_; intro K hK; go_big_quiet_op; go_big_quiet_on
            refine rg_quiet rfl rfl rfl rfl ?_; intro K hK; go_big_quiet_op; go_big_quiet_on
            refine rg_quiet rfl rfl rfl rfl ?_; intro K hK; go_big_quiet_op; go_big_quiet_on
            refine rg_quiet rfl rfl rfl rfl ?_; intro K hK; go_big_quiet_op; go_big_quiet_on
            refine rg_quiet rfl rfl rfl rfl ?_; intro K hK; go_big_quiet_op; go_big_quiet_on
            refine rg_quiet rfl rfl rfl rfl ?_; intro K hK; go_big_quiet_op; go_big_quiet_on
            refine rg_quiet rfl rfl rfl rfl ?_; intro K hK; go_big_quiet_op; go_big_quiet_on
            refine rg_quiet rfl rfl rfl rfl ?_; intro K hK; go_big_quiet_op; go_big_quiet_on
            refine rg_quiet rfl rfl rfl rfl ?_; intro K hK; go_big_quiet_op; go_big_quiet_on
            refine rg_quiet rfl rfl rfl rfl ?_; intro K hK; go_big_quiet_op; go_big_quiet_on
            refine rg_quiet rfl rfl rfl rfl ?_; intro K hK; go_big_quiet_op; go_big_quiet_on
            refine rel_skip rfl rfl ?_
            simp only [Act.put, List.setIfInBounds_toArray, List.set_cons_zero, List.set_cons_succ]
            refine rel_skip rfl rfl ?_
            simp only [Act.put, List.setIfInBounds_toArray, List.set_cons_zero, List.set_cons_succ]
            refine rel_skip rfl rfl ?_
            simp only [Act.put, List.setIfInBounds_toArray, List.set_cons_zero, List.set_cons_succ]
            refine rel_skip rfl rfl ?_
            simp only [Act.put, List.setIfInBounds_toArray, List.set_cons_zero, List.set_cons_succ]
            refine rg_quiet rfl rfl rfl rfl ?_; intro K hK; go_big_quiet_op; go_big_quiet_on
            refine rg_quiet rfl rfl rfl rfl ?_; intro K hK; go_big_quiet_op; go_big_quiet_on
            refine rel_skip rfl rfl ?_
            simp only [Act.put, List.setIfInBounds_toArray, List.set_cons_zero, List.set_cons_succ]
            refine rel_skip rfl rfl ?_
            simp only [Act.put, List.setIfInBounds_toArray, List.set_cons_zero, List.set_cons_succ]
            refine rel_skip rfl rfl ?_
            simp only [Act.put, List.setIfInBounds_toArray, List.set_cons_zero, List.set_cons_succ]
            refine rel_skip rfl rfl ?_
            simp only [Act.put, List.setIfInBounds_toArray, List.set_cons_zero, List.set_cons_succ]
            refine rg_quiet rfl rfl rfl rfl ?_; intro K hK; go_big_quiet_op; go_big_quiet_on
            refine rel_nil fun w5 hE5 _ => ?_
            obtain ⟨b0, hE⟩ := FIN.out w5 hE5
            clear x0 x1 x2 x3 x4 y7 hE5 FIN e0 eo hp
            go_wp2_with fail
            go_ret
            exact ⟨ret_bool HQ.out.symm, hE⟩
          · have ho : Hid (ordB (prevN l (j + 1)) M.name = true) := HO.out.trans eo
            refine rg_quiet rfl rfl rfl rfl ?_; intro K hK; go_big_quiet_op; go_big_quiet_on
            refine rg_quiet rfl rfl rfl rfl ?_; intro K hK; go_big_quiet_op; go_big_quiet_on
            refine rg_val [] rfl rfl rfl (by kernel_rfl) (fun w1 hE hf => ?_) ?_
            · go_simp
              exact (name_lowB _ HML.out w1).mono fun e w' ⟨he, hw⟩ => ⟨_, he, rg_done hE hw (bool_congr e0)⟩
            simp only [Act.put, List.setIfInBounds_toArray, List.set_cons_zero, List.set_cons_succ]
            refine rg_quiet rfl rfl rfl rfl ?_; intro K hK; go_big_quiet_op; go_big_quiet_on
            refine rg_quiet rfl rfl rfl rfl ?_; intro K hK; go_big_quiet_op; go_big_quiet_on
            refine rg_quiet rfl rfl rfl rfl ?_; intro K hK; go_big_quiet_op; go_big_quiet_on
            refine rg_quiet rfl rfl rfl rfl ?_; intro K hK; go_big_quiet_op; go_big_quiet_on
            refine rg_quiet rfl rfl rfl rfl ?_; intro K hK; go_big_quiet_op; go_big_quiet_on
            refine rg_quiet rfl rfl rfl rfl ?_; intro K hK; go_big_quiet_op; go_big_quiet_on
            refine rg_quiet rfl rfl rfl rfl ?_; intro K hK; go_big_quiet_op; go_big_quiet_on
            refine rg_quiet rfl rfl rfl rfl ?_; intro K hK; go_big_quiet_op; go_big_quiet_on
            refine rg_quiet rfl rfl rfl rfl ?_; intro K hK; go_big_quiet_op; go_big_quiet_on
            refine rg_quiet rfl rfl rfl rfl ?_; intro K hK; go_big_quiet_op; go_big_quiet_on
            refine rg_quiet rfl rfl rfl rfl ?_; intro K hK; go_big_quiet_op; go_big_quiet_on
            refine rg_quiet rfl rfl rfl rfl ?_; intro K hK; go_big_quiet_op; go_big_quiet_on
            refine rg_quiet rfl rfl rfl rfl ?_; intro K hK; go_big_quiet_op; go_big_quiet_on
            refine rg_quiet rfl rfl rfl rfl ?_; intro K hK; go_big_quiet_op; go_big_quiet_on
            refine rg_quiet rfl rfl rfl rfl ?_; intro K hK; go_big_quiet_op; go_big_quiet_on
            refine rg_quiet rfl rfl rfl rfl ?_; intro K hK; go_big_quiet_op; go_big_quiet_on
            refine rg_quiet rfl rfl rfl rfl ?_; intro K hK; go_big_quiet_op; go_big_quiet_on
            refine rg_quiet rfl rfl rfl rfl ?_; intro K hK; go_big_quiet_op; go_big_quiet_on
            cases e2 : checkC M.cell.val M.cell.dead M.cell.at_ M.cell.fin
            · have HQ : Hid (colsB none l = false) := by show colsB none l = false; rw [HD.out, e0, ho.out, e2]; simp
              refine rg_quiet rfl rfl rfl rfl ?_; intro K hK; go_big_quiet_op; go_big_quiet_on
              refine rg_quiet rfl rfl rfl rfl ?_; intro K hK; go_big_quiet_op; go_big_quiet_on
              refine rg_val [] rfl rfl rfl (by kernel_rfl) (fun w1 hE hf => ?_) ?_
              · go_simp
                exact (check_any _ _ _ _ w1).mono fun e w' ⟨he, hw⟩ => ⟨_, he, rg_done hE hw (bool_congr e2)⟩
              simp only [Act.put, List.setIfInBounds_toArray, List.set_cons_zero, List.set_cons_succ]
              refine rg_quiet rfl rfl rfl rfl ?_; intro K hK; go_big_quiet_op; go_big_quiet_on
              refine rg_quiet rfl rfl rfl rfl ?_; intro K hK; go_big_quiet_op; go_big_quiet_on
              refine rg_quiet rfl rfl rfl rfl ?_; intro K hK; go_big_quiet_op; go_big_quiet_on
              refine rel_skip rfl rfl ?_
              simp only [Act.put, List.setIfInBounds_toArray, List.set_cons_zero, List.set_cons_succ]
              refine rel_skip rfl rfl ?_
              simp only [Act.put, List.setIfInBounds_toArray, List.set_cons_zero, List.set_cons_succ]
              refine rel_skip rfl rfl ?_
              simp only [Act.put, List.setIfInBounds_toArray, List.set_cons_zero, List.set_cons_succ]
              refine rel_skip rfl rfl ?_
              simp only [Act.put, List.setIfInBounds_toArray, List.set_cons_zero, List.set_cons_succ]
              refine rg_quiet rfl rfl rfl rfl ?_; intro K hK; go_big_quiet_op; go_big_quiet_on
              refine rel_nil fun w5 hE5 _ => ?_
              obtain ⟨b0, hE⟩ := FIN.out w5 hE5
              clear x0 x1 x2 x3 x4 y7 hE5 FIN e0 e2 eo hp
              go_wp2_with fail
              go_ret
              exact ⟨ret_bool HQ.out.symm, hE⟩
            · cases e3 : decide (0 < M.cell.at_)
              · have e4 : decide (M.cell.at_ ≤ 0) = true := by simp at e3 ⊢ <;> omega
                have HQ : Hid (colsB none l = false) := by show colsB none l = false; rw [HD.out, e0, ho.out, e2, e3]; simp
                refine rg_quiet rfl rfl rfl rfl ?_; intro K hK; go_big_quiet_op; go_big_quiet_on
                refine rg_quiet rfl rfl rfl rfl ?_; intro K hK; go_big_quiet_op; go_big_quiet_on
                refine rg_val [] rfl rfl rfl (by kernel_rfl) (fun w1 hE hf => ?_) ?_
                · go_simp
                  exact (check_any _ _ _ _ w1).mono fun e w' ⟨he, hw⟩ => ⟨_, he, rg_done hE hw (bool_congr e2)⟩
                simp only [Act.put, List.setIfInBounds_toArray, List.set_cons_zero, List.set_cons_succ]
                refine rg_quiet rfl rfl rfl rfl ?_; intro K hK; go_big_quiet_op; go_big_quiet_on
                refine rg_quiet rfl rfl rfl rfl ?_; intro K hK; go_big_quiet_op; go_big_quiet_on
                refine rg_quiet rfl rfl rfl rfl ?_; intro K hK; go_big_quiet_op; go_big_quiet_on
                refine rg_quiet rfl rfl rfl rfl ?_; intro K hK; go_big_quiet_op; go_big_quiet_on
                refine rg_quiet rfl rfl rfl rfl ?_; intro K hK; go_big_quiet_op; go_big_quiet_on
                refine rg_quiet rfl rfl rfl rfl ?_; intro K hK; go_big_quiet_op; go_big_quiet_on
                refine rg_quiet rfl rfl rfl rfl ?_; intro K hK; go_big_quiet_op; go_big_quiet_on
                refine rg_quiet rfl rfl rfl rfl ?_; intro K hK; go_big_quiet_op; go_big_quiet_on
                refine rel_nil fun w5 hE5 _ => ?_
                obtain ⟨b0, hE⟩ := FIN.out w5 hE5
                clear x0 x1 x2 x3 x4 y7 hE5 FIN e0 e2 e3 eo hp
                go_wp2_with fail
                go_ret
                exact ⟨ret_bool HQ.out.symm, hE⟩
              · have e4 : decide (M.cell.at_ ≤ 0) = false := by simp at e3 ⊢ <;> omega
                have HQ : Hid (colsB none l = colsB (prevN l ((j + 1) + 1)) (l.drop ((j + 1) + 1))) := by show colsB none l = _; rw [HD.out, e0, ho.out, e2, e3, HN.out]; rfl
                refine rg_quiet rfl rfl rfl rfl ?_; intro K hK; go_big_quiet_op; go_big_quiet_on
                refine rg_quiet rfl rfl rfl rfl ?_; intro K hK; go_big_quiet_op; go_big_quiet_on
                refine rg_val [] rfl rfl rfl (by kernel_rfl) (fun w1 hE hf => ?_) ?_
                · go_simp
                  exact (check_any _ _ _ _ w1).mono fun e w' ⟨he, hw⟩ => ⟨_, he, rg_done hE hw (bool_congr e2)⟩
                simp only [Act.put, List.setIfInBounds_toArray, List.set_cons_zero, List.set_cons_succ]
                refine rg_quiet rfl rfl rfl rfl ?_; intro K hK; go_big_quiet_op; go_big_quiet_on
                refine rg_quiet rfl rfl rfl rfl ?_; intro K hK; go_big_quiet_op; go_big_quiet_on
                refine rg_quiet rfl rfl rfl rfl ?_; intro K hK; go_big_quiet_op; go_big_quiet_on
                refine rg_quiet rfl rfl rfl rfl ?_; intro K hK; go_big_quiet_op; go_big_quiet_on
                refine rg_quiet rfl rfl rfl rfl ?_; intro K hK; go_big_quiet_op; go_big_quiet_on
                refine rg_quiet rfl rfl rfl rfl ?_; intro K hK; go_big_quiet_op; go_big_quiet_on
                refine rg_quiet rfl rfl rfl rfl ?_; intro K hK; go_big_quiet_op; go_big_quiet_on
                refine rg_quiet rfl rfl rfl rfl ?_; intro K hK; go_big_quiet_op; go_big_quiet_on
                refine rel_nil fun w5 hE5 _ => ?_
                obtain ⟨b0, hE⟩ := FIN.out w5 hE5
                clear x0 x1 x2 x3 x4 y7 hE5 FIN e0 e2 e3 eo hp
                go_wp2_with fail
                go_roundw
                case rel => exact ⟨(j + 1) + 1, by omega, by go_num, b0, hE, HQ.out⟩
                case measure => simp [intOf] <;> omega
    · obtain rfl : k = l.length := by omega
      have HQ : Hid (colsB none l = true) := by show colsB none l = true; rw [HX.out, List.drop_length]; rfl
      go_wp2_with fail
      go_ret
      exact ⟨ret_bool HQ.out.symm, hE⟩
end Go.Proofs.YtimbikbbbfpeeaaGreatDoor
