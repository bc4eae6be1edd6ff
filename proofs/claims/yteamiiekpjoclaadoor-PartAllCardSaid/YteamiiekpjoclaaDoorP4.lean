/- row.Check, of rows whose names are small letters. -/
import Derived.Test.YteamiiekpjoclaaDoorP3
import Derived.Test.YteamiiekpjoclaaDoorP1
import Derived.Test.YteamiiekpjoclaaDoorProg
import Derived.Lib.DecodeN
import Derived.Lib.Hide
import Derived.Laws.BitsLemmas
set_option linter.unusedSimpArgs false
set_option linter.unusedVariables false
namespace Go.Proofs.YteamiiekpjoclaaDoor
open Go Go.RowKit
attribute [local go_sem] yields yUpon

def ordB : Option ByteArray → ByteArray → Bool
  | none, _ => true
  | some q, n => Op.bytesLess q.toList n.toList
def colsB : Option ByteArray → List Co → Bool
  | _, [] => true
  | p, c :: l => lowB c.name && ordB p c.name && checkC c.cell.val c.cell.dead c.cell.at_ c.cell.fin && decide (0 < c.cell.at_) && colsB (some c.name) l
def prevN (l : List Co) : Nat → Option ByteArray
  | 0 => none
  | k + 1 => (l[k]?).map (·.name)
def headB (r : Ro) : Bool := !decide (400 < (r.key.size : Int)) && checkC r.live.val r.live.dead r.live.at_ r.live.fin && (r.live.val.toList == []) && !r.live.dead && stampB r.gone && stampB r.shade && !decide (8 < (r.cols.length : Int))
def rowB (r : Ro) : Bool := headB r && colsB none r.cols

set_option maxHeartbeats 400000 in
theorem rstamp_any (v : Int) (w : World) : Calls Tryd.prog 52 #[.int .i64 v] w fun e w' => e = .returned (.bool (stampB v)) ∧ w = w' := by
  by_cases h : 0 ≤ v
  all_goals
    go_enter Tryd.func52, Tryd.ntmps52
    go_wp2
    go_ret
    exact ⟨by unfold stampB; simp [h] <;> omega, rfl⟩


theorem head_cases (r : Ro) : headB r = true ∨ headB r = false := by cases headB r <;> simp

set_option maxRecDepth 100000 in
set_option maxHeartbeats 4000000 in
theorem rcheck_bad (r : Ro) (v : Value) (w : World) (hin : ColsIn w v r.cols) (hb : headB r = false) :
    Calls Tryd.prog 9 #[(.agg #[.string r.key, .string r.live.val, .bool r.live.dead, .int .i64 r.live.at_, .int .i64 r.live.fin, .int .i64 r.gone, .int .i64 r.shade, v])] w fun e w' => e = .returned (.bool false) ∧ Ext w w' := by
  obtain ⟨a, c, rfl, hc, hcm, hcell⟩ := hin.get
  clear hcell hin
  obtain ⟨key, ⟨val, dead, at_, fin⟩, gone, shade, cols⟩ := r
  have b0 : BoxAt (w.alloc (.cells (ro8 ⟨key, ⟨val, dead, at_, fin⟩, gone, shade, cols⟩ (.slice a cols.length c)) 26)) w.heap.size (ro8 ⟨key, ⟨val, dead, at_, fin⟩, gone, shade, cols⟩ (.slice a cols.length c)) 26 := BoxAt.made w _ _
  have hE0 : Ext w (w.alloc (.cells (ro8 ⟨key, ⟨val, dead, at_, fin⟩, gone, shade, cols⟩ (.slice a cols.length c)) 26)) := (Ext.refl w).alloc _
  obtain ⟨n, hn⟩ : ∃ n, n = cols.length := ⟨_, rfl⟩
  unfold headB at hb
  dsimp only at hb hc ⊢
  rw [← hn] at hb hc b0 hE0 ⊢
  clear hn
  cases c1 : decide (400 < (key.size : Int))
  · cases c2 : checkC val dead at_ fin
    · clear hb
      go_enter Tryd.func9, Tryd.ntmps9
      go_wp2_with (first
        | (go_at_call 51; go_must (refine (check_any _ _ _ _ _).mono ?_; rw [c2];rintro e w1 ⟨rfl, hE1⟩; replace hE0 := hE0.trans hE1; replace b0 := b0.ext hE1; obtain ⟨y0, y1, y2, y3, y4, y5, y6, y7⟩ := b0.ro))
        | (go_at_call 52; go_must (refine (rstamp_any _ _).mono ?_); rintro e w2 ⟨rfl, rfl⟩))
      go_ret
      exact ⟨rfl, by first | exact hE0 | exact Ext.refl _⟩
    · cases c3 : (val.toList == [])
      · clear hb
        go_enter Tryd.func9, Tryd.ntmps9
        go_wp2_with (first
          | (go_at_call 51; go_must (refine (check_any _ _ _ _ _).mono ?_; rw [c2];rintro e w1 ⟨rfl, hE1⟩; replace hE0 := hE0.trans hE1; replace b0 := b0.ext hE1; obtain ⟨y0, y1, y2, y3, y4, y5, y6, y7⟩ := b0.ro))
          | (go_at_call 52; go_must (refine (rstamp_any _ _).mono ?_); rintro e w2 ⟨rfl, rfl⟩))
        go_ret
        exact ⟨rfl, by first | exact hE0 | exact Ext.refl _⟩
      · cases dead
        · cases c5 : stampB gone
          · clear hb
            go_enter Tryd.func9, Tryd.ntmps9
            go_wp2_with (first
              | (go_at_call 51; go_must (refine (check_any _ _ _ _ _).mono ?_; rw [c2];rintro e w1 ⟨rfl, hE1⟩; replace hE0 := hE0.trans hE1; replace b0 := b0.ext hE1; obtain ⟨y0, y1, y2, y3, y4, y5, y6, y7⟩ := b0.ro))
              | (go_at_call 52; go_must (refine (rstamp_any _ _).mono ?_); rw [c5];rintro e w2 ⟨rfl, rfl⟩))
            go_ret
            exact ⟨rfl, by first | exact hE0 | exact Ext.refl _⟩
          · cases c6 : stampB shade
            · clear hb
              go_enter Tryd.func9, Tryd.ntmps9
              go_wp2_with (first
                | (go_at_call 51; go_must (refine (check_any _ _ _ _ _).mono ?_; rw [c2];rintro e w1 ⟨rfl, hE1⟩; replace hE0 := hE0.trans hE1; replace b0 := b0.ext hE1; obtain ⟨y0, y1, y2, y3, y4, y5, y6, y7⟩ := b0.ro))
                | (go_at_call 52; go_must (refine (rstamp_any _ _).mono ?_); (first | rw [c5] | rw [c6]);rintro e w2 ⟨rfl, rfl⟩))
              go_ret
              exact ⟨rfl, by first | exact hE0 | exact Ext.refl _⟩
            · have c7 : decide (8 < (n : Int)) = true := by rw [c1, c2, c3, c5, c6] at hb; simpa using hb
              clear hb
              go_enter Tryd.func9, Tryd.ntmps9
              go_wp2_with (first
                | (go_at_call 51; go_must (refine (check_any _ _ _ _ _).mono ?_; rw [c2];rintro e w1 ⟨rfl, hE1⟩; replace hE0 := hE0.trans hE1; replace b0 := b0.ext hE1; obtain ⟨y0, y1, y2, y3, y4, y5, y6, y7⟩ := b0.ro))
                | (go_at_call 52; go_must (refine (rstamp_any _ _).mono ?_); (first | rw [c5] | rw [c6]);rintro e w2 ⟨rfl, rfl⟩))
              go_ret
              exact ⟨rfl, by first | exact hE0 | exact Ext.refl _⟩
        · clear hb
          go_enter Tryd.func9, Tryd.ntmps9
          go_wp2_with (first
            | (go_at_call 51; go_must (refine (check_any _ _ _ _ _).mono ?_; rw [c2];rintro e w1 ⟨rfl, hE1⟩; replace hE0 := hE0.trans hE1; replace b0 := b0.ext hE1; obtain ⟨y0, y1, y2, y3, y4, y5, y6, y7⟩ := b0.ro))
            | (go_at_call 52; go_must (refine (rstamp_any _ _).mono ?_); rintro e w2 ⟨rfl, rfl⟩))
          go_ret
          exact ⟨rfl, by first | exact hE0 | exact Ext.refl _⟩
  · clear hb
    go_enter Tryd.func9, Tryd.ntmps9
    go_wp2_with (first
      | (go_at_call 51; go_must (refine (check_any _ _ _ _ _).mono ?_; rintro e w1 ⟨rfl, hE1⟩; replace hE0 := hE0.trans hE1; replace b0 := b0.ext hE1; obtain ⟨y0, y1, y2, y3, y4, y5, y6, y7⟩ := b0.ro))
      | (go_at_call 52; go_must (refine (rstamp_any _ _).mono ?_); rintro e w2 ⟨rfl, rfl⟩))
    go_ret
    exact ⟨rfl, by first | exact hE0 | exact Ext.refl _⟩
end Go.Proofs.YteamiiekpjoclaaDoor

/- row.Check: the columns. -/
namespace Go.Proofs.YteamiiekpjoclaaDoor
open Go Go.RowKit
attribute [local go_sem] yields yUpon

theorem headB_parts {r : Ro} (h : headB r = true) : decide (400 < (r.key.size : Int)) = false ∧ checkC r.live.val r.live.dead r.live.at_ r.live.fin = true ∧ (r.live.val.toList == []) = true ∧ r.live.dead = false ∧ stampB r.gone = true ∧ stampB r.shade = true ∧ decide (8 < (r.cols.length : Int)) = false := by
  unfold headB at h
  simp only [Bool.and_eq_true, Bool.not_eq_true'] at h
  obtain ⟨⟨⟨⟨⟨⟨a, b⟩, c⟩, d⟩, e⟩, f⟩, g⟩ := h
  exact ⟨a, b, c, d, e, f, g⟩
theorem colsB_cons (p : Option ByteArray) (M : Co) (R : List Co) : colsB p (M :: R) = (lowB M.name && ordB p M.name && checkC M.cell.val M.cell.dead M.cell.at_ M.cell.fin && decide (0 < M.cell.at_) && colsB (some M.name) R) := rfl
theorem prevN_succ {l : List Co} {k : Nat} {M : Co} {R : List Co} (hd : l.drop k = M :: R) : prevN l (k + 1) = some M.name := by
  have hk : k < l.length := by
    rcases Nat.lt_or_ge k l.length with h | h
    · exact h
    · rw [List.drop_eq_nil_of_le h] at hd; cases hd
  have e : l[k] = M := by rw [List.drop_eq_getElem_cons hk] at hd; exact (List.cons.inj hd).1
  simp [prevN, hk, e]

set_option maxRecDepth 100000 in
set_option maxHeartbeats 8000000 in
theorem rcheck_good (r : Ro) (v : Value) (w : World) (hin : ColsIn w v r.cols) (hb : headB r = true) (hlow : ∀ k (h : k < r.cols.length), Low (r.cols[k]'h).name) :
    Calls Tryd.prog 9 #[(.agg #[.string r.key, .string r.live.val, .bool r.live.dead, .int .i64 r.live.at_, .int .i64 r.live.fin, .int .i64 r.gone, .int .i64 r.shade, v])] w fun e w' => e = .returned (.bool (colsB none r.cols)) ∧ Ext w w' := by
  obtain ⟨a, c, rfl, hc, hcm, hcell⟩ := hin.get
  obtain ⟨c1, c2, c3, c4, c5, c6, c7⟩ := headB_parts hb
  clear hin hb
  obtain ⟨key, ⟨val, dead, at_, fin⟩, gone, shade, l⟩ := r
  dsimp only at hcell hc c1 c2 c3 c4 c5 c6 c7 hlow ⊢
  subst c4
  have HC := Lib.hid hcell
  have HLow := Lib.hid hlow
  clear hcell hlow
  have b0 : BoxAt (w.alloc (.cells (ro8 ⟨key, ⟨val, false, at_, fin⟩, gone, shade, l⟩ (.slice a l.length c)) 26)) w.heap.size (ro8 ⟨key, ⟨val, false, at_, fin⟩, gone, shade, l⟩ (.slice a l.length c)) 26 := BoxAt.made w _ _
  have hE0 : Ext w (w.alloc (.cells (ro8 ⟨key, ⟨val, false, at_, fin⟩, gone, shade, l⟩ (.slice a l.length c)) 26)) := (Ext.refl w).alloc _
  go_enter Tryd.func9, Tryd.ntmps9
  go_wp2_with (first
    | (go_at_call 51; go_must (refine (check_any _ _ _ _ _).mono ?_; rw [c2]; rintro e w1 ⟨rfl, hE1⟩; replace hE0 := hE0.trans hE1; replace b0 := b0.ext hE1; obtain ⟨y0, y1, y2, y3, y4, y5, y6, y7⟩ := b0.ro))
    | (go_at_call 52; go_must (refine (rstamp_any _ _).mono ?_); (first | rw [c5] | rw [c6]); rintro e w2 ⟨rfl, rfl⟩))
  clear y0 y1 y2 y3 y4 y5 y6 y7 c1 c2 c3 c5 c6 c7
  obtain ⟨wz, rfl⟩ : ∃ w', w' = w1 := ⟨_, rfl⟩
  go_loopw [47] (fun i wr => ∃ k : Nat, k ≤ l.length ∧ i = .int .i64 k ∧ BoxAt wr w.heap.size (ro8 ⟨key, ⟨val, false, at_, fin⟩, gone, shade, l⟩ (.slice a l.length c)) 26 ∧ Ext w wr ∧ Hid (colsB none l = colsB (prevN l k) (l.drop k))) (fun i _ => l.length - (intOf i).toNat)
  case atStart => exact ⟨0, Nat.zero_le _, rfl, b0, hE0, rfl⟩
  case round =>
    clear b0 hE0
    obtain ⟨k, hk, rfl, hbox, hE, HX⟩ := hrel
    by_cases hlt : k < l.length
    · obtain ⟨b, o, rfl, hco⟩ := HC.out k hlt
      obtain ⟨M, hM⟩ : ∃ M, M = l[k] := ⟨_, rfl⟩
      have hML := HLow.out k hlt
      rw [← hM] at hco hML
      have hD : l.drop k = M :: l.drop (k + 1) := by rw [hM]; exact List.drop_eq_getElem_cons hlt
      clear hM
      have HN := Lib.hid (prevN_succ hD)
      have HD := Lib.hid (HX.out.trans ((congrArg (colsB (prevN l k)) hD).trans (colsB_cons _ _ _)))
      have HML := Lib.hid hML
      clear hD HX hML
      replace hco := hco.ext hE
      obtain ⟨g0, g1, g2, g3, g4⟩ := hco
      have y7 := hbox.allocs
      go_wp2_with fail
      refine wp_region_in 32 [(2, fun v _ => v = .bool (lowB M.name)), (23, fun v _ => v = .bool (checkC M.cell.val M.cell.dead M.cell.at_ M.cell.fin))] (fun w0 => BoxAt w0 wr.heap.size (co5 M) 80 ∧ BoxAt w0 w.heap.size (ro8 ⟨key, ⟨val, false, at_, fin⟩, gone, shade, l⟩ (.slice (some ⟨b, o, none⟩) l.length c)) 26 ∧ Ext w w0) (by kernel_rfl) (by kernel_rfl) (by kernel_rfl) ⟨stays_eq _, stays_eq _, trivial⟩ ?_ ?_
      · exact ⟨BoxAt.made _ _ _, hbox.ext ((Ext.refl _).alloc _), hE.alloc _⟩
      clear hbox hE g0 g1 g2 g3 g4 y7
      rintro w2 ⟨b2, b0, hE⟩
      have FIN : Hid (∀ wx, Ext w2 wx → BoxAt wx w.heap.size (ro8 ⟨key, ⟨val, false, at_, fin⟩, gone, shade, l⟩ (.slice (some ⟨b, o, none⟩) l.length c)) 26 ∧ Ext w wx) := fun wx h => ⟨b0.ext h, hE.trans h⟩
      obtain ⟨x0, x1, x2, x3, x4⟩ := b2.co
      obtain ⟨_, _, _, _, _, _, _, y7⟩ := b0.ro
      clear b2 b0
      replace x0 := held x0
      replace x1 := held x1
      replace x2 := held x2
      replace x3 := held x3
      replace x4 := held x4
      replace y7 := held y7
      cases e0 : lowB M.name
      · have HQ : Hid (colsB none l = false) := by show colsB none l = false; rw [HD.out, e0]; simp
        refine rg_quiet rfl rfl rfl rfl ?_; intro K hK; go_big_quiet_op; go_big_quiet_on
        refine rg_quiet rfl rfl rfl rfl ?_; intro K hK; go_big_quiet_op; go_big_quiet_on
        refine rg_val [] rfl rfl rfl (by kernel_rfl) (fun w1 hE hf => ?_) ?_
        · go_simp
          exact (name_lowB _ HML.out w1).mono fun e w' ⟨he, hw⟩ => ⟨_, he, rg_done hE hw (bool_congr e0)⟩
        simp only [Act.put, List.setIfInBounds_toArray, List.set_cons_zero, List.set_cons_succ]
        refine rg_quiet rfl rfl rfl rfl ?_; intro K hK; go_big_quiet_op; go_big_quiet_on
        refine rg_quiet rfl rfl rfl rfl ?_; intro K hK; go_big_quiet_op; go_big_quiet_on
        refine rel_skip rfl rfl ?_
        simp only [Act.put, List.setIfInBounds_toArray, List.set_cons_zero, List.set_cons_succ]
        refine rel_skip rfl rfl ?_
        simp only [Act.put, List.setIfInBounds_toArray, List.set_cons_zero, List.set_cons_succ]
        refine rel_skip rfl rfl ?_
        simp only [Act.put, List.setIfInBounds_toArray, List.set_cons_zero, List.set_cons_succ]
        refine rel_skip rfl rfl ?_
        simp only [Act.put, List.setIfInBounds_toArray, List.set_cons_zero, List.set_cons_succ]
        refine rel_skip rfl rfl ?_
        simp only [Act.put, List.setIfInBounds_toArray, List.set_cons_zero, List.set_cons_succ]
        refine rel_skip rfl rfl ?_
        simp only [Act.put, List.setIfInBounds_toArray, List.set_cons_zero, List.set_cons_succ]
        refine rel_skip rfl rfl ?_
        simp only [Act.put, List.setIfInBounds_toArray, List.set_cons_zero, List.set_cons_succ]
        refine rel_skip rfl rfl ?_
        simp only [Act.put, List.setIfInBounds_toArray, List.set_cons_zero, List.set_cons_succ]
        refine rel_skip rfl rfl ?_
        simp only [Act.put, List.setIfInBounds_toArray, List.set_cons_zero, List.set_cons_succ]
        refine rel_skip rfl rfl ?_
        simp only [Act.put, List.setIfInBounds_toArray, List.set_cons_zero, List.set_cons_succ]
        refine rel_skip rfl rfl ?_
        simp only [Act.put, List.setIfInBounds_toArray, List.set_cons_zero, List.set_cons_succ]
        refine rel_skip rfl rfl ?_
        simp only [Act.put, List.setIfInBounds_toArray, List.set_cons_zero, List.set_cons_succ]
        refine rel_skip rfl rfl ?_
        simp only [Act.put, List.setIfInBounds_toArray, List.set_cons_zero, List.set_cons_succ]
        refine rel_skip rfl rfl ?_
        simp only [Act.put, List.setIfInBounds_toArray, List.set_cons_zero, List.set_cons_succ]
        refine rg_quiet rfl rfl rfl rfl ?_; intro K hK; go_big_quiet_op; go_big_quiet_on
        refine rg_quiet rfl rfl rfl rfl ?_; intro K hK; go_big_quiet_op; go_big_quiet_on
        refine rel_skip rfl rfl ?_
        simp only [Act.put, List.setIfInBounds_toArray, List.set_cons_zero, List.set_cons_succ]
        refine rel_skip rfl rfl ?_
        simp only [Act.put, List.setIfInBounds_toArray, List.set_cons_zero, List.set_cons_succ]
        refine rel_skip rfl rfl ?_
        simp only [Act.put, List.setIfInBounds_toArray, List.set_cons_zero, List.set_cons_succ]
        refine rel_skip rfl rfl ?_
        simp only [Act.put, List.setIfInBounds_toArray, List.set_cons_zero, List.set_cons_succ]
        refine rg_quiet rfl rfl rfl rfl ?_; intro K hK; go_big_quiet_op; go_big_quiet_on
        refine rg_quiet rfl rfl rfl rfl ?_; intro K hK; go_big_quiet_op; go_big_quiet_on
        refine rel_skip rfl rfl ?_
        simp only [Act.put, List.setIfInBounds_toArray, List.set_cons_zero, List.set_cons_succ]
        refine rel_skip rfl rfl ?_
        simp only [Act.put, List.setIfInBounds_toArray, List.set_cons_zero, List.set_cons_succ]
        refine rel_skip rfl rfl ?_
        simp only [Act.put, List.setIfInBounds_toArray, List.set_cons_zero, List.set_cons_succ]
        refine rel_skip rfl rfl ?_
        simp only [Act.put, List.setIfInBounds_toArray, List.set_cons_zero, List.set_cons_succ]
        refine rg_quiet rfl rfl rfl rfl ?_; intro K hK; go_big_quiet_op; go_big_quiet_on
        refine rel_nil fun w5 hE5 _ => ?_
        obtain ⟨b0, hE⟩ := FIN.out w5 hE5
        clear x0 x1 x2 x3 x4 y7 hE5 FIN e0
        go_wp2_with fail
        go_ret
        exact ⟨ret_bool HQ.out.symm, hE⟩
      · cases k with
        | zero =>
          have ho : Hid (ordB (prevN l 0) M.name = true) := rfl
          refine rg_quiet rfl rfl rfl rfl ?_; intro K hK; go_big_quiet_op; go_big_quiet_on
          refine rg_quiet rfl rfl rfl rfl ?_; intro K hK; go_big_quiet_op; go_big_quiet_on
          refine rg_val [] rfl rfl rfl (by kernel_rfl) (fun w1 hE hf => ?_) ?_
          · go_simp
            exact (name_lowB _ HML.out w1).mono fun e w' ⟨he, hw⟩ => ⟨_, he, rg_done hE hw (bool_congr e0)⟩
          simp only [Act.put, List.setIfInBounds_toArray, List.set_cons_zero, List.set_cons_succ]
          refine rg_quiet rfl rfl rfl rfl ?_; intro K hK; go_big_quiet_op; go_big_quiet_on
          refine rg_quiet rfl rfl rfl rfl ?_; intro K hK; go_big_quiet_op; go_big_quiet_on
          refine rg_quiet rfl rfl rfl rfl ?_; intro K hK; go_big_quiet_op; go_big_quiet_on
          refine rg_quiet rfl rfl rfl rfl ?_; intro K hK; go_big_quiet_op; go_big_quiet_on
          refine rg_quiet rfl rfl rfl rfl ?_; intro K hK; go_big_quiet_op; go_big_quiet_on
          refine rel_skip rfl rfl ?_
          simp only [Act.put, List.setIfInBounds_toArray, List.set_cons_zero, List.set_cons_succ]
          refine rel_skip rfl rfl ?_
          simp only [Act.put, List.setIfInBounds_toArray, List.set_cons_zero, List.set_cons_succ]
          refine rel_skip rfl rfl ?_
          simp only [Act.put, List.setIfInBounds_toArray, List.set_cons_zero, List.set_cons_succ]
          refine rel_skip rfl rfl ?_
          simp only [Act.put, List.setIfInBounds_toArray, List.set_cons_zero, List.set_cons_succ]
          refine rel_skip rfl rfl ?_
          simp only [Act.put, List.setIfInBounds_toArray, List.set_cons_zero, List.set_cons_succ]
          refine rel_skip rfl rfl ?_
          simp only [Act.put, List.setIfInBounds_toArray, List.set_cons_zero, List.set_cons_succ]
          refine rel_skip rfl rfl ?_
          simp only [Act.put, List.setIfInBounds_toArray, List.set_cons_zero, List.set_cons_succ]
          refine rel_skip rfl rfl ?_
          simp only [Act.put, List.setIfInBounds_toArray, List.set_cons_zero, List.set_cons_succ]
          refine rel_skip rfl rfl ?_
          simp only [Act.put, List.setIfInBounds_toArray, List.set_cons_zero, List.set_cons_succ]
          refine rel_skip rfl rfl ?_
          simp only [Act.put, List.setIfInBounds_toArray, List.set_cons_zero, List.set_cons_succ]
          refine rg_quiet rfl rfl rfl rfl ?_; intro K hK; go_big_quiet_op; go_big_quiet_on
          refine rg_quiet rfl rfl rfl rfl ?_; intro K hK; go_big_quiet_op; go_big_quiet_on
          refine rg_quiet rfl rfl rfl rfl ?_; intro K hK; go_big_quiet_op; go_big_quiet_on
          cases e2 : checkC M.cell.val M.cell.dead M.cell.at_ M.cell.fin
          · have HQ : Hid (colsB none l = false) := by show colsB none l = false; rw [HD.out, e0, ho.out, e2]; simp
            refine rg_quiet rfl rfl rfl rfl ?_; intro K hK; go_big_quiet_op; go_big_quiet_on
            refine rg_quiet rfl rfl rfl rfl ?_; intro K hK; go_big_quiet_op; go_big_quiet_on
            refine rg_val [] rfl rfl rfl (by kernel_rfl) (fun w1 hE hf => ?_) ?_
            · go_simp
              exact (check_any _ _ _ _ w1).mono fun e w' ⟨he, hw⟩ => ⟨_, he, rg_done hE hw (bool_congr e2)⟩
            simp only [Act.put, List.setIfInBounds_toArray, List.set_cons_zero, List.set_cons_succ]
            refine rg_quiet rfl rfl rfl rfl ?_; intro K hK; go_big_quiet_op; go_big_quiet_on
            refine rg_quiet rfl rfl rfl rfl ?_; intro K hK; go_big_quiet_op; go_big_quiet_on
            refine rg_quiet rfl rfl rfl rfl ?_; intro K hK; go_big_quiet_op; go_big_quiet_on
            refine rel_skip rfl rfl ?_
            simp only [Act.put, List.setIfInBounds_toArray, List.set_cons_zero, List.set_cons_succ]
            refine rel_skip rfl rfl ?_
            simp only [Act.put, List.setIfInBounds_toArray, List.set_cons_zero, List.set_cons_succ]
            refine rel_skip rfl rfl ?_
            simp only [Act.put, List.setIfInBounds_toArray, List.set_cons_zero, List.set_cons_succ]
            refine rel_skip rfl rfl ?_
            simp only [Act.put, List.setIfInBounds_toArray, List.set_cons_zero, List.set_cons_succ]
            refine rg_quiet rfl rfl rfl rfl ?_; intro K hK; go_big_quiet_op; go_big_quiet_on
            refine rel_nil fun w5 hE5 _ => ?_
            obtain ⟨b0, hE⟩ := FIN.out w5 hE5
            clear x0 x1 x2 x3 x4 y7 hE5 FIN e0 e2 
            go_wp2_with fail
            go_ret
            exact ⟨ret_bool HQ.out.symm, hE⟩
          · cases e3 : decide (0 < M.cell.at_)
            · have e4 : decide (M.cell.at_ ≤ 0) = true := by simp at e3 ⊢ <;> omega
              have HQ : Hid (colsB none l = false) := by show colsB none l = false; rw [HD.out, e0, ho.out, e2, e3]; simp
              refine rg_quiet rfl rfl rfl rfl ?_; intro K hK; go_big_quiet_op; go_big_quiet_on
              refine rg_quiet rfl rfl rfl rfl ?_; intro K hK; go_big_quiet_op; go_big_quiet_on
              refine rg_val [] rfl rfl rfl (by kernel_rfl) (fun w1 hE hf => ?_) ?_
              · go_simp
                exact (check_any _ _ _ _ w1).mono fun e w' ⟨he, hw⟩ => ⟨_, he, rg_done hE hw (bool_congr e2)⟩
              simp only [Act.put, List.setIfInBounds_toArray, List.set_cons_zero, List.set_cons_succ]
              refine rg_quiet rfl rfl rfl rfl ?_; intro K hK; go_big_quiet_op; go_big_quiet_on
              refine rg_quiet rfl rfl rfl rfl ?_; intro K hK; go_big_quiet_op; go_big_quiet_on
              refine rg_quiet rfl rfl rfl rfl ?_; intro K hK; go_big_quiet_op; go_big_quiet_on
              refine rg_quiet rfl rfl rfl rfl ?_; intro K hK; go_big_quiet_op; go_big_quiet_on
              refine rg_quiet rfl rfl rfl rfl ?_; intro K hK; go_big_quiet_op; go_big_quiet_on
              refine rg_quiet rfl rfl rfl rfl ?_; intro K hK; go_big_quiet_op; go_big_quiet_on
              refine rg_quiet rfl rfl rfl rfl ?_; intro K hK; go_big_quiet_op; go_big_quiet_on
              refine rg_quiet rfl rfl rfl rfl ?_; intro K hK; go_big_quiet_op; go_big_quiet_on
              refine rel_nil fun w5 hE5 _ => ?_
              obtain ⟨b0, hE⟩ := FIN.out w5 hE5
              clear x0 x1 x2 x3 x4 y7 hE5 FIN e0 e2 e3 
              go_wp2_with fail
              go_ret
              exact ⟨ret_bool HQ.out.symm, hE⟩
            · have e4 : decide (M.cell.at_ ≤ 0) = false := by simp at e3 ⊢ <;> omega
              have HQ : Hid (colsB none l = colsB (prevN l (0 + 1)) (l.drop (0 + 1))) := by show colsB none l = _; rw [HD.out, e0, ho.out, e2, e3, HN.out]; rfl
              refine rg_quiet rfl rfl rfl rfl ?_; intro K hK; go_big_quiet_op; go_big_quiet_on
              refine rg_quiet rfl rfl rfl rfl ?_; intro K hK; go_big_quiet_op; go_big_quiet_on
              refine rg_val [] rfl rfl rfl (by kernel_rfl) (fun w1 hE hf => ?_) ?_
              · go_simp
                exact (check_any _ _ _ _ w1).mono fun e w' ⟨he, hw⟩ => ⟨_, he, rg_done hE hw (bool_congr e2)⟩
              simp only [Act.put, List.setIfInBounds_toArray, List.set_cons_zero, List.set_cons_succ]
              refine rg_quiet rfl rfl rfl rfl ?_; intro K hK; go_big_quiet_op; go_big_quiet_on
              refine rg_quiet rfl rfl rfl rfl ?_; intro K hK; go_big_quiet_op; go_big_quiet_on
              refine rg_quiet rfl rfl rfl rfl ?_; intro K hK; go_big_quiet_op; go_big_quiet_on
              refine rg_quiet rfl rfl rfl rfl ?_; intro K hK; go_big_quiet_op; go_big_quiet_on
              refine rg_quiet rfl rfl rfl rfl ?_; intro K hK; go_big_quiet_op; go_big_quiet_on
              refine rg_quiet rfl rfl rfl rfl ?_; intro K hK; go_big_quiet_op; go_big_quiet_on
              refine rg_quiet rfl rfl rfl rfl ?_; intro K hK; go_big_quiet_op; go_big_quiet_on
              refine rg_quiet rfl rfl rfl rfl ?_; intro K hK; go_big_quiet_op; go_big_quiet_on
              refine rel_nil fun w5 hE5 _ => ?_
              obtain ⟨b0, hE⟩ := FIN.out w5 hE5
              clear x0 x1 x2 x3 x4 y7 hE5 FIN e0 e2 e3 
              go_wp2_with fail
              go_roundw
              case rel => exact ⟨0 + 1, by omega, by go_num, b0, hE, HQ.out⟩
              case measure => simp [intOf] <;> omega
        | succ j =>
          have hj : j < l.length := by omega
          obtain ⟨b', o', e', hp⟩ := HC.out j hj
          cases e'
          replace hp := held (hE.cell hp.c0)
          obtain ⟨Pn, hPn⟩ : ∃ Pn, Pn = l[j].name := ⟨_, rfl⟩
          rw [← hPn] at hp
          have HO : Hid (ordB (prevN l (j + 1)) M.name = Op.bytesLess Pn.toList M.name.toList) := by show ordB (prevN l (j + 1)) M.name = _; simp [prevN, hj, ordB, hPn]
          clear hPn
          have hw : IntKind.i64.wrap ((j : Int) + 1 - 1) = (j : Int) := by rw [IntKind.wrap_i64]; omega
          have hjl : decide ((j : Int) < (l.length : Int)) = true := by simpa using hj
          have hj0 : decide ((0 : Int) < (j : Int) + 1) = true := decide_eq_true (by omega)
          cases eo : Op.bytesLess Pn.toList M.name.toList
          · have ho : Hid (ordB (prevN l (j + 1)) M.name = false) := HO.out.trans eo
            have HQ : Hid (colsB none l = false) := by show colsB none l = false; rw [HD.out, e0, ho.out]; simp
            refine rg_quiet rfl rfl rfl rfl ?_; intro K hK; go_big_quiet_op; go_big_quiet_on
            refine rg_quiet rfl rfl rfl rfl ?_; intro K hK; go_big_quiet_op; go_big_quiet_on
            refine rg_val [] rfl rfl rfl (by kernel_rfl) (fun w1 hE hf => ?_) ?_
            · go_simp
              exact (name_lowB _ HML.out w1).mono fun e w' ⟨he, hw⟩ => ⟨_, he, rg_done hE hw (bool_congr e0)⟩
            simp only [Act.put, List.setIfInBounds_toArray, List.set_cons_zero, List.set_cons_succ]
            refine rg_quiet rfl rfl rfl rfl ?_; intro K hK; go_big_quiet_op; go_big_quiet_on
            refine rg_quiet rfl rfl rfl rfl ?_; intro K hK; go_big_quiet_op; go_big_quiet_on
            refine rg_quiet rfl rfl rfl rfl ?_; intro K hK; go_big_quiet_op; go_big_quiet_on
            refine rg_quiet rfl rfl rfl rfl ?_; intro K hK; go_big_quiet_op; go_big_quiet_on
            refine rg_quiet rfl rfl rfl rfl ?_; intro K hK; go_big_quiet_op; go_big_quiet_on
            refine rg_quiet rfl rfl rfl rfl ?_; intro K hK; go_big_quiet_op; go_big_quiet_on
            refine rg_quiet rfl rfl rfl rfl ?_; intro K hK; go_big_quiet_op; go_big_quiet_on
            refine rg_quiet rfl rfl rfl rfl ?_; intro K hK; go_big_quiet_op; go_big_quiet_on
            refine rg_quiet rfl rfl rfl rfl ?_; intro K hK; go_big_quiet_op; go_big_quiet_on
            refine rg_quiet rfl rfl rfl rfl ?_; intro K hK; go_big_quiet_op; go_big_quiet_on
            refine rg_quiet rfl rfl rfl rfl ?_; intro K hK; go_big_quiet_op; go_big_quiet_on
            refine rg_quiet rfl rfl rfl rfl ?_; intro K hK; go_big_quiet_op; go_big_quiet_on
            refine rg_quiet rfl rfl rfl rfl ?_; intro K hK; go_big_quiet_op; go_big_quiet_on
            refine rg_quiet rfl rfl rfl rfl ?_; intro K hK; go_big_quiet_op; go_big_quiet_on
            refine rg_quiet rfl rfl rfl rfl ?_; intro K hK; go_big_quiet_op; go_big_quiet_on
            refine rg_quiet rfl rfl rfl rfl ?_; intro K hK; go_big_quiet_op; go_big_quiet_on
            refine rg_quiet rfl rfl rfl rfl ?_; intro K hK; go_big_quiet_op; go_big_quiet_on
            refine rg_quiet rfl rfl rfl rfl ?_; intro K hK; go_big_quiet_op; go_big_quiet_on
            refine rel_skip rfl rfl ?_
            simp only [Act.put, List.setIfInBounds_toArray, List.set_cons_zero, List.set_cons_succ]
            refine rel_skip rfl rfl ?_
            simp only [Act.put, List.setIfInBounds_toArray, List.set_cons_zero, List.set_cons_succ]
            refine rel_skip rfl rfl ?_
            simp only [Act.put, List.setIfInBounds_toArray, List.set_cons_zero, List.set_cons_succ]
            refine rel_skip rfl rfl ?_
            simp only [Act.put, List.setIfInBounds_toArray, List.set_cons_zero, List.set_cons_succ]
            refine rg_quiet rfl rfl rfl rfl ?_; intro K hK; go_big_quiet_op; go_big_quiet_on
            refine rg_quiet rfl rfl rfl rfl ?_; intro K hK; go_big_quiet_op; go_big_quiet_on
            refine rel_skip rfl rfl ?_
            simp only [Act.put, List.setIfInBounds_toArray, List.set_cons_zero, List.set_cons_succ]
            refine rel_skip rfl rfl ?_
            simp only [Act.put, List.setIfInBounds_toArray, List.set_cons_zero, List.set_cons_succ]
            refine rel_skip rfl rfl ?_
            simp only [Act.put, List.setIfInBounds_toArray, List.set_cons_zero, List.set_cons_succ]
            refine rel_skip rfl rfl ?_
            simp only [Act.put, List.setIfInBounds_toArray, List.set_cons_zero, List.set_cons_succ]
            refine rg_quiet rfl rfl rfl rfl ?_; intro K hK; go_big_quiet_op; go_big_quiet_on
            refine rel_nil fun w5 hE5 _ => ?_
            obtain ⟨b0, hE⟩ := FIN.out w5 hE5
            clear x0 x1 x2 x3 x4 y7 hE5 FIN e0 eo hp
            go_wp2_with fail
            go_ret
            exact ⟨ret_bool HQ.out.symm, hE⟩
          · have ho : Hid (ordB (prevN l (j + 1)) M.name = true) := HO.out.trans eo
            refine rg_quiet rfl rfl rfl rfl ?_; intro K hK; go_big_quiet_op; go_big_quiet_on
            refine rg_quiet rfl rfl rfl rfl ?_; intro K hK; go_big_quiet_op; go_big_quiet_on
            refine rg_val [] rfl rfl rfl (by kernel_rfl) (fun w1 hE hf => ?_) ?_
            · go_simp
              exact (name_lowB _ HML.out w1).mono fun e w' ⟨he, hw⟩ => ⟨_, he, rg_done hE hw (bool_congr e0)⟩
            simp only [Act.put, List.setIfInBounds_toArray, List.set_cons_zero, List.set_cons_succ]
            refine rg_quiet rfl rfl rfl rfl ?_; intro K hK; go_big_quiet_op; go_big_quiet_on
            refine rg_quiet rfl rfl rfl rfl ?_; intro K hK; go_big_quiet_op; go_big_quiet_on
            refine rg_quiet rfl rfl rfl rfl ?_; intro K hK; go_big_quiet_op; go_big_quiet_on
            refine rg_quiet rfl rfl rfl rfl ?_; intro K hK; go_big_quiet_op; go_big_quiet_on
            refine rg_quiet rfl rfl rfl rfl ?_; intro K hK; go_big_quiet_op; go_big_quiet_on
            refine rg_quiet rfl rfl rfl rfl ?_; intro K hK; go_big_quiet_op; go_big_quiet_on
            refine rg_quiet rfl rfl rfl rfl ?_; intro K hK; go_big_quiet_op; go_big_quiet_on
            refine rg_quiet rfl rfl rfl rfl ?_; intro K hK; go_big_quiet_op; go_big_quiet_on
            refine rg_quiet rfl rfl rfl rfl ?_; intro K hK; go_big_quiet_op; go_big_quiet_on
            refine rg_quiet rfl rfl rfl rfl ?_; intro K hK; go_big_quiet_op; go_big_quiet_on
            refine rg_quiet rfl rfl rfl rfl ?_; intro K hK; go_big_quiet_op; go_big_quiet_on
            refine rg_quiet rfl rfl rfl rfl ?_; intro K hK; go_big_quiet_op; go_big_quiet_on
            refine rg_quiet rfl rfl rfl rfl ?_; intro K hK; go_big_quiet_op; go_big_quiet_on
            refine rg_quiet rfl rfl rfl rfl ?_; intro K hK; go_big_quiet_op; go_big_quiet_on
            refine rg_quiet rfl rfl rfl rfl ?_; intro K hK; go_big_quiet_op; go_big_quiet_on
            refine rg_quiet rfl rfl rfl rfl ?_; intro K hK; go_big_quiet_op; go_big_quiet_on
            refine rg_quiet rfl rfl rfl rfl ?_; intro K hK; go_big_quiet_op; go_big_quiet_on
            refine rg_quiet rfl rfl rfl rfl ?_; intro K hK; go_big_quiet_op; go_big_quiet_on
            cases e2 : checkC M.cell.val M.cell.dead M.cell.at_ M.cell.fin
            · have HQ : Hid (colsB none l = false) := by show colsB none l = false; rw [HD.out, e0, ho.out, e2]; simp
              refine rg_quiet rfl rfl rfl rfl ?_; intro K hK; go_big_quiet_op; go_big_quiet_on
              refine rg_quiet rfl rfl rfl rfl ?_; intro K hK; go_big_quiet_op; go_big_quiet_on
              refine rg_val [] rfl rfl rfl (by kernel_rfl) (fun w1 hE hf => ?_) ?_
              · go_simp
                exact (check_any _ _ _ _ w1).mono fun e w' ⟨he, hw⟩ => ⟨_, he, rg_done hE hw (bool_congr e2)⟩
              simp only [Act.put, List.setIfInBounds_toArray, List.set_cons_zero, List.set_cons_succ]
              refine rg_quiet rfl rfl rfl rfl ?_; intro K hK; go_big_quiet_op; go_big_quiet_on
              refine rg_quiet rfl rfl rfl rfl ?_; intro K hK; go_big_quiet_op; go_big_quiet_on
              refine rg_quiet rfl rfl rfl rfl ?_; intro K hK; go_big_quiet_op; go_big_quiet_on
              refine rel_skip rfl rfl ?_
              simp only [Act.put, List.setIfInBounds_toArray, List.set_cons_zero, List.set_cons_succ]
              refine rel_skip rfl rfl ?_
              simp only [Act.put, List.setIfInBounds_toArray, List.set_cons_zero, List.set_cons_succ]
              refine rel_skip rfl rfl ?_
              simp only [Act.put, List.setIfInBounds_toArray, List.set_cons_zero, List.set_cons_succ]
              refine rel_skip rfl rfl ?_
              simp only [Act.put, List.setIfInBounds_toArray, List.set_cons_zero, List.set_cons_succ]
              refine rg_quiet rfl rfl rfl rfl ?_; intro K hK; go_big_quiet_op; go_big_quiet_on
              refine rel_nil fun w5 hE5 _ => ?_
              obtain ⟨b0, hE⟩ := FIN.out w5 hE5
              clear x0 x1 x2 x3 x4 y7 hE5 FIN e0 e2 eo hp
              go_wp2_with fail
              go_ret
              exact ⟨ret_bool HQ.out.symm, hE⟩
            · cases e3 : decide (0 < M.cell.at_)
              · have e4 : decide (M.cell.at_ ≤ 0) = true := by simp at e3 ⊢ <;> omega
                have HQ : Hid (colsB none l = false) := by show colsB none l = false; rw [HD.out, e0, ho.out, e2, e3]; simp
                refine rg_quiet rfl rfl rfl rfl ?_; intro K hK; go_big_quiet_op; go_big_quiet_on
                refine rg_quiet rfl rfl rfl rfl ?_; intro K hK; go_big_quiet_op; go_big_quiet_on
                refine rg_val [] rfl rfl rfl (by kernel_rfl) (fun w1 hE hf => ?_) ?_
                · go_simp
                  exact (check_any _ _ _ _ w1).mono fun e w' ⟨he, hw⟩ => ⟨_, he, rg_done hE hw (bool_congr e2)⟩
                simp only [Act.put, List.setIfInBounds_toArray, List.set_cons_zero, List.set_cons_succ]
                refine rg_quiet rfl rfl rfl rfl ?_; intro K hK; go_big_quiet_op; go_big_quiet_on
                refine rg_quiet rfl rfl rfl rfl ?_; intro K hK; go_big_quiet_op; go_big_quiet_on
                refine rg_quiet rfl rfl rfl rfl ?_; intro K hK; go_big_quiet_op; go_big_quiet_on
                refine rg_quiet rfl rfl rfl rfl ?_; intro K hK; go_big_quiet_op; go_big_quiet_on
                refine rg_quiet rfl rfl rfl rfl ?_; intro K hK; go_big_quiet_op; go_big_quiet_on
                refine rg_quiet rfl rfl rfl rfl ?_; intro K hK; go_big_quiet_op; go_big_quiet_on
                refine rg_quiet rfl rfl rfl rfl ?_; intro K hK; go_big_quiet_op; go_big_quiet_on
                refine rg_quiet rfl rfl rfl rfl ?_; intro K hK; go_big_quiet_op; go_big_quiet_on
                refine rel_nil fun w5 hE5 _ => ?_
                obtain ⟨b0, hE⟩ := FIN.out w5 hE5
                clear x0 x1 x2 x3 x4 y7 hE5 FIN e0 e2 e3 eo hp
                go_wp2_with fail
                go_ret
                exact ⟨ret_bool HQ.out.symm, hE⟩
              · have e4 : decide (M.cell.at_ ≤ 0) = false := by simp at e3 ⊢ <;> omega
                have HQ : Hid (colsB none l = colsB (prevN l ((j + 1) + 1)) (l.drop ((j + 1) + 1))) := by show colsB none l = _; rw [HD.out, e0, ho.out, e2, e3, HN.out]; rfl
                refine rg_quiet rfl rfl rfl rfl ?_; intro K hK; go_big_quiet_op; go_big_quiet_on
                refine rg_quiet rfl rfl rfl rfl ?_; intro K hK; go_big_quiet_op; go_big_quiet_on
                refine rg_val [] rfl rfl rfl (by kernel_rfl) (fun w1 hE hf => ?_) ?_
                · go_simp
                  exact (check_any _ _ _ _ w1).mono fun e w' ⟨he, hw⟩ => ⟨_, he, rg_done hE hw (bool_congr e2)⟩
                simp only [Act.put, List.setIfInBounds_toArray, List.set_cons_zero, List.set_cons_succ]
                refine rg_quiet rfl rfl rfl rfl ?_; intro K hK; go_big_quiet_op; go_big_quiet_on
                refine rg_quiet rfl rfl rfl rfl ?_; intro K hK; go_big_quiet_op; go_big_quiet_on
                refine rg_quiet rfl rfl rfl rfl ?_; intro K hK; go_big_quiet_op; go_big_quiet_on
                refine rg_quiet rfl rfl rfl rfl ?_; intro K hK; go_big_quiet_op; go_big_quiet_on
                refine rg_quiet rfl rfl rfl rfl ?_; intro K hK; go_big_quiet_op; go_big_quiet_on
                refine rg_quiet rfl rfl rfl rfl ?_; intro K hK; go_big_quiet_op; go_big_quiet_on
                refine rg_quiet rfl rfl rfl rfl ?_; intro K hK; go_big_quiet_op; go_big_quiet_on
                refine rg_quiet rfl rfl rfl rfl ?_; intro K hK; go_big_quiet_op; go_big_quiet_on
                refine rel_nil fun w5 hE5 _ => ?_
                obtain ⟨b0, hE⟩ := FIN.out w5 hE5
                clear x0 x1 x2 x3 x4 y7 hE5 FIN e0 e2 e3 eo hp
                go_wp2_with fail
                go_roundw
                case rel => exact ⟨(j + 1) + 1, by omega, by go_num, b0, hE, HQ.out⟩
                case measure => simp [intOf] <;> omega
    · obtain rfl : k = l.length := by omega
      have HQ : Hid (colsB none l = true) := by show colsB none l = true; rw [HX.out, List.drop_length]; rfl
      go_wp2_with fail
      go_ret
      exact ⟨ret_bool HQ.out.symm, hE⟩
end Go.Proofs.YteamiiekpjoclaaDoor

/- The reference's code points: cont, one. -/
namespace Go.Proofs.YteamiiekpjoclaaDoor
open Go Go.RowKit
attribute [local go_sem] yields yUpon

/-- Does a byte go on? -/
def goesOn (b : UInt8) : Bool := decide (b.toNat / 64 = 2)
def contB (s : ByteArray) (at_ n : Nat) : Bool := decide (at_ + n ≤ s.size) && (List.range n).all fun i => goesOn (s.get! (at_ + i))
theorem bits192 : ∀ n : Fin 256, (bits BinOp.and IntKind.u8 ((n.val : Nat) : Int) 192 != 128) = !decide (n.val / 64 = 2) := by decide +kernel
theorem goes_bits (b : UInt8) : (bits BinOp.and IntKind.u8 (b.toNat : Int) 192 != 128) = !goesOn b := bits192 ⟨b.toNat, b.toNat_lt⟩
theorem get_bang {s : ByteArray} {i : Nat} (h : i < s.size) : s.get! i = s[i]'h := by
  simp [ByteArray.get!, getElem!_pos, h]
  rfl
theorem contB_false {s : ByteArray} {at_ n k : Nat} (hk : k < n) (h : goesOn (s.get! (at_ + k)) = false) : contB s at_ n = false := by
  unfold contB
  rw [Bool.and_eq_false_iff]
  right
  rw [List.all_eq_false]
  exact ⟨k, by simpa using hk, by rw [h]; decide⟩
theorem contB_true {s : ByteArray} {at_ n : Nat} (hl : at_ + n ≤ s.size) (h : ∀ j, j < n → goesOn (s.get! (at_ + j)) = true) : contB s at_ n = true := by
  unfold contB
  rw [Bool.and_eq_true]
  refine ⟨by simpa using hl, ?_⟩
  rw [List.all_eq_true]
  intro j hj
  exact h j (by simpa using hj)

set_option maxHeartbeats 1000000 in
theorem cont_any (s : ByteArray) (at_ n : Nat) (hs : s.size ≤ 1000000) (ha : at_ ≤ 1000000) (hn : n ≤ 3) (w : World) :
    Calls Tryd.prog 104 #[.string s, .int .i64 at_, .int .i64 n] w fun e w' => e = .returned (.bool (contB s at_ n)) ∧ w = w' := by
  by_cases hl : at_ + n ≤ s.size
  · have k1 : decide ((s.size : Int) < (at_ : Int) + (n : Int)) = false := by simp; omega
    go_enter Tryd.func104, Tryd.ntmps104
    go_wp2
    go_loopw [7] (fun i wr => ∃ k : Nat, k ≤ n ∧ i = .int .i64 ((at_ : Int) + (k : Int)) ∧ wr = w ∧ ∀ j, j < k → goesOn (s.get! (at_ + j)) = true) (fun i _ => at_ + n - (intOf i).toNat)
    case atStart => exact ⟨0, Nat.zero_le _, by simp, rfl, fun j hj => absurd hj (Nat.not_lt_zero _)⟩
    case round =>
      obtain ⟨k, hk, rfl, rfl, hall⟩ := hrel
      have HALL := Lib.hid hall
      clear hall
      by_cases hlt : k < n
      · have hki : decide ((at_ : Int) + (k : Int) < (at_ : Int) + (n : Int)) = true := by simp; omega
        have hb := goes_bits (s[at_ + k]'(by omega))
        obtain ⟨g, hg⟩ : ∃ g, g = goesOn (s[at_ + k]'(by omega)) := ⟨_, rfl⟩
        rw [← hg] at hb
        have HG := Lib.hid hg
        clear hg
        cases g
        · go_wp2_with fail
          go_ret
          have e : contB s at_ n = false := contB_false hlt (by rw [get_bang (show at_ + k < s.size by omega)]; exact HG.out.symm)
          exact ⟨by rw [e]; rfl, rfl⟩
        · go_wp2_with fail
          go_roundw
          case rel => exact ⟨k + 1, by omega, by go_num, trivial, fun j hj => by
            by_cases h : j < k
            · exact HALL.out j h
            · obtain rfl : j = k := by omega
              rw [get_bang (show at_ + j < s.size by omega)]; exact HG.out.symm⟩
          case measure => simp [intOf] <;> omega
      · have hki : decide ((at_ : Int) + (k : Int) < (at_ : Int) + (n : Int)) = false := by simp; omega
        obtain rfl : k = n := by omega
        go_wp2_with fail
        go_ret
        have e : contB s at_ k = true := contB_true hl HALL.out
        exact ⟨by rw [e]; rfl, rfl⟩
  · have k1 : decide ((s.size : Int) < (at_ : Int) + (n : Int)) = true := by simp; omega
    have e : contB s at_ n = false := by
      unfold contB
      rw [Bool.and_eq_false_iff]
      left
      simpa using hl
    go_enter Tryd.func104, Tryd.ntmps104
    go_wp2
    go_ret
    exact ⟨by rw [e]; rfl, rfl⟩

/-- What is put together behind a first byte. -/
def accR (s : ByteArray) (at_ r0 : Nat) : Nat → Nat
  | 0 => r0
  | k + 1 => accR s at_ r0 k * 64 + (s.get! (at_ + (k + 1))).toNat % 64
theorem accR_lt (s : ByteArray) (at_ r0 : Nat) (h : r0 < 32) : ∀ k, k ≤ 3 → accR s at_ r0 k < 8388608 ∧ (k ≤ 2 → accR s at_ r0 k < 131072)
  | 0, _ => ⟨by show r0 < _; omega, fun _ => by show r0 < _; omega⟩
  | 1, _ => ⟨by show r0 * 64 + _ % 64 < _; omega, fun _ => by show r0 * 64 + _ % 64 < _; omega⟩
  | 2, _ => ⟨by show (r0 * 64 + _ % 64) * 64 + _ % 64 < _; omega, fun _ => by show (r0 * 64 + _ % 64) * 64 + _ % 64 < _; omega⟩
  | 3, _ => ⟨by show ((r0 * 64 + _ % 64) * 64 + _ % 64) * 64 + _ % 64 < _; omega, fun h => by omega⟩

theorem accR_one (s : ByteArray) (at_ r0 k : Nat) (h : r0 < 32) (hk : k + 1 ≤ 3) : bits BinOp.or IntKind.i32 (wrap32 ((accR s at_ r0 k : Int) * 64)) (wrap32 (bits BinOp.and IntKind.u8 ((s.get! (at_ + (k + 1))).toNat : Int) 63)) = (accR s at_ r0 (k + 1) : Nat) := by
  have hb := (s.get! (at_ + (k + 1))).toNat_lt
  have ha := (accR_lt s at_ r0 h k (by omega)).2 (by omega)
  rw [u8_and63 _ (by omega) (by omega)]
  unfold wrap32
  rw [show ((accR s at_ r0 k : Int) * 64 + 2147483648) % 4294967296 - 2147483648 = (accR s at_ r0 k : Int) * 64 by omega, show (((s.get! (at_ + (k + 1))).toNat : Int) % 64 + 2147483648) % 4294967296 - 2147483648 = ((s.get! (at_ + (k + 1))).toNat : Int) % 64 by omega]
  rw [i32_or6 _ _ (by omega) (by omega) (by omega) (by omega) (by omega)]
  show _ = ((accR s at_ r0 k * 64 + (s.get! (at_ + (k + 1))).toNat % 64 : Nat) : Int)
  omega
def rC (r : Int) (at_ n : Nat) (ok : Bool) : Array Value := #[.int .i32 r, .int .i64 at_, .int .i64 n, .bool ok]
/-- The code point at a place, as the reference has it. -/
def moreR (s : ByteArray) (at_ n r0 : Nat) : Nat × Nat × Bool :=
  if contB s (at_ + 1) n = true then
    if (n = 2 ∧ (accR s at_ r0 n < 2048 ∨ 55296 ≤ accR s at_ r0 n ∧ accR s at_ r0 n < 57344)) ∨ (n = 3 ∧ (accR s at_ r0 n < 65536 ∨ 1114111 < accR s at_ r0 n)) then (65533, 1, false) else (accR s at_ r0 n, n + 1, true)
  else (65533, 1, false)
def roneC (s : ByteArray) (at_ c : Nat) : Nat × Nat × Bool :=
  if c < 128 then (c, 1, true) else if 194 ≤ c ∧ c < 224 then moreR s at_ 1 (c % 32) else if 224 ≤ c ∧ c < 240 then moreR s at_ 2 (c % 16) else if 240 ≤ c ∧ c < 245 then moreR s at_ 3 (c % 8) else (65533, 1, false)
def roneR (s : ByteArray) (at_ : Nat) : Nat × Nat × Bool := roneC s at_ (s.get! at_).toNat
theorem mask_i32 (b : UInt8) (i : Nat) (hi : i ≤ 31) : bits BinOp.and IntKind.i32 (b.toNat : Int) (2 ^ i - 1) = ((b.toNat % 2 ^ i : Nat) : Int) := by
  have := b.toNat_lt
  rw [bits_mask .i32 31 (by decide) wraps_i32 i hi _ (by omega) (by omega)]
  simp
set_option maxRecDepth 100000 in
set_option maxHeartbeats 4000000 in
theorem rone_a (s : ByteArray) (at_ : Nat) (hs : s.size ≤ 1000000) (ha : at_ < s.size) (w : World) (c1 : (s[at_]).toNat < 128) :
    Calls Tryd.prog 92 #[.string s, .int .i64 at_] w fun e w' => e = .returned (.agg (rC (roneR s at_).1 at_ (roneR s at_).2.1 (roneR s at_).2.2)) ∧ Ext w w' := by
  have d1 : decide (((s[at_]).toNat : Int) < 128) = true := by simp; omega
  have e : roneR s at_ = ((s[at_]).toNat, 1, true) := by unfold roneR roneC; rw [get_bang ha, if_pos c1]
  rw [e]
  clear e
  go_enter Tryd.func92, Tryd.ntmps92
  go_wp2_with fail
  refine bodyPost_ret (v := .agg #[.int .i32 (s[at_]).toNat, .int .i64 at_, .int .i64 1, .bool true]) ?_ rfl ⟨rfl, ((Ext.refl w).alloc _).alloc _⟩
  simp [results, Tryd.results92, go_sem]
set_option maxRecDepth 100000 in
set_option maxHeartbeats 4000000 in
theorem rone_b (s : ByteArray) (at_ : Nat) (hs : s.size ≤ 1000000) (ha : at_ < s.size) (w : World) (c1 : ¬ (s[at_]).toNat < 128) (c2 : 194 ≤ (s[at_]).toNat ∧ (s[at_]).toNat < 224) :
    Calls Tryd.prog 92 #[.string s, .int .i64 at_] w fun e w' => e = .returned (.agg (rC (roneR s at_).1 at_ (roneR s at_).2.1 (roneR s at_).2.2)) ∧ Ext w w' := by
  have d0 : decide (((s[at_]).toNat : Int) < 128) = false := by simp; omega
  have d1 : decide (194 ≤ ((s[at_]).toNat : Int)) = true := by simp; omega
  have d2 : decide (((s[at_]).toNat : Int) < 224) = true := by simp; omega
  have m : bits BinOp.and IntKind.i32 ((s[at_]).toNat : Int) 31 = (((s[at_]).toNat % 32 : Nat) : Int) := mask_i32 _ 5 (by decide)
  obtain ⟨r0, hr0⟩ : ∃ r0, r0 = (s[at_]).toNat % 32 := ⟨_, rfl⟩
  rw [← hr0] at m
  have hr : r0 < 32 := by omega
  have e : roneR s at_ = moreR s at_ 1 r0 := by
    unfold roneR roneC
    rw [get_bang ha, ← hr0, if_neg c1, if_pos c2]
  have HE := Lib.hid e
  clear e hr0
  go_enter Tryd.func92, Tryd.ntmps92
  go_wp2_with fail
  refine (cont_any s (at_ + 1) 1 hs (by omega) (by omega) _).mono ?_
  rintro e w1 ⟨rfl, rfl⟩
  cases hc : contB s (at_ + 1) 1
  · have e : Hid (roneR s at_ = (65533, 1, false)) := by rw [HE.out]; unfold moreR; rw [hc]; rfl
    clear HE
    go_wp2_with fail
    refine bodyPost_ret (v := .agg #[.int .i32 65533, .int .i64 at_, .int .i64 1, .bool false]) ?_ rfl ⟨by rw [e.out]; rfl, ((Ext.refl w).alloc _).alloc _⟩
    simp [results, Tryd.results92, go_sem]
  · have hsz : at_ + 1 + 1 ≤ s.size := by
      unfold contB at hc
      rw [Bool.and_eq_true] at hc
      simpa using hc.1
    have HE2 : Hid (roneR s at_ = if (1 = 2 ∧ (accR s at_ r0 1 < 2048 ∨ 55296 ≤ accR s at_ r0 1 ∧ accR s at_ r0 1 < 57344)) ∨ (1 = 3 ∧ (accR s at_ r0 1 < 65536 ∨ 1114111 < accR s at_ r0 1)) then (65533, 1, false) else (accR s at_ r0 1, 1 + 1, true)) := by have := HE.out; unfold moreR at this; rw [if_pos hc] at this; exact this
    clear HE hc
    go_wp2_with fail
    go_loopw [8, 9] (fun r i wr => ∃ k : Nat, k ≤ 1 ∧ i = .int .i64 ((k : Int) + 1) ∧ r = .int .i32 (accR s at_ r0 k : Nat) ∧ wr = ((w.alloc (.cells #[.int .i32 0, .int .i64 0, .int .i64 0, .bool false] 109)).alloc (.cells #[.int .i32 65533, .int .i64 at_, .int .i64 1, .bool false] 109))) (fun _ i _ => 1 + 1 - (intOf i).toNat)
    case atStart => exact ⟨0, Nat.zero_le _, rfl, rfl, rfl⟩
    case round =>
      obtain ⟨k, hk, rfl, rfl, rfl⟩ := hrel
      by_cases hlt : k < 1
      · have t1 : decide ((k : Int) + 1 ≤ 1) = true := by simp; omega
        have t2 := accR_one s at_ r0 k hr (by omega)
        rw [get_bang (show at_ + (k + 1) < s.size by omega)] at t2
        go_wp2_with fail
        go_roundw
        case rel => exact ⟨k + 1, by omega, by go_num, rfl, trivial⟩
        case measure => simp [intOf] <;> omega
      · have t1 : decide ((k : Int) + 1 ≤ 1) = false := by simp; omega
        obtain rfl : k = 1 := by omega
        obtain ⟨R, hR⟩ : ∃ R, R = accR s at_ r0 1 := ⟨_, rfl⟩
        rw [← hR] at HE2 ⊢
        clear hR
        go_wp2_with fail
        refine bodyPost_ret (v := .agg #[.int .i32 R, .int .i64 at_, .int .i64 2, .bool true]) ?_ rfl ⟨by rw [HE2.out, if_neg (by omega)]; rfl, ((Ext.refl w).alloc _).alloc _⟩
        simp [results, Tryd.results92, go_sem]
set_option maxRecDepth 100000 in
set_option maxHeartbeats 4000000 in
theorem rone_c (s : ByteArray) (at_ : Nat) (hs : s.size ≤ 1000000) (ha : at_ < s.size) (w : World) (c1 : ¬ (s[at_]).toNat < 128) (c2 : ¬ (194 ≤ (s[at_]).toNat ∧ (s[at_]).toNat < 224)) (c3 : 224 ≤ (s[at_]).toNat ∧ (s[at_]).toNat < 240) :
    Calls Tryd.prog 92 #[.string s, .int .i64 at_] w fun e w' => e = .returned (.agg (rC (roneR s at_).1 at_ (roneR s at_).2.1 (roneR s at_).2.2)) ∧ Ext w w' := by
  have d0 : decide (((s[at_]).toNat : Int) < 128) = false := by simp; omega
  have d1 : decide (194 ≤ ((s[at_]).toNat : Int)) = true := by simp; omega
  have d2 : decide (((s[at_]).toNat : Int) < 224) = false := by simp; omega
  have d3 : decide (224 ≤ ((s[at_]).toNat : Int)) = true := by simp; omega
  have d4 : decide (((s[at_]).toNat : Int) < 240) = true := by simp; omega
  have m : bits BinOp.and IntKind.i32 ((s[at_]).toNat : Int) 15 = (((s[at_]).toNat % 16 : Nat) : Int) := mask_i32 _ 4 (by decide)
  obtain ⟨r0, hr0⟩ : ∃ r0, r0 = (s[at_]).toNat % 16 := ⟨_, rfl⟩
  rw [← hr0] at m
  have hr : r0 < 32 := by omega
  have e : roneR s at_ = moreR s at_ 2 r0 := by
    unfold roneR roneC
    rw [get_bang ha, ← hr0, if_neg c1, if_neg c2, if_pos c3]
  have HE := Lib.hid e
  clear e hr0
  go_enter Tryd.func92, Tryd.ntmps92
  go_wp2_with fail
  refine (cont_any s (at_ + 1) 2 hs (by omega) (by omega) _).mono ?_
  rintro e w1 ⟨rfl, rfl⟩
  cases hc : contB s (at_ + 1) 2
  · have e : Hid (roneR s at_ = (65533, 1, false)) := by rw [HE.out]; unfold moreR; rw [hc]; rfl
    clear HE
    go_wp2_with fail
    refine bodyPost_ret (v := .agg #[.int .i32 65533, .int .i64 at_, .int .i64 1, .bool false]) ?_ rfl ⟨by rw [e.out]; rfl, ((Ext.refl w).alloc _).alloc _⟩
    simp [results, Tryd.results92, go_sem]
  · have hsz : at_ + 1 + 2 ≤ s.size := by
      unfold contB at hc
      rw [Bool.and_eq_true] at hc
      simpa using hc.1
    have HE2 : Hid (roneR s at_ = if (2 = 2 ∧ (accR s at_ r0 2 < 2048 ∨ 55296 ≤ accR s at_ r0 2 ∧ accR s at_ r0 2 < 57344)) ∨ (2 = 3 ∧ (accR s at_ r0 2 < 65536 ∨ 1114111 < accR s at_ r0 2)) then (65533, 1, false) else (accR s at_ r0 2, 2 + 1, true)) := by have := HE.out; unfold moreR at this; rw [if_pos hc] at this; exact this
    clear HE hc
    go_wp2_with fail
    go_loopw [8, 9] (fun r i wr => ∃ k : Nat, k ≤ 2 ∧ i = .int .i64 ((k : Int) + 1) ∧ r = .int .i32 (accR s at_ r0 k : Nat) ∧ wr = ((w.alloc (.cells #[.int .i32 0, .int .i64 0, .int .i64 0, .bool false] 109)).alloc (.cells #[.int .i32 65533, .int .i64 at_, .int .i64 1, .bool false] 109))) (fun _ i _ => 2 + 1 - (intOf i).toNat)
    case atStart => exact ⟨0, Nat.zero_le _, rfl, rfl, rfl⟩
    case round =>
      obtain ⟨k, hk, rfl, rfl, rfl⟩ := hrel
      by_cases hlt : k < 2
      · have t1 : decide ((k : Int) + 1 ≤ 2) = true := by simp; omega
        have t2 := accR_one s at_ r0 k hr (by omega)
        rw [get_bang (show at_ + (k + 1) < s.size by omega)] at t2
        go_wp2_with fail
        go_roundw
        case rel => exact ⟨k + 1, by omega, by go_num, rfl, trivial⟩
        case measure => simp [intOf] <;> omega
      · have t1 : decide ((k : Int) + 1 ≤ 2) = false := by simp; omega
        obtain rfl : k = 2 := by omega
        obtain ⟨R, hR⟩ : ∃ R, R = accR s at_ r0 2 := ⟨_, rfl⟩
        rw [← hR] at HE2 ⊢
        clear hR
        by_cases q1 : R < 2048
        · have p1 : decide ((R : Int) < 2048) = true := by simp; omega
          go_wp2_with fail
          refine bodyPost_ret (v := .agg #[.int .i32 65533, .int .i64 at_, .int .i64 1, .bool false]) ?_ rfl ⟨by rw [HE2.out, if_pos (.inl ⟨by trivial, .inl q1⟩)]; rfl, ((Ext.refl w).alloc _).alloc _⟩
          simp [results, Tryd.results92, go_sem]
        · have p1 : decide ((R : Int) < 2048) = false := by simp; omega
          by_cases q2 : 55296 ≤ R
          · have p2 : decide (55296 ≤ (R : Int)) = true := by simp; omega
            by_cases q3 : R < 57344
            · have p3 : decide ((R : Int) < 57344) = true := by simp; omega
              go_wp2_with fail
              refine bodyPost_ret (v := .agg #[.int .i32 65533, .int .i64 at_, .int .i64 1, .bool false]) ?_ rfl ⟨by rw [HE2.out, if_pos (.inl ⟨by trivial, .inr ⟨q2, q3⟩⟩)]; rfl, ((Ext.refl w).alloc _).alloc _⟩
              simp [results, Tryd.results92, go_sem]
            · have p3 : decide ((R : Int) < 57344) = false := by simp; omega
              go_wp2_with fail
              refine bodyPost_ret (v := .agg #[.int .i32 R, .int .i64 at_, .int .i64 3, .bool true]) ?_ rfl ⟨by rw [HE2.out, if_neg (by omega)]; rfl, ((Ext.refl w).alloc _).alloc _⟩
              simp [results, Tryd.results92, go_sem]
          · have p2 : decide (55296 ≤ (R : Int)) = false := by simp; omega
            go_wp2_with fail
            refine bodyPost_ret (v := .agg #[.int .i32 R, .int .i64 at_, .int .i64 3, .bool true]) ?_ rfl ⟨by rw [HE2.out, if_neg (by omega)]; rfl, ((Ext.refl w).alloc _).alloc _⟩
            simp [results, Tryd.results92, go_sem]
set_option maxRecDepth 100000 in
set_option maxHeartbeats 4000000 in
theorem rone_d (s : ByteArray) (at_ : Nat) (hs : s.size ≤ 1000000) (ha : at_ < s.size) (w : World) (c1 : ¬ (s[at_]).toNat < 128) (c2 : ¬ (194 ≤ (s[at_]).toNat ∧ (s[at_]).toNat < 224)) (c3 : ¬ (224 ≤ (s[at_]).toNat ∧ (s[at_]).toNat < 240)) (c4 : 240 ≤ (s[at_]).toNat ∧ (s[at_]).toNat < 245) :
    Calls Tryd.prog 92 #[.string s, .int .i64 at_] w fun e w' => e = .returned (.agg (rC (roneR s at_).1 at_ (roneR s at_).2.1 (roneR s at_).2.2)) ∧ Ext w w' := by
  have d0 : decide (((s[at_]).toNat : Int) < 128) = false := by simp; omega
  have d1 : decide (194 ≤ ((s[at_]).toNat : Int)) = true := by simp; omega
  have d2 : decide (((s[at_]).toNat : Int) < 224) = false := by simp; omega
  have d3 : decide (224 ≤ ((s[at_]).toNat : Int)) = true := by simp; omega
  have d4 : decide (((s[at_]).toNat : Int) < 240) = false := by simp; omega
  have d5 : decide (240 ≤ ((s[at_]).toNat : Int)) = true := by simp; omega
  have d6 : decide (((s[at_]).toNat : Int) < 245) = true := by simp; omega
  have m : bits BinOp.and IntKind.i32 ((s[at_]).toNat : Int) 7 = (((s[at_]).toNat % 8 : Nat) : Int) := mask_i32 _ 3 (by decide)
  obtain ⟨r0, hr0⟩ : ∃ r0, r0 = (s[at_]).toNat % 8 := ⟨_, rfl⟩
  rw [← hr0] at m
  have hr : r0 < 32 := by omega
  have e : roneR s at_ = moreR s at_ 3 r0 := by
    unfold roneR roneC
    rw [get_bang ha, ← hr0, if_neg c1, if_neg c2, if_neg c3, if_pos c4]
  have HE := Lib.hid e
  clear e hr0
  go_enter Tryd.func92, Tryd.ntmps92
  go_wp2_with fail
  refine (cont_any s (at_ + 1) 3 hs (by omega) (by omega) _).mono ?_
  rintro e w1 ⟨rfl, rfl⟩
  cases hc : contB s (at_ + 1) 3
  · have e : Hid (roneR s at_ = (65533, 1, false)) := by rw [HE.out]; unfold moreR; rw [hc]; rfl
    clear HE
    go_wp2_with fail
    refine bodyPost_ret (v := .agg #[.int .i32 65533, .int .i64 at_, .int .i64 1, .bool false]) ?_ rfl ⟨by rw [e.out]; rfl, ((Ext.refl w).alloc _).alloc _⟩
    simp [results, Tryd.results92, go_sem]
  · have hsz : at_ + 1 + 3 ≤ s.size := by
      unfold contB at hc
      rw [Bool.and_eq_true] at hc
      simpa using hc.1
    have HE2 : Hid (roneR s at_ = if (3 = 2 ∧ (accR s at_ r0 3 < 2048 ∨ 55296 ≤ accR s at_ r0 3 ∧ accR s at_ r0 3 < 57344)) ∨ (3 = 3 ∧ (accR s at_ r0 3 < 65536 ∨ 1114111 < accR s at_ r0 3)) then (65533, 1, false) else (accR s at_ r0 3, 3 + 1, true)) := by have := HE.out; unfold moreR at this; rw [if_pos hc] at this; exact this
    clear HE hc
    go_wp2_with fail
    go_loopw [8, 9] (fun r i wr => ∃ k : Nat, k ≤ 3 ∧ i = .int .i64 ((k : Int) + 1) ∧ r = .int .i32 (accR s at_ r0 k : Nat) ∧ wr = ((w.alloc (.cells #[.int .i32 0, .int .i64 0, .int .i64 0, .bool false] 109)).alloc (.cells #[.int .i32 65533, .int .i64 at_, .int .i64 1, .bool false] 109))) (fun _ i _ => 3 + 1 - (intOf i).toNat)
    case atStart => exact ⟨0, Nat.zero_le _, rfl, rfl, rfl⟩
    case round =>
      obtain ⟨k, hk, rfl, rfl, rfl⟩ := hrel
      by_cases hlt : k < 3
      · have t1 : decide ((k : Int) + 1 ≤ 3) = true := by simp; omega
        have t2 := accR_one s at_ r0 k hr (by omega)
        rw [get_bang (show at_ + (k + 1) < s.size by omega)] at t2
        go_wp2_with fail
        go_roundw
        case rel => exact ⟨k + 1, by omega, by go_num, rfl, trivial⟩
        case measure => simp [intOf] <;> omega
      · have t1 : decide ((k : Int) + 1 ≤ 3) = false := by simp; omega
        obtain rfl : k = 3 := by omega
        obtain ⟨R, hR⟩ : ∃ R, R = accR s at_ r0 3 := ⟨_, rfl⟩
        rw [← hR] at HE2 ⊢
        clear hR
        by_cases q1 : R < 65536
        · have p1 : decide ((R : Int) < 65536) = true := by simp; omega
          go_wp2_with fail
          refine bodyPost_ret (v := .agg #[.int .i32 65533, .int .i64 at_, .int .i64 1, .bool false]) ?_ rfl ⟨by rw [HE2.out, if_pos (.inr ⟨by trivial, .inl q1⟩)]; rfl, ((Ext.refl w).alloc _).alloc _⟩
          simp [results, Tryd.results92, go_sem]
        · have p1 : decide ((R : Int) < 65536) = false := by simp; omega
          by_cases q2 : 1114111 < R
          · have p2 : decide (1114111 < (R : Int)) = true := by simp; omega
            go_wp2_with fail
            refine bodyPost_ret (v := .agg #[.int .i32 65533, .int .i64 at_, .int .i64 1, .bool false]) ?_ rfl ⟨by rw [HE2.out, if_pos (.inr ⟨by trivial, .inr q2⟩)]; rfl, ((Ext.refl w).alloc _).alloc _⟩
            simp [results, Tryd.results92, go_sem]
          · have p2 : decide (1114111 < (R : Int)) = false := by simp; omega
            go_wp2_with fail
            refine bodyPost_ret (v := .agg #[.int .i32 R, .int .i64 at_, .int .i64 4, .bool true]) ?_ rfl ⟨by rw [HE2.out, if_neg (by omega)]; rfl, ((Ext.refl w).alloc _).alloc _⟩
            simp [results, Tryd.results92, go_sem]
set_option maxRecDepth 100000 in
set_option maxHeartbeats 4000000 in
theorem rone_e (s : ByteArray) (at_ : Nat) (hs : s.size ≤ 1000000) (ha : at_ < s.size) (w : World) (c1 : ¬ (s[at_]).toNat < 128) (c2 : ¬ (194 ≤ (s[at_]).toNat ∧ (s[at_]).toNat < 224)) (c3 : ¬ (224 ≤ (s[at_]).toNat ∧ (s[at_]).toNat < 240)) (c4 : ¬ (240 ≤ (s[at_]).toNat ∧ (s[at_]).toNat < 245)) :
    Calls Tryd.prog 92 #[.string s, .int .i64 at_] w fun e w' => e = .returned (.agg (rC (roneR s at_).1 at_ (roneR s at_).2.1 (roneR s at_).2.2)) ∧ Ext w w' := by
  have e : Hid (roneR s at_ = (65533, 1, false)) := by
    show roneR s at_ = _
    unfold roneR roneC
    rw [get_bang ha, if_neg c1, if_neg c2, if_neg c3, if_neg c4]
  by_cases c5 : (s[at_]).toNat < 194
  · have _x := c5
    have d0 : decide (((s[at_]).toNat : Int) < 128) = false := by simp; omega
    have d1 : decide (194 ≤ ((s[at_]).toNat : Int)) = false := by simp; omega
    have d2 : decide (224 ≤ ((s[at_]).toNat : Int)) = false := by simp; omega
    have d3 : decide (240 ≤ ((s[at_]).toNat : Int)) = false := by simp; omega
    go_enter Tryd.func92, Tryd.ntmps92
    go_wp2_with fail
    refine bodyPost_ret (v := .agg #[.int .i32 65533, .int .i64 at_, .int .i64 1, .bool false]) ?_ rfl ⟨by rw [e.out]; rfl, ((Ext.refl w).alloc _).alloc _⟩
    simp [results, Tryd.results92, go_sem]
  · have hub : ((s[at_]).toNat : Int) < 256 := by have := (s[at_]).toNat_lt; omega
    have d0 : decide (((s[at_]).toNat : Int) < 128) = false := by simp; omega
    have d1 : decide (194 ≤ ((s[at_]).toNat : Int)) = true := by simp; omega
    have d2 : decide (((s[at_]).toNat : Int) < 224) = false := by simp; omega
    have d3 : decide (224 ≤ ((s[at_]).toNat : Int)) = true := by simp; omega
    have d4 : decide (((s[at_]).toNat : Int) < 240) = false := by simp; omega
    have d5 : decide (240 ≤ ((s[at_]).toNat : Int)) = true := by simp; omega
    have d6 : decide (((s[at_]).toNat : Int) < 245) = false := by simp; omega
    go_enter Tryd.func92, Tryd.ntmps92
    go_wp2_with fail
    refine bodyPost_ret (v := .agg #[.int .i32 65533, .int .i64 at_, .int .i64 1, .bool false]) ?_ rfl ⟨by rw [e.out]; rfl, ((Ext.refl w).alloc _).alloc _⟩
    simp [results, Tryd.results92, go_sem]
set_option maxRecDepth 100000 in
set_option maxHeartbeats 4000000 in
theorem rone_any (s : ByteArray) (at_ : Nat) (hs : s.size ≤ 1000000) (ha : at_ < s.size) (w : World) :
    Calls Tryd.prog 92 #[.string s, .int .i64 at_] w fun e w' => e = .returned (.agg (rC (roneR s at_).1 at_ (roneR s at_).2.1 (roneR s at_).2.2)) ∧ Ext w w' := by
  by_cases c1 : (s[at_]).toNat < 128
  · exact rone_a s at_ hs ha w c1
  by_cases c2 : 194 ≤ (s[at_]).toNat ∧ (s[at_]).toNat < 224
  · exact rone_b s at_ hs ha w c1 c2
  by_cases c3 : 224 ≤ (s[at_]).toNat ∧ (s[at_]).toNat < 240
  · exact rone_c s at_ hs ha w c1 c2 c3
  by_cases c4 : 240 ≤ (s[at_]).toNat ∧ (s[at_]).toNat < 245
  · exact rone_d s at_ hs ha w c1 c2 c3 c4
  exact rone_e s at_ hs ha w c1 c2 c3 c4
end Go.Proofs.YteamiiekpjoclaaDoor
