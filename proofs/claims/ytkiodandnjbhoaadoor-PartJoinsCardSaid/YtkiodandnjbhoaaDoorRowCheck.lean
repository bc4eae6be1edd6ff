/- row.Check, of rows whose names are small letters. -/
import Derived.Test.YtkiodandnjbhoaaDoorRowSeen
import Derived.Test.YtkiodandnjbhoaaDoorName
import Derived.Test.YtkiodandnjbhoaaDoorCellCheck
namespace Go.Proofs.YtkiodandnjbhoaaDoor
open Go Go.RowKit
attribute [local go_sem] yields yUpon

def ordB : Option ByteArray → ByteArray → Bool
  | none, _ => true
  | some q, n => Op.bytesLess q.toList n.toList
def colsB : Option ByteArray → List Co → Bool
  | _, [] => true
  | p, c :: l => lowB c.name && ordB p c.name && checkC c.cell.val c.cell.dead c.cell.at_ c.cell.fin && decide (0 < c.cell.at_) && colsB (some c.name) l
def prevN (l : List Co) : Nat → Option ByteArray
  | 0 => none
  | k + 1 => (l[k]?).map (·.name)
def headB (r : Ro) : Bool := !decide (400 < (r.key.size : Int)) && checkC r.live.val r.live.dead r.live.at_ r.live.fin && (r.live.val.toList == []) && !r.live.dead && stampB r.gone && stampB r.shade && !decide (8 < (r.cols.length : Int))
def rowB (r : Ro) : Bool := headB r && colsB none r.cols

set_option maxHeartbeats 400000 in
theorem rstamp_any (v : Int) (w : World) : Calls Tryd.prog 54 #[.int .i64 v] w fun e w' => e = .returned (.bool (stampB v)) ∧ w = w' := by
  by_cases h : 0 ≤ v
  all_goals
    go_enter Tryd.func54, Tryd.ntmps54
    go_wp2
    go_ret
    exact ⟨by unfold stampB; simp [h] <;> omega, rfl⟩


theorem head_cases (r : Ro) : headB r = true ∨ headB r = false := by cases headB r <;> simp

set_option maxRecDepth 100000 in
set_option maxHeartbeats 4000000 in
theorem rcheck_bad (r : Ro) (v : Value) (w : World) (hin : ColsIn w v r.cols) (hb : headB r = false) :
    Calls Tryd.prog 10 #[(.agg #[.string r.key, .string r.live.val, .bool r.live.dead, .int .i64 r.live.at_, .int .i64 r.live.fin, .int .i64 r.gone, .int .i64 r.shade, v])] w fun e w' => e = .returned (.bool false) ∧ Ext w w' := by
  obtain ⟨a, c, rfl, hc, hcm, hcell⟩ := hin.get
  clear hcell hin
  obtain ⟨key, ⟨val, dead, at_, fin⟩, gone, shade, cols⟩ := r
  have b0 : BoxAt (w.alloc (.cells (ro8 ⟨key, ⟨val, dead, at_, fin⟩, gone, shade, cols⟩ (.slice a cols.length c)) 26)) w.heap.size (ro8 ⟨key, ⟨val, dead, at_, fin⟩, gone, shade, cols⟩ (.slice a cols.length c)) 26 := BoxAt.made w _ _
  have hE0 : Ext w (w.alloc (.cells (ro8 ⟨key, ⟨val, dead, at_, fin⟩, gone, shade, cols⟩ (.slice a cols.length c)) 26)) := (Ext.refl w).alloc _
  obtain ⟨n, hn⟩ : ∃ n, n = cols.length := ⟨_, rfl⟩
  unfold headB at hb
  dsimp only at hb hc ⊢
  rw [← hn] at hb hc b0 hE0 ⊢
  clear hn
  cases c1 : decide (400 < (key.size : Int))
  · cases c2 : checkC val dead at_ fin
    · clear hb
      go_enter Tryd.func10, Tryd.ntmps10
      go_wp2_with (first
        | (go_at_call 53; go_must (refine (check_any _ _ _ _ _).mono ?_; rw [c2];rintro e w1 ⟨rfl, hE1⟩; replace hE0 := hE0.trans hE1; replace b0 := b0.ext hE1; obtain ⟨y0, y1, y2, y3, y4, y5, y6, y7⟩ := b0.ro))
        | (go_at_call 54; go_must (refine (rstamp_any _ _).mono ?_); rintro e w2 ⟨rfl, rfl⟩))
      go_ret
      exact ⟨rfl, by first | exact hE0 | exact Ext.refl _⟩
    · cases c3 : (val.toList == [])
      · clear hb
        go_enter Tryd.func10, Tryd.ntmps10
        go_wp2_with (first
          | (go_at_call 53; go_must (refine (check_any _ _ _ _ _).mono ?_; rw [c2];rintro e w1 ⟨rfl, hE1⟩; replace hE0 := hE0.trans hE1; replace b0 := b0.ext hE1; obtain ⟨y0, y1, y2, y3, y4, y5, y6, y7⟩ := b0.ro))
          | (go_at_call 54; go_must (refine (rstamp_any _ _).mono ?_); rintro e w2 ⟨rfl, rfl⟩))
        go_ret
        exact ⟨rfl, by first | exact hE0 | exact Ext.refl _⟩
      · cases dead
        · cases c5 : stampB gone
          · clear hb
            go_enter Tryd.func10, Tryd.ntmps10
            go_wp2_with (first
              | (go_at_call 53; go_must (refine (check_any _ _ _ _ _).mono ?_; rw [c2];rintro e w1 ⟨rfl, hE1⟩; replace hE0 := hE0.trans hE1; replace b0 := b0.ext hE1; obtain ⟨y0, y1, y2, y3, y4, y5, y6, y7⟩ := b0.ro))
              | (go_at_call 54; go_must (refine (rstamp_any _ _).mono ?_); rw [c5];rintro e w2 ⟨rfl, rfl⟩))
            go_ret
            exact ⟨rfl, by first | exact hE0 | exact Ext.refl _⟩
          · cases c6 : stampB shade
            · clear hb
              go_enter Tryd.func10, Tryd.ntmps10
              go_wp2_with (first
                | (go_at_call 53; go_must (refine (check_any _ _ _ _ _).mono ?_; rw [c2];rintro e w1 ⟨rfl, hE1⟩; replace hE0 := hE0.trans hE1; replace b0 := b0.ext hE1; obtain ⟨y0, y1, y2, y3, y4, y5, y6, y7⟩ := b0.ro))
                | (go_at_call 54; go_must (refine (rstamp_any _ _).mono ?_); (first | rw [c5] | rw [c6]);rintro e w2 ⟨rfl, rfl⟩))
              go_ret
              exact ⟨rfl, by first | exact hE0 | exact Ext.refl _⟩
            · have c7 : decide (8 < (n : Int)) = true := by rw [c1, c2, c3, c5, c6] at hb; simpa using hb
              clear hb
              go_enter Tryd.func10, Tryd.ntmps10
              go_wp2_with (first
                | (go_at_call 53; go_must (refine (check_any _ _ _ _ _).mono ?_; rw [c2];rintro e w1 ⟨rfl, hE1⟩; replace hE0 := hE0.trans hE1; replace b0 := b0.ext hE1; obtain ⟨y0, y1, y2, y3, y4, y5, y6, y7⟩ := b0.ro))
                | (go_at_call 54; go_must (refine (rstamp_any _ _).mono ?_); (first | rw [c5] | rw [c6]);rintro e w2 ⟨rfl, rfl⟩))
              go_ret
              exact ⟨rfl, by first | exact hE0 | exact Ext.refl _⟩
        · clear hb
          go_enter Tryd.func10, Tryd.ntmps10
          go_wp2_with (first
            | (go_at_call 53; go_must (refine (check_any _ _ _ _ _).mono ?_; rw [c2];rintro e w1 ⟨rfl, hE1⟩; replace hE0 := hE0.trans hE1; replace b0 := b0.ext hE1; obtain ⟨y0, y1, y2, y3, y4, y5, y6, y7⟩ := b0.ro))
            | (go_at_call 54; go_must (refine (rstamp_any _ _).mono ?_); rintro e w2 ⟨rfl, rfl⟩))
          go_ret
          exact ⟨rfl, by first | exact hE0 | exact Ext.refl _⟩
  · clear hb
    go_enter Tryd.func10, Tryd.ntmps10
    go_wp2_with (first
      | (go_at_call 53; go_must (refine (check_any _ _ _ _ _).mono ?_; rintro e w1 ⟨rfl, hE1⟩; replace hE0 := hE0.trans hE1; replace b0 := b0.ext hE1; obtain ⟨y0, y1, y2, y3, y4, y5, y6, y7⟩ := b0.ro))
      | (go_at_call 54; go_must (refine (rstamp_any _ _).mono ?_); rintro e w2 ⟨rfl, rfl⟩))
    go_ret
    exact ⟨rfl, by first | exact hE0 | exact Ext.refl _⟩
end Go.Proofs.YtkiodandnjbhoaaDoor
