/- runes.Name at small ASCII letters. -/
import Derived.Test.YteamiiekpjoclaaDoorM1
import Derived.Test.YteamiiekpjoclaaDoorProg
import Derived.Laws.RangeString
import Derived.Test.YteamiiekpjoclaaDoorM2
import Derived.Test.YteamiiekpjoclaaDoorM3
namespace Go.Proofs.YteamiiekpjoclaaDoor
open Go Go.RowKit
attribute [local go_sem] yields yUpon

def iterPos (w : World) (b : Nat) : Nat := match w.heap[b]? with | some (.stringIter _ p) => p | _ => 0
theorem iterPos_iter (w : World) (s : ByteArray) (k : Nat) : iterPos (w.iter s k) w.heap.size = k := by
  unfold iterPos
  rw [World.iter_heap]
theorem Ext.iter (w : World) (s : ByteArray) (k : Nat) : Ext w (w.iter s k) := (Ext.refl w).alloc _

set_option maxHeartbeats 400000 in
theorem letter_low (r : Int) (h1 : 97 ≤ r) (h2 : r ≤ 122) (w : World) : Calls Tryd.prog 81 #[.int .i32 r] w fun e w' => e = .returned (.bool true) ∧ w = w' := by
  have d0 : (r == 95) = false := by simp; omega
  have d1 : decide (97 ≤ r) = true := by simpa using h1
  have d2 : decide (r ≤ 122) = true := by simpa using h2
  clear h1 h2
  go_enter Tryd.func81, Tryd.ntmps81
  go_wp2
  all_goals first
    | (exfalso; omega)
    | (go_ret
       exact ⟨rfl, rfl⟩)

set_option maxHeartbeats 400000 in
theorem right_any (s : ByteArray) (i r : Int) (h : r ≠ 65533) (w : World) : Calls Tryd.prog 82 #[.string s, .int .i64 i, .int .i32 r] w fun e w' => e = .returned (.bool true) ∧ w = w' := by
  have d0 : (r == 65533) = false := by simpa using h
  go_enter Tryd.func82, Tryd.ntmps82
  go_wp2
  all_goals
    go_ret
    exact ⟨rfl, rfl⟩

/-- A name of small letters. -/
def Low (s : ByteArray) : Prop := s.size ≤ 100 ∧ ∀ i (h : i < s.size), 97 ≤ (s[i]'h).toNat ∧ (s[i]'h).toNat ≤ 122

set_option maxRecDepth 100000 in
set_option maxHeartbeats 1000000 in
theorem name_low (s : ByteArray) (hs : Low s) (h0 : s.size ≠ 0) (w : World) :
    Calls Tryd.prog 53 #[.string s] w fun e w' => e = .returned (.bool true) ∧ Ext w w' := by
  obtain ⟨hl, hlow⟩ := hs
  have HLow := Lib.hid hlow
  clear hlow
  go_enter Tryd.func53, Tryd.ntmps53
  go_wp2
  go_loopw [3] (fun _ wr => ∃ k : Nat, k ≤ s.size ∧ wr = w.iter s k) (fun _ wr => s.size - iterPos wr w.heap.size)
  case atStart => exact ⟨0, Nat.zero_le _, rfl⟩
  case round =>
    obtain ⟨k, hk, rfl⟩ := hrel
    by_cases hlt : k < s.size
    · obtain ⟨b1, b2⟩ := HLow.out k hlt
      have hnx := fun ty => run_next_ascii (P := Tryd.prog) w s k ty hlt (by omega)
      obtain ⟨R, hR⟩ : ∃ R : Int, R = ((s[k]'hlt).toNat : Int) := ⟨_, rfl⟩
      rw [← hR] at hnx
      have r1 : 97 ≤ R := by omega
      have r2 : R ≤ 122 := by omega
      clear hR b1 b2
      go_wp2_with fail
      refine (letter_low R r1 r2 _).mono ?_
      rintro e w1 ⟨rfl, rfl⟩
      go_wp2_with fail
      refine (right_any s _ R (by omega) _).mono ?_
      rintro e w2 ⟨rfl, rfl⟩
      go_wp2_with fail
      go_roundw
      case rel => exact ⟨k + 1, by omega, rfl⟩
      case measure => rw [iterPos_iter, iterPos_iter]; omega
    · obtain rfl : k = s.size := by omega
      have hnx := fun ty => run_next_end (P := Tryd.prog) w s s.size ty (by omega)
      have k100 : decide ((s.size : Int) ≤ 100) = true := by simp; omega
      have e0 : (s.toList == []) = false := by
        rw [ByteArray.toList_eq]
        simp only [beq_eq_false_iff_ne, ne_eq]
        intro h
        exact h0 (by have := congrArg List.length h; exact this)
      go_wp2_with fail
      go_ret
      exact ⟨rfl, Ext.iter w s _⟩

set_option maxHeartbeats 1000000 in
theorem name_none (w : World) :
    Calls Tryd.prog 53 #[.string ⟨#[]⟩] w fun e w' => e = .returned (.bool false) ∧ Ext w w' := by
  go_enter Tryd.func53, Tryd.ntmps53
  go_wp2
  go_loopw [3] (fun _ wr => wr = w.iter ⟨#[]⟩ 0) (fun _ wr => 0)
  case atStart => rfl
  case round =>
    obtain rfl := hrel
    have hnx := fun ty => run_next_end (P := Tryd.prog) w ⟨#[]⟩ 0 ty (by decide)
    go_wp2_with fail
    go_ret
    exact ⟨rfl, Ext.iter w _ _⟩

/-- Is a text a name? (of texts of small letters) -/
def lowB (s : ByteArray) : Bool := decide (s.size ≠ 0)
theorem name_lowB (s : ByteArray) (hs : Low s) (w : World) :
    Calls Tryd.prog 53 #[.string s] w fun e w' => e = .returned (.bool (lowB s)) ∧ Ext w w' := by
  by_cases h : s.size = 0
  · have e : s = ⟨#[]⟩ := ByteArray.ext (Array.eq_empty_of_size_eq_zero h)
    subst e
    exact name_none w
  · have e : lowB s = true := by simp [lowB, h]
    rw [e]
    exact name_low s hs h w
end Go.Proofs.YteamiiekpjoclaaDoor

/- cell.stamp, cell.Check. -/
namespace Go.Proofs.YteamiiekpjoclaaDoor
open Go Go.RowKit

set_option maxHeartbeats 400000 in
theorem stamp_any (v : Int) (w : World) : Calls Tryd.prog 80 #[.int .i64 v] w fun e w' => e = .returned (.bool (stampB v)) ∧ w = w' := by
  by_cases h : 0 ≤ v
  all_goals
    go_enter Tryd.func80, Tryd.ntmps80
    go_wp2
    go_ret
    exact ⟨by unfold stampB; simp [h] <;> omega, rfl⟩

set_option maxHeartbeats 400000 in
theorem check_any (v : ByteArray) (d : Bool) (a e : Int) (w : World) :
    Calls Tryd.prog 51 #[.agg #[.string v, .bool d, .int .i64 a, .int .i64 e]] w fun r w' =>
      r = .returned (.bool (checkC v d a e)) ∧ Ext w w' := by
  go_enter Tryd.func51, Tryd.ntmps51
  cases h1 : stampB a <;> cases h2 : stampB e
  all_goals
    go_wp2_with (go_at_call 80; go_must (refine (stamp_any _ _).mono ?_); rintro r w1 ⟨rfl, rfl⟩)
  all_goals
    go_ret
    refine ⟨?_, (Ext.refl w).alloc _⟩
    refine ret_bool ?_
    go_light
    simp_all [checkC] <;> omega
end Go.Proofs.YteamiiekpjoclaaDoor

/- row.Check, of rows whose names are small letters. -/
namespace Go.Proofs.YteamiiekpjoclaaDoor
open Go Go.RowKit
attribute [local go_sem] yields yUpon

def ordB : Option ByteArray → ByteArray → Bool
  | none, _ => true
  | some q, n => Op.bytesLess q.toList n.toList
def colsB : Option ByteArray → List Co → Bool
  | _, [] => true
  | p, c :: l => lowB c.name && ordB p c.name && checkC c.cell.val c.cell.dead c.cell.at_ c.cell.fin && decide (0 < c.cell.at_) && colsB (some c.name) l
def prevN (l : List Co) : Nat → Option ByteArray
  | 0 => none
  | k + 1 => (l[k]?).map (·.name)
def headB (r : Ro) : Bool := !decide (400 < (r.key.size : Int)) && checkC r.live.val r.live.dead r.live.at_ r.live.fin && (r.live.val.toList == []) && !r.live.dead && stampB r.gone && stampB r.shade && !decide (8 < (r.cols.length : Int))
def rowB (r : Ro) : Bool := headB r && colsB none r.cols

set_option maxHeartbeats 400000 in
theorem rstamp_any (v : Int) (w : World) : Calls Tryd.prog 52 #[.int .i64 v] w fun e w' => e = .returned (.bool (stampB v)) ∧ w = w' := by
  by_cases h : 0 ≤ v
  all_goals
    go_enter Tryd.func52, Tryd.ntmps52
    go_wp2
    go_ret
    exact ⟨by unfold stampB; simp [h] <;> omega, rfl⟩


theorem head_cases (r : Ro) : headB r = true ∨ headB r = false := by cases headB r <;> simp

set_option maxRecDepth 100000 in
set_option maxHeartbeats 4000000 in
theorem rcheck_bad (r : Ro) (v : Value) (w : World) (hin : ColsIn w v r.cols) (hb : headB r = false) :
    Calls Tryd.prog 9 #[(.agg #[.string r.key, .string r.live.val, .bool r.live.dead, .int .i64 r.live.at_, .int .i64 r.live.fin, .int .i64 r.gone, .int .i64 r.shade, v])] w fun e w' => e = .returned (.bool false) ∧ Ext w w' := by
  obtain ⟨a, c, rfl, hc, hcm, hcell⟩ := hin.get
  clear hcell hin
  obtain ⟨key, ⟨val, dead, at_, fin⟩, gone, shade, cols⟩ := r
  have b0 : BoxAt (w.alloc (.cells (ro8 ⟨key, ⟨val, dead, at_, fin⟩, gone, shade, cols⟩ (.slice a cols.length c)) 26)) w.heap.size (ro8 ⟨key, ⟨val, dead, at_, fin⟩, gone, shade, cols⟩ (.slice a cols.length c)) 26 := BoxAt.made w _ _
  have hE0 : Ext w (w.alloc (.cells (ro8 ⟨key, ⟨val, dead, at_, fin⟩, gone, shade, cols⟩ (.slice a cols.length c)) 26)) := (Ext.refl w).alloc _
  obtain ⟨n, hn⟩ : ∃ n, n = cols.length := ⟨_, rfl⟩
  unfold headB at hb
  dsimp only at hb hc ⊢
  rw [← hn] at hb hc b0 hE0 ⊢
  clear hn
  cases c1 : decide (400 < (key.size : Int))
  · cases c2 : checkC val dead at_ fin
    · clear hb
      go_enter Tryd.func9, Tryd.ntmps9
      go_wp2_with (first
        | (go_at_call 51; go_must (refine (check_any _ _ _ _ _).mono ?_; rw [c2];rintro e w1 ⟨rfl, hE1⟩; replace hE0 := hE0.trans hE1; replace b0 := b0.ext hE1; obtain ⟨y0, y1, y2, y3, y4, y5, y6, y7⟩ := b0.ro))
        | (go_at_call 52; go_must (refine (rstamp_any _ _).mono ?_); rintro e w2 ⟨rfl, rfl⟩))
      go_ret
      exact ⟨rfl, by first | exact hE0 | exact Ext.refl _⟩
    · cases c3 : (val.toList == [])
      · clear hb
        go_enter Tryd.func9, Tryd.ntmps9
        go_wp2_with (first
          | (go_at_call 51; go_must (refine (check_any _ _ _ _ _).mono ?_; rw [c2];rintro e w1 ⟨rfl, hE1⟩; replace hE0 := hE0.trans hE1; replace b0 := b0.ext hE1; obtain ⟨y0, y1, y2, y3, y4, y5, y6, y7⟩ := b0.ro))
          | (go_at_call 52; go_must (refine (rstamp_any _ _).mono ?_); rintro e w2 ⟨rfl, rfl⟩))
        go_ret
        exact ⟨rfl, by first | exact hE0 | exact Ext.refl _⟩
      · cases dead
        · cases c5 : stampB gone
          · clear hb
            go_enter Tryd.func9, Tryd.ntmps9
            go_wp2_with (first
              | (go_at_call 51; go_must (refine (check_any _ _ _ _ _).mono ?_; rw [c2];rintro e w1 ⟨rfl, hE1⟩; replace hE0 := hE0.trans hE1; replace b0 := b0.ext hE1; obtain ⟨y0, y1, y2, y3, y4, y5, y6, y7⟩ := b0.ro))
              | (go_at_call 52; go_must (refine (rstamp_any _ _).mono ?_); rw [c5];rintro e w2 ⟨rfl, rfl⟩))
            go_ret
            exact ⟨rfl, by first | exact hE0 | exact Ext.refl _⟩
          · cases c6 : stampB shade
            · clear hb
              go_enter Tryd.func9, Tryd.ntmps9
              go_wp2_with (first
                | (go_at_call 51; go_must (refine (check_any _ _ _ _ _).mono ?_; rw [c2];rintro e w1 ⟨rfl, hE1⟩; replace hE0 := hE0.trans hE1; replace b0 := b0.ext hE1; obtain ⟨y0, y1, y2, y3, y4, y5, y6, y7⟩ := b0.ro))
                | (go_at_call 52; go_must (refine (rstamp_any _ _).mono ?_); (first | rw [c5] | rw [c6]);rintro e w2 ⟨rfl, rfl⟩))
              go_ret
              exact ⟨rfl, by first | exact hE0 | exact Ext.refl _⟩
            · have c7 : decide (8 < (n : Int)) = true := by rw [c1, c2, c3, c5, c6] at hb; simpa using hb
              clear hb
              go_enter Tryd.func9, Tryd.ntmps9
              go_wp2_with (first
                | (go_at_call 51; go_must (refine (check_any _ _ _ _ _).mono ?_; rw [c2];rintro e w1 ⟨rfl, hE1⟩; replace hE0 := hE0.trans hE1; replace b0 := b0.ext hE1; obtain ⟨y0, y1, y2, y3, y4, y5, y6, y7⟩ := b0.ro))
                | (go_at_call 52; go_must (refine (rstamp_any _ _).mono ?_); (first | rw [c5] | rw [c6]);rintro e w2 ⟨rfl, rfl⟩))
              go_ret
              exact ⟨rfl, by first | exact hE0 | exact Ext.refl _⟩
        · clear hb
          go_enter Tryd.func9, Tryd.ntmps9
          go_wp2_with (first
            | (go_at_call 51; go_must (refine (check_any _ _ _ _ _).mono ?_; rw [c2];rintro e w1 ⟨rfl, hE1⟩; replace hE0 := hE0.trans hE1; replace b0 := b0.ext hE1; obtain ⟨y0, y1, y2, y3, y4, y5, y6, y7⟩ := b0.ro))
            | (go_at_call 52; go_must (refine (rstamp_any _ _).mono ?_); rintro e w2 ⟨rfl, rfl⟩))
          go_ret
          exact ⟨rfl, by first | exact hE0 | exact Ext.refl _⟩
  · clear hb
    go_enter Tryd.func9, Tryd.ntmps9
    go_wp2_with (first
      | (go_at_call 51; go_must (refine (check_any _ _ _ _ _).mono ?_; rintro e w1 ⟨rfl, hE1⟩; replace hE0 := hE0.trans hE1; replace b0 := b0.ext hE1; obtain ⟨y0, y1, y2, y3, y4, y5, y6, y7⟩ := b0.ro))
      | (go_at_call 52; go_must (refine (rstamp_any _ _).mono ?_); rintro e w2 ⟨rfl, rfl⟩))
    go_ret
    exact ⟨rfl, by first | exact hE0 | exact Ext.refl _⟩
end Go.Proofs.YteamiiekpjoclaaDoor
