/- row.Check whole; clerestorylaw07.awake. -/
import Derived.Test.YtkiodandnjbhoaaDoorRowCheck2
namespace Go.Proofs.YtkiodandnjbhoaaDoor
open Go Go.RowKit
attribute [local go_sem] yields yUpon ro8

theorem rcheck_any (r : Ro) (v : Value) (w : World) (hin : ColsIn w v r.cols) (hlow : ∀ k (h : k < r.cols.length), Low (r.cols[k]'h).name) :
    Calls Tryd.prog 10 #[(.agg #[.string r.key, .string r.live.val, .bool r.live.dead, .int .i64 r.live.at_, .int .i64 r.live.fin, .int .i64 r.gone, .int .i64 r.shade, v])] w fun e w' => e = .returned (.bool (rowB r)) ∧ Ext w w' := by
  rcases head_cases r with h | h
  · have e : rowB r = colsB none r.cols := by unfold rowB; rw [h]; rfl
    rw [e]
    exact rcheck_good r v w hin h hlow
  · have e : rowB r = false := by unfold rowB; rw [h]; rfl
    rw [e]
    exact rcheck_bad r v w hin h
theorem cols_one (w : World) (c : Co) (T : TypeId) : ColsIn (w.alloc (.cells (co5 c) T)) (.slice (some ⟨w.heap.size, 0, none⟩) 1 1) [c] :=
  SliceIn.made w (co5 c) T 1 (by unfold maxLen; decide)
theorem low_one (s : ByteArray) (h : s = ⟨#[97]⟩) : Low s := by subst h; exact ⟨by decide, by decide⟩

def awR : Ro := ⟨⟨#[107]⟩, zeroCl, 5, 0, [⟨⟨#[97]⟩, ⟨⟨#[120]⟩, false, 5, 0⟩⟩]⟩
def awR2 : Ro := ⟨⟨#[]⟩, zeroCl, 0, 0, [⟨⟨#[97]⟩, ⟨⟨#[120]⟩, false, 5, 0⟩⟩]⟩
set_option maxRecDepth 100000 in
set_option maxHeartbeats 2000000 in
theorem rawake_any (w : World) :
    Calls Tryd.prog 11 #[] w fun e w' => e = .returned (.bool true) ∧ Ext w w' := by
  have q1 : bestB (cellOf awR.cols ⟨#[97]⟩) (max awR.gone 0) = false := by simp [awR, cellOf, bestB]; decide
  have q2 : bestB (cellOf awR2.cols ⟨#[97]⟩) (max awR2.gone 4) = true := by simp [awR2, cellOf, bestB]; decide
  have q3 : rowB awR = true := by simp [awR, rowB, headB, colsB, ordB, lowB, checkC, stampB, zeroCl, ByteArray.toList_eq, ByteArray.size]
  have q4 : max awR.gone 9 = 9 := by decide
  have Q1 := Lib.hid q1
  have Q2 := Lib.hid q2
  have Q3 := Lib.hid q3
  have Q4 := Lib.hid q4
  clear q1 q2 q3 q4
  obtain ⟨vs, hvs⟩ : ∃ vs : Value, vs = .slice (some ⟨w.heap.size, 0, none⟩) 1 1 := ⟨_, rfl⟩
  have hin : ColsIn ((w.alloc (.cells (co5 ⟨⟨#[97]⟩, ⟨⟨#[120]⟩, false, 5, 0⟩⟩) 83)).alloc (.cells (ro8 awR (.slice (some ⟨w.heap.size, 0, none⟩) 1 1)) 26)) (.slice (some ⟨w.heap.size, 0, none⟩) 1 1) awR.cols := (cols_one w _ _).ext ((Ext.refl _).alloc _)
  obtain ⟨_, hbox, hE⟩ := boxes2 w (co5 ⟨⟨#[97]⟩, ⟨⟨#[120]⟩, false, 5, 0⟩⟩) (ro8 awR (.slice (some ⟨w.heap.size, 0, none⟩) 1 1)) 83 26
  clear hvs
  go_enter Tryd.func11, Tryd.ntmps11
  go_wp2_with fail
  refine (best_any awR (.slice (some ⟨w.heap.size, 0, none⟩) 1 1) 0 ⟨#[97]⟩ _ hin).mono ?_
  rw [Q1.out]
  rintro e w1 ⟨rfl, hE1⟩
  replace hin := hin.ext hE1
  replace hbox := hbox.ext hE1
  replace hE := hE.trans hE1
  clear hE1
  have y := hbox.allocs
  go_wp2_with fail
  refine (best_any awR2 (.slice (some ⟨w.heap.size, 0, none⟩) 1 1) 4 ⟨#[97]⟩ _ (hin.ext ((Ext.refl _).alloc _))).mono ?_
  rw [Q2.out]
  rintro e w2 ⟨rfl, hE2⟩
  replace hin := (hin.ext ((Ext.refl _).alloc _)).ext hE2
  replace hbox := (hbox.ext ((Ext.refl _).alloc _)).ext hE2
  replace hE := (hE.alloc _).trans hE2
  clear hE2 y
  have y := hbox.allocs
  go_wp2_with fail
  refine (rcheck_any awR (.slice (some ⟨w.heap.size, 0, none⟩) 1 1) _ (hin.ext ((Ext.refl _).alloc _)) (fun k hk => by
    obtain rfl : k = 0 := by simp [awR] at hk; omega
    exact low_one _ rfl)).mono ?_
  rw [Q3.out]
  rintro e w3 ⟨rfl, hE3⟩
  replace hbox := (hbox.ext ((Ext.refl _).alloc _)).ext hE3
  replace hE := (hE.alloc _).trans hE3
  clear hE3 y
  have y : ∀ i, w3.cell? ⟨w.heap.size + 1, i, none⟩ = (ro8 awR (.slice (some ⟨w.heap.size, 0, none⟩) 1 1))[i]? := fun i => hbox.cell i
  go_wp2_with fail
  refine (rgone_any awR (.slice (some ⟨w.heap.size, 0, none⟩) 1 1) 9 _).mono ?_
  rw [Q4.out]
  rintro e w4 ⟨rfl, hE4⟩
  go_wp2
  go_ret
  exact ⟨rfl, hE.trans hE4⟩
end Go.Proofs.YtkiodandnjbhoaaDoor
