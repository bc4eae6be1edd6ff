/- RowShades: the law's walk. -/
import Derived.Test.YtobanilgofhgkaaDoorRowIs
import Derived.Test.YtobanilgofhgkaaDoorRowCheck2
import Derived.Test.YtobanilgofhgkaaDoorPlace
namespace Go.Proofs.YtobanilgofhgkaaDoor
open Go Go.RowKit
attribute [local go_sem] yields yUpon ro8

theorem rcheck_any (r : Ro) (v : Value) (w : World) (hin : ColsIn w v r.cols) (hlow : ∀ k (h : k < r.cols.length), Low (r.cols[k]'h).name) :
    Calls Tryd.prog 7 #[(.agg #[.string r.key, .string r.live.val, .bool r.live.dead, .int .i64 r.live.at_, .int .i64 r.live.fin, .int .i64 r.gone, .int .i64 r.shade, v])] w fun e w' => e = .returned (.bool (rowB r)) ∧ Ext w w' := by
  rcases head_cases r with h | h
  · have e : rowB r = colsB none r.cols := by unfold rowB; rw [h]; rfl
    rw [e]
    exact rcheck_good r v w hin h hlow
  · have e : rowB r = false := by unfold rowB; rw [h]; rfl
    rw [e]
    exact rcheck_bad r v w hin h
theorem cols_one (w : World) (c : Co) (T : TypeId) : ColsIn (w.alloc (.cells (co5 c) T)) (.slice (some ⟨w.heap.size, 0, none⟩) 1 1) [c] :=
  SliceIn.made w (co5 c) T 1 (by unfold maxLen; decide)
theorem low_one (s : ByteArray) (h : s = ⟨#[97]⟩) : Low s := by subst h; exact ⟨by decide, by decide⟩

def awR : Ro := ⟨⟨#[107]⟩, zeroCl, 5, 0, [⟨⟨#[97]⟩, ⟨⟨#[120]⟩, false, 5, 0⟩⟩]⟩
def awR2 : Ro := ⟨⟨#[]⟩, zeroCl, 0, 0, [⟨⟨#[97]⟩, ⟨⟨#[120]⟩, false, 5, 0⟩⟩]⟩
set_option maxRecDepth 100000 in
set_option maxHeartbeats 2000000 in
theorem rawake_any (w : World) :
    Calls Tryd.prog 5 #[] w fun e w' => e = .returned (.bool true) ∧ Ext w w' := by
  have q1 : bestB (cellOf awR.cols ⟨#[97]⟩) (max awR.gone 0) = false := by simp [awR, cellOf, bestB]; decide
  have q2 : bestB (cellOf awR2.cols ⟨#[97]⟩) (max awR2.gone 4) = true := by simp [awR2, cellOf, bestB]; decide
  have q3 : rowB awR = true := by simp [awR, rowB, headB, colsB, ordB, lowB, checkC, stampB, zeroCl, ByteArray.toList_eq, ByteArray.size]
  have q4 : max awR.gone 9 = 9 := by decide
  have Q1 := Lib.hid q1
  have Q2 := Lib.hid q2
  have Q3 := Lib.hid q3
  have Q4 := Lib.hid q4
  clear q1 q2 q3 q4
  obtain ⟨vs, hvs⟩ : ∃ vs : Value, vs = .slice (some ⟨w.heap.size, 0, none⟩) 1 1 := ⟨_, rfl⟩
  have hin : ColsIn ((w.alloc (.cells (co5 ⟨⟨#[97]⟩, ⟨⟨#[120]⟩, false, 5, 0⟩⟩) 36)).alloc (.cells (ro8 awR (.slice (some ⟨w.heap.size, 0, none⟩) 1 1)) 31)) (.slice (some ⟨w.heap.size, 0, none⟩) 1 1) awR.cols := (cols_one w _ _).ext ((Ext.refl _).alloc _)
  obtain ⟨_, hbox, hE⟩ := boxes2 w (co5 ⟨⟨#[97]⟩, ⟨⟨#[120]⟩, false, 5, 0⟩⟩) (ro8 awR (.slice (some ⟨w.heap.size, 0, none⟩) 1 1)) 36 31
  clear hvs
  go_enter Tryd.func5, Tryd.ntmps5
  go_wp2_with fail
  refine (best_any awR (.slice (some ⟨w.heap.size, 0, none⟩) 1 1) 0 ⟨#[97]⟩ _ hin).mono ?_
  rw [Q1.out]
  rintro e w1 ⟨rfl, hE1⟩
  replace hin := hin.ext hE1
  replace hbox := hbox.ext hE1
  replace hE := hE.trans hE1
  clear hE1
  have y := hbox.allocs
  go_wp2_with fail
  refine (best_any awR2 (.slice (some ⟨w.heap.size, 0, none⟩) 1 1) 4 ⟨#[97]⟩ _ (hin.ext ((Ext.refl _).alloc _))).mono ?_
  rw [Q2.out]
  rintro e w2 ⟨rfl, hE2⟩
  replace hin := (hin.ext ((Ext.refl _).alloc _)).ext hE2
  replace hbox := (hbox.ext ((Ext.refl _).alloc _)).ext hE2
  replace hE := (hE.alloc _).trans hE2
  clear hE2 y
  have y := hbox.allocs
  go_wp2_with fail
  refine (rcheck_any awR (.slice (some ⟨w.heap.size, 0, none⟩) 1 1) _ (hin.ext ((Ext.refl _).alloc _)) (fun k hk => by
    obtain rfl : k = 0 := by simp [awR] at hk; omega
    exact low_one _ rfl)).mono ?_
  rw [Q3.out]
  rintro e w3 ⟨rfl, hE3⟩
  replace hbox := (hbox.ext ((Ext.refl _).alloc _)).ext hE3
  replace hE := (hE.alloc _).trans hE3
  clear hE3 y
  have y : ∀ i, w3.cell? ⟨w.heap.size + 1, i, none⟩ = (ro8 awR (.slice (some ⟨w.heap.size, 0, none⟩) 1 1))[i]? := fun i => hbox.cell i
  go_wp2_with fail
  refine (rgone_any awR (.slice (some ⟨w.heap.size, 0, none⟩) 1 1) 9 _).mono ?_
  rw [Q4.out]
  rintro e w4 ⟨rfl, hE4⟩
  go_wp2
  go_ret
  exact ⟨rfl, hE.trans hE4⟩

/-! ### The law -/
theorem four (a b c d : Bool) : a = false ∨ (a = true ∧ b = false) ∨ (a = true ∧ b = true ∧ c = false) ∨ (a = true ∧ b = true ∧ c = true ∧ d = false) ∨ (a = true ∧ b = true ∧ c = true ∧ d = true) := by
  cases a <;> cases b <;> cases c <;> cases d <;> simp
theorem two (a b : Bool) : a = false ∨ (a = true ∧ b = false) ∨ (a = true ∧ b = true) := by cases a <;> cases b <;> simp
def shR (l g s c : Int) : Ro := ⟨⟨#[107]⟩, ⟨⟨#[]⟩, false, l, 5⟩, g, s, [⟨⟨#[97]⟩, ⟨⟨#[120]⟩, false, c, 0⟩⟩]⟩
theorem sh_best (l g s c p : Int) (hc : 1 ≤ c) : bestB (cellOf (shR l g s c).cols ⟨#[97]⟩) (max (shR l g s c).gone p) = (decide (g < c) && decide (p < c)) := by
  have e : cellOf (shR l g s c).cols ⟨#[97]⟩ = ⟨⟨#[120]⟩, false, c, 0⟩ := by simp [shR, cellOf]
  rw [e]
  unfold bestB shR
  rw [Bool.eq_iff_iff]
  simp
  omega
theorem sh_no (l g s c p : Int) : bestB (cellOf (shR l g s c).cols ⟨#[98]⟩) (max (shR l g s c).gone p) = false := by
  have e : cellOf (shR l g s c).cols ⟨#[98]⟩ = zeroCl := by simp [shR, cellOf, ByteArray.toList_eq]
  rw [e]
  simp [bestB, zeroCl]
theorem sh_seen (l g s c p t : Int) (hc : 1 ≤ c) : (seenCos (shR l g s c).cols (max (shR l g s c).gone p) t).length = if (decide (g < c) && decide (p < c)) = true then 1 else 0 := by
  have e : seenCo ⟨⟨#[97]⟩, ⟨⟨#[120]⟩, false, c, 0⟩⟩ (max g p) t = (decide (g < c) && decide (p < c)) := by
    unfold seenCo seenB
    rw [Bool.eq_iff_iff]
    simp
    omega
  unfold seenCos shR
  simp only [List.filter_cons, List.filter_nil, e]
  split <;> simp
theorem sh_live (l g s c p t : Int) (hl : 1 ≤ l) : liveB (shR l g s c) (max (shR l g s c).gone p) t = (decide (g < l) && decide (p < l) && decide (s < l) && decide (t < 5)) := by
  unfold liveB seenB shR
  rw [Bool.eq_iff_iff]
  simp
  omega
theorem sh_is (l g s c p t : Int) (hl : 1 ≤ l) (hc : 1 ≤ c) : isB (shR l g s c) (max (shR l g s c).gone p) t true = (decide (g < l) && decide (p < l) && decide (s < l) && decide (t < 5)) ∧
    isB (shR l g s c) (max (shR l g s c).gone p) t false = ((decide (g < l) && decide (p < l) && decide (s < l) && decide (t < 5)) || (decide (g < c) && decide (p < c))) := by
  constructor
  · unfold isB; rw [sh_live _ _ _ _ _ _ hl]; simp
  · unfold isB
    rw [sh_live _ _ _ _ _ _ hl, sh_seen _ _ _ _ _ _ hc]
    cases (decide (g < c) && decide (p < c)) <;> simp

set_option maxRecDepth 100000 in
set_option maxHeartbeats 8000000 in
theorem law_rowShades (live gone shade part cell now : Int) (w : World) :
    Calls Tryd.prog 4 #[.int .i64 live, .int .i64 gone, .int .i64 shade, .int .i64 part, .int .i64 cell, .int .i64 now] w fun e w' => e = .returned (.bool true) ∧ Ext w w' := by
  obtain ⟨l0, hl0⟩ : ∃ x, x = live % 9 := ⟨_, rfl⟩
  obtain ⟨g, hg⟩ : ∃ x, x = gone % 9 := ⟨_, rfl⟩
  obtain ⟨s, hs⟩ : ∃ x, x = shade % 9 := ⟨_, rfl⟩
  obtain ⟨p, hp⟩ : ∃ x, x = part % 9 := ⟨_, rfl⟩
  obtain ⟨c0, hc0⟩ : ∃ x, x = cell % 9 := ⟨_, rfl⟩
  obtain ⟨t, ht⟩ : ∃ x, x = now % 9 := ⟨_, rfl⟩
  have l1 : 0 ≤ l0 ∧ l0 < 9 := by omega
  have g1 : 0 ≤ g ∧ g < 9 := by omega
  have s1 : 0 ≤ s ∧ s < 9 := by omega
  have p1 : 0 ≤ p ∧ p < 9 := by omega
  have c1 : 0 ≤ c0 ∧ c0 < 9 := by omega
  have t1 : 0 ≤ t ∧ t < 9 := by omega
  have Hl := Lib.hid hl0
  have Hg := Lib.hid hg
  have Hs := Lib.hid hs
  have Hp := Lib.hid hp
  have Hc := Lib.hid hc0
  have Ht := Lib.hid ht
  clear hl0 hg hs hp hc0 ht
  obtain ⟨l, hl⟩ : ∃ l, l = 1 + l0 := ⟨_, rfl⟩
  obtain ⟨c, hc⟩ : ∃ c, c = 1 + c0 := ⟨_, rfl⟩
  have wl : IntKind.i64.wrap (1 + l0) = l := by rw [IntKind.wrap_i64]; omega
  have wc : IntKind.i64.wrap (1 + c0) = c := by rw [IntKind.wrap_i64]; omega
  have f1 := sh_best l g s c p (by omega)
  have f2 := sh_no l g s c p
  have f3 := sh_seen l g s c p t (by omega)
  obtain ⟨f4, f5⟩ := sh_is l g s c p t (by omega) (by omega)
  have F2 := Lib.hid f2
  clear f2 l1 g1 s1 p1 c1 t1 hl hc
  go_enter Tryd.func4, Tryd.ntmps4
  go_wp2_with fail
  refine (place_any _ _ (by omega) (by omega) _).mono ?_
  rw [← Hl.out]
  rintro e w1 ⟨rfl, rfl⟩
  go_wp2_with fail
  refine (place_any _ _ (by omega) (by omega) _).mono ?_
  rw [← Hg.out]
  rintro e w1 ⟨rfl, rfl⟩
  go_wp2_with fail
  refine (place_any _ _ (by omega) (by omega) _).mono ?_
  rw [← Hs.out]
  rintro e w1 ⟨rfl, rfl⟩
  go_wp2_with fail
  refine (place_any _ _ (by omega) (by omega) _).mono ?_
  rw [← Hp.out]
  rintro e w1 ⟨rfl, rfl⟩
  go_wp2_with fail
  refine (place_any _ _ (by omega) (by omega) _).mono ?_
  rw [← Hc.out]
  rintro e w1 ⟨rfl, rfl⟩
  go_wp2_with fail
  refine (place_any _ _ (by omega) (by omega) _).mono ?_
  rw [← Ht.out]
  rintro e w1 ⟨rfl, rfl⟩
  clear Hl Hg Hs Hp Hc Ht wl wc
  obtain ⟨vs, hvs⟩ : ∃ vs : Value, vs = .slice (some ⟨w.heap.size, 0, none⟩) 1 1 := ⟨_, rfl⟩
  have hin : ColsIn ((w.alloc (.cells (co5 ⟨⟨#[97]⟩, ⟨⟨#[120]⟩, false, c, 0⟩⟩) 36)).alloc (.cells (ro8 (shR l g s c) (.slice (some ⟨w.heap.size, 0, none⟩) 1 1)) 31)) (.slice (some ⟨w.heap.size, 0, none⟩) 1 1) (shR l g s c).cols := (cols_one w _ _).ext ((Ext.refl _).alloc _)
  obtain ⟨_, hbox, hE⟩ := boxes2 w (co5 ⟨⟨#[97]⟩, ⟨⟨#[120]⟩, false, c, 0⟩⟩) (ro8 (shR l g s c) (.slice (some ⟨w.heap.size, 0, none⟩) 1 1)) 36 31
  clear hvs
  rcases four (decide (g < l)) (decide (p < l)) (decide (s < l)) (decide (t < 5)) with a1 | ⟨a1, a2⟩ | ⟨a1, a2, a3⟩ | ⟨a1, a2, a3, a4⟩ | ⟨a1, a2, a3, a4⟩
  all_goals rcases two (decide (g < c)) (decide (p < c)) with b1 | ⟨b1, b2⟩ | ⟨b1, b2⟩
  all_goals
    (try simp only [a1] at f4 f5); (try simp only [a2] at f4 f5); (try simp only [a3] at f4 f5); (try simp only [a4] at f4 f5)
    (try simp only [b1] at f1 f3 f5); (try simp only [b2] at f1 f3 f5)
    (try simp only [Bool.false_and, Bool.and_false, Bool.true_and, Bool.and_true, Bool.false_or, Bool.or_false, Bool.true_or, Bool.or_true, if_true, if_false, Bool.false_eq_true, reduceIte] at f1 f3 f4 f5)
    have F1 := Lib.hid f1
    have F3 := Lib.hid f3
    have F4 := Lib.hid f4
    have F5 := Lib.hid f5
    clear f1 f3 f4 f5
    go_wp2_with fail
    refine (best_any (shR l g s c) (.slice (some ⟨w.heap.size, 0, none⟩) 1 1) p ⟨#[97]⟩ _ hin).mono ?_
    rw [F1.out]
    rintro e w1 ⟨rfl, hE1⟩
    replace hin := hin.ext hE1
    replace hbox := hbox.ext hE1
    replace hE := hE.trans hE1
    clear hE1
    have y := hbox.allocs
    go_wp2_with fail
    refine (best_any (shR l g s c) (.slice (some ⟨w.heap.size, 0, none⟩) 1 1) p ⟨#[98]⟩ _ (hin.ext ((Ext.refl _).alloc _))).mono ?_
    rw [F2.out]
    rintro e w2 ⟨rfl, hE2⟩
    replace hin := (hin.ext ((Ext.refl _).alloc _)).ext hE2
    replace hbox := (hbox.ext ((Ext.refl _).alloc _)).ext hE2
    replace hE := (hE.alloc _).trans hE2
    clear hE2 y
    have y := hbox.allocs
    go_wp2_with fail
    refine (ris_any (shR l g s c) (.slice (some ⟨w.heap.size, 0, none⟩) 1 1) p t true _ (hin.ext ((Ext.refl _).alloc _)) (by simp [shR])).mono ?_
    rw [F4.out]
    rintro e w3 ⟨rfl, hE3⟩
    replace hin := (hin.ext ((Ext.refl _).alloc _)).ext hE3
    replace hbox := (hbox.ext ((Ext.refl _).alloc _)).ext hE3
    replace hE := (hE.alloc _).trans hE3
    clear hE3 y
    have y : ∀ i, w3.cell? ⟨w.heap.size + 1, i, none⟩ = (ro8 (shR l g s c) (.slice (some ⟨w.heap.size, 0, none⟩) 1 1))[i]? := fun i => hbox.cell i
    go_wp2_with fail
    refine (ris_any (shR l g s c) (.slice (some ⟨w.heap.size, 0, none⟩) 1 1) p t false _ hin (by simp [shR])).mono ?_
    rw [F5.out]
    rintro e w4 ⟨rfl, hE4⟩
    replace hin := hin.ext hE4
    replace hbox := hbox.ext hE4
    replace hE := hE.trans hE4
    clear hE4 y
    have y : ∀ i, w4.cell? ⟨w.heap.size + 1, i, none⟩ = (ro8 (shR l g s c) (.slice (some ⟨w.heap.size, 0, none⟩) 1 1))[i]? := fun i => hbox.cell i
    go_wp2_with fail
    refine (rseen_any (shR l g s c) (.slice (some ⟨w.heap.size, 0, none⟩) 1 1) p t _ hin (by simp [shR])).mono ?_
    rw [F3.out]
    rintro e w5 ⟨v', rfl, hown, hE5⟩
    obtain ⟨a6, c6, rfl, _, _, _, _⟩ := SliceIn.of_owns hown
    clear hown
    replace hbox := hbox.ext hE5
    replace hE := hE.trans hE5
    clear hE5 y
    have y : ∀ i, w5.cell? ⟨w.heap.size + 1, i, none⟩ = (ro8 (shR l g s c) (.slice (some ⟨w.heap.size, 0, none⟩) 1 1))[i]? := fun i => hbox.cell i
    go_wp2_with fail
    refine (rgone_any (shR l g s c) (.slice (some ⟨w.heap.size, 0, none⟩) 1 1) p _).mono ?_
    rintro e w6 ⟨rfl, hE6⟩
    replace hE := hE.trans hE6
    clear hE6 y hbox hin
    rw [show max (shR l g s c).gone p = max g p from rfl]
    go_wp2_with fail
    all_goals first
      | (exfalso; omega)
      | (refine (rawake_any _).mono ?_
         rintro e w7 ⟨rfl, hE7⟩
         go_wp2
         go_ret
         exact ⟨rfl, hE.trans hE7⟩)

theorem walk_rowShades (a0 a1 a2 a3 a4 a5 : Int) (_ : (Lit.int .i64 a0).wf = true) (_ : (Lit.int .i64 a1).wf = true) (_ : (Lit.int .i64 a2).wf = true) (_ : (Lit.int .i64 a3).wf = true) (_ : (Lit.int .i64 a4).wf = true) (_ : (Lit.int .i64 a5).wf = true) (w : World) :
    Calls Tryd.prog 4 #[.int .i64 a0, .int .i64 a1, .int .i64 a2, .int .i64 a3, .int .i64 a4, .int .i64 a5] w fun e w' => e = .returned (.bool true) ∧ Ext w w' := law_rowShades a0 a1 a2 a3 a4 a5 w
end Go.Proofs.YtobanilgofhgkaaDoor
