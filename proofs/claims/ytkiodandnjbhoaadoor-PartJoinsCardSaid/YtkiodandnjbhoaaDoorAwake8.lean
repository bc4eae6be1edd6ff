/- The example of the document, partitions (clerestorylaw08.awake). -/
import Derived.Test.YtkiodandnjbhoaaDoorPartJoin
import Derived.Test.YtkiodandnjbhoaaDoorPartSeen
import Derived.Test.YtkiodandnjbhoaaDoorPartStamp
namespace Go.Proofs.YtkiodandnjbhoaaDoor
open Go Go.RowKit
attribute [local go_sem] yields yUpon ro8 pa3

theorem rows_two {w : World} {b : Nat} {r s : Ro} {v u : Value} {T : TypeId} (hb : BoxAt w b (ro8 r v ++ ro8 s u) T) (hc : ColsIn w v r.cols) (hd : ColsIn w u s.cols) : RowsIn w (.slice (some ⟨b, 0, none⟩) 2 2) [(r, v), (s, u)] :=
  ⟨⟨_, 2, rfl, Nat.le_refl _, by unfold maxLen; decide, nofun, fun j u hj => ⟨b, 0, rfl, by rw [Nat.zero_add, hb.cell j]; simpa [roCells, ro8] using hj⟩⟩, fun p hp => by
    rcases List.mem_cons.1 hp with rfl | hp
    · exact hc
    · rw [List.mem_singleton.1 hp]; exact hd⟩
def aR : Ro := ⟨⟨#[114]⟩, ⟨⟨#[]⟩, false, 8, 0⟩, 0, 0, []⟩
def aS : Ro := ⟨⟨#[115]⟩, ⟨⟨#[]⟩, false, 10, 0⟩, 0, 0, []⟩
theorem awake8_merge : mergeRo [aR, aS] [] = [aR, aS] := mergeG_nil_right ..
theorem awake8_seen : seenRs [aR, aS] 9 0 true = [aS] := rfl
theorem awake8_stamp : stampRs 9 [aR, aS] = 10 := by decide

set_option maxRecDepth 100000 in
set_option maxHeartbeats 8000000 in
theorem awake8_any (w : World) : Calls Tryd.prog 35 #[] w fun e w' => e = .returned (.bool true) ∧ Ext w w' := by
  go_enter Tryd.func35, Tryd.ntmps35
  go_wp2_with (((guard_target =~ wpList _ _ _ (Oper.mk none (Op.store _ (Operand.tmp 1) (Operand.tmp 10)) _ _ _ _ :: _) _ _); go_must (refine storeBox rfl 35 (.tmp 1) (.tmp 10) rfl (w.heap.size + 1) _ _ _ (by rfl) (by rfl) ((BoxAt.madeN (pa3 ⟨#[]⟩ 0 (.slice none 0 0)) 35 (by simp))) (by kernel_rfl) (by rfl) (by simp [Value.oneCell']) ?_); intro w1 c1 g1); have d1 := c1.pa (k := ⟨#[107]⟩) (g := 0) (u := .slice (some ⟨w.heap.size, 0, none⟩) 2 2); have hX1 : Ext w w1 := (((Ext.refl w).alloc _).alloc _).grown g1 (fun q hq => by cases hq; omega); have b1 := ((BoxAt.made w (ro8 aR (.slice none 0 0) ++ ro8 aS (.slice none 0 0)) 26).ext ((Ext.refl _).alloc _)).grown g1 (fun e => by have := Option.some.inj e; omega))
  have hrows := rows_two b1 (ColsIn.nil _) (ColsIn.nil _)
  refine (pjoin_walk ⟨#[107]⟩ ⟨#[120]⟩ 0 9 _ _ _ [] w1 hrows (RowsIn.nil w1) (by decide) (by intro r hr; simp [aR, aS] at hr; rcases hr with rfl | rfl <;> decide) (by intro r hr; cases hr)).mono ?_
  rintro e w2 ⟨hE2, ⟨_, v', rfl, qs, hqt, hqm⟩ | ⟨hbad, _⟩⟩
  rotate_left
  · exact absurd hbad (by show ¬ 100 < (mergeRo [aR, aS] []).length; rw [awake8_merge]; decide)
  rw [show (max (0 : Int) 9) = 9 from rfl]
  have hqs := hqt.rows
  have hX2 := hX1.trans hE2
  have hqm' : qs.map (·.1) = [aR, aS] := hqm.trans awake8_merge
  have hql : qs.length = 2 := by have := congrArg List.length hqm'; simpa using this
  obtain ⟨aq, cq, rfl, _⟩ := hqs.get
  rw [hql] at hqs ⊢
  clear hqm hrows b1 d1 g1 hX1 hE2 c1
  go_wp2_with (((guard_target =~ wpList _ _ _ (Oper.mk none (Op.store _ (Operand.tmp 2) (Operand.tmp 15)) _ _ _ _ :: _) _ _); go_must (refine storeBox rfl 35 (.tmp 2) (.tmp 15) rfl (w2.heap.size) _ _ _ (by rfl) (by rfl) ((BoxAt.made w2 (pa3 ⟨#[]⟩ 0 (.slice none 0 0)) 35)) (by kernel_rfl) (by rfl) (by simp [Value.oneCell']) ?_); intro w3 c3 g3); have d3 := c3.pa (k := ⟨#[107]⟩) (g := 9) (u := .slice aq 2 cq); have hX3 : Ext w2 w3 := ((Ext.refl w2).alloc _).grown g3 (fun q hq => by cases hq; omega))
  have hqs3 := hqs.ext hX3
  have hX03 := hX2.trans hX3
  refine (pseen_any ⟨#[107]⟩ 9 _ qs 0 true w3 hqs3 (by omega) (fun p hp => by
    have : p.1 ∈ [aR, aS] := by rw [← hqm']; exact List.mem_map_of_mem hp
    simp [aR, aS] at this
    rcases this with h | h <;> rw [h] <;> decide)).mono ?_
  rintro e w4 ⟨v4, rfl, ps, hown, hsafe, hpm, hE4⟩
  rw [hqm', awake8_seen] at hpm
  have hps := rows_own hown hE4 hsafe
  have hpl : ps.length = 1 := by have := congrArg List.length hpm; simpa using this
  have hX4 := hX03.trans hE4
  have d4 := (c3.ext hE4).pa (k := ⟨#[107]⟩) (g := 9) (u := .slice aq 2 cq)
  obtain ⟨a4, c4, rfl, hc1, hc2, hg4⟩ := hps.get
  obtain ⟨b, o, rfl, hr⟩ := hg4 0 (by omega)
  have hp0 : ps[0].1 = aS := by
    have h1 : (ps.map (·.1))[0]? = some aS := by rw [hpm]; rfl
    simpa [hpl] using h1
  rw [hp0] at hr
  have x0 : w4.cell? ⟨b, o, none⟩ = some (.string ⟨#[115]⟩) := by have := hr.c0; simp only [Nat.zero_mul, Nat.add_zero] at this; exact this
  rw [hpl]
  clear hr hg4 hp0 hown hsafe hps d3 g3 c3
  have hqs4 := hqs3.ext hE4
  go_wp2_with fail
  refine (pstamp_any ⟨#[107]⟩ 9 _ qs w4 hqs4).mono ?_
  rw [hqm', awake8_stamp]
  rintro e w5 ⟨rfl, hE5⟩
  have hX5 := hX4.trans hE5
  go_wp2_with fail
  go_ret
  exact ⟨rfl, hX5⟩
end Go.Proofs.YtkiodandnjbhoaaDoor
