/- The example of the document, partitions (clerestorylaw08.awake). -/
import Derived.Test.YteamiiekpjoclaaDoorP18
import Derived.Test.YteamiiekpjoclaaDoorP19
import Derived.Test.YteamiiekpjoclaaDoorP9
import Derived.Test.YteamiiekpjoclaaDoorP11
set_option linter.unusedSimpArgs false
set_option linter.unusedVariables false
namespace Go.Proofs.YteamiiekpjoclaaDoor
open Go Go.RowKit
attribute [local go_sem] yields yUpon ro8 pa3

theorem rows_two {w : World} {b : Nat} {r s : Ro} {v u : Value} {T : TypeId} (hb : BoxAt w b (ro8 r v ++ ro8 s u) T) (hc : ColsIn w v r.cols) (hd : ColsIn w u s.cols) : RowsIn w (.slice (some ⟨b, 0, none⟩) 2 2) [(r, v), (s, u)] :=
  ⟨⟨_, 2, rfl, Nat.le_refl _, by unfold maxLen; decide, nofun, fun j u hj => ⟨b, 0, rfl, by rw [Nat.zero_add, hb.cell j]; simpa [roCells, ro8] using hj⟩⟩, fun p hp => by
    rcases List.mem_cons.1 hp with rfl | hp
    · exact hc
    · rw [List.mem_singleton.1 hp]; exact hd⟩
def aR : Ro := ⟨⟨#[114]⟩, ⟨⟨#[]⟩, false, 8, 0⟩, 0, 0, []⟩
def aS : Ro := ⟨⟨#[115]⟩, ⟨⟨#[]⟩, false, 10, 0⟩, 0, 0, []⟩
theorem awake8_merge : mergeRo [aR, aS] [] = [aR, aS] := mergeG_nil_right ..
theorem awake8_seen : seenRs [aR, aS] 9 0 true = [aS] := rfl
theorem awake8_stamp : stampRs 9 [aR, aS] = 10 := by decide

set_option maxRecDepth 100000 in
set_option maxHeartbeats 8000000 in
theorem awake8_any (w : World) : Calls Tryd.prog 35 #[] w fun e w' => e = .returned (.bool true) ∧ Ext w w' := by
  go_enter Tryd.func35, Tryd.ntmps35
  go_wp2_with (((guard_target =~ wpList _ _ _ (Oper.mk none (Op.store _ (Operand.tmp 1) (Operand.tmp 10)) _ _ _ _ :: _) _ _); go_must (refine storeBox rfl 35 (.tmp 1) (.tmp 10) rfl (w.heap.size + 1) _ _ _ (by rfl) (by rfl) ((BoxAt.madeN (pa3 ⟨#[]⟩ 0 (.slice none 0 0)) 35 (by simp))) (by kernel_rfl) (by rfl) (by simp [Value.oneCell']) ?_); intro w1 c1 g1); have d1 := c1.pa (k := ⟨#[107]⟩) (g := 0) (u := .slice (some ⟨w.heap.size, 0, none⟩) 2 2); have hX1 : Ext w w1 := (((Ext.refl w).alloc _).alloc _).grown g1 (fun q hq => by cases hq; omega); have b1 := ((BoxAt.made w (ro8 aR (.slice none 0 0) ++ ro8 aS (.slice none 0 0)) 26).ext ((Ext.refl _).alloc _)).grown g1 (fun e => by have := Option.some.inj e; omega))
  have hrows := rows_two b1 (ColsIn.nil _) (ColsIn.nil _)
  refine (pjoin_walk ⟨#[107]⟩ ⟨#[120]⟩ 0 9 _ _ _ [] w1 hrows (RowsIn.nil w1) (by decide) (by intro r hr; simp [aR, aS] at hr; rcases hr with rfl | rfl <;> decide) (by intro r hr; cases hr)).mono ?_
  rintro e w2 ⟨hE2, ⟨_, v', rfl, qs, hqt, hqm⟩ | ⟨hbad, _⟩⟩
  rotate_left
  · exact absurd hbad (by show ¬ 100 < (mergeRo [aR, aS] []).length; rw [awake8_merge]; decide)
  rw [show (max (0 : Int) 9) = 9 from rfl]
  have hqs := hqt.rows
  have hX2 := hX1.trans hE2
  have hqm' : qs.map (·.1) = [aR, aS] := hqm.trans awake8_merge
  have hql : qs.length = 2 := by have := congrArg List.length hqm'; simpa using this
  obtain ⟨aq, cq, rfl, _⟩ := hqs.get
  rw [hql] at hqs ⊢
  clear hqm hrows b1 d1 g1 hX1 hE2 c1
  go_wp2_with (((guard_target =~ wpList _ _ _ (Oper.mk none (Op.store _ (Operand.tmp 2) (Operand.tmp 15)) _ _ _ _ :: _) _ _); go_must (refine storeBox rfl 35 (.tmp 2) (.tmp 15) rfl (w2.heap.size) _ _ _ (by rfl) (by rfl) ((BoxAt.made w2 (pa3 ⟨#[]⟩ 0 (.slice none 0 0)) 35)) (by kernel_rfl) (by rfl) (by simp [Value.oneCell']) ?_); intro w3 c3 g3); have d3 := c3.pa (k := ⟨#[107]⟩) (g := 9) (u := .slice aq 2 cq); have hX3 : Ext w2 w3 := ((Ext.refl w2).alloc _).grown g3 (fun q hq => by cases hq; omega))
  have hqs3 := hqs.ext hX3
  have hX03 := hX2.trans hX3
  refine (pseen_any ⟨#[107]⟩ 9 _ qs 0 true w3 hqs3 (by omega) (fun p hp => by
    have : p.1 ∈ [aR, aS] := by rw [← hqm']; exact List.mem_map_of_mem hp
    simp [aR, aS] at this
    rcases this with h | h <;> rw [h] <;> decide)).mono ?_
  rintro e w4 ⟨v4, rfl, ps, hown, hsafe, hpm, hE4⟩
  rw [hqm', awake8_seen] at hpm
  have hps := rows_own hown hE4 hsafe
  have hpl : ps.length = 1 := by have := congrArg List.length hpm; simpa using this
  have hX4 := hX03.trans hE4
  have d4 := (c3.ext hE4).pa (k := ⟨#[107]⟩) (g := 9) (u := .slice aq 2 cq)
  obtain ⟨a4, c4, rfl, hc1, hc2, hg4⟩ := hps.get
  obtain ⟨b, o, rfl, hr⟩ := hg4 0 (by omega)
  have hp0 : ps[0].1 = aS := by
    have h1 : (ps.map (·.1))[0]? = some aS := by rw [hpm]; rfl
    simpa [hpl] using h1
  rw [hp0] at hr
  have x0 : w4.cell? ⟨b, o, none⟩ = some (.string ⟨#[115]⟩) := by have := hr.c0; simp only [Nat.zero_mul, Nat.add_zero] at this; exact this
  rw [hpl]
  clear hr hg4 hp0 hown hsafe hps d3 g3 c3
  have hqs4 := hqs3.ext hE4
  go_wp2_with fail
  refine (pstamp_any ⟨#[107]⟩ 9 _ qs w4 hqs4).mono ?_
  rw [hqm', awake8_stamp]
  rintro e w5 ⟨rfl, hE5⟩
  have hX5 := hX4.trans hE5
  go_wp2_with fail
  go_ret
  exact ⟨rfl, hX5⟩
end Go.Proofs.YteamiiekpjoclaaDoor

/- The reference's cell: is it seen? -/
namespace Go.Proofs.YteamiiekpjoclaaDoor
open Go Go.RowKit
attribute [local go_sem] yields yUpon
set_option maxHeartbeats 400000 in
theorem rseen_any (v : ByteArray) (d : Bool) (a e n : Int) (w : World) :
    Calls Tryd.prog 71 #[.agg #[.string v, .bool d, .int .i64 a, .int .i64 e], .int .i64 n] w fun r w' => r = .returned (.bool (seenB d a e n)) ∧ Ext w w' := by
  go_enter Tryd.func71, Tryd.ntmps71
  go_wp2
  all_goals
    go_ret
    refine ⟨?_, (Ext.refl w).alloc _⟩
    refine ret_bool ?_
    first
    | (simp [seenB, *]; done)
    | (have h0 : ¬ 0 < a := by omega
       simp [seenB, h0])
end Go.Proofs.YteamiiekpjoclaaDoor

/- The reference's rows: Cell, Gone. -/
namespace Go.Proofs.YteamiiekpjoclaaDoor
open Go Go.RowKit
attribute [local go_sem] yields yUpon ro8

set_option maxRecDepth 100000 in
set_option maxHeartbeats 1000000 in
theorem gone7_any (r : Ro) (v : Value) (part : Int) (w : World) :
    Calls Tryd.prog 20 #[(.agg #[.string r.key, .string r.live.val, .bool r.live.dead, .int .i64 r.live.at_, .int .i64 r.live.fin, .int .i64 r.gone, .int .i64 r.shade, v]), .int .i64 part] w fun e w' => e = .returned (.int .i64 (max r.gone part)) ∧ Ext w w' := by
  go_enter Tryd.func20, Tryd.ntmps20
  go_wp2
  all_goals
    go_ret
    exact ⟨ret_int (by omega), (Ext.refl w).alloc _⟩

set_option maxRecDepth 100000 in
set_option maxHeartbeats 1000000 in
theorem cell7_any (r : Ro) (v : Value) (name : ByteArray) (w : World) (hin : ColsIn w v r.cols) :
    Calls Tryd.prog 26 #[(.agg #[.string r.key, .string r.live.val, .bool r.live.dead, .int .i64 r.live.at_, .int .i64 r.live.fin, .int .i64 r.gone, .int .i64 r.shade, v]), .string name] w fun e w' => e = .returned (.agg #[.string (cellOf r.cols name).val, .bool (cellOf r.cols name).dead, .int .i64 (cellOf r.cols name).at_, .int .i64 (cellOf r.cols name).fin]) ∧ Ext w w' := by
  obtain ⟨a, c, rfl, hc, hcm, hcell⟩ := hin.get
  obtain ⟨l, hl⟩ : ∃ l, l = r.cols := ⟨_, rfl⟩
  rw [← hl] at hcell hc ⊢
  have HC := Lib.hid hcell
  clear hcell hin hl
  obtain ⟨a0, a1, hE0⟩ := boxes2 w (ro8 r (.slice a l.length c)) (cl4 zeroCl) 26 23
  go_enter Tryd.func26, Tryd.ntmps26
  go_wp2
  go_loopw [5] (fun i wr => ∃ k : Nat, k ≤ l.length ∧ i = .int .i64 k ∧ BoxAt wr w.heap.size (ro8 r (.slice a l.length c)) 26 ∧ BoxAt wr (w.heap.size + 1) (cl4 zeroCl) 23 ∧ Ext w wr ∧ Hid (cellOf l name = cellOf (l.drop k) name)) (fun i _ => l.length - (intOf i).toNat)
  case atStart => exact ⟨0, Nat.zero_le _, rfl, a0, a1, hE0, rfl⟩
  case round =>
    obtain ⟨k, hk, rfl, hro, hbox, hE, HX⟩ := hrel
    obtain ⟨x0, x1, x2, x3⟩ := hbox.cl
    have xf := hbox.free
    obtain ⟨y0, y1, y2, y3, y4, y5, y6, y7⟩ := hro.ro
    by_cases hlt : k < l.length
    · obtain ⟨b, o, rfl, hco⟩ := HC.out k hlt
      obtain ⟨M, hM⟩ : ∃ M, M = l[k] := ⟨_, rfl⟩
      rw [← hM] at hco
      have HD : Hid (l.drop k = M :: l.drop (k + 1)) := by rw [hM]; exact List.drop_eq_getElem_cons hlt
      clear hM
      replace hco := hco.ext hE
      obtain ⟨g0, g1, g2, g3, g4⟩ := hco
      cases hname : (M.name.toList == name.toList)
      · go_wp2_with fail
        go_roundw
        case rel =>
          refine ⟨k + 1, by omega, by go_num, hro, hbox, hE, ?_⟩
          show cellOf l name = _
          rw [HX.out, HD.out, cellOf, if_neg (by rw [hname]; decide)]
        case measure => simp [intOf] <;> omega
      · go_wp2_with fail
        have e1 : cellOf l name = M.cell := by rw [HX.out, HD.out, cellOf, if_pos hname]
        rw [e1]
        refine bodyPost_ret (v := (.agg #[.string M.cell.val, .bool M.cell.dead, .int .i64 M.cell.at_, .int .i64 M.cell.fin])) ?_ rfl ⟨rfl, hE.put4 (Nat.le_succ _)⟩
        generalize hW : World.setCell _ _ _ = w9
        have hb : BoxAt w9 (w.heap.size + 1) (cl4 M.cell) 23 := by rw [← hW]; exact hbox.put4 (d := M.cell)
        obtain ⟨z0, z1, z2, z3⟩ := hb.cl
        simp [results, Tryd.results26, go_sem, z0, z1, z2, z3]
    · have e1 : cellOf l name = zeroCl := by rw [HX.out, List.drop_eq_nil_of_le (by omega)]; rfl
      go_wp2_with fail
      rw [e1]
      refine bodyPost_ret (v := (.agg #[.string zeroCl.val, .bool zeroCl.dead, .int .i64 zeroCl.at_, .int .i64 zeroCl.fin])) ?_ rfl ⟨rfl, hE.put4 (Nat.le_succ _)⟩
      generalize hW : World.setCell _ _ _ = w9
      have hb : BoxAt w9 (w.heap.size + 1) (cl4 zeroCl) 23 := by rw [← hW]; exact hbox.put4 (d := zeroCl)
      obtain ⟨z0, z1, z2, z3⟩ := hb.cl
      simp [results, Tryd.results26, go_sem, z0, z1, z2, z3]
end Go.Proofs.YteamiiekpjoclaaDoor
