/- delta.left. -/
import Derived.Test.YtbjpfhkdlljgdaaClone
namespace Go.Proofs.Ytbjpfhkdlljgdaa
open Go Go.RowKit
attribute [local go_sem] yields yUpon ro8 pa3 vw5

/-- What a view's row is that a base's row left. -/
def leftRo (x : Vw) (m r : Ro) (g : Int) : Ro := ⟨m.key, zeroCl, max r.gone g, m.live.at_, cellL x r⟩

set_option maxRecDepth 100000 in
set_option maxHeartbeats 4000000 in
theorem left_any (x : Vw) (u : Value) (m r : Ro) (vm v : Value) (g : Int) (w : World) (hin : ColsIn w v r.cols) :
    Calls Try.prog 59 #[.agg #[.string x.name, .int .i64 x.id, .string x.table, .string x.on, u], (.agg #[.string m.key, .string m.live.val, .bool m.live.dead, .int .i64 m.live.at_, .int .i64 m.live.fin, .int .i64 m.gone, .int .i64 m.shade, vm]), (.agg #[.string r.key, .string r.live.val, .bool r.live.dead, .int .i64 r.live.at_, .int .i64 r.live.fin, .int .i64 r.gone, .int .i64 r.shade, v]), .int .i64 g] w fun e w' => ∃ v', e = .returned (.agg #[.string (leftRo x m r g).key, .string (leftRo x m r g).live.val, .bool (leftRo x m r g).live.dead, .int .i64 (leftRo x m r g).live.at_, .int .i64 (leftRo x m r g).live.fin, .int .i64 (leftRo x m r g).gone, .int .i64 (leftRo x m r g).shade, v']) ∧ ColsT w' v' (leftRo x m r g).cols ∧ Ext w w' := by
  obtain ⟨a0, a1, a2, a3, hE⟩ := boxes4 w (vw5 x u) (ro8 m vm) (ro8 r v) (ro8 ⟨⟨#[]⟩, zeroCl, 0, 0, []⟩ (.slice none 0 0)) 46 34 34 34
  have hin' := hin.ext hE
  obtain ⟨G, hG⟩ : ∃ G, G = max r.gone g := ⟨_, rfl⟩
  obtain ⟨L, hL⟩ : ∃ L, L = cellL x r := ⟨_, rfl⟩
  unfold leftRo
  rw [← hG, ← hL]
  have HG := Lib.hid hG
  have HL := Lib.hid hL
  clear hG hL hin
  go_enter Try.func59, Try.ntmps59
  go_wp2_with fail
  refine wp_region_in 12 [(7, fun v _ => v = .int .i64 G), (10, fun v y => ∃ a c, v = .slice a L.length c ∧ ColsT y (.slice a L.length c) L)] (fun w0 => BoxAt w0 w.heap.size (vw5 x u) 46 ∧ BoxAt w0 (w.heap.size + 1) (ro8 m vm) 34 ∧ BoxAt w0 (w.heap.size + 1 + 1) (ro8 r v) 34 ∧ BoxAt w0 (w.heap.size + 1 + 1 + 1) (ro8 ⟨⟨#[]⟩, zeroCl, 0, 0, []⟩ (.slice none 0 0)) 34 ∧ ColsIn w0 v r.cols ∧ Ext w w0) (by kernel_rfl) (by kernel_rfl) (by kernel_rfl) ⟨stays_eq _, fun _ _ _ hE ⟨a, c, e, h⟩ => ⟨a, c, e, h.ext hE⟩, trivial⟩ ⟨a0, a1, a2, a3, hin', hE⟩ ?_
  clear a0 a1 a2 a3 hE hin'
  rintro w2 ⟨c0, c1, c2, c3, hin, hE⟩
  have FIN : Hid (∀ wx, Ext w2 wx → BoxAt wx (w.heap.size + 1 + 1 + 1) (ro8 ⟨⟨#[]⟩, zeroCl, 0, 0, []⟩ (.slice none 0 0)) 34 ∧ Ext w wx) := fun wx h => ⟨c3.ext h, hE.trans h⟩
  obtain ⟨x0, x1, x2, x3, x4⟩ := c0.vw
  obtain ⟨y0, y1, y2, y3, y4, y5, y6, y7⟩ := c1.ro
  obtain ⟨t0, t1, t2, t3, t4, t5, t6, t7⟩ := c2.ro
  clear c0 c1 c2 c3 hE y1 y2 y4 y5 y6 y7
  replace x0 := held x0
  replace x1 := held x1
  replace x2 := held x2
  replace x3 := held x3
  replace x4 := held x4
  replace y0 := held y0
  replace y3 := held y3
  replace t0 := held t0
  replace t1 := held t1
  replace t2 := held t2
  replace t3 := held t3
  replace t4 := held t4
  replace t5 := held t5
  replace t6 := held t6
  replace t7 := held t7
  refine rg_quiet rfl rfl rfl rfl ?_; intro K hK; go_big_quiet_op; go_big_quiet_on
  refine rg_quiet rfl rfl rfl rfl ?_; intro K hK; go_big_quiet_op; go_big_quiet_on
  refine rg_quiet rfl rfl rfl rfl ?_; intro K hK; go_big_quiet_op; go_big_quiet_on
  refine rg_quiet rfl rfl rfl rfl ?_; intro K hK; go_big_quiet_op; go_big_quiet_on
  refine rg_quiet rfl rfl rfl rfl ?_; intro K hK; go_big_quiet_op; go_big_quiet_on
  refine rg_quiet rfl rfl rfl rfl ?_; intro K hK; go_big_quiet_op; go_big_quiet_on
  refine rg_quiet rfl rfl rfl rfl ?_; intro K hK; go_big_quiet_op; go_big_quiet_on
  refine rg_val [] rfl rfl rfl (by kernel_rfl) (fun w1 hE hf => ?_) ?_
  · go_simp
    exact (rgone_any r v g w1).mono fun e w' ⟨he, hw⟩ => ⟨_, he, rg_done hE hw (by rw [HG.out])⟩
  simp only [Act.put, List.setIfInBounds_toArray, List.set_cons_zero, List.set_cons_succ]
  refine rg_quiet rfl rfl rfl rfl ?_; intro K hK; go_big_quiet_op; go_big_quiet_on
  refine rg_quiet rfl rfl rfl rfl ?_; intro K hK; go_big_quiet_op; go_big_quiet_on
  refine rg_fact [] rfl rfl rfl (by kernel_rfl) (fun w1 hE hf => ?_) (fun v10 w1 hE hG h10 => ?_)
  · go_simp
    refine (cellOf_any x u r v w1 (hin.ext hE)).mono ?_
    rw [← HL.out]
    rintro e w3 ⟨a, c, he, hc, hE3⟩
    exact ⟨_, he, rg_doneR hE hE3 ⟨a, c, rfl, hc⟩⟩
  obtain ⟨a10, c10, rfl, h10⟩ := h10
  simp only [Act.put, List.setIfInBounds_toArray, List.set_cons_zero, List.set_cons_succ]
  clear hE hG h10 w1
  refine rg_quiet rfl rfl rfl rfl ?_; intro K hK; go_big_quiet_op; go_big_quiet_on
  refine rel_tail rfl rfl fun w5 hE5 hG => ?_
  obtain ⟨aa, cc, e10, hcols⟩ := (hG 10).2 rfl
  cases e10
  obtain ⟨c3, hE⟩ := FIN.out w5 hE5
  clear x0 x1 x2 x3 x4 y0 y3 t0 t1 t2 t3 t4 t5 t6 t7 hE5 hG FIN
  go_wp2_with ((guard_target =~ wpList _ _ _ (Oper.mk none (Op.store _ (Operand.tmp 8) _) _ _ _ _ :: _) _ _); go_must (refine storeBox rfl 34 (.tmp 8) (.tmp 20) rfl (w.heap.size + 1 + 1 + 1) _ _ _ (by rfl) (by rfl) (c3) (by kernel_rfl) (by rfl) (by simp [Value.oneCell']) ?_); intro w6 c6 g6)
  have hX6 := hE.grown g6 (fun q hq => by cases hq; omega)
  have hC6 := hcols.keep g6 c3 (by decide)
  clear hE g6 c3
  obtain ⟨z0, z1, z2, z3, z4, z5, z6, z7⟩ := c6.ro (r := ⟨m.key, zeroCl, G, m.live.at_, L⟩) (v := .slice a10 L.length c10)
  refine bodyPost_ret (v := .agg #[.string m.key, .string ⟨#[]⟩, .bool false, .int .i64 0, .int .i64 0, .int .i64 G, .int .i64 m.live.at_, .slice a10 L.length c10]) ?_ rfl ⟨_, rfl, hC6, hX6⟩
  simp [results, Try.results59, go_sem, Act.put, z0, z1, z2, z3, z4, z5, z6, z7, zeroCl]
end Go.Proofs.Ytbjpfhkdlljgdaa
