/- row.Join. -/
import Derived.Test.YtkiodandnjbhoaaDoorMergeCo
import Derived.Test.YtkiodandnjbhoaaDoorRowBest
namespace Go.Proofs.YtkiodandnjbhoaaDoor
open Go Go.RowKit
attribute [local go_sem] yields yUpon ro8 co5

/-- What two rows are together. -/
def joinRo (a b : Ro) : Ro := ⟨a.key, joinCl a.live b.live, max a.gone b.gone, max a.shade b.shade, mergeCo a.cols b.cols⟩
theorem mergeCo_len (l m : List Co) : (mergeCo l m).length ≤ l.length + m.length := mergeG_len _ _ _ _

set_option maxRecDepth 100000 in
set_option maxHeartbeats 4000000 in
theorem rowJoin_any (a b : Ro) (va vb : Value) (w : World) (ha : ColsIn w va a.cols) (hb : ColsIn w vb b.cols) (hlen : a.cols.length + b.cols.length ≤ 1000000) :
    Calls Tryd.prog 14 #[(.agg #[.string a.key, .string a.live.val, .bool a.live.dead, .int .i64 a.live.at_, .int .i64 a.live.fin, .int .i64 a.gone, .int .i64 a.shade, va]), (.agg #[.string b.key, .string b.live.val, .bool b.live.dead, .int .i64 b.live.at_, .int .i64 b.live.fin, .int .i64 b.gone, .int .i64 b.shade, vb])] w fun e w' => ∃ v', e = .returned (.agg #[.string (joinRo a b).key, .string (joinRo a b).live.val, .bool (joinRo a b).live.dead, .int .i64 (joinRo a b).live.at_, .int .i64 (joinRo a b).live.fin, .int .i64 (joinRo a b).gone, .int .i64 (joinRo a b).shade, v']) ∧ w'.ownsRow w.heap.size 83 5 v' (joinRo a b).cols.length (coCells (joinRo a b).cols) ∧ Ext w w' := by
  obtain ⟨a0, a1, a2, hE⟩ := boxes3 w (ro8 a va) (ro8 b vb) (ro8 ⟨⟨#[]⟩, zeroCl, 0, 0, []⟩ (.slice none 0 0)) 26 26 26
  have ha' := ha.ext hE
  have hb' := hb.ext hE
  obtain ⟨c, hc⟩ : ∃ c, c = joinCl a.live b.live := ⟨_, rfl⟩
  obtain ⟨g, hg⟩ : ∃ g, g = max a.gone b.gone := ⟨_, rfl⟩
  obtain ⟨s, hs⟩ : ∃ s, s = max a.shade b.shade := ⟨_, rfl⟩
  have Hc := Lib.hid hc
  have Hg := Lib.hid hg
  have Hs := Lib.hid hs
  obtain ⟨L, hL⟩ : ∃ L, L = mergeCo a.cols b.cols := ⟨_, rfl⟩
  have HL := Lib.hid hL
  unfold joinRo
  rw [← hc, ← hg, ← hs, ← hL]
  clear hc hg hs hL
  go_enter Tryd.func14, Tryd.ntmps14
  go_wp2_with fail
  refine (mergeCo_any va vb a.cols b.cols _ ha' hb' hlen).mono ?_
  rintro e w1 ⟨v', rfl, hown, hE1⟩
  rw [← HL.out] at hown
  clear ha' hb' ha hb
  replace hown := ownsRow_base hown hE.le
  obtain ⟨ca, cc, rfl⟩ := own_shape hown
  replace a0 := a0.ext hE1
  replace a1 := a1.ext hE1
  replace a2 := a2.ext hE1
  replace hE := hE.trans hE1
  clear hE1
  go_wp2_with fail
  refine wp_region_in 19 [(6, fun v _ => v = (.agg #[.string c.val, .bool c.dead, .int .i64 c.at_, .int .i64 c.fin])), (11, fun v _ => v = .int .i64 g), (16, fun v _ => v = .int .i64 s)] (fun w0 => BoxAt w0 w.heap.size (ro8 a va) 26 ∧ BoxAt w0 (w.heap.size + 1) (ro8 b vb) 26 ∧ BoxAt w0 (w.heap.size + 1 + 1) (ro8 ⟨⟨#[]⟩, zeroCl, 0, 0, []⟩ (.slice none 0 0)) 26 ∧ w0.ownsRow w.heap.size 83 5 (.slice ca L.length cc) L.length (coCells L) ∧ Ext w w0) (by kernel_rfl) (by kernel_rfl) (by kernel_rfl) ⟨stays_eq _, stays_eq _, stays_eq _, trivial⟩ ⟨a0, a1, a2, hown, hE⟩ ?_
  clear a0 a1 a2 hE hown
  rintro w2 ⟨c0, c1, c2, hown, hE⟩
  have FIN : Hid (∀ wx, Ext w2 wx → BoxAt wx (w.heap.size + 1 + 1) (ro8 ⟨⟨#[]⟩, zeroCl, 0, 0, []⟩ (.slice none 0 0)) 26 ∧ wx.ownsRow w.heap.size 83 5 (.slice ca L.length cc) L.length (coCells L) ∧ Ext w wx) := fun wx h => ⟨c2.ext h, ownsRow_ext hown h, hE.trans h⟩
  obtain ⟨x0, x1, x2, x3, x4, x5, x6, x7⟩ := c0.ro
  obtain ⟨y0, y1, y2, y3, y4, y5, y6, y7⟩ := c1.ro
  clear c0 c1 c2 hE hown x7 y7 y0
  replace x0 := held x0
  replace x1 := held x1
  replace x2 := held x2
  replace x3 := held x3
  replace x4 := held x4
  replace x5 := held x5
  replace x6 := held x6
  replace y1 := held y1
  replace y2 := held y2
  replace y3 := held y3
  replace y4 := held y4
  replace y5 := held y5
  replace y6 := held y6
  refine rg_quiet rfl rfl rfl rfl ?_; intro K hK; go_big_quiet_op; go_big_quiet_on
  refine rg_quiet rfl rfl rfl rfl ?_; intro K hK; go_big_quiet_op; go_big_quiet_on
  refine rg_quiet rfl rfl rfl rfl ?_; intro K hK; go_big_quiet_op; go_big_quiet_on
  refine rg_quiet rfl rfl rfl rfl ?_; intro K hK; go_big_quiet_op; go_big_quiet_on
  refine rg_quiet rfl rfl rfl rfl ?_; intro K hK; go_big_quiet_op; go_big_quiet_on
  refine rg_quiet rfl rfl rfl rfl ?_; intro K hK; go_big_quiet_op; go_big_quiet_on
  refine rg_val [] rfl rfl rfl (by kernel_rfl) (fun w1 hE hf => ?_) ?_
  · go_simp
    exact (join_c a.live.val a.live.dead a.live.at_ a.live.fin b.live.val b.live.dead b.live.at_ b.live.fin w1).mono fun e w' ⟨he, hw⟩ => ⟨_, he, rg_done hE hw (by rw [Hc.out])⟩
  simp only [Act.put, List.setIfInBounds_toArray, List.set_cons_zero, List.set_cons_succ]
  refine rg_quiet rfl rfl rfl rfl ?_; intro K hK; go_big_quiet_op; go_big_quiet_on
  refine rg_quiet rfl rfl rfl rfl ?_; intro K hK; go_big_quiet_op; go_big_quiet_on
  refine rg_quiet rfl rfl rfl rfl ?_; intro K hK; go_big_quiet_op; go_big_quiet_on
  refine rg_quiet rfl rfl rfl rfl ?_; intro K hK; go_big_quiet_op; go_big_quiet_on
  refine rg_val [] rfl rfl rfl (by kernel_rfl) (fun w1 hE hf => ?_) ?_
  · go_simp
    exact rg_done hE (Ext.refl w1) (by rw [Hg.out])
  simp only [Act.put, List.setIfInBounds_toArray, List.set_cons_zero, List.set_cons_succ]
  refine rg_quiet rfl rfl rfl rfl ?_; intro K hK; go_big_quiet_op; go_big_quiet_on
  refine rg_quiet rfl rfl rfl rfl ?_; intro K hK; go_big_quiet_op; go_big_quiet_on
  refine rg_quiet rfl rfl rfl rfl ?_; intro K hK; go_big_quiet_op; go_big_quiet_on
  refine rg_quiet rfl rfl rfl rfl ?_; intro K hK; go_big_quiet_op; go_big_quiet_on
  refine rg_val [] rfl rfl rfl (by kernel_rfl) (fun w1 hE hf => ?_) ?_
  · go_simp
    exact rg_done hE (Ext.refl w1) (by rw [Hs.out])
  simp only [Act.put, List.setIfInBounds_toArray, List.set_cons_zero, List.set_cons_succ]
  refine rg_quiet rfl rfl rfl rfl ?_; intro K hK; go_big_quiet_op; go_big_quiet_on
  refine rg_quiet rfl rfl rfl rfl ?_; intro K hK; go_big_quiet_op; go_big_quiet_on
  refine rel_tail rfl rfl fun w5 hE5 hG => ?_
  obtain ⟨c2, hown, hE⟩ := FIN.out w5 hE5
  clear x0 x1 x2 x3 x4 x5 x6 y1 y2 y3 y4 y5 y6 hE5 hG FIN
  go_wp2_with ((guard_target =~ wpList _ _ _ (Oper.mk none (Op.store _ (Operand.tmp 4) (Operand.tmp 29)) _ _ _ _ :: _) _ _); go_must (refine storeBox rfl 26 (.tmp 4) (.tmp 29) rfl (w.heap.size + 1 + 1) _ _ _ (by rfl) (by rfl) (c2) (by kernel_rfl) (by rfl) (by simp [Value.oneCell']) ?_); intro w6 c6 g6)
  have hX6 := hE.grown g6 (fun q hq => by cases hq; omega)
  have hown6 := hown.kept g6 (own_ne_box hown c2 (by decide))
  clear hE hown g6 c2
  obtain ⟨z0, z1, z2, z3, z4, z5, z6, z7⟩ := c6.ro (r := ⟨a.key, c, g, s, L⟩) (v := .slice ca L.length cc)
  refine bodyPost_ret (v := .agg #[.string a.key, .string c.val, .bool c.dead, .int .i64 c.at_, .int .i64 c.fin, .int .i64 g, .int .i64 s, .slice ca L.length cc]) ?_ rfl ⟨_, rfl, hown6, hX6⟩
  simp [results, Tryd.results14, go_sem, Act.put, z0, z1, z2, z3, z4, z5, z6, z7]
end Go.Proofs.YtkiodandnjbhoaaDoor
