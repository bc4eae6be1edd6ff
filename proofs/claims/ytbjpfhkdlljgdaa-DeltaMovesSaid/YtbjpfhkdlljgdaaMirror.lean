/- project.Mirror where a row is in the view. -/
import Derived.Test.YtbjpfhkdlljgdaaPickOf
namespace Go.Proofs.Ytbjpfhkdlljgdaa
open Go Go.RowKit
attribute [local go_sem] yields yUpon ro8 pa3 vw5 cl4 tabV

set_option maxRecDepth 100000 in
set_option maxHeartbeats 8000000 in
theorem mirror_some (s : Value) (x : Vw) (u : Value) (ns : List ByteArray) (pk : ByteArray) (pg : Int) (pu : Value) (r : Ro) (v : Value) (w : World) (hin : ColsIn w v r.cols) (hlc : r.cols.length ≤ 1000000) (hns : StrsIn w u ns)
    (hb : bestB (cellOf r.cols x.on) (max r.gone pg) = true) (hk : pk.size ≤ 10000000) (hr : r.key.size ≤ 10000000) (hkl : (vkey pk r.key).size ≤ 400) :
    Calls Try.prog 40 #[tabV s, .agg #[.string x.name, .int .i64 x.id, .string x.table, .string x.on, u], .agg #[.string pk, .int .i64 pg, pu], (.agg #[.string r.key, .string r.live.val, .bool r.live.dead, .int .i64 r.live.at_, .int .i64 r.live.fin, .int .i64 r.gone, .int .i64 r.shade, v])] w fun e w' =>
      ∃ (b : Nat) (v' : Value), e = .returned (.tuple #[.agg #[.string (cellOf r.cols x.on).val, .int .i64 0, .slice (some ⟨b, 0, none⟩) 1 1], .bool true]) ∧ w.heap.size ≤ b ∧
        BoxAt w' b (ro8 ⟨vkey pk r.key, ⟨⟨#[]⟩, false, (cellOf r.cols x.on).at_, (cellOf r.cols x.on).fin⟩, max r.gone pg, 0, r.cols.filter (keeps ns)⟩ v') 34 ∧ w'.ownsRow w.heap.size 62 5 v' (r.cols.filter (keeps ns)).length (coCells (r.cols.filter (keeps ns))) ∧ Ext w w' := by
  obtain ⟨a0, a1, a2, a3, a4, hE⟩ := boxes5 w #[.string ⟨#[116]⟩, .int .i64 1, .string ⟨#[112]⟩, .int .i64 1, .string ⟨#[107]⟩, .int .i64 2, s] (vw5 x u) (pa3 pk pg pu) (ro8 r v) (pa3 ⟨#[]⟩ 0 (.slice none 0 0)) 43 46 26 34 26
  have hin' := hin.ext hE
  have hns' := hns.ext hE
  go_enter Try.func40, Try.ntmps40
  go_wp2_with fail
  refine (of_some x u ns pk pg pu r v v r.cols _ hin' hin' hlc hns' hb hk hr hkl).mono ?_
  obtain ⟨c, hc⟩ : ∃ c, c = cellOf r.cols x.on := ⟨_, rfl⟩
  rw [← hc]
  rintro e w1 ⟨b, v', rfl, hbs, hbox, hown, hE1⟩
  obtain ⟨L, hL⟩ : ∃ L, L = r.cols.filter (keeps ns) := ⟨_, rfl⟩
  rw [← hL] at hbox hown
  have Hc := Lib.hid hc
  have HL := Lib.hid hL
  have hq := a4.lt
  have hws := hE.le
  replace hown := ownsRow_base hown hws
  replace a2 := a2.ext hE1
  replace a3 := a3.ext hE1
  replace a4 := a4.ext hE1
  replace hE := hE.trans hE1
  clear hE1 hin' hns' hin hns a0 a1 hb hc hL
  have hb1 := hbox.lt
  go_wp2_with fail
  refine wp_region_in 8 [(5, fun v _ => v = .int .i64 (max r.gone pg))] (fun w0 => BoxAt w0 w1.heap.size (pa3 c.val 0 (.slice (some ⟨b, 0, none⟩) 1 1)) 26 ∧ BoxAt w0 (w.heap.size + 1 + 1) (pa3 pk pg pu) 26 ∧ BoxAt w0 (w.heap.size + 1 + 1 + 1) (ro8 r v) 34 ∧ BoxAt w0 (w.heap.size + 1 + 1 + 1 + 1) (pa3 ⟨#[]⟩ 0 (.slice none 0 0)) 26 ∧ BoxAt w0 b (ro8 ⟨vkey pk r.key, ⟨⟨#[]⟩, false, c.at_, c.fin⟩, 0, 0, L⟩ v') 34 ∧ w0.ownsRow w.heap.size 62 5 v' L.length (coCells L) ∧ Ext w w0) (by kernel_rfl) (by kernel_rfl) (by kernel_rfl) ⟨stays_eq _, trivial⟩ ?_ ?_
  · exact ⟨BoxAt.made _ _ _, a2.ext ((Ext.refl _).alloc _), a3.ext ((Ext.refl _).alloc _), a4.ext ((Ext.refl _).alloc _), hbox.ext ((Ext.refl _).alloc _), ownsRow_ext hown ((Ext.refl _).alloc _), hE.alloc _⟩
  clear a2 a3 a4 hbox hown hE
  rintro w2 ⟨c1, c2, c3, c4, c5, hown, hE⟩
  have FIN : Hid (∀ wx, Ext w2 wx → BoxAt wx w1.heap.size (pa3 c.val 0 (.slice (some ⟨b, 0, none⟩) 1 1)) 26 ∧ BoxAt wx (w.heap.size + 1 + 1 + 1 + 1) (pa3 ⟨#[]⟩ 0 (.slice none 0 0)) 26 ∧ BoxAt wx b (ro8 ⟨vkey pk r.key, ⟨⟨#[]⟩, false, c.at_, c.fin⟩, 0, 0, L⟩ v') 34 ∧ wx.ownsRow w.heap.size 62 5 v' L.length (coCells L) ∧ Ext w wx) := fun wx h => ⟨c1.ext h, c4.ext h, c5.ext h, ownsRow_ext hown h, hE.trans h⟩
  obtain ⟨y0, y1, y2⟩ := c1.pa
  obtain ⟨z0, z1, z2⟩ := c2.pa
  obtain ⟨x0, x1, x2, x3, x4, x5, x6, x7⟩ := c3.ro
  clear c1 c2 c3 c4 c5 hown hE z0 z2 y0 y1
  replace y2 := held y2
  replace z1 := held z1
  replace x0 := held x0
  replace x1 := held x1
  replace x2 := held x2
  replace x3 := held x3
  replace x4 := held x4
  replace x5 := held x5
  replace x6 := held x6
  replace x7 := held x7
  refine rg_quiet rfl rfl rfl rfl ?_; intro K hK; go_big_quiet_op; go_big_quiet_on
  refine rg_quiet rfl rfl rfl rfl ?_; intro K hK; go_big_quiet_op; go_big_quiet_on
  refine rg_quiet rfl rfl rfl rfl ?_; intro K hK; go_big_quiet_op; go_big_quiet_on
  refine rg_quiet rfl rfl rfl rfl ?_; intro K hK; go_big_quiet_op; go_big_quiet_on
  refine rg_quiet rfl rfl rfl rfl ?_; intro K hK; go_big_quiet_op; go_big_quiet_on
  refine rg_val [] rfl rfl rfl (by kernel_rfl) (fun w1 hE hf => ?_) ?_
  · go_simp
    exact (rgone_any r v pg w1).mono fun e w' ⟨he, hw⟩ => ⟨_, he, rg_done hE hw (rfl)⟩
  simp only [Act.put, List.setIfInBounds_toArray, List.set_cons_zero, List.set_cons_succ]
  refine rg_quiet rfl rfl rfl rfl ?_; intro K hK; go_big_quiet_op; go_big_quiet_on
  refine rg_quiet rfl rfl rfl rfl ?_; intro K hK; go_big_quiet_op; go_big_quiet_on
  refine rel_tail rfl rfl fun w5 hE5 hG => ?_
  obtain ⟨c1, c4, c5, hown, hE⟩ := FIN.out w5 hE5
  clear y2 z1 x0 x1 x2 x3 x4 x5 x6 x7 hE5 hG FIN
  have f5 := c5.cell 5
  have ff := c5.free 5
  simp [ro8] at f5
  have y : ∀ i, w5.cell? ⟨w1.heap.size, i, none⟩ = (pa3 c.val 0 (.slice (some ⟨b, 0, none⟩) 1 1))[i]? := fun i => c1.cell i
  have hbn : b ≠ w1.heap.size := by omega
  have hbn2 : w1.heap.size ≠ b := by omega
  have hcell := c5.set 5 (.int .i64 (max r.gone pg))
  have hqn : w.heap.size + 1 + 1 + 1 + 1 ≠ b := by omega
  have hres := c4.other hqn 5 (.int .i64 (max r.gone pg))
  have hownB := own_setCell (u := .int .i64 (max r.gone pg)) (i := 5) hown (own_ne_box hown c5 (by decide))
  have hXB := hE.setCell (p := ⟨b, 5, none⟩) (by show w.heap.size ≤ b; omega) (.int .i64 (max r.gone pg))
  have hrow : BoxAt (w5.setCell ⟨b, 5, none⟩ (.int .i64 (max r.gone pg))) b (ro8 ⟨vkey pk r.key, ⟨⟨#[]⟩, false, c.at_, c.fin⟩, max r.gone pg, 0, L⟩ v') 34 := hcell
  clear hcell hown c4 c5 hE
  go_wp2_with ((guard_target =~ wpList _ _ _ (Oper.mk none (Op.store _ (Operand.tmp 8) _) _ _ _ _ :: _) _ _); go_must (refine storeBox rfl 26 (.tmp 8) (.tmp 32) rfl (w.heap.size + 1 + 1 + 1 + 1) _ _ _ (by rfl) (by rfl) (hres) (by kernel_rfl) (by rfl) (by simp [Value.oneCell']) ?_); intro w6 c6 g6)
  have hX6 := hXB.grown g6 (fun q hq => by cases hq; omega)
  have hrow6 := hrow.grown g6 (fun e => by have := Option.some.inj e; omega)
  have hown6 := hownB.kept g6 (own_ne_box hownB hres (by decide))
  clear y c1 hrow hownB hres hXB g6 f5 ff
  have z0 := c6.cell 0
  have z1 := c6.cell 1
  have z2 := c6.cell 2
  simp at z0 z1 z2
  rw [← Hc.out, ← HL.out]
  refine bodyPost_ret (v := .tuple #[.agg #[.string c.val, .int .i64 0, .slice (some ⟨b, 0, none⟩) 1 1], .bool true]) ?_ rfl ⟨b, v', rfl, by omega, hrow6, hown6, hX6⟩
  simp [results, Try.results40, go_sem, Act.put, z0, z1, z2]
end Go.Proofs.Ytbjpfhkdlljgdaa
