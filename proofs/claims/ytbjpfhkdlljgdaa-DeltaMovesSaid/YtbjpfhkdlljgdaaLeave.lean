/- delta.Of's closure: what a view's row is that a base's row left is put behind the list. -/
import Derived.Test.YtbjpfhkdlljgdaaLeft
import Derived.Test.YtbjpfhkdlljgdaaDeltaIn
namespace Go.Proofs.Ytbjpfhkdlljgdaa
open Go Go.RowKit
attribute [local go_sem] yields yUpon ro8 pa3 vw5

/-- What stays true in the closure's region. -/
structure LC (w0 ws : World) (S B bl p5 p6 bv bn : Nat) (vl : Value) (L : List Pa) (x : Vw) (u : Value) (wk : ByteArray) (wg : Int) (m : Ro) (vm : Value) (bm cm : Nat) (r : Ro) (v : Value) (nk : ByteArray) (ng : Int) (nu : Value) (y : World) : Prop where
  ext : Ext w0 y
  size : S ≤ y.heap.size
  lbox : BoxAt y bl #[vl] 49
  was : BoxAt y p5 (pa3 wk wg (.slice (some ⟨bm, 0, none⟩) 1 cm)) 26
  row : BoxAt y p6 (ro8 r v) 34
  view : BoxAt y bv (vw5 x u) 46
  now : BoxAt y bn (pa3 nk ng nu) 26
  own : y.ownsRow B 26 3 vl L.length (paCells L)
  rows : ∀ p ∈ L, RowsT y p.rv p.ps
  wrow : RowsT y (.slice (some ⟨bm, 0, none⟩) 1 cm) [(m, vm)]
  keep : ∀ q cs T, BoxAt ws q cs T → q ≠ bl → some q ≠ vl.ownBlock → BoxAt y q cs T
  keepR : ∀ v qs, RowsT ws v qs → RowsT y v qs
theorem LC.ext' {w0 ws : World} {S B bl p5 p6 bv bn : Nat} {vl : Value} {L : List Pa} {x : Vw} {u : Value} {wk : ByteArray} {wg : Int} {m : Ro} {vm : Value} {bm cm : Nat} {r : Ro} {v : Value} {nk : ByteArray} {ng : Int} {nu : Value} {y z : World} (hE : Ext y z)
    (h : LC w0 ws S B bl p5 p6 bv bn vl L x u wk wg m vm bm cm r v nk ng nu y) : LC w0 ws S B bl p5 p6 bv bn vl L x u wk wg m vm bm cm r v nk ng nu z :=
  ⟨h.ext.trans hE, Nat.le_trans h.size hE.le, h.lbox.ext hE, h.was.ext hE, h.row.ext hE, h.view.ext hE, h.now.ext hE, ownsRow_ext h.own hE, fun p hp => (h.rows p hp).ext hE, h.wrow.ext hE, fun q cs T h1 h2 h3 => (h.keep q cs T h1 h2 h3).ext hE, fun v qs h1 => (h.keepR v qs h1).ext hE⟩
theorem RowsT.at0 {y : World} {bm cm : Nat} {m : Ro} {vm : Value} (h : RowsT y (.slice (some ⟨bm, 0, none⟩) 1 cm) [(m, vm)]) : RoAt y bm 0 m vm := by
  obtain ⟨a, c, e, _, _, hg⟩ := h.rows.get
  cases e
  obtain ⟨b, o, e, hr⟩ := hg 0 (Nat.zero_lt_one)
  rcases h.tin with ⟨e', _⟩ | ⟨b', c', Z, e', _⟩
  · cases e'
  · cases e'
    cases e
    simpa using hr

set_option maxRecDepth 100000 in
set_option maxHeartbeats 8000000 in
theorem leave_any (bl bv bn B : Nat) (vl : Value) (L : List Pa) (x : Vw) (u : Value) (wk : ByteArray) (wg : Int) (m : Ro) (vm : Value) (bm cm : Nat) (r : Ro) (v : Value) (nk : ByteArray) (ng : Int) (nu : Value) (w0 w : World)
    (hE0 : Ext w0 w) (hB : w0.heap.size ≤ B) (hBw : B ≤ w.heap.size) (hBl : w0.heap.size ≤ bl) (hlb : BoxAt w bl #[vl] 49) (hv : BoxAt w bv (vw5 x u) 46) (hnb : BoxAt w bn (pa3 nk ng nu) 26) (hbn : bn < B)
    (hown : w.ownsRow B 26 3 vl L.length (paCells L)) (hrows : ∀ p ∈ L, RowsT w p.rv p.ps) (hwr : RowsT w (.slice (some ⟨bm, 0, none⟩) 1 cm) [(m, vm)]) (hin : ColsIn w0 v r.cols) (hL : L.length ≤ 100000) :
    Calls Try.prog 58 #[.agg #[.string wk, .int .i64 wg, .slice (some ⟨bm, 0, none⟩) 1 cm], (.agg #[.string r.key, .string r.live.val, .bool r.live.dead, .int .i64 r.live.at_, .int .i64 r.live.fin, .int .i64 r.gone, .int .i64 r.shade, v]), .pointer (some ⟨bl, 0, none⟩), .pointer (some ⟨bv, 0, none⟩), .pointer (some ⟨bn, 0, none⟩)] w fun e w' =>
      (∃ z, e = .returned z) ∧ Ext w0 w' ∧ (∀ q cs T, BoxAt w q cs T → q ≠ bl → some q ≠ vl.ownBlock → BoxAt w' q cs T) ∧ (∀ v qs, RowsT w v qs → RowsT w' v qs) ∧
        ∃ (vl' rv : Value) (ps : List (Ro × Value)), BoxAt w' bl #[vl'] 49 ∧ w'.ownsRow B 26 3 vl' (L.length + 1) (paCells (L ++ [⟨wk, 0, rv, ps⟩])) ∧ RowsT w' rv ps ∧ ps.map (·.1) = [leftRo x m r ng] := by
  have hlt := hlb.lt
  obtain ⟨a0, a1, hE⟩ := boxes2 w (pa3 wk wg (.slice (some ⟨bm, 0, none⟩) 1 cm)) (ro8 r v) 26 34
  obtain ⟨J, hJ⟩ : ∃ J, J = leftRo x m r ng := ⟨_, rfl⟩
  rw [← hJ]
  have HJ := Lib.hid hJ
  clear hJ
  obtain ⟨al, cl, rfl⟩ := own_shape hown
  go_enter Try.func58, Try.ntmps58
  go_wp2_with fail
  have hle := hE0.le
  refine wp_region_relE (LC w0 w w.heap.size B bl w.heap.size (w.heap.size + 1) bv bn (.slice al L.length cl) L x u wk wg m vm bm cm r v nk ng nu) (PE (.slice al L.length cl) B 15) (Tab.atE [(0, fun v _ => v = (.slice al L.length cl)), (2, fun v _ => v = .string wk), (3, fun v _ => v = .agg (vw5 x u)), (5, fun v _ => v = .slice (some ⟨bm, 0, none⟩) 1 cm), (7, fun v _ => v = (.agg #[.string m.key, .string m.live.val, .bool m.live.dead, .int .i64 m.live.at_, .int .i64 m.live.fin, .int .i64 m.gone, .int .i64 m.shade, vm])), (8, fun y _ => y = (.agg #[.string r.key, .string r.live.val, .bool r.live.dead, .int .i64 r.live.at_, .int .i64 r.live.fin, .int .i64 r.gone, .int .i64 r.shade, v])), (10, fun v _ => v = .int .i64 ng), (11, fun v y => ∃ v', v = (.agg #[.string J.key, .string J.live.val, .bool J.live.dead, .int .i64 J.live.at_, .int .i64 J.live.fin, .int .i64 J.gone, .int .i64 J.shade, v']) ∧ ColsT y v' J.cols), (12, fun v y => ∃ b v', v = .slice (some ⟨b, 0, none⟩) 1 1 ∧ BoxAt y b (ro8 J v') 34 ∧ ColsT y v' J.cols), (14, fun v y => ∃ b rv ps, v = .slice (some ⟨b, 0, none⟩) 1 1 ∧ w.heap.size ≤ b ∧ BoxAt y b (pa3 wk 0 rv) 26 ∧ RowsT y rv ps ∧ Hid (ps.map (·.1) = [J])), (15, fun v y => ∃ rv ps, y.ownsRow B 26 3 v (L.length + 1) (paCells (L ++ [⟨wk, 0, rv, ps⟩])) ∧ RowsT y rv ps ∧ Hid (ps.map (·.1) = [J]))])
    (Tab.staysE ⟨fun _ _ _ _ _ _ h => h, fun _ _ _ _ _ _ h => h, fun _ _ _ _ _ _ h => h, fun _ _ _ _ _ _ h => h, fun _ _ _ _ _ _ h => h, fun _ _ _ _ _ _ h => h, fun _ _ _ _ _ _ h => h, fun _ _ _ _ _ hR ⟨v', e, h⟩ => ⟨v', e, PE_tin hR (by decide) h⟩, fun _ _ _ _ _ hR ⟨b, v', e, hb, h⟩ => ⟨b, v', e, PE_box hR (by decide) hb, PE_tin hR (by decide) h⟩, fun _ _ _ _ _ hR ⟨b, rv, ps, e, hb, hx, hr, hm⟩ => ⟨b, rv, ps, e, hb, PE_far hown hR hb hx, PE_rows hR hr, hm⟩, fun _ hj _ _ _ hR ⟨rv, ps, h, hr, hm⟩ => ⟨rv, ps, ownsRow_ext h (PE_off hj hR), PE_rows hR hr, hm⟩, trivial⟩)
    16 (by kernel_rfl) (by kernel_rfl) (by kernel_rfl) ((⟨hE0.trans hE, hE.le, hlb.ext hE, a0, a1, hv.ext hE, hnb.ext hE, ownsRow_ext hown hE, fun p hp => (hrows p hp).ext hE, hwr.ext hE, fun q cs T h1 _ _ => h1.ext hE, fun v qs h1 => h1.ext hE⟩ : LC w0 w w.heap.size B bl w.heap.size (w.heap.size + 1) bv bn (.slice al L.length cl) L x u wk wg m vm bm cm r v nk ng nu _).ext' (Ext.refl _).drew) ?_
  refine relE_val [] rfl rfl rfl (by kernel_rfl) (fun z hz hf => ?_) ?_
  · have q0 : z.cell? ⟨bl, 0, none⟩ = some (.slice al L.length cl) := hz.lbox.cell 0
    go_simp
    exact ⟨hz, PE_ext (by decide) (Ext.refl z), rfl⟩
  simp only [Act.put, List.setIfInBounds_toArray, List.set_cons_zero, List.set_cons_succ]
  refine relE_quiet rfl rfl rfl rfl ?_; intro K hK; go_big_quiet_op; (first | refine ⟨_, fun _ _ => rfl, hK _ ?_⟩ | refine hK _ ?_); clear hK K
  refine relE_val [] rfl rfl rfl (by kernel_rfl) (fun z hz hf => ?_) ?_
  · obtain ⟨q0, q1, q2⟩ := hz.was.pa
    go_simp
    exact ⟨hz, PE_ext (by decide) (Ext.refl z), rfl⟩
  simp only [Act.put, List.setIfInBounds_toArray, List.set_cons_zero, List.set_cons_succ]
  refine relE_val [] rfl rfl rfl (by kernel_rfl) (fun z hz hf => ?_) ?_
  · obtain ⟨q0, q1, q2, q3, q4⟩ := hz.view.vw
    go_simp
    exact ⟨hz, PE_ext (by decide) (Ext.refl z), rfl⟩
  simp only [Act.put, List.setIfInBounds_toArray, List.set_cons_zero, List.set_cons_succ]
  refine relE_quiet rfl rfl rfl rfl ?_; intro K hK; go_big_quiet_op; (first | refine ⟨_, fun _ _ => rfl, hK _ ?_⟩ | refine hK _ ?_); clear hK K
  refine relE_val [] rfl rfl rfl (by kernel_rfl) (fun z hz hf => ?_) ?_
  · obtain ⟨q0, q1, q2⟩ := hz.was.pa
    go_simp
    exact ⟨hz, PE_ext (by decide) (Ext.refl z), rfl⟩
  simp only [Act.put, List.setIfInBounds_toArray, List.set_cons_zero, List.set_cons_succ]
  refine relE_quiet rfl rfl rfl rfl ?_; intro K hK; go_big_quiet_op; (first | refine ⟨_, fun _ _ => rfl, hK _ ?_⟩ | refine hK _ ?_); clear hK K
  refine relE_val [] rfl rfl rfl (by kernel_rfl) (fun z hz hf => ?_) ?_
  · obtain ⟨q0, q1, q2, q3, q4, q5, q6, q7⟩ := hz.wrow.at0
    go_simp
    exact ⟨hz, PE_ext (by decide) (Ext.refl z), rfl⟩
  simp only [Act.put, List.setIfInBounds_toArray, List.set_cons_zero, List.set_cons_succ]
  refine relE_val [] rfl rfl rfl (by kernel_rfl) (fun z hz hf => ?_) ?_
  · obtain ⟨q0, q1, q2, q3, q4, q5, q6, q7⟩ := hz.row.ro
    go_simp
    exact ⟨hz, PE_ext (by decide) (Ext.refl z), rfl⟩
  simp only [Act.put, List.setIfInBounds_toArray, List.set_cons_zero, List.set_cons_succ]
  refine relE_quiet rfl rfl rfl rfl ?_; intro K hK; go_big_quiet_op; (first | refine ⟨_, fun _ _ => rfl, hK _ ?_⟩ | refine hK _ ?_); clear hK K
  refine relE_val [] rfl rfl rfl (by kernel_rfl) (fun z hz hf => ?_) ?_
  · obtain ⟨q0, q1, q2⟩ := hz.now.pa
    go_simp
    exact ⟨hz, PE_ext (by decide) (Ext.refl z), rfl⟩
  simp only [Act.put, List.setIfInBounds_toArray, List.set_cons_zero, List.set_cons_succ]
  refine relE_fact [] rfl rfl rfl (by kernel_rfl) (fun z hz hf => ?_) (fun v8 z8 hC8 hG8 h8 => ?_)
  · go_simp
    refine (left_any x u m r vm v ng z (hin.ext hz.ext)).mono ?_
    rw [← HJ.out]
    rintro e y ⟨v', he, hc, hy⟩
    exact ⟨_, he, hz.ext' hy, PE_ext (by decide) hy, v', rfl, hc⟩
  obtain ⟨v11, rfl, h11⟩ := h8
  obtain ⟨a11, c11, rfl⟩ := h11.shape
  clear hC8 hG8 h11
  simp only [Act.put, List.setIfInBounds_toArray, List.set_cons_zero, List.set_cons_succ]
  refine relE_fact [11] rfl rfl rfl (by kernel_rfl) (fun z hz hf => ?_) (fun v4 z4 hC4 hG4 h4 => ?_)
  · obtain ⟨v', e, hc⟩ := (hf 11 (by simp)).2 rfl
    cases e
    go_simp
    exact ⟨hz.ext' ((Ext.refl z).alloc _), PE_ext (by decide) ((Ext.refl z).alloc _), _, rfl, _, BoxAt.made z _ _, hc.ext ((Ext.refl z).alloc _)⟩
  obtain ⟨b12, v12, rfl, _, _⟩ := h4
  clear hC4 hG4
  simp only [Act.put, List.setIfInBounds_toArray, List.set_cons_zero, List.set_cons_succ]
  refine relE_quiet rfl rfl rfl rfl ?_; intro K hK; go_big_quiet_op; (first | refine ⟨_, fun _ _ => rfl, hK _ ?_⟩ | refine hK _ ?_); clear hK K
  refine relE_fact [12] rfl rfl rfl (by kernel_rfl) (fun z hz hf => ?_) (fun v4 z4 hC4 hG4 h4 => ?_)
  · obtain ⟨b, v', e, hb, hc⟩ := (hf 12 (by simp)).2 rfl
    cases e
    go_simp
    exact ⟨hz.ext' ((Ext.refl z).alloc _), PE_ext (by decide) ((Ext.refl z).alloc _), _, rfl, hz.size, _, BoxAt.made z _ _, _, RowsT.one (hb.ext ((Ext.refl z).alloc _)) (hc.ext ((Ext.refl z).alloc _)), ⟨_, rfl⟩⟩
  obtain ⟨b14, rv14, ps14, rfl, _, _, _, _⟩ := h4
  clear hC4 hG4
  simp only [Act.put, List.setIfInBounds_toArray, List.set_cons_zero, List.set_cons_succ]
  refine relE_fact [14] rfl rfl rfl (by kernel_rfl) (fun z hz hf => ?_) (fun v5 z5 hC5 hG5 h5 => ?_)
  · obtain ⟨b, rv, ps, e, hb, hbox, hr, hm⟩ := (hf 14 (by simp)).2 rfl
    cases e
    obtain ⟨ar, cr, rfl⟩ := hr.shape
    refine yields_append info_Part und_Parts rfl (by decide) (.tmp 7) (.tmp 21) rfl B (Nat.le_trans hBw hz.size) (.slice al L.length cl) L.length (paCells L) hz.own (by rfl) b14 1 1 (pa3 wk 0 (.slice ar ps.length cr)).toList (by rfl) (by rfl) (fun j u hj => by rw [hbox.cell j]; simpa using hj) (by simp [pa3, Value.oneCell']) (by unfold maxLen; omega) (by omega) ?_
    intro v' y hown' hg hkeep
    have hR : PE (.slice al L.length cl) B 15 15 z y := by unfold PE; rw [if_pos rfl]; exact ⟨⟨_, _, hz.own⟩, hg⟩
    refine ⟨⟨hz.ext.grown hg (fun q hq => Nat.le_trans hB (hz.own.lt q hq).1), Nat.le_trans hz.size hg.size, PE_box hR (by decide) hz.lbox, PE_far hown hR (Nat.le_refl _) hz.was, PE_box hR (by decide) hz.row, PE_box hR (by decide) hz.view, hz.now.grown hg (fun e => by have := (hz.own.lt _ e.symm).1; omega), hkeep, fun p hp => PE_rows hR (hz.rows p hp), PE_rows hR hz.wrow, fun q cs T h1 h2 h3 => (hz.keep q cs T h1 h2 h3).grown hg h3, fun v qs h1 => PE_rows hR (hz.keepR v qs h1)⟩, hR, _, _, ?_, PE_rows hR hr, hm⟩
    rw [paCells_append]
    exact hown'
  obtain ⟨rv15, ps15, h5, _, _⟩ := h5
  obtain ⟨a5, c5, rfl⟩ := own_shape h5
  clear hC5 hG5 h5
  simp only [Act.put, List.setIfInBounds_toArray, List.set_cons_zero, List.set_cons_succ]
  refine relE_tail rfl rfl fun w9 hC hG => ?_
  obtain ⟨rv, ps, hown9, hr9, hm9⟩ := (hG 15).2 rfl
  have q0 : w9.cell? ⟨bl, 0, none⟩ = some (.slice al L.length cl) := hC.lbox.cell 0
  have qf := hC.lbox.free 0
  go_wp2_with fail
  refine bodyPost_end (v := .tuple #[]) ?_ rfl ⟨⟨_, rfl⟩, hC.ext.setCell (p := ⟨bl, 0, none⟩) hBl _, fun q cs T h1 h2 h3 => (hC.keep q cs T h1 h2 h3).other h2 0 _, fun v qs h1 => (hC.keepR v qs h1).set 0 _ hC.lbox (by decide) (by decide), _, rv, ps, hC.lbox.set 0 _, own_setCell hown9 (own_ne_box hown9 hC.lbox (by decide)), hr9.set 0 _ hC.lbox (by decide) (by decide), hm9⟩
  simp [results, Try.results58]
end Go.Proofs.Ytbjpfhkdlljgdaa
