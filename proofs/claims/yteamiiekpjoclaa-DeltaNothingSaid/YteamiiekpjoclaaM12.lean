/- project.Mirror where a row is in the view. -/
import Derived.Test.YteamiiekpjoclaaM9
import Derived.Test.YteamiiekpjoclaaM11
namespace Go.Proofs.Yteamiiekpjoclaa
open Go Go.RowKit
attribute [local go_sem] yields yUpon ro8 pa3 vw5 cl4 tabV

set_option maxRecDepth 100000 in
set_option maxHeartbeats 8000000 in
theorem mirror_some (s : Value) (x : Vw) (u : Value) (ns : List ByteArray) (pk : ByteArray) (pg : Int) (pu : Value) (r : Ro) (v : Value) (w : World) (hin : ColsIn w v r.cols) (hlc : r.cols.length ≤ 1000000) (hns : StrsIn w u ns)
    (hb : bestB (cellOf r.cols x.on) (max r.gone pg) = true) (hk : pk.size ≤ 10000000) (hr : r.key.size ≤ 10000000) (hkl : (vkey pk r.key).size ≤ 400) :
    Calls Try.prog 31 #[tabV s, .agg #[.string x.name, .int .i64 x.id, .string x.table, .string x.on, u], .agg #[.string pk, .int .i64 pg, pu], (.agg #[.string r.key, .string r.live.val, .bool r.live.dead, .int .i64 r.live.at_, .int .i64 r.live.fin, .int .i64 r.gone, .int .i64 r.shade, v])] w fun e w' =>
      ∃ (b : Nat) (v' : Value), e = .returned (.tuple #[.agg #[.string (cellOf r.cols x.on).val, .int .i64 0, .slice (some ⟨b, 0, none⟩) 1 1], .bool true]) ∧ w.heap.size ≤ b ∧
        BoxAt w' b (ro8 ⟨vkey pk r.key, ⟨⟨#[]⟩, false, (cellOf r.cols x.on).at_, (cellOf r.cols x.on).fin⟩, max r.gone pg, 0, r.cols.filter (keeps ns)⟩ v') 55 ∧ w'.ownsRow w.heap.size 58 5 v' (r.cols.filter (keeps ns)).length (coCells (r.cols.filter (keeps ns))) ∧ Ext w w' := by
  obtain ⟨a0, a1, a2, a3, a4, hE⟩ := boxes5 w #[.string ⟨#[116]⟩, .int .i64 1, .string ⟨#[112]⟩, .int .i64 1, .string ⟨#[107]⟩, .int .i64 2, s] (vw5 x u) (pa3 pk pg pu) (ro8 r v) (pa3 ⟨#[]⟩ 0 (.slice none 0 0)) 28 31 39 55 39
  have hin' := hin.ext hE
  have hns' := hns.ext hE
  go_enter Try.func31, Try.ntmps31
  go_wp2_with fail
  refine (of_some x u ns pk pg pu r v v r.cols _ hin' hin' hlc hns' hb hk hr hkl).mono ?_
  obtain ⟨c, hc⟩ : ∃ c, c = cellOf r.cols x.on := ⟨_, rfl⟩
  rw [← hc]
  rintro e w1 ⟨b, v', rfl, hbs, hbox, hown, hE1⟩
  obtain ⟨L, hL⟩ : ∃ L, L = r.cols.filter (keeps ns) := ⟨_, rfl⟩
  rw [← hL] at hbox hown
  have Hc := Lib.hid hc
  have HL := Lib.hid hL
  have hq := a4.lt
  have hws := hE.le
  replace hown := ownsRow_base hown hws
  replace a2 := a2.ext hE1
  replace a3 := a3.ext hE1
  replace a4 := a4.ext hE1
  replace hE := hE.trans hE1
  clear hE1 hin' hns' hin hns a0 a1 hb hc hL
  have hb1 := hbox.lt
  go_wp2_with fail
  refine wp_region_in 8 [(5, fun v _ => v = .int .i64 (max r.gone pg))] (fun w0 => BoxAt w0 w1.heap.size (pa3 c.val 0 (.slice (some ⟨b, 0, none⟩) 1 1)) 39 ∧ BoxAt w0 (w.heap.size + 1 + 1) (pa3 pk pg pu) 39 ∧ BoxAt w0 (w.heap.size + 1 + 1 + 1) (ro8 r v) 55 ∧ BoxAt w0 (w.heap.size + 1 + 1 + 1 + 1) (pa3 ⟨#[]⟩ 0 (.slice none 0 0)) 39 ∧ BoxAt w0 b (ro8 ⟨vkey pk r.key, ⟨⟨#[]⟩, false, c.at_, c.fin⟩, 0, 0, L⟩ v') 55 ∧ w0.ownsRow w.heap.size 58 5 v' L.length (coCells L) ∧ Ext w w0) (by kernel_rfl) (by kernel_rfl) (by kernel_rfl) ⟨stays_eq _, trivial⟩ ?_ ?_
  · exact ⟨BoxAt.made _ _ _, a2.ext ((Ext.refl _).alloc _), a3.ext ((Ext.refl _).alloc _), a4.ext ((Ext.refl _).alloc _), hbox.ext ((Ext.refl _).alloc _), ownsRow_ext hown ((Ext.refl _).alloc _), hE.alloc _⟩
  clear a2 a3 a4 hbox hown hE
  rintro w2 ⟨c1, c2, c3, c4, c5, hown, hE⟩
  have FIN : Hid (∀ wx, Ext w2 wx → BoxAt wx w1.heap.size (pa3 c.val 0 (.slice (some ⟨b, 0, none⟩) 1 1)) 39 ∧ BoxAt wx (w.heap.size + 1 + 1 + 1 + 1) (pa3 ⟨#[]⟩ 0 (.slice none 0 0)) 39 ∧ BoxAt wx b (ro8 ⟨vkey pk r.key, ⟨⟨#[]⟩, false, c.at_, c.fin⟩, 0, 0, L⟩ v') 55 ∧ wx.ownsRow w.heap.size 58 5 v' L.length (coCells L) ∧ Ext w wx) := fun wx h => ⟨c1.ext h, c4.ext h, c5.ext h, ownsRow_ext hown h, hE.trans h⟩
  obtain ⟨y0, y1, y2⟩ := c1.pa
  obtain ⟨z0, z1, z2⟩ := c2.pa
  obtain ⟨x0, x1, x2, x3, x4, x5, x6, x7⟩ := c3.ro
  clear c1 c2 c3 c4 c5 hown hE z0 z2 y0 y1
  replace y2 := held y2
  replace z1 := held z1
  replace x0 := held x0
  replace x1 := held x1
  replace x2 := held x2
  replace x3 := held x3
  replace x4 := held x4
  replace x5 := held x5
  replace x6 := held x6
  replace x7 := held x7
  refine rg_quiet rfl rfl rfl rfl ?_; intro K hK; go_big_quiet_op; go_big_quiet_on
  refine rg_quiet rfl rfl rfl rfl ?_; intro K hK; go_big_quiet_op; go_big_quiet_on
  refine rg_quiet rfl rfl rfl rfl ?_; intro K hK; go_big_quiet_op; go_big_quiet_on
  refine rg_quiet rfl rfl rfl rfl ?_; intro K hK; go_big_quiet_op; go_big_quiet_on
  refine rg_quiet rfl rfl rfl rfl ?_; intro K hK; go_big_quiet_op; go_big_quiet_on
  refine rg_val [] rfl rfl rfl (by kernel_rfl) (fun w1 hE hf => ?_) ?_
  · go_simp
    exact (rgone_any r v pg w1).mono fun e w' ⟨he, hw⟩ => ⟨_, he, rg_done hE hw (rfl)⟩
  simp only [Act.put, List.setIfInBounds_toArray, List.set_cons_zero, List.set_cons_succ]
  refine rg_quiet rfl rfl rfl rfl ?_; intro K hK; go_big_quiet_op; go_big_quiet_on
  refine rg_quiet rfl rfl rfl rfl ?_; intro K hK; go_big_quiet_op; go_big_quiet_on
  refine rel_tail rfl rfl fun w5 hE5 hG => ?_
  obtain ⟨c1, c4, c5, hown, hE⟩ := FIN.out w5 hE5
  clear y2 z1 x0 x1 x2 x3 x4 x5 x6 x7 hE5 hG FIN
  have f5 := c5.cell 5
  have ff := c5.free 5
  simp [ro8] at f5
  have y : ∀ i, w5.cell? ⟨w1.heap.size, i, none⟩ = (pa3 c.val 0 (.slice (some ⟨b, 0, none⟩) 1 1))[i]? := fun i => c1.cell i
  have hbn : b ≠ w1.heap.size := by omega
  have hbn2 : w1.heap.size ≠ b := by omega
  have hcell := c5.set 5 (.int .i64 (max r.gone pg))
  have hqn : w.heap.size + 1 + 1 + 1 + 1 ≠ b := by omega
  have hres := c4.other hqn 5 (.int .i64 (max r.gone pg))
  have hownB := own_setCell (u := .int .i64 (max r.gone pg)) (i := 5) hown (own_ne_box hown c5 (by decide))
  have hXB := hE.setCell (p := ⟨b, 5, none⟩) (by show w.heap.size ≤ b; omega) (.int .i64 (max r.gone pg))
  have hrow : BoxAt (w5.setCell ⟨b, 5, none⟩ (.int .i64 (max r.gone pg))) b (ro8 ⟨vkey pk r.key, ⟨⟨#[]⟩, false, c.at_, c.fin⟩, max r.gone pg, 0, L⟩ v') 55 := hcell
  clear hcell hown c4 c5 hE
  go_wp2_with ((guard_target =~ wpList _ _ _ (Oper.mk none (Op.store _ (Operand.tmp 8) (Operand.tmp 32)) _ _ _ _ :: _) _ _); go_must (refine storeBox rfl 39 (.tmp 8) (.tmp 32) rfl (w.heap.size + 1 + 1 + 1 + 1) _ _ _ (by rfl) (by rfl) (hres) (by kernel_rfl) (by rfl) (by simp [Value.oneCell']) ?_); intro w6 c6 g6)
  have hX6 := hXB.grown g6 (fun q hq => by cases hq; omega)
  have hrow6 := hrow.grown g6 (fun e => by have := Option.some.inj e; omega)
  have hown6 := hownB.kept g6 (own_ne_box hownB hres (by decide))
  clear y c1 hrow hownB hres hXB g6 f5 ff
  have z0 := c6.cell 0
  have z1 := c6.cell 1
  have z2 := c6.cell 2
  simp at z0 z1 z2
  rw [← Hc.out, ← HL.out]
  refine bodyPost_ret (v := .tuple #[.agg #[.string c.val, .int .i64 0, .slice (some ⟨b, 0, none⟩) 1 1], .bool true]) ?_ rfl ⟨b, v', rfl, by omega, hrow6, hown6, hX6⟩
  simp [results, Try.results31, go_sem, Act.put, z0, z1, z2]
end Go.Proofs.Yteamiiekpjoclaa

/- project.Mirror, whether a row has a mirror or none. -/
namespace Go.Proofs.Yteamiiekpjoclaa
open Go Go.RowKit

/-- What mirrors a row: the partition's key and its one row. -/
def mirOf (x : Vw) (ns : List ByteArray) (pk : ByteArray) (pg : Int) (r : Ro) : Option (ByteArray × Ro) :=
  if bestB (cellOf r.cols x.on) (max r.gone pg) then some ((cellOf r.cols x.on).val, ⟨vkey pk r.key, ⟨⟨#[]⟩, false, (cellOf r.cols x.on).at_, (cellOf r.cols x.on).fin⟩, max r.gone pg, 0, r.cols.filter (keeps ns)⟩) else none
def mirK (m : Option (ByteArray × Ro)) : ByteArray := match m with
  | some p => p.1
  | none => ⟨#[]⟩
def mirR (m : Option (ByteArray × Ro)) : List Ro := match m with
  | some p => [p.2]
  | none => []
theorem mirror_any (s : Value) (x : Vw) (u : Value) (ns : List ByteArray) (pk : ByteArray) (pg : Int) (pu : Value) (r : Ro) (v : Value) (w : World) (hin : ColsIn w v r.cols) (hlc : r.cols.length ≤ 1000000) (hns : StrsIn w u ns)
    (hk : pk.size ≤ 10000000) (hr : r.key.size ≤ 10000000) (hkl : (vkey pk r.key).size ≤ 400) :
    Calls Try.prog 31 #[tabV s, .agg #[.string x.name, .int .i64 x.id, .string x.table, .string x.on, u], .agg #[.string pk, .int .i64 pg, pu], (.agg #[.string r.key, .string r.live.val, .bool r.live.dead, .int .i64 r.live.at_, .int .i64 r.live.fin, .int .i64 r.gone, .int .i64 r.shade, v])] w fun e w' =>
      ∃ rv, e = .returned (.tuple #[.agg #[.string (mirK (mirOf x ns pk pg r)), .int .i64 0, rv], .bool (mirOf x ns pk pg r).isSome]) ∧ ∃ ps, RowsT w' rv ps ∧ ps.map (·.1) = mirR (mirOf x ns pk pg r) ∧ Ext w w' := by
  cases hb : bestB (cellOf r.cols x.on) (max r.gone pg) with
  | true =>
    have e : mirOf x ns pk pg r = some ((cellOf r.cols x.on).val, ⟨vkey pk r.key, ⟨⟨#[]⟩, false, (cellOf r.cols x.on).at_, (cellOf r.cols x.on).fin⟩, max r.gone pg, 0, r.cols.filter (keeps ns)⟩) := by unfold mirOf; rw [if_pos hb]
    rw [e]
    refine (mirror_some s x u ns pk pg pu r v w hin hlc hns hb hk hr hkl).mono ?_
    rintro e w' ⟨b, v', rfl, hwb, hbox, hown, hE⟩
    exact ⟨_, rfl, _, RowsT.one hbox (TIn.own hown), rfl, hE⟩
  | false =>
    have e : mirOf x ns pk pg r = none := by unfold mirOf; rw [if_neg (by rw [hb]; decide)]
    rw [e]
    refine (mirror_none s x u pk pg pu r v w hin hb hk hr).mono ?_
    rintro e w' ⟨rfl, hE⟩
    exact ⟨_, rfl, [], RowsT.nil _, rfl, hE⟩
end Go.Proofs.Yteamiiekpjoclaa

/- delta.Of. -/
namespace Go.Proofs.Yteamiiekpjoclaa
open Go Go.RowKit
attribute [local go_sem] yields yUpon ro8 pa3 vw5 tabV

/-- What a change of a row turns in a view. -/
noncomputable def stepD (x : Vw) (ng : Int) (r : Ro) : Option (ByteArray × Ro) → Option (ByteArray × Ro) → List (ByteArray × Ro)
  | none, none => []
  | none, some q => [q]
  | some p, none => [(p.1, leftRo x p.2 r ng)]
  | some p, some q => if eqB p.1 q.1 then (if eqB p q then [] else [q]) else [(p.1, leftRo x p.2 r ng), q]
noncomputable def deltaRs (x : Vw) (ns : List ByteArray) (ok : ByteArray) (og : Int) (nk : ByteArray) (ng : Int) (old : List Ro) : List Ro → List (ByteArray × Ro)
  | [] => []
  | r :: l => stepD x ng r (mirOf x ns ok og (rowOf old r.key)) (mirOf x ns nk ng r) ++ deltaRs x ns ok og nk ng old l
theorem deltaRs_snoc (x : Vw) (ns : List ByteArray) (ok : ByteArray) (og : Int) (nk : ByteArray) (ng : Int) (old : List Ro) (l : List Ro) (r : Ro) : deltaRs x ns ok og nk ng old (l ++ [r]) = deltaRs x ns ok og nk ng old l ++ stepD x ng r (mirOf x ns ok og (rowOf old r.key)) (mirOf x ns nk ng r) := by
  induction l with
  | nil => simp [deltaRs]
  | cons a l ih => simp only [List.cons_append, deltaRs, ih, List.append_assoc]
def outP (l : List (ByteArray × Ro)) : List (ByteArray × Int × List Ro) := l.map fun p => (p.1, 0, [p.2])
theorem rowOf_key (l : List Ro) (key : ByteArray) : (rowOf l key).key = key := by
  induction l with
  | nil => rfl
  | cons r l ih =>
    unfold rowOf
    split
    · rename_i h; exact bytes_ext (by simpa using h)
    · exact ih
theorem rowOf_mem (l : List Ro) (key : ByteArray) : rowOf l key ∈ l ∨ (rowOf l key).cols = [] := by
  induction l with
  | nil => exact .inr rfl
  | cons r l ih =>
    unfold rowOf
    split
    · exact .inl (List.mem_cons_self ..)
    · exact ih.imp_left (List.mem_cons_of_mem _)

/-- What stays true from round to round. -/
structure DS (w : World) (s : Value) (x : Vw) (u : Value) (ok : ByteArray) (og : Int) (ou : Value) (nk : ByteArray) (ng : Int) (nu : Value) (vl : Value) (L : List Pa) (y : World) : Prop where
  ext : Ext w y
  tab : BoxAt y w.heap.size #[.string ⟨#[116]⟩, .int .i64 1, .string ⟨#[112]⟩, .int .i64 1, .string ⟨#[107]⟩, .int .i64 2, s] 28
  view : BoxAt y (w.heap.size + 1) (vw5 x u) 31
  old : BoxAt y (w.heap.size + 1 + 1) (pa3 ok og ou) 39
  now : BoxAt y (w.heap.size + 1 + 1 + 1) (pa3 nk ng nu) 39
  lbox : BoxAt y (w.heap.size + 1 + 1 + 1 + 1) #[vl] 35
  own : y.ownsRow (w.heap.size + 5) 39 3 vl L.length (paCells L)
  rows : ∀ p ∈ L, RowsT y p.rv p.ps
  size : w.heap.size + 5 ≤ y.heap.size
section
variable {w : World} {s : Value} {x : Vw} {u : Value} {ok : ByteArray} {og : Int} {ou : Value} {nk : ByteArray} {ng : Int} {nu : Value} {vl : Value} {L : List Pa}
theorem DS.ext' {y z : World} (hE : Ext y z) (h : DS w s x u ok og ou nk ng nu vl L y) : DS w s x u ok og ou nk ng nu vl L z :=
  ⟨h.ext.trans hE, h.tab.ext hE, h.view.ext hE, h.old.ext hE, h.now.ext hE, h.lbox.ext hE, ownsRow_ext h.own hE, fun p hp => (h.rows p hp).ext hE, Nat.le_trans h.size hE.le⟩
/-- Behind an append in the loop. -/
theorem DS.app {y z : World} {v' : Value} {P : Pa} (h : DS w s x u ok og ou nk ng nu vl L y) (hg : y.grownBy z vl.ownBlock) (hown : z.ownsRow (w.heap.size + 5) 39 3 v' (L.length + 1) (paCells (L ++ [P]))) (hP : RowsT y P.rv P.ps) : DS w s x u ok og ou nk ng nu v' (L ++ [P]) (z.setCell ⟨w.heap.size + 1 + 1 + 1 + 1, 0, none⟩ v') := by
  have ne : ∀ b, b < w.heap.size + 5 → some b ≠ vl.ownBlock := fun b hb e => by have := (h.own.lt _ e.symm).1; omega
  have hl := h.lbox.grown hg (ne _ (by omega))
  refine ⟨(h.ext.grown hg (fun q hq => by have := (h.own.lt q hq).1; omega)).setCell (by show w.heap.size ≤ w.heap.size + 1 + 1 + 1 + 1; omega) _, (h.tab.grown hg (ne _ (by omega))).other (by omega) _ _, (h.view.grown hg (ne _ (by omega))).other (by omega) _ _, (h.old.grown hg (ne _ (by omega))).other (by omega) _ _, (h.now.grown hg (ne _ (by omega))).other (by omega) _ _, hl.set 0 v', ?_, ?_, ?_⟩
  · rw [List.length_append]; exact own_setCell hown (own_ne_box hown hl (by decide))
  · intro p hp
    rcases List.mem_append.1 hp with hp | hp
    · exact ((h.rows p hp).keepOwn h.own hg (by decide) (by decide)).set 0 v' hl (by decide) (by decide)
    · rw [List.mem_singleton.1 hp]
      exact (hP.keepOwn h.own hg (by decide) (by decide)).set 0 v' hl (by decide) (by decide)
  · rw [Deep.nblk_setCell]; exact Nat.le_trans h.size hg.size
/-- Behind the closure. -/
theorem DS.leave {y z : World} {v' : Value} {P : Pa} (h : DS w s x u ok og ou nk ng nu vl L y) (hE : Ext w z) (hkeep : ∀ q cs T, BoxAt y q cs T → q ≠ w.heap.size + 1 + 1 + 1 + 1 → some q ≠ vl.ownBlock → BoxAt z q cs T) (hkeepR : ∀ v qs, RowsT y v qs → RowsT z v qs)
    (hl : BoxAt z (w.heap.size + 1 + 1 + 1 + 1) #[v'] 35) (hown : z.ownsRow (w.heap.size + 5) 39 3 v' (L.length + 1) (paCells (L ++ [P]))) (hP : RowsT z P.rv P.ps) : DS w s x u ok og ou nk ng nu v' (L ++ [P]) z := by
  have ne : ∀ b, b < w.heap.size + 5 → some b ≠ vl.ownBlock := fun b hb e => by have := (h.own.lt _ e.symm).1; omega
  refine ⟨hE, hkeep _ _ _ h.tab (by omega) (ne _ (by omega)), hkeep _ _ _ h.view (by omega) (ne _ (by omega)), hkeep _ _ _ h.old (by omega) (ne _ (by omega)), hkeep _ _ _ h.now (by omega) (ne _ (by omega)), hl, by rw [List.length_append]; exact hown, ?_, by have := hl.lt; omega⟩
  intro p hp
  rcases List.mem_append.1 hp with hp | hp
  · exact hkeepR _ _ (h.rows p hp)
  · rw [List.mem_singleton.1 hp]; exact hP
end
theorem RowsT.single {y : World} {a : Option Addr} {n c : Nat} {ps : List (Ro × Value)} {m : Ro} (h : RowsT y (.slice a n c) ps) (hm : ps.map (·.1) = [m]) : ∃ vm bm, ps = [(m, vm)] ∧ a = some ⟨bm, 0, none⟩ ∧ n = 1 := by
  cases ps with
  | nil => cases hm
  | cons p l =>
    cases l with
    | cons q l => cases hm
    | nil =>
      obtain ⟨r, vm⟩ := p
      have e : r = m := by simpa using hm
      subst e
      rcases h.tin with ⟨e, h0, _⟩ | ⟨b, c', Z, e, _⟩
      · cases h0
      · cases e
        exact ⟨vm, b, rfl, rfl, rfl⟩

set_option maxRecDepth 100000 in
set_option maxHeartbeats 16000000 in
theorem deltaOf_any (s : Value) (x : Vw) (u : Value) (ns : List ByteArray) (ok : ByteArray) (og : Int) (ou : Value) (pso : List (Ro × Value)) (nk : ByteArray) (ng : Int) (nu : Value) (psn : List (Ro × Value)) (w : World)
    (ho : RowsIn w ou pso) (hn : RowsIn w nu psn) (hns : StrsIn w u ns) (hco : ∀ p ∈ pso, p.1.cols.length ≤ 1000000) (hcn : ∀ p ∈ psn, p.1.cols.length ≤ 1000000) (hlen : psn.length ≤ 10000)
    (hok : ok.size ≤ 10000000) (hnk : nk.size ≤ 10000000) (hkey : ∀ p ∈ psn, p.1.key.size ≤ 10000000 ∧ (vkey ok p.1.key).size ≤ 400 ∧ (vkey nk p.1.key).size ≤ 400) :
    Calls Try.prog 14 #[tabV s, .agg #[.string x.name, .int .i64 x.id, .string x.table, .string x.on, u], .agg #[.string ok, .int .i64 og, ou], .agg #[.string nk, .int .i64 ng, nu]] w fun e w' =>
      ∃ v', e = .returned v' ∧ ∃ L, w'.ownsRow w.heap.size 39 3 v' L.length (paCells L) ∧ (∀ p ∈ L, RowsT w' p.rv p.ps) ∧ L.map Pa.data = outP (deltaRs x ns ok og nk ng (pso.map (·.1)) (psn.map (·.1))) ∧ Ext w w' := by
  obtain ⟨a0, a1, a2, a3, a4, hE⟩ := boxes5 w #[.string ⟨#[116]⟩, .int .i64 1, .string ⟨#[112]⟩, .int .i64 1, .string ⟨#[107]⟩, .int .i64 2, s] (vw5 x u) (pa3 ok og ou) (pa3 nk ng nu) #[.slice none 0 0] 28 31 39 39 35
  obtain ⟨aa, ca, rfl, hca, hcma, hget⟩ := hn.get
  obtain ⟨n, hnn⟩ : ∃ n, n = psn.length := ⟨_, rfl⟩
  rw [← hnn] at hlen hca a0 a1 a2 a3 a4 hE ⊢
  have HN := Lib.hid hnn
  have HGET := Lib.hid hget
  have HCS := Lib.hid hn.cols
  have HKEY := Lib.hid hkey
  have hds : DS w s x u ok og ou nk ng (.slice aa n ca) (.slice none 0 0) [] _ := ⟨hE, a0, a1, a2, a3, a4, World.ownsRow_nil _ _ _ _, nofun, by have := a4.lt; omega⟩
  have c3 := a3.pa
  clear hnn hget a0 a1 a2 a4 hE hkey
  unfold tabV
  go_enter Try.func14, Try.ntmps14
  go_wp2
  go_loopw [23] (fun i wr => ∃ (k : Nat) (vl : Value) (L : List Pa), k ≤ n ∧ i = .int .i64 k ∧ DS w s x u ok og ou nk ng (.slice aa n ca) vl L wr ∧ L.length ≤ 2 * k ∧ Hid (L.map Pa.data = outP (deltaRs x ns ok og nk ng (pso.map (·.1)) ((psn.map (·.1)).take k)))) (fun i _ => n - (intOf i).toNat)
  case atStart => exact ⟨0, _, [], Nat.zero_le _, rfl, hds, by simp, rfl⟩
  case round =>
    obtain ⟨k, vl, L, hk, rfl, hds, hLk, HD⟩ := hrel
    obtain ⟨al, cl, rfl⟩ := own_shape hds.own
    by_cases hlt : k < n
    · have hkp : k < psn.length := by rw [← HN.out]; exact hlt
      have hkc := hcn _ (List.getElem_mem hkp)
      have hcu := HCS.out _ (List.getElem_mem hkp)
      obtain ⟨hky1, hky2, hky3⟩ := HKEY.out _ (List.getElem_mem hkp)
      obtain ⟨b, o, rfl, hat⟩ := HGET.out k hkp
      have hsnoc : (psn.map (·.1)).take (k + 1) = (psn.map (·.1)).take k ++ [psn[k].1] := by
        rw [List.take_succ_eq_append_getElem (by simpa using hkp)]
        simp
      obtain ⟨M, hM⟩ : ∃ M, M = psn[k].1 := ⟨_, rfl⟩
      obtain ⟨au, cu, hu⟩ := hcu.shape
      rw [← hM] at hkc hcu hu hsnoc hat hky1 hky2 hky3
      rw [hu] at hcu hat
      have HSN := Lib.hid hsnoc
      have HK3 := Lib.hid hky3
      clear hM hu hsnoc hky3
      obtain ⟨mm, hmm⟩ : ∃ mm, mm = M.cols.length := ⟨_, rfl⟩
      rw [← hmm] at hcu hat
      clear hmm
      have hcu0 := hcu
      obtain ⟨x0, x1, x2, x3, x4, x5, x6, x7⟩ := hat.ext hds.ext
      obtain ⟨R, hR⟩ : ∃ R, R = rowOf (pso.map (·.1)) M.key := ⟨_, rfl⟩
      have HR := Lib.hid hR
      have hRk : R.key = M.key := by rw [hR]; exact rowOf_key _ _
      have hRc : R.cols.length ≤ 1000000 := by
        rcases rowOf_mem (pso.map (·.1)) M.key with h | h
        · obtain ⟨p, hp, e⟩ := List.mem_map.1 h
          rw [hR, ← e]; exact hco p hp
        · rw [hR, h]; decide
      have hk1 : R.key.size ≤ 10000000 := by rw [hRk]; exact hky1
      have hk2 : (vkey ok R.key).size ≤ 400 := by rw [hRk]; exact hky2
      have HK1 := Lib.hid hk1
      have HK2 := Lib.hid hk2
      have HY1 := Lib.hid hky1
      clear hR hRk hk1 hk2 hky2 hky1
      have hsz := hds.size
      go_wp2_with (((guard_target =~ wpList _ _ _ (Oper.mk none (Op.store _ (Operand.tmp 12) (Operand.tmp 26)) _ _ _ _ :: _) _ _); go_must (refine storeBox rfl 55 (.tmp 12) (.tmp 26) rfl (wr.heap.size) _ _ _ (by rfl) (by rfl) ((BoxAt.made wr (ro8 ⟨⟨#[]⟩, zeroCl, 0, 0, []⟩ (.slice none 0 0)) 55)) (by kernel_rfl) (by rfl) (by simp [Value.oneCell']) ?_); intro w1 c1 g1); have hX1 : Ext wr w1 := ((Ext.refl wr).alloc _).grown g1 (fun q hq => by cases hq; omega); have d1 := c1.ro (r := ⟨M.key, M.live, M.gone, M.shade, []⟩) (v := .slice au mm cu); have e1 := (hds.ext' hX1).old.pa)
      have ds1 := hds.ext' hX1
      refine (prow_any ok og ou pso M.key w1 (ho.ext ds1.ext) hco).mono ?_
      rw [← HR.out]
      rintro e w2 ⟨v2, rfl, hc2, hE2⟩
      obtain ⟨a2, cc2, rfl⟩ := hc2.shape
      have ds2 := ds1.ext' hE2
      have r2 : BoxAt w2 wr.heap.size (ro8 M (.slice au mm cu)) 55 := c1.ext hE2
      obtain ⟨rl, hrl⟩ : ∃ rl, rl = R.cols.length := ⟨_, rfl⟩
      rw [← hrl] at hc2
      rw [← hrl]
      clear hrl d1 e1 c1 g1 x0 x1 x2 x3 x4 x5 x6 x7 ds1
      go_wp2_with (((guard_target =~ wpList _ _ _ (Oper.mk none (Op.store _ (Operand.tmp 13) (Operand.tmp 32)) _ _ _ _ :: _) _ _); go_must (refine storeBox rfl 55 (.tmp 13) (.tmp 32) rfl (w2.heap.size) _ _ _ (by rfl) (by rfl) ((BoxAt.made w2 (ro8 ⟨⟨#[]⟩, zeroCl, 0, 0, []⟩ (.slice none 0 0)) 55)) (by kernel_rfl) (by rfl) (by simp [Value.oneCell']) ?_); intro w3 c3 g3); have hX3 : Ext w2 w3 := ((Ext.refl w2).alloc _).grown g3 (fun q hq => by cases hq; omega); have ds3 := ds2.ext' hX3; have d3 := c3.ro (r := ⟨R.key, R.live, R.gone, R.shade, []⟩) (v := .slice a2 rl cc2); have q1 := fun i => (ds3.tab).cell i; have q2 := ds3.view.vw; have q3 := ds3.old.pa; have z0 : w3.cell? ⟨w.heap.size, 0, none⟩ = some (.string ⟨#[116]⟩) := ds3.tab.cell 0; have z1 : w3.cell? ⟨w.heap.size, 1, none⟩ = some (.int .i64 1) := ds3.tab.cell 1; have z2 : w3.cell? ⟨w.heap.size, 2, none⟩ = some (.string ⟨#[112]⟩) := ds3.tab.cell 2; have z3 : w3.cell? ⟨w.heap.size, 3, none⟩ = some (.int .i64 1) := ds3.tab.cell 3; have z4 : w3.cell? ⟨w.heap.size, 4, none⟩ = some (.string ⟨#[107]⟩) := ds3.tab.cell 4; have z5 : w3.cell? ⟨w.heap.size, 5, none⟩ = some (.int .i64 2) := ds3.tab.cell 5; have z6 : w3.cell? ⟨w.heap.size, 6, none⟩ = some s := ds3.tab.cell 6; clear q1)
      have r3 := r2.ext hX3
      refine (mirror_any s x u ns ok og ou R _ w3 (hc2.ext hX3) hRc (hns.ext ds3.ext) hok HK1.out HK2.out).mono ?_
      obtain ⟨m1, hm1⟩ : ∃ m1, m1 = mirOf x ns ok og R := ⟨_, rfl⟩
      rw [← hm1]
      have HM1 := Lib.hid hm1
      clear hm1
      rintro e w4 ⟨rv1, rfl, ps1, hr1, hpm1, hE4⟩
      obtain ⟨ar1, cr1, rfl⟩ := hr1.shape
      have ds4 := ds3.ext' hE4
      have r4 := r3.ext hE4
      clear z0 z1 z2 z3 z4 z5 z6 q2 q3 d3 c3 g3 ds2 r2 r3 ds3
      obtain ⟨n1, hn1⟩ : ∃ n1, n1 = ps1.length := ⟨_, rfl⟩
      rw [← hn1] at hr1 ⊢
      have HN1 := Lib.hid hn1
      clear hn1
      go_wp2_with (((guard_target =~ wpList _ _ _ (Oper.mk none (Op.store _ (Operand.tmp 15) (Operand.tmp 40)) _ _ _ _ :: _) _ _); go_must (refine storeBox rfl 39 (.tmp 15) (.tmp 40) rfl (w4.heap.size) _ _ _ (by rfl) (by rfl) ((BoxAt.made w4 (pa3 ⟨#[]⟩ 0 (.slice none 0 0)) 39)) (by kernel_rfl) (by rfl) (by simp [Value.oneCell']) ?_); intro w5 c5 g5); have hX5 : Ext w4 w5 := ((Ext.refl w4).alloc _).grown g5 (fun q hq => by cases hq; omega); have ds5 := ds4.ext' hX5; have r5 := r4.ext hX5; have d5 := r5.ro; have q2 := ds5.view.vw; have q3 := ds5.now.pa; have z0 : w5.cell? ⟨w.heap.size, 0, none⟩ = some (.string ⟨#[116]⟩) := ds5.tab.cell 0; have z1 : w5.cell? ⟨w.heap.size, 1, none⟩ = some (.int .i64 1) := ds5.tab.cell 1; have z2 : w5.cell? ⟨w.heap.size, 2, none⟩ = some (.string ⟨#[112]⟩) := ds5.tab.cell 2; have z3 : w5.cell? ⟨w.heap.size, 3, none⟩ = some (.int .i64 1) := ds5.tab.cell 3; have z4 : w5.cell? ⟨w.heap.size, 4, none⟩ = some (.string ⟨#[107]⟩) := ds5.tab.cell 4; have z5 : w5.cell? ⟨w.heap.size, 5, none⟩ = some (.int .i64 2) := ds5.tab.cell 5; have z6 : w5.cell? ⟨w.heap.size, 6, none⟩ = some s := ds5.tab.cell 6)
      refine (mirror_any s x u ns nk ng _ M _ w5 (hcu0.ext ds5.ext) hkc (hns.ext ds5.ext) hnk HY1.out HK3.out).mono ?_
      obtain ⟨m2, hm2⟩ : ∃ m2, m2 = mirOf x ns nk ng M := ⟨_, rfl⟩
      rw [← hm2]
      have HM2 := Lib.hid hm2
      clear hm2
      rintro e w6 ⟨rv2, rfl, ps2, hr2, hpm2, hE6⟩
      obtain ⟨ar2, cr2, rfl⟩ := hr2.shape
      have p5 : BoxAt w5 w4.heap.size (pa3 (mirK m1) 0 (.slice ar1 n1 cr1)) 39 := c5
      have p6 := p5.ext hE6
      have ds6 := ds5.ext' hE6
      have r6 := r5.ext hE6
      have rr6 := (hr1.ext hX5).ext hE6
      have hlt4 : wr.heap.size < w4.heap.size := r4.lt
      clear z0 z1 z2 z3 z4 z5 z6 q2 q3 d5 c5 g5 ds4 r4 r5 ds5 p5 hr1
      obtain ⟨n2, hn2⟩ : ∃ n2, n2 = ps2.length := ⟨_, rfl⟩
      rw [← hn2] at hr2 ⊢
      have HN2 := Lib.hid hn2
      clear hn2
      have HSTEP : Hid (deltaRs x ns ok og nk ng (pso.map (·.1)) ((psn.map (·.1)).take (k + 1)) = deltaRs x ns ok og nk ng (pso.map (·.1)) ((psn.map (·.1)).take k) ++ stepD x ng M m1 m2) := by
        show _ = _
        rw [HSN.out, deltaRs_snoc, ← HR.out, ← HM1.out, ← HM2.out]
      cases m1 with
      | none =>
        cases m2 with
        | none =>
          go_wp2_with (((guard_target =~ wpList _ _ _ (Oper.mk none (Op.store _ (Operand.tmp 17) (Operand.tmp 48)) _ _ _ _ :: _) _ _); go_must (refine storeBox rfl 39 (.tmp 17) (.tmp 48) rfl (w6.heap.size) _ _ _ (by rfl) (by rfl) ((BoxAt.made w6 (pa3 ⟨#[]⟩ 0 (.slice none 0 0)) 39)) (by kernel_rfl) (by rfl) (by simp [Value.oneCell']) ?_); intro w7 c7 g7); have hX7 : Ext w6 w7 := ((Ext.refl w6).alloc _).grown g7 (fun q hq => by cases hq; omega); have ds7 := ds6.ext' hX7; have p7 := (p6.ext hX7).pa; have r7 := (r6.ext hX7).ro; have l7 : w7.cell? ⟨w.heap.size + 1 + 1 + 1 + 1, 0, none⟩ = some (.slice al L.length cl) := ds7.lbox.cell 0)
          go_roundw
          case rel =>
            refine ⟨k + 1, _, _, hlt, rfl, ds7, by omega, ?_⟩
            show _ = _
            rw [HSTEP.out, HD.out]
            simp [stepD, outP]
          case measure => simp [intOf]; omega
        | some q =>
          go_wp2_with (first | (((guard_target =~ wpList _ _ _ (Oper.mk none (Op.store _ (Operand.tmp 17) (Operand.tmp 48)) _ _ _ _ :: _) _ _); go_must (refine storeBox rfl 39 (.tmp 17) (.tmp 48) rfl (w6.heap.size) _ _ _ (by rfl) (by rfl) ((BoxAt.made w6 (pa3 ⟨#[]⟩ 0 (.slice none 0 0)) 39)) (by kernel_rfl) (by rfl) (by simp [Value.oneCell']) ?_); intro w7 c7 g7); have hX7 : Ext w6 w7 := ((Ext.refl w6).alloc _).grown g7 (fun q hq => by cases hq; omega); have ds7 := ds6.ext' hX7; have p7 := (p6.ext hX7).pa; have r7 := (r6.ext hX7).ro; have l7 : w7.cell? ⟨w.heap.size + 1 + 1 + 1 + 1, 0, none⟩ = some (.slice al L.length cl) := ds7.lbox.cell 0; have m7 := c7.pa (k := mirK (some q)) (g := 0) (u := .slice ar2 n2 cr2)) | (at_builtin; go_must (refine appR info_Part und_Parts rfl (by decide) w7 rfl (.tmp 76) (.tmp 78) rfl (w.heap.size + 5) ds7.size (.slice al L.length cl) L.length (paCells L) ds7.own rfl 1 (pa3 (mirK (some q)) 0 (.slice ar2 n2 cr2)) rfl rfl (by simp [pa3, Value.oneCell']) (by unfold maxLen; omega) (by omega) ?_); intro v20 w20 hown20 hg20; obtain ⟨a20, c20, rfl⟩ := own_shape hown20; have ds20 := ds7.ext' ((Ext.refl w7).alloc (.cells (pa3 (mirK (some q)) 0 (.slice ar2 n2 cr2)) 39)); have hl20 := ds20.lbox.grown hg20 (fun e => by have := (ds20.own.lt _ e.symm).1; omega); have l20 : w20.cell? ⟨w.heap.size + 1 + 1 + 1 + 1, 0, none⟩ = some (.slice al L.length cl) := hl20.cell 0; have f20 := hl20.free 0))
          go_roundw
          case rel =>
            refine ⟨k + 1, _, _, hlt, rfl, (DS.app (P := ⟨mirK (some q), 0, .slice ar2 n2 cr2, ps2⟩) ds20 hg20 (by rw [paCells_append]; exact hown20) ((hr2.ext hX7).ext ((Ext.refl _).alloc _))), by simp; omega, ?_⟩
            show _ = _
            rw [HSTEP.out, List.map_append, HD.out]
            simp [stepD, outP, Pa.data, hpm2, mirR, mirK]
          case measure => simp [intOf]; omega
      | some p =>
        cases m2 with
        | none =>
          obtain ⟨vm, bm, rfl, rfl, rfl⟩ := rr6.single hpm1
          go_wp2_with (((guard_target =~ wpList _ _ _ (Oper.mk none (Op.store _ (Operand.tmp 17) (Operand.tmp 48)) _ _ _ _ :: _) _ _); go_must (refine storeBox rfl 39 (.tmp 17) (.tmp 48) rfl (w6.heap.size) _ _ _ (by rfl) (by rfl) ((BoxAt.made w6 (pa3 ⟨#[]⟩ 0 (.slice none 0 0)) 39)) (by kernel_rfl) (by rfl) (by simp [Value.oneCell']) ?_); intro w7 c7 g7); have hX7 : Ext w6 w7 := ((Ext.refl w6).alloc _).grown g7 (fun q hq => by cases hq; omega); have ds7 := ds6.ext' hX7; have p7 := (p6.ext hX7).pa; have r7 := (r6.ext hX7).ro; have l7 : w7.cell? ⟨w.heap.size + 1 + 1 + 1 + 1, 0, none⟩ = some (.slice al L.length cl) := ds7.lbox.cell 0)
          have rr7 := rr6.ext hX7
          refine (leave_any (w.heap.size + 1 + 1 + 1 + 1) (w.heap.size + 1) (w.heap.size + 1 + 1 + 1) (w.heap.size + 5) _ L x u _ 0 p.2 vm bm cr1 M (.slice au mm cu) nk ng _ w w7 ds7.ext (by omega) ds7.size (by omega) ds7.lbox ds7.view ds7.now (by omega) ds7.own ds7.rows rr7 hcu0 (by omega)).mono ?_
          rintro e w8 ⟨⟨zz, rfl⟩, hE8, hkeep, hkeepR, vl8, rv8, ps8, hl8, hown8, hr8, hm8⟩
          obtain ⟨a8, c8, rfl⟩ := own_shape hown8
          have ds8 := DS.leave (P := ⟨mirK (some p), 0, rv8, ps8⟩) ds7 hE8 hkeep hkeepR hl8 hown8 hr8
          clear p7 r7 l7
          go_wp2_with fail
          go_roundw
          case rel =>
            refine ⟨k + 1, _, _, hlt, rfl, ds8, by simp; omega, ?_⟩
            show _ = _
            rw [HSTEP.out, List.map_append, HD.out]
            simp [stepD, outP, Pa.data, hm8, mirK]
          case measure => simp [intOf]; omega
        | some q =>
          by_cases hpk : p.1 = q.1
          · by_cases hpq : p = q
            · obtain ⟨vm, bm, rfl, rfl, rfl⟩ := rr6.single hpm1
              subst hpq
              clear hpk
              go_wp2_with (((guard_target =~ wpList _ _ _ (Oper.mk none (Op.store _ (Operand.tmp 17) (Operand.tmp 48)) _ _ _ _ :: _) _ _); go_must (refine storeBox rfl 39 (.tmp 17) (.tmp 48) rfl (w6.heap.size) _ _ _ (by rfl) (by rfl) ((BoxAt.made w6 (pa3 ⟨#[]⟩ 0 (.slice none 0 0)) 39)) (by kernel_rfl) (by rfl) (by simp [Value.oneCell']) ?_); intro w7 c7 g7); have hX7 : Ext w6 w7 := ((Ext.refl w6).alloc _).grown g7 (fun q hq => by cases hq; omega); have ds7 := ds6.ext' hX7; have p7 := (p6.ext hX7).pa; have r7 := (r6.ext hX7).ro; have l7 : w7.cell? ⟨w.heap.size + 1 + 1 + 1 + 1, 0, none⟩ = some (.slice al L.length cl) := ds7.lbox.cell 0; have m7 := c7.pa (k := mirK (some p)) (g := 0) (u := .slice ar2 n2 cr2))
              refine (partSame_any (mirK (some p)) (mirK (some p)) 0 0 _ _ [(p.2, vm)] ps2 w7 (rr6.ext hX7).rows (hr2.ext hX7).rows).mono ?_
              rw [hpm2, show ([(p.2, vm)] : List (Ro × Value)).map (·.1) = [p.2] from rfl]
              rw [eqB_true (show (mirK (some p), (0 : Int), [p.2]) = (mirK (some p), 0, mirR (some p)) from rfl)]
              rintro e w8 ⟨rfl, hE8⟩
              have ds8 := ds7.ext' hE8
              clear p7 r7 l7 m7
              go_wp2_with fail
              go_roundw
              case rel =>
                refine ⟨k + 1, _, _, hlt, rfl, ds8, by omega, ?_⟩
                show _ = _
                rw [HSTEP.out, HD.out]
                simp [stepD, outP, eqB_true]
              case measure => simp [intOf]; omega
            · obtain ⟨vm, bm, rfl, rfl, rfl⟩ := rr6.single hpm1
              have hkb : ((mirK (some p)).toList == (mirK (some q)).toList) = true := by simpa [mirK] using congrArg ByteArray.toList hpk
              go_wp2_with (((guard_target =~ wpList _ _ _ (Oper.mk none (Op.store _ (Operand.tmp 17) (Operand.tmp 48)) _ _ _ _ :: _) _ _); go_must (refine storeBox rfl 39 (.tmp 17) (.tmp 48) rfl (w6.heap.size) _ _ _ (by rfl) (by rfl) ((BoxAt.made w6 (pa3 ⟨#[]⟩ 0 (.slice none 0 0)) 39)) (by kernel_rfl) (by rfl) (by simp [Value.oneCell']) ?_); intro w7 c7 g7); have hX7 : Ext w6 w7 := ((Ext.refl w6).alloc _).grown g7 (fun q hq => by cases hq; omega); have ds7 := ds6.ext' hX7; have p7 := (p6.ext hX7).pa; have r7 := (r6.ext hX7).ro; have l7 : w7.cell? ⟨w.heap.size + 1 + 1 + 1 + 1, 0, none⟩ = some (.slice al L.length cl) := ds7.lbox.cell 0; have m7 := c7.pa (k := mirK (some q)) (g := 0) (u := .slice ar2 n2 cr2))
              refine (partSame_any (mirK (some p)) (mirK (some q)) 0 0 _ _ [(p.2, vm)] ps2 w7 (rr6.ext hX7).rows (hr2.ext hX7).rows).mono ?_
              rw [hpm2, show ([(p.2, vm)] : List (Ro × Value)).map (·.1) = [p.2] from rfl]
              rw [eqB_false (show (mirK (some p), (0 : Int), [p.2]) ≠ (mirK (some q), 0, mirR (some q)) from fun e => hpq (by
                have e1 : p.1 = q.1 := (Prod.mk.inj e).1
                have e2 : [p.2] = [q.2] := (Prod.mk.inj (Prod.mk.inj e).2).2
                exact Prod.ext e1 (by simpa using e2)))]
              rintro e w8 ⟨rfl, hE8⟩
              have ds8 := ds7.ext' hE8
              have l8 : w8.cell? ⟨w.heap.size + 1 + 1 + 1 + 1, 0, none⟩ = some (.slice al L.length cl) := ds8.lbox.cell 0
              have m8 := (c7.ext hE8).pa (k := mirK (some q)) (g := 0) (u := .slice ar2 n2 cr2)
              clear p7 r7 l7 m7
              go_wp2_with (at_builtin; go_must (refine appR info_Part und_Parts rfl (by decide) w8 rfl (.tmp 76) (.tmp 78) rfl (w.heap.size + 5) ds8.size (.slice al L.length cl) L.length (paCells L) ds8.own rfl 1 (pa3 (mirK (some q)) 0 (.slice ar2 n2 cr2)) rfl rfl (by simp [pa3, Value.oneCell']) (by unfold maxLen; omega) (by omega) ?_); intro v20 w20 hown20 hg20; obtain ⟨a20, c20, rfl⟩ := own_shape hown20; have ds20 := ds8.ext' ((Ext.refl w8).alloc (.cells (pa3 (mirK (some q)) 0 (.slice ar2 n2 cr2)) 39)); have hl20 := ds20.lbox.grown hg20 (fun e => by have := (ds20.own.lt _ e.symm).1; omega); have l20 : w20.cell? ⟨w.heap.size + 1 + 1 + 1 + 1, 0, none⟩ = some (.slice al L.length cl) := hl20.cell 0; have f20 := hl20.free 0)
              go_roundw
              case rel =>
                refine ⟨k + 1, _, _, hlt, rfl, (DS.app (P := ⟨mirK (some q), 0, .slice ar2 n2 cr2, ps2⟩) ds20 hg20 (by rw [paCells_append]; exact hown20) ((hr2.ext (hX7.trans hE8)).ext ((Ext.refl _).alloc _))), by simp; omega, ?_⟩
                show _ = _
                rw [HSTEP.out, List.map_append, HD.out]
                simp [stepD, outP, Pa.data, hpm2, mirR, mirK, eqB_true hpk, eqB_false hpq]
              case measure => simp [intOf]; omega
          · obtain ⟨vm, bm, rfl, rfl, rfl⟩ := rr6.single hpm1
            have hkb : ((mirK (some p)).toList == (mirK (some q)).toList) = false := by simp [mirK]; exact fun e => hpk (bytes_ext e)
            go_wp2_with (((guard_target =~ wpList _ _ _ (Oper.mk none (Op.store _ (Operand.tmp 17) (Operand.tmp 48)) _ _ _ _ :: _) _ _); go_must (refine storeBox rfl 39 (.tmp 17) (.tmp 48) rfl (w6.heap.size) _ _ _ (by rfl) (by rfl) ((BoxAt.made w6 (pa3 ⟨#[]⟩ 0 (.slice none 0 0)) 39)) (by kernel_rfl) (by rfl) (by simp [Value.oneCell']) ?_); intro w7 c7 g7); have hX7 : Ext w6 w7 := ((Ext.refl w6).alloc _).grown g7 (fun q hq => by cases hq; omega); have ds7 := ds6.ext' hX7; have p7 := (p6.ext hX7).pa; have r7 := (r6.ext hX7).ro; have l7 : w7.cell? ⟨w.heap.size + 1 + 1 + 1 + 1, 0, none⟩ = some (.slice al L.length cl) := ds7.lbox.cell 0; have m7 := c7.pa (k := mirK (some q)) (g := 0) (u := .slice ar2 n2 cr2))
            have rr7 := rr6.ext hX7
            refine (leave_any (w.heap.size + 1 + 1 + 1 + 1) (w.heap.size + 1) (w.heap.size + 1 + 1 + 1) (w.heap.size + 5) _ L x u _ 0 p.2 vm bm cr1 M (.slice au mm cu) nk ng _ w w7 ds7.ext (by omega) ds7.size (by omega) ds7.lbox ds7.view ds7.now (by omega) ds7.own ds7.rows rr7 hcu0 (by omega)).mono ?_
            rintro e w8 ⟨⟨zz, rfl⟩, hE8, hkeep, hkeepR, vl8, rv8, ps8, hl8, hown8, hr8, hm8⟩
            obtain ⟨a8, c8, rfl⟩ := own_shape hown8
            have ds8 := DS.leave (P := ⟨mirK (some p), 0, rv8, ps8⟩) ds7 hE8 hkeep hkeepR hl8 hown8 hr8
            have hq7 : BoxAt w7 w6.heap.size (pa3 (mirK (some q)) 0 (.slice ar2 n2 cr2)) 39 := c7
            have hlt6 := p6.lt
            have p8 := (hkeep _ _ _ (p6.ext hX7) (by omega) (fun e => by have := (hds.own.lt _ e.symm).2; omega))
            have q8 := (hkeep _ _ _ hq7 (by omega) (fun e => by have := (hds.own.lt _ e.symm).2; omega))
            have p8c := p8.pa
            have q8c := q8.pa
            have rr8 := hkeepR _ _ rr7
            have rq8 := hkeepR _ _ (hr2.ext hX7)
            clear p7 r7 l7 m7
            go_wp2_with fail
            refine (partSame_any (mirK (some p)) (mirK (some q)) 0 0 _ _ [(p.2, vm)] ps2 w8 (rr8).rows (rq8).rows).mono ?_
            rw [hpm2, show ([(p.2, vm)] : List (Ro × Value)).map (·.1) = [p.2] from rfl]
            rw [eqB_false (show (mirK (some p), (0 : Int), [p.2]) ≠ (mirK (some q), 0, mirR (some q)) from fun e => hpk (Prod.mk.inj e).1)]
            rintro e w9 ⟨rfl, hE9⟩
            have ds9 := ds8.ext' hE9
            have l9 : w9.cell? ⟨w.heap.size + 1 + 1 + 1 + 1, 0, none⟩ = some (.slice a8 (L.length + 1) c8) := ds9.lbox.cell 0
            have m9 := (q8.ext hE9).pa
            clear p8c q8c
            have hLL : (L ++ [(⟨mirK (some p), 0, rv8, ps8⟩ : Pa)]).length ≤ 30000 := by simp; omega
            go_wp2_with (at_builtin; go_must (refine appR info_Part und_Parts rfl (by decide) w9 rfl (.tmp 76) (.tmp 78) rfl (w.heap.size + 5) ds9.size (.slice a8 (L.length + 1) c8) (L ++ [(⟨mirK (some p), 0, rv8, ps8⟩ : Pa)]).length (paCells (L ++ [⟨mirK (some p), 0, rv8, ps8⟩])) ds9.own rfl 1 (pa3 (mirK (some q)) 0 (.slice ar2 n2 cr2)) rfl rfl (by simp [pa3, Value.oneCell']) (by unfold maxLen; have h30 := hLL; simp only [List.length_append, List.length_cons, List.length_nil] at h30 ⊢; omega) (by have h30 := hLL; simp only [List.length_append, List.length_cons, List.length_nil] at h30 ⊢; omega) ?_); intro v20 w20 hown20 hg20; simp only [List.length_append, List.length_cons, List.length_nil, Nat.zero_add] at hown20; obtain ⟨a20, c20, rfl⟩ := own_shape hown20; have ds20 := ds9.ext' ((Ext.refl w9).alloc (.cells (pa3 (mirK (some q)) 0 (.slice ar2 n2 cr2)) 39)); have hl20 := ds20.lbox.grown hg20 (fun e => by have := (ds20.own.lt _ e.symm).1; omega); have l20 : w20.cell? ⟨w.heap.size + 1 + 1 + 1 + 1, 0, none⟩ = some (.slice a8 (L.length + 1) c8) := hl20.cell 0; have f20 := hl20.free 0)
            go_roundw
            case rel =>
              refine ⟨k + 1, _, _, hlt, rfl, (DS.app (P := ⟨mirK (some q), 0, .slice ar2 n2 cr2, ps2⟩) ds20 hg20 (by rw [paCells_append, List.length_append]; exact hown20) ((rq8.ext hE9).ext ((Ext.refl _).alloc _))), by simp; omega, ?_⟩
              show _ = _
              rw [HSTEP.out, List.map_append, List.map_append, HD.out]
              simp [stepD, outP, Pa.data, hpm2, hm8, mirR, mirK, eqB_false hpk]
            case measure => simp [intOf]; omega
    · obtain rfl : k = n := by omega
      have l7 : wr.cell? ⟨w.heap.size + 1 + 1 + 1 + 1, 0, none⟩ = some (.slice al L.length cl) := hds.lbox.cell 0
      go_wp2_with fail
      go_ret
      refine ⟨_, rfl, L, ownsRow_base hds.own (by omega), hds.rows, ?_, hds.ext⟩
      rw [HD.out, List.take_of_length_le (by simp; rw [← HN.out]; exact Nat.le_refl _)]
end Go.Proofs.Yteamiiekpjoclaa
