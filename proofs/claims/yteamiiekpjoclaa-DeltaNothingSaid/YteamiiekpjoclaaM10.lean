/- slices.Clone of columns; delta.cellOf. -/
import Derived.Test.YteamiiekpjoclaaM9
import Derived.Lib.SliceRun
namespace Go.Proofs.Yteamiiekpjoclaa
open Go Go.RowKit
attribute [local go_sem] yields yUpon ro8 pa3 vw5 cl4

set_option maxRecDepth 100000 in
set_option maxHeartbeats 2000000 in
theorem clone_any (v : Value) (l : List Co) (w : World) (hin : ColsIn w v l) (hl : l.length ≤ 1000000) :
    Calls Try.prog 61 #[v] w fun e w' => ∃ v', e = .returned v' ∧ w'.ownsRow w.heap.size 58 5 v' l.length (coCells l) ∧ Ext w w' := by
  have hin0 := hin
  obtain ⟨a, c, rfl, hc, hcm, ha, _⟩ := hin
  have he := Lib.run_eql_slice_nil (P := Try.prog) w 53 58 a l.length c 0 0 und_Cols
  cases a with
  | none =>
    have hc0 := ha rfl
    obtain rfl : l = [] := List.eq_nil_of_length_eq_zero (by omega)
    subst hc0
    clear ha
    go_enter Try.func61, Try.ntmps61
    go_wp2_with fail
    simp only [List.length_nil] at he
    rw [he]
    simp only [Result.andThen]
    rw [Oper.upon_value]
    go_wp2_with fail
    go_ret
    exact ⟨_, rfl, World.ownsRow_nil _ _ _ _, Ext.refl w⟩
  | some ad =>
    have hX := (Ext.refl w).alloc (.cells #[] 58)
    have hm : (w.alloc (.cells #[] 58)).ownsRow w.heap.size 58 5 (.slice (some ⟨w.heap.size, 0, none⟩) 0 0) ([] : List Co).length (coCells []) := World.ownsRow_made w #[] 0 (Nat.le_refl _) (Nat.zero_le _) rfl
    clear ha
    go_enter Try.func61, Try.ntmps61
    go_wp2_with (at_builtin; go_must (refine appCols (w.alloc (.cells #[] 58)) rfl (.tmp 5) (.tmp 6) rfl w.heap.size hX.le _ [] hm (by rfl) _ l (hin0.ext hX) (by rfl) (by simp; omega) ?_); intro v3 w3 hown3 hg3)
    go_ret
    exact ⟨_, rfl, hown3, hX.grown hg3 (fun q hq => (hm.lt q hq).1)⟩

/-- A row's cell of a view's column as its one column, if it has one. -/
def cellL (x : Vw) (r : Ro) : List Co := if (cellOf r.cols x.on).at_ < 1 then [] else [⟨x.on, cellOf r.cols x.on⟩]
set_option maxRecDepth 100000 in
set_option maxHeartbeats 2000000 in
theorem cellOf_any (x : Vw) (u : Value) (r : Ro) (v : Value) (w : World) (hin : ColsIn w v r.cols) :
    Calls Try.prog 79 #[.agg #[.string x.name, .int .i64 x.id, .string x.table, .string x.on, u], (.agg #[.string r.key, .string r.live.val, .bool r.live.dead, .int .i64 r.live.at_, .int .i64 r.live.fin, .int .i64 r.gone, .int .i64 r.shade, v])] w fun e w' => ∃ a c, e = .returned (.slice a (cellL x r).length c) ∧ ColsT w' (.slice a (cellL x r).length c) (cellL x r) ∧ Ext w w' := by
  obtain ⟨a0, a1, hE⟩ := boxes2 w (vw5 x u) (ro8 r v) 31 55
  have hin' := hin.ext hE
  obtain ⟨c, hc⟩ : ∃ c, c = cellOf r.cols x.on := ⟨_, rfl⟩
  have hL : cellL x r = if c.at_ < 1 then [] else [⟨x.on, c⟩] := by rw [hc]; rfl
  have Hc := Lib.hid hc
  have HL := Lib.hid hL
  clear hc hL
  go_enter Try.func79, Try.ntmps79
  go_wp2_with fail
  refine (rcell_any r v x.on _ hin').mono ?_
  rw [← Hc.out]
  rintro e w1 ⟨rfl, hE1⟩
  have y := (a0.ext hE1).allocs
  have hX := (hE.trans hE1).alloc (.cells (cl4 c) 52)
  clear a0 a1 hE hE1 hin hin'
  cases d : decide (c.at_ < 1)
  · have e1 : cellL x r = [⟨x.on, c⟩] := by rw [HL.out, if_neg (by simpa using d)]
    have HE := Lib.hid e1
    clear e1
    go_wp2_with fail
    go_ret
    rw [HE.out]
    refine ⟨_, _, rfl, ?_, hX.alloc _⟩
    exact TIn.box (xs := coCells [⟨x.on, c⟩]) (BoxAt.madeN (co5 ⟨x.on, c⟩) 58 (by simp)) (by unfold maxLen; show 1 ≤ 2 ^ 63 - 1; decide)
  · have e1 : cellL x r = [] := by rw [HL.out, if_pos (by simpa using d)]
    have HE := Lib.hid e1
    clear e1
    go_wp2_with fail
    go_ret
    rw [HE.out]
    exact ⟨_, _, rfl, ColsT.nil _, hX⟩
end Go.Proofs.Yteamiiekpjoclaa

/- delta.left. -/
namespace Go.Proofs.Yteamiiekpjoclaa
open Go Go.RowKit
attribute [local go_sem] yields yUpon ro8 pa3 vw5

/-- What a view's row is that a base's row left. -/
def leftRo (x : Vw) (m r : Ro) (g : Int) : Ro := ⟨m.key, zeroCl, max r.gone g, m.live.at_, cellL x r⟩

set_option maxRecDepth 100000 in
set_option maxHeartbeats 4000000 in
theorem left_any (x : Vw) (u : Value) (m r : Ro) (vm v : Value) (g : Int) (w : World) (hin : ColsIn w v r.cols) :
    Calls Try.prog 47 #[.agg #[.string x.name, .int .i64 x.id, .string x.table, .string x.on, u], (.agg #[.string m.key, .string m.live.val, .bool m.live.dead, .int .i64 m.live.at_, .int .i64 m.live.fin, .int .i64 m.gone, .int .i64 m.shade, vm]), (.agg #[.string r.key, .string r.live.val, .bool r.live.dead, .int .i64 r.live.at_, .int .i64 r.live.fin, .int .i64 r.gone, .int .i64 r.shade, v]), .int .i64 g] w fun e w' => ∃ v', e = .returned (.agg #[.string (leftRo x m r g).key, .string (leftRo x m r g).live.val, .bool (leftRo x m r g).live.dead, .int .i64 (leftRo x m r g).live.at_, .int .i64 (leftRo x m r g).live.fin, .int .i64 (leftRo x m r g).gone, .int .i64 (leftRo x m r g).shade, v']) ∧ ColsT w' v' (leftRo x m r g).cols ∧ Ext w w' := by
  obtain ⟨a0, a1, a2, a3, hE⟩ := boxes4 w (vw5 x u) (ro8 m vm) (ro8 r v) (ro8 ⟨⟨#[]⟩, zeroCl, 0, 0, []⟩ (.slice none 0 0)) 31 55 55 55
  have hin' := hin.ext hE
  obtain ⟨G, hG⟩ : ∃ G, G = max r.gone g := ⟨_, rfl⟩
  obtain ⟨L, hL⟩ : ∃ L, L = cellL x r := ⟨_, rfl⟩
  unfold leftRo
  rw [← hG, ← hL]
  have HG := Lib.hid hG
  have HL := Lib.hid hL
  clear hG hL hin
  go_enter Try.func47, Try.ntmps47
  go_wp2_with fail
  refine wp_region_in 12 [(7, fun v _ => v = .int .i64 G), (10, fun v y => ∃ a c, v = .slice a L.length c ∧ ColsT y (.slice a L.length c) L)] (fun w0 => BoxAt w0 w.heap.size (vw5 x u) 31 ∧ BoxAt w0 (w.heap.size + 1) (ro8 m vm) 55 ∧ BoxAt w0 (w.heap.size + 1 + 1) (ro8 r v) 55 ∧ BoxAt w0 (w.heap.size + 1 + 1 + 1) (ro8 ⟨⟨#[]⟩, zeroCl, 0, 0, []⟩ (.slice none 0 0)) 55 ∧ ColsIn w0 v r.cols ∧ Ext w w0) (by kernel_rfl) (by kernel_rfl) (by kernel_rfl) ⟨stays_eq _, fun _ _ _ hE ⟨a, c, e, h⟩ => ⟨a, c, e, h.ext hE⟩, trivial⟩ ⟨a0, a1, a2, a3, hin', hE⟩ ?_
  clear a0 a1 a2 a3 hE hin'
  rintro w2 ⟨c0, c1, c2, c3, hin, hE⟩
  have FIN : Hid (∀ wx, Ext w2 wx → BoxAt wx (w.heap.size + 1 + 1 + 1) (ro8 ⟨⟨#[]⟩, zeroCl, 0, 0, []⟩ (.slice none 0 0)) 55 ∧ Ext w wx) := fun wx h => ⟨c3.ext h, hE.trans h⟩
  obtain ⟨x0, x1, x2, x3, x4⟩ := c0.vw
  obtain ⟨y0, y1, y2, y3, y4, y5, y6, y7⟩ := c1.ro
  obtain ⟨t0, t1, t2, t3, t4, t5, t6, t7⟩ := c2.ro
  clear c0 c1 c2 c3 hE y1 y2 y4 y5 y6 y7
  replace x0 := held x0
  replace x1 := held x1
  replace x2 := held x2
  replace x3 := held x3
  replace x4 := held x4
  replace y0 := held y0
  replace y3 := held y3
  replace t0 := held t0
  replace t1 := held t1
  replace t2 := held t2
  replace t3 := held t3
  replace t4 := held t4
  replace t5 := held t5
  replace t6 := held t6
  replace t7 := held t7
  refine rg_quiet rfl rfl rfl rfl ?_; intro K hK; go_big_quiet_op; go_big_quiet_on
  refine rg_quiet rfl rfl rfl rfl ?_; intro K hK; go_big_quiet_op; go_big_quiet_on
  refine rg_quiet rfl rfl rfl rfl ?_; intro K hK; go_big_quiet_op; go_big_quiet_on
  refine rg_quiet rfl rfl rfl rfl ?_; intro K hK; go_big_quiet_op; go_big_quiet_on
  refine rg_quiet rfl rfl rfl rfl ?_; intro K hK; go_big_quiet_op; go_big_quiet_on
  refine rg_quiet rfl rfl rfl rfl ?_; intro K hK; go_big_quiet_op; go_big_quiet_on
  refine rg_quiet rfl rfl rfl rfl ?_; intro K hK; go_big_quiet_op; go_big_quiet_on
  refine rg_val [] rfl rfl rfl (by kernel_rfl) (fun w1 hE hf => ?_) ?_
  · go_simp
    exact (rgone_any r v g w1).mono fun e w' ⟨he, hw⟩ => ⟨_, he, rg_done hE hw (by rw [HG.out])⟩
  simp only [Act.put, List.setIfInBounds_toArray, List.set_cons_zero, List.set_cons_succ]
  refine rg_quiet rfl rfl rfl rfl ?_; intro K hK; go_big_quiet_op; go_big_quiet_on
  refine rg_quiet rfl rfl rfl rfl ?_; intro K hK; go_big_quiet_op; go_big_quiet_on
  refine rg_fact [] rfl rfl rfl (by kernel_rfl) (fun w1 hE hf => ?_) (fun v10 w1 hE hG h10 => ?_)
  · go_simp
    refine (cellOf_any x u r v w1 (hin.ext hE)).mono ?_
    rw [← HL.out]
    rintro e w3 ⟨a, c, he, hc, hE3⟩
    exact ⟨_, he, rg_doneR hE hE3 ⟨a, c, rfl, hc⟩⟩
  obtain ⟨a10, c10, rfl, h10⟩ := h10
  simp only [Act.put, List.setIfInBounds_toArray, List.set_cons_zero, List.set_cons_succ]
  clear hE hG h10 w1
  refine rg_quiet rfl rfl rfl rfl ?_; intro K hK; go_big_quiet_op; go_big_quiet_on
  refine rel_tail rfl rfl fun w5 hE5 hG => ?_
  obtain ⟨aa, cc, e10, hcols⟩ := (hG 10).2 rfl
  cases e10
  obtain ⟨c3, hE⟩ := FIN.out w5 hE5
  clear x0 x1 x2 x3 x4 y0 y3 t0 t1 t2 t3 t4 t5 t6 t7 hE5 hG FIN
  go_wp2_with ((guard_target =~ wpList _ _ _ (Oper.mk none (Op.store _ (Operand.tmp 8) (Operand.tmp 20)) _ _ _ _ :: _) _ _); go_must (refine storeBox rfl 55 (.tmp 8) (.tmp 20) rfl (w.heap.size + 1 + 1 + 1) _ _ _ (by rfl) (by rfl) (c3) (by kernel_rfl) (by rfl) (by simp [Value.oneCell']) ?_); intro w6 c6 g6)
  have hX6 := hE.grown g6 (fun q hq => by cases hq; omega)
  have hC6 := hcols.keep g6 c3 (by decide)
  clear hE g6 c3
  obtain ⟨z0, z1, z2, z3, z4, z5, z6, z7⟩ := c6.ro (r := ⟨m.key, zeroCl, G, m.live.at_, L⟩) (v := .slice a10 L.length c10)
  refine bodyPost_ret (v := .agg #[.string m.key, .string ⟨#[]⟩, .bool false, .int .i64 0, .int .i64 0, .int .i64 G, .int .i64 m.live.at_, .slice a10 L.length c10]) ?_ rfl ⟨_, rfl, hC6, hX6⟩
  simp [results, Try.results47, go_sem, Act.put, z0, z1, z2, z3, z4, z5, z6, z7, zeroCl]
end Go.Proofs.Yteamiiekpjoclaa

/- Lists of partitions in memory, in blocks of their own type. -/
namespace Go.Proofs.Yteamiiekpjoclaa
open Go Go.RowKit

/-- A partition with the value of its rows. -/
structure Pa where
  key : ByteArray
  gone : Int
  rv : Value
  ps : List (Ro × Value)
/-- What it is, whatever its memory. -/
def Pa.data (p : Pa) : ByteArray × Int × List Ro := (p.key, p.gone, p.ps.map (·.1))
theorem info_Part : (Try.prog.info? 39).map (fun i => (i.zero, i.size, i.bytes)) = some (some (.agg #[.string ⟨#[]⟩, .int .i64 0, .slice none 0 0]), 3, 48) := by kernel_rfl
theorem und_Parts : Try.prog.underlying 35 = some (.slice 39) := by kernel_rfl
def paCells : List Pa → List Value
  | [] => []
  | p :: l => .string p.key :: .int .i64 p.gone :: p.rv :: paCells l
theorem paCells_length (l : List Pa) : (paCells l).length = l.length * 3 := by
  induction l with
  | nil => rfl
  | cons c l ih => simp [paCells, ih]; omega
theorem paCells_append (l m : List Pa) : paCells (l ++ m) = paCells l ++ paCells m := by
  induction l with
  | nil => rfl
  | cons c l ih => simp [paCells, ih]
theorem paCells_get : ∀ (l : List Pa) (k : Nat) (h : k < l.length), (paCells l)[k * 3]? = some (.string l[k].key) ∧ (paCells l)[k * 3 + 1]? = some (.int .i64 l[k].gone) ∧ (paCells l)[k * 3 + 2]? = some l[k].rv
  | c :: l, 0, _ => by simp [paCells]
  | c :: l, k + 1, h => by
    have ih := paCells_get l k (by simpa using h)
    have e : (k + 1) * 3 = k * 3 + 3 := by omega
    simp only [e, paCells, List.getElem_cons_succ]
    simpa using ih
structure PartsT (x : World) (v : Value) (L : List Pa) : Prop where
  tin : TIn x 39 v L.length (paCells L)
  rows : ∀ p ∈ L, RowsT x p.rv p.ps
theorem PartsT.ext {x y : World} (hE : Ext x y) {v : Value} {L : List Pa} (h : PartsT x v L) : PartsT y v L := ⟨h.tin.ext hE, fun p hp => (h.rows p hp).ext hE⟩
/-- A partition at a place in memory. -/
structure PaAt (w : World) (b o : Nat) (p : Pa) : Prop where
  c0 : w.cell? ⟨b, o, none⟩ = some (.string p.key)
  c1 : w.cell? ⟨b, o + 1, none⟩ = some (.int .i64 p.gone)
  c2 : w.cell? ⟨b, o + 2, none⟩ = some p.rv
theorem PaAt.ext {w w' : World} (hE : Ext w w') {b o : Nat} {p : Pa} (h : PaAt w b o p) : PaAt w' b o p := ⟨hE.cell h.c0, hE.cell h.c1, hE.cell h.c2⟩
theorem PartsT.get {w : World} {v : Value} {L : List Pa} (h : PartsT w v L) : ∃ a c, v = .slice a L.length c ∧ L.length ≤ c ∧ c ≤ 9223372036854775807 ∧ ∀ k (hk : k < L.length), ∃ b, a = some ⟨b, 0, none⟩ ∧ PaAt w b (k * 3) L[k] := by
  rcases h.tin with ⟨rfl, hn, _⟩ | ⟨b, c, Z, rfl, hb, hn, hc, hx⟩
  · exact ⟨none, 0, by rw [hn], by omega, by omega, fun k hk => by omega⟩
  · unfold maxLen at hc
    refine ⟨_, c, rfl, hn, by omega, fun k hk => ⟨b, rfl, ?_⟩⟩
    obtain ⟨g0, g1, g2⟩ := paCells_get L k hk
    exact ⟨(hb.cell _).trans (hx _ _ g0), (hb.cell _).trans (hx _ _ g1), (hb.cell _).trans (hx _ _ g2)⟩

/-- Operation n appends to a list of partitions of one's own; the others let memory grow. -/
def PE (vl : Value) (B n j : Nat) (x y : World) : Prop := if j = n then (∃ m xs, x.ownsRow B 39 3 vl m xs) ∧ x.grownBy y vl.ownBlock else Ext x y
theorem PE_ext {vl : Value} {B n j : Nat} {x y : World} (hj : j ≠ n) (h : Ext x y) : PE vl B n j x y := by unfold PE; rw [if_neg hj]; exact h
theorem PE_off {vl : Value} {B n j : Nat} {x y : World} (hj : j ≠ n) (h : PE vl B n j x y) : Ext x y := by unfold PE at h; rwa [if_neg hj] at h
theorem PE_tin {vl : Value} {B n j : Nat} {x y : World} (h : PE vl B n j x y) {e : TypeId} (he : e ≠ 39) {v : Value} {m : Nat} {xs : List Value} (ht : TIn x e v m xs) : TIn y e v m xs := by
  unfold PE at h
  split at h
  · obtain ⟨⟨m, xs, hown⟩, hg⟩ := h
    exact ht.keepOwn hown hg he
  · exact ht.ext h
theorem PE_rows {vl : Value} {B n j : Nat} {x y : World} (h : PE vl B n j x y) {v : Value} {qs : List (Ro × Value)} (hr : RowsT x v qs) : RowsT y v qs :=
  ⟨PE_tin h (by decide) hr.tin, fun p hp => PE_tin h (by decide) (hr.typed p hp)⟩
theorem PE_box {vl : Value} {B n j : Nat} {x y : World} (h : PE vl B n j x y) {b : Nat} {cs : Array Value} {T : TypeId} (hT : T ≠ 39) (hb : BoxAt x b cs T) : BoxAt y b cs T := by
  unfold PE at h
  split at h
  · obtain ⟨⟨m, xs, hown⟩, hg⟩ := h
    refine hb.grown hg (fun e => ?_)
    rcases own_ne_box hown hb (fun e => hT e.symm) with h | h
    · rw [h] at e; cases e
    · exact h e.symm
  · exact hb.ext h
theorem PE_far {wr : World} {vl : Value} {B n j m : Nat} {xs : List Value} (hown : wr.ownsRow B 39 3 vl m xs) {x y : World} (h : PE vl B n j x y) {b : Nat} (hb : wr.heap.size ≤ b) {cs : Array Value} {e : TypeId} (hx : BoxAt x b cs e) : BoxAt y b cs e := by
  unfold PE at h
  split at h
  · exact hx.grown h.2 (fun e => by have := (hown.lt _ e.symm).2; omega)
  · exact hx.ext h
end Go.Proofs.Yteamiiekpjoclaa
