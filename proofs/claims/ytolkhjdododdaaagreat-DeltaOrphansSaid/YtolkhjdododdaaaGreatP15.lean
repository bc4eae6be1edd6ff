/- slices.Clone of columns; delta.cellOf. -/
import Derived.Test.YtolkhjdododdaaaGreatP14
import Derived.Test.YtolkhjdododdaaaGreatP10
import Derived.Test.YtolkhjdododdaaaGreatP8
import Derived.Lib.SliceRun
import Derived.Test.YtolkhjdododdaaaGreatP11
import Derived.Test.YtolkhjdododdaaaGreatP4
set_option linter.unusedSimpArgs false
set_option linter.unusedVariables false
namespace Go.Proofs.YtolkhjdododdaaaGreat
open Go Go.RowKit
attribute [local go_sem] yields yUpon ro8 pa3 vw5 cl4

/-- A row's cell of a view's column as its one column, if it has one. -/
def cellL (x : Vw) (r : Ro) : List Co := if (cellOf r.cols x.on).at_ < 1 then [] else [⟨x.on, cellOf r.cols x.on⟩]
set_option maxRecDepth 100000 in
set_option maxHeartbeats 2000000 in
theorem cellOf_any (x : Vw) (u : Value) (r : Ro) (v : Value) (w : World) (hin : ColsIn w v r.cols) :
    Calls Tryz.prog 42 #[.agg #[.string x.name, .int .i64 x.id, .string x.table, .string x.on, u], (.agg #[.string r.key, .string r.live.val, .bool r.live.dead, .int .i64 r.live.at_, .int .i64 r.live.fin, .int .i64 r.gone, .int .i64 r.shade, v])] w fun e w' => ∃ a c, e = .returned (.slice a (cellL x r).length c) ∧ ColsT w' (.slice a (cellL x r).length c) (cellL x r) ∧ Ext w w' := by
  obtain ⟨a0, a1, hE⟩ := boxes2 w (vw5 x u) (ro8 r v) 31 54
  have hin' := hin.ext hE
  obtain ⟨c, hc⟩ : ∃ c, c = cellOf r.cols x.on := ⟨_, rfl⟩
  have hL : cellL x r = if c.at_ < 1 then [] else [⟨x.on, c⟩] := by rw [hc]; rfl
  have Hc := Lib.hid hc
  have HL := Lib.hid hL
  clear hc hL
  go_enter Tryz.func42, Tryz.ntmps42
  go_wp2_with fail
  refine (rcell_any r v x.on _ hin').mono ?_
  rw [← Hc.out]
  rintro e w1 ⟨rfl, hE1⟩
  have y := (a0.ext hE1).allocs
  have hX := (hE.trans hE1).alloc (.cells (cl4 c) 51)
  clear a0 a1 hE hE1 hin hin'
  cases d : decide (c.at_ < 1)
  · have e1 : cellL x r = [⟨x.on, c⟩] := by rw [HL.out, if_neg (by simpa using d)]
    have HE := Lib.hid e1
    clear e1
    go_wp2_with fail
    go_ret
    rw [HE.out]
    refine ⟨_, _, rfl, ?_, hX.alloc _⟩
    exact TIn.box (xs := coCells [⟨x.on, c⟩]) (BoxAt.madeN (co5 ⟨x.on, c⟩) 57 (by simp)) (by unfold maxLen; show 1 ≤ 2 ^ 63 - 1; decide)
  · have e1 : cellL x r = [] := by rw [HL.out, if_pos (by simpa using d)]
    have HE := Lib.hid e1
    clear e1
    go_wp2_with fail
    go_ret
    rw [HE.out]
    exact ⟨_, _, rfl, ColsT.nil _, hX⟩
end Go.Proofs.YtolkhjdododdaaaGreat

/- delta.left. -/
namespace Go.Proofs.YtolkhjdododdaaaGreat
open Go Go.RowKit
attribute [local go_sem] yields yUpon ro8 pa3 vw5

/-- What a view's row is that a base's row left. -/
def leftRo (x : Vw) (m r : Ro) (g : Int) : Ro := ⟨m.key, zeroCl, max r.gone g, m.live.at_, cellL x r⟩

set_option maxRecDepth 100000 in
set_option maxHeartbeats 4000000 in
theorem left_any (x : Vw) (u : Value) (m r : Ro) (vm v : Value) (g : Int) (w : World) (hin : ColsIn w v r.cols) :
    Calls Tryz.prog 21 #[.agg #[.string x.name, .int .i64 x.id, .string x.table, .string x.on, u], (.agg #[.string m.key, .string m.live.val, .bool m.live.dead, .int .i64 m.live.at_, .int .i64 m.live.fin, .int .i64 m.gone, .int .i64 m.shade, vm]), (.agg #[.string r.key, .string r.live.val, .bool r.live.dead, .int .i64 r.live.at_, .int .i64 r.live.fin, .int .i64 r.gone, .int .i64 r.shade, v]), .int .i64 g] w fun e w' => ∃ v', e = .returned (.agg #[.string (leftRo x m r g).key, .string (leftRo x m r g).live.val, .bool (leftRo x m r g).live.dead, .int .i64 (leftRo x m r g).live.at_, .int .i64 (leftRo x m r g).live.fin, .int .i64 (leftRo x m r g).gone, .int .i64 (leftRo x m r g).shade, v']) ∧ ColsT w' v' (leftRo x m r g).cols ∧ Ext w w' := by
  obtain ⟨a0, a1, a2, a3, hE⟩ := boxes4 w (vw5 x u) (ro8 m vm) (ro8 r v) (ro8 ⟨⟨#[]⟩, zeroCl, 0, 0, []⟩ (.slice none 0 0)) 31 54 54 54
  have hin' := hin.ext hE
  obtain ⟨G, hG⟩ : ∃ G, G = max r.gone g := ⟨_, rfl⟩
  obtain ⟨L, hL⟩ : ∃ L, L = cellL x r := ⟨_, rfl⟩
  unfold leftRo
  rw [← hG, ← hL]
  have HG := Lib.hid hG
  have HL := Lib.hid hL
  clear hG hL hin
  go_enter Tryz.func21, Tryz.ntmps21
  go_wp2_with fail
  refine wp_region_in 12 [(7, fun v _ => v = .int .i64 G), (10, fun v y => ∃ a c, v = .slice a L.length c ∧ ColsT y (.slice a L.length c) L)] (fun w0 => BoxAt w0 w.heap.size (vw5 x u) 31 ∧ BoxAt w0 (w.heap.size + 1) (ro8 m vm) 54 ∧ BoxAt w0 (w.heap.size + 1 + 1) (ro8 r v) 54 ∧ BoxAt w0 (w.heap.size + 1 + 1 + 1) (ro8 ⟨⟨#[]⟩, zeroCl, 0, 0, []⟩ (.slice none 0 0)) 54 ∧ ColsIn w0 v r.cols ∧ Ext w w0) (by kernel_rfl) (by kernel_rfl) (by kernel_rfl) ⟨stays_eq _, fun _ _ _ hE ⟨a, c, e, h⟩ => ⟨a, c, e, h.ext hE⟩, trivial⟩ ⟨a0, a1, a2, a3, hin', hE⟩ ?_
  clear a0 a1 a2 a3 hE hin'
  rintro w2 ⟨c0, c1, c2, c3, hin, hE⟩
  have FIN : Hid (∀ wx, Ext w2 wx → BoxAt wx (w.heap.size + 1 + 1 + 1) (ro8 ⟨⟨#[]⟩, zeroCl, 0, 0, []⟩ (.slice none 0 0)) 54 ∧ Ext w wx) := fun wx h => ⟨c3.ext h, hE.trans h⟩
  obtain ⟨x0, x1, x2, x3, x4⟩ := c0.vw
  obtain ⟨y0, y1, y2, y3, y4, y5, y6, y7⟩ := c1.ro
  obtain ⟨t0, t1, t2, t3, t4, t5, t6, t7⟩ := c2.ro
  clear c0 c1 c2 c3 hE y1 y2 y4 y5 y6 y7
  replace x0 := held x0
  replace x1 := held x1
  replace x2 := held x2
  replace x3 := held x3
  replace x4 := held x4
  replace y0 := held y0
  replace y3 := held y3
  replace t0 := held t0
  replace t1 := held t1
  replace t2 := held t2
  replace t3 := held t3
  replace t4 := held t4
  replace t5 := held t5
  replace t6 := held t6
  replace t7 := held t7
  refine rg_quiet rfl rfl rfl rfl ?_; intro K hK; go_big_quiet_op; go_big_quiet_on
  refine rg_quiet rfl rfl rfl rfl ?_; intro K hK; go_big_quiet_op; go_big_quiet_on
  refine rg_quiet rfl rfl rfl rfl ?_; intro K hK; go_big_quiet_op; go_big_quiet_on
  refine rg_quiet rfl rfl rfl rfl ?_; intro K hK; go_big_quiet_op; go_big_quiet_on
  refine rg_quiet rfl rfl rfl rfl ?_; intro K hK; go_big_quiet_op; go_big_quiet_on
  refine rg_quiet rfl rfl rfl rfl ?_; intro K hK; go_big_quiet_op; go_big_quiet_on
  refine rg_quiet rfl rfl rfl rfl ?_; intro K hK; go_big_quiet_op; go_big_quiet_on
  refine rg_val [] rfl rfl rfl (by kernel_rfl) (fun w1 hE hf => ?_) ?_
  · go_simp
    exact (rgone_any r v g w1).mono fun e w' ⟨he, hw⟩ => ⟨_, he, rg_done hE hw (by rw [HG.out])⟩
  simp only [Act.put, List.setIfInBounds_toArray, List.set_cons_zero, List.set_cons_succ]
  refine rg_quiet rfl rfl rfl rfl ?_; intro K hK; go_big_quiet_op; go_big_quiet_on
  refine rg_quiet rfl rfl rfl rfl ?_; intro K hK; go_big_quiet_op; go_big_quiet_on
  refine rg_fact [] rfl rfl rfl (by kernel_rfl) (fun w1 hE hf => ?_) (fun v10 w1 hE hG h10 => ?_)
  · go_simp
    refine (cellOf_any x u r v w1 (hin.ext hE)).mono ?_
    rw [← HL.out]
    rintro e w3 ⟨a, c, he, hc, hE3⟩
    exact ⟨_, he, rg_doneR hE hE3 ⟨a, c, rfl, hc⟩⟩
  obtain ⟨a10, c10, rfl, h10⟩ := h10
  simp only [Act.put, List.setIfInBounds_toArray, List.set_cons_zero, List.set_cons_succ]
  clear hE hG h10 w1
  refine rg_quiet rfl rfl rfl rfl ?_; intro K hK; go_big_quiet_op; go_big_quiet_on
  refine rel_tail rfl rfl fun w5 hE5 hG => ?_
  obtain ⟨aa, cc, e10, hcols⟩ := (hG 10).2 rfl
  cases e10
  obtain ⟨c3, hE⟩ := FIN.out w5 hE5
  clear x0 x1 x2 x3 x4 y0 y3 t0 t1 t2 t3 t4 t5 t6 t7 hE5 hG FIN
  go_wp2_with ((guard_target =~ wpList _ _ _ (Oper.mk none (Op.store _ (Operand.tmp 8) (Operand.tmp 20)) _ _ _ _ :: _) _ _); go_must (refine storeBox rfl 54 (.tmp 8) (.tmp 20) rfl (w.heap.size + 1 + 1 + 1) _ _ _ (by rfl) (by rfl) (c3) (by kernel_rfl) (by rfl) (by simp [Value.oneCell']) ?_); intro w6 c6 g6)
  have hX6 := hE.grown g6 (fun q hq => by cases hq; omega)
  have hC6 := hcols.keep g6 c3 (by decide)
  clear hE g6 c3
  obtain ⟨z0, z1, z2, z3, z4, z5, z6, z7⟩ := c6.ro (r := ⟨m.key, zeroCl, G, m.live.at_, L⟩) (v := .slice a10 L.length c10)
  refine bodyPost_ret (v := .agg #[.string m.key, .string ⟨#[]⟩, .bool false, .int .i64 0, .int .i64 0, .int .i64 G, .int .i64 m.live.at_, .slice a10 L.length c10]) ?_ rfl ⟨_, rfl, hC6, hX6⟩
  simp [results, Tryz.results21, go_sem, Act.put, z0, z1, z2, z3, z4, z5, z6, z7, zeroCl]
end Go.Proofs.YtolkhjdododdaaaGreat

/- delta.Of's answer as plain data. -/
namespace Go.Proofs.YtolkhjdododdaaaGreat
open Go Go.RowKit

/-- What a change of a row turns in a view. -/
noncomputable def stepD (x : Vw) (ng : Int) (r : Ro) : Option (ByteArray × Ro) → Option (ByteArray × Ro) → List (ByteArray × Ro)
  | none, none => []
  | none, some q => [q]
  | some p, none => [(p.1, leftRo x p.2 r ng)]
  | some p, some q => if eqB p.1 q.1 then (if eqB p q then [] else [q]) else [(p.1, leftRo x p.2 r ng), q]
noncomputable def deltaRs (x : Vw) (ns : List ByteArray) (ok : ByteArray) (og : Int) (nk : ByteArray) (ng : Int) (old : List Ro) : List Ro → List (ByteArray × Ro)
  | [] => []
  | r :: l => stepD x ng r (mirOf x ns ok og (rowOf old r.key)) (mirOf x ns nk ng r) ++ deltaRs x ns ok og nk ng old l
theorem deltaRs_snoc (x : Vw) (ns : List ByteArray) (ok : ByteArray) (og : Int) (nk : ByteArray) (ng : Int) (old : List Ro) (l : List Ro) (r : Ro) : deltaRs x ns ok og nk ng old (l ++ [r]) = deltaRs x ns ok og nk ng old l ++ stepD x ng r (mirOf x ns ok og (rowOf old r.key)) (mirOf x ns nk ng r) := by
  induction l with
  | nil => simp [deltaRs]
  | cons a l ih => simp only [List.cons_append, deltaRs, ih, List.append_assoc]
def outP (l : List (ByteArray × Ro)) : List (ByteArray × Int × List Ro) := l.map fun p => (p.1, 0, [p.2])
theorem rowOf_is (l : List Ro) (key : ByteArray) : (rowOf l key).key = key := by
  induction l with
  | nil => rfl
  | cons r l ih =>
    unfold rowOf
    split
    · rename_i h; exact bytes_ext (by simpa using h)
    · exact ih
theorem rowOf_or (l : List Ro) (key : ByteArray) : rowOf l key ∈ l ∨ (rowOf l key).cols = [] := by
  induction l with
  | nil => exact .inr rfl
  | cons r l ih =>
    unfold rowOf
    split
    · exact .inl (List.mem_cons_self ..)
    · exact ih.imp_left (List.mem_cons_of_mem _)
end Go.Proofs.YtolkhjdododdaaaGreat

/- Cells by numbers may be; the names of columns rise. -/
namespace Go.Proofs.YtolkhjdododdaaaGreat
open Go Go.RowKit

theorem cellN_ok (n : Int) (h0 : 0 ≤ n) : checkC (cellN n).val (cellN n).dead (cellN n).at_ (cellN n).fin = true ∧ 0 < (cellN n).at_ := by
  have xs : ∀ i : Nat, i < 3 → ((⟨#[120, 121, 122]⟩ : ByteArray).extract i (i + 1)).size = 1 := by decide
  unfold cellN
  split
  · unfold checkC stampB
    have h1 : ¬ 1 + n % 7 = 0 := by omega
    simp [h1]
    omega
  · have e1 : (n / 28 % 3 + 1).toNat = (n / 28 % 3).toNat + 1 := by omega
    have e2 := xs (n / 28 % 3).toNat (by omega)
    rw [← e1] at e2
    have h1 : ¬ 1 + n % 7 = 0 := by omega
    unfold checkC stampB
    simp [h1, e2]
    split <;> omega
theorem nm_less (j k : Nat) (h : j < k) (hk : k < 4) : Op.bytesLess (nmK j).toList (nmK k).toList = true := by
  obtain ⟨rfl, rfl⟩ | ⟨rfl, rfl⟩ | ⟨rfl, rfl⟩ | ⟨rfl, rfl⟩ | ⟨rfl, rfl⟩ | ⟨rfl, rfl⟩ : (j = 0 ∧ k = 1) ∨ (j = 0 ∧ k = 2) ∨ (j = 0 ∧ k = 3) ∨ (j = 1 ∧ k = 2) ∨ (j = 1 ∧ k = 3) ∨ (j = 2 ∧ k = 3) := by omega
  all_goals (simp only [nmK, ByteArray.toList_eq]; decide)
end Go.Proofs.YtolkhjdododdaaaGreat
