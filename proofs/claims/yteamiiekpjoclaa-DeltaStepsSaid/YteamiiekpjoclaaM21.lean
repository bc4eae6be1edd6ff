/- delta.left. -/
import Derived.Test.YteamiiekpjoclaaM20
import Derived.Test.YteamiiekpjoclaaM13
import Derived.Test.YteamiiekpjoclaaM12
import Derived.Test.YteamiiekpjoclaaM3
import Derived.Test.YteamiiekpjoclaaM9
namespace Go.Proofs.Yteamiiekpjoclaa
open Go Go.RowKit
attribute [local go_sem] yields yUpon ro8 pa3 vw5

/-- What a view's row is that a base's row left. -/
def leftRo (x : Vw) (m r : Ro) (g : Int) : Ro := ⟨m.key, zeroCl, max r.gone g, m.live.at_, cellL x r⟩

set_option maxRecDepth 100000 in
set_option maxHeartbeats 4000000 in
theorem left_any (x : Vw) (u : Value) (m r : Ro) (vm v : Value) (g : Int) (w : World) (hin : ColsIn w v r.cols) :
    Calls Try.prog 47 #[.agg #[.string x.name, .int .i64 x.id, .string x.table, .string x.on, u], (.agg #[.string m.key, .string m.live.val, .bool m.live.dead, .int .i64 m.live.at_, .int .i64 m.live.fin, .int .i64 m.gone, .int .i64 m.shade, vm]), (.agg #[.string r.key, .string r.live.val, .bool r.live.dead, .int .i64 r.live.at_, .int .i64 r.live.fin, .int .i64 r.gone, .int .i64 r.shade, v]), .int .i64 g] w fun e w' => ∃ v', e = .returned (.agg #[.string (leftRo x m r g).key, .string (leftRo x m r g).live.val, .bool (leftRo x m r g).live.dead, .int .i64 (leftRo x m r g).live.at_, .int .i64 (leftRo x m r g).live.fin, .int .i64 (leftRo x m r g).gone, .int .i64 (leftRo x m r g).shade, v']) ∧ ColsT w' v' (leftRo x m r g).cols ∧ Ext w w' := by
  obtain ⟨a0, a1, a2, a3, hE⟩ := boxes4 w (vw5 x u) (ro8 m vm) (ro8 r v) (ro8 ⟨⟨#[]⟩, zeroCl, 0, 0, []⟩ (.slice none 0 0)) 31 55 55 55
  have hin' := hin.ext hE
  obtain ⟨G, hG⟩ : ∃ G, G = max r.gone g := ⟨_, rfl⟩
  obtain ⟨L, hL⟩ : ∃ L, L = cellL x r := ⟨_, rfl⟩
  unfold leftRo
  rw [← hG, ← hL]
  have HG := Lib.hid hG
  have HL := Lib.hid hL
  clear hG hL hin
  go_enter Try.func47, Try.ntmps47
  go_wp2_with fail
  refine wp_region_in 12 [(7, fun v _ => v = .int .i64 G), (10, fun v y => ∃ a c, v = .slice a L.length c ∧ ColsT y (.slice a L.length c) L)] (fun w0 => BoxAt w0 w.heap.size (vw5 x u) 31 ∧ BoxAt w0 (w.heap.size + 1) (ro8 m vm) 55 ∧ BoxAt w0 (w.heap.size + 1 + 1) (ro8 r v) 55 ∧ BoxAt w0 (w.heap.size + 1 + 1 + 1) (ro8 ⟨⟨#[]⟩, zeroCl, 0, 0, []⟩ (.slice none 0 0)) 55 ∧ ColsIn w0 v r.cols ∧ Ext w w0) (by kernel_rfl) (by kernel_rfl) (by kernel_rfl) ⟨stays_eq _, fun _ _ _ hE ⟨a, c, e, h⟩ => ⟨a, c, e, h.ext hE⟩, trivial⟩ ⟨a0, a1, a2, a3, hin', hE⟩ ?_
  clear a0 a1 a2 a3 hE hin'
  rintro w2 ⟨c0, c1, c2, c3, hin, hE⟩
  have FIN : Hid (∀ wx, Ext w2 wx → BoxAt wx (w.heap.size + 1 + 1 + 1) (ro8 ⟨⟨#[]⟩, zeroCl, 0, 0, []⟩ (.slice none 0 0)) 55 ∧ Ext w wx) := fun wx h => ⟨c3.ext h, hE.trans h⟩
  obtain ⟨x0, x1, x2, x3, x4⟩ := c0.vw
  obtain ⟨y0, y1, y2, y3, y4, y5, y6, y7⟩ := c1.ro
  obtain ⟨t0, t1, t2, t3, t4, t5, t6, t7⟩ := c2.ro
  clear c0 c1 c2 c3 hE y1 y2 y4 y5 y6 y7
  replace x0 := held x0
  replace x1 := held x1
  replace x2 := held x2
  replace x3 := held x3
  replace x4 := held x4
  replace y0 := held y0
  replace y3 := held y3
  replace t0 := held t0
  replace t1 := held t1
  replace t2 := held t2
  replace t3 := held t3
  replace t4 := held t4
  replace t5 := held t5
  replace t6 := held t6
  replace t7 := held t7
  refine rg_quiet rfl rfl rfl rfl ?_; intro K hK; go_big_quiet_op; go_big_quiet_on
  refine rg_quiet rfl rfl rfl rfl ?_; intro K hK; go_big_quiet_op; go_big_quiet_on
  refine rg_quiet rfl rfl rfl rfl ?_; intro K hK; go_big_quiet_op; go_big_quiet_on
  refine rg_quiet rfl rfl rfl rfl ?_; intro K hK; go_big_quiet_op; go_big_quiet_on
  refine rg_quiet rfl rfl rfl rfl ?_; intro K hK; go_big_quiet_op; go_big_quiet_on
  refine rg_quiet rfl rfl rfl rfl ?_; intro K hK; go_big_quiet_op; go_big_quiet_on
  refine rg_quiet rfl rfl rfl rfl ?_; intro K hK; go_big_quiet_op; go_big_quiet_on
  refine rg_val [] rfl rfl rfl (by kernel_rfl) (fun w1 hE hf => ?_) ?_
  · go_simp
    exact (rgone_any r v g w1).mono fun e w' ⟨he, hw⟩ => ⟨_, he, rg_done hE hw (by rw [HG.out])⟩
  simp only [Act.put, List.setIfInBounds_toArray, List.set_cons_zero, List.set_cons_succ]
  refine rg_quiet rfl rfl rfl rfl ?_; intro K hK; go_big_quiet_op; go_big_quiet_on
  refine rg_quiet rfl rfl rfl rfl ?_; intro K hK; go_big_quiet_op; go_big_quiet_on
  refine rg_fact [] rfl rfl rfl (by kernel_rfl) (fun w1 hE hf => ?_) (fun v10 w1 hE hG h10 => ?_)
  · go_simp
    refine (cellOf_any x u r v w1 (hin.ext hE)).mono ?_
    rw [← HL.out]
    rintro e w3 ⟨a, c, he, hc, hE3⟩
    exact ⟨_, he, rg_doneR hE hE3 ⟨a, c, rfl, hc⟩⟩
  obtain ⟨a10, c10, rfl, h10⟩ := h10
  simp only [Act.put, List.setIfInBounds_toArray, List.set_cons_zero, List.set_cons_succ]
  clear hE hG h10 w1
  refine rg_quiet rfl rfl rfl rfl ?_; intro K hK; go_big_quiet_op; go_big_quiet_on
  refine rel_tail rfl rfl fun w5 hE5 hG => ?_
  obtain ⟨aa, cc, e10, hcols⟩ := (hG 10).2 rfl
  cases e10
  obtain ⟨c3, hE⟩ := FIN.out w5 hE5
  clear x0 x1 x2 x3 x4 y0 y3 t0 t1 t2 t3 t4 t5 t6 t7 hE5 hG FIN
  go_wp2_with ((guard_target =~ wpList _ _ _ (Oper.mk none (Op.store _ (Operand.tmp 8) (Operand.tmp 20)) _ _ _ _ :: _) _ _); go_must (refine storeBox rfl 55 (.tmp 8) (.tmp 20) rfl (w.heap.size + 1 + 1 + 1) _ _ _ (by rfl) (by rfl) (c3) (by kernel_rfl) (by rfl) (by simp [Value.oneCell']) ?_); intro w6 c6 g6)
  have hX6 := hE.grown g6 (fun q hq => by cases hq; omega)
  have hC6 := hcols.keep g6 c3 (by decide)
  clear hE g6 c3
  obtain ⟨z0, z1, z2, z3, z4, z5, z6, z7⟩ := c6.ro (r := ⟨m.key, zeroCl, G, m.live.at_, L⟩) (v := .slice a10 L.length c10)
  refine bodyPost_ret (v := .agg #[.string m.key, .string ⟨#[]⟩, .bool false, .int .i64 0, .int .i64 0, .int .i64 G, .int .i64 m.live.at_, .slice a10 L.length c10]) ?_ rfl ⟨_, rfl, hC6, hX6⟩
  simp [results, Try.results47, go_sem, Act.put, z0, z1, z2, z3, z4, z5, z6, z7, zeroCl]
end Go.Proofs.Yteamiiekpjoclaa

/- delta.Of's answer as plain data. -/
namespace Go.Proofs.Yteamiiekpjoclaa
open Go Go.RowKit

/-- What a change of a row turns in a view. -/
noncomputable def stepD (x : Vw) (ng : Int) (r : Ro) : Option (ByteArray × Ro) → Option (ByteArray × Ro) → List (ByteArray × Ro)
  | none, none => []
  | none, some q => [q]
  | some p, none => [(p.1, leftRo x p.2 r ng)]
  | some p, some q => if eqB p.1 q.1 then (if eqB p q then [] else [q]) else [(p.1, leftRo x p.2 r ng), q]
noncomputable def deltaRs (x : Vw) (ns : List ByteArray) (ok : ByteArray) (og : Int) (nk : ByteArray) (ng : Int) (old : List Ro) : List Ro → List (ByteArray × Ro)
  | [] => []
  | r :: l => stepD x ng r (mirOf x ns ok og (rowOf old r.key)) (mirOf x ns nk ng r) ++ deltaRs x ns ok og nk ng old l
theorem deltaRs_snoc (x : Vw) (ns : List ByteArray) (ok : ByteArray) (og : Int) (nk : ByteArray) (ng : Int) (old : List Ro) (l : List Ro) (r : Ro) : deltaRs x ns ok og nk ng old (l ++ [r]) = deltaRs x ns ok og nk ng old l ++ stepD x ng r (mirOf x ns ok og (rowOf old r.key)) (mirOf x ns nk ng r) := by
  induction l with
  | nil => simp [deltaRs]
  | cons a l ih => simp only [List.cons_append, deltaRs, ih, List.append_assoc]
def outP (l : List (ByteArray × Ro)) : List (ByteArray × Int × List Ro) := l.map fun p => (p.1, 0, [p.2])
theorem rowOf_is (l : List Ro) (key : ByteArray) : (rowOf l key).key = key := by
  induction l with
  | nil => rfl
  | cons r l ih =>
    unfold rowOf
    split
    · rename_i h; exact bytes_ext (by simpa using h)
    · exact ih
theorem rowOf_or (l : List Ro) (key : ByteArray) : rowOf l key ∈ l ∨ (rowOf l key).cols = [] := by
  induction l with
  | nil => exact .inr rfl
  | cons r l ih =>
    unfold rowOf
    split
    · exact .inl (List.mem_cons_self ..)
    · exact ih.imp_left (List.mem_cons_of_mem _)
end Go.Proofs.Yteamiiekpjoclaa

/- Rows by numbers: L.Cell whatever numbers are left; Names. -/
namespace Go.Proofs.Yteamiiekpjoclaa
open Go Go.RowKit
attribute [local go_sem] yields yUpon

theorem next_nil (p : Nat) (w : World) (hv : BoxAt w p #[.slice none 0 0] 83) (n : Int) :
    Calls Try.prog 74 #[.pointer (some ⟨p, 0, none⟩), .int .i64 n] w fun e w' => e = .returned (.int .i64 0) ∧ w = w' := by
  have c0 := hv.cell 0
  simp at c0
  go_enter Try.func74, Try.ntmps74
  go_wp2
  go_ret
  exact ⟨rfl, rfl⟩
theorem next_nil' (W : World) (p : Nat) (v : Value) (hin : IntsIn W v .i64 []) (w : World) (hv : BoxAt w p #[v] 83) (n : Int) :
    Calls Try.prog 74 #[.pointer (some ⟨p, 0, none⟩), .int .i64 n] w fun e w' => e = .returned (.int .i64 0) ∧ w = w' := by
  obtain ⟨a, c, rfl, hc, hcm, ha⟩ := hin.block
  have c0 := hv.cell 0
  simp at c0
  go_enter Try.func74, Try.ntmps74
  go_wp2
  go_ret
  exact ⟨rfl, rfl⟩

set_option maxHeartbeats 1000000 in
theorem lcell_nil (W : World) (p : Nat) (v : Value) (hin : IntsIn W v .i64 []) (w : World) (hv : BoxAt w p #[v] 83) :
    Calls Try.prog 100 #[.pointer (some ⟨p, 0, none⟩)] w fun e w' => e = .returned (.agg #[.string (cellN 0).val, .bool (cellN 0).dead, .int .i64 (cellN 0).at_, .int .i64 (cellN 0).fin]) ∧ Ext w w' := by
  go_enter Try.func100, Try.ntmps100
  go_wp2_with fail
  refine (next_nil' W p v hin _ (hv.ext ((Ext.refl _).alloc _)) _).mono ?_
  rintro e w1 ⟨rfl, rfl⟩
  go_wp2
  refine bodyPost_ret (v := (.agg #[.string (cellN 0).val, .bool (cellN 0).dead, .int .i64 (cellN 0).at_, .int .i64 (cellN 0).fin])) (by simp [results, Try.results100, go_sem, cellN]) rfl ⟨rfl, ((Ext.refl _).alloc _).alloc _⟩

/-- The numbers that are left: any. -/
def LeftIn (W w : World) (p : Nat) : Prop := ∃ v l, BoxAt w p #[v] 83 ∧ IntsIn W v .i64 l

theorem lcell_ex (W : World) (p : Nat) (hp : W.heap.size ≤ p) (w : World) (hE : Ext W w) (hL : LeftIn W w p) :
    Calls Try.prog 100 #[.pointer (some ⟨p, 0, none⟩)] w fun e w' => ∃ n : Int, 0 ≤ n ∧ e = .returned (.agg #[.string (cellN n).val, .bool (cellN n).dead, .int .i64 (cellN n).at_, .int .i64 (cellN n).fin]) ∧ w.grownBy w' (some p) ∧ LeftIn W w' p := by
  obtain ⟨v, l, hv, hin⟩ := hL
  cases l with
  | nil =>
    refine (lcell_nil W p v hin w hv).mono ?_
    rintro e w' ⟨rfl, hX⟩
    exact ⟨0, Int.le_refl 0, rfl, grownBy_ext (grownBy_refl w _) hX, v, [], hv.ext hX, hin⟩
  | cons x l =>
    refine (lcell_any W p hp v x l hin w hE hv).mono ?_
    rintro e w' ⟨rfl, v', hX, hin'⟩
    exact ⟨x % 1048576, by omega, rfl, grownBy_ext (grownBy_set p v') hX, v', l, (hv.set 0 v').ext hX, hin'⟩
theorem next_ex (W : World) (p : Nat) (hp : W.heap.size ≤ p) (w : World) (hE : Ext W w) (hL : LeftIn W w p) :
    Calls Try.prog 74 #[.pointer (some ⟨p, 0, none⟩), .int .i64 1048576] w fun e w' => ∃ n : Int, 0 ≤ n ∧ n < 1048576 ∧ e = .returned (.int .i64 n) ∧ w.grownBy w' (some p) ∧ LeftIn W w' p := by
  obtain ⟨v, l, hv, hin⟩ := hL
  refine (next_gen W p hp v l hin 1048576 (by omega) (by omega) w hE hv).mono ?_
  rintro e w' ⟨rfl, hg, v', hb, hin'⟩
  refine ⟨nextN l 1048576, ?_, ?_, rfl, hg, v', l.tail, hb, hin'⟩
  · cases l with
    | nil => exact Int.le_refl 0
    | cons x l => show 0 ≤ x % 1048576; omega
  · cases l with
    | nil => show (0 : Int) < 1048576; omega
    | cons x l => show x % 1048576 < 1048576; omega

/-- The names of columns. -/
def nm4 : Array Value := #[.string ⟨#[97]⟩, .string ⟨#[98]⟩, .string ⟨#[99]⟩, .string ⟨#[100]⟩]
set_option maxHeartbeats 1000000 in
theorem names_any (w : World) :
    Calls Try.prog 99 #[] w fun e w' => e = .returned (.slice (some ⟨w.heap.size, 0, none⟩) 4 4) ∧ w' = w.alloc (.cells nm4 9) := by
  go_enter Try.func99, Try.ntmps99
  go_wp2
  go_ret
  exact ⟨rfl, rfl⟩

def nmK : Nat → ByteArray
  | 0 => ⟨#[97]⟩
  | 1 => ⟨#[98]⟩
  | 2 => ⟨#[99]⟩
  | _ => ⟨#[100]⟩
/-- Columns by numbers, of the first so many names. -/
inductive GenCols : Nat → List Co → Prop
  | nil : GenCols 0 []
  | skip {k l} : GenCols k l → GenCols (k + 1) l
  | put {k l} {n : Int} : GenCols k l → 0 ≤ n → GenCols (k + 1) (l ++ [⟨nmK k, cellN n⟩])
theorem GenCols.len {k : Nat} {l : List Co} (h : GenCols k l) : l.length ≤ k := by
  induction h with
  | nil => exact Nat.le_refl 0
  | skip _ ih => omega
  | put _ _ ih => simp; omega
end Go.Proofs.Yteamiiekpjoclaa
