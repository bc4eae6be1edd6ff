/- row.Best. -/
import Derived.Test.YteamiiekpjoclaaDoorM2
import Derived.Test.YteamiiekpjoclaaDoorM1
import Derived.ProofKit
import Derived.ChangeSlices
import Derived.WideShapes
namespace Go.Proofs.YteamiiekpjoclaaDoor
open Go Go.RowKit
attribute [local go_sem] yields yUpon

def ro8 (r : Ro) (v : Value) : Array Value := #[.string r.key, .string r.live.val, .bool r.live.dead, .int .i64 r.live.at_, .int .i64 r.live.fin, .int .i64 r.gone, .int .i64 r.shade, v]
theorem BoxAt.ro {w : World} {p : Nat} {r : Ro} {v : Value} {T : TypeId} (h : BoxAt w p (ro8 r v) T) : w.cell? ⟨p, 0, none⟩ = some (.string r.key) ∧ w.cell? ⟨p, 1, none⟩ = some (.string r.live.val) ∧ w.cell? ⟨p, 2, none⟩ = some (.bool r.live.dead) ∧ w.cell? ⟨p, 3, none⟩ = some (.int .i64 r.live.at_) ∧ w.cell? ⟨p, 4, none⟩ = some (.int .i64 r.live.fin) ∧ w.cell? ⟨p, 5, none⟩ = some (.int .i64 r.gone) ∧ w.cell? ⟨p, 6, none⟩ = some (.int .i64 r.shade) ∧ w.cell? ⟨p, 7, none⟩ = some v :=
  ⟨h.cell 0, h.cell 1, h.cell 2, h.cell 3, h.cell 4, h.cell 5, h.cell 6, h.cell 7⟩

def pa3 (k : ByteArray) (g : Int) (u : Value) : Array Value := #[.string k, .int .i64 g, u]
theorem BoxAt.pa {w : World} {p : Nat} {k : ByteArray} {g : Int} {u : Value} {T : TypeId} (h : BoxAt w p (pa3 k g u) T) : w.cell? ⟨p, 0, none⟩ = some (.string k) ∧ w.cell? ⟨p, 1, none⟩ = some (.int .i64 g) ∧ w.cell? ⟨p, 2, none⟩ = some u := ⟨h.cell 0, h.cell 1, h.cell 2⟩

/-- Does a cell count? -/
def bestB (c : Cl) (g : Int) : Bool := !(c.dead || decide (c.at_ < 1) || decide (c.at_ ≤ g))
def bestC (c : Cl) (g : Int) : Cl := if bestB c g then c else zeroCl

set_option maxRecDepth 100000 in
set_option maxHeartbeats 2000000 in
theorem best_any (r : Ro) (v : Value) (part : Int) (name : ByteArray) (w : World) (hin : ColsIn w v r.cols) :
    Calls Tryd.prog 22 #[(.agg #[.string r.key, .string r.live.val, .bool r.live.dead, .int .i64 r.live.at_, .int .i64 r.live.fin, .int .i64 r.gone, .int .i64 r.shade, v]), .int .i64 part, .string name] w fun e w' =>
      e = .returned (.tuple #[(.agg #[.string (bestC (cellOf r.cols name) (max r.gone part)).val, .bool (bestC (cellOf r.cols name) (max r.gone part)).dead, .int .i64 (bestC (cellOf r.cols name) (max r.gone part)).at_, .int .i64 (bestC (cellOf r.cols name) (max r.gone part)).fin]), .bool (bestB (cellOf r.cols name) (max r.gone part))]) ∧ Ext w w' := by
  obtain ⟨c, hc⟩ : ∃ c, c = cellOf r.cols name := ⟨_, rfl⟩
  rw [← hc]
  have HC := Lib.hid hc
  clear hc
  go_enter Tryd.func22, Tryd.ntmps22
  go_wp2_with fail
  refine (rcell_any r v name _ (hin.ext (((Ext.refl w).alloc _).alloc _))).mono ?_
  rw [← HC.out]
  rintro e w1 ⟨rfl, hE1⟩
  have b0 : BoxAt w1 w.heap.size (ro8 r v) 26 := ((BoxAt.made w (ro8 r v) 26).ext ((Ext.refl _).alloc _)).ext hE1
  have b1 : BoxAt w1 (w.heap.size + 1) (cl4 zeroCl) 23 := (by have := BoxAt.made (w.alloc (.cells (ro8 r v) 26)) (cl4 zeroCl) 23; rw [Deep.nblk_alloc] at this; exact this : BoxAt _ (w.heap.size + 1) (cl4 zeroCl) 23).ext hE1
  replace hE1 := (((Ext.refl w).alloc _).alloc _).trans hE1
  go_wp2_with fail
  refine wp_region_in 15 [(12, fun v _ => v = .int .i64 (max r.gone part))] (fun w0 => BoxAt w0 w1.heap.size (cl4 c) 23 ∧ BoxAt w0 w.heap.size (ro8 r v) 26 ∧ BoxAt w0 (w.heap.size + 1) (cl4 zeroCl) 23 ∧ Ext w w0) (by kernel_rfl) (by kernel_rfl) (by kernel_rfl) ⟨stays_eq _, trivial⟩ ?_ ?_
  · exact ⟨BoxAt.made _ _ _, b0.ext ((Ext.refl _).alloc _), b1.ext ((Ext.refl _).alloc _), hE1.alloc _⟩
  clear b0 b1 hE1
  rintro w2 ⟨b2, b0, b1, hE⟩
  have fin : ∀ (wx : World), Ext w2 wx → BoxAt wx w1.heap.size (cl4 c) 23 ∧ BoxAt wx (w.heap.size + 1) (cl4 zeroCl) 23 ∧ Ext w wx := fun wx h => ⟨b2.ext h, b1.ext h, hE.trans h⟩
  have FIN := Lib.hid fin
  clear fin b1
  obtain ⟨x0, x1, x2, x3⟩ := b2.cl
  obtain ⟨y0, y1, y2, y3, y4, y5, y6, y7⟩ := b0.ro
  clear b2 b0
  replace x1 := held x1
  replace x2 := held x2
  replace y0 := held y0
  replace y1 := held y1
  replace y2 := held y2
  replace y3 := held y3
  replace y4 := held y4
  replace y5 := held y5
  replace y6 := held y6
  replace y7 := held y7
  clear x0 x3
  by_cases hb : bestB c (max r.gone part) = true
  · have hb0 := hb
    simp only [bestB, Bool.not_eq_true', Bool.or_eq_false_iff] at hb0
    obtain ⟨⟨d0, d1⟩, d2⟩ := hb0
    have HB : Hid (bestC c (max r.gone part) = c ∧ bestB c (max r.gone part) = true) := ⟨by unfold bestC; rw [if_pos hb], hb⟩
    rw [d0] at x1
    clear hb
    refine rg_quiet rfl rfl rfl rfl ?_; intro K hK; go_big_quiet_op; go_big_quiet_on
    refine rg_quiet rfl rfl rfl rfl ?_; intro K hK; go_big_quiet_op; go_big_quiet_on
    refine rg_quiet rfl rfl rfl rfl ?_; intro K hK; go_big_quiet_op; go_big_quiet_on
    refine rg_quiet rfl rfl rfl rfl ?_; intro K hK; go_big_quiet_op; go_big_quiet_on
    refine rg_quiet rfl rfl rfl rfl ?_; intro K hK; go_big_quiet_op; go_big_quiet_on
    refine rg_quiet rfl rfl rfl rfl ?_; intro K hK; go_big_quiet_op; go_big_quiet_on
    refine rg_quiet rfl rfl rfl rfl ?_; intro K hK; go_big_quiet_op; go_big_quiet_on
    refine rg_quiet rfl rfl rfl rfl ?_; intro K hK; go_big_quiet_op; go_big_quiet_on
    refine rg_quiet rfl rfl rfl rfl ?_; intro K hK; go_big_quiet_op; go_big_quiet_on
    refine rg_quiet rfl rfl rfl rfl ?_; intro K hK; go_big_quiet_op; go_big_quiet_on
    refine rg_quiet rfl rfl rfl rfl ?_; intro K hK; go_big_quiet_op; go_big_quiet_on
    refine rg_quiet rfl rfl rfl rfl ?_; intro K hK; go_big_quiet_op; go_big_quiet_on
    refine rg_val [] rfl rfl rfl (by kernel_rfl) (fun w1 hE hf => ?_) ?_
    · go_simp
      exact (rgone_any r v part w1).mono fun e w' ⟨he, hw⟩ => ⟨_, he, rg_done hE hw (rfl)⟩
    simp only [Act.put, List.setIfInBounds_toArray, List.set_cons_zero, List.set_cons_succ]
    refine rg_quiet rfl rfl rfl rfl ?_; intro K hK; go_big_quiet_op; go_big_quiet_on
    refine rg_quiet rfl rfl rfl rfl ?_; intro K hK; go_big_quiet_op; go_big_quiet_on
    refine rel_nil fun w5 hE5 _ => ?_
    obtain ⟨b2, b1, hX⟩ := FIN.out w5 hE5
    clear d0 d1 d2 x1 x2 y0 y1 y2 y3 y4 y5 y6 y7 hE5 FIN hE
    obtain ⟨x0, x1, x2, x3⟩ := b2.cl
    obtain ⟨z0, z1, z2, z3⟩ := b1.cl
    have xf := b1.free
    go_wp2_with fail
    rw [HB.out.1, HB.out.2]
    refine bodyPost_ret (v := .tuple #[(.agg #[.string c.val, .bool c.dead, .int .i64 c.at_, .int .i64 c.fin]), .bool true]) ?_ rfl ⟨rfl, hX.put4 (Nat.le_succ _)⟩
    generalize hW : World.setCell _ _ _ = w9
    have hb : BoxAt w9 (w.heap.size + 1) (cl4 c) 23 := by rw [← hW]; exact b1.put4 (d := c)
    obtain ⟨q0, q1, q2, q3⟩ := hb.cl
    simp [results, Tryd.results22, go_sem, q0, q1, q2, q3]
  · have HB : Hid (bestC c (max r.gone part) = zeroCl ∧ bestB c (max r.gone part) = false) := by simp only [Bool.not_eq_true] at hb; exact ⟨by unfold bestC; rw [if_neg (by rw [hb]; decide)], hb⟩
    cases d0 : c.dead
    · rw [d0] at x1
      cases d1 : decide (c.at_ < 1)
      · have d2 : decide (c.at_ ≤ max r.gone part) = true := by
          simp only [bestB, Bool.not_eq_true', d0, d1] at hb
          simpa using hb
        clear hb
        refine rg_quiet rfl rfl rfl rfl ?_; intro K hK; go_big_quiet_op; go_big_quiet_on
        refine rg_quiet rfl rfl rfl rfl ?_; intro K hK; go_big_quiet_op; go_big_quiet_on
        refine rg_quiet rfl rfl rfl rfl ?_; intro K hK; go_big_quiet_op; go_big_quiet_on
        refine rg_quiet rfl rfl rfl rfl ?_; intro K hK; go_big_quiet_op; go_big_quiet_on
        refine rg_quiet rfl rfl rfl rfl ?_; intro K hK; go_big_quiet_op; go_big_quiet_on
        refine rg_quiet rfl rfl rfl rfl ?_; intro K hK; go_big_quiet_op; go_big_quiet_on
        refine rg_quiet rfl rfl rfl rfl ?_; intro K hK; go_big_quiet_op; go_big_quiet_on
        refine rg_quiet rfl rfl rfl rfl ?_; intro K hK; go_big_quiet_op; go_big_quiet_on
        refine rg_quiet rfl rfl rfl rfl ?_; intro K hK; go_big_quiet_op; go_big_quiet_on
        refine rg_quiet rfl rfl rfl rfl ?_; intro K hK; go_big_quiet_op; go_big_quiet_on
        refine rg_quiet rfl rfl rfl rfl ?_; intro K hK; go_big_quiet_op; go_big_quiet_on
        refine rg_quiet rfl rfl rfl rfl ?_; intro K hK; go_big_quiet_op; go_big_quiet_on
        refine rg_val [] rfl rfl rfl (by kernel_rfl) (fun w1 hE hf => ?_) ?_
        · go_simp
          exact (rgone_any r v part w1).mono fun e w' ⟨he, hw⟩ => ⟨_, he, rg_done hE hw (rfl)⟩
        simp only [Act.put, List.setIfInBounds_toArray, List.set_cons_zero, List.set_cons_succ]
        refine rg_quiet rfl rfl rfl rfl ?_; intro K hK; go_big_quiet_op; go_big_quiet_on
        refine rg_quiet rfl rfl rfl rfl ?_; intro K hK; go_big_quiet_op; go_big_quiet_on
        refine rel_nil fun w5 hE5 _ => ?_
        obtain ⟨b2, b1, hX⟩ := FIN.out w5 hE5
        clear x1 x2 y0 y1 y2 y3 y4 y5 y6 y7 hE5 FIN hE
        obtain ⟨z0, z1, z2, z3⟩ := b1.cl
        have xf := b1.free
        go_wp2_with fail
        rw [HB.out.1, HB.out.2]
        refine bodyPost_ret (v := .tuple #[(.agg #[.string zeroCl.val, .bool zeroCl.dead, .int .i64 zeroCl.at_, .int .i64 zeroCl.fin]), .bool false]) ?_ rfl ⟨rfl, hX.put4 (Nat.le_succ _)⟩
        generalize hW : World.setCell _ _ _ = w9
        have hb : BoxAt w9 (w.heap.size + 1) (cl4 zeroCl) 23 := by rw [← hW]; exact b1.put4 (d := zeroCl)
        obtain ⟨q0, q1, q2, q3⟩ := hb.cl
        simp [results, Tryd.results22, go_sem, q0, q1, q2, q3]
      · clear hb
        refine rg_quiet rfl rfl rfl rfl ?_; intro K hK; go_big_quiet_op; go_big_quiet_on
        refine rg_quiet rfl rfl rfl rfl ?_; intro K hK; go_big_quiet_op; go_big_quiet_on
        refine rg_quiet rfl rfl rfl rfl ?_; intro K hK; go_big_quiet_op; go_big_quiet_on
        refine rg_quiet rfl rfl rfl rfl ?_; intro K hK; go_big_quiet_op; go_big_quiet_on
        refine rg_quiet rfl rfl rfl rfl ?_; intro K hK; go_big_quiet_op; go_big_quiet_on
        refine rg_quiet rfl rfl rfl rfl ?_; intro K hK; go_big_quiet_op; go_big_quiet_on
        refine rg_quiet rfl rfl rfl rfl ?_; intro K hK; go_big_quiet_op; go_big_quiet_on
        refine rg_quiet rfl rfl rfl rfl ?_; intro K hK; go_big_quiet_op; go_big_quiet_on
        refine rel_skip rfl rfl ?_
        simp only [Act.put, List.setIfInBounds_toArray, List.set_cons_zero, List.set_cons_succ]
        refine rel_skip rfl rfl ?_
        simp only [Act.put, List.setIfInBounds_toArray, List.set_cons_zero, List.set_cons_succ]
        refine rel_skip rfl rfl ?_
        simp only [Act.put, List.setIfInBounds_toArray, List.set_cons_zero, List.set_cons_succ]
        refine rel_skip rfl rfl ?_
        simp only [Act.put, List.setIfInBounds_toArray, List.set_cons_zero, List.set_cons_succ]
        refine rel_skip rfl rfl ?_
        simp only [Act.put, List.setIfInBounds_toArray, List.set_cons_zero, List.set_cons_succ]
        refine rel_skip rfl rfl ?_
        simp only [Act.put, List.setIfInBounds_toArray, List.set_cons_zero, List.set_cons_succ]
        refine rg_quiet rfl rfl rfl rfl ?_; intro K hK; go_big_quiet_op; go_big_quiet_on
        refine rel_nil fun w5 hE5 _ => ?_
        obtain ⟨b2, b1, hX⟩ := FIN.out w5 hE5
        clear x1 x2 y0 y1 y2 y3 y4 y5 y6 y7 hE5 FIN hE
        obtain ⟨z0, z1, z2, z3⟩ := b1.cl
        have xf := b1.free
        go_wp2_with fail
        rw [HB.out.1, HB.out.2]
        refine bodyPost_ret (v := .tuple #[(.agg #[.string zeroCl.val, .bool zeroCl.dead, .int .i64 zeroCl.at_, .int .i64 zeroCl.fin]), .bool false]) ?_ rfl ⟨rfl, hX.put4 (Nat.le_succ _)⟩
        generalize hW : World.setCell _ _ _ = w9
        have hb : BoxAt w9 (w.heap.size + 1) (cl4 zeroCl) 23 := by rw [← hW]; exact b1.put4 (d := zeroCl)
        obtain ⟨q0, q1, q2, q3⟩ := hb.cl
        simp [results, Tryd.results22, go_sem, q0, q1, q2, q3]
    · rw [d0] at x1
      clear hb
      refine rg_quiet rfl rfl rfl rfl ?_; intro K hK; go_big_quiet_op; go_big_quiet_on
      refine rg_quiet rfl rfl rfl rfl ?_; intro K hK; go_big_quiet_op; go_big_quiet_on
      refine rg_quiet rfl rfl rfl rfl ?_; intro K hK; go_big_quiet_op; go_big_quiet_on
      refine rel_skip rfl rfl ?_
      simp only [Act.put, List.setIfInBounds_toArray, List.set_cons_zero, List.set_cons_succ]
      refine rel_skip rfl rfl ?_
      simp only [Act.put, List.setIfInBounds_toArray, List.set_cons_zero, List.set_cons_succ]
      refine rel_skip rfl rfl ?_
      simp only [Act.put, List.setIfInBounds_toArray, List.set_cons_zero, List.set_cons_succ]
      refine rg_quiet rfl rfl rfl rfl ?_; intro K hK; go_big_quiet_op; go_big_quiet_on
      refine rg_quiet rfl rfl rfl rfl ?_; intro K hK; go_big_quiet_op; go_big_quiet_on
      refine rel_skip rfl rfl ?_
      simp only [Act.put, List.setIfInBounds_toArray, List.set_cons_zero, List.set_cons_succ]
      refine rel_skip rfl rfl ?_
      simp only [Act.put, List.setIfInBounds_toArray, List.set_cons_zero, List.set_cons_succ]
      refine rel_skip rfl rfl ?_
      simp only [Act.put, List.setIfInBounds_toArray, List.set_cons_zero, List.set_cons_succ]
      refine rel_skip rfl rfl ?_
      simp only [Act.put, List.setIfInBounds_toArray, List.set_cons_zero, List.set_cons_succ]
      refine rel_skip rfl rfl ?_
      simp only [Act.put, List.setIfInBounds_toArray, List.set_cons_zero, List.set_cons_succ]
      refine rel_skip rfl rfl ?_
      simp only [Act.put, List.setIfInBounds_toArray, List.set_cons_zero, List.set_cons_succ]
      refine rg_quiet rfl rfl rfl rfl ?_; intro K hK; go_big_quiet_op; go_big_quiet_on
      refine rel_nil fun w5 hE5 _ => ?_
      obtain ⟨b2, b1, hX⟩ := FIN.out w5 hE5
      clear x1 x2 y0 y1 y2 y3 y4 y5 y6 y7 hE5 FIN hE
      obtain ⟨z0, z1, z2, z3⟩ := b1.cl
      have xf := b1.free
      go_wp2_with fail
      rw [HB.out.1, HB.out.2]
      refine bodyPost_ret (v := .tuple #[(.agg #[.string zeroCl.val, .bool zeroCl.dead, .int .i64 zeroCl.at_, .int .i64 zeroCl.fin]), .bool false]) ?_ rfl ⟨rfl, hX.put4 (Nat.le_succ _)⟩
      generalize hW : World.setCell _ _ _ = w9
      have hb : BoxAt w9 (w.heap.size + 1) (cl4 zeroCl) 23 := by rw [← hW]; exact b1.put4 (d := zeroCl)
      obtain ⟨q0, q1, q2, q3⟩ := hb.cl
      simp [results, Tryd.results22, go_sem, q0, q1, q2, q3]
end Go.Proofs.YteamiiekpjoclaaDoor

/- row.Seen, row.Is. -/
namespace Go.Proofs.YteamiiekpjoclaaDoor
open Go Go.RowKit
attribute [local go_sem] yields yUpon

theorem info_Col : (Tryd.prog.info? 80).map (fun i => (i.zero, i.size, i.bytes)) = some (some (.agg #[.string ⟨#[]⟩, .string ⟨#[]⟩, .bool false, .int .i64 0, .int .i64 0]), 5, 56) := by kernel_rfl
theorem und_Cols : Tryd.prog.underlying 24 = some (.slice 80) := by kernel_rfl
def co5 (c : Co) : Array Value := #[.string c.name, .string c.cell.val, .bool c.cell.dead, .int .i64 c.cell.at_, .int .i64 c.cell.fin]
theorem BoxAt.co {w : World} {p : Nat} {c : Co} {T : TypeId} (h : BoxAt w p (co5 c) T) : w.cell? ⟨p, 0, none⟩ = some (.string c.name) ∧ w.cell? ⟨p, 1, none⟩ = some (.string c.cell.val) ∧ w.cell? ⟨p, 2, none⟩ = some (.bool c.cell.dead) ∧ w.cell? ⟨p, 3, none⟩ = some (.int .i64 c.cell.at_) ∧ w.cell? ⟨p, 4, none⟩ = some (.int .i64 c.cell.fin) :=
  ⟨h.cell 0, h.cell 1, h.cell 2, h.cell 3, h.cell 4⟩
theorem ownsRow_lenOf {w : World} {B : Nat} {e : TypeId} {size : Nat} {v : Value} {n : Nat} {xs : List Value} (h : w.ownsRow B e size v n xs) : lenOf v = n := by
  rcases h.2 with ⟨rfl, rfl⟩ | ⟨g, cap, cur, rfl, _⟩ <;> rfl

/-- Is a column's cell seen? -/
def seenCo (c : Co) (g now : Int) : Bool := !c.cell.dead && decide (g < c.cell.at_) && seenB c.cell.dead c.cell.at_ c.cell.fin now
def seenCos (l : List Co) (g now : Int) : List Co := l.filter fun c => seenCo c g now
theorem seenCos_take {l : List Co} {k : Nat} {g now : Int} {M : Co} {R : List Co} (hd : l.drop k = M :: R) : seenCos (l.take (k + 1)) g now = seenCos (l.take k) g now ++ if seenCo M g now then [M] else [] := by
  have hk : k < l.length := by
    rcases Nat.lt_or_ge k l.length with h | h
    · exact h
    · rw [List.drop_eq_nil_of_le h] at hd; cases hd
  have e : l[k] = M := by rw [List.drop_eq_getElem_cons hk] at hd; exact (List.cons.inj hd).1
  rw [List.take_succ_eq_append_getElem hk, e]
  unfold seenCos
  rw [List.filter_append]
  congr 1
  cases h : seenCo M g now <;> simp [h]

set_option maxRecDepth 100000 in
set_option maxHeartbeats 4000000 in
theorem rwseen_any (r : Ro) (v : Value) (part now : Int) (w : World) (hin : ColsIn w v r.cols) (hlen : r.cols.length ≤ 1000000) :
    Calls Tryd.prog 28 #[(.agg #[.string r.key, .string r.live.val, .bool r.live.dead, .int .i64 r.live.at_, .int .i64 r.live.fin, .int .i64 r.gone, .int .i64 r.shade, v]), .int .i64 part, .int .i64 now] w fun e w' => ∃ v', e = .returned v' ∧ w'.ownsRow (w.heap.size + 1) 80 5 v' (seenCos r.cols (max r.gone part) now).length (coCells (seenCos r.cols (max r.gone part) now)) ∧ Ext w w' := by
  obtain ⟨a, c, rfl, hc, hcm, hcell⟩ := hin.get
  obtain ⟨l, hl⟩ : ∃ l, l = r.cols := ⟨_, rfl⟩
  obtain ⟨G, hG⟩ : ∃ G, G = max r.gone part := ⟨_, rfl⟩
  rw [← hl] at hcell hc hlen ⊢
  rw [← hG]
  have HC := Lib.hid hcell
  have HG := Lib.hid hG
  clear hcell hin hl hG
  go_enter Tryd.func28, Tryd.ntmps28
  go_wp2
  go_loopw [7, 13] (fun m i wr => ∃ k : Nat, k ≤ l.length ∧ i = .int .i64 k ∧ BoxAt wr w.heap.size (ro8 r (.slice a l.length c)) 26 ∧ Ext w wr ∧ wr.ownsRow (w.heap.size + 1) 80 5 m (seenCos (l.take k) G now).length (coCells (seenCos (l.take k) G now))) (fun _ i _ => l.length - (intOf i).toNat)
  case atStart => exact ⟨0, Nat.zero_le _, rfl, BoxAt.made w _ _, (Ext.refl w).alloc _, World.ownsRow_nil _ _ _ _⟩
  case round =>
    obtain ⟨k, hk, rfl, hbox, hE, hown⟩ := hrel
    by_cases hlt : k < l.length
    · obtain ⟨b, o, rfl, hco⟩ := HC.out k hlt
      obtain ⟨M, hM⟩ : ∃ M, M = l[k] := ⟨_, rfl⟩
      rw [← hM] at hco
      have hD : l.drop k = M :: l.drop (k + 1) := by rw [hM]; exact List.drop_eq_getElem_cons hlt
      have hT := seenCos_take (g := G) (now := now) hD
      have hle : (seenCos (l.take k) G now).length ≤ k := Nat.le_trans (List.length_filter_le _ _) (by simp; omega)
      clear hM hD
      obtain ⟨S, hS⟩ : ∃ S, S = seenCos (l.take k) G now := ⟨_, rfl⟩
      rw [← hS] at hT hle hown
      clear hS
      have HT := Lib.hid hT
      clear hT
      replace hco := hco.ext hE
      obtain ⟨g0, g1, g2, g3, g4⟩ := hco
      go_wp2_with fail
      refine wp_region_in 19 [(10, fun v _ => v = .int .i64 G), (17, fun v _ => v = .bool (seenCo M G now))] (fun w0 => BoxAt w0 wr.heap.size (co5 M) 80 ∧ BoxAt w0 w.heap.size (ro8 r (.slice (some ⟨b, o, none⟩) l.length c)) 26 ∧ Ext w w0 ∧ w0.ownsRow (w.heap.size + 1) 80 5 u7 S.length (coCells S)) (by kernel_rfl) (by kernel_rfl) (by kernel_rfl) ⟨stays_eq _, stays_eq _, trivial⟩ ?_ ?_
      · exact ⟨BoxAt.made _ _ _, hbox.ext ((Ext.refl _).alloc _), hE.alloc _, ownsRow_ext hown ((Ext.refl _).alloc _)⟩
      clear hbox hE hown g0 g1 g2 g3 g4
      rintro w2 ⟨b2, b0, hE, hown⟩
      have FIN : Hid (∀ wx, Ext w2 wx → BoxAt wx wr.heap.size (co5 M) 80 ∧ BoxAt wx w.heap.size (ro8 r (.slice (some ⟨b, o, none⟩) l.length c)) 26 ∧ Ext w wx ∧ wx.ownsRow (w.heap.size + 1) 80 5 u7 S.length (coCells S)) := fun wx h => ⟨b2.ext h, b0.ext h, hE.trans h, ownsRow_ext hown h⟩
      obtain ⟨x0, x1, x2, x3, x4⟩ := b2.co
      obtain ⟨y0, y1, y2, y3, y4, y5, y6, y7⟩ := b0.ro
      clear b2 b0 hown hE x0
      replace x1 := held x1
      replace x2 := held x2
      replace x3 := held x3
      replace x4 := held x4
      replace y0 := held y0
      replace y1 := held y1
      replace y2 := held y2
      replace y3 := held y3
      replace y4 := held y4
      replace y5 := held y5
      replace y6 := held y6
      replace y7 := held y7
      cases d0 : M.cell.dead
      · rw [d0] at x2
        cases d1 : decide (G < M.cell.at_)
        · have hs : seenCo M G now = false := by unfold seenCo; rw [d0, d1]; rfl
          refine rg_quiet rfl rfl rfl rfl ?_; intro K hK; go_big_quiet_op; go_big_quiet_on
          refine rg_quiet rfl rfl rfl rfl ?_; intro K hK; go_big_quiet_op; go_big_quiet_on
          refine rg_quiet rfl rfl rfl rfl ?_; intro K hK; go_big_quiet_op; go_big_quiet_on
          refine rg_quiet rfl rfl rfl rfl ?_; intro K hK; go_big_quiet_op; go_big_quiet_on
          refine rg_quiet rfl rfl rfl rfl ?_; intro K hK; go_big_quiet_op; go_big_quiet_on
          refine rg_quiet rfl rfl rfl rfl ?_; intro K hK; go_big_quiet_op; go_big_quiet_on
          refine rg_quiet rfl rfl rfl rfl ?_; intro K hK; go_big_quiet_op; go_big_quiet_on
          refine rg_quiet rfl rfl rfl rfl ?_; intro K hK; go_big_quiet_op; go_big_quiet_on
          refine rg_quiet rfl rfl rfl rfl ?_; intro K hK; go_big_quiet_op; go_big_quiet_on
          refine rg_quiet rfl rfl rfl rfl ?_; intro K hK; go_big_quiet_op; go_big_quiet_on
          refine rg_val [] rfl rfl rfl (by kernel_rfl) (fun w1 hE hf => ?_) ?_
          · go_simp
            exact (rgone_any r _ part w1).mono fun e w' ⟨he, hw⟩ => ⟨_, he, rg_done hE hw (int_congr HG.out.symm)⟩
          simp only [Act.put, List.setIfInBounds_toArray, List.set_cons_zero, List.set_cons_succ]
          refine rg_quiet rfl rfl rfl rfl ?_; intro K hK; go_big_quiet_op; go_big_quiet_on
          refine rg_quiet rfl rfl rfl rfl ?_; intro K hK; go_big_quiet_op; go_big_quiet_on
          refine rg_quiet rfl rfl rfl rfl ?_; intro K hK; go_big_quiet_op; go_big_quiet_on
          refine rel_skip rfl rfl ?_
          simp only [Act.put, List.setIfInBounds_toArray, List.set_cons_zero, List.set_cons_succ]
          refine rel_skip rfl rfl ?_
          simp only [Act.put, List.setIfInBounds_toArray, List.set_cons_zero, List.set_cons_succ]
          refine rel_skip rfl rfl ?_
          simp only [Act.put, List.setIfInBounds_toArray, List.set_cons_zero, List.set_cons_succ]
          refine rel_skip rfl rfl ?_
          simp only [Act.put, List.setIfInBounds_toArray, List.set_cons_zero, List.set_cons_succ]
          refine rg_quiet rfl rfl rfl rfl ?_; intro K hK; go_big_quiet_op; go_big_quiet_on
          refine rel_nil fun w5 hE5 _ => ?_
          clear d0 d1
          obtain ⟨b2, b0, hE, hown⟩ := FIN.out w5 hE5
          clear x1 x2 x3 x4 y0 y1 y2 y3 y4 y5 y6 y7 hE5 FIN
          have hT2 := HT.out
          rw [hs] at hT2
          simp only [Bool.false_eq_true, if_false, List.append_nil] at hT2
          have HT2 := Lib.hid hT2
          clear hT2 HT hs
          go_wp2_with fail
          go_roundw
          case rel => exact ⟨k + 1, by omega, by go_num, b0, hE, by rw [HT2.out]; exact hown⟩
          case measure => simp [intOf] <;> omega
        · have hs0 : Hid (seenCo M G now = seenB false M.cell.at_ M.cell.fin now) := by show seenCo M G now = seenB false M.cell.at_ M.cell.fin now; unfold seenCo; rw [d1, d0]; rfl
          refine rg_quiet rfl rfl rfl rfl ?_; intro K hK; go_big_quiet_op; go_big_quiet_on
          refine rg_quiet rfl rfl rfl rfl ?_; intro K hK; go_big_quiet_op; go_big_quiet_on
          refine rg_quiet rfl rfl rfl rfl ?_; intro K hK; go_big_quiet_op; go_big_quiet_on
          refine rg_quiet rfl rfl rfl rfl ?_; intro K hK; go_big_quiet_op; go_big_quiet_on
          refine rg_quiet rfl rfl rfl rfl ?_; intro K hK; go_big_quiet_op; go_big_quiet_on
          refine rg_quiet rfl rfl rfl rfl ?_; intro K hK; go_big_quiet_op; go_big_quiet_on
          refine rg_quiet rfl rfl rfl rfl ?_; intro K hK; go_big_quiet_op; go_big_quiet_on
          refine rg_quiet rfl rfl rfl rfl ?_; intro K hK; go_big_quiet_op; go_big_quiet_on
          refine rg_quiet rfl rfl rfl rfl ?_; intro K hK; go_big_quiet_op; go_big_quiet_on
          refine rg_quiet rfl rfl rfl rfl ?_; intro K hK; go_big_quiet_op; go_big_quiet_on
          refine rg_val [] rfl rfl rfl (by kernel_rfl) (fun w1 hE hf => ?_) ?_
          · go_simp
            exact (rgone_any r _ part w1).mono fun e w' ⟨he, hw⟩ => ⟨_, he, rg_done hE hw (int_congr HG.out.symm)⟩
          simp only [Act.put, List.setIfInBounds_toArray, List.set_cons_zero, List.set_cons_succ]
          refine rg_quiet rfl rfl rfl rfl ?_; intro K hK; go_big_quiet_op; go_big_quiet_on
          refine rg_quiet rfl rfl rfl rfl ?_; intro K hK; go_big_quiet_op; go_big_quiet_on
          refine rg_quiet rfl rfl rfl rfl ?_; intro K hK; go_big_quiet_op; go_big_quiet_on
          refine rg_quiet rfl rfl rfl rfl ?_; intro K hK; go_big_quiet_op; go_big_quiet_on
          refine rg_quiet rfl rfl rfl rfl ?_; intro K hK; go_big_quiet_op; go_big_quiet_on
          refine rg_quiet rfl rfl rfl rfl ?_; intro K hK; go_big_quiet_op; go_big_quiet_on
          refine rg_val [] rfl rfl rfl (by kernel_rfl) (fun w1 hE hf => ?_) ?_
          · go_simp
            exact (seen_any _ _ _ _ _ w1).mono fun e w' ⟨he, hw⟩ => ⟨_, he, rg_done hE hw (bool_congr hs0.out.symm)⟩
          simp only [Act.put, List.setIfInBounds_toArray, List.set_cons_zero, List.set_cons_succ]
          cases hs : seenCo M G now
          · refine rg_quiet rfl rfl rfl rfl ?_; intro K hK; go_big_quiet_op; go_big_quiet_on
            refine rel_nil fun w5 hE5 _ => ?_
            clear d0 d1 hs0
            obtain ⟨b2, b0, hE, hown⟩ := FIN.out w5 hE5
            clear x1 x2 x3 x4 y0 y1 y2 y3 y4 y5 y6 y7 hE5 FIN
            have hT2 := HT.out
            rw [hs] at hT2
            simp only [Bool.false_eq_true, if_false, List.append_nil] at hT2
            have HT2 := Lib.hid hT2
            clear hT2 HT hs
            go_wp2_with fail
            go_roundw
            case rel => exact ⟨k + 1, by omega, by go_num, b0, hE, by rw [HT2.out]; exact hown⟩
            case measure => simp [intOf] <;> omega
          · refine rg_quiet rfl rfl rfl rfl ?_; intro K hK; go_big_quiet_op; go_big_quiet_on
            refine rel_nil fun w5 hE5 _ => ?_
            clear d0 d1 hs0
            obtain ⟨b2, b0, hE, hown⟩ := FIN.out w5 hE5
            clear x1 x2 x3 x4 y0 y1 y2 y3 y4 y5 y6 y7 hE5 FIN
            obtain ⟨x0, x1, x2, x3, x4⟩ := b2.co
            have hT2 := HT.out
            rw [hs] at hT2
            simp only [if_true] at hT2
            have HT2 := Lib.hid hT2
            have hl0 := b0.lt
            clear hT2 HT hs
            go_wp2_with (at_builtin; go_must (refine appR info_Col und_Cols rfl (by decide) w5 rfl (.tmp 36) (.tmp 38) rfl (w.heap.size + 1) hl0 _ _ _ hown rfl 1 _ rfl rfl (by simp [Value.oneCell']) (by unfold maxLen; omega) (by omega) ?_); intro m3 w3 hown3 hg3)
            go_roundw
            case rel =>
              refine ⟨k + 1, by omega, by go_num, (b0.ext ((Ext.refl _).alloc _)).grown hg3 (fun h => ?_), (hE.alloc _).grown hg3 fun q hq => by have := (hown.lt q hq).1; omega, ?_⟩
              · have := (hown.lt _ h.symm).1
                omega
              · rw [HT2.out, coCells_append, List.length_append]
                exact hown3
            case measure => simp [intOf] <;> omega
      · rw [d0] at x2
        have hs : seenCo M G now = false := by unfold seenCo; rw [d0]; rfl
        refine rg_quiet rfl rfl rfl rfl ?_; intro K hK; go_big_quiet_op; go_big_quiet_on
        refine rg_quiet rfl rfl rfl rfl ?_; intro K hK; go_big_quiet_op; go_big_quiet_on
        refine rg_quiet rfl rfl rfl rfl ?_; intro K hK; go_big_quiet_op; go_big_quiet_on
        refine rg_quiet rfl rfl rfl rfl ?_; intro K hK; go_big_quiet_op; go_big_quiet_on
        refine rg_quiet rfl rfl rfl rfl ?_; intro K hK; go_big_quiet_op; go_big_quiet_on
        refine rel_skip rfl rfl ?_
        simp only [Act.put, List.setIfInBounds_toArray, List.set_cons_zero, List.set_cons_succ]
        refine rel_skip rfl rfl ?_
        simp only [Act.put, List.setIfInBounds_toArray, List.set_cons_zero, List.set_cons_succ]
        refine rel_skip rfl rfl ?_
        simp only [Act.put, List.setIfInBounds_toArray, List.set_cons_zero, List.set_cons_succ]
        refine rel_skip rfl rfl ?_
        simp only [Act.put, List.setIfInBounds_toArray, List.set_cons_zero, List.set_cons_succ]
        refine rel_skip rfl rfl ?_
        simp only [Act.put, List.setIfInBounds_toArray, List.set_cons_zero, List.set_cons_succ]
        refine rel_skip rfl rfl ?_
        simp only [Act.put, List.setIfInBounds_toArray, List.set_cons_zero, List.set_cons_succ]
        refine rel_skip rfl rfl ?_
        simp only [Act.put, List.setIfInBounds_toArray, List.set_cons_zero, List.set_cons_succ]
        refine rg_quiet rfl rfl rfl rfl ?_; intro K hK; go_big_quiet_op; go_big_quiet_on
        refine rg_quiet rfl rfl rfl rfl ?_; intro K hK; go_big_quiet_op; go_big_quiet_on
        refine rel_skip rfl rfl ?_
        simp only [Act.put, List.setIfInBounds_toArray, List.set_cons_zero, List.set_cons_succ]
        refine rel_skip rfl rfl ?_
        simp only [Act.put, List.setIfInBounds_toArray, List.set_cons_zero, List.set_cons_succ]
        refine rel_skip rfl rfl ?_
        simp only [Act.put, List.setIfInBounds_toArray, List.set_cons_zero, List.set_cons_succ]
        refine rel_skip rfl rfl ?_
        simp only [Act.put, List.setIfInBounds_toArray, List.set_cons_zero, List.set_cons_succ]
        refine rg_quiet rfl rfl rfl rfl ?_; intro K hK; go_big_quiet_op; go_big_quiet_on
        refine rel_nil fun w5 hE5 _ => ?_
        clear d0
        obtain ⟨b2, b0, hE, hown⟩ := FIN.out w5 hE5
        clear x1 x2 x3 x4 y0 y1 y2 y3 y4 y5 y6 y7 hE5 FIN
        have hT2 := HT.out
        rw [hs] at hT2
        simp only [Bool.false_eq_true, if_false, List.append_nil] at hT2
        have HT2 := Lib.hid hT2
        clear hT2 HT hs
        go_wp2_with fail
        go_roundw
        case rel => exact ⟨k + 1, by omega, by go_num, b0, hE, by rw [HT2.out]; exact hown⟩
        case measure => simp [intOf] <;> omega
    · obtain rfl : k = l.length := by omega
      rw [List.take_length] at hown
      go_wp2_with fail
      go_ret
      exact ⟨_, rfl, hown, hE⟩
end Go.Proofs.YteamiiekpjoclaaDoor

/- A slice of integers that comes in, read. -/
namespace Go.Proofs.YteamiiekpjoclaaDoor
open Go Go.RowKit Go.ChangeShapes Go.WideShapes Go.ChangeAt

/-- The cells of a list of integers. -/
def kcells (k : IntKind) (l : List Int) : List Value := l.map (Value.int k)
@[simp] theorem kcells_length (k : IntKind) (l : List Int) : (kcells k l).length = l.length := by simp [kcells]
theorem kcells_get (k : IntKind) (l : List Int) (i : Nat) : (kcells k l)[i]? = l[i]?.map (Value.int k) := by simp [kcells]
/-- v is a slice of integers that reads as l. -/
def IntsIn (w : World) (v : Value) (k : IntKind) (l : List Int) : Prop := SliceIn w v l.length (kcells k l)
theorem IntsIn.ext {w w' : World} (hE : Ext w w') {v : Value} {k : IntKind} {l : List Int} (h : IntsIn w v k l) : IntsIn w' v k l := SliceIn.ext hE h

theorem read_ints {P : Program} {H : Type} {enc : TypeId × Value → H} {W : World} {base : Nat} {t e : TypeId} {k : IntKind} {v : Value} {d : DataW H} {p : List MemPlace} (ht : P.underlying t = some (.slice e)) (he : P.underlying e = some (.int k)) (hc : P.cellsOf e = 1)
    (hv : Value.okWide P W .any base t v) (h : DataW.Trod enc P W 0 (fun _ => true) true t v d p) : ∃ l : List Int, IntsIn W v k l ∧ ∀ n ∈ l, (Lit.int k n).wf = true := by
  obtain ⟨a, len, cap, rfl⟩ := okWide_slice ht hv
  obtain ⟨fuel, hf⟩ := h
  rcases open_ints ht he hc hf with ⟨hcs, _⟩ | ⟨x, l, c, zs, hcs, _, hl, hm, hz, _, hcell, hwz⟩
  · simp [Value.cells] at hcs
    obtain ⟨rfl, rfl, rfl⟩ := hcs
    exact ⟨[], SliceIn.nil W, by simp⟩
  · simp [Value.cells] at hcs
    obtain ⟨rfl, rfl, rfl⟩ := hcs
    have hz' : zs.length = cap := by simpa using hz
    refine ⟨zs.take len, ?_, fun n hn => hwz n (List.mem_of_mem_take hn)⟩
    have hlen : (zs.take len).length = len := by simp; omega
    unfold IntsIn
    rw [hlen]
    refine ⟨some x, cap, rfl, hl, hm, nofun, fun j u hj => ?_⟩
    rw [kcells_get, List.getElem?_take] at hj
    split at hj
    · rename_i hlt
      have hjz : j < zs.length := by omega
      have hc := hcell j hjz
      have h0 := hcell 0 (by omega)
      obtain ⟨b, o, s⟩ := x
      have hs : s = none := by
        cases s with
        | none => rfl
        | some s =>
          simp only [Addr.add, if_pos] at h0
          unfold World.cell? at h0
          split at h0 <;> simp at h0
      subst hs
      refine ⟨b, o, rfl, ?_⟩
      rw [Addr.add_lit] at hc
      rw [hc, List.getD_eq_getElem?_getD]
      rw [List.getElem?_eq_getElem hjz] at hj ⊢
      simp at hj ⊢
      exact hj
    · cases hj
end Go.Proofs.YteamiiekpjoclaaDoor
