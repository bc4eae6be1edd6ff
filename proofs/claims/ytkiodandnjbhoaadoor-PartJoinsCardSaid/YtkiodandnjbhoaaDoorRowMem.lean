/- Rows and columns as plain data; how they lie in memory; row.Cell, row.Gone. -/
import Derived.Test.YtkiodandnjbhoaaDoorCellOne
import Derived.Test.YtkiodandnjbhoaaDoorGrow
namespace Go.Proofs.YtkiodandnjbhoaaDoor
open Go Go.RowKit
attribute [local go_sem] yields yUpon

structure Co where
  name : ByteArray
  cell : Cl
structure Ro where
  key : ByteArray
  live : Cl
  gone : Int
  shade : Int
  cols : List Co
@[simp] theorem Co.eta (c : Co) : Co.mk c.name c.cell = c := rfl
def zeroCl : Cl := ⟨⟨#[]⟩, false, 0, 0⟩
def coCells : List Co → List Value
  | [] => []
  | c :: l => .string c.name :: .string c.cell.val :: .bool c.cell.dead :: .int .i64 c.cell.at_ :: .int .i64 c.cell.fin :: coCells l
theorem coCells_length (l : List Co) : (coCells l).length = l.length * 5 := by
  induction l with
  | nil => rfl
  | cons c l ih => simp [coCells, ih]; omega
theorem coCells_append (l m : List Co) : coCells (l ++ m) = coCells l ++ coCells m := by
  induction l with
  | nil => rfl
  | cons c l ih => simp [coCells, ih]
theorem coCells_get : ∀ (l : List Co) (k : Nat) (h : k < l.length), (coCells l)[k * 5]? = some (.string l[k].name) ∧ (coCells l)[k * 5 + 1]? = some (.string l[k].cell.val) ∧ (coCells l)[k * 5 + 2]? = some (.bool l[k].cell.dead) ∧ (coCells l)[k * 5 + 3]? = some (.int .i64 l[k].cell.at_) ∧ (coCells l)[k * 5 + 4]? = some (.int .i64 l[k].cell.fin)
  | c :: l, 0, _ => by simp [coCells]
  | c :: l, k + 1, h => by
    have ih := coCells_get l k (by simpa using h)
    have e : (k + 1) * 5 = k * 5 + 5 := by omega
    simp only [e, coCells, List.getElem_cons_succ]
    exact ⟨by simpa using ih.1, by simpa using ih.2.1, by simpa using ih.2.2.1, by simpa using ih.2.2.2.1, by simpa using ih.2.2.2.2⟩
def ColsIn (w : World) (v : Value) (l : List Co) : Prop := SliceIn w v l.length (coCells l)
theorem ColsIn.ext {w w' : World} (hE : Ext w w') {v : Value} {l : List Co} (h : ColsIn w v l) : ColsIn w' v l := SliceIn.ext hE h
theorem ColsIn.nil (w : World) : ColsIn w (.slice none 0 0) [] := SliceIn.nil w
/-- A column at a place in memory. -/
structure CoAt (w : World) (b o : Nat) (c : Co) : Prop where
  c0 : w.cell? ⟨b, o, none⟩ = some (.string c.name)
  c1 : w.cell? ⟨b, o + 1, none⟩ = some (.string c.cell.val)
  c2 : w.cell? ⟨b, o + 2, none⟩ = some (.bool c.cell.dead)
  c3 : w.cell? ⟨b, o + 3, none⟩ = some (.int .i64 c.cell.at_)
  c4 : w.cell? ⟨b, o + 4, none⟩ = some (.int .i64 c.cell.fin)
theorem CoAt.ext {w w' : World} (hE : Ext w w') {b o : Nat} {c : Co} (h : CoAt w b o c) : CoAt w' b o c := ⟨hE.cell h.c0, hE.cell h.c1, hE.cell h.c2, hE.cell h.c3, hE.cell h.c4⟩
theorem ColsIn.get {w : World} {v : Value} {l : List Co} (h : ColsIn w v l) : ∃ a c, v = .slice a l.length c ∧ l.length ≤ c ∧ c ≤ 9223372036854775807 ∧ ∀ k (hk : k < l.length), ∃ b o, a = some ⟨b, o, none⟩ ∧ CoAt w b (o + k * 5) l[k] := by
  obtain ⟨a, c, rfl, hc, hcm, ha, hcell⟩ := h
  unfold maxLen at hcm
  refine ⟨a, c, rfl, hc, by omega, fun k hk => ?_⟩
  obtain ⟨g0, g1, g2, g3, g4⟩ := coCells_get l k hk
  obtain ⟨b, o, rfl, h0⟩ := hcell _ _ g0
  obtain ⟨b1, o1, e1, h1⟩ := hcell _ _ g1
  obtain ⟨b2, o2, e2, h2⟩ := hcell _ _ g2
  obtain ⟨b3, o3, e3, h3⟩ := hcell _ _ g3
  obtain ⟨b4, o4, e4, h4⟩ := hcell _ _ g4
  cases e1; cases e2; cases e3; cases e4
  exact ⟨b, o, rfl, h0, h1, h2, h3, h4⟩
def cl4 (c : Cl) : Array Value := #[.string c.val, .bool c.dead, .int .i64 c.at_, .int .i64 c.fin]
theorem BoxAt.cl {w : World} {p : Nat} {c : Cl} {T : TypeId} (h : BoxAt w p (cl4 c) T) : w.cell? ⟨p, 0, none⟩ = some (.string c.val) ∧ w.cell? ⟨p, 1, none⟩ = some (.bool c.dead) ∧ w.cell? ⟨p, 2, none⟩ = some (.int .i64 c.at_) ∧ w.cell? ⟨p, 3, none⟩ = some (.int .i64 c.fin) :=
  ⟨h.cell 0, h.cell 1, h.cell 2, h.cell 3⟩
theorem BoxAt.put4 {w : World} {p : Nat} {c d : Cl} {T : TypeId} (h : BoxAt w p (cl4 c) T) : BoxAt ((((w.setCell ⟨p, 0, none⟩ (.string d.val)).setCell ⟨p, 1, none⟩ (.bool d.dead)).setCell ⟨p, 2, none⟩ (.int .i64 d.at_)).setCell ⟨p, 3, none⟩ (.int .i64 d.fin)) p (cl4 d) T :=
  (((h.set 0 _).set 1 _).set 2 _).set 3 _
theorem Ext.put4 {a w : World} (h : Ext a w) {p : Nat} (hp : a.heap.size ≤ p) {v0 v1 v2 v3 : Value} : Ext a ((((w.setCell ⟨p, 0, none⟩ v0).setCell ⟨p, 1, none⟩ v1).setCell ⟨p, 2, none⟩ v2).setCell ⟨p, 3, none⟩ v3) :=
  (((h.setCell hp _).setCell hp _).setCell hp _).setCell hp _

/-- A column's cell. -/
def cellOf : List Co → ByteArray → Cl
  | [], _ => zeroCl
  | c :: l, n => if c.name.toList == n.toList then c.cell else cellOf l n

set_option maxRecDepth 100000 in
set_option maxHeartbeats 1000000 in
theorem rcell_any (r : Ro) (v : Value) (name : ByteArray) (w : World) (hin : ColsIn w v r.cols) :
    Calls Tryd.prog 26 #[(.agg #[.string r.key, .string r.live.val, .bool r.live.dead, .int .i64 r.live.at_, .int .i64 r.live.fin, .int .i64 r.gone, .int .i64 r.shade, v]), .string name] w fun e w' => e = .returned (.agg #[.string (cellOf r.cols name).val, .bool (cellOf r.cols name).dead, .int .i64 (cellOf r.cols name).at_, .int .i64 (cellOf r.cols name).fin]) ∧ Ext w w' := by
  obtain ⟨a, c, rfl, hc, hcm, hcell⟩ := hin.get
  obtain ⟨l, hl⟩ : ∃ l, l = r.cols := ⟨_, rfl⟩
  rw [← hl] at hcell hc ⊢
  have HC := Lib.hid hcell
  clear hcell hin hl
  go_enter Tryd.func26, Tryd.ntmps26
  go_wp2
  go_loopw [10] (fun i wr => ∃ k : Nat, k ≤ l.length ∧ i = .int .i64 k ∧ BoxAt wr (w.heap.size + 1) (cl4 zeroCl) 23 ∧ Ext w wr ∧ Hid (cellOf l name = cellOf (l.drop k) name)) (fun i _ => l.length - (intOf i).toNat)
  case atStart => exact ⟨0, Nat.zero_le _, rfl, by have := BoxAt.made (w.alloc (.cells #[.string r.key, .string r.live.val, .bool r.live.dead, .int .i64 r.live.at_, .int .i64 r.live.fin, .int .i64 r.gone, .int .i64 r.shade, .slice a l.length c] 26)) (cl4 zeroCl) 23; rw [Deep.nblk_alloc] at this; exact this, ((Ext.refl w).alloc _).alloc _, rfl⟩
  case round =>
    obtain ⟨k, hk, rfl, hbox, hE, HX⟩ := hrel
    have x0 := (hbox.cell 0).trans (show (cl4 zeroCl)[0]? = some (Value.string ⟨#[]⟩) from rfl)
    have x1 := (hbox.cell 1).trans (show (cl4 zeroCl)[1]? = some (Value.bool false) from rfl)
    have x2 := (hbox.cell 2).trans (show (cl4 zeroCl)[2]? = some (Value.int .i64 0) from rfl)
    have x3 := (hbox.cell 3).trans (show (cl4 zeroCl)[3]? = some (Value.int .i64 0) from rfl)
    have xf := hbox.free
    have yf : ∀ o i, (wr.alloc o).frozen? ⟨w.heap.size + 1, i, none⟩ = false := fun o i => (hbox.ext ((Ext.refl wr).alloc o)).free i
    have y0 : ∀ o, (wr.alloc o).cell? ⟨w.heap.size + 1, 0, none⟩ = some (.string ⟨#[]⟩) := fun o => (hbox.ext ((Ext.refl wr).alloc o)).cell 0
    have y1 : ∀ o, (wr.alloc o).cell? ⟨w.heap.size + 1, 1, none⟩ = some (.bool false) := fun o => (hbox.ext ((Ext.refl wr).alloc o)).cell 1
    have y2 : ∀ o, (wr.alloc o).cell? ⟨w.heap.size + 1, 2, none⟩ = some (.int .i64 0) := fun o => (hbox.ext ((Ext.refl wr).alloc o)).cell 2
    have y3 : ∀ o, (wr.alloc o).cell? ⟨w.heap.size + 1, 3, none⟩ = some (.int .i64 0) := fun o => (hbox.ext ((Ext.refl wr).alloc o)).cell 3
    by_cases hlt : k < l.length
    · obtain ⟨b, o, rfl, hco⟩ := HC.out k hlt
      obtain ⟨M, hM⟩ : ∃ M, M = l[k] := ⟨_, rfl⟩
      rw [← hM] at hco
      have HD : Hid (l.drop k = M :: l.drop (k + 1)) := by rw [hM]; exact List.drop_eq_getElem_cons hlt
      clear hM
      replace hco := hco.ext hE
      obtain ⟨g0, g1, g2, g3, g4⟩ := hco
      cases hname : (M.name.toList == name.toList)
      · go_wp2_with fail
        go_roundw
        case rel =>
          refine ⟨k + 1, by omega, by go_num, hbox.ext ((Ext.refl _).alloc _), hE.alloc _, ?_⟩
          show cellOf l name = _
          rw [HX.out, HD.out, cellOf, if_neg (by rw [hname]; decide)]
        case measure => simp [intOf] <;> omega
      · go_wp2_with fail
        have e1 : cellOf l name = M.cell := by rw [HX.out, HD.out, cellOf, if_pos hname]
        rw [e1]
        refine bodyPost_ret (v := (.agg #[.string M.cell.val, .bool M.cell.dead, .int .i64 M.cell.at_, .int .i64 M.cell.fin])) ?_ rfl ⟨rfl, (hE.alloc _).put4 (Nat.le_succ _)⟩
        generalize hW : World.setCell _ _ _ = w9
        have hb : BoxAt w9 (w.heap.size + 1) (cl4 M.cell) 23 := by rw [← hW]; exact (hbox.ext ((Ext.refl _).alloc _)).put4 (d := M.cell)
        obtain ⟨z0, z1, z2, z3⟩ := hb.cl
        simp [results, Tryd.results26, go_sem, z0, z1, z2, z3]
    · have e1 : cellOf l name = zeroCl := by rw [HX.out, List.drop_eq_nil_of_le (by omega)]; rfl
      go_wp2_with fail
      rw [e1]
      refine bodyPost_ret (v := (.agg #[.string zeroCl.val, .bool zeroCl.dead, .int .i64 zeroCl.at_, .int .i64 zeroCl.fin])) ?_ rfl ⟨rfl, hE.put4 (Nat.le_succ _)⟩
      generalize hW : World.setCell _ _ _ = w9
      have hb : BoxAt w9 (w.heap.size + 1) (cl4 zeroCl) 23 := by rw [← hW]; exact hbox.put4 (d := zeroCl)
      obtain ⟨z0, z1, z2, z3⟩ := hb.cl
      simp [results, Tryd.results26, go_sem, z0, z1, z2, z3]

set_option maxRecDepth 100000 in
set_option maxHeartbeats 1000000 in
theorem rgone_any (r : Ro) (v : Value) (part : Int) (w : World) :
    Calls Tryd.prog 20 #[(.agg #[.string r.key, .string r.live.val, .bool r.live.dead, .int .i64 r.live.at_, .int .i64 r.live.fin, .int .i64 r.gone, .int .i64 r.shade, v]), .int .i64 part] w fun e w' => e = .returned (.int .i64 (max r.gone part)) ∧ Ext w w' := by
  go_enter Tryd.func20, Tryd.ntmps20
  go_wp2
  all_goals
    go_ret
    exact ⟨ret_int (by omega), (Ext.refl w).alloc _⟩
end Go.Proofs.YtkiodandnjbhoaaDoor
