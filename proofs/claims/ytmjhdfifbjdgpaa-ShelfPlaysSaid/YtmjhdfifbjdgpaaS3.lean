/- Cells as one thing; cell.Seen, cell.Check. -/
import Derived.Test.YtmjhdfifbjdgpaaS1
import Derived.Test.YtmjhdfifbjdgpaaProg
import Derived.Deep.Light
set_option linter.unusedSimpArgs false
set_option linter.unusedVariables false
namespace Go.Proofs.Ytmjhdfifbjdgpaa
open Go Go.RowKit

structure Cl where
  val : ByteArray
  dead : Bool
  at_ : Int
  fin : Int
@[simp] theorem Cl.eta (c : Cl) : Cl.mk c.val c.dead c.at_ c.fin = c := rfl
def clCells : List Cl → List Value
  | [] => []
  | c :: l => .string c.val :: .bool c.dead :: .int .i64 c.at_ :: .int .i64 c.fin :: clCells l
theorem clCells_length (l : List Cl) : (clCells l).length = l.length * 4 := by
  induction l with
  | nil => rfl
  | cons c l ih => simp [clCells, ih]; omega
theorem clCells_get : ∀ (l : List Cl) (k : Nat) (h : k < l.length), (clCells l)[k * 4]? = some (.string l[k].val) ∧ (clCells l)[k * 4 + 1]? = some (.bool l[k].dead) ∧ (clCells l)[k * 4 + 2]? = some (.int .i64 l[k].at_) ∧ (clCells l)[k * 4 + 3]? = some (.int .i64 l[k].fin)
  | c :: l, 0, _ => by simp [clCells]
  | c :: l, k + 1, h => by
    have ih := clCells_get l k (by simpa using h)
    have e : (k + 1) * 4 = k * 4 + 4 := by omega
    simp only [e, clCells, List.getElem_cons_succ]
    exact ⟨by simpa using ih.1, by simpa using ih.2.1, by simpa using ih.2.2.1, by simpa using ih.2.2.2⟩
def ClsIn (w : World) (v : Value) (l : List Cl) : Prop := SliceIn w v l.length (clCells l)
theorem ClsIn.ext {w w' : World} (hE : Ext w w') {v : Value} {l : List Cl} (h : ClsIn w v l) : ClsIn w' v l := SliceIn.ext hE h
/-- A cell in memory. -/
structure CellAt (w : World) (b : Nat) (c : Cl) : Prop where
  c0 : w.cell? ⟨b, 0, none⟩ = some (.string c.val)
  c1 : w.cell? ⟨b, 1, none⟩ = some (.bool c.dead)
  c2 : w.cell? ⟨b, 2, none⟩ = some (.int .i64 c.at_)
  c3 : w.cell? ⟨b, 3, none⟩ = some (.int .i64 c.fin)
theorem CellAt.ext {w w' : World} (hE : Ext w w') {b : Nat} {c : Cl} (h : CellAt w b c) : CellAt w' b c := ⟨hE.cell h.c0, hE.cell h.c1, hE.cell h.c2, hE.cell h.c3⟩
theorem agg_congr {x y : Cl} (h : x = y) : ((.agg #[.string x.val, .bool x.dead, .int .i64 x.at_, .int .i64 x.fin]) : Value) = (.agg #[.string y.val, .bool y.dead, .int .i64 y.at_, .int .i64 y.fin]) := by rw [h]
theorem bool_congr {x y : Bool} (h : x = y) : Value.bool x = Value.bool y := by rw [h]
theorem int_congr {x y : Int} (h : x = y) : Value.int .i64 x = Value.int .i64 y := by rw [h]
def seenB (d : Bool) (a e now : Int) : Bool := decide (0 < a) && !d && (e == 0 || decide (now < e))
def stampB (v : Int) : Bool := decide (0 ≤ v) && decide (v ≤ 1099511627776)
def checkC (v : ByteArray) (d : Bool) (a e : Int) : Bool :=
  stampB a && stampB e && (if a = 0 then v.toList == [] && !d && e == 0 else if d then v.toList == [] && e == 0 else decide (v.size ≤ 100))

set_option maxHeartbeats 400000 in
theorem seen_any (v : ByteArray) (d : Bool) (a e n : Int) (w : World) :
    Calls Try.prog 85 #[.agg #[.string v, .bool d, .int .i64 a, .int .i64 e], .int .i64 n] w fun r w' => r = .returned (.bool (seenB d a e n)) ∧ Ext w w' := by
  go_enter Try.func85, Try.ntmps85
  go_wp2
  all_goals
    go_ret
    refine ⟨?_, (Ext.refl w).alloc _⟩
    refine ret_bool ?_
    first
    | (simp [seenB, *]; done)
    | (have h0 : ¬ 0 < a := by omega
       simp [seenB, h0])

end Go.Proofs.Ytmjhdfifbjdgpaa

/- Rows and columns as plain data; how they lie in memory; row.Cell, row.Gone. -/
namespace Go.Proofs.Ytmjhdfifbjdgpaa
open Go Go.RowKit
attribute [local go_sem] yields yUpon

structure Co where
  name : ByteArray
  cell : Cl
structure Ro where
  key : ByteArray
  live : Cl
  gone : Int
  shade : Int
  cols : List Co
@[simp] theorem Co.eta (c : Co) : Co.mk c.name c.cell = c := rfl
def zeroCl : Cl := ⟨⟨#[]⟩, false, 0, 0⟩
def coCells : List Co → List Value
  | [] => []
  | c :: l => .string c.name :: .string c.cell.val :: .bool c.cell.dead :: .int .i64 c.cell.at_ :: .int .i64 c.cell.fin :: coCells l
theorem coCells_length (l : List Co) : (coCells l).length = l.length * 5 := by
  induction l with
  | nil => rfl
  | cons c l ih => simp [coCells, ih]; omega
theorem coCells_append (l m : List Co) : coCells (l ++ m) = coCells l ++ coCells m := by
  induction l with
  | nil => rfl
  | cons c l ih => simp [coCells, ih]
theorem coCells_get : ∀ (l : List Co) (k : Nat) (h : k < l.length), (coCells l)[k * 5]? = some (.string l[k].name) ∧ (coCells l)[k * 5 + 1]? = some (.string l[k].cell.val) ∧ (coCells l)[k * 5 + 2]? = some (.bool l[k].cell.dead) ∧ (coCells l)[k * 5 + 3]? = some (.int .i64 l[k].cell.at_) ∧ (coCells l)[k * 5 + 4]? = some (.int .i64 l[k].cell.fin)
  | c :: l, 0, _ => by simp [coCells]
  | c :: l, k + 1, h => by
    have ih := coCells_get l k (by simpa using h)
    have e : (k + 1) * 5 = k * 5 + 5 := by omega
    simp only [e, coCells, List.getElem_cons_succ]
    exact ⟨by simpa using ih.1, by simpa using ih.2.1, by simpa using ih.2.2.1, by simpa using ih.2.2.2.1, by simpa using ih.2.2.2.2⟩
def ColsIn (w : World) (v : Value) (l : List Co) : Prop := SliceIn w v l.length (coCells l)
theorem ColsIn.ext {w w' : World} (hE : Ext w w') {v : Value} {l : List Co} (h : ColsIn w v l) : ColsIn w' v l := SliceIn.ext hE h
theorem ColsIn.nil (w : World) : ColsIn w (.slice none 0 0) [] := SliceIn.nil w
/-- A column at a place in memory. -/
structure CoAt (w : World) (b o : Nat) (c : Co) : Prop where
  c0 : w.cell? ⟨b, o, none⟩ = some (.string c.name)
  c1 : w.cell? ⟨b, o + 1, none⟩ = some (.string c.cell.val)
  c2 : w.cell? ⟨b, o + 2, none⟩ = some (.bool c.cell.dead)
  c3 : w.cell? ⟨b, o + 3, none⟩ = some (.int .i64 c.cell.at_)
  c4 : w.cell? ⟨b, o + 4, none⟩ = some (.int .i64 c.cell.fin)
theorem CoAt.ext {w w' : World} (hE : Ext w w') {b o : Nat} {c : Co} (h : CoAt w b o c) : CoAt w' b o c := ⟨hE.cell h.c0, hE.cell h.c1, hE.cell h.c2, hE.cell h.c3, hE.cell h.c4⟩
theorem ColsIn.get {w : World} {v : Value} {l : List Co} (h : ColsIn w v l) : ∃ a c, v = .slice a l.length c ∧ l.length ≤ c ∧ c ≤ 9223372036854775807 ∧ ∀ k (hk : k < l.length), ∃ b o, a = some ⟨b, o, none⟩ ∧ CoAt w b (o + k * 5) l[k] := by
  obtain ⟨a, c, rfl, hc, hcm, ha, hcell⟩ := h
  unfold maxLen at hcm
  refine ⟨a, c, rfl, hc, by omega, fun k hk => ?_⟩
  obtain ⟨g0, g1, g2, g3, g4⟩ := coCells_get l k hk
  obtain ⟨b, o, rfl, h0⟩ := hcell _ _ g0
  obtain ⟨b1, o1, e1, h1⟩ := hcell _ _ g1
  obtain ⟨b2, o2, e2, h2⟩ := hcell _ _ g2
  obtain ⟨b3, o3, e3, h3⟩ := hcell _ _ g3
  obtain ⟨b4, o4, e4, h4⟩ := hcell _ _ g4
  cases e1; cases e2; cases e3; cases e4
  exact ⟨b, o, rfl, h0, h1, h2, h3, h4⟩
def cl4 (c : Cl) : Array Value := #[.string c.val, .bool c.dead, .int .i64 c.at_, .int .i64 c.fin]
theorem BoxAt.cl {w : World} {p : Nat} {c : Cl} {T : TypeId} (h : BoxAt w p (cl4 c) T) : w.cell? ⟨p, 0, none⟩ = some (.string c.val) ∧ w.cell? ⟨p, 1, none⟩ = some (.bool c.dead) ∧ w.cell? ⟨p, 2, none⟩ = some (.int .i64 c.at_) ∧ w.cell? ⟨p, 3, none⟩ = some (.int .i64 c.fin) :=
  ⟨h.cell 0, h.cell 1, h.cell 2, h.cell 3⟩
theorem BoxAt.put4 {w : World} {p : Nat} {c d : Cl} {T : TypeId} (h : BoxAt w p (cl4 c) T) : BoxAt ((((w.setCell ⟨p, 0, none⟩ (.string d.val)).setCell ⟨p, 1, none⟩ (.bool d.dead)).setCell ⟨p, 2, none⟩ (.int .i64 d.at_)).setCell ⟨p, 3, none⟩ (.int .i64 d.fin)) p (cl4 d) T :=
  (((h.set 0 _).set 1 _).set 2 _).set 3 _
theorem Ext.put4 {a w : World} (h : Ext a w) {p : Nat} (hp : a.heap.size ≤ p) {v0 v1 v2 v3 : Value} : Ext a ((((w.setCell ⟨p, 0, none⟩ v0).setCell ⟨p, 1, none⟩ v1).setCell ⟨p, 2, none⟩ v2).setCell ⟨p, 3, none⟩ v3) :=
  (((h.setCell hp _).setCell hp _).setCell hp _).setCell hp _

/-- A column's cell. -/
def cellOf : List Co → ByteArray → Cl
  | [], _ => zeroCl
  | c :: l, n => if c.name.toList == n.toList then c.cell else cellOf l n

set_option maxRecDepth 100000 in
set_option maxHeartbeats 1000000 in
theorem rcell_any (r : Ro) (v : Value) (name : ByteArray) (w : World) (hin : ColsIn w v r.cols) :
    Calls Try.prog 110 #[(.agg #[.string r.key, .string r.live.val, .bool r.live.dead, .int .i64 r.live.at_, .int .i64 r.live.fin, .int .i64 r.gone, .int .i64 r.shade, v]), .string name] w fun e w' => e = .returned (.agg #[.string (cellOf r.cols name).val, .bool (cellOf r.cols name).dead, .int .i64 (cellOf r.cols name).at_, .int .i64 (cellOf r.cols name).fin]) ∧ Ext w w' := by
  obtain ⟨a, c, rfl, hc, hcm, hcell⟩ := hin.get
  obtain ⟨l, hl⟩ : ∃ l, l = r.cols := ⟨_, rfl⟩
  rw [← hl] at hcell hc ⊢
  have HC := Lib.hid hcell
  clear hcell hin hl
  go_enter Try.func110, Try.ntmps110
  go_wp2
  go_loopw [10] (fun i wr => ∃ k : Nat, k ≤ l.length ∧ i = .int .i64 k ∧ BoxAt wr (w.heap.size + 1) (cl4 zeroCl) 86 ∧ Ext w wr ∧ Hid (cellOf l name = cellOf (l.drop k) name)) (fun i _ => l.length - (intOf i).toNat)
  case atStart => exact ⟨0, Nat.zero_le _, rfl, by have := BoxAt.made (w.alloc (.cells #[.string r.key, .string r.live.val, .bool r.live.dead, .int .i64 r.live.at_, .int .i64 r.live.fin, .int .i64 r.gone, .int .i64 r.shade, .slice a l.length c] 89)) (cl4 zeroCl) 86; rw [Deep.nblk_alloc] at this; exact this, ((Ext.refl w).alloc _).alloc _, rfl⟩
  case round =>
    obtain ⟨k, hk, rfl, hbox, hE, HX⟩ := hrel
    have x0 := (hbox.cell 0).trans (show (cl4 zeroCl)[0]? = some (Value.string ⟨#[]⟩) from rfl)
    have x1 := (hbox.cell 1).trans (show (cl4 zeroCl)[1]? = some (Value.bool false) from rfl)
    have x2 := (hbox.cell 2).trans (show (cl4 zeroCl)[2]? = some (Value.int .i64 0) from rfl)
    have x3 := (hbox.cell 3).trans (show (cl4 zeroCl)[3]? = some (Value.int .i64 0) from rfl)
    have xf := hbox.free
    have yf : ∀ o i, (wr.alloc o).frozen? ⟨w.heap.size + 1, i, none⟩ = false := fun o i => (hbox.ext ((Ext.refl wr).alloc o)).free i
    have y0 : ∀ o, (wr.alloc o).cell? ⟨w.heap.size + 1, 0, none⟩ = some (.string ⟨#[]⟩) := fun o => (hbox.ext ((Ext.refl wr).alloc o)).cell 0
    have y1 : ∀ o, (wr.alloc o).cell? ⟨w.heap.size + 1, 1, none⟩ = some (.bool false) := fun o => (hbox.ext ((Ext.refl wr).alloc o)).cell 1
    have y2 : ∀ o, (wr.alloc o).cell? ⟨w.heap.size + 1, 2, none⟩ = some (.int .i64 0) := fun o => (hbox.ext ((Ext.refl wr).alloc o)).cell 2
    have y3 : ∀ o, (wr.alloc o).cell? ⟨w.heap.size + 1, 3, none⟩ = some (.int .i64 0) := fun o => (hbox.ext ((Ext.refl wr).alloc o)).cell 3
    by_cases hlt : k < l.length
    · obtain ⟨b, o, rfl, hco⟩ := HC.out k hlt
      obtain ⟨M, hM⟩ : ∃ M, M = l[k] := ⟨_, rfl⟩
      rw [← hM] at hco
      have HD : Hid (l.drop k = M :: l.drop (k + 1)) := by rw [hM]; exact List.drop_eq_getElem_cons hlt
      clear hM
      replace hco := hco.ext hE
      obtain ⟨g0, g1, g2, g3, g4⟩ := hco
      cases hname : (M.name.toList == name.toList)
      · go_wp2_with fail
        go_roundw
        case rel =>
          refine ⟨k + 1, by omega, by go_num, hbox.ext ((Ext.refl _).alloc _), hE.alloc _, ?_⟩
          show cellOf l name = _
          rw [HX.out, HD.out, cellOf, if_neg (by rw [hname]; decide)]
        case measure => simp [intOf] <;> omega
      · go_wp2_with fail
        have e1 : cellOf l name = M.cell := by rw [HX.out, HD.out, cellOf, if_pos hname]
        rw [e1]
        refine bodyPost_ret (v := (.agg #[.string M.cell.val, .bool M.cell.dead, .int .i64 M.cell.at_, .int .i64 M.cell.fin])) ?_ rfl ⟨rfl, (hE.alloc _).put4 (Nat.le_succ _)⟩
        generalize hW : World.setCell _ _ _ = w9
        have hb : BoxAt w9 (w.heap.size + 1) (cl4 M.cell) 86 := by rw [← hW]; exact (hbox.ext ((Ext.refl _).alloc _)).put4 (d := M.cell)
        obtain ⟨z0, z1, z2, z3⟩ := hb.cl
        simp [results, Try.results110, go_sem, z0, z1, z2, z3]
    · have e1 : cellOf l name = zeroCl := by rw [HX.out, List.drop_eq_nil_of_le (by omega)]; rfl
      go_wp2_with fail
      rw [e1]
      refine bodyPost_ret (v := (.agg #[.string zeroCl.val, .bool zeroCl.dead, .int .i64 zeroCl.at_, .int .i64 zeroCl.fin])) ?_ rfl ⟨rfl, hE.put4 (Nat.le_succ _)⟩
      generalize hW : World.setCell _ _ _ = w9
      have hb : BoxAt w9 (w.heap.size + 1) (cl4 zeroCl) 86 := by rw [← hW]; exact hbox.put4 (d := zeroCl)
      obtain ⟨z0, z1, z2, z3⟩ := hb.cl
      simp [results, Try.results110, go_sem, z0, z1, z2, z3]

set_option maxRecDepth 100000 in
set_option maxHeartbeats 1000000 in
theorem rgone_any (r : Ro) (v : Value) (part : Int) (w : World) :
    Calls Try.prog 79 #[(.agg #[.string r.key, .string r.live.val, .bool r.live.dead, .int .i64 r.live.at_, .int .i64 r.live.fin, .int .i64 r.gone, .int .i64 r.shade, v]), .int .i64 part] w fun e w' => e = .returned (.int .i64 (max r.gone part)) ∧ Ext w w' := by
  go_enter Try.func79, Try.ntmps79
  go_wp2
  all_goals
    go_ret
    exact ⟨ret_int (by omega), (Ext.refl w).alloc _⟩
end Go.Proofs.Ytmjhdfifbjdgpaa

/- row.Best. -/
namespace Go.Proofs.Ytmjhdfifbjdgpaa
open Go Go.RowKit
attribute [local go_sem] yields yUpon

def ro8 (r : Ro) (v : Value) : Array Value := #[.string r.key, .string r.live.val, .bool r.live.dead, .int .i64 r.live.at_, .int .i64 r.live.fin, .int .i64 r.gone, .int .i64 r.shade, v]
theorem BoxAt.ro {w : World} {p : Nat} {r : Ro} {v : Value} {T : TypeId} (h : BoxAt w p (ro8 r v) T) : w.cell? ⟨p, 0, none⟩ = some (.string r.key) ∧ w.cell? ⟨p, 1, none⟩ = some (.string r.live.val) ∧ w.cell? ⟨p, 2, none⟩ = some (.bool r.live.dead) ∧ w.cell? ⟨p, 3, none⟩ = some (.int .i64 r.live.at_) ∧ w.cell? ⟨p, 4, none⟩ = some (.int .i64 r.live.fin) ∧ w.cell? ⟨p, 5, none⟩ = some (.int .i64 r.gone) ∧ w.cell? ⟨p, 6, none⟩ = some (.int .i64 r.shade) ∧ w.cell? ⟨p, 7, none⟩ = some v :=
  ⟨h.cell 0, h.cell 1, h.cell 2, h.cell 3, h.cell 4, h.cell 5, h.cell 6, h.cell 7⟩

def pa3 (k : ByteArray) (g : Int) (u : Value) : Array Value := #[.string k, .int .i64 g, u]
theorem BoxAt.pa {w : World} {p : Nat} {k : ByteArray} {g : Int} {u : Value} {T : TypeId} (h : BoxAt w p (pa3 k g u) T) : w.cell? ⟨p, 0, none⟩ = some (.string k) ∧ w.cell? ⟨p, 1, none⟩ = some (.int .i64 g) ∧ w.cell? ⟨p, 2, none⟩ = some u := ⟨h.cell 0, h.cell 1, h.cell 2⟩

/-- Does a cell count? -/
def bestB (c : Cl) (g : Int) : Bool := !(c.dead || decide (c.at_ < 1) || decide (c.at_ ≤ g))
def bestC (c : Cl) (g : Int) : Cl := if bestB c g then c else zeroCl

set_option maxRecDepth 100000 in
set_option maxHeartbeats 2000000 in
theorem best_any (r : Ro) (v : Value) (part : Int) (name : ByteArray) (w : World) (hin : ColsIn w v r.cols) :
    Calls Try.prog 99 #[(.agg #[.string r.key, .string r.live.val, .bool r.live.dead, .int .i64 r.live.at_, .int .i64 r.live.fin, .int .i64 r.gone, .int .i64 r.shade, v]), .int .i64 part, .string name] w fun e w' =>
      e = .returned (.tuple #[(.agg #[.string (bestC (cellOf r.cols name) (max r.gone part)).val, .bool (bestC (cellOf r.cols name) (max r.gone part)).dead, .int .i64 (bestC (cellOf r.cols name) (max r.gone part)).at_, .int .i64 (bestC (cellOf r.cols name) (max r.gone part)).fin]), .bool (bestB (cellOf r.cols name) (max r.gone part))]) ∧ Ext w w' := by
  obtain ⟨c, hc⟩ : ∃ c, c = cellOf r.cols name := ⟨_, rfl⟩
  rw [← hc]
  have HC := Lib.hid hc
  clear hc
  go_enter Try.func99, Try.ntmps99
  go_wp2_with fail
  refine (rcell_any r v name _ (hin.ext (((Ext.refl w).alloc _).alloc _))).mono ?_
  rw [← HC.out]
  rintro e w1 ⟨rfl, hE1⟩
  have b0 : BoxAt w1 w.heap.size (ro8 r v) 89 := ((BoxAt.made w (ro8 r v) 89).ext ((Ext.refl _).alloc _)).ext hE1
  have b1 : BoxAt w1 (w.heap.size + 1) (cl4 zeroCl) 86 := (by have := BoxAt.made (w.alloc (.cells (ro8 r v) 89)) (cl4 zeroCl) 86; rw [Deep.nblk_alloc] at this; exact this : BoxAt _ (w.heap.size + 1) (cl4 zeroCl) 86).ext hE1
  replace hE1 := (((Ext.refl w).alloc _).alloc _).trans hE1
  go_wp2_with fail
  refine wp_region_in 15 [(12, fun v _ => v = .int .i64 (max r.gone part))] (fun w0 => BoxAt w0 w1.heap.size (cl4 c) 86 ∧ BoxAt w0 w.heap.size (ro8 r v) 89 ∧ BoxAt w0 (w.heap.size + 1) (cl4 zeroCl) 86 ∧ Ext w w0) (by kernel_rfl) (by kernel_rfl) (by kernel_rfl) ⟨stays_eq _, trivial⟩ ?_ ?_
  · exact ⟨BoxAt.made _ _ _, b0.ext ((Ext.refl _).alloc _), b1.ext ((Ext.refl _).alloc _), hE1.alloc _⟩
  clear b0 b1 hE1
  rintro w2 ⟨b2, b0, b1, hE⟩
  have fin : ∀ (wx : World), Ext w2 wx → BoxAt wx w1.heap.size (cl4 c) 86 ∧ BoxAt wx (w.heap.size + 1) (cl4 zeroCl) 86 ∧ Ext w wx := fun wx h => ⟨b2.ext h, b1.ext h, hE.trans h⟩
  have FIN := Lib.hid fin
  clear fin b1
  obtain ⟨x0, x1, x2, x3⟩ := b2.cl
  obtain ⟨y0, y1, y2, y3, y4, y5, y6, y7⟩ := b0.ro
  clear b2 b0
  replace x1 := held x1
  replace x2 := held x2
  replace y0 := held y0
  replace y1 := held y1
  replace y2 := held y2
  replace y3 := held y3
  replace y4 := held y4
  replace y5 := held y5
  replace y6 := held y6
  replace y7 := held y7
  clear x0 x3
  by_cases hb : bestB c (max r.gone part) = true
  · have hb0 := hb
    simp only [bestB, Bool.not_eq_true', Bool.or_eq_false_iff] at hb0
    obtain ⟨⟨d0, d1⟩, d2⟩ := hb0
    have HB : Hid (bestC c (max r.gone part) = c ∧ bestB c (max r.gone part) = true) := ⟨by unfold bestC; rw [if_pos hb], hb⟩
    rw [d0] at x1
    clear hb
    refine rg_quiet rfl rfl rfl rfl ?_; intro K hK; go_big_quiet_op; go_big_quiet_on
    refine rg_quiet rfl rfl rfl rfl ?_; intro K hK; go_big_quiet_op; go_big_quiet_on
    refine rg_quiet rfl rfl rfl rfl ?_; intro K hK; go_big_quiet_op; go_big_quiet_on
    refine rg_quiet rfl rfl rfl rfl ?_; intro K hK; go_big_quiet_op; go_big_quiet_on
    refine rg_quiet rfl rfl rfl rfl ?_; intro K hK; go_big_quiet_op; go_big_quiet_on
    refine rg_quiet rfl rfl rfl rfl ?_; intro K hK; go_big_quiet_op; go_big_quiet_on
    refine rg_quiet rfl rfl rfl rfl ?_; intro K hK; go_big_quiet_op; go_big_quiet_on
    refine rg_quiet rfl rfl rfl rfl ?_; intro K hK; go_big_quiet_op; go_big_quiet_on
    refine rg_quiet rfl rfl rfl rfl ?_; intro K hK; go_big_quiet_op; go_big_quiet_on
    refine rg_quiet rfl rfl rfl rfl ?_; intro K hK; go_big_quiet_op; go_big_quiet_on
    refine rg_quiet rfl rfl rfl rfl ?_; intro K hK; go_big_quiet_op; go_big_quiet_on
    refine rg_quiet rfl rfl rfl rfl ?_; intro K hK; go_big_quiet_op; go_big_quiet_on
    refine rg_val [] rfl rfl rfl (by kernel_rfl) (fun w1 hE hf => ?_) ?_
    · go_simp
      exact (rgone_any r v part w1).mono fun e w' ⟨he, hw⟩ => ⟨_, he, rg_done hE hw (rfl)⟩
    simp only [Act.put, List.setIfInBounds_toArray, List.set_cons_zero, List.set_cons_succ]
    refine rg_quiet rfl rfl rfl rfl ?_; intro K hK; go_big_quiet_op; go_big_quiet_on
    refine rg_quiet rfl rfl rfl rfl ?_; intro K hK; go_big_quiet_op; go_big_quiet_on
    refine rel_nil fun w5 hE5 _ => ?_
    obtain ⟨b2, b1, hX⟩ := FIN.out w5 hE5
    clear d0 d1 d2 x1 x2 y0 y1 y2 y3 y4 y5 y6 y7 hE5 FIN hE
    obtain ⟨x0, x1, x2, x3⟩ := b2.cl
    obtain ⟨z0, z1, z2, z3⟩ := b1.cl
    have xf := b1.free
    go_wp2_with fail
    rw [HB.out.1, HB.out.2]
    refine bodyPost_ret (v := .tuple #[(.agg #[.string c.val, .bool c.dead, .int .i64 c.at_, .int .i64 c.fin]), .bool true]) ?_ rfl ⟨rfl, hX.put4 (Nat.le_succ _)⟩
    generalize hW : World.setCell _ _ _ = w9
    have hb : BoxAt w9 (w.heap.size + 1) (cl4 c) 86 := by rw [← hW]; exact b1.put4 (d := c)
    obtain ⟨q0, q1, q2, q3⟩ := hb.cl
    simp [results, Try.results99, go_sem, q0, q1, q2, q3]
  · have HB : Hid (bestC c (max r.gone part) = zeroCl ∧ bestB c (max r.gone part) = false) := by simp only [Bool.not_eq_true] at hb; exact ⟨by unfold bestC; rw [if_neg (by rw [hb]; decide)], hb⟩
    cases d0 : c.dead
    · rw [d0] at x1
      cases d1 : decide (c.at_ < 1)
      · have d2 : decide (c.at_ ≤ max r.gone part) = true := by
          simp only [bestB, Bool.not_eq_true', d0, d1] at hb
          simpa using hb
        clear hb
        refine rg_quiet rfl rfl rfl rfl ?_; intro K hK; go_big_quiet_op; go_big_quiet_on
        refine rg_quiet rfl rfl rfl rfl ?_; intro K hK; go_big_quiet_op; go_big_quiet_on
        refine rg_quiet rfl rfl rfl rfl ?_; intro K hK; go_big_quiet_op; go_big_quiet_on
        refine rg_quiet rfl rfl rfl rfl ?_; intro K hK; go_big_quiet_op; go_big_quiet_on
        refine rg_quiet rfl rfl rfl rfl ?_; intro K hK; go_big_quiet_op; go_big_quiet_on
        refine rg_quiet rfl rfl rfl rfl ?_; intro K hK; go_big_quiet_op; go_big_quiet_on
        refine rg_quiet rfl rfl rfl rfl ?_; intro K hK; go_big_quiet_op; go_big_quiet_on
        refine rg_quiet rfl rfl rfl rfl ?_; intro K hK; go_big_quiet_op; go_big_quiet_on
        refine rg_quiet rfl rfl rfl rfl ?_; intro K hK; go_big_quiet_op; go_big_quiet_on
        refine rg_quiet rfl rfl rfl rfl ?_; intro K hK; go_big_quiet_op; go_big_quiet_on
        refine rg_quiet rfl rfl rfl rfl ?_; intro K hK; go_big_quiet_op; go_big_quiet_on
        refine rg_quiet rfl rfl rfl rfl ?_; intro K hK; go_big_quiet_op; go_big_quiet_on
        refine rg_val [] rfl rfl rfl (by kernel_rfl) (fun w1 hE hf => ?_) ?_
        · go_simp
          exact (rgone_any r v part w1).mono fun e w' ⟨he, hw⟩ => ⟨_, he, rg_done hE hw (rfl)⟩
        simp only [Act.put, List.setIfInBounds_toArray, List.set_cons_zero, List.set_cons_succ]
        refine rg_quiet rfl rfl rfl rfl ?_; intro K hK; go_big_quiet_op; go_big_quiet_on
        refine rg_quiet rfl rfl rfl rfl ?_; intro K hK; go_big_quiet_op; go_big_quiet_on
        refine rel_nil fun w5 hE5 _ => ?_
        obtain ⟨b2, b1, hX⟩ := FIN.out w5 hE5
        clear x1 x2 y0 y1 y2 y3 y4 y5 y6 y7 hE5 FIN hE
        obtain ⟨z0, z1, z2, z3⟩ := b1.cl
        have xf := b1.free
        go_wp2_with fail
        rw [HB.out.1, HB.out.2]
        refine bodyPost_ret (v := .tuple #[(.agg #[.string zeroCl.val, .bool zeroCl.dead, .int .i64 zeroCl.at_, .int .i64 zeroCl.fin]), .bool false]) ?_ rfl ⟨rfl, hX.put4 (Nat.le_succ _)⟩
        generalize hW : World.setCell _ _ _ = w9
        have hb : BoxAt w9 (w.heap.size + 1) (cl4 zeroCl) 86 := by rw [← hW]; exact b1.put4 (d := zeroCl)
        obtain ⟨q0, q1, q2, q3⟩ := hb.cl
        simp [results, Try.results99, go_sem, q0, q1, q2, q3]
      · clear hb
        refine rg_quiet rfl rfl rfl rfl ?_; intro K hK; go_big_quiet_op; go_big_quiet_on
        refine rg_quiet rfl rfl rfl rfl ?_; intro K hK; go_big_quiet_op; go_big_quiet_on
        refine rg_quiet rfl rfl rfl rfl ?_; intro K hK; go_big_quiet_op; go_big_quiet_on
        refine rg_quiet rfl rfl rfl rfl ?_; intro K hK; go_big_quiet_op; go_big_quiet_on
        refine rg_quiet rfl rfl rfl rfl ?_; intro K hK; go_big_quiet_op; go_big_quiet_on
        refine rg_quiet rfl rfl rfl rfl ?_; intro K hK; go_big_quiet_op; go_big_quiet_on
        refine rg_quiet rfl rfl rfl rfl ?_; intro K hK; go_big_quiet_op; go_big_quiet_on
        refine rg_quiet rfl rfl rfl rfl ?_; intro K hK; go_big_quiet_op; go_big_quiet_on
        refine rel_skip rfl rfl ?_
        simp only [Act.put, List.setIfInBounds_toArray, List.set_cons_zero, List.set_cons_succ]
        refine rel_skip rfl rfl ?_
        simp only [Act.put, List.setIfInBounds_toArray, List.set_cons_zero, List.set_cons_succ]
        refine rel_skip rfl rfl ?_
        simp only [Act.put, List.setIfInBounds_toArray, List.set_cons_zero, List.set_cons_succ]
        refine rel_skip rfl rfl ?_
        simp only [Act.put, List.setIfInBounds_toArray, List.set_cons_zero, List.set_cons_succ]
        refine rel_skip rfl rfl ?_
        simp only [Act.put, List.setIfInBounds_toArray, List.set_cons_zero, List.set_cons_succ]
        refine rel_skip rfl rfl ?_
        simp only [Act.put, List.setIfInBounds_toArray, List.set_cons_zero, List.set_cons_succ]
        refine rg_quiet rfl rfl rfl rfl ?_; intro K hK; go_big_quiet_op; go_big_quiet_on
        refine rel_nil fun w5 hE5 _ => ?_
        obtain ⟨b2, b1, hX⟩ := FIN.out w5 hE5
        clear x1 x2 y0 y1 y2 y3 y4 y5 y6 y7 hE5 FIN hE
        obtain ⟨z0, z1, z2, z3⟩ := b1.cl
        have xf := b1.free
        go_wp2_with fail
        rw [HB.out.1, HB.out.2]
        refine bodyPost_ret (v := .tuple #[(.agg #[.string zeroCl.val, .bool zeroCl.dead, .int .i64 zeroCl.at_, .int .i64 zeroCl.fin]), .bool false]) ?_ rfl ⟨rfl, hX.put4 (Nat.le_succ _)⟩
        generalize hW : World.setCell _ _ _ = w9
        have hb : BoxAt w9 (w.heap.size + 1) (cl4 zeroCl) 86 := by rw [← hW]; exact b1.put4 (d := zeroCl)
        obtain ⟨q0, q1, q2, q3⟩ := hb.cl
        simp [results, Try.results99, go_sem, q0, q1, q2, q3]
    · rw [d0] at x1
      clear hb
      refine rg_quiet rfl rfl rfl rfl ?_; intro K hK; go_big_quiet_op; go_big_quiet_on
      refine rg_quiet rfl rfl rfl rfl ?_; intro K hK; go_big_quiet_op; go_big_quiet_on
      refine rg_quiet rfl rfl rfl rfl ?_; intro K hK; go_big_quiet_op; go_big_quiet_on
      refine rel_skip rfl rfl ?_
      simp only [Act.put, List.setIfInBounds_toArray, List.set_cons_zero, List.set_cons_succ]
      refine rel_skip rfl rfl ?_
      simp only [Act.put, List.setIfInBounds_toArray, List.set_cons_zero, List.set_cons_succ]
      refine rel_skip rfl rfl ?_
      simp only [Act.put, List.setIfInBounds_toArray, List.set_cons_zero, List.set_cons_succ]
      refine rg_quiet rfl rfl rfl rfl ?_; intro K hK; go_big_quiet_op; go_big_quiet_on
      refine rg_quiet rfl rfl rfl rfl ?_; intro K hK; go_big_quiet_op; go_big_quiet_on
      refine rel_skip rfl rfl ?_
      simp only [Act.put, List.setIfInBounds_toArray, List.set_cons_zero, List.set_cons_succ]
      refine rel_skip rfl rfl ?_
      simp only [Act.put, List.setIfInBounds_toArray, List.set_cons_zero, List.set_cons_succ]
      refine rel_skip rfl rfl ?_
      simp only [Act.put, List.setIfInBounds_toArray, List.set_cons_zero, List.set_cons_succ]
      refine rel_skip rfl rfl ?_
      simp only [Act.put, List.setIfInBounds_toArray, List.set_cons_zero, List.set_cons_succ]
      refine rel_skip rfl rfl ?_
      simp only [Act.put, List.setIfInBounds_toArray, List.set_cons_zero, List.set_cons_succ]
      refine rel_skip rfl rfl ?_
      simp only [Act.put, List.setIfInBounds_toArray, List.set_cons_zero, List.set_cons_succ]
      refine rg_quiet rfl rfl rfl rfl ?_; intro K hK; go_big_quiet_op; go_big_quiet_on
      refine rel_nil fun w5 hE5 _ => ?_
      obtain ⟨b2, b1, hX⟩ := FIN.out w5 hE5
      clear x1 x2 y0 y1 y2 y3 y4 y5 y6 y7 hE5 FIN hE
      obtain ⟨z0, z1, z2, z3⟩ := b1.cl
      have xf := b1.free
      go_wp2_with fail
      rw [HB.out.1, HB.out.2]
      refine bodyPost_ret (v := .tuple #[(.agg #[.string zeroCl.val, .bool zeroCl.dead, .int .i64 zeroCl.at_, .int .i64 zeroCl.fin]), .bool false]) ?_ rfl ⟨rfl, hX.put4 (Nat.le_succ _)⟩
      generalize hW : World.setCell _ _ _ = w9
      have hb : BoxAt w9 (w.heap.size + 1) (cl4 zeroCl) 86 := by rw [← hW]; exact b1.put4 (d := zeroCl)
      obtain ⟨q0, q1, q2, q3⟩ := hb.cl
      simp [results, Try.results99, go_sem, q0, q1, q2, q3]
end Go.Proofs.Ytmjhdfifbjdgpaa

/- row.Seen, row.Is. -/
namespace Go.Proofs.Ytmjhdfifbjdgpaa
open Go Go.RowKit
attribute [local go_sem] yields yUpon

theorem info_Col : (Try.prog.info? 139).map (fun i => (i.zero, i.size, i.bytes)) = some (some (.agg #[.string ⟨#[]⟩, .string ⟨#[]⟩, .bool false, .int .i64 0, .int .i64 0]), 5, 56) := by kernel_rfl
theorem und_Cols : Try.prog.underlying 87 = some (.slice 139) := by kernel_rfl
def co5 (c : Co) : Array Value := #[.string c.name, .string c.cell.val, .bool c.cell.dead, .int .i64 c.cell.at_, .int .i64 c.cell.fin]
theorem BoxAt.co {w : World} {p : Nat} {c : Co} {T : TypeId} (h : BoxAt w p (co5 c) T) : w.cell? ⟨p, 0, none⟩ = some (.string c.name) ∧ w.cell? ⟨p, 1, none⟩ = some (.string c.cell.val) ∧ w.cell? ⟨p, 2, none⟩ = some (.bool c.cell.dead) ∧ w.cell? ⟨p, 3, none⟩ = some (.int .i64 c.cell.at_) ∧ w.cell? ⟨p, 4, none⟩ = some (.int .i64 c.cell.fin) :=
  ⟨h.cell 0, h.cell 1, h.cell 2, h.cell 3, h.cell 4⟩
theorem ownsRow_lenOf {w : World} {B : Nat} {e : TypeId} {size : Nat} {v : Value} {n : Nat} {xs : List Value} (h : w.ownsRow B e size v n xs) : lenOf v = n := by
  rcases h.2 with ⟨rfl, rfl⟩ | ⟨g, cap, cur, rfl, _⟩ <;> rfl

/-- Is a column's cell seen? -/
def seenCo (c : Co) (g now : Int) : Bool := !c.cell.dead && decide (g < c.cell.at_) && seenB c.cell.dead c.cell.at_ c.cell.fin now
def seenCos (l : List Co) (g now : Int) : List Co := l.filter fun c => seenCo c g now
theorem seenCos_take {l : List Co} {k : Nat} {g now : Int} {M : Co} {R : List Co} (hd : l.drop k = M :: R) : seenCos (l.take (k + 1)) g now = seenCos (l.take k) g now ++ if seenCo M g now then [M] else [] := by
  have hk : k < l.length := by
    rcases Nat.lt_or_ge k l.length with h | h
    · exact h
    · rw [List.drop_eq_nil_of_le h] at hd; cases hd
  have e : l[k] = M := by rw [List.drop_eq_getElem_cons hk] at hd; exact (List.cons.inj hd).1
  rw [List.take_succ_eq_append_getElem hk, e]
  unfold seenCos
  rw [List.filter_append]
  congr 1
  cases h : seenCo M g now <;> simp [h]

set_option maxRecDepth 100000 in
set_option maxHeartbeats 4000000 in
theorem rwseen_any (r : Ro) (v : Value) (part now : Int) (w : World) (hin : ColsIn w v r.cols) (hlen : r.cols.length ≤ 1000000) :
    Calls Try.prog 84 #[(.agg #[.string r.key, .string r.live.val, .bool r.live.dead, .int .i64 r.live.at_, .int .i64 r.live.fin, .int .i64 r.gone, .int .i64 r.shade, v]), .int .i64 part, .int .i64 now] w fun e w' => ∃ v', e = .returned v' ∧ w'.ownsRow (w.heap.size + 1) 139 5 v' (seenCos r.cols (max r.gone part) now).length (coCells (seenCos r.cols (max r.gone part) now)) ∧ Ext w w' := by
  obtain ⟨a, c, rfl, hc, hcm, hcell⟩ := hin.get
  obtain ⟨l, hl⟩ : ∃ l, l = r.cols := ⟨_, rfl⟩
  obtain ⟨G, hG⟩ : ∃ G, G = max r.gone part := ⟨_, rfl⟩
  rw [← hl] at hcell hc hlen ⊢
  rw [← hG]
  have HC := Lib.hid hcell
  have HG := Lib.hid hG
  clear hcell hin hl hG
  go_enter Try.func84, Try.ntmps84
  go_wp2
  go_loopw [7, 13] (fun m i wr => ∃ k : Nat, k ≤ l.length ∧ i = .int .i64 k ∧ BoxAt wr w.heap.size (ro8 r (.slice a l.length c)) 89 ∧ Ext w wr ∧ wr.ownsRow (w.heap.size + 1) 139 5 m (seenCos (l.take k) G now).length (coCells (seenCos (l.take k) G now))) (fun _ i _ => l.length - (intOf i).toNat)
  case atStart => exact ⟨0, Nat.zero_le _, rfl, BoxAt.made w _ _, (Ext.refl w).alloc _, World.ownsRow_nil _ _ _ _⟩
  case round =>
    obtain ⟨k, hk, rfl, hbox, hE, hown⟩ := hrel
    by_cases hlt : k < l.length
    · obtain ⟨b, o, rfl, hco⟩ := HC.out k hlt
      obtain ⟨M, hM⟩ : ∃ M, M = l[k] := ⟨_, rfl⟩
      rw [← hM] at hco
      have hD : l.drop k = M :: l.drop (k + 1) := by rw [hM]; exact List.drop_eq_getElem_cons hlt
      have hT := seenCos_take (g := G) (now := now) hD
      have hle : (seenCos (l.take k) G now).length ≤ k := Nat.le_trans (List.length_filter_le _ _) (by simp; omega)
      clear hM hD
      obtain ⟨S, hS⟩ : ∃ S, S = seenCos (l.take k) G now := ⟨_, rfl⟩
      rw [← hS] at hT hle hown
      clear hS
      have HT := Lib.hid hT
      clear hT
      replace hco := hco.ext hE
      obtain ⟨g0, g1, g2, g3, g4⟩ := hco
      go_wp2_with fail
      refine wp_region_in 19 [(10, fun v _ => v = .int .i64 G), (17, fun v _ => v = .bool (seenCo M G now))] (fun w0 => BoxAt w0 wr.heap.size (co5 M) 139 ∧ BoxAt w0 w.heap.size (ro8 r (.slice (some ⟨b, o, none⟩) l.length c)) 89 ∧ Ext w w0 ∧ w0.ownsRow (w.heap.size + 1) 139 5 u7 S.length (coCells S)) (by kernel_rfl) (by kernel_rfl) (by kernel_rfl) ⟨stays_eq _, stays_eq _, trivial⟩ ?_ ?_
      · exact ⟨BoxAt.made _ _ _, hbox.ext ((Ext.refl _).alloc _), hE.alloc _, ownsRow_ext hown ((Ext.refl _).alloc _)⟩
      clear hbox hE hown g0 g1 g2 g3 g4
      rintro w2 ⟨b2, b0, hE, hown⟩
      have FIN : Hid (∀ wx, Ext w2 wx → BoxAt wx wr.heap.size (co5 M) 139 ∧ BoxAt wx w.heap.size (ro8 r (.slice (some ⟨b, o, none⟩) l.length c)) 89 ∧ Ext w wx ∧ wx.ownsRow (w.heap.size + 1) 139 5 u7 S.length (coCells S)) := fun wx h => ⟨b2.ext h, b0.ext h, hE.trans h, ownsRow_ext hown h⟩
      obtain ⟨x0, x1, x2, x3, x4⟩ := b2.co
      obtain ⟨y0, y1, y2, y3, y4, y5, y6, y7⟩ := b0.ro
      clear b2 b0 hown hE x0
      replace x1 := held x1
      replace x2 := held x2
      replace x3 := held x3
      replace x4 := held x4
      replace y0 := held y0
      replace y1 := held y1
      replace y2 := held y2
      replace y3 := held y3
      replace y4 := held y4
      replace y5 := held y5
      replace y6 := held y6
      replace y7 := held y7
      cases d0 : M.cell.dead
      · rw [d0] at x2
        cases d1 : decide (G < M.cell.at_)
        · have hs : seenCo M G now = false := by unfold seenCo; rw [d0, d1]; rfl
          refine rg_quiet rfl rfl rfl rfl ?_; intro K hK; go_big_quiet_op; go_big_quiet_on
          refine rg_quiet rfl rfl rfl rfl ?_; intro K hK; go_big_quiet_op; go_big_quiet_on
          refine rg_quiet rfl rfl rfl rfl ?_; intro K hK; go_big_quiet_op; go_big_quiet_on
          refine rg_quiet rfl rfl rfl rfl ?_; intro K hK; go_big_quiet_op; go_big_quiet_on
          refine rg_quiet rfl rfl rfl rfl ?_; intro K hK; go_big_quiet_op; go_big_quiet_on
          refine rg_quiet rfl rfl rfl rfl ?_; intro K hK; go_big_quiet_op; go_big_quiet_on
          refine rg_quiet rfl rfl rfl rfl ?_; intro K hK; go_big_quiet_op; go_big_quiet_on
          refine rg_quiet rfl rfl rfl rfl ?_; intro K hK; go_big_quiet_op; go_big_quiet_on
          refine rg_quiet rfl rfl rfl rfl ?_; intro K hK; go_big_quiet_op; go_big_quiet_on
          refine rg_quiet rfl rfl rfl rfl ?_; intro K hK; go_big_quiet_op; go_big_quiet_on
          refine rg_val [] rfl rfl rfl (by kernel_rfl) (fun w1 hE hf => ?_) ?_
          · go_simp
            exact (rgone_any r _ part w1).mono fun e w' ⟨he, hw⟩ => ⟨_, he, rg_done hE hw (int_congr HG.out.symm)⟩
          simp only [Act.put, List.setIfInBounds_toArray, List.set_cons_zero, List.set_cons_succ]
          refine rg_quiet rfl rfl rfl rfl ?_; intro K hK; go_big_quiet_op; go_big_quiet_on
          refine rg_quiet rfl rfl rfl rfl ?_; intro K hK; go_big_quiet_op; go_big_quiet_on
          refine rg_quiet rfl rfl rfl rfl ?_; intro K hK; go_big_quiet_op; go_big_quiet_on
          refine rel_skip rfl rfl ?_
          simp only [Act.put, List.setIfInBounds_toArray, List.set_cons_zero, List.set_cons_succ]
          refine rel_skip rfl rfl ?_
          simp only [Act.put, List.setIfInBounds_toArray, List.set_cons_zero, List.set_cons_succ]
          refine rel_skip rfl rfl ?_
          simp only [Act.put, List.setIfInBounds_toArray, List.set_cons_zero, List.set_cons_succ]
          refine rel_skip rfl rfl ?_
          simp only [Act.put, List.setIfInBounds_toArray, List.set_cons_zero, List.set_cons_succ]
          refine rg_quiet rfl rfl rfl rfl ?_; intro K hK; go_big_quiet_op; go_big_quiet_on
          refine rel_nil fun w5 hE5 _ => ?_
          clear d0 d1
          obtain ⟨b2, b0, hE, hown⟩ := FIN.out w5 hE5
          clear x1 x2 x3 x4 y0 y1 y2 y3 y4 y5 y6 y7 hE5 FIN
          have hT2 := HT.out
          rw [hs] at hT2
          simp only [Bool.false_eq_true, if_false, List.append_nil] at hT2
          have HT2 := Lib.hid hT2
          clear hT2 HT hs
          go_wp2_with fail
          go_roundw
          case rel => exact ⟨k + 1, by omega, by go_num, b0, hE, by rw [HT2.out]; exact hown⟩
          case measure => simp [intOf] <;> omega
        · have hs0 : Hid (seenCo M G now = seenB false M.cell.at_ M.cell.fin now) := by show seenCo M G now = seenB false M.cell.at_ M.cell.fin now; unfold seenCo; rw [d1, d0]; rfl
          refine rg_quiet rfl rfl rfl rfl ?_; intro K hK; go_big_quiet_op; go_big_quiet_on
          refine rg_quiet rfl rfl rfl rfl ?_; intro K hK; go_big_quiet_op; go_big_quiet_on
          refine rg_quiet rfl rfl rfl rfl ?_; intro K hK; go_big_quiet_op; go_big_quiet_on
          refine rg_quiet rfl rfl rfl rfl ?_; intro K hK; go_big_quiet_op; go_big_quiet_on
          refine rg_quiet rfl rfl rfl rfl ?_; intro K hK; go_big_quiet_op; go_big_quiet_on
          refine rg_quiet rfl rfl rfl rfl ?_; intro K hK; go_big_quiet_op; go_big_quiet_on
          refine rg_quiet rfl rfl rfl rfl ?_; intro K hK; go_big_quiet_op; go_big_quiet_on
          refine rg_quiet rfl rfl rfl rfl ?_; intro K hK; go_big_quiet_op; go_big_quiet_on
          refine rg_quiet rfl rfl rfl rfl ?_; intro K hK; go_big_quiet_op; go_big_quiet_on
          refine rg_quiet rfl rfl rfl rfl ?_; intro K hK; go_big_quiet_op; go_big_quiet_on
          refine rg_val [] rfl rfl rfl (by kernel_rfl) (fun w1 hE hf => ?_) ?_
          · go_simp
            exact (rgone_any r _ part w1).mono fun e w' ⟨he, hw⟩ => ⟨_, he, rg_done hE hw (int_congr HG.out.symm)⟩
          simp only [Act.put, List.setIfInBounds_toArray, List.set_cons_zero, List.set_cons_succ]
          refine rg_quiet rfl rfl rfl rfl ?_; intro K hK; go_big_quiet_op; go_big_quiet_on
          refine rg_quiet rfl rfl rfl rfl ?_; intro K hK; go_big_quiet_op; go_big_quiet_on
          refine rg_quiet rfl rfl rfl rfl ?_; intro K hK; go_big_quiet_op; go_big_quiet_on
          refine rg_quiet rfl rfl rfl rfl ?_; intro K hK; go_big_quiet_op; go_big_quiet_on
          refine rg_quiet rfl rfl rfl rfl ?_; intro K hK; go_big_quiet_op; go_big_quiet_on
          refine rg_quiet rfl rfl rfl rfl ?_; intro K hK; go_big_quiet_op; go_big_quiet_on
          refine rg_val [] rfl rfl rfl (by kernel_rfl) (fun w1 hE hf => ?_) ?_
          · go_simp
            exact (seen_any _ _ _ _ _ w1).mono fun e w' ⟨he, hw⟩ => ⟨_, he, rg_done hE hw (bool_congr hs0.out.symm)⟩
          simp only [Act.put, List.setIfInBounds_toArray, List.set_cons_zero, List.set_cons_succ]
          cases hs : seenCo M G now
          · refine rg_quiet rfl rfl rfl rfl ?_; intro K hK; go_big_quiet_op; go_big_quiet_on
            refine rel_nil fun w5 hE5 _ => ?_
            clear d0 d1 hs0
            obtain ⟨b2, b0, hE, hown⟩ := FIN.out w5 hE5
            clear x1 x2 x3 x4 y0 y1 y2 y3 y4 y5 y6 y7 hE5 FIN
            have hT2 := HT.out
            rw [hs] at hT2
            simp only [Bool.false_eq_true, if_false, List.append_nil] at hT2
            have HT2 := Lib.hid hT2
            clear hT2 HT hs
            go_wp2_with fail
            go_roundw
            case rel => exact ⟨k + 1, by omega, by go_num, b0, hE, by rw [HT2.out]; exact hown⟩
            case measure => simp [intOf] <;> omega
          · refine rg_quiet rfl rfl rfl rfl ?_; intro K hK; go_big_quiet_op; go_big_quiet_on
            refine rel_nil fun w5 hE5 _ => ?_
            clear d0 d1 hs0
            obtain ⟨b2, b0, hE, hown⟩ := FIN.out w5 hE5
            clear x1 x2 x3 x4 y0 y1 y2 y3 y4 y5 y6 y7 hE5 FIN
            obtain ⟨x0, x1, x2, x3, x4⟩ := b2.co
            have hT2 := HT.out
            rw [hs] at hT2
            simp only [if_true] at hT2
            have HT2 := Lib.hid hT2
            have hl0 := b0.lt
            clear hT2 HT hs
            go_wp2_with (at_builtin; go_must (refine appR info_Col und_Cols rfl (by decide) w5 rfl (.tmp 36) (.tmp 38) rfl (w.heap.size + 1) hl0 _ _ _ hown rfl 1 _ rfl rfl (by simp [Value.oneCell']) (by unfold maxLen; omega) (by omega) ?_); intro m3 w3 hown3 hg3)
            go_roundw
            case rel =>
              refine ⟨k + 1, by omega, by go_num, (b0.ext ((Ext.refl _).alloc _)).grown hg3 (fun h => ?_), (hE.alloc _).grown hg3 fun q hq => by have := (hown.lt q hq).1; omega, ?_⟩
              · have := (hown.lt _ h.symm).1
                omega
              · rw [HT2.out, coCells_append, List.length_append]
                exact hown3
            case measure => simp [intOf] <;> omega
      · rw [d0] at x2
        have hs : seenCo M G now = false := by unfold seenCo; rw [d0]; rfl
        refine rg_quiet rfl rfl rfl rfl ?_; intro K hK; go_big_quiet_op; go_big_quiet_on
        refine rg_quiet rfl rfl rfl rfl ?_; intro K hK; go_big_quiet_op; go_big_quiet_on
        refine rg_quiet rfl rfl rfl rfl ?_; intro K hK; go_big_quiet_op; go_big_quiet_on
        refine rg_quiet rfl rfl rfl rfl ?_; intro K hK; go_big_quiet_op; go_big_quiet_on
        refine rg_quiet rfl rfl rfl rfl ?_; intro K hK; go_big_quiet_op; go_big_quiet_on
        refine rel_skip rfl rfl ?_
        simp only [Act.put, List.setIfInBounds_toArray, List.set_cons_zero, List.set_cons_succ]
        refine rel_skip rfl rfl ?_
        simp only [Act.put, List.setIfInBounds_toArray, List.set_cons_zero, List.set_cons_succ]
        refine rel_skip rfl rfl ?_
        simp only [Act.put, List.setIfInBounds_toArray, List.set_cons_zero, List.set_cons_succ]
        refine rel_skip rfl rfl ?_
        simp only [Act.put, List.setIfInBounds_toArray, List.set_cons_zero, List.set_cons_succ]
        refine rel_skip rfl rfl ?_
        simp only [Act.put, List.setIfInBounds_toArray, List.set_cons_zero, List.set_cons_succ]
        refine rel_skip rfl rfl ?_
        simp only [Act.put, List.setIfInBounds_toArray, List.set_cons_zero, List.set_cons_succ]
        refine rel_skip rfl rfl ?_
        simp only [Act.put, List.setIfInBounds_toArray, List.set_cons_zero, List.set_cons_succ]
        refine rg_quiet rfl rfl rfl rfl ?_; intro K hK; go_big_quiet_op; go_big_quiet_on
        refine rg_quiet rfl rfl rfl rfl ?_; intro K hK; go_big_quiet_op; go_big_quiet_on
        refine rel_skip rfl rfl ?_
        simp only [Act.put, List.setIfInBounds_toArray, List.set_cons_zero, List.set_cons_succ]
        refine rel_skip rfl rfl ?_
        simp only [Act.put, List.setIfInBounds_toArray, List.set_cons_zero, List.set_cons_succ]
        refine rel_skip rfl rfl ?_
        simp only [Act.put, List.setIfInBounds_toArray, List.set_cons_zero, List.set_cons_succ]
        refine rel_skip rfl rfl ?_
        simp only [Act.put, List.setIfInBounds_toArray, List.set_cons_zero, List.set_cons_succ]
        refine rg_quiet rfl rfl rfl rfl ?_; intro K hK; go_big_quiet_op; go_big_quiet_on
        refine rel_nil fun w5 hE5 _ => ?_
        clear d0
        obtain ⟨b2, b0, hE, hown⟩ := FIN.out w5 hE5
        clear x1 x2 x3 x4 y0 y1 y2 y3 y4 y5 y6 y7 hE5 FIN
        have hT2 := HT.out
        rw [hs] at hT2
        simp only [Bool.false_eq_true, if_false, List.append_nil] at hT2
        have HT2 := Lib.hid hT2
        clear hT2 HT hs
        go_wp2_with fail
        go_roundw
        case rel => exact ⟨k + 1, by omega, by go_num, b0, hE, by rw [HT2.out]; exact hown⟩
        case measure => simp [intOf] <;> omega
    · obtain rfl : k = l.length := by omega
      rw [List.take_length] at hown
      go_wp2_with fail
      go_ret
      exact ⟨_, rfl, hown, hE⟩
end Go.Proofs.Ytmjhdfifbjdgpaa
