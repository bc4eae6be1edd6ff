/- Cells as one thing (plain data; how they lie in memory). -/
import Derived.Test.YtimbikbbbfpeeaaGreatDoorP1
import Derived.Test.YtimbikbbbfpeeaaGreatDoorProg
import Derived.Deep.Light
import Derived.Laws.AppendOwnNone
set_option linter.unusedSimpArgs false
set_option linter.unusedVariables false
namespace Go.Proofs.YtimbikbbbfpeeaaGreatDoor
open Go Go.RowKit

structure Cl where
  val : ByteArray
  dead : Bool
  at_ : Int
  fin : Int
@[simp] theorem Cl.eta (c : Cl) : Cl.mk c.val c.dead c.at_ c.fin = c := rfl
def clCells : List Cl → List Value
  | [] => []
  | c :: l => .string c.val :: .bool c.dead :: .int .i64 c.at_ :: .int .i64 c.fin :: clCells l
theorem clCells_length (l : List Cl) : (clCells l).length = l.length * 4 := by
  induction l with
  | nil => rfl
  | cons c l ih => simp [clCells, ih]; omega
theorem clCells_get : ∀ (l : List Cl) (k : Nat) (h : k < l.length), (clCells l)[k * 4]? = some (.string l[k].val) ∧ (clCells l)[k * 4 + 1]? = some (.bool l[k].dead) ∧ (clCells l)[k * 4 + 2]? = some (.int .i64 l[k].at_) ∧ (clCells l)[k * 4 + 3]? = some (.int .i64 l[k].fin)
  | c :: l, 0, _ => by simp [clCells]
  | c :: l, k + 1, h => by
    have ih := clCells_get l k (by simpa using h)
    have e : (k + 1) * 4 = k * 4 + 4 := by omega
    simp only [e, clCells, List.getElem_cons_succ]
    exact ⟨by simpa using ih.1, by simpa using ih.2.1, by simpa using ih.2.2.1, by simpa using ih.2.2.2⟩
def ClsIn (w : World) (v : Value) (l : List Cl) : Prop := SliceIn w v l.length (clCells l)
theorem ClsIn.ext {w w' : World} (hE : Ext w w') {v : Value} {l : List Cl} (h : ClsIn w v l) : ClsIn w' v l := SliceIn.ext hE h
/-- A cell in memory. -/
structure CellAt (w : World) (b : Nat) (c : Cl) : Prop where
  c0 : w.cell? ⟨b, 0, none⟩ = some (.string c.val)
  c1 : w.cell? ⟨b, 1, none⟩ = some (.bool c.dead)
  c2 : w.cell? ⟨b, 2, none⟩ = some (.int .i64 c.at_)
  c3 : w.cell? ⟨b, 3, none⟩ = some (.int .i64 c.fin)
theorem CellAt.ext {w w' : World} (hE : Ext w w') {b : Nat} {c : Cl} (h : CellAt w b c) : CellAt w' b c := ⟨hE.cell h.c0, hE.cell h.c1, hE.cell h.c2, hE.cell h.c3⟩
theorem agg_congr {x y : Cl} (h : x = y) : ((.agg #[.string x.val, .bool x.dead, .int .i64 x.at_, .int .i64 x.fin]) : Value) = (.agg #[.string y.val, .bool y.dead, .int .i64 y.at_, .int .i64 y.fin]) := by rw [h]
theorem bool_congr {x y : Bool} (h : x = y) : Value.bool x = Value.bool y := by rw [h]
theorem int_congr {x y : Int} (h : x = y) : Value.int .i64 x = Value.int .i64 y := by rw [h]
def seenB (d : Bool) (a e now : Int) : Bool := decide (0 < a) && !d && (e == 0 || decide (now < e))
def stampB (v : Int) : Bool := decide (0 ≤ v) && decide (v ≤ 1099511627776)
def checkC (v : ByteArray) (d : Bool) (a e : Int) : Bool :=
  stampB a && stampB e && (if a = 0 then v.toList == [] && !d && e == 0 else if d then v.toList == [] && e == 0 else decide (v.size ≤ 100))

end Go.Proofs.YtimbikbbbfpeeaaGreatDoor

/- Rows and columns as plain data; how they lie in memory. -/
namespace Go.Proofs.YtimbikbbbfpeeaaGreatDoor
open Go Go.RowKit

structure Co where
  name : ByteArray
  cell : Cl
structure Ro where
  key : ByteArray
  live : Cl
  gone : Int
  shade : Int
  cols : List Co
@[simp] theorem Co.eta (c : Co) : Co.mk c.name c.cell = c := rfl
def zeroCl : Cl := ⟨⟨#[]⟩, false, 0, 0⟩
def coCells : List Co → List Value
  | [] => []
  | c :: l => .string c.name :: .string c.cell.val :: .bool c.cell.dead :: .int .i64 c.cell.at_ :: .int .i64 c.cell.fin :: coCells l
theorem coCells_length (l : List Co) : (coCells l).length = l.length * 5 := by
  induction l with
  | nil => rfl
  | cons c l ih => simp [coCells, ih]; omega
theorem coCells_append (l m : List Co) : coCells (l ++ m) = coCells l ++ coCells m := by
  induction l with
  | nil => rfl
  | cons c l ih => simp [coCells, ih]
theorem coCells_get : ∀ (l : List Co) (k : Nat) (h : k < l.length), (coCells l)[k * 5]? = some (.string l[k].name) ∧ (coCells l)[k * 5 + 1]? = some (.string l[k].cell.val) ∧ (coCells l)[k * 5 + 2]? = some (.bool l[k].cell.dead) ∧ (coCells l)[k * 5 + 3]? = some (.int .i64 l[k].cell.at_) ∧ (coCells l)[k * 5 + 4]? = some (.int .i64 l[k].cell.fin)
  | c :: l, 0, _ => by simp [coCells]
  | c :: l, k + 1, h => by
    have ih := coCells_get l k (by simpa using h)
    have e : (k + 1) * 5 = k * 5 + 5 := by omega
    simp only [e, coCells, List.getElem_cons_succ]
    exact ⟨by simpa using ih.1, by simpa using ih.2.1, by simpa using ih.2.2.1, by simpa using ih.2.2.2.1, by simpa using ih.2.2.2.2⟩
def ColsIn (w : World) (v : Value) (l : List Co) : Prop := SliceIn w v l.length (coCells l)
theorem ColsIn.ext {w w' : World} (hE : Ext w w') {v : Value} {l : List Co} (h : ColsIn w v l) : ColsIn w' v l := SliceIn.ext hE h
theorem ColsIn.nil (w : World) : ColsIn w (.slice none 0 0) [] := SliceIn.nil w
/-- A column at a place in memory. -/
structure CoAt (w : World) (b o : Nat) (c : Co) : Prop where
  c0 : w.cell? ⟨b, o, none⟩ = some (.string c.name)
  c1 : w.cell? ⟨b, o + 1, none⟩ = some (.string c.cell.val)
  c2 : w.cell? ⟨b, o + 2, none⟩ = some (.bool c.cell.dead)
  c3 : w.cell? ⟨b, o + 3, none⟩ = some (.int .i64 c.cell.at_)
  c4 : w.cell? ⟨b, o + 4, none⟩ = some (.int .i64 c.cell.fin)
theorem CoAt.ext {w w' : World} (hE : Ext w w') {b o : Nat} {c : Co} (h : CoAt w b o c) : CoAt w' b o c := ⟨hE.cell h.c0, hE.cell h.c1, hE.cell h.c2, hE.cell h.c3, hE.cell h.c4⟩
theorem ColsIn.get {w : World} {v : Value} {l : List Co} (h : ColsIn w v l) : ∃ a c, v = .slice a l.length c ∧ l.length ≤ c ∧ c ≤ 9223372036854775807 ∧ ∀ k (hk : k < l.length), ∃ b o, a = some ⟨b, o, none⟩ ∧ CoAt w b (o + k * 5) l[k] := by
  obtain ⟨a, c, rfl, hc, hcm, ha, hcell⟩ := h
  unfold maxLen at hcm
  refine ⟨a, c, rfl, hc, by omega, fun k hk => ?_⟩
  obtain ⟨g0, g1, g2, g3, g4⟩ := coCells_get l k hk
  obtain ⟨b, o, rfl, h0⟩ := hcell _ _ g0
  obtain ⟨b1, o1, e1, h1⟩ := hcell _ _ g1
  obtain ⟨b2, o2, e2, h2⟩ := hcell _ _ g2
  obtain ⟨b3, o3, e3, h3⟩ := hcell _ _ g3
  obtain ⟨b4, o4, e4, h4⟩ := hcell _ _ g4
  cases e1; cases e2; cases e3; cases e4
  exact ⟨b, o, rfl, h0, h1, h2, h3, h4⟩
def cl4 (c : Cl) : Array Value := #[.string c.val, .bool c.dead, .int .i64 c.at_, .int .i64 c.fin]
theorem BoxAt.cl {w : World} {p : Nat} {c : Cl} {T : TypeId} (h : BoxAt w p (cl4 c) T) : w.cell? ⟨p, 0, none⟩ = some (.string c.val) ∧ w.cell? ⟨p, 1, none⟩ = some (.bool c.dead) ∧ w.cell? ⟨p, 2, none⟩ = some (.int .i64 c.at_) ∧ w.cell? ⟨p, 3, none⟩ = some (.int .i64 c.fin) :=
  ⟨h.cell 0, h.cell 1, h.cell 2, h.cell 3⟩
theorem BoxAt.put4 {w : World} {p : Nat} {c d : Cl} {T : TypeId} (h : BoxAt w p (cl4 c) T) : BoxAt ((((w.setCell ⟨p, 0, none⟩ (.string d.val)).setCell ⟨p, 1, none⟩ (.bool d.dead)).setCell ⟨p, 2, none⟩ (.int .i64 d.at_)).setCell ⟨p, 3, none⟩ (.int .i64 d.fin)) p (cl4 d) T :=
  (((h.set 0 _).set 1 _).set 2 _).set 3 _
theorem Ext.put4 {a w : World} (h : Ext a w) {p : Nat} (hp : a.heap.size ≤ p) {v0 v1 v2 v3 : Value} : Ext a ((((w.setCell ⟨p, 0, none⟩ v0).setCell ⟨p, 1, none⟩ v1).setCell ⟨p, 2, none⟩ v2).setCell ⟨p, 3, none⟩ v3) :=
  (((h.setCell hp _).setCell hp _).setCell hp _).setCell hp _

/-- A column's cell. -/
def cellOf : List Co → ByteArray → Cl
  | [], _ => zeroCl
  | c :: l, n => if c.name.toList == n.toList then c.cell else cellOf l n

def ro8 (r : Ro) (v : Value) : Array Value := #[.string r.key, .string r.live.val, .bool r.live.dead, .int .i64 r.live.at_, .int .i64 r.live.fin, .int .i64 r.gone, .int .i64 r.shade, v]
theorem BoxAt.ro {w : World} {p : Nat} {r : Ro} {v : Value} {T : TypeId} (h : BoxAt w p (ro8 r v) T) : w.cell? ⟨p, 0, none⟩ = some (.string r.key) ∧ w.cell? ⟨p, 1, none⟩ = some (.string r.live.val) ∧ w.cell? ⟨p, 2, none⟩ = some (.bool r.live.dead) ∧ w.cell? ⟨p, 3, none⟩ = some (.int .i64 r.live.at_) ∧ w.cell? ⟨p, 4, none⟩ = some (.int .i64 r.live.fin) ∧ w.cell? ⟨p, 5, none⟩ = some (.int .i64 r.gone) ∧ w.cell? ⟨p, 6, none⟩ = some (.int .i64 r.shade) ∧ w.cell? ⟨p, 7, none⟩ = some v :=
  ⟨h.cell 0, h.cell 1, h.cell 2, h.cell 3, h.cell 4, h.cell 5, h.cell 6, h.cell 7⟩

def pa3 (k : ByteArray) (g : Int) (u : Value) : Array Value := #[.string k, .int .i64 g, u]
theorem BoxAt.pa {w : World} {p : Nat} {k : ByteArray} {g : Int} {u : Value} {T : TypeId} (h : BoxAt w p (pa3 k g u) T) : w.cell? ⟨p, 0, none⟩ = some (.string k) ∧ w.cell? ⟨p, 1, none⟩ = some (.int .i64 g) ∧ w.cell? ⟨p, 2, none⟩ = some u := ⟨h.cell 0, h.cell 1, h.cell 2⟩

theorem info_Col : (Tryz.prog.info? 216).map (fun i => (i.zero, i.size, i.bytes)) = some (some (.agg #[.string ⟨#[]⟩, .string ⟨#[]⟩, .bool false, .int .i64 0, .int .i64 0]), 5, 56) := by kernel_rfl
theorem und_Cols : Tryz.prog.underlying 64 = some (.slice 216) := by kernel_rfl
def co5 (c : Co) : Array Value := #[.string c.name, .string c.cell.val, .bool c.cell.dead, .int .i64 c.cell.at_, .int .i64 c.cell.fin]
theorem BoxAt.co {w : World} {p : Nat} {c : Co} {T : TypeId} (h : BoxAt w p (co5 c) T) : w.cell? ⟨p, 0, none⟩ = some (.string c.name) ∧ w.cell? ⟨p, 1, none⟩ = some (.string c.cell.val) ∧ w.cell? ⟨p, 2, none⟩ = some (.bool c.cell.dead) ∧ w.cell? ⟨p, 3, none⟩ = some (.int .i64 c.cell.at_) ∧ w.cell? ⟨p, 4, none⟩ = some (.int .i64 c.cell.fin) :=
  ⟨h.cell 0, h.cell 1, h.cell 2, h.cell 3, h.cell 4⟩
theorem ownsRow_lenOf {w : World} {B : Nat} {e : TypeId} {size : Nat} {v : Value} {n : Nat} {xs : List Value} (h : w.ownsRow B e size v n xs) : lenOf v = n := by
  rcases h.2 with ⟨rfl, rfl⟩ | ⟨g, cap, cur, rfl, _⟩ <;> rfl

end Go.Proofs.YtimbikbbbfpeeaaGreatDoor

/- 'append' to a list of columns of one's own. -/
namespace Go.Proofs.YtimbikbbbfpeeaaGreatDoor
open Go Go.RowKit

theorem coCells_one (l : List Co) : ∀ u ∈ coCells l, u.oneCell' = true := by
  induction l with
  | nil => intro u h; cases h
  | cons c l ih =>
    intro u h
    simp only [coCells, List.mem_cons] at h
    rcases h with rfl | rfl | rfl | rfl | rfl | h
    · rfl
    · rfl
    · rfl
    · rfl
    · rfl
    · exact ih u h
theorem appCols {ops : Array Oper} {rest : List Oper} {o : Oper} {a : Act} {Q : Exit → Act → World → Prop} (w : World) (hg : o.guard = none) (s x : Operand)
    (hop : o.op = Op.call { callee := Callee.builtin Builtin.append, args := #[s, x], argTypes := #[64, 64] })
    (B : Nat) (hB : B ≤ w.heap.size) (v : Value) (l : List Co) (hown : w.ownsRow B 216 5 v l.length (coCells l)) (hs : a.eval s = v) (u : Value) (m : List Co) (hin : ColsIn w u m) (hx : a.eval x = u) (hb : l.length + m.length ≤ 1000000)
    (hK : ∀ v' w', w'.ownsRow B 216 5 v' (l ++ m).length (coCells (l ++ m)) → w.grownBy w' v.ownBlock → wpList Tryz.prog ops Q rest (a.put o.dst v') w') : wpList Tryz.prog ops Q (o :: rest) a w := by
  obtain ⟨i0, hi, hz0, hz1, hz2⟩ := info_parts info_Col
  obtain ⟨ao, c, rfl, hc, hcm, ha, hcell⟩ := hin
  cases ao with
  | none =>
    have hc0 := ha rfl
    obtain rfl : m = [] := List.eq_nil_of_length_eq_zero (by omega)
    subst hc0
    refine wpList_append_own_none hg s x 64 hop B 216 i0 5 und_Cols hi v l.length (coCells l) hs hown hx (hK _ _ (by rw [List.append_nil]; exact hown) ⟨rfl, rfl, rfl, Nat.le_refl _, fun _ _ _ => rfl⟩)
  | some ad =>
    refine wpList_append_own _ hg s x 64 hop B 216 i0 _ 5 56 und_Cols hi hz0 hz1 hz2 rfl (by decide) v l.length (coCells l) hs hown ad m.length c (coCells m) hx (coCells_length m) ?_ (coCells_one m) (by unfold maxLen; omega) (by omega) hB ?_
    · intro j u hj
      obtain ⟨b, o, e, h⟩ := hcell j u hj
      cases e
      rw [Addr.add_lit]
      exact h
    · intro v' w' h2 h3 _
      refine hK v' w' ?_ h3
      rw [coCells_append, List.length_append]
      exact h2
theorem cols_own {w : World} {B : Nat} {v : Value} {l : List Co} (h : w.ownsRow B 216 5 v l.length (coCells l)) : ColsIn w v l := SliceIn.of_owns h
theorem cols_two (w : World) (c d : Co) (T : TypeId) : ColsIn (w.alloc (.cells (co5 c ++ co5 d) T)) (.slice (some ⟨w.heap.size, 0, none⟩) 2 2) [c, d] :=
  SliceIn.made w (co5 c ++ co5 d) T 2 (by unfold maxLen; decide)
theorem own_shape {w : World} {B : Nat} {e : TypeId} {size : Nat} {v : Value} {n : Nat} {xs : List Value} (h : w.ownsRow B e size v n xs) : ∃ a c, v = .slice a n c := by
  obtain ⟨a, c, h, _⟩ := SliceIn.of_owns h
  exact ⟨a, c, h⟩
theorem own_ne_box {w : World} {B : Nat} {e e' : TypeId} {size : Nat} {v : Value} {n b : Nat} {xs : List Value} {cs : Array Value} (h : w.ownsRow B e size v n xs) (hb : BoxAt w b cs e') (hne : e ≠ e') : v.ownBlock = none ∨ v.ownBlock ≠ some b := by
  rcases h.2 with ⟨rfl, _⟩ | ⟨g, cap, cur, rfl, _, hg, _⟩
  · exact .inl rfl
  · refine .inr (fun h => ?_)
    have hgb : g = b := Option.some.inj h
    subst hgb
    unfold BoxAt at hb
    rw [hg] at hb
    injection hb with hb
    injection hb with h1 h2
    exact hne h2
theorem own_setCell {w : World} {B : Nat} {e : TypeId} {size : Nat} {v : Value} {n : Nat} {xs : List Value} {q i : Nat} {u : Value} (h : w.ownsRow B e size v n xs) (hne : v.ownBlock = none ∨ v.ownBlock ≠ some q) : (w.setCell ⟨q, i, none⟩ u).ownsRow B e size v n xs :=
  h.kept (row := some q) ⟨rfl, rfl, rfl, by rw [Deep.nblk_setCell]; exact Nat.le_refl _, fun k _ hk => Deep.blk_setCell_other _ _ _ _ (fun e => hk (by rw [e]))⟩ hne
theorem own_ne_own {w : World} {B B' : Nat} {e e' : TypeId} {size size' : Nat} {v v' : Value} {n n' : Nat} {xs xs' : List Value} (h : w.ownsRow B e size v n xs) (h' : w.ownsRow B' e' size' v' n' xs') (hne : e ≠ e') : v.ownBlock = none ∨ v.ownBlock ≠ v'.ownBlock := by
  rcases h.2 with ⟨rfl, _⟩ | ⟨g, cap, cur, rfl, _, hg, _⟩
  · exact .inl rfl
  · refine .inr (fun h => ?_)
    rcases h'.2 with ⟨rfl, _⟩ | ⟨g', cap', cur', rfl, _, hg', _⟩
    · cases h
    · have hgb : g = g' := Option.some.inj h
      subst hgb
      rw [hg] at hg'
      injection hg' with hb
      injection hb with h1 h2
      exact hne h2
end Go.Proofs.YtimbikbbbfpeeaaGreatDoor
