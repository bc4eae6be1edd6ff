/- Rows and columns as plain data; how they lie in memory. -/
import Derived.Test.YtolkhjdododdaaaGreatDoorP2
import Derived.Laws.AppendOwnNone
import Derived.Test.YtolkhjdododdaaaGreatDoorP1
import Derived.ProofKit
import Derived.ChangeSlices
import Derived.WideShapes
set_option linter.unusedSimpArgs false
set_option linter.unusedVariables false
namespace Go.Proofs.YtolkhjdododdaaaGreatDoor
open Go Go.RowKit

structure Co where
 name : ByteArray
 cell : Cl
structure Ro where
 key : ByteArray
 live : Cl
 gone : Int
 shade : Int
 cols : List Co
@[simp] theorem Co.eta (c : Co) : Co.mk c.name c.cell = c := rfl
def zeroCl : Cl := ⟨⟨#[]⟩, false, 0, 0⟩
def coCells : List Co → List Value
 | [] => []
 | c :: l => .string c.name :: .string c.cell.val :: .bool c.cell.dead :: .int .i64 c.cell.at_ :: .int .i64 c.cell.fin :: coCells l
theorem coCells_length (l : List Co) : (coCells l).length = l.length * 5 := by
 induction l with
 | nil => rfl
 | cons c l ih => simp [coCells, ih]; omega
theorem coCells_append (l m : List Co) : coCells (l ++ m) = coCells l ++ coCells m := by
 induction l with
 | nil => rfl
 | cons c l ih => simp [coCells, ih]
theorem coCells_get : ∀ (l : List Co) (k : Nat) (h : k < l.length), (coCells l)[k * 5]? = some (.string l[k].name) ∧ (coCells l)[k * 5 + 1]? = some (.string l[k].cell.val) ∧ (coCells l)[k * 5 + 2]? = some (.bool l[k].cell.dead) ∧ (coCells l)[k * 5 + 3]? = some (.int .i64 l[k].cell.at_) ∧ (coCells l)[k * 5 + 4]? = some (.int .i64 l[k].cell.fin)
 | c :: l, 0, _ => by simp [coCells]
 | c :: l, k + 1, h => by
  have ih := coCells_get l k (by simpa using h)
  have e : (k + 1) * 5 = k * 5 + 5 := by omega
  simp only [e, coCells, List.getElem_cons_succ]
  exact ⟨by simpa using ih.1, by simpa using ih.2.1, by simpa using ih.2.2.1, by simpa using ih.2.2.2.1, by simpa using ih.2.2.2.2⟩
def ColsIn (w : World) (v : Value) (l : List Co) : Prop := SliceIn w v l.length (coCells l)
theorem ColsIn.ext {w w' : World} (hE : Ext w w') {v : Value} {l : List Co} (h : ColsIn w v l) : ColsIn w' v l := SliceIn.ext hE h
theorem ColsIn.nil (w : World) : ColsIn w (.slice none 0 0) [] := SliceIn.nil w
/-- A column at a place in memory. -/
structure CoAt (w : World) (b o : Nat) (c : Co) : Prop where
 c0 : w.cell? ⟨b, o, none⟩ = some (.string c.name)
 c1 : w.cell? ⟨b, o + 1, none⟩ = some (.string c.cell.val)
 c2 : w.cell? ⟨b, o + 2, none⟩ = some (.bool c.cell.dead)
 c3 : w.cell? ⟨b, o + 3, none⟩ = some (.int .i64 c.cell.at_)
 c4 : w.cell? ⟨b, o + 4, none⟩ = some (.int .i64 c.cell.fin)
theorem CoAt.ext {w w' : World} (hE : Ext w w') {b o : Nat} {c : Co} (h : CoAt w b o c) : CoAt w' b o c := ⟨hE.cell h.c0, hE.cell h.c1, hE.cell h.c2, hE.cell h.c3, hE.cell h.c4⟩
theorem ColsIn.get {w : World} {v : Value} {l : List Co} (h : ColsIn w v l) : ∃ a c, v = .slice a l.length c ∧ l.length ≤ c ∧ c ≤ 9223372036854775807 ∧ ∀ k (hk : k < l.length), ∃ b o, a = some ⟨b, o, none⟩ ∧ CoAt w b (o + k * 5) l[k] := by
 obtain ⟨a, c, rfl, hc, hcm, ha, hcell⟩ := h
 unfold maxLen at hcm
 refine ⟨a, c, rfl, hc, by omega, fun k hk => ?_⟩
 obtain ⟨g0, g1, g2, g3, g4⟩ := coCells_get l k hk
 obtain ⟨b, o, rfl, h0⟩ := hcell _ _ g0
 obtain ⟨b1, o1, e1, h1⟩ := hcell _ _ g1
 obtain ⟨b2, o2, e2, h2⟩ := hcell _ _ g2
 obtain ⟨b3, o3, e3, h3⟩ := hcell _ _ g3
 obtain ⟨b4, o4, e4, h4⟩ := hcell _ _ g4
 cases e1; cases e2; cases e3; cases e4
 exact ⟨b, o, rfl, h0, h1, h2, h3, h4⟩
def cl4 (c : Cl) : Array Value := #[.string c.val, .bool c.dead, .int .i64 c.at_, .int .i64 c.fin]
theorem BoxAt.cl {w : World} {p : Nat} {c : Cl} {T : TypeId} (h : BoxAt w p (cl4 c) T) : w.cell? ⟨p, 0, none⟩ = some (.string c.val) ∧ w.cell? ⟨p, 1, none⟩ = some (.bool c.dead) ∧ w.cell? ⟨p, 2, none⟩ = some (.int .i64 c.at_) ∧ w.cell? ⟨p, 3, none⟩ = some (.int .i64 c.fin) :=
 ⟨h.cell 0, h.cell 1, h.cell 2, h.cell 3⟩
theorem BoxAt.put4 {w : World} {p : Nat} {c d : Cl} {T : TypeId} (h : BoxAt w p (cl4 c) T) : BoxAt ((((w.setCell ⟨p, 0, none⟩ (.string d.val)).setCell ⟨p, 1, none⟩ (.bool d.dead)).setCell ⟨p, 2, none⟩ (.int .i64 d.at_)).setCell ⟨p, 3, none⟩ (.int .i64 d.fin)) p (cl4 d) T :=
 (((h.set 0 _).set 1 _).set 2 _).set 3 _
theorem Ext.put4 {a w : World} (h : Ext a w) {p : Nat} (hp : a.heap.size ≤ p) {v0 v1 v2 v3 : Value} : Ext a ((((w.setCell ⟨p, 0, none⟩ v0).setCell ⟨p, 1, none⟩ v1).setCell ⟨p, 2, none⟩ v2).setCell ⟨p, 3, none⟩ v3) :=
 (((h.setCell hp _).setCell hp _).setCell hp _).setCell hp _

/-- A column's cell. -/
def cellOf : List Co → ByteArray → Cl
 | [], _ => zeroCl
 | c :: l, n => if c.name.toList == n.toList then c.cell else cellOf l n

def ro8 (r : Ro) (v : Value) : Array Value := #[.string r.key, .string r.live.val, .bool r.live.dead, .int .i64 r.live.at_, .int .i64 r.live.fin, .int .i64 r.gone, .int .i64 r.shade, v]
theorem BoxAt.ro {w : World} {p : Nat} {r : Ro} {v : Value} {T : TypeId} (h : BoxAt w p (ro8 r v) T) : w.cell? ⟨p, 0, none⟩ = some (.string r.key) ∧ w.cell? ⟨p, 1, none⟩ = some (.string r.live.val) ∧ w.cell? ⟨p, 2, none⟩ = some (.bool r.live.dead) ∧ w.cell? ⟨p, 3, none⟩ = some (.int .i64 r.live.at_) ∧ w.cell? ⟨p, 4, none⟩ = some (.int .i64 r.live.fin) ∧ w.cell? ⟨p, 5, none⟩ = some (.int .i64 r.gone) ∧ w.cell? ⟨p, 6, none⟩ = some (.int .i64 r.shade) ∧ w.cell? ⟨p, 7, none⟩ = some v :=
 ⟨h.cell 0, h.cell 1, h.cell 2, h.cell 3, h.cell 4, h.cell 5, h.cell 6, h.cell 7⟩

def pa3 (k : ByteArray) (g : Int) (u : Value) : Array Value := #[.string k, .int .i64 g, u]
theorem BoxAt.pa {w : World} {p : Nat} {k : ByteArray} {g : Int} {u : Value} {T : TypeId} (h : BoxAt w p (pa3 k g u) T) : w.cell? ⟨p, 0, none⟩ = some (.string k) ∧ w.cell? ⟨p, 1, none⟩ = some (.int .i64 g) ∧ w.cell? ⟨p, 2, none⟩ = some u := ⟨h.cell 0, h.cell 1, h.cell 2⟩

theorem info_Col : (Tryz.prog.info? 69).map (fun i => (i.zero, i.size, i.bytes)) = some (some (.agg #[.string ⟨#[]⟩, .string ⟨#[]⟩, .bool false, .int .i64 0, .int .i64 0]), 5, 56) := by kernel_rfl
theorem und_Cols : Tryz.prog.underlying 45 = some (.slice 69) := by kernel_rfl
def co5 (c : Co) : Array Value := #[.string c.name, .string c.cell.val, .bool c.cell.dead, .int .i64 c.cell.at_, .int .i64 c.cell.fin]
theorem BoxAt.co {w : World} {p : Nat} {c : Co} {T : TypeId} (h : BoxAt w p (co5 c) T) : w.cell? ⟨p, 0, none⟩ = some (.string c.name) ∧ w.cell? ⟨p, 1, none⟩ = some (.string c.cell.val) ∧ w.cell? ⟨p, 2, none⟩ = some (.bool c.cell.dead) ∧ w.cell? ⟨p, 3, none⟩ = some (.int .i64 c.cell.at_) ∧ w.cell? ⟨p, 4, none⟩ = some (.int .i64 c.cell.fin) :=
 ⟨h.cell 0, h.cell 1, h.cell 2, h.cell 3, h.cell 4⟩
end Go.Proofs.YtolkhjdododdaaaGreatDoor

/- 'append' to a list of columns of one's own. -/
namespace Go.Proofs.YtolkhjdododdaaaGreatDoor
open Go Go.RowKit

theorem coCells_one (l : List Co) : ∀ u ∈ coCells l, u.oneCell' = true := by
 induction l with
 | nil => intro u h; cases h
 | cons c l ih =>
  intro u h
  simp only [coCells, List.mem_cons] at h
  rcases h with rfl | rfl | rfl | rfl | rfl | h
  ·rfl
  ·rfl
  ·rfl
  ·rfl
  ·rfl
  ·exact ih u h
theorem appCols {ops : Array Oper} {rest : List Oper} {o : Oper} {a : Act} {Q : Exit → Act → World → Prop} (w : World) (hg : o.guard = none) (s x : Operand)
  (hop : o.op = Op.call { callee := Callee.builtin Builtin.append, args := #[s, x], argTypes := #[45, 45] })
  (B : Nat) (hB : B ≤ w.heap.size) (v : Value) (l : List Co) (hown : w.ownsRow B 69 5 v l.length (coCells l)) (hs : a.eval s = v) (u : Value) (m : List Co) (hin : ColsIn w u m) (hx : a.eval x = u) (hb : l.length + m.length ≤ 1000000)
  (hK : ∀ v' w', w'.ownsRow B 69 5 v' (l ++ m).length (coCells (l ++ m)) → w.grownBy w' v.ownBlock → wpList Tryz.prog ops Q rest (a.put o.dst v') w') : wpList Tryz.prog ops Q (o :: rest) a w := by
 obtain ⟨i0, hi, hz0, hz1, hz2⟩ := info_parts info_Col
 obtain ⟨ao, c, rfl, hc, hcm, ha, hcell⟩ := hin
 cases ao with
 | none =>
  have hc0 := ha rfl
  obtain rfl : m = [] := List.eq_nil_of_length_eq_zero (by omega)
  subst hc0
  refine wpList_append_own_none hg s x 45 hop B 69 i0 5 und_Cols hi v l.length (coCells l) hs hown hx (hK _ _ (by rw [List.append_nil]; exact hown) ⟨rfl, rfl, rfl, Nat.le_refl _, fun _ _ _ => rfl⟩)
 | some ad =>
  refine wpList_append_own _ hg s x 45 hop B 69 i0 _ 5 56 und_Cols hi hz0 hz1 hz2 rfl (by decide) v l.length (coCells l) hs hown ad m.length c (coCells m) hx (coCells_length m) ?_ (coCells_one m) (by unfold maxLen; omega) (by omega) hB ?_
  ·intro j u hj
   obtain ⟨b, o, e, h⟩ := hcell j u hj
   cases e
   rw [Addr.add_lit]
   exact h
  ·intro v' w' h2 h3 _
   refine hK v' w' ?_ h3
   rw [coCells_append, List.length_append]
   exact h2
theorem cols_own {w : World} {B : Nat} {v : Value} {l : List Co} (h : w.ownsRow B 69 5 v l.length (coCells l)) : ColsIn w v l := SliceIn.of_owns h
theorem own_shape {w : World} {B : Nat} {e : TypeId} {size : Nat} {v : Value} {n : Nat} {xs : List Value} (h : w.ownsRow B e size v n xs) : ∃ a c, v = .slice a n c := by
 obtain ⟨a, c, h, _⟩ := SliceIn.of_owns h
 exact ⟨a, c, h⟩
theorem own_ne_box {w : World} {B : Nat} {e e' : TypeId} {size : Nat} {v : Value} {n b : Nat} {xs : List Value} {cs : Array Value} (h : w.ownsRow B e size v n xs) (hb : BoxAt w b cs e') (hne : e ≠ e') : v.ownBlock = none ∨ v.ownBlock ≠ some b := by
 rcases h.2 with ⟨rfl, _⟩ | ⟨g, cap, cur, rfl, _, hg, _⟩
 ·exact .inl rfl
 ·refine .inr (fun h => ?_)
  have hgb : g = b := Option.some.inj h
  subst hgb
  unfold BoxAt at hb
  rw [hg] at hb
  injection hb with hb
  injection hb with h1 h2
  exact hne h2
theorem own_setCell {w : World} {B : Nat} {e : TypeId} {size : Nat} {v : Value} {n : Nat} {xs : List Value} {q i : Nat} {u : Value} (h : w.ownsRow B e size v n xs) (hne : v.ownBlock = none ∨ v.ownBlock ≠ some q) : (w.setCell ⟨q, i, none⟩ u).ownsRow B e size v n xs :=
 h.kept (row := some q) ⟨rfl, rfl, rfl, by rw [Deep.nblk_setCell]; exact Nat.le_refl _, fun k _ hk => Deep.blk_setCell_other _ _ _ _ (fun e => hk (by rw [e]))⟩ hne
theorem own_ne_own {w : World} {B B' : Nat} {e e' : TypeId} {size size' : Nat} {v v' : Value} {n n' : Nat} {xs xs' : List Value} (h : w.ownsRow B e size v n xs) (h' : w.ownsRow B' e' size' v' n' xs') (hne : e ≠ e') : v.ownBlock = none ∨ v.ownBlock ≠ v'.ownBlock := by
 rcases h.2 with ⟨rfl, _⟩ | ⟨g, cap, cur, rfl, _, hg, _⟩
 ·exact .inl rfl
 ·refine .inr (fun h => ?_)
  rcases h'.2 with ⟨rfl, _⟩ | ⟨g', cap', cur', rfl, _, hg', _⟩
  ·cases h
  ·have hgb : g = g' := Option.some.inj h
   subst hgb
   rw [hg] at hg'
   injection hg' with hb
   injection hb with h1 h2
   exact hne h2
end Go.Proofs.YtolkhjdododdaaaGreatDoor

/- Lists of rows in memory; 'append' to such a list of one's own; rows' columns that stay while such a list grows. -/
namespace Go.Proofs.YtolkhjdododdaaaGreatDoor
open Go Go.RowKit

theorem info_Row : (Tryz.prog.info? 47).map (fun i => (i.zero, i.size, i.bytes)) = some (some (.agg #[.string ⟨#[]⟩, .string ⟨#[]⟩, .bool false, .int .i64 0, .int .i64 0, .int .i64 0, .int .i64 0, .slice none 0 0]), 8, 96) := by kernel_rfl
theorem und_Rows : Tryz.prog.underlying 37 = some (.slice 47) := by kernel_rfl
/-- The cells of rows, each with the value of its columns. -/
def roCells : List (Ro × Value) → List Value
 | [] => []
 | p :: l => .string p.1.key :: .string p.1.live.val :: .bool p.1.live.dead :: .int .i64 p.1.live.at_ :: .int .i64 p.1.live.fin :: .int .i64 p.1.gone :: .int .i64 p.1.shade :: p.2 :: roCells l
theorem roCells_length (l : List (Ro × Value)) : (roCells l).length = l.length * 8 := by
 induction l with
 | nil => rfl
 | cons c l ih => simp [roCells, ih]; omega
theorem roCells_append (l m : List (Ro × Value)) : roCells (l ++ m) = roCells l ++ roCells m := by
 induction l with
 | nil => rfl
 | cons c l ih => simp [roCells, ih]
theorem roCells_get : ∀ (l : List (Ro × Value)) (k : Nat) (h : k < l.length) (j : Nat), j < 8 → (roCells l)[k * 8 + j]? = (ro8 l[k].1 l[k].2)[j]?
 | c :: l, 0, _, j, hj => by
  obtain rfl | rfl | rfl | rfl | rfl | rfl | rfl | rfl : j = 0 ∨ j = 1 ∨ j = 2 ∨ j = 3 ∨ j = 4 ∨ j = 5 ∨ j = 6 ∨ j = 7 := by omega
  all_goals simp [roCells, ro8]
 | c :: l, k + 1, h, j, hj => by
  have ih := roCells_get l k (by simpa using h) j hj
  have e : (k + 1) * 8 + j = k * 8 + j + 8 := by omega
  simp only [e, roCells, List.getElem_cons_succ]
  simpa using ih
/-- Rows in memory: v is a slice that reads as ps, each row's columns lie where its value says. -/
structure RowsIn (w : World) (v : Value) (ps : List (Ro × Value)) : Prop where
 rows : SliceIn w v ps.length (roCells ps)
 cols : ∀ p ∈ ps, ColsIn w p.2 p.1.cols
theorem RowsIn.ext {w w' : World} (hE : Ext w w') {v : Value} {ps : List (Ro × Value)} (h : RowsIn w v ps) : RowsIn w' v ps := ⟨h.rows.ext hE, fun p hp => (h.cols p hp).ext hE⟩
/-- A row at a place in memory. -/
structure RoAt (w : World) (b o : Nat) (r : Ro) (v : Value) : Prop where
 c0 : w.cell? ⟨b, o, none⟩ = some (.string r.key)
 c1 : w.cell? ⟨b, o + 1, none⟩ = some (.string r.live.val)
 c2 : w.cell? ⟨b, o + 2, none⟩ = some (.bool r.live.dead)
 c3 : w.cell? ⟨b, o + 3, none⟩ = some (.int .i64 r.live.at_)
 c4 : w.cell? ⟨b, o + 4, none⟩ = some (.int .i64 r.live.fin)
 c5 : w.cell? ⟨b, o + 5, none⟩ = some (.int .i64 r.gone)
 c6 : w.cell? ⟨b, o + 6, none⟩ = some (.int .i64 r.shade)
 c7 : w.cell? ⟨b, o + 7, none⟩ = some v
theorem RoAt.ext {w w' : World} (hE : Ext w w') {b o : Nat} {r : Ro} {v : Value} (h : RoAt w b o r v) : RoAt w' b o r v := ⟨hE.cell h.c0, hE.cell h.c1, hE.cell h.c2, hE.cell h.c3, hE.cell h.c4, hE.cell h.c5, hE.cell h.c6, hE.cell h.c7⟩
theorem RowsIn.get {w : World} {v : Value} {ps : List (Ro × Value)} (h : RowsIn w v ps) : ∃ a c, v = .slice a ps.length c ∧ ps.length ≤ c ∧ c ≤ 9223372036854775807 ∧ ∀ k (hk : k < ps.length), ∃ b o, a = some ⟨b, o, none⟩ ∧ RoAt w b (o + k * 8) ps[k].1 ps[k].2 := by
 obtain ⟨a, c, rfl, hc, hcm, ha, hcell⟩ := h.rows
 unfold maxLen at hcm
 refine ⟨a, c, rfl, hc, by omega, fun k hk => ?_⟩
 have g : ∀ j u, j < 8 → (ro8 ps[k].1 ps[k].2)[j]? = some u → ∃ b o, a = some ⟨b, o, none⟩ ∧ w.cell? ⟨b, o + (k * 8 + j), none⟩ = some u := fun j u hj he => hcell _ u ((roCells_get ps k hk j hj).trans he)
 obtain ⟨b, o, rfl, h0⟩ := g 0 _ (by decide) rfl
 obtain ⟨b1, o1, e1, h1⟩ := g 1 _ (by decide) rfl
 obtain ⟨b2, o2, e2, h2⟩ := g 2 _ (by decide) rfl
 obtain ⟨b3, o3, e3, h3⟩ := g 3 _ (by decide) rfl
 obtain ⟨b4, o4, e4, h4⟩ := g 4 _ (by decide) rfl
 obtain ⟨b5, o5, e5, h5⟩ := g 5 _ (by decide) rfl
 obtain ⟨b6, o6, e6, h6⟩ := g 6 _ (by decide) rfl
 obtain ⟨b7, o7, e7, h7⟩ := g 7 _ (by decide) rfl
 cases e1; cases e2; cases e3; cases e4; cases e5; cases e6; cases e7
 exact ⟨b, o, rfl, h0, h1, h2, h3, h4, h5, h6, h7⟩
theorem rows_one {w : World} {b : Nat} {r : Ro} {v : Value} {T : TypeId} (hb : BoxAt w b (ro8 r v) T) (hc : ColsIn w v r.cols) : RowsIn w (.slice (some ⟨b, 0, none⟩) 1 1) [(r, v)] :=
 ⟨⟨_, 1, rfl, Nat.le_refl _, by unfold maxLen; decide, nofun, fun j u hj => ⟨b, 0, rfl, by rw [Nat.zero_add, hb.cell j]; simpa [roCells, ro8] using hj⟩⟩, fun p hp => by rw [List.mem_singleton.1 hp]; exact hc⟩

theorem ColsIn.shape {w : World} {v : Value} {l : List Co} (h : ColsIn w v l) : ∃ a c, v = .slice a l.length c := by
 obtain ⟨a, c, e, _⟩ := h
 exact ⟨a, c, e⟩
theorem RowsIn.nil (w : World) : RowsIn w (.slice none 0 0) [] := ⟨SliceIn.nil w, nofun⟩
theorem roCells_one (l : List (Ro × Value)) (h : ∀ p ∈ l, ∃ a n c, p.2 = .slice a n c) : ∀ u ∈ roCells l, u.oneCell' = true := by
 induction l with
 | nil => intro u h; cases h
 | cons c l ih =>
  intro u hu
  simp only [roCells, List.mem_cons] at hu
  rcases hu with rfl | rfl | rfl | rfl | rfl | rfl | rfl | rfl | hu
  all_goals try rfl
  ·obtain ⟨a, n, c, e⟩ := h _ (List.mem_cons_self ..)
   rw [e]
   rfl
  ·exact ih (fun p hp => h p (List.mem_cons_of_mem _ hp)) u hu
theorem RowsIn.uncons {w : World} {v : Value} {l : List (Ro × Value)} (h : RowsIn w v l) (hl : 0 < l.length) : ∃ b o c A a cc l', l = (A, .slice a A.cols.length cc) :: l' ∧ v = .slice (some ⟨b, o, none⟩) l.length c ∧ l.length ≤ c ∧ c ≤ 9223372036854775807 ∧ RoAt w b o A (.slice a A.cols.length cc) ∧ ColsIn w (.slice a A.cols.length cc) A.cols ∧ RowsIn w (.slice (if c = 1 then some ⟨b, o, none⟩ else some ⟨b, o + 8, none⟩) (l.length - 1) (c - 1)) l' := by
 obtain ⟨a, c, rfl, hc, hcm, hg⟩ := h.get
 obtain ⟨b, o, rfl, h0⟩ := hg 0 hl
 cases l with
 | nil => cases hl
 | cons p l' =>
  obtain ⟨A, u⟩ := p
  have hcol := h.cols _ (List.mem_cons_self ..)
  obtain ⟨a, cc, e⟩ := hcol.shape
  simp only at e
  subst e
  refine ⟨b, o, c, A, a, cc, l', rfl, rfl, hc, hcm, by simpa using h0, hcol, ?_, fun p hp => h.cols p (List.mem_cons_of_mem _ hp)⟩
  obtain ⟨a', c', e, hc', hcm', ha', hcell⟩ := h.rows
  cases e
  refine ⟨if c = 1 then some ⟨b, o, none⟩ else some ⟨b, o + 8, none⟩, c - 1, by simp, by simp at hc' ⊢; omega, by unfold maxLen; omega, (by intro h; split at h <;> cases h), fun j u hj => ?_⟩
  obtain ⟨b', o', e, hx⟩ := hcell (j + 8) u (by simpa [roCells] using hj)
  cases e
  by_cases h1 : c = 1
  ·have h2 : l' = [] := List.eq_nil_of_length_eq_zero (by simp at hc'; omega)
   subst h2
   cases hj
  ·rw [if_neg h1]
   exact ⟨b, o + 8, rfl, by rw [Nat.add_assoc, Nat.add_comm 8 j]; exact hx⟩
theorem appRows {ops : Array Oper} {rest : List Oper} {o : Oper} {a : Act} {Q : Exit → Act → World → Prop} (w : World) (hg : o.guard = none) (s x : Operand)
  (hop : o.op = Op.call { callee := Callee.builtin Builtin.append, args := #[s, x], argTypes := #[37, 37] })
  (B : Nat) (hB : B ≤ w.heap.size) (v : Value) (l : List (Ro × Value)) (hown : w.ownsRow B 47 8 v l.length (roCells l)) (hs : a.eval s = v) (u : Value) (m : List (Ro × Value)) (hin : RowsIn w u m) (hx : a.eval x = u) (hb : l.length + m.length ≤ 1000000)
  (hK : ∀ v' w', w'.ownsRow B 47 8 v' (l ++ m).length (roCells (l ++ m)) → w.grownBy w' v.ownBlock → wpList Tryz.prog ops Q rest (a.put o.dst v') w') : wpList Tryz.prog ops Q (o :: rest) a w := by
 obtain ⟨i0, hi, hz0, hz1, hz2⟩ := info_parts info_Row
 obtain ⟨⟨ao, c, rfl, hc, hcm, ha, hcell⟩, hcols⟩ := hin
 have hone := roCells_one m (fun p hp => let ⟨a, c, e⟩ := (hcols p hp).shape; ⟨a, _, c, e⟩)
 cases ao with
 | none =>
  have hc0 := ha rfl
  obtain rfl : m = [] := List.eq_nil_of_length_eq_zero (by omega)
  subst hc0
  refine wpList_append_own_none hg s x 37 hop B 47 i0 8 und_Rows hi v l.length (roCells l) hs hown hx (hK _ _ (by rw [List.append_nil]; exact hown) ⟨rfl, rfl, rfl, Nat.le_refl _, fun _ _ _ => rfl⟩)
 | some ad =>
  refine wpList_append_own _ hg s x 37 hop B 47 i0 _ 8 96 und_Rows hi hz0 hz1 hz2 rfl (by decide) v l.length (roCells l) hs hown ad m.length c (roCells m) hx (roCells_length m) ?_ hone (by unfold maxLen; omega) (by omega) hB ?_
  ·intro j u hj
   obtain ⟨b, o, e, h⟩ := hcell j u hj
   cases e
   rw [Addr.add_lit]
   exact h
  ·intro v' w' h2 h3 _
   refine hK v' w' ?_ h3
   rw [roCells_append, List.length_append]
   exact h2

/-- A row's columns that stay: they lie in the first world, or are one's own. -/
def SafeC (w x : World) (p : Ro × Value) : Prop := ColsIn w p.2 p.1.cols ∨ x.ownsRow w.heap.size 69 5 p.2 p.1.cols.length (coCells p.1.cols)
theorem SafeC.ext {w x y : World} {p : Ro × Value} (hE : Ext x y) (h : SafeC w x p) : SafeC w y p := h.imp_right fun h => ownsRow_ext h hE
theorem SafeC.grown {w x y : World} {p : Ro × Value} {B n : Nat} {v : Value} {xs : List Value} (hown : x.ownsRow B 47 8 v n xs) (hg : x.grownBy y v.ownBlock) (h : SafeC w x p) : SafeC w y p :=
 h.imp_right fun h => h.kept hg (own_ne_own h hown (by decide))
theorem SafeC.cols {w x : World} {p : Ro × Value} (hE : Ext w x) (h : SafeC w x p) : ColsIn x p.2 p.1.cols := by
 rcases h with h | h
 ·exact h.ext hE
 ·exact cols_own h
theorem rows_own {w x : World} {B : Nat} {v : Value} {l : List (Ro × Value)} (h : x.ownsRow B 47 8 v l.length (roCells l)) (hE : Ext w x) (hs : ∀ p ∈ l, SafeC w x p) : RowsIn x v l :=
 ⟨SliceIn.of_owns h, fun p hp => (hs p hp).cols hE⟩

/-- A slice that reads as cells, in a block of its own type: what a store to a block of another type leaves alone. -/
def TIn (x : World) (e : TypeId) (v : Value) (n : Nat) (xs : List Value) : Prop := (v = .slice none 0 0 ∧ n = 0 ∧ xs = []) ∨ ∃ b c Z, v = .slice (some ⟨b, 0, none⟩) n c ∧ BoxAt x b Z e ∧ n ≤ c ∧ c ≤ maxLen ∧ ∀ (j : Nat) u, xs[j]? = some u → Z[j]? = some u
theorem box_ne {x : World} {p q : Nat} {A B : Array Value} {S T : TypeId} (h : BoxAt x p A S) (h' : BoxAt x q B T) (hne : S ≠ T) : p ≠ q := by
 rintro rfl
 unfold BoxAt at h h'
 rw [h] at h'
 injection h' with h'
 injection h' with _ h'
 exact hne h'
theorem TIn.nil (x : World) (e : TypeId) : TIn x e (.slice none 0 0) 0 [] := .inl ⟨rfl, rfl, rfl⟩
theorem TIn.slice {x : World} {e : TypeId} {v : Value} {n : Nat} {xs : List Value} (h : TIn x e v n xs) : SliceIn x v n xs := by
 rcases h with ⟨rfl, rfl, rfl⟩ | ⟨b, c, Z, rfl, hb, hn, hc, hx⟩
 ·exact SliceIn.nil x
 ·exact ⟨_, _, rfl, hn, hc, nofun, fun j u hj => ⟨b, 0, rfl, by rw [Nat.zero_add, hb.cell j]; exact hx j u hj⟩⟩
theorem TIn.box {x : World} {e : TypeId} {b n : Nat} {xs : List Value} (hb : BoxAt x b xs.toArray e) (hn : n ≤ maxLen) : TIn x e (.slice (some ⟨b, 0, none⟩) n n) n xs :=
 .inr ⟨b, n, _, rfl, hb, Nat.le_refl _, hn, fun j u hj => by simpa using hj⟩
theorem TIn.own {x : World} {B : Nat} {e : TypeId} {size : Nat} {v : Value} {n : Nat} {xs : List Value} (h : x.ownsRow B e size v n xs) : TIn x e v n xs := by
 obtain ⟨hl, h⟩ := h
 rcases h with ⟨rfl, rfl⟩ | ⟨g, cap, cur, rfl, _, hg, hn, hm, hs, ht⟩
 ·exact .inl ⟨rfl, rfl, List.eq_nil_of_length_eq_zero (by simpa using hl)⟩
 ·refine .inr ⟨g, cap, cur, rfl, hg, hn, hm, fun j u hj => ?_⟩
  have hjl : j < n * size := by
   have := (List.getElem?_eq_some_iff.1 hj).1
   omega
  rw [← ht, List.getElem?_take, if_pos hjl] at hj
  simpa using hj
theorem TIn.ext {x y : World} {e : TypeId} {v : Value} {n : Nat} {xs : List Value} (hE : Ext x y) (h : TIn x e v n xs) : TIn y e v n xs := h.imp_right fun ⟨b, c, Z, e, hb, h⟩ => ⟨b, c, Z, e, hb.ext hE, h⟩
theorem TIn.keep {x y : World} {e : TypeId} {v : Value} {n : Nat} {xs : List Value} {q : Nat} {W : Array Value} {T : TypeId} (hg : x.grownBy y (some q)) (hq : BoxAt x q W T) (hne : e ≠ T) (h : TIn x e v n xs) : TIn y e v n xs :=
 h.imp_right fun ⟨b, c, Z, e, hb, h⟩ => ⟨b, c, Z, e, hb.grown hg (fun e => box_ne hb hq hne (Option.some.inj e)), h⟩
theorem TIn.set {x : World} {e : TypeId} {v : Value} {n : Nat} {xs : List Value} {q : Nat} {W : Array Value} {T : TypeId} (i : Nat) (u : Value) (hq : BoxAt x q W T) (hne : e ≠ T) (h : TIn x e v n xs) : TIn (x.setCell ⟨q, i, none⟩ u) e v n xs :=
 h.imp_right fun ⟨b, c, Z, e, hb, h⟩ => ⟨b, c, Z, e, hb.other (box_ne hb hq hne) i u, h⟩
theorem TIn.keepOwn {x y : World} {e : TypeId} {v : Value} {n : Nat} {xs : List Value} {B : Nat} {T : TypeId} {size m : Nat} {vo : Value} {ys : List Value} (hown : x.ownsRow B T size vo m ys) (hg : x.grownBy y vo.ownBlock) (hne : e ≠ T) (h : TIn x e v n xs) : TIn y e v n xs :=
 h.imp_right fun ⟨b, c, Z, e, hb, h⟩ => ⟨b, c, Z, e, hb.grown hg (fun e => by
  rcases own_ne_box hown hb (fun e => hne e.symm) with h | h
  ·rw [h] at e; cases e
  ·exact h e.symm), h⟩
theorem TIn.shape {x : World} {e : TypeId} {v : Value} {n : Nat} {xs : List Value} (h : TIn x e v n xs) : ∃ a c, v = .slice a n c := by
 rcases h with ⟨rfl, rfl, rfl⟩ | ⟨b, c, Z, e, _⟩
 ·exact ⟨_, _, rfl⟩
 ·exact ⟨_, _, e⟩

/-- Columns, rows in blocks of their own types. -/
def ColsT (x : World) (v : Value) (l : List Co) : Prop := TIn x 69 v l.length (coCells l)
structure RowsT (x : World) (v : Value) (qs : List (Ro × Value)) : Prop where
 tin : TIn x 47 v qs.length (roCells qs)
 typed : ∀ p ∈ qs, ColsT x p.2 p.1.cols
theorem ColsT.cols {x : World} {v : Value} {l : List Co} (h : ColsT x v l) : ColsIn x v l := TIn.slice h
theorem ColsT.nil (x : World) : ColsT x (.slice none 0 0) [] := TIn.nil x _
theorem ColsT.ext {x y : World} {v : Value} {l : List Co} (hE : Ext x y) (h : ColsT x v l) : ColsT y v l := TIn.ext hE h
theorem ColsT.keep {x y : World} {v : Value} {l : List Co} {q : Nat} {Z : Array Value} {T : TypeId} (hg : x.grownBy y (some q)) (hb : BoxAt x q Z T) (h2 : 69 ≠ T) (h : ColsT x v l) : ColsT y v l := TIn.keep hg hb h2 h
theorem RowsT.rows {x : World} {v : Value} {qs : List (Ro × Value)} (h : RowsT x v qs) : RowsIn x v qs := ⟨h.tin.slice, fun p hp => (h.typed p hp).cols⟩
theorem RowsT.ext {x y : World} {v : Value} {qs : List (Ro × Value)} (hE : Ext x y) (h : RowsT x v qs) : RowsT y v qs := ⟨h.tin.ext hE, fun p hp => (h.typed p hp).ext hE⟩
theorem RowsT.keep {x y : World} {v : Value} {qs : List (Ro × Value)} {q : Nat} {Z : Array Value} {T : TypeId} (hg : x.grownBy y (some q)) (hb : BoxAt x q Z T) (h1 : 47 ≠ T) (h2 : 69 ≠ T) (h : RowsT x v qs) : RowsT y v qs :=
 ⟨h.tin.keep hg hb h1, fun p hp => (h.typed p hp).keep hg hb h2⟩
theorem RowsT.set {x : World} {v : Value} {qs : List (Ro × Value)} {q : Nat} {Z : Array Value} {T : TypeId} (i : Nat) (u : Value) (hb : BoxAt x q Z T) (h1 : 47 ≠ T) (h2 : 69 ≠ T) (h : RowsT x v qs) : RowsT (x.setCell ⟨q, i, none⟩ u) v qs :=
 ⟨h.tin.set i u hb h1, fun p hp => TIn.set i u hb h2 (h.typed p hp)⟩
theorem RowsT.keepOwn {x y : World} {v : Value} {qs : List (Ro × Value)} {B : Nat} {T : TypeId} {size m : Nat} {vo : Value} {ys : List Value} (hown : x.ownsRow B T size vo m ys) (hg : x.grownBy y vo.ownBlock) (h1 : 47 ≠ T) (h2 : 69 ≠ T) (h : RowsT x v qs) : RowsT y v qs :=
 ⟨h.tin.keepOwn hown hg h1, fun p hp => TIn.keepOwn hown hg h2 (h.typed p hp)⟩
theorem RowsT.nil (x : World) : RowsT x (.slice none 0 0) [] := ⟨TIn.nil x _, nofun⟩
theorem RowsT.shape {x : World} {v : Value} {qs : List (Ro × Value)} (h : RowsT x v qs) : ∃ a c, v = .slice a qs.length c := h.tin.shape
theorem RowsT.one {x : World} {b : Nat} {r : Ro} {v : Value} (hb : BoxAt x b (ro8 r v) 47) (hc : ColsT x v r.cols) : RowsT x (.slice (some ⟨b, 0, none⟩) 1 1) [(r, v)] :=
 ⟨TIn.box (xs := roCells [(r, v)]) hb (by unfold maxLen; decide), fun p hp => by rw [List.mem_singleton.1 hp]; exact hc⟩
end Go.Proofs.YtolkhjdododdaaaGreatDoor

/- A slice of integers that comes in, read. -/
namespace Go.Proofs.YtolkhjdododdaaaGreatDoor
open Go Go.RowKit Go.ChangeShapes Go.WideShapes Go.ChangeAt

/-- The cells of a list of integers. -/
def kcells (k : IntKind) (l : List Int) : List Value := l.map (Value.int k)
@[simp] theorem kcells_length (k : IntKind) (l : List Int) : (kcells k l).length = l.length := by simp [kcells]
theorem kcells_get (k : IntKind) (l : List Int) (i : Nat) : (kcells k l)[i]? = l[i]?.map (Value.int k) := by simp [kcells]
/-- v is a slice of integers that reads as l. -/
def IntsIn (w : World) (v : Value) (k : IntKind) (l : List Int) : Prop := SliceIn w v l.length (kcells k l)
theorem IntsIn.ext {w w' : World} (hE : Ext w w') {v : Value} {k : IntKind} {l : List Int} (h : IntsIn w v k l) : IntsIn w' v k l := SliceIn.ext hE h

theorem read_ints {P : Program} {H : Type} {enc : TypeId × Value → H} {W : World} {base : Nat} {t e : TypeId} {k : IntKind} {v : Value} {d : DataW H} {p : List MemPlace} (ht : P.underlying t = some (.slice e)) (he : P.underlying e = some (.int k)) (hc : P.cellsOf e = 1)
  (hv : Value.okWide P W .any base t v) (h : DataW.Trod enc P W 0 (fun _ => true) true t v d p) : ∃ l : List Int, IntsIn W v k l ∧ ∀ n ∈ l, (Lit.int k n).wf = true := by
 obtain ⟨a, len, cap, rfl⟩ := okWide_slice ht hv
 obtain ⟨fuel, hf⟩ := h
 rcases open_ints ht he hc hf with ⟨hcs, _⟩ | ⟨x, l, c, zs, hcs, _, hl, hm, hz, _, hcell, hwz⟩
 ·simp [Value.cells] at hcs
  obtain ⟨rfl, rfl, rfl⟩ := hcs
  exact ⟨[], SliceIn.nil W, by simp⟩
 ·simp [Value.cells] at hcs
  obtain ⟨rfl, rfl, rfl⟩ := hcs
  have hz' : zs.length = cap := by simpa using hz
  refine ⟨zs.take len, ?_, fun n hn => hwz n (List.mem_of_mem_take hn)⟩
  have hlen : (zs.take len).length = len := by simp; omega
  unfold IntsIn
  rw [hlen]
  refine ⟨some x, cap, rfl, hl, hm, nofun, fun j u hj => ?_⟩
  rw [kcells_get, List.getElem?_take] at hj
  split at hj
  ·rename_i hlt
   have hjz : j < zs.length := by omega
   have hc := hcell j hjz
   have h0 := hcell 0 (by omega)
   obtain ⟨b, o, s⟩ := x
   have hs : s = none := by
    cases s with
    | none => rfl
    | some s =>
     simp only [Addr.add, if_pos] at h0
     unfold World.cell? at h0
     split at h0 <;> simp at h0
   subst hs
   refine ⟨b, o, rfl, ?_⟩
   rw [Addr.add_lit] at hc
   rw [hc, List.getD_eq_getElem?_getD]
   rw [List.getElem?_eq_getElem hjz] at hj ⊢
   simp at hj ⊢
   exact hj
  ·cases hj
end Go.Proofs.YtolkhjdododdaaaGreatDoor
