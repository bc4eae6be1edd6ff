/- Rows and variables of one's own, that turn while memory grows. -/
import Derived.Test.YteamiiekpjoclaaP1
import Derived.Deep.Heap
set_option linter.unusedSimpArgs false
set_option linter.unusedVariables false
namespace Go.Proofs.Yteamiiekpjoclaa
open Go Go.RowKit

/-- A variable: block p holds the cells cs of type e, none frozen. -/
def BoxAt (w : World) (p : Nat) (cs : Array Value) (e : TypeId) : Prop := w.heap[p]? = some (.cells cs e (0, 0))
theorem BoxAt.lt {w : World} {p : Nat} {cs : Array Value} {e : TypeId} (h : BoxAt w p cs e) : p < w.heap.size := (Array.getElem?_eq_some_iff.1 h).1
theorem BoxAt.ext {w w' : World} (hE : Ext w w') {p : Nat} {cs : Array Value} {e : TypeId} (h : BoxAt w p cs e) : BoxAt w' p cs e := by
  have hl := h.lt
  unfold BoxAt at *
  rw [hE.block p hl]
  exact h
theorem BoxAt.made (w : World) (cs : Array Value) (e : TypeId) : BoxAt (w.alloc (.cells cs e)) w.heap.size cs e := heap_alloc_new w _
theorem BoxAt.cell {w : World} {p : Nat} {cs : Array Value} {e : TypeId} (h : BoxAt w p cs e) (i : Nat) : w.cell? ⟨p, i, none⟩ = cs[i]? := var_cell h i
theorem BoxAt.free {w : World} {p : Nat} {cs : Array Value} {e : TypeId} (h : BoxAt w p cs e) (i : Nat) : w.frozen? ⟨p, i, none⟩ = false := var_free h i
theorem BoxAt.other {w : World} {p q : Nat} {cs : Array Value} {e : TypeId} (h : BoxAt w p cs e) (hne : p ≠ q) (i : Nat) (u : Value) : BoxAt (w.setCell ⟨q, i, none⟩ u) p cs e := by
  unfold BoxAt at *
  rw [Deep.blk_setCell_other _ _ _ _ hne]
  exact h
theorem BoxAt.set {w : World} {p : Nat} {cs : Array Value} {e : TypeId} (h : BoxAt w p cs e) (i : Nat) (u : Value) : BoxAt (w.setCell ⟨p, i, none⟩ u) p (cs.setIfInBounds i u) e := by
  unfold BoxAt at *
  have hl := (Array.getElem?_eq_some_iff.1 h).1
  have he := (Array.getElem?_eq_some_iff.1 h).2
  simp only [World.setCell]
  rw [Array.getElem?_eq_getElem (by simpa using hl)]
  simp [Array.getElem_modify, he]
theorem BoxAt.grown {w w' : World} {p : Nat} {cs : Array Value} {e : TypeId} {row : Option Nat} (h : BoxAt w p cs e) (hg : w.grownBy w' row) (hne : some p ≠ row) : BoxAt w' p cs e := by
  unfold BoxAt at *
  rw [hg.block p (Array.getElem?_eq_some_iff.1 h).1 hne]
  exact h

/-- 'append(v, ..)' to a row of one's own, what is appended lying in a row that was made just now. -/
theorem appR {P : Program} {T e : TypeId} {z : Value} {size bytes : Nat} (info : (P.info? e).map (fun i => (i.zero, i.size, i.bytes)) = some (some z, size, bytes)) (und : P.underlying T = some (.slice e)) (hzs : z.cells.size = size) (hsz : 0 < size)
    {ops : Array Oper} {rest : List Oper} {o : Oper} {a : Act} {Q : Exit → Act → World → Prop} (w : World) (hg : o.guard = none) (s x : Operand)
    (hop : o.op = Op.call { callee := Callee.builtin Builtin.append, args := #[s, x], argTypes := #[T, T] })
    (B : Nat) (hB : B ≤ w.heap.size) (v : Value) (n : Nat) (xs : List Value) (hown : w.ownsRow B e size v n xs) (hs : a.eval s = v) (m : Nat) (cs : Array Value) (hx : a.eval x = .slice (some ⟨w.heap.size, 0, none⟩) m m)
    (hcs : cs.size = m * size) (h1c : ∀ u ∈ cs.toList, u.oneCell' = true) (hb1 : n + m ≤ maxLen) (hb : (n + m) * bytes ≤ 140737488355328)
    (hK : ∀ v' w', w'.ownsRow B e size v' (n + m) (xs ++ cs.toList) → (w.alloc (.cells cs e)).grownBy w' v.ownBlock → wpList P ops Q rest (a.put o.dst v') w') : wpList P ops Q (o :: rest) a (w.alloc (.cells cs e)) := by
  obtain ⟨i0, hi, hz0, hz1, hz2⟩ := info_parts info
  refine wpList_append_own _ hg s x T hop B e i0 z size bytes und hi hz0 hz1 hz2 hzs hsz v n xs hs (hown.alloc _) ⟨w.heap.size, 0, none⟩ m m cs.toList hx (by simpa using hcs) ?_ h1c hb1 hb (by simp; omega) ?_
  · intro j u hj
    rw [Addr.add_lit, Nat.zero_add, cell_of_row _ w.heap.size j cs e (0, 0) (heap_alloc_new w _)]
    simpa using hj
  · intro v' w' h2 h3 _
    exact hK v' w' h2 h3

theorem BoxAt.madeN {w : World} {n : Nat} (cs : Array Value) (e : TypeId) (h : w.heap.size = n) : BoxAt (w.alloc (.cells cs e)) n cs e := by subst h; exact BoxAt.made w cs e
theorem boxes2 (w : World) (A B : Array Value) (a b : TypeId) :
    BoxAt ((w.alloc (.cells A a)).alloc (.cells B b)) w.heap.size A a ∧ BoxAt ((w.alloc (.cells A a)).alloc (.cells B b)) (w.heap.size + 1) B b ∧ Ext w ((w.alloc (.cells A a)).alloc (.cells B b)) :=
  ⟨(BoxAt.made w A a).ext ((Ext.refl _).alloc _), BoxAt.madeN B b (Deep.nblk_alloc _ _), ((Ext.refl w).alloc _).alloc _⟩
theorem boxes3 (w : World) (A B C : Array Value) (a b c : TypeId) :
    BoxAt (((w.alloc (.cells A a)).alloc (.cells B b)).alloc (.cells C c)) w.heap.size A a ∧ BoxAt (((w.alloc (.cells A a)).alloc (.cells B b)).alloc (.cells C c)) (w.heap.size + 1) B b ∧ BoxAt (((w.alloc (.cells A a)).alloc (.cells B b)).alloc (.cells C c)) (w.heap.size + 1 + 1) C c ∧ Ext w (((w.alloc (.cells A a)).alloc (.cells B b)).alloc (.cells C c)) := by
  obtain ⟨h1, h2, h3⟩ := boxes2 w A B a b
  exact ⟨h1.ext ((Ext.refl _).alloc _), h2.ext ((Ext.refl _).alloc _), BoxAt.madeN C c (by rw [Deep.nblk_alloc, Deep.nblk_alloc]), h3.alloc _⟩
theorem boxes4 (w : World) (A B C D : Array Value) (a b c d : TypeId) :
    BoxAt ((((w.alloc (.cells A a)).alloc (.cells B b)).alloc (.cells C c)).alloc (.cells D d)) w.heap.size A a ∧ BoxAt ((((w.alloc (.cells A a)).alloc (.cells B b)).alloc (.cells C c)).alloc (.cells D d)) (w.heap.size + 1) B b ∧ BoxAt ((((w.alloc (.cells A a)).alloc (.cells B b)).alloc (.cells C c)).alloc (.cells D d)) (w.heap.size + 1 + 1) C c ∧ BoxAt ((((w.alloc (.cells A a)).alloc (.cells B b)).alloc (.cells C c)).alloc (.cells D d)) (w.heap.size + 1 + 1 + 1) D d ∧ Ext w ((((w.alloc (.cells A a)).alloc (.cells B b)).alloc (.cells C c)).alloc (.cells D d)) := by
  obtain ⟨h1, h2, h3, h4⟩ := boxes3 w A B C a b c
  exact ⟨h1.ext ((Ext.refl _).alloc _), h2.ext ((Ext.refl _).alloc _), h3.ext ((Ext.refl _).alloc _), BoxAt.madeN D d (by rw [Deep.nblk_alloc, Deep.nblk_alloc, Deep.nblk_alloc]), h4.alloc _⟩
theorem boxes5 (w : World) (A B C D F : Array Value) (a b c d f : TypeId) :
    BoxAt (((((w.alloc (.cells A a)).alloc (.cells B b)).alloc (.cells C c)).alloc (.cells D d)).alloc (.cells F f)) w.heap.size A a ∧ BoxAt (((((w.alloc (.cells A a)).alloc (.cells B b)).alloc (.cells C c)).alloc (.cells D d)).alloc (.cells F f)) (w.heap.size + 1) B b ∧ BoxAt (((((w.alloc (.cells A a)).alloc (.cells B b)).alloc (.cells C c)).alloc (.cells D d)).alloc (.cells F f)) (w.heap.size + 1 + 1) C c ∧ BoxAt (((((w.alloc (.cells A a)).alloc (.cells B b)).alloc (.cells C c)).alloc (.cells D d)).alloc (.cells F f)) (w.heap.size + 1 + 1 + 1) D d ∧ BoxAt (((((w.alloc (.cells A a)).alloc (.cells B b)).alloc (.cells C c)).alloc (.cells D d)).alloc (.cells F f)) (w.heap.size + 1 + 1 + 1 + 1) F f ∧ Ext w (((((w.alloc (.cells A a)).alloc (.cells B b)).alloc (.cells C c)).alloc (.cells D d)).alloc (.cells F f)) := by
  obtain ⟨h1, h2, h3, h4, h5⟩ := boxes4 w A B C D a b c d
  exact ⟨h1.ext ((Ext.refl _).alloc _), h2.ext ((Ext.refl _).alloc _), h3.ext ((Ext.refl _).alloc _), h4.ext ((Ext.refl _).alloc _), BoxAt.madeN F f (by rw [Deep.nblk_alloc, Deep.nblk_alloc, Deep.nblk_alloc, Deep.nblk_alloc]), h5.alloc _⟩
theorem BoxAt.allocs {w : World} {p : Nat} {cs : Array Value} {e : TypeId} (h : BoxAt w p cs e) : ∀ o i, (w.alloc o).cell? ⟨p, i, none⟩ = cs[i]? := fun o i => (h.ext ((Ext.refl w).alloc o)).cell i
theorem BoxAt.frees {w : World} {p : Nat} {cs : Array Value} {e : TypeId} (h : BoxAt w p cs e) : ∀ o i, (w.alloc o).frozen? ⟨p, i, none⟩ = false := fun o i => (h.ext ((Ext.refl w).alloc o)).free i
theorem cell_grown {w w' : World} {g b i : Nat} {u : Value} (hg : w.grownBy w' (some g)) (hne : b ≠ g) (h : w.cell? ⟨b, i, none⟩ = some u) : w'.cell? ⟨b, i, none⟩ = some u := by
  have hl := World.block_lt_of_cell? w _ h
  have hb := hg.block b hl (fun e => hne (Option.some.inj e))
  simp only [World.cell?] at h ⊢
  rw [hb]
  exact h
theorem SliceIn.grown {w w' : World} {g b o n c : Nat} {xs : List Value} (hg : w.grownBy w' (some g)) (hne : b ≠ g) (h : SliceIn w (.slice (some ⟨b, o, none⟩) n c) n xs) : SliceIn w' (.slice (some ⟨b, o, none⟩) n c) n xs := by
  obtain ⟨a, c', e, h2, h3, h4, h6⟩ := h
  cases e
  exact ⟨_, _, rfl, h2, h3, h4, fun j u hj => let ⟨b', o', e, hc⟩ := h6 j u hj; ⟨b', o', e, by cases e; exact cell_grown hg hne hc⟩⟩

/-- A store of a whole variable: what is known of the world behind it. -/
theorem storeBox {P : Program} {ops : Array Oper} {rest : List Oper} {o : Oper} {a : Act} {w : World} {Q : Exit → Act → World → Prop} (hgd : o.guard = none) (ty : TypeId) (x y : Operand) (ho : o.op = .store ty x y)
    (g : Nat) (cells old : Array Value) (t : TypeId) (hx : a.eval x = .pointer (some ⟨g, 0, none⟩)) (hy : a.eval y = .agg cells)
    (hg : BoxAt w g old t) (hi : (P.info? ty).map (·.size) = some cells.size) (hold : old.size = cells.size) (h1 : cells.all (·.oneCell') = true)
    (hK : ∀ w', BoxAt w' g cells t → w.grownBy w' (some g) → wpList P ops Q rest (a.put o.dst undef) w') : wpList P ops Q (o :: rest) a w :=
  wpList_store_row hgd ty x y ho g cells hx hy t old hg hi hold h1 (hK _ (setRow_heap w g old cells t (0, 0) hg) ⟨rfl, rfl, rfl, by simp [World.setRow], fun k _ hne => setRow_other w g k cells (fun e => hne (by rw [e]))⟩)

/-- How many elements a slice has. -/
def lenOf : Value → Nat
  | .slice _ n _ => n
  | _ => 0
end Go.Proofs.Yteamiiekpjoclaa

/- Rows and columns as plain data; how they lie in memory; row.Cell, row.Gone. -/
namespace Go.Proofs.Yteamiiekpjoclaa
open Go Go.RowKit
attribute [local go_sem] yields yUpon

structure Co where
  name : ByteArray
  cell : Cl
structure Ro where
  key : ByteArray
  live : Cl
  gone : Int
  shade : Int
  cols : List Co
@[simp] theorem Co.eta (c : Co) : Co.mk c.name c.cell = c := rfl
def zeroCl : Cl := ⟨⟨#[]⟩, false, 0, 0⟩
def coCells : List Co → List Value
  | [] => []
  | c :: l => .string c.name :: .string c.cell.val :: .bool c.cell.dead :: .int .i64 c.cell.at_ :: .int .i64 c.cell.fin :: coCells l
theorem coCells_length (l : List Co) : (coCells l).length = l.length * 5 := by
  induction l with
  | nil => rfl
  | cons c l ih => simp [coCells, ih]; omega
theorem coCells_append (l m : List Co) : coCells (l ++ m) = coCells l ++ coCells m := by
  induction l with
  | nil => rfl
  | cons c l ih => simp [coCells, ih]
theorem coCells_get : ∀ (l : List Co) (k : Nat) (h : k < l.length), (coCells l)[k * 5]? = some (.string l[k].name) ∧ (coCells l)[k * 5 + 1]? = some (.string l[k].cell.val) ∧ (coCells l)[k * 5 + 2]? = some (.bool l[k].cell.dead) ∧ (coCells l)[k * 5 + 3]? = some (.int .i64 l[k].cell.at_) ∧ (coCells l)[k * 5 + 4]? = some (.int .i64 l[k].cell.fin)
  | c :: l, 0, _ => by simp [coCells]
  | c :: l, k + 1, h => by
    have ih := coCells_get l k (by simpa using h)
    have e : (k + 1) * 5 = k * 5 + 5 := by omega
    simp only [e, coCells, List.getElem_cons_succ]
    exact ⟨by simpa using ih.1, by simpa using ih.2.1, by simpa using ih.2.2.1, by simpa using ih.2.2.2.1, by simpa using ih.2.2.2.2⟩
def ColsIn (w : World) (v : Value) (l : List Co) : Prop := SliceIn w v l.length (coCells l)
theorem ColsIn.ext {w w' : World} (hE : Ext w w') {v : Value} {l : List Co} (h : ColsIn w v l) : ColsIn w' v l := SliceIn.ext hE h
theorem ColsIn.nil (w : World) : ColsIn w (.slice none 0 0) [] := SliceIn.nil w
/-- A column at a place in memory. -/
structure CoAt (w : World) (b o : Nat) (c : Co) : Prop where
  c0 : w.cell? ⟨b, o, none⟩ = some (.string c.name)
  c1 : w.cell? ⟨b, o + 1, none⟩ = some (.string c.cell.val)
  c2 : w.cell? ⟨b, o + 2, none⟩ = some (.bool c.cell.dead)
  c3 : w.cell? ⟨b, o + 3, none⟩ = some (.int .i64 c.cell.at_)
  c4 : w.cell? ⟨b, o + 4, none⟩ = some (.int .i64 c.cell.fin)
theorem CoAt.ext {w w' : World} (hE : Ext w w') {b o : Nat} {c : Co} (h : CoAt w b o c) : CoAt w' b o c := ⟨hE.cell h.c0, hE.cell h.c1, hE.cell h.c2, hE.cell h.c3, hE.cell h.c4⟩
theorem ColsIn.get {w : World} {v : Value} {l : List Co} (h : ColsIn w v l) : ∃ a c, v = .slice a l.length c ∧ l.length ≤ c ∧ c ≤ 9223372036854775807 ∧ ∀ k (hk : k < l.length), ∃ b o, a = some ⟨b, o, none⟩ ∧ CoAt w b (o + k * 5) l[k] := by
  obtain ⟨a, c, rfl, hc, hcm, ha, hcell⟩ := h
  unfold maxLen at hcm
  refine ⟨a, c, rfl, hc, by omega, fun k hk => ?_⟩
  obtain ⟨g0, g1, g2, g3, g4⟩ := coCells_get l k hk
  obtain ⟨b, o, rfl, h0⟩ := hcell _ _ g0
  obtain ⟨b1, o1, e1, h1⟩ := hcell _ _ g1
  obtain ⟨b2, o2, e2, h2⟩ := hcell _ _ g2
  obtain ⟨b3, o3, e3, h3⟩ := hcell _ _ g3
  obtain ⟨b4, o4, e4, h4⟩ := hcell _ _ g4
  cases e1; cases e2; cases e3; cases e4
  exact ⟨b, o, rfl, h0, h1, h2, h3, h4⟩
def cl4 (c : Cl) : Array Value := #[.string c.val, .bool c.dead, .int .i64 c.at_, .int .i64 c.fin]
theorem BoxAt.cl {w : World} {p : Nat} {c : Cl} {T : TypeId} (h : BoxAt w p (cl4 c) T) : w.cell? ⟨p, 0, none⟩ = some (.string c.val) ∧ w.cell? ⟨p, 1, none⟩ = some (.bool c.dead) ∧ w.cell? ⟨p, 2, none⟩ = some (.int .i64 c.at_) ∧ w.cell? ⟨p, 3, none⟩ = some (.int .i64 c.fin) :=
  ⟨h.cell 0, h.cell 1, h.cell 2, h.cell 3⟩
theorem BoxAt.put4 {w : World} {p : Nat} {c d : Cl} {T : TypeId} (h : BoxAt w p (cl4 c) T) : BoxAt ((((w.setCell ⟨p, 0, none⟩ (.string d.val)).setCell ⟨p, 1, none⟩ (.bool d.dead)).setCell ⟨p, 2, none⟩ (.int .i64 d.at_)).setCell ⟨p, 3, none⟩ (.int .i64 d.fin)) p (cl4 d) T :=
  (((h.set 0 _).set 1 _).set 2 _).set 3 _
theorem Ext.put4 {a w : World} (h : Ext a w) {p : Nat} (hp : a.heap.size ≤ p) {v0 v1 v2 v3 : Value} : Ext a ((((w.setCell ⟨p, 0, none⟩ v0).setCell ⟨p, 1, none⟩ v1).setCell ⟨p, 2, none⟩ v2).setCell ⟨p, 3, none⟩ v3) :=
  (((h.setCell hp _).setCell hp _).setCell hp _).setCell hp _

/-- A column's cell. -/
def cellOf : List Co → ByteArray → Cl
  | [], _ => zeroCl
  | c :: l, n => if c.name.toList == n.toList then c.cell else cellOf l n

set_option maxRecDepth 100000 in
set_option maxHeartbeats 1000000 in
theorem rcell_any (r : Ro) (v : Value) (name : ByteArray) (w : World) (hin : ColsIn w v r.cols) :
    Calls Try.prog 103 #[(.agg #[.string r.key, .string r.live.val, .bool r.live.dead, .int .i64 r.live.at_, .int .i64 r.live.fin, .int .i64 r.gone, .int .i64 r.shade, v]), .string name] w fun e w' => e = .returned (.agg #[.string (cellOf r.cols name).val, .bool (cellOf r.cols name).dead, .int .i64 (cellOf r.cols name).at_, .int .i64 (cellOf r.cols name).fin]) ∧ Ext w w' := by
  obtain ⟨a, c, rfl, hc, hcm, hcell⟩ := hin.get
  obtain ⟨l, hl⟩ : ∃ l, l = r.cols := ⟨_, rfl⟩
  rw [← hl] at hcell hc ⊢
  have HC := Lib.hid hcell
  clear hcell hin hl
  go_enter Try.func103, Try.ntmps103
  go_wp2
  go_loopw [10] (fun i wr => ∃ k : Nat, k ≤ l.length ∧ i = .int .i64 k ∧ BoxAt wr (w.heap.size + 1) (cl4 zeroCl) 52 ∧ Ext w wr ∧ Hid (cellOf l name = cellOf (l.drop k) name)) (fun i _ => l.length - (intOf i).toNat)
  case atStart => exact ⟨0, Nat.zero_le _, rfl, by have := BoxAt.made (w.alloc (.cells #[.string r.key, .string r.live.val, .bool r.live.dead, .int .i64 r.live.at_, .int .i64 r.live.fin, .int .i64 r.gone, .int .i64 r.shade, .slice a l.length c] 55)) (cl4 zeroCl) 52; rw [Deep.nblk_alloc] at this; exact this, ((Ext.refl w).alloc _).alloc _, rfl⟩
  case round =>
    obtain ⟨k, hk, rfl, hbox, hE, HX⟩ := hrel
    have x0 := (hbox.cell 0).trans (show (cl4 zeroCl)[0]? = some (Value.string ⟨#[]⟩) from rfl)
    have x1 := (hbox.cell 1).trans (show (cl4 zeroCl)[1]? = some (Value.bool false) from rfl)
    have x2 := (hbox.cell 2).trans (show (cl4 zeroCl)[2]? = some (Value.int .i64 0) from rfl)
    have x3 := (hbox.cell 3).trans (show (cl4 zeroCl)[3]? = some (Value.int .i64 0) from rfl)
    have xf := hbox.free
    have yf : ∀ o i, (wr.alloc o).frozen? ⟨w.heap.size + 1, i, none⟩ = false := fun o i => (hbox.ext ((Ext.refl wr).alloc o)).free i
    have y0 : ∀ o, (wr.alloc o).cell? ⟨w.heap.size + 1, 0, none⟩ = some (.string ⟨#[]⟩) := fun o => (hbox.ext ((Ext.refl wr).alloc o)).cell 0
    have y1 : ∀ o, (wr.alloc o).cell? ⟨w.heap.size + 1, 1, none⟩ = some (.bool false) := fun o => (hbox.ext ((Ext.refl wr).alloc o)).cell 1
    have y2 : ∀ o, (wr.alloc o).cell? ⟨w.heap.size + 1, 2, none⟩ = some (.int .i64 0) := fun o => (hbox.ext ((Ext.refl wr).alloc o)).cell 2
    have y3 : ∀ o, (wr.alloc o).cell? ⟨w.heap.size + 1, 3, none⟩ = some (.int .i64 0) := fun o => (hbox.ext ((Ext.refl wr).alloc o)).cell 3
    by_cases hlt : k < l.length
    · obtain ⟨b, o, rfl, hco⟩ := HC.out k hlt
      obtain ⟨M, hM⟩ : ∃ M, M = l[k] := ⟨_, rfl⟩
      rw [← hM] at hco
      have HD : Hid (l.drop k = M :: l.drop (k + 1)) := by rw [hM]; exact List.drop_eq_getElem_cons hlt
      clear hM
      replace hco := hco.ext hE
      obtain ⟨g0, g1, g2, g3, g4⟩ := hco
      cases hname : (M.name.toList == name.toList)
      · go_wp2_with fail
        go_roundw
        case rel =>
          refine ⟨k + 1, by omega, by go_num, hbox.ext ((Ext.refl _).alloc _), hE.alloc _, ?_⟩
          show cellOf l name = _
          rw [HX.out, HD.out, cellOf, if_neg (by rw [hname]; decide)]
        case measure => simp [intOf] <;> omega
      · go_wp2_with fail
        have e1 : cellOf l name = M.cell := by rw [HX.out, HD.out, cellOf, if_pos hname]
        rw [e1]
        refine bodyPost_ret (v := (.agg #[.string M.cell.val, .bool M.cell.dead, .int .i64 M.cell.at_, .int .i64 M.cell.fin])) ?_ rfl ⟨rfl, (hE.alloc _).put4 (Nat.le_succ _)⟩
        generalize hW : World.setCell _ _ _ = w9
        have hb : BoxAt w9 (w.heap.size + 1) (cl4 M.cell) 52 := by rw [← hW]; exact (hbox.ext ((Ext.refl _).alloc _)).put4 (d := M.cell)
        obtain ⟨z0, z1, z2, z3⟩ := hb.cl
        simp [results, Try.results103, go_sem, z0, z1, z2, z3]
    · have e1 : cellOf l name = zeroCl := by rw [HX.out, List.drop_eq_nil_of_le (by omega)]; rfl
      go_wp2_with fail
      rw [e1]
      refine bodyPost_ret (v := (.agg #[.string zeroCl.val, .bool zeroCl.dead, .int .i64 zeroCl.at_, .int .i64 zeroCl.fin])) ?_ rfl ⟨rfl, hE.put4 (Nat.le_succ _)⟩
      generalize hW : World.setCell _ _ _ = w9
      have hb : BoxAt w9 (w.heap.size + 1) (cl4 zeroCl) 52 := by rw [← hW]; exact hbox.put4 (d := zeroCl)
      obtain ⟨z0, z1, z2, z3⟩ := hb.cl
      simp [results, Try.results103, go_sem, z0, z1, z2, z3]

set_option maxRecDepth 100000 in
set_option maxHeartbeats 1000000 in
theorem rgone_any (r : Ro) (v : Value) (part : Int) (w : World) :
    Calls Try.prog 67 #[(.agg #[.string r.key, .string r.live.val, .bool r.live.dead, .int .i64 r.live.at_, .int .i64 r.live.fin, .int .i64 r.gone, .int .i64 r.shade, v]), .int .i64 part] w fun e w' => e = .returned (.int .i64 (max r.gone part)) ∧ Ext w w' := by
  go_enter Try.func67, Try.ntmps67
  go_wp2
  all_goals
    go_ret
    exact ⟨ret_int (by omega), (Ext.refl w).alloc _⟩
end Go.Proofs.Yteamiiekpjoclaa

/- row.Best. -/
namespace Go.Proofs.Yteamiiekpjoclaa
open Go Go.RowKit
attribute [local go_sem] yields yUpon

def ro8 (r : Ro) (v : Value) : Array Value := #[.string r.key, .string r.live.val, .bool r.live.dead, .int .i64 r.live.at_, .int .i64 r.live.fin, .int .i64 r.gone, .int .i64 r.shade, v]
theorem BoxAt.ro {w : World} {p : Nat} {r : Ro} {v : Value} {T : TypeId} (h : BoxAt w p (ro8 r v) T) : w.cell? ⟨p, 0, none⟩ = some (.string r.key) ∧ w.cell? ⟨p, 1, none⟩ = some (.string r.live.val) ∧ w.cell? ⟨p, 2, none⟩ = some (.bool r.live.dead) ∧ w.cell? ⟨p, 3, none⟩ = some (.int .i64 r.live.at_) ∧ w.cell? ⟨p, 4, none⟩ = some (.int .i64 r.live.fin) ∧ w.cell? ⟨p, 5, none⟩ = some (.int .i64 r.gone) ∧ w.cell? ⟨p, 6, none⟩ = some (.int .i64 r.shade) ∧ w.cell? ⟨p, 7, none⟩ = some v :=
  ⟨h.cell 0, h.cell 1, h.cell 2, h.cell 3, h.cell 4, h.cell 5, h.cell 6, h.cell 7⟩

def pa3 (k : ByteArray) (g : Int) (u : Value) : Array Value := #[.string k, .int .i64 g, u]
theorem BoxAt.pa {w : World} {p : Nat} {k : ByteArray} {g : Int} {u : Value} {T : TypeId} (h : BoxAt w p (pa3 k g u) T) : w.cell? ⟨p, 0, none⟩ = some (.string k) ∧ w.cell? ⟨p, 1, none⟩ = some (.int .i64 g) ∧ w.cell? ⟨p, 2, none⟩ = some u := ⟨h.cell 0, h.cell 1, h.cell 2⟩

/-- Does a cell count? -/
def bestB (c : Cl) (g : Int) : Bool := !(c.dead || decide (c.at_ < 1) || decide (c.at_ ≤ g))
def bestC (c : Cl) (g : Int) : Cl := if bestB c g then c else zeroCl

set_option maxRecDepth 100000 in
set_option maxHeartbeats 2000000 in
theorem best_any (r : Ro) (v : Value) (part : Int) (name : ByteArray) (w : World) (hin : ColsIn w v r.cols) :
    Calls Try.prog 95 #[(.agg #[.string r.key, .string r.live.val, .bool r.live.dead, .int .i64 r.live.at_, .int .i64 r.live.fin, .int .i64 r.gone, .int .i64 r.shade, v]), .int .i64 part, .string name] w fun e w' =>
      e = .returned (.tuple #[(.agg #[.string (bestC (cellOf r.cols name) (max r.gone part)).val, .bool (bestC (cellOf r.cols name) (max r.gone part)).dead, .int .i64 (bestC (cellOf r.cols name) (max r.gone part)).at_, .int .i64 (bestC (cellOf r.cols name) (max r.gone part)).fin]), .bool (bestB (cellOf r.cols name) (max r.gone part))]) ∧ Ext w w' := by
  obtain ⟨c, hc⟩ : ∃ c, c = cellOf r.cols name := ⟨_, rfl⟩
  rw [← hc]
  have HC := Lib.hid hc
  clear hc
  go_enter Try.func95, Try.ntmps95
  go_wp2_with fail
  refine (rcell_any r v name _ (hin.ext (((Ext.refl w).alloc _).alloc _))).mono ?_
  rw [← HC.out]
  rintro e w1 ⟨rfl, hE1⟩
  have b0 : BoxAt w1 w.heap.size (ro8 r v) 55 := ((BoxAt.made w (ro8 r v) 55).ext ((Ext.refl _).alloc _)).ext hE1
  have b1 : BoxAt w1 (w.heap.size + 1) (cl4 zeroCl) 52 := (by have := BoxAt.made (w.alloc (.cells (ro8 r v) 55)) (cl4 zeroCl) 52; rw [Deep.nblk_alloc] at this; exact this : BoxAt _ (w.heap.size + 1) (cl4 zeroCl) 52).ext hE1
  replace hE1 := (((Ext.refl w).alloc _).alloc _).trans hE1
  go_wp2_with fail
  refine wp_region_in 15 [(12, fun v _ => v = .int .i64 (max r.gone part))] (fun w0 => BoxAt w0 w1.heap.size (cl4 c) 52 ∧ BoxAt w0 w.heap.size (ro8 r v) 55 ∧ BoxAt w0 (w.heap.size + 1) (cl4 zeroCl) 52 ∧ Ext w w0) (by kernel_rfl) (by kernel_rfl) (by kernel_rfl) ⟨stays_eq _, trivial⟩ ?_ ?_
  · exact ⟨BoxAt.made _ _ _, b0.ext ((Ext.refl _).alloc _), b1.ext ((Ext.refl _).alloc _), hE1.alloc _⟩
  clear b0 b1 hE1
  rintro w2 ⟨b2, b0, b1, hE⟩
  have fin : ∀ (wx : World), Ext w2 wx → BoxAt wx w1.heap.size (cl4 c) 52 ∧ BoxAt wx (w.heap.size + 1) (cl4 zeroCl) 52 ∧ Ext w wx := fun wx h => ⟨b2.ext h, b1.ext h, hE.trans h⟩
  have FIN := Lib.hid fin
  clear fin b1
  obtain ⟨x0, x1, x2, x3⟩ := b2.cl
  obtain ⟨y0, y1, y2, y3, y4, y5, y6, y7⟩ := b0.ro
  clear b2 b0
  replace x1 := held x1
  replace x2 := held x2
  replace y0 := held y0
  replace y1 := held y1
  replace y2 := held y2
  replace y3 := held y3
  replace y4 := held y4
  replace y5 := held y5
  replace y6 := held y6
  replace y7 := held y7
  clear x0 x3
  by_cases hb : bestB c (max r.gone part) = true
  · have hb0 := hb
    simp only [bestB, Bool.not_eq_true', Bool.or_eq_false_iff] at hb0
    obtain ⟨⟨d0, d1⟩, d2⟩ := hb0
    have HB : Hid (bestC c (max r.gone part) = c ∧ bestB c (max r.gone part) = true) := ⟨by unfold bestC; rw [if_pos hb], hb⟩
    rw [d0] at x1
    clear hb
    refine rg_quiet rfl rfl rfl rfl ?_; intro K hK; go_big_quiet_op; go_big_quiet_on
    refine rg_quiet rfl rfl rfl rfl ?_; intro K hK; go_big_quiet_op; go_big_quiet_on
    refine rg_quiet rfl rfl rfl rfl ?_; intro K hK; go_big_quiet_op; go_big_quiet_on
    refine rg_quiet rfl rfl rfl rfl ?_; intro K hK; go_big_quiet_op; go_big_quiet_on
    refine rg_quiet rfl rfl rfl rfl ?_; intro K hK; go_big_quiet_op; go_big_quiet_on
    refine rg_quiet rfl rfl rfl rfl ?_; intro K hK; go_big_quiet_op; go_big_quiet_on
    refine rg_quiet rfl rfl rfl rfl ?_; intro K hK; go_big_quiet_op; go_big_quiet_on
    refine rg_quiet rfl rfl rfl rfl ?_; intro K hK; go_big_quiet_op; go_big_quiet_on
    refine rg_quiet rfl rfl rfl rfl ?_; intro K hK; go_big_quiet_op; go_big_quiet_on
    refine rg_quiet rfl rfl rfl rfl ?_; intro K hK; go_big_quiet_op; go_big_quiet_on
    refine rg_quiet rfl rfl rfl rfl ?_; intro K hK; go_big_quiet_op; go_big_quiet_on
    refine rg_quiet rfl rfl rfl rfl ?_; intro K hK; go_big_quiet_op; go_big_quiet_on
    refine rg_val [] rfl rfl rfl (by kernel_rfl) (fun w1 hE hf => ?_) ?_
    · go_simp
      exact (rgone_any r v part w1).mono fun e w' ⟨he, hw⟩ => ⟨_, he, rg_done hE hw (rfl)⟩
    simp only [Act.put, List.setIfInBounds_toArray, List.set_cons_zero, List.set_cons_succ]
    refine rg_quiet rfl rfl rfl rfl ?_; intro K hK; go_big_quiet_op; go_big_quiet_on
    refine rg_quiet rfl rfl rfl rfl ?_; intro K hK; go_big_quiet_op; go_big_quiet_on
    refine rel_nil fun w5 hE5 _ => ?_
    obtain ⟨b2, b1, hX⟩ := FIN.out w5 hE5
    clear d0 d1 d2 x1 x2 y0 y1 y2 y3 y4 y5 y6 y7 hE5 FIN hE
    obtain ⟨x0, x1, x2, x3⟩ := b2.cl
    obtain ⟨z0, z1, z2, z3⟩ := b1.cl
    have xf := b1.free
    go_wp2_with fail
    rw [HB.out.1, HB.out.2]
    refine bodyPost_ret (v := .tuple #[(.agg #[.string c.val, .bool c.dead, .int .i64 c.at_, .int .i64 c.fin]), .bool true]) ?_ rfl ⟨rfl, hX.put4 (Nat.le_succ _)⟩
    generalize hW : World.setCell _ _ _ = w9
    have hb : BoxAt w9 (w.heap.size + 1) (cl4 c) 52 := by rw [← hW]; exact b1.put4 (d := c)
    obtain ⟨q0, q1, q2, q3⟩ := hb.cl
    simp [results, Try.results95, go_sem, q0, q1, q2, q3]
  · have HB : Hid (bestC c (max r.gone part) = zeroCl ∧ bestB c (max r.gone part) = false) := by simp only [Bool.not_eq_true] at hb; exact ⟨by unfold bestC; rw [if_neg (by rw [hb]; decide)], hb⟩
    cases d0 : c.dead
    · rw [d0] at x1
      cases d1 : decide (c.at_ < 1)
      · have d2 : decide (c.at_ ≤ max r.gone part) = true := by
          simp only [bestB, Bool.not_eq_true', d0, d1] at hb
          simpa using hb
        clear hb
        refine rg_quiet rfl rfl rfl rfl ?_; intro K hK; go_big_quiet_op; go_big_quiet_on
        refine rg_quiet rfl rfl rfl rfl ?_; intro K hK; go_big_quiet_op; go_big_quiet_on
        refine rg_quiet rfl rfl rfl rfl ?_; intro K hK; go_big_quiet_op; go_big_quiet_on
        refine rg_quiet rfl rfl rfl rfl ?_; intro K hK; go_big_quiet_op; go_big_quiet_on
        refine rg_quiet rfl rfl rfl rfl ?_; intro K hK; go_big_quiet_op; go_big_quiet_on
        refine rg_quiet rfl rfl rfl rfl ?_; intro K hK; go_big_quiet_op; go_big_quiet_on
        refine rg_quiet rfl rfl rfl rfl ?_; intro K hK; go_big_quiet_op; go_big_quiet_on
        refine rg_quiet rfl rfl rfl rfl ?_; intro K hK; go_big_quiet_op; go_big_quiet_on
        refine rg_quiet rfl rfl rfl rfl ?_; intro K hK; go_big_quiet_op; go_big_quiet_on
        refine rg_quiet rfl rfl rfl rfl ?_; intro K hK; go_big_quiet_op; go_big_quiet_on
        refine rg_quiet rfl rfl rfl rfl ?_; intro K hK; go_big_quiet_op; go_big_quiet_on
        refine rg_quiet rfl rfl rfl rfl ?_; intro K hK; go_big_quiet_op; go_big_quiet_on
        refine rg_val [] rfl rfl rfl (by kernel_rfl) (fun w1 hE hf => ?_) ?_
        · go_simp
          exact (rgone_any r v part w1).mono fun e w' ⟨he, hw⟩ => ⟨_, he, rg_done hE hw (rfl)⟩
        simp only [Act.put, List.setIfInBounds_toArray, List.set_cons_zero, List.set_cons_succ]
        refine rg_quiet rfl rfl rfl rfl ?_; intro K hK; go_big_quiet_op; go_big_quiet_on
        refine rg_quiet rfl rfl rfl rfl ?_; intro K hK; go_big_quiet_op; go_big_quiet_on
        refine rel_nil fun w5 hE5 _ => ?_
        obtain ⟨b2, b1, hX⟩ := FIN.out w5 hE5
        clear x1 x2 y0 y1 y2 y3 y4 y5 y6 y7 hE5 FIN hE
        obtain ⟨z0, z1, z2, z3⟩ := b1.cl
        have xf := b1.free
        go_wp2_with fail
        rw [HB.out.1, HB.out.2]
        refine bodyPost_ret (v := .tuple #[(.agg #[.string zeroCl.val, .bool zeroCl.dead, .int .i64 zeroCl.at_, .int .i64 zeroCl.fin]), .bool false]) ?_ rfl ⟨rfl, hX.put4 (Nat.le_succ _)⟩
        generalize hW : World.setCell _ _ _ = w9
        have hb : BoxAt w9 (w.heap.size + 1) (cl4 zeroCl) 52 := by rw [← hW]; exact b1.put4 (d := zeroCl)
        obtain ⟨q0, q1, q2, q3⟩ := hb.cl
        simp [results, Try.results95, go_sem, q0, q1, q2, q3]
      · clear hb
        refine rg_quiet rfl rfl rfl rfl ?_; intro K hK; go_big_quiet_op; go_big_quiet_on
        refine rg_quiet rfl rfl rfl rfl ?_; intro K hK; go_big_quiet_op; go_big_quiet_on
        refine rg_quiet rfl rfl rfl rfl ?_; intro K hK; go_big_quiet_op; go_big_quiet_on
        refine rg_quiet rfl rfl rfl rfl ?_; intro K hK; go_big_quiet_op; go_big_quiet_on
        refine rg_quiet rfl rfl rfl rfl ?_; intro K hK; go_big_quiet_op; go_big_quiet_on
        refine rg_quiet rfl rfl rfl rfl ?_; intro K hK; go_big_quiet_op; go_big_quiet_on
        refine rg_quiet rfl rfl rfl rfl ?_; intro K hK; go_big_quiet_op; go_big_quiet_on
        refine rg_quiet rfl rfl rfl rfl ?_; intro K hK; go_big_quiet_op; go_big_quiet_on
        refine rel_skip rfl rfl ?_
        simp only [Act.put, List.setIfInBounds_toArray, List.set_cons_zero, List.set_cons_succ]
        refine rel_skip rfl rfl ?_
        simp only [Act.put, List.setIfInBounds_toArray, List.set_cons_zero, List.set_cons_succ]
        refine rel_skip rfl rfl ?_
        simp only [Act.put, List.setIfInBounds_toArray, List.set_cons_zero, List.set_cons_succ]
        refine rel_skip rfl rfl ?_
        simp only [Act.put, List.setIfInBounds_toArray, List.set_cons_zero, List.set_cons_succ]
        refine rel_skip rfl rfl ?_
        simp only [Act.put, List.setIfInBounds_toArray, List.set_cons_zero, List.set_cons_succ]
        refine rel_skip rfl rfl ?_
        simp only [Act.put, List.setIfInBounds_toArray, List.set_cons_zero, List.set_cons_succ]
        refine rg_quiet rfl rfl rfl rfl ?_; intro K hK; go_big_quiet_op; go_big_quiet_on
        refine rel_nil fun w5 hE5 _ => ?_
        obtain ⟨b2, b1, hX⟩ := FIN.out w5 hE5
        clear x1 x2 y0 y1 y2 y3 y4 y5 y6 y7 hE5 FIN hE
        obtain ⟨z0, z1, z2, z3⟩ := b1.cl
        have xf := b1.free
        go_wp2_with fail
        rw [HB.out.1, HB.out.2]
        refine bodyPost_ret (v := .tuple #[(.agg #[.string zeroCl.val, .bool zeroCl.dead, .int .i64 zeroCl.at_, .int .i64 zeroCl.fin]), .bool false]) ?_ rfl ⟨rfl, hX.put4 (Nat.le_succ _)⟩
        generalize hW : World.setCell _ _ _ = w9
        have hb : BoxAt w9 (w.heap.size + 1) (cl4 zeroCl) 52 := by rw [← hW]; exact b1.put4 (d := zeroCl)
        obtain ⟨q0, q1, q2, q3⟩ := hb.cl
        simp [results, Try.results95, go_sem, q0, q1, q2, q3]
    · rw [d0] at x1
      clear hb
      refine rg_quiet rfl rfl rfl rfl ?_; intro K hK; go_big_quiet_op; go_big_quiet_on
      refine rg_quiet rfl rfl rfl rfl ?_; intro K hK; go_big_quiet_op; go_big_quiet_on
      refine rg_quiet rfl rfl rfl rfl ?_; intro K hK; go_big_quiet_op; go_big_quiet_on
      refine rel_skip rfl rfl ?_
      simp only [Act.put, List.setIfInBounds_toArray, List.set_cons_zero, List.set_cons_succ]
      refine rel_skip rfl rfl ?_
      simp only [Act.put, List.setIfInBounds_toArray, List.set_cons_zero, List.set_cons_succ]
      refine rel_skip rfl rfl ?_
      simp only [Act.put, List.setIfInBounds_toArray, List.set_cons_zero, List.set_cons_succ]
      refine rg_quiet rfl rfl rfl rfl ?_; intro K hK; go_big_quiet_op; go_big_quiet_on
      refine rg_quiet rfl rfl rfl rfl ?_; intro K hK; go_big_quiet_op; go_big_quiet_on
      refine rel_skip rfl rfl ?_
      simp only [Act.put, List.setIfInBounds_toArray, List.set_cons_zero, List.set_cons_succ]
      refine rel_skip rfl rfl ?_
      simp only [Act.put, List.setIfInBounds_toArray, List.set_cons_zero, List.set_cons_succ]
      refine rel_skip rfl rfl ?_
      simp only [Act.put, List.setIfInBounds_toArray, List.set_cons_zero, List.set_cons_succ]
      refine rel_skip rfl rfl ?_
      simp only [Act.put, List.setIfInBounds_toArray, List.set_cons_zero, List.set_cons_succ]
      refine rel_skip rfl rfl ?_
      simp only [Act.put, List.setIfInBounds_toArray, List.set_cons_zero, List.set_cons_succ]
      refine rel_skip rfl rfl ?_
      simp only [Act.put, List.setIfInBounds_toArray, List.set_cons_zero, List.set_cons_succ]
      refine rg_quiet rfl rfl rfl rfl ?_; intro K hK; go_big_quiet_op; go_big_quiet_on
      refine rel_nil fun w5 hE5 _ => ?_
      obtain ⟨b2, b1, hX⟩ := FIN.out w5 hE5
      clear x1 x2 y0 y1 y2 y3 y4 y5 y6 y7 hE5 FIN hE
      obtain ⟨z0, z1, z2, z3⟩ := b1.cl
      have xf := b1.free
      go_wp2_with fail
      rw [HB.out.1, HB.out.2]
      refine bodyPost_ret (v := .tuple #[(.agg #[.string zeroCl.val, .bool zeroCl.dead, .int .i64 zeroCl.at_, .int .i64 zeroCl.fin]), .bool false]) ?_ rfl ⟨rfl, hX.put4 (Nat.le_succ _)⟩
      generalize hW : World.setCell _ _ _ = w9
      have hb : BoxAt w9 (w.heap.size + 1) (cl4 zeroCl) 52 := by rw [← hW]; exact b1.put4 (d := zeroCl)
      obtain ⟨q0, q1, q2, q3⟩ := hb.cl
      simp [results, Try.results95, go_sem, q0, q1, q2, q3]
end Go.Proofs.Yteamiiekpjoclaa
