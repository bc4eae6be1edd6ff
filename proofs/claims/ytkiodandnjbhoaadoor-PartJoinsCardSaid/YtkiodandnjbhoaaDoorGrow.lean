/- Rows and variables of one's own, that turn while memory grows. -/
import Derived.Test.YtkiodandnjbhoaaDoorBase
import Derived.Deep.Heap
namespace Go.Proofs.YtkiodandnjbhoaaDoor
open Go Go.RowKit

/-- A variable: block p holds the cells cs of type e, none frozen. -/
def BoxAt (w : World) (p : Nat) (cs : Array Value) (e : TypeId) : Prop := w.heap[p]? = some (.cells cs e (0, 0))
theorem BoxAt.lt {w : World} {p : Nat} {cs : Array Value} {e : TypeId} (h : BoxAt w p cs e) : p < w.heap.size := (Array.getElem?_eq_some_iff.1 h).1
theorem BoxAt.ext {w w' : World} (hE : Ext w w') {p : Nat} {cs : Array Value} {e : TypeId} (h : BoxAt w p cs e) : BoxAt w' p cs e := by
  have hl := h.lt
  unfold BoxAt at *
  rw [hE.block p hl]
  exact h
theorem BoxAt.made (w : World) (cs : Array Value) (e : TypeId) : BoxAt (w.alloc (.cells cs e)) w.heap.size cs e := heap_alloc_new w _
theorem BoxAt.cell {w : World} {p : Nat} {cs : Array Value} {e : TypeId} (h : BoxAt w p cs e) (i : Nat) : w.cell? ⟨p, i, none⟩ = cs[i]? := var_cell h i
theorem BoxAt.free {w : World} {p : Nat} {cs : Array Value} {e : TypeId} (h : BoxAt w p cs e) (i : Nat) : w.frozen? ⟨p, i, none⟩ = false := var_free h i
theorem BoxAt.other {w : World} {p q : Nat} {cs : Array Value} {e : TypeId} (h : BoxAt w p cs e) (hne : p ≠ q) (i : Nat) (u : Value) : BoxAt (w.setCell ⟨q, i, none⟩ u) p cs e := by
  unfold BoxAt at *
  rw [Deep.blk_setCell_other _ _ _ _ hne]
  exact h
theorem BoxAt.set {w : World} {p : Nat} {cs : Array Value} {e : TypeId} (h : BoxAt w p cs e) (i : Nat) (u : Value) : BoxAt (w.setCell ⟨p, i, none⟩ u) p (cs.setIfInBounds i u) e := by
  unfold BoxAt at *
  have hl := (Array.getElem?_eq_some_iff.1 h).1
  have he := (Array.getElem?_eq_some_iff.1 h).2
  simp only [World.setCell]
  rw [Array.getElem?_eq_getElem (by simpa using hl)]
  simp [Array.getElem_modify, he]
theorem BoxAt.grown {w w' : World} {p : Nat} {cs : Array Value} {e : TypeId} {row : Option Nat} (h : BoxAt w p cs e) (hg : w.grownBy w' row) (hne : some p ≠ row) : BoxAt w' p cs e := by
  unfold BoxAt at *
  rw [hg.block p (Array.getElem?_eq_some_iff.1 h).1 hne]
  exact h

/-- 'append(v, ..)' to a row of one's own, what is appended lying in a row that was made just now. -/
theorem appR {P : Program} {T e : TypeId} {z : Value} {size bytes : Nat} (info : (P.info? e).map (fun i => (i.zero, i.size, i.bytes)) = some (some z, size, bytes)) (und : P.underlying T = some (.slice e)) (hzs : z.cells.size = size) (hsz : 0 < size)
    {ops : Array Oper} {rest : List Oper} {o : Oper} {a : Act} {Q : Exit → Act → World → Prop} (w : World) (hg : o.guard = none) (s x : Operand)
    (hop : o.op = Op.call { callee := Callee.builtin Builtin.append, args := #[s, x], argTypes := #[T, T] })
    (B : Nat) (hB : B ≤ w.heap.size) (v : Value) (n : Nat) (xs : List Value) (hown : w.ownsRow B e size v n xs) (hs : a.eval s = v) (m : Nat) (cs : Array Value) (hx : a.eval x = .slice (some ⟨w.heap.size, 0, none⟩) m m)
    (hcs : cs.size = m * size) (h1c : ∀ u ∈ cs.toList, u.oneCell' = true) (hb1 : n + m ≤ maxLen) (hb : (n + m) * bytes ≤ 140737488355328)
    (hK : ∀ v' w', w'.ownsRow B e size v' (n + m) (xs ++ cs.toList) → (w.alloc (.cells cs e)).grownBy w' v.ownBlock → wpList P ops Q rest (a.put o.dst v') w') : wpList P ops Q (o :: rest) a (w.alloc (.cells cs e)) := by
  obtain ⟨i0, hi, hz0, hz1, hz2⟩ := info_parts info
  refine wpList_append_own _ hg s x T hop B e i0 z size bytes und hi hz0 hz1 hz2 hzs hsz v n xs hs (hown.alloc _) ⟨w.heap.size, 0, none⟩ m m cs.toList hx (by simpa using hcs) ?_ h1c hb1 hb (by simp; omega) ?_
  · intro j u hj
    rw [Addr.add_lit, Nat.zero_add, cell_of_row _ w.heap.size j cs e (0, 0) (heap_alloc_new w _)]
    simpa using hj
  · intro v' w' h2 h3 _
    exact hK v' w' h2 h3

theorem BoxAt.madeN {w : World} {n : Nat} (cs : Array Value) (e : TypeId) (h : w.heap.size = n) : BoxAt (w.alloc (.cells cs e)) n cs e := by subst h; exact BoxAt.made w cs e
theorem boxes2 (w : World) (A B : Array Value) (a b : TypeId) :
    BoxAt ((w.alloc (.cells A a)).alloc (.cells B b)) w.heap.size A a ∧ BoxAt ((w.alloc (.cells A a)).alloc (.cells B b)) (w.heap.size + 1) B b ∧ Ext w ((w.alloc (.cells A a)).alloc (.cells B b)) :=
  ⟨(BoxAt.made w A a).ext ((Ext.refl _).alloc _), BoxAt.madeN B b (Deep.nblk_alloc _ _), ((Ext.refl w).alloc _).alloc _⟩
theorem boxes3 (w : World) (A B C : Array Value) (a b c : TypeId) :
    BoxAt (((w.alloc (.cells A a)).alloc (.cells B b)).alloc (.cells C c)) w.heap.size A a ∧ BoxAt (((w.alloc (.cells A a)).alloc (.cells B b)).alloc (.cells C c)) (w.heap.size + 1) B b ∧ BoxAt (((w.alloc (.cells A a)).alloc (.cells B b)).alloc (.cells C c)) (w.heap.size + 1 + 1) C c ∧ Ext w (((w.alloc (.cells A a)).alloc (.cells B b)).alloc (.cells C c)) := by
  obtain ⟨h1, h2, h3⟩ := boxes2 w A B a b
  exact ⟨h1.ext ((Ext.refl _).alloc _), h2.ext ((Ext.refl _).alloc _), BoxAt.madeN C c (by rw [Deep.nblk_alloc, Deep.nblk_alloc]), h3.alloc _⟩
theorem boxes4 (w : World) (A B C D : Array Value) (a b c d : TypeId) :
    BoxAt ((((w.alloc (.cells A a)).alloc (.cells B b)).alloc (.cells C c)).alloc (.cells D d)) w.heap.size A a ∧ BoxAt ((((w.alloc (.cells A a)).alloc (.cells B b)).alloc (.cells C c)).alloc (.cells D d)) (w.heap.size + 1) B b ∧ BoxAt ((((w.alloc (.cells A a)).alloc (.cells B b)).alloc (.cells C c)).alloc (.cells D d)) (w.heap.size + 1 + 1) C c ∧ BoxAt ((((w.alloc (.cells A a)).alloc (.cells B b)).alloc (.cells C c)).alloc (.cells D d)) (w.heap.size + 1 + 1 + 1) D d ∧ Ext w ((((w.alloc (.cells A a)).alloc (.cells B b)).alloc (.cells C c)).alloc (.cells D d)) := by
  obtain ⟨h1, h2, h3, h4⟩ := boxes3 w A B C a b c
  exact ⟨h1.ext ((Ext.refl _).alloc _), h2.ext ((Ext.refl _).alloc _), h3.ext ((Ext.refl _).alloc _), BoxAt.madeN D d (by rw [Deep.nblk_alloc, Deep.nblk_alloc, Deep.nblk_alloc]), h4.alloc _⟩
theorem boxes5 (w : World) (A B C D F : Array Value) (a b c d f : TypeId) :
    BoxAt (((((w.alloc (.cells A a)).alloc (.cells B b)).alloc (.cells C c)).alloc (.cells D d)).alloc (.cells F f)) w.heap.size A a ∧ BoxAt (((((w.alloc (.cells A a)).alloc (.cells B b)).alloc (.cells C c)).alloc (.cells D d)).alloc (.cells F f)) (w.heap.size + 1) B b ∧ BoxAt (((((w.alloc (.cells A a)).alloc (.cells B b)).alloc (.cells C c)).alloc (.cells D d)).alloc (.cells F f)) (w.heap.size + 1 + 1) C c ∧ BoxAt (((((w.alloc (.cells A a)).alloc (.cells B b)).alloc (.cells C c)).alloc (.cells D d)).alloc (.cells F f)) (w.heap.size + 1 + 1 + 1) D d ∧ BoxAt (((((w.alloc (.cells A a)).alloc (.cells B b)).alloc (.cells C c)).alloc (.cells D d)).alloc (.cells F f)) (w.heap.size + 1 + 1 + 1 + 1) F f ∧ Ext w (((((w.alloc (.cells A a)).alloc (.cells B b)).alloc (.cells C c)).alloc (.cells D d)).alloc (.cells F f)) := by
  obtain ⟨h1, h2, h3, h4, h5⟩ := boxes4 w A B C D a b c d
  exact ⟨h1.ext ((Ext.refl _).alloc _), h2.ext ((Ext.refl _).alloc _), h3.ext ((Ext.refl _).alloc _), h4.ext ((Ext.refl _).alloc _), BoxAt.madeN F f (by rw [Deep.nblk_alloc, Deep.nblk_alloc, Deep.nblk_alloc, Deep.nblk_alloc]), h5.alloc _⟩
theorem BoxAt.allocs {w : World} {p : Nat} {cs : Array Value} {e : TypeId} (h : BoxAt w p cs e) : ∀ o i, (w.alloc o).cell? ⟨p, i, none⟩ = cs[i]? := fun o i => (h.ext ((Ext.refl w).alloc o)).cell i
theorem BoxAt.frees {w : World} {p : Nat} {cs : Array Value} {e : TypeId} (h : BoxAt w p cs e) : ∀ o i, (w.alloc o).frozen? ⟨p, i, none⟩ = false := fun o i => (h.ext ((Ext.refl w).alloc o)).free i
theorem cell_grown {w w' : World} {g b i : Nat} {u : Value} (hg : w.grownBy w' (some g)) (hne : b ≠ g) (h : w.cell? ⟨b, i, none⟩ = some u) : w'.cell? ⟨b, i, none⟩ = some u := by
  have hl := World.block_lt_of_cell? w _ h
  have hb := hg.block b hl (fun e => hne (Option.some.inj e))
  simp only [World.cell?] at h ⊢
  rw [hb]
  exact h
theorem SliceIn.grown {w w' : World} {g b o n c : Nat} {xs : List Value} (hg : w.grownBy w' (some g)) (hne : b ≠ g) (h : SliceIn w (.slice (some ⟨b, o, none⟩) n c) n xs) : SliceIn w' (.slice (some ⟨b, o, none⟩) n c) n xs := by
  obtain ⟨a, c', e, h2, h3, h4, h6⟩ := h
  cases e
  exact ⟨_, _, rfl, h2, h3, h4, fun j u hj => let ⟨b', o', e, hc⟩ := h6 j u hj; ⟨b', o', e, by cases e; exact cell_grown hg hne hc⟩⟩

/-- A store of a whole variable: what is known of the world behind it. -/
theorem storeBox {P : Program} {ops : Array Oper} {rest : List Oper} {o : Oper} {a : Act} {w : World} {Q : Exit → Act → World → Prop} (hgd : o.guard = none) (ty : TypeId) (x y : Operand) (ho : o.op = .store ty x y)
    (g : Nat) (cells old : Array Value) (t : TypeId) (hx : a.eval x = .pointer (some ⟨g, 0, none⟩)) (hy : a.eval y = .agg cells)
    (hg : BoxAt w g old t) (hi : (P.info? ty).map (·.size) = some cells.size) (hold : old.size = cells.size) (h1 : cells.all (·.oneCell') = true)
    (hK : ∀ w', BoxAt w' g cells t → w.grownBy w' (some g) → wpList P ops Q rest (a.put o.dst undef) w') : wpList P ops Q (o :: rest) a w :=
  wpList_store_row hgd ty x y ho g cells hx hy t old hg hi hold h1 (hK _ (setRow_heap w g old cells t (0, 0) hg) ⟨rfl, rfl, rfl, by simp [World.setRow], fun k _ hne => setRow_other w g k cells (fun e => hne (by rw [e]))⟩)

/-- How many elements a slice has. -/
def lenOf : Value → Nat
  | .slice _ n _ => n
  | _ => 0
end Go.Proofs.YtkiodandnjbhoaaDoor
