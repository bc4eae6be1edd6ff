/- Rows and variables of one's own, that turn while memory grows. -/
import Derived.Test.YtiaoplehamjbkaaBase
import Derived.Deep.Heap
namespace Go.Proofs.Ytiaoplehamjbkaa
open Go Go.RowKit

/-- A variable: block p holds the cells cs of type e, none frozen. -/
def BoxAt (w : World) (p : Nat) (cs : Array Value) (e : TypeId) : Prop := w.heap[p]? = some (.cells cs e (0, 0))
theorem BoxAt.lt {w : World} {p : Nat} {cs : Array Value} {e : TypeId} (h : BoxAt w p cs e) : p < w.heap.size := (Array.getElem?_eq_some_iff.1 h).1
theorem BoxAt.ext {w w' : World} (hE : Ext w w') {p : Nat} {cs : Array Value} {e : TypeId} (h : BoxAt w p cs e) : BoxAt w' p cs e := by
  have hl := h.lt
  unfold BoxAt at *
  rw [hE.block p hl]
  exact h
theorem BoxAt.made (w : World) (cs : Array Value) (e : TypeId) : BoxAt (w.alloc (.cells cs e)) w.heap.size cs e := heap_alloc_new w _
theorem BoxAt.cell {w : World} {p : Nat} {cs : Array Value} {e : TypeId} (h : BoxAt w p cs e) (i : Nat) : w.cell? ⟨p, i, none⟩ = cs[i]? := var_cell h i
theorem BoxAt.free {w : World} {p : Nat} {cs : Array Value} {e : TypeId} (h : BoxAt w p cs e) (i : Nat) : w.frozen? ⟨p, i, none⟩ = false := var_free h i
theorem BoxAt.other {w : World} {p q : Nat} {cs : Array Value} {e : TypeId} (h : BoxAt w p cs e) (hne : p ≠ q) (i : Nat) (u : Value) : BoxAt (w.setCell ⟨q, i, none⟩ u) p cs e := by
  unfold BoxAt at *
  rw [Deep.blk_setCell_other _ _ _ _ hne]
  exact h
theorem BoxAt.set {w : World} {p : Nat} {cs : Array Value} {e : TypeId} (h : BoxAt w p cs e) (i : Nat) (u : Value) : BoxAt (w.setCell ⟨p, i, none⟩ u) p (cs.setIfInBounds i u) e := by
  unfold BoxAt at *
  have hl := (Array.getElem?_eq_some_iff.1 h).1
  have he := (Array.getElem?_eq_some_iff.1 h).2
  simp only [World.setCell]
  rw [Array.getElem?_eq_getElem (by simpa using hl)]
  simp [Array.getElem_modify, he]
theorem BoxAt.grown {w w' : World} {p : Nat} {cs : Array Value} {e : TypeId} {row : Option Nat} (h : BoxAt w p cs e) (hg : w.grownBy w' row) (hne : some p ≠ row) : BoxAt w' p cs e := by
  unfold BoxAt at *
  rw [hg.block p (Array.getElem?_eq_some_iff.1 h).1 hne]
  exact h

/-- 'append(v, ..)' to a row of one's own, what is appended lying in a row that was made just now. -/
theorem appR {P : Program} {T e : TypeId} {z : Value} {size bytes : Nat} (info : (P.info? e).map (fun i => (i.zero, i.size, i.bytes)) = some (some z, size, bytes)) (und : P.underlying T = some (.slice e)) (hzs : z.cells.size = size) (hsz : 0 < size)
    {ops : Array Oper} {rest : List Oper} {o : Oper} {a : Act} {Q : Exit → Act → World → Prop} (w : World) (hg : o.guard = none) (s x : Operand)
    (hop : o.op = Op.call { callee := Callee.builtin Builtin.append, args := #[s, x], argTypes := #[T, T] })
    (B : Nat) (hB : B ≤ w.heap.size) (v : Value) (n : Nat) (xs : List Value) (hown : w.ownsRow B e size v n xs) (hs : a.eval s = v) (m : Nat) (cs : Array Value) (hx : a.eval x = .slice (some ⟨w.heap.size, 0, none⟩) m m)
    (hcs : cs.size = m * size) (h1c : ∀ u ∈ cs.toList, u.oneCell' = true) (hb1 : n + m ≤ maxLen) (hb : (n + m) * bytes ≤ 140737488355328)
    (hK : ∀ v' w', w'.ownsRow B e size v' (n + m) (xs ++ cs.toList) → (w.alloc (.cells cs e)).grownBy w' v.ownBlock → wpList P ops Q rest (a.put o.dst v') w') : wpList P ops Q (o :: rest) a (w.alloc (.cells cs e)) := by
  obtain ⟨i0, hi, hz0, hz1, hz2⟩ := info_parts info
  refine wpList_append_own _ hg s x T hop B e i0 z size bytes und hi hz0 hz1 hz2 hzs hsz v n xs hs (hown.alloc _) ⟨w.heap.size, 0, none⟩ m m cs.toList hx (by simpa using hcs) ?_ h1c hb1 hb (by simp; omega) ?_
  · intro j u hj
    rw [Addr.add_lit, Nat.zero_add, cell_of_row _ w.heap.size j cs e (0, 0) (heap_alloc_new w _)]
    simpa using hj
  · intro v' w' h2 h3 _
    exact hK v' w' h2 h3

/-- How many elements a slice has. -/
def lenOf : Value → Nat
  | .slice _ n _ => n
  | _ => 0
end Go.Proofs.Ytiaoplehamjbkaa
