/- Plain laws on numbers and their bytes; no program. -/
import Derived.Test.YthhhbmeceilkhaaDoorR1
import Derived.Test.YthhhbmeceilkhaaDoorProg
import Derived.Deep.Heap
set_option linter.unusedSimpArgs false
set_option linter.unusedVariables false
namespace Go.Proofs.YthhhbmeceilkhaaDoor

theorem tmod_pos {v n : Int} (h : 1 ≤ n) : 0 ≤ v.tmod n → v.tmod n = v % n := by
  intro h0
  rw [Int.tmod_eq_emod] at *
  split at h0 <;> split <;> try omega
  have := Int.emod_nonneg v (show n ≠ 0 by omega)
  have := Int.emod_lt_of_pos v (show 0 < n by omega)
  omega
theorem tmod_neg {v n : Int} (h : 1 ≤ n) : v.tmod n < 0 → v.tmod n + n = v % n := by
  intro h0
  rw [Int.tmod_eq_emod] at *
  split at h0 <;> split <;> try omega
  have := Int.emod_nonneg v (show n ≠ 0 by omega)
  omega
theorem tmod_lo {v n : Int} (h : 1 ≤ n) : -n < v.tmod n ∧ v.tmod n < n := by
  rw [Int.tmod_eq_emod]
  have := Int.emod_nonneg v (show n ≠ 0 by omega)
  have := Int.emod_lt_of_pos v (show 0 < n by omega)
  split <;> omega

/-- So many bytes of a number, the greatest first. -/
def beB : Nat → Nat → List UInt8
  | 0, _ => []
  | k + 1, x => UInt8.ofNat (x / 256 ^ k) :: beB k x

theorem beB_length (k x : Nat) : (beB k x).length = k := by
  induction k with
  | zero => rfl
  | succ k ih => simp [beB, ih]

theorem beB_get {k x j : Nat} (h : j < k) : (beB k x)[j]? = some (UInt8.ofNat (x / 256 ^ (k - 1 - j))) := by
  induction k generalizing j with
  | zero => omega
  | succ k ih =>
    cases j with
    | zero => simp [beB]
    | succ j =>
      simp only [beB, List.getElem?_cons_succ]
      rw [ih (by omega)]
      congr 4
      omega

theorem byte_shift (x k : Nat) : UInt8.ofNat (((x : Int) / 2 ^ (8 * k) % 256).toNat) = UInt8.ofNat (x / 256 ^ k) := by
  have e : ((x : Int) / 2 ^ (8 * k) % 256).toNat = x / 256 ^ k % 256 := by
    rw [show (2 : Int) ^ (8 * k) = ((256 ^ k : Nat) : Int) by rw [Int.pow_mul]; simp]
    omega
  rw [e]
  apply UInt8.toNat.inj
  simp

/-- How many bits, how many bytes a number takes. -/
def bitsOf (x : Nat) : Nat := if x = 0 then 0 else Nat.log2 x + 1
def nlen (x : Nat) : Nat := (bitsOf x + 7) / 8

theorem bitsOf_lt (x : Nat) : x < 2 ^ bitsOf x := by
  unfold bitsOf
  split
  · omega
  · exact Nat.lt_log2_self
theorem bitsOf_le (x : Nat) (h : x ≠ 0) : 2 ^ (bitsOf x - 1) ≤ x := by
  unfold bitsOf
  rw [if_neg h]
  exact Nat.log2_self_le h
theorem bitsOf_unique {x n : Nat} (h1 : x < 2 ^ n) (h2 : n = 0 ∨ 2 ^ (n - 1) ≤ x) : bitsOf x = n := by
  by_cases hx : x = 0
  · subst hx
    rcases h2 with rfl | h2
    · rfl
    · have : 0 < 2 ^ (n - 1) := Nat.two_pow_pos _
      omega
  · have a := bitsOf_lt x
    have b := bitsOf_le x hx
    have hn : n ≠ 0 := by rintro rfl; simp at h1; exact hx h1
    have h2 : 2 ^ (n - 1) ≤ x := h2.resolve_left hn
    have hb : bitsOf x ≠ 0 := by unfold bitsOf; rw [if_neg hx]; omega
    have c : bitsOf x - 1 < n := (Nat.pow_lt_pow_iff_right (a := 2) (by omega)).1 (Nat.lt_of_le_of_lt b h1)
    have d : n - 1 < bitsOf x := (Nat.pow_lt_pow_iff_right (a := 2) (by omega)).1 (Nat.lt_of_le_of_lt h2 a)
    omega

theorem bitsOf_le64 {x : Nat} (h : x < 18446744073709551616) : bitsOf x ≤ 64 := by
  by_cases hx : x = 0
  · subst hx; simp [bitsOf]
  · have b := bitsOf_le x hx
    have : 2 ^ (bitsOf x - 1) < 2 ^ 64 := Nat.lt_of_le_of_lt b (by simpa using h)
    have := (Nat.pow_lt_pow_iff_right (a := 2) (by omega)).1 this
    omega

/-- A number's bytes: how many they are, and they. -/
def num (x : Nat) : List UInt8 := UInt8.ofNat (nlen x) :: beB (nlen x) x

/-- A text's bytes. -/
def esc : List UInt8 → List UInt8
  | [] => []
  | b :: l => if b = 0 then 0 :: 255 :: esc l else b :: esc l
theorem esc_append (l m : List UInt8) : esc (l ++ m) = esc l ++ esc m := by
  induction l with
  | nil => rfl
  | cons b l ih =>
    simp only [List.cons_append, esc, ih]
    split <;> simp
theorem esc_snoc (l : List UInt8) (b : UInt8) : esc (l ++ [b]) = esc l ++ if b = 0 then [0, 255] else [b] := by
  rw [esc_append]
  congr 1
theorem esc_length_le (l : List UInt8) : (esc l).length ≤ 2 * l.length := by
  induction l with
  | nil => simp [esc]
  | cons b l ih =>
    simp only [esc]
    split <;> simp <;> omega
def txt (l : List UInt8) : List UInt8 := esc l ++ [0, 1]
theorem txt_length_le (l : List UInt8) : (txt l).length ≤ 2 * l.length + 2 := by
  have := esc_length_le l
  simp [txt]
  omega
/-- A whole number's eight bytes (v, as the 64 bits that it is, and 2^63). -/
def int8 (v : Int) : List UInt8 := beB 8 ((v + 9223372036854775808) % 18446744073709551616).toNat
end Go.Proofs.YthhhbmeceilkhaaDoor

/- Appending bytes: the laws at this program's numbers. -/
namespace Go.Proofs.YthhhbmeceilkhaaDoor
open Go Go.RowKit

theorem info_u8 : (Tryd.prog.info? 5).map (fun i => (i.zero, i.size, i.bytes)) = some (some (.int .u8 0), 1, 1) := by kernel_rfl
theorem und_bytes : Tryd.prog.underlying 22 = some (.slice 5) := by kernel_rfl
theorem und_u8 : Tryd.prog.underlying 5 = some (.int .u8) := by kernel_rfl
theorem und_string : Tryd.prog.underlying 9 = some .string := by kernel_rfl

/-- A row of bytes that begins new from block B on. -/
def OwnB (w : World) (B : Nat) (v : Value) (l : List UInt8) : Prop := w.ownsRow B 5 1 v l.length (bcells l)
theorem OwnB.bytes {w : World} {B : Nat} {v : Value} {l : List UInt8} (h : OwnB w B v l) : BytesIn w v l := SliceIn.of_owns h
theorem OwnB.ext {w w' : World} {B : Nat} {v : Value} {l : List UInt8} (h : OwnB w B v l) (hE : Ext w w') : OwnB w' B v l := ownsRow_ext h hE
theorem OwnB.base {w : World} {B B' : Nat} {v : Value} {l : List UInt8} (h : OwnB w B v l) (hb : B' ≤ B) : OwnB w B' v l := ownsRow_base h hb

theorem byte_of {X : Int} (h0 : 0 ≤ X) (h1 : X < 256) : ((UInt8.ofNat X.toNat).toNat : Int) = X := by
  have : X.toNat < 256 := by omega
  rw [UInt8.toNat_ofNat_of_lt' this]
  omega

/-- A slice of bytes that may be appended to: a row of the call's own, or one without spare room. -/
def Tip (w : World) (B : Nat) (v : Value) (l : List UInt8) : Prop := OwnB w B v l ∨ ∃ ao, v = .slice ao l.length l.length ∧ BytesIn w v l
theorem Tip.own {w : World} {B : Nat} {v : Value} {l : List UInt8} (h : OwnB w B v l) : Tip w B v l := .inl h
theorem Tip.full {w : World} {B : Nat} {ao : Option Addr} {l : List UInt8} (h : BytesIn w (.slice ao l.length l.length) l) : Tip w B (.slice ao l.length l.length) l := .inr ⟨_, rfl, h⟩
theorem Tip.nil (w : World) (B : Nat) : Tip w B (.slice none 0 0) [] := .inl (World.ownsRow_nil w B _ _)
theorem Tip.ext {w w' : World} {B : Nat} {v : Value} {l : List UInt8} (h : Tip w B v l) (hE : Ext w w') : Tip w' B v l :=
  h.imp (fun h => h.ext hE) fun ⟨ao, e, h⟩ => ⟨ao, e, h.ext hE⟩
theorem Tip.bytes {w : World} {B : Nat} {v : Value} {l : List UInt8} (h : Tip w B v l) : BytesIn w v l := h.elim OwnB.bytes fun ⟨_, _, h⟩ => h

theorem cs1 {X : Int} (h0 : 0 ≤ X) (h1 : X < 256) : (#[Value.int .u8 X] : Array Value).toList = bcells [UInt8.ofNat X.toNat] := by
  simp only [bcells, List.map_cons, List.map_nil, byte_of h0 h1]
theorem csb (b : UInt8) : (#[Value.int .u8 (b.toNat : Int)] : Array Value).toList = bcells [b] := rfl

/-- 'append(b, x, ..)' of bytes: the world at hand is w with the new bytes laid. -/
theorem appB {ops : Array Oper} {rest : List Oper} {o : Oper} {a : Act} {Q : Exit → Act → World → Prop} (w : World) (hg : o.guard = none) (s x : Operand)
    (hop : o.op = Op.call { callee := Callee.builtin Builtin.append, args := #[s, x], argTypes := #[22, 22] })
    (w0 : World) (hE : Ext w0 w) (v : Value) (l : List UInt8) (cs : Array Value) (news : List UInt8) (hcs : cs.toList = bcells news) (hm : 0 < news.length) (hs : a.eval s = v) (hT : Tip w w0.heap.size v l)
    (m : Nat) (hx : a.eval x = .slice (some ⟨w.heap.size, 0, none⟩) m m) (hmn : m = news.length) (hb : l.length + news.length ≤ 140737488355328)
    (hK : ∀ v' w', OwnB w' w0.heap.size v' (l ++ news) → Ext w0 w' → wpList Tryd.prog ops Q rest (a.put o.dst v') w') : wpList Tryd.prog ops Q (o :: rest) a (w.alloc (.cells cs 5)) := by
  subst hmn
  obtain ⟨i0, hi, hz0, hz1, hz2⟩ := info_parts info_u8
  have hT := hT.ext ((Ext.refl w).alloc (.cells cs 5))
  have hn : (bcells news).length = news.length * 1 := by simp
  have hc : ∀ j u, (bcells news)[j]? = some u → (w.alloc (.cells cs 5)).cell? ((⟨w.heap.size, 0, none⟩ : Addr).add j) = some u := by
    intro j u hj
    rw [Addr.add_lit, Nat.zero_add, cell_of_row _ w.heap.size j cs 5 (0, 0) (heap_alloc_new w _)]
    rw [← hcs] at hj
    simpa using hj
  have h1c : ∀ u ∈ bcells news, u.oneCell' = true := by
    intro u hu
    simp only [bcells, List.mem_map] at hu
    obtain ⟨b, _, rfl⟩ := hu
    rfl
  rcases hT with hown | ⟨ao, rfl, hin⟩
  · refine wpList_append_own _ hg s x 22 hop w0.heap.size 5 i0 (.int .u8 0) 1 1 und_bytes hi hz0 hz1 hz2 rfl (by decide) v l.length (bcells l) hs hown ⟨w.heap.size, 0, none⟩ news.length news.length (bcells news) hx hn hc h1c (by unfold maxLen; omega) (by omega) (by have := hE.le; simp; omega) ?_
    intro v' w' h2 h3 _
    refine hK v' w' ?_ (Ext.grownOwn (hE.alloc _) hown (Nat.le_refl _) h3)
    unfold OwnB
    rw [List.length_append, bcells_append]
    exact h2
  · refine wpList_append_fresh _ hg s x 22 hop 5 i0 (.int .u8 0) 1 1 und_bytes hi hz0 hz1 hz2 rfl (by decide) ao l.length (bcells l) hs hin (by simp) ⟨w.heap.size, 0, none⟩ news.length news.length (bcells news) hx hn hc h1c hm (by unfold maxLen; omega) (by omega) ?_
    intro v' w' h2 h3
    refine hK v' w' ?_ ((hE.alloc _).grown h3 (by intro k hk; cases hk))
    unfold OwnB
    rw [List.length_append, bcells_append]
    exact ownsRow_base h2 (by have := hE.le; simp; omega)
end Go.Proofs.YthhhbmeceilkhaaDoor

/- Rows and variables of one's own, that turn while memory grows. -/
namespace Go.Proofs.YthhhbmeceilkhaaDoor
open Go Go.RowKit

/-- A variable: block p holds the cells cs of type e, none frozen. -/
def BoxAt (w : World) (p : Nat) (cs : Array Value) (e : TypeId) : Prop := w.heap[p]? = some (.cells cs e (0, 0))
theorem BoxAt.lt {w : World} {p : Nat} {cs : Array Value} {e : TypeId} (h : BoxAt w p cs e) : p < w.heap.size := (Array.getElem?_eq_some_iff.1 h).1
theorem BoxAt.ext {w w' : World} (hE : Ext w w') {p : Nat} {cs : Array Value} {e : TypeId} (h : BoxAt w p cs e) : BoxAt w' p cs e := by
  have hl := h.lt
  unfold BoxAt at *
  rw [hE.block p hl]
  exact h
theorem BoxAt.made (w : World) (cs : Array Value) (e : TypeId) : BoxAt (w.alloc (.cells cs e)) w.heap.size cs e := heap_alloc_new w _
theorem BoxAt.cell {w : World} {p : Nat} {cs : Array Value} {e : TypeId} (h : BoxAt w p cs e) (i : Nat) : w.cell? ⟨p, i, none⟩ = cs[i]? := var_cell h i
theorem BoxAt.free {w : World} {p : Nat} {cs : Array Value} {e : TypeId} (h : BoxAt w p cs e) (i : Nat) : w.frozen? ⟨p, i, none⟩ = false := var_free h i
theorem BoxAt.other {w : World} {p q : Nat} {cs : Array Value} {e : TypeId} (h : BoxAt w p cs e) (hne : p ≠ q) (i : Nat) (u : Value) : BoxAt (w.setCell ⟨q, i, none⟩ u) p cs e := by
  unfold BoxAt at *
  rw [Deep.blk_setCell_other _ _ _ _ hne]
  exact h
theorem BoxAt.set {w : World} {p : Nat} {cs : Array Value} {e : TypeId} (h : BoxAt w p cs e) (i : Nat) (u : Value) : BoxAt (w.setCell ⟨p, i, none⟩ u) p (cs.setIfInBounds i u) e := by
  unfold BoxAt at *
  have hl := (Array.getElem?_eq_some_iff.1 h).1
  have he := (Array.getElem?_eq_some_iff.1 h).2
  simp only [World.setCell]
  rw [Array.getElem?_eq_getElem (by simpa using hl)]
  simp [Array.getElem_modify, he]
theorem BoxAt.grown {w w' : World} {p : Nat} {cs : Array Value} {e : TypeId} {row : Option Nat} (h : BoxAt w p cs e) (hg : w.grownBy w' row) (hne : some p ≠ row) : BoxAt w' p cs e := by
  unfold BoxAt at *
  rw [hg.block p (Array.getElem?_eq_some_iff.1 h).1 hne]
  exact h

/-- 'append(v, ..)' to a row of one's own, what is appended lying in a row that was made just now. -/
theorem appR {P : Program} {T e : TypeId} {z : Value} {size bytes : Nat} (info : (P.info? e).map (fun i => (i.zero, i.size, i.bytes)) = some (some z, size, bytes)) (und : P.underlying T = some (.slice e)) (hzs : z.cells.size = size) (hsz : 0 < size)
    {ops : Array Oper} {rest : List Oper} {o : Oper} {a : Act} {Q : Exit → Act → World → Prop} (w : World) (hg : o.guard = none) (s x : Operand)
    (hop : o.op = Op.call { callee := Callee.builtin Builtin.append, args := #[s, x], argTypes := #[T, T] })
    (B : Nat) (hB : B ≤ w.heap.size) (v : Value) (n : Nat) (xs : List Value) (hown : w.ownsRow B e size v n xs) (hs : a.eval s = v) (m : Nat) (cs : Array Value) (hx : a.eval x = .slice (some ⟨w.heap.size, 0, none⟩) m m)
    (hcs : cs.size = m * size) (h1c : ∀ u ∈ cs.toList, u.oneCell' = true) (hb1 : n + m ≤ maxLen) (hb : (n + m) * bytes ≤ 140737488355328)
    (hK : ∀ v' w', w'.ownsRow B e size v' (n + m) (xs ++ cs.toList) → (w.alloc (.cells cs e)).grownBy w' v.ownBlock → wpList P ops Q rest (a.put o.dst v') w') : wpList P ops Q (o :: rest) a (w.alloc (.cells cs e)) := by
  obtain ⟨i0, hi, hz0, hz1, hz2⟩ := info_parts info
  refine wpList_append_own _ hg s x T hop B e i0 z size bytes und hi hz0 hz1 hz2 hzs hsz v n xs hs (hown.alloc _) ⟨w.heap.size, 0, none⟩ m m cs.toList hx (by simpa using hcs) ?_ h1c hb1 hb (by simp; omega) ?_
  · intro j u hj
    rw [Addr.add_lit, Nat.zero_add, cell_of_row _ w.heap.size j cs e (0, 0) (heap_alloc_new w _)]
    simpa using hj
  · intro v' w' h2 h3 _
    exact hK v' w' h2 h3

theorem BoxAt.madeN {w : World} {n : Nat} (cs : Array Value) (e : TypeId) (h : w.heap.size = n) : BoxAt (w.alloc (.cells cs e)) n cs e := by subst h; exact BoxAt.made w cs e
theorem boxes2 (w : World) (A B : Array Value) (a b : TypeId) :
    BoxAt ((w.alloc (.cells A a)).alloc (.cells B b)) w.heap.size A a ∧ BoxAt ((w.alloc (.cells A a)).alloc (.cells B b)) (w.heap.size + 1) B b ∧ Ext w ((w.alloc (.cells A a)).alloc (.cells B b)) :=
  ⟨(BoxAt.made w A a).ext ((Ext.refl _).alloc _), BoxAt.madeN B b (Deep.nblk_alloc _ _), ((Ext.refl w).alloc _).alloc _⟩
theorem boxes3 (w : World) (A B C : Array Value) (a b c : TypeId) :
    BoxAt (((w.alloc (.cells A a)).alloc (.cells B b)).alloc (.cells C c)) w.heap.size A a ∧ BoxAt (((w.alloc (.cells A a)).alloc (.cells B b)).alloc (.cells C c)) (w.heap.size + 1) B b ∧ BoxAt (((w.alloc (.cells A a)).alloc (.cells B b)).alloc (.cells C c)) (w.heap.size + 1 + 1) C c ∧ Ext w (((w.alloc (.cells A a)).alloc (.cells B b)).alloc (.cells C c)) := by
  obtain ⟨h1, h2, h3⟩ := boxes2 w A B a b
  exact ⟨h1.ext ((Ext.refl _).alloc _), h2.ext ((Ext.refl _).alloc _), BoxAt.madeN C c (by rw [Deep.nblk_alloc, Deep.nblk_alloc]), h3.alloc _⟩
theorem boxes4 (w : World) (A B C D : Array Value) (a b c d : TypeId) :
    BoxAt ((((w.alloc (.cells A a)).alloc (.cells B b)).alloc (.cells C c)).alloc (.cells D d)) w.heap.size A a ∧ BoxAt ((((w.alloc (.cells A a)).alloc (.cells B b)).alloc (.cells C c)).alloc (.cells D d)) (w.heap.size + 1) B b ∧ BoxAt ((((w.alloc (.cells A a)).alloc (.cells B b)).alloc (.cells C c)).alloc (.cells D d)) (w.heap.size + 1 + 1) C c ∧ BoxAt ((((w.alloc (.cells A a)).alloc (.cells B b)).alloc (.cells C c)).alloc (.cells D d)) (w.heap.size + 1 + 1 + 1) D d ∧ Ext w ((((w.alloc (.cells A a)).alloc (.cells B b)).alloc (.cells C c)).alloc (.cells D d)) := by
  obtain ⟨h1, h2, h3, h4⟩ := boxes3 w A B C a b c
  exact ⟨h1.ext ((Ext.refl _).alloc _), h2.ext ((Ext.refl _).alloc _), h3.ext ((Ext.refl _).alloc _), BoxAt.madeN D d (by rw [Deep.nblk_alloc, Deep.nblk_alloc, Deep.nblk_alloc]), h4.alloc _⟩
theorem boxes5 (w : World) (A B C D F : Array Value) (a b c d f : TypeId) :
    BoxAt (((((w.alloc (.cells A a)).alloc (.cells B b)).alloc (.cells C c)).alloc (.cells D d)).alloc (.cells F f)) w.heap.size A a ∧ BoxAt (((((w.alloc (.cells A a)).alloc (.cells B b)).alloc (.cells C c)).alloc (.cells D d)).alloc (.cells F f)) (w.heap.size + 1) B b ∧ BoxAt (((((w.alloc (.cells A a)).alloc (.cells B b)).alloc (.cells C c)).alloc (.cells D d)).alloc (.cells F f)) (w.heap.size + 1 + 1) C c ∧ BoxAt (((((w.alloc (.cells A a)).alloc (.cells B b)).alloc (.cells C c)).alloc (.cells D d)).alloc (.cells F f)) (w.heap.size + 1 + 1 + 1) D d ∧ BoxAt (((((w.alloc (.cells A a)).alloc (.cells B b)).alloc (.cells C c)).alloc (.cells D d)).alloc (.cells F f)) (w.heap.size + 1 + 1 + 1 + 1) F f ∧ Ext w (((((w.alloc (.cells A a)).alloc (.cells B b)).alloc (.cells C c)).alloc (.cells D d)).alloc (.cells F f)) := by
  obtain ⟨h1, h2, h3, h4, h5⟩ := boxes4 w A B C D a b c d
  exact ⟨h1.ext ((Ext.refl _).alloc _), h2.ext ((Ext.refl _).alloc _), h3.ext ((Ext.refl _).alloc _), h4.ext ((Ext.refl _).alloc _), BoxAt.madeN F f (by rw [Deep.nblk_alloc, Deep.nblk_alloc, Deep.nblk_alloc, Deep.nblk_alloc]), h5.alloc _⟩
theorem BoxAt.allocs {w : World} {p : Nat} {cs : Array Value} {e : TypeId} (h : BoxAt w p cs e) : ∀ o i, (w.alloc o).cell? ⟨p, i, none⟩ = cs[i]? := fun o i => (h.ext ((Ext.refl w).alloc o)).cell i
theorem BoxAt.frees {w : World} {p : Nat} {cs : Array Value} {e : TypeId} (h : BoxAt w p cs e) : ∀ o i, (w.alloc o).frozen? ⟨p, i, none⟩ = false := fun o i => (h.ext ((Ext.refl w).alloc o)).free i
theorem cell_grown {w w' : World} {g b i : Nat} {u : Value} (hg : w.grownBy w' (some g)) (hne : b ≠ g) (h : w.cell? ⟨b, i, none⟩ = some u) : w'.cell? ⟨b, i, none⟩ = some u := by
  have hl := World.block_lt_of_cell? w _ h
  have hb := hg.block b hl (fun e => hne (Option.some.inj e))
  simp only [World.cell?] at h ⊢
  rw [hb]
  exact h
theorem SliceIn.grown {w w' : World} {g b o n c : Nat} {xs : List Value} (hg : w.grownBy w' (some g)) (hne : b ≠ g) (h : SliceIn w (.slice (some ⟨b, o, none⟩) n c) n xs) : SliceIn w' (.slice (some ⟨b, o, none⟩) n c) n xs := by
  obtain ⟨a, c', e, h2, h3, h4, h6⟩ := h
  cases e
  exact ⟨_, _, rfl, h2, h3, h4, fun j u hj => let ⟨b', o', e, hc⟩ := h6 j u hj; ⟨b', o', e, by cases e; exact cell_grown hg hne hc⟩⟩

/-- A store of a whole variable: what is known of the world behind it. -/
theorem storeBox {P : Program} {ops : Array Oper} {rest : List Oper} {o : Oper} {a : Act} {w : World} {Q : Exit → Act → World → Prop} (hgd : o.guard = none) (ty : TypeId) (x y : Operand) (ho : o.op = .store ty x y)
    (g : Nat) (cells old : Array Value) (t : TypeId) (hx : a.eval x = .pointer (some ⟨g, 0, none⟩)) (hy : a.eval y = .agg cells)
    (hg : BoxAt w g old t) (hi : (P.info? ty).map (·.size) = some cells.size) (hold : old.size = cells.size) (h1 : cells.all (·.oneCell') = true)
    (hK : ∀ w', BoxAt w' g cells t → w.grownBy w' (some g) → wpList P ops Q rest (a.put o.dst undef) w') : wpList P ops Q (o :: rest) a w :=
  wpList_store_row hgd ty x y ho g cells hx hy t old hg hi hold h1 (hK _ (setRow_heap w g old cells t (0, 0) hg) ⟨rfl, rfl, rfl, by simp [World.setRow], fun k _ hne => setRow_other w g k cells (fun e => hne (by rw [e]))⟩)

/-- How many elements a slice has. -/
def lenOf : Value → Nat
  | .slice _ n _ => n
  | _ => 0
end Go.Proofs.YthhhbmeceilkhaaDoor

/- Package token (and clerestoryref03): places of texts, as four bytes. -/
namespace Go.Proofs.YthhhbmeceilkhaaDoor
open Go Go.RowKit
attribute [local go_sem] yields yUpon

set_option maxHeartbeats 400000 in
theorem tcut_any (t : Int) (h0 : 0 ≤ t) (h1 : t < 2147483647) (w : World) :
    Calls Tryd.prog 45 #[.int .i64 t] w fun e w' => e = .returned (.int .i64 t) ∧ w = w' := by
  have h2 : max 0 (min t 2147483646) = t := by omega
  have H2 := Lib.hid h2
  clear h2
  go_enter Tryd.func45, Tryd.ntmps45
  go_wp2
  all_goals
    go_ret
    first | exact ⟨ret_int H2.out, rfl⟩ | exact ⟨ret_int (by omega), rfl⟩

set_option maxHeartbeats 400000 in
theorem tround_any (p : Nat) (t b : Int) (e : TypeId) (h0 : 0 ≤ t) (h1 : t < 2147483647) (b0 : 0 ≤ b) (b1 : b < 256) (w : World) (hb : BoxAt w p #[.int .i64 t] e) :
    Calls Tryd.prog 46 #[.int .u8 b, .pointer (some ⟨p, 0, none⟩)] w fun e w' => e = .returned (.tuple #[]) ∧ w' = w.setCell ⟨p, 0, none⟩ (.int .i64 ((257 * t + b + 1) % 2147483647)) := by
  have c0 := hb.cell 0
  have f0 := hb.free 0
  simp at c0
  go_enter Tryd.func46, Tryd.ntmps46
  go_wp2
  go_end0
  exact ⟨rfl, rfl⟩

theorem tok_step (t : Nat) (l : List UInt8) (k : Nat) (h : k < l.length) : (257 * (tok t (l.take k) : Int) + ((l[k]).toNat : Int) + 1) % 2147483647 = (tok t (l.take (k + 1)) : Int) := by
  rw [List.take_succ_eq_append_getElem h, tok_snoc]
  omega

set_option maxHeartbeats 1000000 in
theorem tmore_any (t : Nat) (ht : t < 2147483647) (s : ByteArray) (hs : s.size ≤ maxLen) (w : World) :
    Calls Tryd.prog 36 #[.int .i64 (t : Int), .string s] w fun e w' => e = .returned (.int .i64 (tok t s.data.toList : Int)) ∧ Ext w w' := by
  unfold maxLen at hs
  have E1 := (Ext.refl w).alloc (.cells #[.int .i64 (t : Int)] 3)
  have hb := BoxAt.made w #[.int .i64 (t : Int)] 3
  have c0 := hb.cell 0
  have f0 := hb.free 0
  simp at c0
  go_enter Tryd.func36, Tryd.ntmps36
  go_wp2_with (go_at_call 45; go_must (refine (tcut_any _ (by omega) (by omega) _).mono ?_); rintro e w1 ⟨rfl, rfl⟩)
  go_loopw [6, 12] (fun _ i wr => ∃ k : Nat, k ≤ s.size ∧ i = .int .i64 k ∧ BoxAt wr w.heap.size #[.int .i64 (tok t (s.data.toList.take k) : Int)] 3 ∧ Ext w wr) (fun _ i _ => s.size - (intOf i).toNat)
  case atStart => exact ⟨0, Nat.zero_le _, rfl, hb, E1⟩
  case round =>
    obtain ⟨k, hk, rfl, hbox, hE⟩ := hrel
    have hlt := tok_lt (s.data.toList.take k) t ht
    by_cases hks : k < s.size
    · have hst : (257 * (tok t (s.data.toList.take k) : Int) + (s[k].toNat : Int) + 1) % 2147483647 = (tok t (s.data.toList.take (k + 1)) : Int) := tok_step t s.data.toList k hks
      have hb2 := hbox.set 0 (.int .i64 ((257 * (tok t (s.data.toList.take k) : Int) + (s[k].toNat : Int) + 1) % 2147483647))
      have HS := Lib.hid hst
      have hbyte := s[k].toNat_lt
      clear hst c0 f0
      go_wp2_with fail
      refine (tround_any w.heap.size _ _ 3 (by omega) (by omega) (by omega) (by omega) _ hbox).mono ?_
      rintro e w2 ⟨rfl, rfl⟩
      go_wp2
      go_roundw
      case rel => exact ⟨k + 1, by omega, by go_num, by rw [← HS.out]; exact hb2, hE.setCell (Nat.le_refl _) _⟩
      case measure => simp [intOf]; omega
    · obtain rfl : k = s.size := by omega
      have e : s.data.toList.take s.size = s.data.toList := List.take_of_length_le (Nat.le_of_eq rfl)
      rw [e] at hbox
      have c1 := hbox.cell 0
      simp at c1
      clear c0 f0
      go_wp2
      go_ret
      exact ⟨rfl, hE⟩

theorem tof_any (s : ByteArray) (hs : s.size ≤ maxLen) (w : World) :
    Calls Tryd.prog 18 #[.string s] w fun e w' => e = .returned (.int .i64 (tok 1 s.data.toList : Int)) ∧ Ext w w' := by
  go_enter Tryd.func18, Tryd.ntmps18
  go_wp2_with fail
  refine (tmore_any 1 (by decide) s hs _).mono ?_
  rintro e w1 ⟨rfl, hE⟩
  go_wp2
  go_ret
  exact ⟨rfl, hE⟩

set_option maxHeartbeats 400000 in
theorem rcut_any (t : Int) (h0 : 0 ≤ t) (h1 : t < 2147483647) (w : World) :
    Calls Tryd.prog 48 #[.int .i64 t] w fun e w' => e = .returned (.int .i64 t) ∧ w = w' := by
  have h2 : min (max t 0) 2147483646 = t := by omega
  have H2 := Lib.hid h2
  clear h2
  go_enter Tryd.func48, Tryd.ntmps48
  go_wp2
  all_goals
    go_ret
    first | exact ⟨ret_int H2.out, rfl⟩ | exact ⟨ret_int (by omega), rfl⟩

set_option maxHeartbeats 1000000 in
theorem rmore_any (t : Nat) (ht : t < 2147483647) (s : ByteArray) (hs : s.size ≤ maxLen) (w : World) :
    Calls Tryd.prog 49 #[.int .i64 (t : Int), .string s] w fun e w' => e = .returned (.int .i64 (tok t s.data.toList : Int)) ∧ w = w' := by
  unfold maxLen at hs
  go_enter Tryd.func49, Tryd.ntmps49
  go_wp2_with (go_at_call 48; go_must (refine (rcut_any _ (by omega) (by omega) _).mono ?_); rintro e w1 ⟨rfl, rfl⟩)
  go_loop [5, 6] (fun h i => ∃ k : Nat, k ≤ s.size ∧ i = .int .i64 k ∧ h = .int .i64 (tok t (s.data.toList.take k) : Int)) (fun _ i => s.size - (intOf i).toNat)
  case atStart => exact ⟨0, Nat.zero_le _, rfl, rfl⟩
  case round =>
    obtain ⟨k, hk, rfl, rfl⟩ := hrel
    have hlt := tok_lt (s.data.toList.take k) t ht
    by_cases hks : k < s.size
    · have hst : (257 * (tok t (s.data.toList.take k) : Int) + (s[k].toNat : Int) + 1) % 2147483647 = (tok t (s.data.toList.take (k + 1)) : Int) := tok_step t s.data.toList k hks
      have HS := Lib.hid hst
      have hbyte := s[k].toNat_lt
      clear hst
      go_wp2
      go_round
      case rel => exact ⟨k + 1, by omega, by go_num, by rw [← HS.out]⟩
      case measure => simp [intOf]; omega
    · obtain rfl : k = s.size := by omega
      have e : s.data.toList.take s.size = s.data.toList := List.take_of_length_le (Nat.le_of_eq rfl)
      have HE := Lib.hid e
      clear e
      go_wp2
      go_ret
      exact ⟨ret_int (by rw [HE.out]), rfl⟩

theorem rof_any (s : ByteArray) (hs : s.size ≤ maxLen) (w : World) :
    Calls Tryd.prog 40 #[.string s] w fun e w' => e = .returned (.int .i64 (tok 1 s.data.toList : Int)) ∧ w = w' := by
  go_enter Tryd.func40, Tryd.ntmps40
  go_wp2_with fail
  refine (rmore_any 1 (by decide) s hs _).mono ?_
  rintro e w1 ⟨rfl, rfl⟩
  go_wp2
  go_ret
  exact ⟨rfl, rfl⟩

theorem tok4_cells (t : Nat) (ht : t < 2147483647) : (#[Value.int .u8 ((t : Int) / 16777216), Value.int .u8 ((t : Int) / 65536 % 256), Value.int .u8 ((t : Int) / 256 % 256), Value.int .u8 ((t : Int) % 256)] : Array Value).toList = bcells (tok4 t) := by
  simp only [tok4, bcells, List.map_cons, List.map_nil, UInt8.toNat_ofNat']
  congr 1
  congr 1
  omega
theorem tok4_bytes (t : Nat) (ht : t < 2147483647) (e : TypeId) (w : World) : BytesIn (w.alloc (.cells #[Value.int .u8 ((t : Int) / 16777216), Value.int .u8 ((t : Int) / 65536 % 256), Value.int .u8 ((t : Int) / 256 % 256), Value.int .u8 ((t : Int) % 256)] e)) (.slice (some ⟨w.heap.size, 0, none⟩) 4 4) (tok4 t) := by
  have h := SliceIn.made w #[Value.int .u8 ((t : Int) / 16777216), Value.int .u8 ((t : Int) / 65536 % 256), Value.int .u8 ((t : Int) / 256 % 256), Value.int .u8 ((t : Int) % 256)] e 4 (by decide)
  rw [tok4_cells t ht] at h
  exact h

set_option maxHeartbeats 1000000 in
theorem rbytes_any (t : Nat) (ht : t < 2147483647) (w : World) :
    Calls Tryd.prog 39 #[.int .i64 (t : Int)] w fun e w' => e = .returned (.string (str (tok4 t))) ∧ Ext w w' := by
  go_enter Tryd.func39, Tryd.ntmps39
  go_wp2_with (go_at_call 48; go_must (refine (rcut_any _ (by omega) (by omega) _).mono ?_); rintro e w1 ⟨rfl, rfl⟩)
  rw [run_convert_bytesIn _ 22 9 5 und_bytes und_u8 und_string (tok4_bytes t ht _ _)]
  simp only [Result.andThen]
  rw [Oper.upon_value]
  go_wp2
  go_ret
  exact ⟨rfl, (Ext.refl w).alloc _⟩

set_option maxHeartbeats 2000000 in
theorem tbytes_any (t : Nat) (ht : t < 2147483647) (w : World) :
    Calls Tryd.prog 38 #[.int .i64 (t : Int)] w fun e w' => e = .returned (.string (str (tok4 t))) ∧ Ext w w' := by
  go_enter Tryd.func38, Tryd.ntmps38
  go_wp2_with (go_at_call 45; go_must (refine (tcut_any _ (by omega) (by omega) _).mono ?_); rintro e w1 ⟨rfl, rfl⟩)
  refine wp_loop_rounds 5 ?_
  rw [rounds_succ]
  go_wp2
  rw [rounds_succ]
  go_wp2
  rw [rounds_succ]
  go_wp2
  rw [rounds_succ]
  go_wp2
  rw [rounds_succ]
  go_wp2
  rw [run_convert_bytesIn _ 22 9 5 und_bytes und_u8 und_string (tok4_bytes t ht _ _)]
  simp only [Result.andThen]
  rw [Oper.upon_value]
  go_wp2
  go_ret
  exact ⟨rfl, (Ext.refl w).alloc _⟩

theorem i64_or8 (x y : Int) (hx0 : 0 ≤ x) (hx : x % 256 = 0) (hx1 : x < 4611686018427387904) (hy0 : 0 ≤ y) (hy : y < 256) : bits .or .i64 x y = x + y := by
  refine bits_join .i64 62 (by decide) (fun n h0 h1 => ?_) 8 x y hx0 (by simpa using hx) (by simpa using hx1) hy0 (by simpa using hy) (by have : y < 256 := hy; show y < 2 ^ 62; omega)
  exact IntWalk.i64_in _ (by omega)

set_option maxRecDepth 100000 in
set_option maxHeartbeats 2000000 in
theorem tnumber_any (a b c d : UInt8) (w : World) :
    Calls Tryd.prog 17 #[.string ⟨#[a, b, c, d]⟩] w fun e w' => e = .returned (if num4 a b c d < 2147483647 then .tuple #[.int .i64 (num4 a b c d : Int), .bool true] else .tuple #[.int .i64 0, .bool false]) ∧ w = w' := by
  have ha := a.toNat_lt
  have hb := b.toNat_lt
  have hc := c.toNat_lt
  have hd := d.toNat_lt
  obtain ⟨A, hA⟩ : ∃ A : Nat, a.toNat = A := ⟨_, rfl⟩
  obtain ⟨B, hB⟩ : ∃ A : Nat, b.toNat = A := ⟨_, rfl⟩
  obtain ⟨C, hC⟩ : ∃ A : Nat, c.toNat = A := ⟨_, rfl⟩
  obtain ⟨D, hD⟩ : ∃ A : Nat, d.toNat = A := ⟨_, rfl⟩
  rw [hA] at ha
  rw [hB] at hb
  rw [hC] at hc
  rw [hD] at hd
  have ha' : (A : Int) < 256 := by omega
  have hb' : (B : Int) < 256 := by omega
  have hc' : (C : Int) < 256 := by omega
  have hd' : (D : Int) < 256 := by omega
  have HN : Hid ((num4 a b c d : Int) = ((A * 256 + B) * 256 + C) * 256 + D) := Lib.hid (by unfold num4; rw [hA, hB, hC, hD]; omega)
  have e0 : (({ data := #[a, b, c, d] } : ByteArray)[0]'(by show 0 < 4; omega)).toNat = A := hA
  have e1 : (({ data := #[a, b, c, d] } : ByteArray)[1]'(by show 1 < 4; omega)).toNat = B := hB
  have e2 : (({ data := #[a, b, c, d] } : ByteArray)[2]'(by show 2 < 4; omega)).toNat = C := hC
  have e3 : (({ data := #[a, b, c, d] } : ByteArray)[3]'(by show 3 < 4; omega)).toNat = D := hD
  have o0 : bits .or .i64 0 (A : Int) = (A : Int) := by rw [i64_or8 _ _ (by omega) (by omega) (by omega) (by omega) (by omega)]; omega
  have o1 : bits .or .i64 ((A : Int) * 256) (B : Int) = (A : Int) * 256 + B := i64_or8 _ _ (by omega) (by omega) (by omega) (by omega) (by omega)
  have o2 : bits .or .i64 (((A : Int) * 256 + B) * 256) (C : Int) = ((A : Int) * 256 + B) * 256 + C := i64_or8 _ _ (by omega) (by omega) (by omega) (by omega) (by omega)
  have o3 : bits .or .i64 ((((A : Int) * 256 + B) * 256 + C) * 256) (D : Int) = (((A : Int) * 256 + B) * 256 + C) * 256 + D := i64_or8 _ _ (by omega) (by omega) (by omega) (by omega) (by omega)
  clear ha hb hc hd hA hB hC hD
  by_cases hn : num4 a b c d < 2147483647
  all_goals
    have hn' := hn
    first | rw [if_pos hn] | rw [if_neg hn]
    have hs2 := HN.out
    obtain ⟨V, hV⟩ : ∃ V : Int, V = (((A : Int) * 256 + B) * 256 + C) * 256 + D := ⟨_, rfl⟩
    rw [← hV] at o3 hs2
    have HV := Lib.hid hs2
  · rw [HV.out]
    have hs3 : V < 2147483647 := by omega
    have hs4 : 0 ≤ V := by omega
    clear hV hs2 hn' hn
    go_enter Tryd.func17, Tryd.ntmps17
    go_wp2
    refine wp_loop_rounds 5 ?_
    rw [rounds_succ]
    go_wp2
    rw [rounds_succ]
    go_wp2
    rw [rounds_succ]
    go_wp2
    rw [rounds_succ]
    go_wp2
    rw [rounds_succ]
    go_wp2
    go_ret2
    exact ⟨rfl, rfl⟩
  · have hs3 : 2147483647 ≤ V := by omega
    have hs4 : 0 ≤ V := by omega
    clear hV hs2 hn' hn
    go_enter Tryd.func17, Tryd.ntmps17
    go_wp2
    refine wp_loop_rounds 5 ?_
    rw [rounds_succ]
    go_wp2
    rw [rounds_succ]
    go_wp2
    rw [rounds_succ]
    go_wp2
    rw [rounds_succ]
    go_wp2
    rw [rounds_succ]
    go_wp2
    go_ret2
    exact ⟨rfl, rfl⟩
end Go.Proofs.YthhhbmeceilkhaaDoor
