/- 'append(b, s...)' of a text's bytes, b a row of the call's own or a slice without spare room. -/
import Derived.Test.YtfagnbofnaoncaaGreatDoorP1
import Derived.Lib.AppendStr
import Derived.Test.YtfagnbofnaoncaaGreatDoorP2
import Derived.Deep.Heap
set_option linter.unusedSimpArgs false
set_option linter.unusedVariables false
namespace Go.Proofs.YtfagnbofnaoncaaGreatDoor
open Go Go.RowKit

theorem strCells_bcells (s : ByteArray) : Lib.strCells s = bcells s.data.toList := rfl
theorem info_b8s : Tryz.prog.info? 5 = some (Tryz.prog.info? 5).get! ∧ (Tryz.prog.info? 5).get!.zero = some (.int .u8 0) ∧ (Tryz.prog.info? 5).get!.size = 1 ∧ (Tryz.prog.info? 5).get!.bytes = 1 := ⟨by kernel_rfl, by kernel_rfl, by kernel_rfl, by kernel_rfl⟩

/-- Onto a row of one's own, whatever the text. -/
theorem appBo {ops : Array Oper} {rest : List Oper} {o : Oper} {a : Act} {Q : Exit → Act → World → Prop} (w : World) (hg : o.guard = none) (s x : Operand)
    (hop : o.op = Op.call { callee := Callee.builtin Builtin.append, args := #[s, x], argTypes := #[79, 9] })
    (B : Nat) (hB : B ≤ w.heap.size) (v : Value) (l : List UInt8) (news : ByteArray) (hs : a.eval s = v) (hT : OwnB w B v l) (hx : a.eval x = .string news) (hb : l.length + news.size ≤ 140737488355328)
    (hK : ∀ v' w', OwnB w' B v' (l ++ news.data.toList) → w.grownBy w' v.ownBlock → wpList Tryz.prog ops Q rest (a.put o.dst v') w') : wpList Tryz.prog ops Q (o :: rest) a w := by
  refine Lib.wpList_append_own_string w hg s x 79 9 hop B 5 _ und_bytes und_string info_b8s.1 info_b8s.2.1 info_b8s.2.2.1 info_b8s.2.2.2 v l.length (bcells l) hs hT news hx (by unfold maxLen; omega) hb hB ?_
  intro v' w' h1 h2 _
  refine hK v' w' ?_ h2
  unfold OwnB
  rw [strCells_bcells, ← bcells_append] at h1
  have e : (l ++ news.data.toList).length = l.length + news.size := by rw [List.length_append]; rfl
  rw [e]
  exact h1

/-- Onto a slice without spare room, a text that is not empty: a new row. -/
theorem appBs {ops : Array Oper} {rest : List Oper} {o : Oper} {a : Act} {Q : Exit → Act → World → Prop} (w : World) (hg : o.guard = none) (s x : Operand)
    (hop : o.op = Op.call { callee := Callee.builtin Builtin.append, args := #[s, x], argTypes := #[79, 9] })
    (w0 : World) (hE : Ext w0 w) (v : Value) (l : List UInt8) (news : ByteArray) (hs : a.eval s = v) (hT : Tip w w0.heap.size v l) (hx : a.eval x = .string news) (hm : 0 < news.size) (hb : l.length + news.size ≤ 140737488355328)
    (hK : ∀ v' w', OwnB w' w0.heap.size v' (l ++ news.data.toList) → Ext w0 w' → wpList Tryz.prog ops Q rest (a.put o.dst v') w') : wpList Tryz.prog ops Q (o :: rest) a w := by
  have own : ∀ v, a.eval s = v → OwnB w w0.heap.size v l → wpList Tryz.prog ops Q (o :: rest) a w := fun v hs hown =>
    appBo w hg s x hop w0.heap.size hE.le v l news hs hown hx hb fun v' w' h1 h2 => hK v' w' h1 (hE.grown h2 fun k hk => (hown.lt k hk).1)
  rcases hT with hown | ⟨ao, rfl, hin⟩
  · exact own v hs hown
  · obtain ⟨a', c', he, hnc, hcm, hz, hcells⟩ := hin
    cases he
    cases ao with
    | none =>
      have h0 := hz rfl
      have hl : l = [] := List.eq_nil_of_length_eq_zero h0
      subst hl
      exact own _ hs (World.ownsRow_nil _ _ _ _)
    | some ad =>
      have hlen : (bcells l).length = l.length * (Tryz.prog.info? 5).get!.size := by rw [info_b8s.2.2.1]; simp
      have h1 := Lib.run_append_grow_string (P := Tryz.prog) w 79 9 o.type 5 _ _ und_bytes und_string info_b8s.1 info_b8s.2.1 ad l.length l.length (bcells l) hlen (fun j u hj => by
          obtain ⟨b', o', e', hc'⟩ := hcells j u hj
          cases e'
          rw [Addr.add_lit]
          exact hc') news (by omega) (by omega) (by rw [info_b8s.2.2.2]; exact growslice_fits (by omega) (by omega))
      refine wpList_plain hg fun K hK' => ?_
      unfold Oper.wp execOp
      simp only [hop, resolve, invoke, builtin, Sem.run_bind, Sem.run_pure, Result.andThen_ok, List.map_toArray, List.map_cons, List.map_nil, hs, hx, h1]
      refine hK' _ _ (hK _ _ ?_ ?_)
      · have e : (l ++ news.data.toList).length = l.length + news.size := by rw [List.length_append]; rfl
        have hge := grownCap_ge w (l.length + news.size) l.length 5
        have hcm2 : grownCap w (l.length + news.size) l.length 5 ≤ maxLen := grownCap_le_maxLen w (l.length + news.size) l.length 5 (by unfold maxLen; omega)
        unfold OwnB
        rw [e]
        refine ⟨by rw [bcells_length, e, Nat.mul_one], .inr ⟨w.heap.size, _, _, rfl, hE.le, heap_alloc_new w.drew _, hge, hcm2, ?_, ?_⟩⟩
        · have hz1 : (Value.int IntKind.u8 0).cells.size = 1 := rfl
          have e2 : (Lib.strCells news).length = news.size := Lib.strCells_length news
          simp only [Array.size_append, List.size_toArray, size_zeroCells, hz1, bcells_length, e2]
          omega
        · simp only [Array.toList_append, List.append_assoc]
          rw [← List.append_assoc, strCells_bcells, ← bcells_append]
          have e3 : (l.length + news.size) * 1 = (bcells (l ++ news.data.toList)).length := by rw [bcells_length, e, Nat.mul_one]
          rw [e3]
          exact List.take_left
      · exact hE.drew.alloc _
end Go.Proofs.YtfagnbofnaoncaaGreatDoor

/- Package pack: number, text; whole and Part of a partition without rows. -/
namespace Go.Proofs.YtfagnbofnaoncaaGreatDoor
open Go Go.RowKit
attribute [local go_sem] yields yUpon

theorem nlen_le8 {x : Nat} (hx : x < 18446744073709551616) : nlen x ≤ 8 := by have := bitsOf_le64 hx; unfold nlen; omega
theorem num_length {x : Nat} (hx : x < 18446744073709551616) : (num x).length ≤ 9 := by have := nlen_le8 hx; unfold num; simp [beB_length]; omega

set_option maxHeartbeats 400000 in
theorem pk_number (v : Value) (l : List UInt8) (X : Int) (h0 : 0 ≤ X) (h1 : X ≤ 9223372036854775807) (w : World) (hv : BytesIn w v l) (hl : l.length ≤ 140737488000000) :
    Calls Tryz.prog 227 #[v, .int .i64 X] w fun e w' => ∃ v', e = .returned v' ∧ OwnB w' w.heap.size v' (l ++ num X.toNat) ∧ Ext w w' := by
  have hw : IntKind.u64.wrap X = X := by rw [IntKind.wrap_u64]; omega
  go_enter Tryz.func227, Tryz.ntmps227
  go_wp2_with (go_at_call 214; go_must (refine (Num_ok v l X h0 (by omega) w hv hl).mono ?_); rintro e w1 ⟨v1, rfl, ho1, hE1⟩)
  go_ret
  exact ⟨_, rfl, ho1, hE1⟩

set_option maxHeartbeats 400000 in
theorem pk_text (v : Value) (l : List UInt8) (s : ByteArray) (hs : s.size ≤ 1000000000) (w : World) (hv : BytesIn w v l) (hl : l.length ≤ 1000000000) :
    Calls Tryz.prog 228 #[v, .string s] w fun e w' => ∃ v', e = .returned v' ∧ OwnB w' w.heap.size v' (l ++ num s.size ++ s.data.toList) ∧ Ext w w' := by
  have hn := num_length (x := s.size) (by omega)
  go_enter Tryz.func228, Tryz.ntmps228
  go_wp2_with (first
    | (go_at_call 227; go_must (refine (pk_number v l s.size (by omega) (by omega) w hv (by omega)).mono ?_); rintro e w1 ⟨v1, rfl, ho1, hE1⟩; rw [Int.toNat_natCast] at ho1)
    | ((guard_target =~ wpList _ _ _ (Oper.mk (some 10) _ _ _ _ _ :: _) _ _); go_must (refine appBo w1 rfl (.tmp 8) (.tmp 9) rfl w.heap.size hE1.le v1 _ s (by rfl) ho1 (by rfl) (by simp; omega) ?_); intro v2 w2 ho2 hg2))
  go_ret
  exact ⟨_, rfl, ho2, hE1.grown hg2 (fun k hk => (ho1.lt k hk).1)⟩
end Go.Proofs.YtfagnbofnaoncaaGreatDoor

/- Rows and variables of one's own, that turn while memory grows. -/
namespace Go.Proofs.YtfagnbofnaoncaaGreatDoor
open Go Go.RowKit

/-- A variable: block p holds the cells cs of type e, none frozen. -/
def BoxAt (w : World) (p : Nat) (cs : Array Value) (e : TypeId) : Prop := w.heap[p]? = some (.cells cs e (0, 0))
theorem BoxAt.lt {w : World} {p : Nat} {cs : Array Value} {e : TypeId} (h : BoxAt w p cs e) : p < w.heap.size := (Array.getElem?_eq_some_iff.1 h).1
theorem BoxAt.ext {w w' : World} (hE : Ext w w') {p : Nat} {cs : Array Value} {e : TypeId} (h : BoxAt w p cs e) : BoxAt w' p cs e := by
  have hl := h.lt
  unfold BoxAt at *
  rw [hE.block p hl]
  exact h
theorem BoxAt.made (w : World) (cs : Array Value) (e : TypeId) : BoxAt (w.alloc (.cells cs e)) w.heap.size cs e := heap_alloc_new w _
theorem BoxAt.cell {w : World} {p : Nat} {cs : Array Value} {e : TypeId} (h : BoxAt w p cs e) (i : Nat) : w.cell? ⟨p, i, none⟩ = cs[i]? := var_cell h i
theorem BoxAt.free {w : World} {p : Nat} {cs : Array Value} {e : TypeId} (h : BoxAt w p cs e) (i : Nat) : w.frozen? ⟨p, i, none⟩ = false := var_free h i
theorem BoxAt.other {w : World} {p q : Nat} {cs : Array Value} {e : TypeId} (h : BoxAt w p cs e) (hne : p ≠ q) (i : Nat) (u : Value) : BoxAt (w.setCell ⟨q, i, none⟩ u) p cs e := by
  unfold BoxAt at *
  rw [Deep.blk_setCell_other _ _ _ _ hne]
  exact h
theorem BoxAt.set {w : World} {p : Nat} {cs : Array Value} {e : TypeId} (h : BoxAt w p cs e) (i : Nat) (u : Value) : BoxAt (w.setCell ⟨p, i, none⟩ u) p (cs.setIfInBounds i u) e := by
  unfold BoxAt at *
  have hl := (Array.getElem?_eq_some_iff.1 h).1
  have he := (Array.getElem?_eq_some_iff.1 h).2
  simp only [World.setCell]
  rw [Array.getElem?_eq_getElem (by simpa using hl)]
  simp [Array.getElem_modify, he]
theorem BoxAt.grown {w w' : World} {p : Nat} {cs : Array Value} {e : TypeId} {row : Option Nat} (h : BoxAt w p cs e) (hg : w.grownBy w' row) (hne : some p ≠ row) : BoxAt w' p cs e := by
  unfold BoxAt at *
  rw [hg.block p (Array.getElem?_eq_some_iff.1 h).1 hne]
  exact h

/-- 'append(v, ..)' to a row of one's own, what is appended lying in a row that was made just now. -/
theorem appR {P : Program} {T e : TypeId} {z : Value} {size bytes : Nat} (info : (P.info? e).map (fun i => (i.zero, i.size, i.bytes)) = some (some z, size, bytes)) (und : P.underlying T = some (.slice e)) (hzs : z.cells.size = size) (hsz : 0 < size)
    {ops : Array Oper} {rest : List Oper} {o : Oper} {a : Act} {Q : Exit → Act → World → Prop} (w : World) (hg : o.guard = none) (s x : Operand)
    (hop : o.op = Op.call { callee := Callee.builtin Builtin.append, args := #[s, x], argTypes := #[T, T] })
    (B : Nat) (hB : B ≤ w.heap.size) (v : Value) (n : Nat) (xs : List Value) (hown : w.ownsRow B e size v n xs) (hs : a.eval s = v) (m : Nat) (cs : Array Value) (hx : a.eval x = .slice (some ⟨w.heap.size, 0, none⟩) m m)
    (hcs : cs.size = m * size) (h1c : ∀ u ∈ cs.toList, u.oneCell' = true) (hb1 : n + m ≤ maxLen) (hb : (n + m) * bytes ≤ 140737488355328)
    (hK : ∀ v' w', w'.ownsRow B e size v' (n + m) (xs ++ cs.toList) → (w.alloc (.cells cs e)).grownBy w' v.ownBlock → wpList P ops Q rest (a.put o.dst v') w') : wpList P ops Q (o :: rest) a (w.alloc (.cells cs e)) := by
  obtain ⟨i0, hi, hz0, hz1, hz2⟩ := info_parts info
  refine wpList_append_own _ hg s x T hop B e i0 z size bytes und hi hz0 hz1 hz2 hzs hsz v n xs hs (hown.alloc _) ⟨w.heap.size, 0, none⟩ m m cs.toList hx (by simpa using hcs) ?_ h1c hb1 hb (by simp; omega) ?_
  · intro j u hj
    rw [Addr.add_lit, Nat.zero_add, cell_of_row _ w.heap.size j cs e (0, 0) (heap_alloc_new w _)]
    simpa using hj
  · intro v' w' h2 h3 _
    exact hK v' w' h2 h3

theorem BoxAt.madeN {w : World} {n : Nat} (cs : Array Value) (e : TypeId) (h : w.heap.size = n) : BoxAt (w.alloc (.cells cs e)) n cs e := by subst h; exact BoxAt.made w cs e
theorem boxes2 (w : World) (A B : Array Value) (a b : TypeId) :
    BoxAt ((w.alloc (.cells A a)).alloc (.cells B b)) w.heap.size A a ∧ BoxAt ((w.alloc (.cells A a)).alloc (.cells B b)) (w.heap.size + 1) B b ∧ Ext w ((w.alloc (.cells A a)).alloc (.cells B b)) :=
  ⟨(BoxAt.made w A a).ext ((Ext.refl _).alloc _), BoxAt.madeN B b (Deep.nblk_alloc _ _), ((Ext.refl w).alloc _).alloc _⟩
theorem boxes3 (w : World) (A B C : Array Value) (a b c : TypeId) :
    BoxAt (((w.alloc (.cells A a)).alloc (.cells B b)).alloc (.cells C c)) w.heap.size A a ∧ BoxAt (((w.alloc (.cells A a)).alloc (.cells B b)).alloc (.cells C c)) (w.heap.size + 1) B b ∧ BoxAt (((w.alloc (.cells A a)).alloc (.cells B b)).alloc (.cells C c)) (w.heap.size + 1 + 1) C c ∧ Ext w (((w.alloc (.cells A a)).alloc (.cells B b)).alloc (.cells C c)) := by
  obtain ⟨h1, h2, h3⟩ := boxes2 w A B a b
  exact ⟨h1.ext ((Ext.refl _).alloc _), h2.ext ((Ext.refl _).alloc _), BoxAt.madeN C c (by rw [Deep.nblk_alloc, Deep.nblk_alloc]), h3.alloc _⟩
theorem boxes4 (w : World) (A B C D : Array Value) (a b c d : TypeId) :
    BoxAt ((((w.alloc (.cells A a)).alloc (.cells B b)).alloc (.cells C c)).alloc (.cells D d)) w.heap.size A a ∧ BoxAt ((((w.alloc (.cells A a)).alloc (.cells B b)).alloc (.cells C c)).alloc (.cells D d)) (w.heap.size + 1) B b ∧ BoxAt ((((w.alloc (.cells A a)).alloc (.cells B b)).alloc (.cells C c)).alloc (.cells D d)) (w.heap.size + 1 + 1) C c ∧ BoxAt ((((w.alloc (.cells A a)).alloc (.cells B b)).alloc (.cells C c)).alloc (.cells D d)) (w.heap.size + 1 + 1 + 1) D d ∧ Ext w ((((w.alloc (.cells A a)).alloc (.cells B b)).alloc (.cells C c)).alloc (.cells D d)) := by
  obtain ⟨h1, h2, h3, h4⟩ := boxes3 w A B C a b c
  exact ⟨h1.ext ((Ext.refl _).alloc _), h2.ext ((Ext.refl _).alloc _), h3.ext ((Ext.refl _).alloc _), BoxAt.madeN D d (by rw [Deep.nblk_alloc, Deep.nblk_alloc, Deep.nblk_alloc]), h4.alloc _⟩
theorem boxes5 (w : World) (A B C D F : Array Value) (a b c d f : TypeId) :
    BoxAt (((((w.alloc (.cells A a)).alloc (.cells B b)).alloc (.cells C c)).alloc (.cells D d)).alloc (.cells F f)) w.heap.size A a ∧ BoxAt (((((w.alloc (.cells A a)).alloc (.cells B b)).alloc (.cells C c)).alloc (.cells D d)).alloc (.cells F f)) (w.heap.size + 1) B b ∧ BoxAt (((((w.alloc (.cells A a)).alloc (.cells B b)).alloc (.cells C c)).alloc (.cells D d)).alloc (.cells F f)) (w.heap.size + 1 + 1) C c ∧ BoxAt (((((w.alloc (.cells A a)).alloc (.cells B b)).alloc (.cells C c)).alloc (.cells D d)).alloc (.cells F f)) (w.heap.size + 1 + 1 + 1) D d ∧ BoxAt (((((w.alloc (.cells A a)).alloc (.cells B b)).alloc (.cells C c)).alloc (.cells D d)).alloc (.cells F f)) (w.heap.size + 1 + 1 + 1 + 1) F f ∧ Ext w (((((w.alloc (.cells A a)).alloc (.cells B b)).alloc (.cells C c)).alloc (.cells D d)).alloc (.cells F f)) := by
  obtain ⟨h1, h2, h3, h4, h5⟩ := boxes4 w A B C D a b c d
  exact ⟨h1.ext ((Ext.refl _).alloc _), h2.ext ((Ext.refl _).alloc _), h3.ext ((Ext.refl _).alloc _), h4.ext ((Ext.refl _).alloc _), BoxAt.madeN F f (by rw [Deep.nblk_alloc, Deep.nblk_alloc, Deep.nblk_alloc, Deep.nblk_alloc]), h5.alloc _⟩
theorem BoxAt.allocs {w : World} {p : Nat} {cs : Array Value} {e : TypeId} (h : BoxAt w p cs e) : ∀ o i, (w.alloc o).cell? ⟨p, i, none⟩ = cs[i]? := fun o i => (h.ext ((Ext.refl w).alloc o)).cell i
theorem BoxAt.frees {w : World} {p : Nat} {cs : Array Value} {e : TypeId} (h : BoxAt w p cs e) : ∀ o i, (w.alloc o).frozen? ⟨p, i, none⟩ = false := fun o i => (h.ext ((Ext.refl w).alloc o)).free i
theorem cell_grown {w w' : World} {g b i : Nat} {u : Value} (hg : w.grownBy w' (some g)) (hne : b ≠ g) (h : w.cell? ⟨b, i, none⟩ = some u) : w'.cell? ⟨b, i, none⟩ = some u := by
  have hl := World.block_lt_of_cell? w _ h
  have hb := hg.block b hl (fun e => hne (Option.some.inj e))
  simp only [World.cell?] at h ⊢
  rw [hb]
  exact h
theorem SliceIn.grown {w w' : World} {g b o n c : Nat} {xs : List Value} (hg : w.grownBy w' (some g)) (hne : b ≠ g) (h : SliceIn w (.slice (some ⟨b, o, none⟩) n c) n xs) : SliceIn w' (.slice (some ⟨b, o, none⟩) n c) n xs := by
  obtain ⟨a, c', e, h2, h3, h4, h6⟩ := h
  cases e
  exact ⟨_, _, rfl, h2, h3, h4, fun j u hj => let ⟨b', o', e, hc⟩ := h6 j u hj; ⟨b', o', e, by cases e; exact cell_grown hg hne hc⟩⟩

/-- A store of a whole variable: what is known of the world behind it. -/
theorem storeBox {P : Program} {ops : Array Oper} {rest : List Oper} {o : Oper} {a : Act} {w : World} {Q : Exit → Act → World → Prop} (hgd : o.guard = none) (ty : TypeId) (x y : Operand) (ho : o.op = .store ty x y)
    (g : Nat) (cells old : Array Value) (t : TypeId) (hx : a.eval x = .pointer (some ⟨g, 0, none⟩)) (hy : a.eval y = .agg cells)
    (hg : BoxAt w g old t) (hi : (P.info? ty).map (·.size) = some cells.size) (hold : old.size = cells.size) (h1 : cells.all (·.oneCell') = true)
    (hK : ∀ w', BoxAt w' g cells t → w.grownBy w' (some g) → wpList P ops Q rest (a.put o.dst undef) w') : wpList P ops Q (o :: rest) a w :=
  wpList_store_row hgd ty x y ho g cells hx hy t old hg hi hold h1 (hK _ (setRow_heap w g old cells t (0, 0) hg) ⟨rfl, rfl, rfl, by simp [World.setRow], fun k _ hne => setRow_other w g k cells (fun e => hne (by rw [e]))⟩)

/-- How many elements a slice has. -/
def lenOf : Value → Nat
  | .slice _ n _ => n
  | _ => 0
end Go.Proofs.YtfagnbofnaoncaaGreatDoor

/- Package pack at partitions without rows: part.Check, whole, Part; clerestorylaw09.awake's first half. -/
namespace Go.Proofs.YtfagnbofnaoncaaGreatDoor
open Go Go.RowKit
attribute [local go_sem] yields yUpon

theorem ownB_shape {w : World} {B : Nat} {v : Value} {l : List UInt8} (h : OwnB w B v l) : ∃ a c, v = .slice a l.length c := by
  rcases h.2 with ⟨rfl, h0⟩ | ⟨g, cap, cur, rfl, _⟩
  · exact ⟨none, 0, by rw [h0]⟩
  · exact ⟨_, cap, rfl⟩
/-- May a partition without rows be? -/
def chk0 (k : ByteArray) (g : Int) : Bool := decide (k.size ≤ 100) && decide (0 ≤ g) && decide (g ≤ 1099511627776)
set_option maxHeartbeats 1000000 in
theorem check0_ok (k : ByteArray) (g : Int) (hk : k.size ≤ 100) (h0 : 0 ≤ g) (h1 : g ≤ 1099511627776) (w : World) :
    Calls Tryz.prog 50 #[.agg #[.string k, .int .i64 g, .slice none 0 0]] w fun e w' => e = .returned (.bool true) ∧ Ext w w' := by
  have t1 : ¬ (100 : Int) < (k.size : Int) := by omega
  have t2 : ¬ g < 0 := by omega
  have t3 : ¬ 1099511627776 < g := by omega
  go_enter Tryz.func50, Tryz.ntmps50
  go_wp2
  go_loopw [28] (fun i wr => i = .int .i64 0 ∧ Ext w wr) (fun _ _ => 0)
  case atStart => exact ⟨rfl, (Ext.refl w).alloc _⟩
  case round =>
    obtain ⟨rfl, hE⟩ := hrel
    go_wp2_with fail
    go_ret
    exact ⟨rfl, hE⟩
set_option maxHeartbeats 1000000 in
theorem check0_no (k : ByteArray) (g : Int) (hk : k.size ≤ 100) (h0 : g < 0) (w : World) :
    Calls Tryz.prog 50 #[.agg #[.string k, .int .i64 g, .slice none 0 0]] w fun e w' => e = .returned (.bool false) ∧ Ext w w' := by
  have t1 : ¬ (100 : Int) < (k.size : Int) := by omega
  go_enter Tryz.func50, Tryz.ntmps50
  go_wp2
  go_ret
  exact ⟨rfl, (Ext.refl w).alloc _⟩

def whole0 (k : ByteArray) (g : Nat) : List UInt8 := num k.size ++ k.data.toList ++ num g ++ num 0
set_option maxHeartbeats 2000000 in
theorem whole0_any (k : ByteArray) (g : Nat) (hk : k.size ≤ 100) (hg : g ≤ 1099511627776) (w : World) :
    Calls Tryz.prog 224 #[.agg #[.string k, .int .i64 (g : Int), .slice none 0 0]] w fun e w' => ∃ v', e = .returned v' ∧ OwnB w' w.heap.size v' (whole0 k g) ∧ Ext w w' := by
  have hE0 := (Ext.refl w).alloc (.cells #[.string k, .int .i64 (g : Int), .slice none 0 0] 50)
  have hbx := BoxAt.made w #[.string k, .int .i64 (g : Int), .slice none 0 0] 50
  have l1 := num_length (x := k.size) (by omega)
  have l2 := num_length (x := g) (by omega)
  have lk : k.data.toList.length = k.size := by rw [Array.length_toList]; rfl
  obtain ⟨B1, hB1⟩ : ∃ B, B = num k.size ++ k.data.toList := ⟨_, rfl⟩
  obtain ⟨B2, hB2⟩ : ∃ B, B = B1 ++ num g := ⟨_, rfl⟩
  obtain ⟨B3, hB3⟩ : ∃ B, B = B2 ++ num 0 := ⟨_, rfl⟩
  have m1 : B1.length ≤ 200 := by rw [hB1, List.length_append]; omega
  have m2 : B2.length ≤ 300 := by rw [hB2, List.length_append]; omega
  have HW : Hid (whole0 k g = B3) := Lib.hid (by rw [hB3, hB2, hB1]; rfl)
  have H1 := Lib.hid hB1
  have H2 := Lib.hid hB2
  have H3 := Lib.hid hB3
  rw [HW.out]
  clear hB1 hB2 hB3 l1 l2 lk
  go_enter Tryz.func224, Tryz.ntmps224
  go_wp2
  refine wp_region_tab 11 [(2, fun v x => OwnB x w.heap.size v B1), (5, fun v x => OwnB x w.heap.size v B2), (9, fun v x => OwnB x w.heap.size v B3)] (by kernel_rfl) (by kernel_rfl) (by kernel_rfl) ⟨fun _ _ _ hE h => h.ext hE, fun _ _ _ hE h => h.ext hE, fun _ _ _ hE h => h.ext hE, trivial⟩ ?_
  have c0 := held (show (w.alloc (.cells #[.string k, .int .i64 (g : Int), .slice none 0 0] 50)).cell? ⟨w.heap.size, 0, none⟩ = some (.string k) from hbx.cell 0)
  have c1 := held (show (w.alloc (.cells #[.string k, .int .i64 (g : Int), .slice none 0 0] 50)).cell? ⟨w.heap.size, 1, none⟩ = some (.int .i64 (g : Int)) from hbx.cell 1)
  have c2 := held (show (w.alloc (.cells #[.string k, .int .i64 (g : Int), .slice none 0 0] 50)).cell? ⟨w.heap.size, 2, none⟩ = some (.slice none 0 0) from hbx.cell 2)
  refine rg_quiet rfl rfl rfl rfl ?_; intro K hK; go_big_quiet_op; go_big_quiet_on
  refine rg_quiet rfl rfl rfl rfl ?_; intro K hK; go_big_quiet_op; go_big_quiet_on
  refine rg_fact [] rfl rfl rfl (by kernel_rfl) (fun y hE hf => ?_) (fun v2 y2 hE2 hG2 h2 => ?_)
  · go_simp
    refine (pk_text (.slice none 0 0) [] k (by omega) y (SliceIn.nil y) (by simp)).mono ?_
    rintro e w' ⟨v', rfl, ho, hw⟩
    exact ⟨_, rfl, rg_doneR hE hw (by rw [H1.out]; exact ho.base (hE0.trans hE).le)⟩
  obtain ⟨a2, n2, rfl⟩ := ownB_shape h2
  clear hE2 hG2 h2
  simp only [Act.put, List.setIfInBounds_toArray, List.set_cons_zero, List.set_cons_succ]
  refine rg_quiet rfl rfl rfl rfl ?_; intro K hK; go_big_quiet_op; go_big_quiet_on
  refine rg_quiet rfl rfl rfl rfl ?_; intro K hK; go_big_quiet_op; go_big_quiet_on
  refine rg_fact [2] rfl rfl rfl (by kernel_rfl) (fun y hE hf => ?_) (fun v5 y5 hE5 hG5 h5 => ?_)
  · have h2 := (hf 2 (by simp)).2 rfl
    go_simp
    refine (pk_number _ B1 (g : Int) (by omega) (by omega) y (OwnB.bytes h2) (by omega)).mono ?_
    rintro e w' ⟨v', rfl, ho, hw⟩
    exact ⟨_, rfl, rg_doneR hE hw (by rw [H2.out]; exact ho.base (hE0.trans hE).le)⟩
  obtain ⟨a5, n5, rfl⟩ := ownB_shape h5
  clear hE5 hG5 h5
  simp only [Act.put, List.setIfInBounds_toArray, List.set_cons_zero, List.set_cons_succ]
  refine rg_quiet rfl rfl rfl rfl ?_; intro K hK; go_big_quiet_op; go_big_quiet_on
  refine rg_quiet rfl rfl rfl rfl ?_; intro K hK; go_big_quiet_op; go_big_quiet_on
  refine rg_quiet rfl rfl rfl rfl ?_; intro K hK; go_big_quiet_op; go_big_quiet_on
  refine rg_fact [5] rfl rfl rfl (by kernel_rfl) (fun y hE hf => ?_) (fun v9 y9 hE9 hG9 h9 => ?_)
  · have h5 := (hf 5 (by simp)).2 rfl
    go_simp
    refine (pk_number _ B2 0 (by omega) (by omega) y (OwnB.bytes h5) (by omega)).mono ?_
    rintro e w' ⟨v', rfl, ho, hw⟩
    exact ⟨_, rfl, rg_doneR hE hw (by rw [H3.out]; exact ho.base (hE0.trans hE).le)⟩
  obtain ⟨a9, n9, rfl⟩ := ownB_shape h9
  clear hE9 hG9 h9
  simp only [Act.put, List.setIfInBounds_toArray, List.set_cons_zero, List.set_cons_succ]
  refine rg_quiet rfl rfl rfl rfl ?_; intro K hK; go_big_quiet_op; go_big_quiet_on
  refine rel_nil fun w2 hE2 hG => ?_
  have h9 := (hG 9).2 rfl
  have hb2 := hbx.ext hE2
  have hEw := hE0.trans hE2
  clear c0 c1 c2 hG
  have c2 : w2.cell? ⟨w.heap.size, 2, none⟩ = some (.slice none 0 0) := hb2.cell 2
  go_wp2_with fail
  go_loopw [3, 19] (fun b i wr => b = .slice a9 B3.length n9 ∧ i = .int .i64 0 ∧ Ext w2 wr) (fun _ _ _ => 0)
  case atStart => exact ⟨rfl, rfl, Ext.refl w2⟩
  case round =>
    obtain ⟨rfl, rfl, hE⟩ := hrel
    go_wp2_with fail
    go_ret
    exact ⟨_, rfl, OwnB.ext h9 hE, hEw.trans hE⟩

set_option maxHeartbeats 1000000 in
theorem part0_any (k : ByteArray) (hk : k.size ≤ 100) (w : World) :
    Calls Tryz.prog 221 #[.agg #[.string k, .int .i64 0, .slice none 0 0]] w fun e w' => ∃ v', e = .returned (.tuple #[v', .int .i64 0]) ∧ OwnB w' w.heap.size v' (whole0 k 0) ∧ Ext w w' := by
  have hE0 := (Ext.refl w).alloc (.cells #[.string k, .int .i64 0, .slice none 0 0] 50)
  have hbx := BoxAt.made w #[.string k, .int .i64 0, .slice none 0 0] 50
  have l1 := num_length (x := k.size) (by omega)
  have l2 := num_length (x := 0) (by omega)
  have lk : k.data.toList.length = k.size := by rw [Array.length_toList]; rfl
  obtain ⟨L, hL⟩ : ∃ L, L = whole0 k 0 := ⟨_, rfl⟩
  have hLl : L.length ≤ 200 := by rw [hL]; unfold whole0; simp only [List.length_append]; omega
  have HL := Lib.hid hL
  rw [← hL]
  clear hL l1 l2 lk
  go_enter Tryz.func221, Tryz.ntmps221
  go_wp2_with (first
    | (go_at_call 50; go_must (refine (check0_ok k 0 hk (by omega) (by omega) _).mono ?_); rintro e w1 ⟨rfl, hE1⟩; have hb1 := hbx.ext hE1; have c0 : w1.cell? ⟨w.heap.size, 0, none⟩ = some (.string k) := hb1.cell 0; have c1 : w1.cell? ⟨w.heap.size, 1, none⟩ = some (.int .i64 0) := hb1.cell 1; have c2 : w1.cell? ⟨w.heap.size, 2, none⟩ = some (.slice none 0 0) := hb1.cell 2)
    | (go_at_call 224; go_must (refine (whole0_any k 0 hk (by omega) _).mono ?_); rintro e w2 ⟨v2, rfl, ho2, hE2⟩; rw [← HL.out] at ho2; have ho2' := ho2; obtain ⟨a2, n2, rfl⟩ := ownB_shape ho2'))
  go_ret2
  exact ⟨_, rfl, OwnB.base ho2 (hE0.trans hE1).le, (hE0.trans hE1).trans hE2⟩
end Go.Proofs.YtfagnbofnaoncaaGreatDoor
