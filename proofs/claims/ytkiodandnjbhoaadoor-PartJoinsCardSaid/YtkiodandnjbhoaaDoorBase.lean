/- Small laws on worlds that grow, on slices that read as lists, and the steps of the walk over a region that draws its order. -/
import Derived.Test.YtkiodandnjbhoaaDoorRegion
import Derived.WalkKit
import Derived.WalkSpells
import Derived.WalkLawsBesides
import Derived.Lib.Hide
import Derived.Lib.QuietBelow
namespace Go.Proofs.YtkiodandnjbhoaaDoor
open Go Go.RowKit

/-! ### A world that has grown -/
def Ext (w w' : World) : Prop := Below w.heap.size w w'

theorem Ext.refl (w : World) : Ext w w := Below.refl _ _
theorem Ext.trans {a b c : World} (h : Ext a b) (k : Ext b c) : Ext a c := Below.trans h (Below.mono k h.size)
theorem Ext.alloc {a w : World} (h : Ext a w) (o : Obj) : Ext a (w.alloc o) := Below.alloc h h.size o
theorem Ext.drew {a w : World} (h : Ext a w) : Ext a w.drew := Below.drew h
theorem Ext.drewN {a w : World} (h : Ext a w) (n : Nat) : Ext a (w.drewN n) := ⟨h.os, h.tape, h.output, h.size, h.block⟩
theorem Ext.setCell {a w : World} (h : Ext a w) {p : Addr} (hp : a.heap.size ≤ p.block) (u : Value) : Ext a (w.setCell p u) := Below.setCell h hp u
theorem Ext.le {a w : World} (h : Ext a w) : a.heap.size ≤ w.heap.size := Below.size h
theorem Ext.cell {a w : World} (h : Ext a w) {p : Addr} {v : Value} (hc : a.cell? p = some v) : w.cell? p = some v := (Below.cell h (World.block_lt_of_cell? a p hc)).trans hc
theorem Ext.cells {a w : World} (h : Ext a w) : ∀ b o, b < a.heap.size → w.cell? ⟨b, o, none⟩ = a.cell? ⟨b, o, none⟩ := fun b o hb => Below.cell h (p := ⟨b, o, none⟩) hb
theorem Ext.frozens {a w : World} (h : Ext a w) : ∀ b o, b < a.heap.size → w.frozen? ⟨b, o, none⟩ = a.frozen? ⟨b, o, none⟩ := fun b o hb => Below.frozen h (p := ⟨b, o, none⟩) hb
theorem Ext.grown {a w w' : World} {row : Option Nat} (h : Ext a w) (hg : w.grownBy w' row) (hr : ∀ k, row = some k → a.heap.size ≤ k) : Ext a w' := Below.grown h hg h.size hr
theorem Ext.below {a w : World} (h : Ext a w) : Below a.heap.size a w := h
theorem Ext.of_below {a w : World} (h : Below a.heap.size a w) : Ext a w := h

/-! ### A slice that reads as a list of cells -/
/-- v is a slice of n elements, its cells (those of all elements, one behind the other) are xs. -/
def SliceIn (w : World) (v : Value) (n : Nat) (xs : List Value) : Prop :=
  ∃ a c, v = .slice a n c ∧ n ≤ c ∧ c ≤ maxLen ∧ (a = none → c = 0) ∧ ∀ j u, xs[j]? = some u → ∃ b o, a = some ⟨b, o, none⟩ ∧ w.cell? ⟨b, o + j, none⟩ = some u

theorem SliceIn.nil (w : World) : SliceIn w (.slice none 0 0) 0 [] := ⟨none, 0, rfl, Nat.le_refl _, Nat.zero_le _, fun _ => rfl, fun j u h => by simp at h⟩

theorem SliceIn.ext {w w' : World} (hE : Ext w w') {v : Value} {n : Nat} {xs : List Value} (h : SliceIn w v n xs) : SliceIn w' v n xs := by
  obtain ⟨a, c, h1, h2, h3, h4, h6⟩ := h
  exact ⟨a, c, h1, h2, h3, h4, fun j u hj => let ⟨b, o, e, hc⟩ := h6 j u hj; ⟨b, o, e, hE.cell hc⟩⟩

theorem SliceIn.made (w : World) (cs : Array Value) (e : TypeId) (n : Nat) (h : n ≤ maxLen) : SliceIn (w.alloc (.cells cs e)) (.slice (some ⟨w.heap.size, 0, none⟩) n n) n cs.toList :=
  ⟨_, n, rfl, Nat.le_refl _, h, nofun, fun j u hj => ⟨w.heap.size, 0, rfl, by
    rw [Nat.zero_add, cell_of_row _ w.heap.size j cs e (0, 0) (heap_alloc_new w _)]
    simpa using hj⟩⟩

theorem SliceIn.of_owns {w : World} {base : Nat} {e : TypeId} {size : Nat} {v : Value} {n : Nat} {xs : List Value} (h : w.ownsRow base e size v n xs) : SliceIn w v n xs := by
  obtain ⟨hl, h⟩ := h
  rcases h with ⟨rfl, rfl⟩ | ⟨g, cap, cur, rfl, _, hg, hn, hm, hs, ht⟩
  · obtain rfl : xs = [] := List.eq_nil_of_length_eq_zero (by simpa using hl)
    exact SliceIn.nil w
  · refine ⟨_, cap, rfl, hn, hm, nofun, fun j u hj => ⟨g, 0, rfl, ?_⟩⟩
    rw [Nat.zero_add, cell_of_row w g j cur e (0, 0) hg]
    rw [← ht, List.getElem?_take] at hj
    split at hj
    · simpa using hj
    · cases hj

/-- The cells of a list of bytes. -/
def bcells (l : List UInt8) : List Value := l.map fun b => Value.int .u8 (b.toNat : Int)
@[simp] theorem bcells_length (l : List UInt8) : (bcells l).length = l.length := by simp [bcells]
@[simp] theorem bcells_append (l m : List UInt8) : bcells (l ++ m) = bcells l ++ bcells m := by simp [bcells]
@[simp] theorem bcells_nil : bcells [] = [] := rfl

/-- v is a slice of bytes that reads as l. -/
def BytesIn (w : World) (v : Value) (l : List UInt8) : Prop := SliceIn w v l.length (bcells l)

theorem BytesIn.ext {w w' : World} (hE : Ext w w') {v : Value} {l : List UInt8} (h : BytesIn w v l) : BytesIn w' v l := SliceIn.ext hE h

/-- The string of a list of bytes. -/
def str (l : List UInt8) : ByteArray := ⟨l.toArray⟩
@[simp] theorem str_toList (l : List UInt8) : (str l).data.toList = l := rfl
@[simp] theorem str_list (l : List UInt8) : (str l).toList = l := by rw [ByteArray.toList_eq]; rfl
theorem str_take (l : List UInt8) (n : Nat) : ((str l).extract 0 n).toList = l.take n := by
  rw [ByteArray.toList_eq, ByteArray.data_extract]
  simp [str]
@[simp] theorem str_size (l : List UInt8) : (str l).size = l.length := by simp [str, ByteArray.size]

theorem run_convert_bytesIn {P : Program} (w : World) (src dst e : TypeId) (hs : P.underlying src = some (.slice e)) (he : P.underlying e = some (.int .u8)) (hd : P.underlying dst = some .string)
    {v : Value} {l : List UInt8} (h : BytesIn w v l) : (convert src dst v).run P w = .ok (.string (str l)) w := by
  obtain ⟨a, c, rfl, h2, h3, h4, h6⟩ := h
  rw [run_convert_bytes_string w src dst e _ _ c hs he hd]
  cases a with
  | none =>
    have hl : l = [] := List.eq_nil_of_length_eq_zero (by have := h4 rfl; omega)
    subst hl
    simp [Conv.bytesToString]
    rfl
  | some ad =>
    have hl : (loadCells ad l.length).run P w = .ok (bcells l).toArray w := by
      have := run_loadCells_list (P := P) w ad (bcells l) (fun j v hj => by
        obtain ⟨b, o, e', hc⟩ := h6 j v hj
        cases e'
        rw [Addr.add_lit]
        exact hc)
      simpa using this
    have e1 : bcells l = (l.map fun b => (b.toNat : Int)).map (Value.int .u8) := by simp [bcells]
    rw [e1] at hl
    rw [run_bytesToString w _ _ c _ hl, foldl_push_bytes]
    have e2 : ((l.map fun b => (b.toNat : Int)).map fun n => UInt8.ofNat n.toNat) = l := by
      rw [List.map_map]
      conv => rhs; rw [← List.map_id l]
      refine List.map_congr_left fun b _ => ?_
      simp
    rw [e2]
    simp [str, ByteArray.empty, ByteArray.emptyWithCapacity]
    rfl

theorem wpList_convert_bytes {P : Program} {w : World} {ops : Array Oper} {rest : List Oper} {o : Oper} {a : Act} {Q : Exit → Act → World → Prop} (hw : Region.wanted o (yielded ops a.tmps) = true) (src dst e : TypeId) (x : Operand)
    (ho : o.op = .convert src dst x) (hs : P.underlying src = some (.slice e)) (he : P.underlying e = some (.int .u8)) (hd : P.underlying dst = some .string)
    {l : List UInt8} (h : BytesIn w (a.eval x) l) (hK : wpList P ops Q rest (a.put o.dst (.string (str l))) w) : wpList P ops Q (o :: rest) a w :=
  wpList_step fun K hK' => by
    rw [if_pos hw]
    unfold Oper.wp
    simp only [execOp, ho, Sem.run_bind, run_convert_bytesIn w src dst e hs he hd h, Result.andThen_ok, Sem.run_pure, Oper.upon_value]
    exact hK' _ _ hK

theorem ownsRow_base {w : World} {b b' : Nat} {e : TypeId} {size : Nat} {v : Value} {n : Nat} {xs : List Value} (h : w.ownsRow b e size v n xs) (hb : b' ≤ b) : w.ownsRow b' e size v n xs := by
  obtain ⟨h1, h2⟩ := h
  refine ⟨h1, h2.imp id ?_⟩
  rintro ⟨g, cap, cur, h⟩
  exact ⟨g, cap, cur, h.1, Nat.le_trans hb h.2.1, h.2.2⟩

theorem ownsRow_ext {w w' : World} {b : Nat} {e : TypeId} {size : Nat} {v : Value} {n : Nat} {xs : List Value} (h : w.ownsRow b e size v n xs) (hE : Ext w w') : w'.ownsRow b e size v n xs := by
  obtain ⟨h1, h2⟩ := h
  refine ⟨h1, h2.imp id ?_⟩
  rintro ⟨g, cap, cur, h⟩
  exact ⟨g, cap, cur, h.1, h.2.1, by rw [hE.block g (Array.getElem?_eq_some_iff.1 h.2.2.1).1]; exact h.2.2.1, h.2.2.2⟩

/-- Behind a law on append: an old world that the row does not belong to. -/
theorem Ext.grownOwn {a w w' : World} {b : Nat} {e : TypeId} {size : Nat} {v : Value} {n : Nat} {xs : List Value} (h : Ext a w) (hown : w.ownsRow b e size v n xs) (hb : a.heap.size ≤ b) (hg : w.grownBy w' v.ownBlock) : Ext a w' :=
  h.grown hg fun k hk => Nat.le_trans hb (hown.lt k hk).1

/-- An append to a slice without spare room: a new row. -/
theorem wpList_append_fresh {P : Program} (w : World) {ops : Array Oper} {rest : List Oper} {o : Oper} {a : Act} {Q : Exit → Act → World → Prop}
    (hg : o.guard = none) (s x : Operand) (t : TypeId) (hop : o.op = Op.call { callee := Callee.builtin Builtin.append, args := #[s, x], argTypes := #[t, t] })
    (e : TypeId) (i : TypeInfo) (z : Value) (size bytes : Nat) (h1 : P.underlying t = some (.slice e)) (h2 : P.info? e = some i) (h3 : i.zero = some z) (h4 : i.size = size) (h5 : i.bytes = bytes) (h6 : z.cells.size = size) (h7 : 0 < size)
    (ao : Option Addr) (n : Nat) (olds : List Value) (hs : a.eval s = .slice ao n n) (hin : SliceIn w (.slice ao n n) n olds) (hlo : olds.length = n * size)
    (ad : Addr) (m c : Nat) (news : List Value) (hx : a.eval x = .slice (some ad) m c) (hn : news.length = m * size) (hc : ∀ j u, news[j]? = some u → w.cell? (ad.add j) = some u) (h1c : ∀ u ∈ news, u.oneCell' = true)
    (hm : 0 < m) (b1 : n + m ≤ maxLen) (b2 : (n + m) * bytes ≤ 140737488355328)
    (hK : ∀ v' w', w'.ownsRow w.heap.size e size v' (n + m) (olds ++ news) → w.grownBy w' none → wpList P ops Q rest (a.put o.dst v') w') : wpList P ops Q (o :: rest) a w := by
  obtain ⟨a', c', he, hnc, hcm, hz, hcells⟩ := hin
  cases he
  refine wpList_append_grows w hg s x t hop e i z size bytes h1 h2 h3 h4 h5 h6 h7 ao n n olds hs (fun h => ⟨hz h, hz h⟩) hlo (fun b hb j u hj => ?_) ad m c news hx hn hc h1c (by omega) b1 b2 hK
  obtain ⟨b', o', e', hc'⟩ := hcells j u hj
  rw [hb] at e'
  cases e'
  rw [Addr.add_lit]
  exact hc'

/-- v points to a variable of the call's own, from block B on, that holds these cells. -/
def VarIn (w : World) (B : Nat) (v : Value) (cs : Array Value) (e : TypeId) : Prop := ∃ b, v = .pointer (some ⟨b, 0, none⟩) ∧ B ≤ b ∧ w.heap[b]? = some (.cells cs e (0, 0))
theorem VarIn.ext {w w' : World} (hE : Ext w w') {B : Nat} {v : Value} {cs : Array Value} {e : TypeId} (h : VarIn w B v cs e) : VarIn w' B v cs e := by
  obtain ⟨b, h1, h2, h3⟩ := h
  exact ⟨b, h1, h2, by rw [hE.block b (Array.getElem?_eq_some_iff.1 h3).1]; exact h3⟩
theorem VarIn.made (w : World) (B : Nat) (cs : Array Value) (e : TypeId) (h : B ≤ w.heap.size) : VarIn (w.alloc (.cells cs e)) B (.pointer (some ⟨w.heap.size, 0, none⟩)) cs e :=
  ⟨_, rfl, h, heap_alloc_new w _⟩
theorem var_cell {w : World} {b : Nat} {cs : Array Value} {e : TypeId} (h : w.heap[b]? = some (.cells cs e (0, 0))) (i : Nat) : w.cell? ⟨b, i, none⟩ = cs[i]? := cell_of_row w b i cs e (0, 0) h
theorem var_free {w : World} {b : Nat} {cs : Array Value} {e : TypeId} (h : w.heap[b]? = some (.cells cs e (0, 0))) (i : Nat) : w.frozen? ⟨b, i, none⟩ = false := by
  simp [World.frozen?, h]

theorem Ext.of_eq {a w : World} (h : a = w) : Ext a w := h ▸ Ext.refl a

/-! ### The walk over a region that draws -/
theorem Facts.upd_true (G : Facts) (i : Nat) : G.upd i (fun _ => True) = G := by
  funext k w
  simp [Facts.upd]

/-- A table of facts: of the value of operation i. -/
abbrev Tab := List (Nat × (Value → World → Prop))
def Tab.at : Tab → Nat → Option (Value → World → Prop)
  | [], _ => none
  | (i, φ) :: L, k => if i = k then some φ else Tab.at L k
def Stays (Φ : Value → World → Prop) : Prop := ∀ v w w', Ext w w' → Φ v w → Φ v w'
def TabOK : Tab → Prop
  | [] => True
  | (_, φ) :: L => Stays φ ∧ TabOK L
theorem Tab.stays {L : Tab} (h : TabOK L) : ∀ i Φ, L.at i = some Φ → ∀ v w w', Ext w w' → Φ v w → Φ v w' := by
  induction L with
  | nil => intro i Φ hi; cases hi
  | cons p L ih =>
    obtain ⟨k, φ⟩ := p
    intro i Φ hi
    simp only [Tab.at] at hi
    split at hi
    · cases hi; exact h.1
    · exact ih h.2 i Φ hi
theorem stays_eq (u : Value) : Stays (fun v _ => v = u) := fun _ _ _ _ h => h
theorem stays_bytes (l : List UInt8) : Stays (fun v w => BytesIn w v l) := fun _ _ _ hE h => h.ext hE
theorem stays_var (B : Nat) (cs : Array Value) (e : TypeId) : Stays (fun v w => VarIn w B v cs e) := fun _ _ _ hE h => h.ext hE
theorem stays_slice (n : Nat) (l : List Value) : Stays (fun v w => SliceIn w v n l) := fun _ _ _ hE h => h.ext hE

theorem wp_region_tab {P : Program} {id : Nat} {Q' : Exit → Act → World → Prop} {a : Act} {w : World} {l : List Oper} (n : Nat) (L : Tab) (hn : tailB l.toArray n = true) (hm : P.follows .mixedOrders = true) (hB : Region.lexB .any l.toArray = true)
    (hT : TabOK L)
    (h : wpRel P l.toArray (Ext w) Ext L.at n Q' l 0 a Facts.top) : (Code.region id l.toArray true).wp P Q' a w :=
  wp_region_rel (Ext w) Ext L.at (Tab.stays hT) n hn hm hB (Ext.refl w).drew h

/-- The same, the world in which the region begins under a name: 'F' is what is known of it. -/
theorem wp_region_in {P : Program} {id : Nat} {Q' : Exit → Act → World → Prop} {a : Act} {w : World} {l : List Oper} (n : Nat) (L : Tab) (F : World → Prop) (hn : tailB l.toArray n = true) (hm : P.follows .mixedOrders = true) (hB : Region.lexB .any l.toArray = true)
    (hT : TabOK L) (hF : F w)
    (h : ∀ w0, F w0 → wpRel P l.toArray (Ext w0) Ext L.at n Q' l 0 a Facts.top) : (Code.region id l.toArray true).wp P Q' a w :=
  wp_region_tab n L hn hm hB hT (h w hF)

/-- A cell of the world in which the region began, wherever it is read in the region. -/
theorem held {w : World} {a : Addr} {v : Value} (h : w.cell? a = some v) : ∀ p : Regrown, (Go.Sort.grow (redrawn w p.d) p.os).cell? a = some v := fun p => cell_regrown h p.d p.os

/-- An operation that hands back a value and enters no function. -/
def noEnter : Op → Bool
  | .move _ | .assign _ | .pick .. | .build .. | .load .. | .binOp .. | .unOp .. | .convert .. | .slice .. | .fieldAddr .. | .field .. | .indexAddr .. | .index .. | .extract .. | .makeInterface .. => true
  | .call c => match c.callee with | .builtin .len | .builtin .cap | .builtin .max | .builtin .min => true | _ => false
  | _ => false

theorem run_value_ne {P : Program} {s : Sem Value} {w : World} {f : FuncId} {args : Array Value} {w' : World} : ((do pure (Next.value (← s))) : Sem Next).run P w ≠ .ok (.enter f args) w' := by
  rw [Sem.run_bind]
  cases h : s.run P w with
  | ok v w1 => simp [Result.andThen, Sem.run_pure]
  | halt x w1 => simp [Result.andThen]

theorem andThen_value_ne {s : Result Value} {f : FuncId} {args : Array Value} {w' : World} : s.andThen (fun v w => Result.ok (Next.value v) w) ≠ .ok (.enter f args) w' := by
  cases s <;> simp [Result.andThen]
theorem andThen_pick_ne {s : Result Bool} {x y : Value} {f : FuncId} {args : Array Value} {w' : World} : s.andThen (fun v w => Result.ok (Next.value (if v = true then x else y)) w) ≠ .ok (.enter f args) w' := by
  cases s <;> simp [Result.andThen]

theorem noEnter_run {P : Program} {o : Oper} {a : Act} {w : World} (h : noEnter o.op = true) : ∀ f args w', (execOp a.eval o).run P w ≠ .ok (.enter f args) w' := by
  intro f args w'
  obtain ⟨dst, op, type, pos, after, guard⟩ := o
  cases op <;> simp only [noEnter, Bool.false_eq_true] at h <;> simp only [execOp] <;> first | exact run_value_ne | (simp [Sem.run_pure]; done) | skip
  case pick => simp only [Sem.run_bind, Sem.run_pure]; exact andThen_pick_ne
  case call c =>
    obtain ⟨callee, args, argTypes⟩ := c
    cases callee with
    | builtin b => cases b <;> simp only [Bool.false_eq_true] at h <;> (simp only [resolve, invoke, builtin, Sem.run_bind, Sem.run_pure, Result.andThen_ok]; exact andThen_value_ne)
    | value f => simp at h
    | invoke r m => simp at h

section
variable {P : Program} {ops : Array Oper} {C : World → Prop} {E : World → World → Prop} {T : Nat → Option (Value → World → Prop)} {n : Nat} {Q : Exit → Act → World → Prop} {o : Oper} {rest : List Oper} {k : Nat} {a : Act} {G : Facts}

theorem rel_nil (h : ∀ w, C w → (∀ j, G j w) → Q .normal a w) : wpRel P ops C E T n Q [] k a G := h

theorem rel_step (hkn : (k == n) = false) (h : rStep P ops C E T k o (wpRel P ops C E T n Q rest (k + 1)) a G) : wpRel P ops C E T n Q (o :: rest) k a G := by
  have : k ≠ n := by simpa using hkn
  unfold wpRel
  rw [if_neg this]
  exact h

/-- The last operation, by any law. -/
theorem rel_tail (hkn : (k == n) = true) (ho : ops[k]? = some o) (h : ∀ w, C w → (∀ j, G j w) → wpList P ops Q (o :: rest) a w) : wpRel P ops C E T n Q (o :: rest) k a G := by
  have : k = n := by simpa using hkn
  unfold wpRel
  rw [if_pos this]
  exact h

theorem rel_skip (hkn : (k == n) = false) (hw : Region.wanted o (yielded ops a.tmps) = false) (h : wpRel P ops C E T n Q rest (k + 1) (a.put o.dst undef) G) : wpRel P ops C E T n Q (o :: rest) k a G :=
  rel_step hkn ⟨(· = undef), fun _ _ => True, .inl ⟨hw, rfl, rfl⟩, fun v hv _ => by subst hv; rw [Facts.upd_true]; exact h⟩

theorem rel_quiet (need : List Nat) (hkn : (k == n) = false) (hw : Region.wanted o (yielded ops a.tmps) = true) (hT : T k = none) (hne : noEnter o.op = true) (hn : need.all (ancB ops 4 k) = true)
    (h : ∀ K : Act → Prop, (∀ a, wpRel P ops C E T n Q rest (k + 1) a G → K a) → o.quiet P a (fun w => C w ∧ ∀ j ∈ need, G j w) K) : wpRel P ops C E T n Q (o :: rest) k a G := by
  obtain ⟨v, hq, hr⟩ := h _ (fun _ h => h)
  refine rel_step hkn ⟨(· = v), fun _ _ => True, .inr ⟨hw, need, hn, .inl ⟨hT, v, fun w hC hf => ?_, rfl, rfl⟩⟩, fun u hu _ => by subst hu; rw [Facts.upd_true]; exact hr⟩
  have := hq w ⟨hC, hf⟩
  unfold Oper.quietAt at *
  have hno := noEnter_run (P := P) (a := a) (w := w) hne
  generalize (execOp a.eval o).run P w = r at *
  cases r with
  | ok n w' => cases n <;> simp only [Oper.quietUpon] at this ⊢ <;> first | exact this | exact absurd rfl (hno _ _ _)
  | halt x w' => exact this

theorem rel_call (need : List Nat) (Φ : Value → World → Prop) (hkn : (k == n) = false) (hw : Region.wanted o (yielded ops a.tmps) = true) (hT : T k = some Φ) (hn : need.all (ancB ops 4 k) = true)
    (h : ∀ w, C w → (∀ j ∈ need, G j w) → yields P o a w fun u w' => C w' ∧ E w w' ∧ Φ u w')
    (hk : ∀ v w, C w → (∀ j, G j w) → Φ v w → wpRel P ops C E T n Q rest (k + 1) (a.put o.dst v) (G.upd k (Φ v))) : wpRel P ops C E T n Q (o :: rest) k a G :=
  rel_step hkn ⟨fun _ => True, Φ, .inr ⟨hw, need, hn, .inr ⟨Φ, hT, h, rfl, rfl⟩⟩, fun v _ ⟨w, hC, hf⟩ => hk v w hC (fun j => (hf j).1) ((hf k).2 rfl)⟩

theorem Facts.get {G : Facts} {i : Nat} {φ : World → Prop} {w : World} (h : (G.upd i φ) i w) : φ w := h.2 rfl

/-- A reading of a slice of bytes as a text, as the region's walk meets it. -/
theorem yields_convert_bytes {w : World} {R : Value → World → Prop} (src dst e : TypeId) (x : Operand) (ho : o.op = .convert src dst x) (hs : P.underlying src = some (.slice e)) (he : P.underlying e = some (.int .u8)) (hd : P.underlying dst = some .string)
    {l : List UInt8} (h : BytesIn w (a.eval x) l) (hR : R (.string (str l)) w) : yields P o a w R := by
  unfold yields
  simp only [execOp, ho, Sem.run_bind, run_convert_bytesIn w src dst e hs he hd h, Result.andThen_ok, Sem.run_pure, yUpon]
  exact hR

/-- A call of a Go function, as the region's walk meets it. -/
theorem yields_calls {f : FuncId} {fn : Func} {args : Array Operand} {ts : Array TypeId} {w : World} {R : Value → World → Prop} (ho : o.op = .call { callee := .value (.func f), args := args, argTypes := ts })
    (hf : P.funcs[f]? = some fn) (hb : fn.body.isSome = true) (hnm : (fn.name == "runtime.NumGoroutine") = false) (h : Calls P f (args.map a.eval) w fun e w'' => ∃ v, e = .returned v ∧ R v w'') : yields P o a w R := by
  unfold yields
  have h1 : ¬ fn.name = "runtime.NumGoroutine" := by simpa using hnm
  have h2 : ¬ fn.body = none := by cases hx : fn.body <;> simp_all
  have hr : (execOp a.eval o).run P w = .ok (.enter f (args.map a.eval)) w := by
    unfold execOp
    simp [ho, resolve, Deferred.ofValue, invoke, callFunc, hf, h1, h2, Act.eval]
  rw [hr]
  exact h
end

/-! The steps of the walk over a region that draws, at 'memory grows'. -/
section
variable {P : Program} {ops : Array Oper} {w0 : World} {L : Tab} {n : Nat} {Q : Exit → Act → World → Prop} {o : Oper} {rest : List Oper} {k : Nat} {a : Act} {G : Facts}

/-- What is asked behind an operation: behind a name that simp does not open. -/
def RgPost (w0 w : World) (Φ : Value → World → Prop) (v : Value) (w' : World) : Prop := Ext w0 w' ∧ Ext w w' ∧ Φ v w'
theorem rg_done {w0 w w' : World} {u v : Value} (hE : Ext w0 w) (h : Ext w w') (e : v = u) : RgPost w0 w (fun x _ => x = u) v w' := ⟨hE.trans h, h, e⟩
theorem rg_doneR {w0 w w' : World} {Φ : Value → World → Prop} {v : Value} (hE : Ext w0 w) (h : Ext w w') (e : Φ v w') : RgPost w0 w Φ v w' := ⟨hE.trans h, h, e⟩

/-- An operation that hands back this very value; memory may grow. -/
theorem rg_val (need : List Nat) {u : Value} (hkn : (k == n) = false) (hw : Region.wanted o (yielded ops a.tmps) = true) (hT : L.at k = some (fun v _ => v = u)) (hn : need.all (ancB ops 4 k) = true)
    (h : ∀ w, Ext w0 w → (∀ j ∈ need, G j w) → yields P o a w (RgPost w0 w (fun x _ => x = u)))
    (hk : wpRel P ops (Ext w0) Ext L.at n Q rest (k + 1) (a.put o.dst u) G) : wpRel P ops (Ext w0) Ext L.at n Q (o :: rest) k a G :=
  rel_call need _ hkn hw hT hn h (fun v w _ _ hv => by
    have hv : v = u := hv
    subst hv
    have : G.upd k (fun _ => v = v) = G := by funext k w; simp [Facts.upd]
    show wpRel P ops (Ext w0) Ext L.at n Q rest (k + 1) (a.put o.dst v) (G.upd k (fun _ => v = v))
    rw [this]; exact hk)

/-- An operation that hands back a value of which a fact is known; memory may grow. -/
theorem rg_fact (need : List Nat) {Φ : Value → World → Prop} (hkn : (k == n) = false) (hw : Region.wanted o (yielded ops a.tmps) = true) (hT : L.at k = some Φ) (hn : need.all (ancB ops 4 k) = true)
    (h : ∀ w, Ext w0 w → (∀ j ∈ need, G j w) → yields P o a w (RgPost w0 w Φ))
    (hk : ∀ v w, Ext w0 w → (∀ j, G j w) → Φ v w → wpRel P ops (Ext w0) Ext L.at n Q rest (k + 1) (a.put o.dst v) (G.upd k (Φ v))) : wpRel P ops (Ext w0) Ext L.at n Q (o :: rest) k a G :=
  rel_call need Φ hkn hw hT hn h hk

/-- A call of a Go function by its contract. -/
theorem rg_call (need : List Nat) {Φ : Value → World → Prop} {f : FuncId} {fn : Func} {args : Array Operand} {ts : Array TypeId} {vals : Array Value}
    (hkn : (k == n) = false) (hw : Region.wanted o (yielded ops a.tmps) = true) (hT : L.at k = some Φ) (ho : o.op = .call { callee := .value (.func f), args := args, argTypes := ts })
    (hf : P.funcs[f]? = some fn) (hb : fn.body.isSome = true) (hnm : (fn.name == "runtime.NumGoroutine") = false) (hargs : args.toList.map a.eval = vals.toList) (hn : need.all (ancB ops 4 k) = true)
    (h : ∀ w, Ext w0 w → (∀ j ∈ need, G j w) → Calls P f vals w fun e w' => ∃ v, e = .returned v ∧ Φ v w' ∧ Ext w w')
    (hk : ∀ v w, Ext w0 w → (∀ j, G j w) → Φ v w → wpRel P ops (Ext w0) Ext L.at n Q rest (k + 1) (a.put o.dst v) (G.upd k (Φ v))) : wpRel P ops (Ext w0) Ext L.at n Q (o :: rest) k a G :=
  rel_call need Φ hkn hw hT hn (fun w hC hG => yields_calls ho hf hb hnm (by rw [show args.map a.eval = vals from Array.ext' (by simpa using hargs)]; exact (h w hC hG).mono fun e w' ⟨v, he, hΦ, hE⟩ => ⟨v, he, hC.trans hE, hE, hΦ⟩)) hk

theorem upd_rfl (G : Facts) (i : Nat) (u : Value) : G.upd i (fun _ => u = u) = G := by
  funext k w
  simp [Facts.upd]

/-- A call of a Go function that hands back this very value. -/
theorem rg_callv (need : List Nat) (u : Value) {f : FuncId} {fn : Func} {args : Array Operand} {ts : Array TypeId} {vals : Array Value}
    (hkn : (k == n) = false) (hw : Region.wanted o (yielded ops a.tmps) = true) (hT : L.at k = some (fun v _ => v = u)) (ho : o.op = .call { callee := .value (.func f), args := args, argTypes := ts })
    (hf : P.funcs[f]? = some fn) (hb : fn.body.isSome = true) (hnm : (fn.name == "runtime.NumGoroutine") = false) (hargs : args.toList.map a.eval = vals.toList) (hn : need.all (ancB ops 4 k) = true)
    (h : ∀ w, Ext w0 w → (∀ j ∈ need, G j w) → Calls P f vals w fun e w' => e = .returned u ∧ Ext w w')
    (hk : wpRel P ops (Ext w0) Ext L.at n Q rest (k + 1) (a.put o.dst u) G) : wpRel P ops (Ext w0) Ext L.at n Q (o :: rest) k a G :=
  rg_call need hkn hw hT ho hf hb hnm hargs hn (fun w hC hG => (h w hC hG).mono fun e w' ⟨he, hE⟩ => ⟨u, he, rfl, hE⟩)
    (fun v w _ _ hv => by obtain rfl : v = u := hv; rw [upd_rfl]; exact hk)

/-- A reading of a slice of bytes as a text. -/
theorem rg_text (need : List Nat) (src dst e : TypeId) (x : Operand) (l : List UInt8)
    (hkn : (k == n) = false) (hw : Region.wanted o (yielded ops a.tmps) = true) (hT : L.at k = some (fun v _ => v = .string (str l))) (ho : o.op = .convert src dst x) (hn : need.all (ancB ops 4 k) = true)
    (hs : P.underlying src = some (.slice e)) (he : P.underlying e = some (.int .u8)) (hd : P.underlying dst = some .string)
    (h : ∀ w, Ext w0 w → (∀ j ∈ need, G j w) → BytesIn w (a.eval x) l)
    (hk : wpRel P ops (Ext w0) Ext L.at n Q rest (k + 1) (a.put o.dst (.string (str l))) G) : wpRel P ops (Ext w0) Ext L.at n Q (o :: rest) k a G :=
  rel_call need _ hkn hw hT hn (fun w hC hG => yields_convert_bytes src dst e x ho hs he hd (h w hC hG) ⟨hC, Ext.refl w, rfl⟩)
    (fun v w _ _ hv => by obtain rfl : v = .string (str l) := hv; rw [upd_rfl]; exact hk)
/-- An operation that hands back a value off its operands and off memory that was there when the region began. -/
theorem rg_quiet (hkn : (k == n) = false) (hw : Region.wanted o (yielded ops a.tmps) = true) (hT : L.at k = none) (hne : noEnter o.op = true)
    (h : ∀ K : Act → Prop, (∀ a, wpRel P ops (Ext w0) Ext L.at n Q rest (k + 1) a G → K a) → o.quiet P a (fun w => ∃ p : Regrown, w = Go.Sort.grow (redrawn w0 p.d) p.os) K) : wpRel P ops (Ext w0) Ext L.at n Q (o :: rest) k a G :=
  rel_quiet [] hkn hw hT hne rfl fun K hK => by
    obtain ⟨v, hq, hr⟩ := h K hK
    refine ⟨v, fun w hC => ?_, hr⟩
    obtain ⟨p, hp⟩ := regrown_of_below hC.1
    have := hq w ⟨p, hp⟩
    unfold Oper.quietAt at *
    have hno := noEnter_run (P := P) (a := a) (w := w) hne
    generalize (execOp a.eval o).run P w = r at *
    cases r with
    | ok n w' => cases n <;> simp only [Oper.quietUpon] at this ⊢ <;> first | exact this | exact absurd rfl (hno _ _ _)
    | halt x w' => exact this
end

theorem wf_u64 {a : Int} (h : (Lit.int .u64 a).wf = true) : 0 ≤ a ∧ a < 18446744073709551616 := by
  have h := h
  simp only [Lit.wf, Bool.and_eq_true, decide_eq_true_eq] at h
  have e1 : IntKind.u64.min = 0 := by decide
  have e2 : IntKind.u64.max = 18446744073709551615 := by decide
  omega
theorem wf_i64 {a : Int} (h : (Lit.int .i64 a).wf = true) : -9223372036854775808 ≤ a ∧ a ≤ 9223372036854775807 := by
  simp only [Lit.wf, Bool.and_eq_true, decide_eq_true_eq] at h
  have e1 : IntKind.i64.min = -9223372036854775808 := by decide
  have e2 : IntKind.i64.max = 9223372036854775807 := by decide
  omega
theorem wf_u8 {a : Int} (h : (Lit.int .u8 a).wf = true) : 0 ≤ a ∧ a < 256 := by
  simp only [Lit.wf, Bool.and_eq_true, decide_eq_true_eq] at h
  have e1 : IntKind.u8.min = 0 := by decide
  have e2 : IntKind.u8.max = 255 := by decide
  omega

/-! ### What is returned -/
theorem ret_int {k : IntKind} {a b : Int} (h : a = b) : Ending.returned (.int k a) = .returned (.int k b) := by rw [h]
theorem ret_bool {a b : Bool} (h : a = b) : Ending.returned (.bool a) = .returned (.bool b) := by rw [h]
end Go.Proofs.YtkiodandnjbhoaaDoor
