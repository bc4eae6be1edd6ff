/- Lists of rows in memory; 'append' to such a list of one's own; rows' columns that stay while such a list grows. -/
import Derived.Test.YtcmgeccgahakbaaDoorS4
set_option linter.unusedSimpArgs false
set_option linter.unusedVariables false
namespace Go.Proofs.YtcmgeccgahakbaaDoor
open Go Go.RowKit

theorem info_Row : (Tryd.prog.info? 91).map (fun i => (i.zero, i.size, i.bytes)) = some (some (.agg #[.string ⟨#[]⟩, .string ⟨#[]⟩, .bool false, .int .i64 0, .int .i64 0, .int .i64 0, .int .i64 0, .slice none 0 0]), 8, 96) := by kernel_rfl
theorem und_Rows : Tryd.prog.underlying 22 = some (.slice 91) := by kernel_rfl
/-- The cells of rows, each with the value of its columns. -/
def roCells : List (Ro × Value) → List Value
  | [] => []
  | p :: l => .string p.1.key :: .string p.1.live.val :: .bool p.1.live.dead :: .int .i64 p.1.live.at_ :: .int .i64 p.1.live.fin :: .int .i64 p.1.gone :: .int .i64 p.1.shade :: p.2 :: roCells l
theorem roCells_length (l : List (Ro × Value)) : (roCells l).length = l.length * 8 := by
  induction l with
  | nil => rfl
  | cons c l ih => simp [roCells, ih]; omega
theorem roCells_append (l m : List (Ro × Value)) : roCells (l ++ m) = roCells l ++ roCells m := by
  induction l with
  | nil => rfl
  | cons c l ih => simp [roCells, ih]
theorem roCells_get : ∀ (l : List (Ro × Value)) (k : Nat) (h : k < l.length) (j : Nat), j < 8 → (roCells l)[k * 8 + j]? = (ro8 l[k].1 l[k].2)[j]?
  | c :: l, 0, _, j, hj => by
    obtain rfl | rfl | rfl | rfl | rfl | rfl | rfl | rfl : j = 0 ∨ j = 1 ∨ j = 2 ∨ j = 3 ∨ j = 4 ∨ j = 5 ∨ j = 6 ∨ j = 7 := by omega
    all_goals simp [roCells, ro8]
  | c :: l, k + 1, h, j, hj => by
    have ih := roCells_get l k (by simpa using h) j hj
    have e : (k + 1) * 8 + j = k * 8 + j + 8 := by omega
    simp only [e, roCells, List.getElem_cons_succ]
    simpa using ih
/-- Rows in memory: v is a slice that reads as ps, each row's columns lie where its value says. -/
structure RowsIn (w : World) (v : Value) (ps : List (Ro × Value)) : Prop where
  rows : SliceIn w v ps.length (roCells ps)
  cols : ∀ p ∈ ps, ColsIn w p.2 p.1.cols
theorem RowsIn.ext {w w' : World} (hE : Ext w w') {v : Value} {ps : List (Ro × Value)} (h : RowsIn w v ps) : RowsIn w' v ps := ⟨h.rows.ext hE, fun p hp => (h.cols p hp).ext hE⟩
/-- A row at a place in memory. -/
structure RoAt (w : World) (b o : Nat) (r : Ro) (v : Value) : Prop where
  c0 : w.cell? ⟨b, o, none⟩ = some (.string r.key)
  c1 : w.cell? ⟨b, o + 1, none⟩ = some (.string r.live.val)
  c2 : w.cell? ⟨b, o + 2, none⟩ = some (.bool r.live.dead)
  c3 : w.cell? ⟨b, o + 3, none⟩ = some (.int .i64 r.live.at_)
  c4 : w.cell? ⟨b, o + 4, none⟩ = some (.int .i64 r.live.fin)
  c5 : w.cell? ⟨b, o + 5, none⟩ = some (.int .i64 r.gone)
  c6 : w.cell? ⟨b, o + 6, none⟩ = some (.int .i64 r.shade)
  c7 : w.cell? ⟨b, o + 7, none⟩ = some v
theorem RoAt.ext {w w' : World} (hE : Ext w w') {b o : Nat} {r : Ro} {v : Value} (h : RoAt w b o r v) : RoAt w' b o r v := ⟨hE.cell h.c0, hE.cell h.c1, hE.cell h.c2, hE.cell h.c3, hE.cell h.c4, hE.cell h.c5, hE.cell h.c6, hE.cell h.c7⟩
theorem RowsIn.get {w : World} {v : Value} {ps : List (Ro × Value)} (h : RowsIn w v ps) : ∃ a c, v = .slice a ps.length c ∧ ps.length ≤ c ∧ c ≤ 9223372036854775807 ∧ ∀ k (hk : k < ps.length), ∃ b o, a = some ⟨b, o, none⟩ ∧ RoAt w b (o + k * 8) ps[k].1 ps[k].2 := by
  obtain ⟨a, c, rfl, hc, hcm, ha, hcell⟩ := h.rows
  unfold maxLen at hcm
  refine ⟨a, c, rfl, hc, by omega, fun k hk => ?_⟩
  have g : ∀ j u, j < 8 → (ro8 ps[k].1 ps[k].2)[j]? = some u → ∃ b o, a = some ⟨b, o, none⟩ ∧ w.cell? ⟨b, o + (k * 8 + j), none⟩ = some u := fun j u hj he => hcell _ u ((roCells_get ps k hk j hj).trans he)
  obtain ⟨b, o, rfl, h0⟩ := g 0 _ (by decide) rfl
  obtain ⟨b1, o1, e1, h1⟩ := g 1 _ (by decide) rfl
  obtain ⟨b2, o2, e2, h2⟩ := g 2 _ (by decide) rfl
  obtain ⟨b3, o3, e3, h3⟩ := g 3 _ (by decide) rfl
  obtain ⟨b4, o4, e4, h4⟩ := g 4 _ (by decide) rfl
  obtain ⟨b5, o5, e5, h5⟩ := g 5 _ (by decide) rfl
  obtain ⟨b6, o6, e6, h6⟩ := g 6 _ (by decide) rfl
  obtain ⟨b7, o7, e7, h7⟩ := g 7 _ (by decide) rfl
  cases e1; cases e2; cases e3; cases e4; cases e5; cases e6; cases e7
  exact ⟨b, o, rfl, h0, h1, h2, h3, h4, h5, h6, h7⟩
theorem rows_one {w : World} {b : Nat} {r : Ro} {v : Value} {T : TypeId} (hb : BoxAt w b (ro8 r v) T) (hc : ColsIn w v r.cols) : RowsIn w (.slice (some ⟨b, 0, none⟩) 1 1) [(r, v)] :=
  ⟨⟨_, 1, rfl, Nat.le_refl _, by unfold maxLen; decide, nofun, fun j u hj => ⟨b, 0, rfl, by rw [Nat.zero_add, hb.cell j]; simpa [roCells, ro8] using hj⟩⟩, fun p hp => by rw [List.mem_singleton.1 hp]; exact hc⟩

theorem ColsIn.shape {w : World} {v : Value} {l : List Co} (h : ColsIn w v l) : ∃ a c, v = .slice a l.length c := by
  obtain ⟨a, c, e, _⟩ := h
  exact ⟨a, c, e⟩
theorem RowsIn.nil (w : World) : RowsIn w (.slice none 0 0) [] := ⟨SliceIn.nil w, nofun⟩
theorem roCells_one (l : List (Ro × Value)) (h : ∀ p ∈ l, ∃ a n c, p.2 = .slice a n c) : ∀ u ∈ roCells l, u.oneCell' = true := by
  induction l with
  | nil => intro u h; cases h
  | cons c l ih =>
    intro u hu
    simp only [roCells, List.mem_cons] at hu
    rcases hu with rfl | rfl | rfl | rfl | rfl | rfl | rfl | rfl | hu
    all_goals try rfl
    · obtain ⟨a, n, c, e⟩ := h _ (List.mem_cons_self ..)
      rw [e]
      rfl
    · exact ih (fun p hp => h p (List.mem_cons_of_mem _ hp)) u hu
theorem RowsIn.uncons {w : World} {v : Value} {l : List (Ro × Value)} (h : RowsIn w v l) (hl : 0 < l.length) : ∃ b o c A a cc l', l = (A, .slice a A.cols.length cc) :: l' ∧ v = .slice (some ⟨b, o, none⟩) l.length c ∧ l.length ≤ c ∧ c ≤ 9223372036854775807 ∧ RoAt w b o A (.slice a A.cols.length cc) ∧ ColsIn w (.slice a A.cols.length cc) A.cols ∧ RowsIn w (.slice (if c = 1 then some ⟨b, o, none⟩ else some ⟨b, o + 8, none⟩) (l.length - 1) (c - 1)) l' := by
  obtain ⟨a, c, rfl, hc, hcm, hg⟩ := h.get
  obtain ⟨b, o, rfl, h0⟩ := hg 0 hl
  cases l with
  | nil => cases hl
  | cons p l' =>
    obtain ⟨A, u⟩ := p
    have hcol := h.cols _ (List.mem_cons_self ..)
    obtain ⟨a, cc, e⟩ := hcol.shape
    simp only at e
    subst e
    refine ⟨b, o, c, A, a, cc, l', rfl, rfl, hc, hcm, by simpa using h0, hcol, ?_, fun p hp => h.cols p (List.mem_cons_of_mem _ hp)⟩
    obtain ⟨a', c', e, hc', hcm', ha', hcell⟩ := h.rows
    cases e
    refine ⟨if c = 1 then some ⟨b, o, none⟩ else some ⟨b, o + 8, none⟩, c - 1, by simp, by simp at hc' ⊢; omega, by unfold maxLen; omega, (by intro h; split at h <;> cases h), fun j u hj => ?_⟩
    obtain ⟨b', o', e, hx⟩ := hcell (j + 8) u (by simpa [roCells] using hj)
    cases e
    by_cases h1 : c = 1
    · have h2 : l' = [] := List.eq_nil_of_length_eq_zero (by simp at hc'; omega)
      subst h2
      cases hj
    · rw [if_neg h1]
      exact ⟨b, o + 8, rfl, by rw [Nat.add_assoc, Nat.add_comm 8 j]; exact hx⟩
theorem appRows {ops : Array Oper} {rest : List Oper} {o : Oper} {a : Act} {Q : Exit → Act → World → Prop} (w : World) (hg : o.guard = none) (s x : Operand)
    (hop : o.op = Op.call { callee := Callee.builtin Builtin.append, args := #[s, x], argTypes := #[22, 22] })
    (B : Nat) (hB : B ≤ w.heap.size) (v : Value) (l : List (Ro × Value)) (hown : w.ownsRow B 91 8 v l.length (roCells l)) (hs : a.eval s = v) (u : Value) (m : List (Ro × Value)) (hin : RowsIn w u m) (hx : a.eval x = u) (hb : l.length + m.length ≤ 1000000)
    (hK : ∀ v' w', w'.ownsRow B 91 8 v' (l ++ m).length (roCells (l ++ m)) → w.grownBy w' v.ownBlock → wpList Tryd.prog ops Q rest (a.put o.dst v') w') : wpList Tryd.prog ops Q (o :: rest) a w := by
  obtain ⟨i0, hi, hz0, hz1, hz2⟩ := info_parts info_Row
  obtain ⟨⟨ao, c, rfl, hc, hcm, ha, hcell⟩, hcols⟩ := hin
  have hone := roCells_one m (fun p hp => let ⟨a, c, e⟩ := (hcols p hp).shape; ⟨a, _, c, e⟩)
  cases ao with
  | none =>
    have hc0 := ha rfl
    obtain rfl : m = [] := List.eq_nil_of_length_eq_zero (by omega)
    subst hc0
    refine wpList_append_own_none hg s x 22 hop B 91 i0 8 und_Rows hi v l.length (roCells l) hs hown hx (hK _ _ (by rw [List.append_nil]; exact hown) ⟨rfl, rfl, rfl, Nat.le_refl _, fun _ _ _ => rfl⟩)
  | some ad =>
    refine wpList_append_own _ hg s x 22 hop B 91 i0 _ 8 96 und_Rows hi hz0 hz1 hz2 rfl (by decide) v l.length (roCells l) hs hown ad m.length c (roCells m) hx (roCells_length m) ?_ hone (by unfold maxLen; omega) (by omega) hB ?_
    · intro j u hj
      obtain ⟨b, o, e, h⟩ := hcell j u hj
      cases e
      rw [Addr.add_lit]
      exact h
    · intro v' w' h2 h3 _
      refine hK v' w' ?_ h3
      rw [roCells_append, List.length_append]
      exact h2

/-- A row's columns that stay: they lie in the first world, or are one's own. -/
def SafeC (w x : World) (p : Ro × Value) : Prop := ColsIn w p.2 p.1.cols ∨ x.ownsRow w.heap.size 154 5 p.2 p.1.cols.length (coCells p.1.cols)
theorem SafeC.ext {w x y : World} {p : Ro × Value} (hE : Ext x y) (h : SafeC w x p) : SafeC w y p := h.imp_right fun h => ownsRow_ext h hE
theorem SafeC.grown {w x y : World} {p : Ro × Value} {B n : Nat} {v : Value} {xs : List Value} (hown : x.ownsRow B 91 8 v n xs) (hg : x.grownBy y v.ownBlock) (h : SafeC w x p) : SafeC w y p :=
  h.imp_right fun h => h.kept hg (own_ne_own h hown (by decide))
theorem SafeC.cols {w x : World} {p : Ro × Value} (hE : Ext w x) (h : SafeC w x p) : ColsIn x p.2 p.1.cols := by
  rcases h with h | h
  · exact h.ext hE
  · exact cols_own h
theorem rows_own {w x : World} {B : Nat} {v : Value} {l : List (Ro × Value)} (h : x.ownsRow B 91 8 v l.length (roCells l)) (hE : Ext w x) (hs : ∀ p ∈ l, SafeC w x p) : RowsIn x v l :=
  ⟨SliceIn.of_owns h, fun p hp => (hs p hp).cols hE⟩

/-- A slice that reads as cells, in a block of its own type: what a store to a block of another type leaves alone. -/
def TIn (x : World) (e : TypeId) (v : Value) (n : Nat) (xs : List Value) : Prop := (v = .slice none 0 0 ∧ n = 0 ∧ xs = []) ∨ ∃ b c Z, v = .slice (some ⟨b, 0, none⟩) n c ∧ BoxAt x b Z e ∧ n ≤ c ∧ c ≤ maxLen ∧ ∀ (j : Nat) u, xs[j]? = some u → Z[j]? = some u
theorem box_ne {x : World} {p q : Nat} {A B : Array Value} {S T : TypeId} (h : BoxAt x p A S) (h' : BoxAt x q B T) (hne : S ≠ T) : p ≠ q := by
  rintro rfl
  unfold BoxAt at h h'
  rw [h] at h'
  injection h' with h'
  injection h' with _ h'
  exact hne h'
theorem TIn.nil (x : World) (e : TypeId) : TIn x e (.slice none 0 0) 0 [] := .inl ⟨rfl, rfl, rfl⟩
theorem TIn.slice {x : World} {e : TypeId} {v : Value} {n : Nat} {xs : List Value} (h : TIn x e v n xs) : SliceIn x v n xs := by
  rcases h with ⟨rfl, rfl, rfl⟩ | ⟨b, c, Z, rfl, hb, hn, hc, hx⟩
  · exact SliceIn.nil x
  · exact ⟨_, _, rfl, hn, hc, nofun, fun j u hj => ⟨b, 0, rfl, by rw [Nat.zero_add, hb.cell j]; exact hx j u hj⟩⟩
theorem TIn.box {x : World} {e : TypeId} {b n : Nat} {xs : List Value} (hb : BoxAt x b xs.toArray e) (hn : n ≤ maxLen) : TIn x e (.slice (some ⟨b, 0, none⟩) n n) n xs :=
  .inr ⟨b, n, _, rfl, hb, Nat.le_refl _, hn, fun j u hj => by simpa using hj⟩
theorem TIn.own {x : World} {B : Nat} {e : TypeId} {size : Nat} {v : Value} {n : Nat} {xs : List Value} (h : x.ownsRow B e size v n xs) : TIn x e v n xs := by
  obtain ⟨hl, h⟩ := h
  rcases h with ⟨rfl, rfl⟩ | ⟨g, cap, cur, rfl, _, hg, hn, hm, hs, ht⟩
  · exact .inl ⟨rfl, rfl, List.eq_nil_of_length_eq_zero (by simpa using hl)⟩
  · refine .inr ⟨g, cap, cur, rfl, hg, hn, hm, fun j u hj => ?_⟩
    have hjl : j < n * size := by
      have := (List.getElem?_eq_some_iff.1 hj).1
      omega
    rw [← ht, List.getElem?_take, if_pos hjl] at hj
    simpa using hj
theorem TIn.ext {x y : World} {e : TypeId} {v : Value} {n : Nat} {xs : List Value} (hE : Ext x y) (h : TIn x e v n xs) : TIn y e v n xs := h.imp_right fun ⟨b, c, Z, e, hb, h⟩ => ⟨b, c, Z, e, hb.ext hE, h⟩
theorem TIn.keep {x y : World} {e : TypeId} {v : Value} {n : Nat} {xs : List Value} {q : Nat} {W : Array Value} {T : TypeId} (hg : x.grownBy y (some q)) (hq : BoxAt x q W T) (hne : e ≠ T) (h : TIn x e v n xs) : TIn y e v n xs :=
  h.imp_right fun ⟨b, c, Z, e, hb, h⟩ => ⟨b, c, Z, e, hb.grown hg (fun e => box_ne hb hq hne (Option.some.inj e)), h⟩
theorem TIn.set {x : World} {e : TypeId} {v : Value} {n : Nat} {xs : List Value} {q : Nat} {W : Array Value} {T : TypeId} (i : Nat) (u : Value) (hq : BoxAt x q W T) (hne : e ≠ T) (h : TIn x e v n xs) : TIn (x.setCell ⟨q, i, none⟩ u) e v n xs :=
  h.imp_right fun ⟨b, c, Z, e, hb, h⟩ => ⟨b, c, Z, e, hb.other (box_ne hb hq hne) i u, h⟩
theorem TIn.keepOwn {x y : World} {e : TypeId} {v : Value} {n : Nat} {xs : List Value} {B : Nat} {T : TypeId} {size m : Nat} {vo : Value} {ys : List Value} (hown : x.ownsRow B T size vo m ys) (hg : x.grownBy y vo.ownBlock) (hne : e ≠ T) (h : TIn x e v n xs) : TIn y e v n xs :=
  h.imp_right fun ⟨b, c, Z, e, hb, h⟩ => ⟨b, c, Z, e, hb.grown hg (fun e => by
    rcases own_ne_box hown hb (fun e => hne e.symm) with h | h
    · rw [h] at e; cases e
    · exact h e.symm), h⟩
theorem TIn.shape {x : World} {e : TypeId} {v : Value} {n : Nat} {xs : List Value} (h : TIn x e v n xs) : ∃ a c, v = .slice a n c := by
  rcases h with ⟨rfl, rfl, rfl⟩ | ⟨b, c, Z, e, _⟩
  · exact ⟨_, _, rfl⟩
  · exact ⟨_, _, e⟩

/-- Columns, rows in blocks of their own types. -/
def ColsT (x : World) (v : Value) (l : List Co) : Prop := TIn x 154 v l.length (coCells l)
structure RowsT (x : World) (v : Value) (qs : List (Ro × Value)) : Prop where
  tin : TIn x 91 v qs.length (roCells qs)
  typed : ∀ p ∈ qs, ColsT x p.2 p.1.cols
theorem ColsT.cols {x : World} {v : Value} {l : List Co} (h : ColsT x v l) : ColsIn x v l := TIn.slice h
theorem ColsT.nil (x : World) : ColsT x (.slice none 0 0) [] := TIn.nil x _
theorem ColsT.ext {x y : World} {v : Value} {l : List Co} (hE : Ext x y) (h : ColsT x v l) : ColsT y v l := TIn.ext hE h
theorem ColsT.keep {x y : World} {v : Value} {l : List Co} {q : Nat} {Z : Array Value} {T : TypeId} (hg : x.grownBy y (some q)) (hb : BoxAt x q Z T) (h2 : 154 ≠ T) (h : ColsT x v l) : ColsT y v l := TIn.keep hg hb h2 h
theorem RowsT.rows {x : World} {v : Value} {qs : List (Ro × Value)} (h : RowsT x v qs) : RowsIn x v qs := ⟨h.tin.slice, fun p hp => (h.typed p hp).cols⟩
theorem RowsT.ext {x y : World} {v : Value} {qs : List (Ro × Value)} (hE : Ext x y) (h : RowsT x v qs) : RowsT y v qs := ⟨h.tin.ext hE, fun p hp => (h.typed p hp).ext hE⟩
theorem RowsT.keep {x y : World} {v : Value} {qs : List (Ro × Value)} {q : Nat} {Z : Array Value} {T : TypeId} (hg : x.grownBy y (some q)) (hb : BoxAt x q Z T) (h1 : 91 ≠ T) (h2 : 154 ≠ T) (h : RowsT x v qs) : RowsT y v qs :=
  ⟨h.tin.keep hg hb h1, fun p hp => (h.typed p hp).keep hg hb h2⟩
theorem RowsT.set {x : World} {v : Value} {qs : List (Ro × Value)} {q : Nat} {Z : Array Value} {T : TypeId} (i : Nat) (u : Value) (hb : BoxAt x q Z T) (h1 : 91 ≠ T) (h2 : 154 ≠ T) (h : RowsT x v qs) : RowsT (x.setCell ⟨q, i, none⟩ u) v qs :=
  ⟨h.tin.set i u hb h1, fun p hp => TIn.set i u hb h2 (h.typed p hp)⟩
theorem RowsT.keepOwn {x y : World} {v : Value} {qs : List (Ro × Value)} {B : Nat} {T : TypeId} {size m : Nat} {vo : Value} {ys : List Value} (hown : x.ownsRow B T size vo m ys) (hg : x.grownBy y vo.ownBlock) (h1 : 91 ≠ T) (h2 : 154 ≠ T) (h : RowsT x v qs) : RowsT y v qs :=
  ⟨h.tin.keepOwn hown hg h1, fun p hp => TIn.keepOwn hown hg h2 (h.typed p hp)⟩
theorem RowsT.nil (x : World) : RowsT x (.slice none 0 0) [] := ⟨TIn.nil x _, nofun⟩
theorem RowsT.shape {x : World} {v : Value} {qs : List (Ro × Value)} (h : RowsT x v qs) : ∃ a c, v = .slice a qs.length c := h.tin.shape
theorem RowsT.one {x : World} {b : Nat} {r : Ro} {v : Value} (hb : BoxAt x b (ro8 r v) 91) (hc : ColsT x v r.cols) : RowsT x (.slice (some ⟨b, 0, none⟩) 1 1) [(r, v)] :=
  ⟨TIn.box (xs := roCells [(r, v)]) hb (by unfold maxLen; decide), fun p hp => by rw [List.mem_singleton.1 hp]; exact hc⟩
end Go.Proofs.YtcmgeccgahakbaaDoor

/- pack's reader: row, a list of rows. -/
namespace Go.Proofs.YtcmgeccgahakbaaDoor
open Go Go.RowKit
attribute [local go_sem] yields yUpon

def rowR (B : List UInt8) (s : Nat × Int) : Ro × (Nat × Int) :=
  (⟨(txtR B s).1, (cellR B (txtR B s).2).1, ((numR B (cellR B (txtR B s).2).2).1 : Int), ((numR B (numR B (cellR B (txtR B s).2).2).2).1 : Int), (listR B (colR B) (numR B (numR B (cellR B (txtR B s).2).2).2).2).1⟩,
   (listR B (colR B) (numR B (numR B (cellR B (txtR B s).2).2).2).2).2)
def zeroRo : Ro := ⟨⟨#[]⟩, zeroCl, 0, 0, []⟩

set_option maxRecDepth 100000 in
set_option maxHeartbeats 4000000 in
theorem rd_row {w : World} {q : Nat} {v : Value} {B : List UInt8} {s : Nat × Int} (h : RdAt w q v B s) :
    Calls Tryd.prog 147 #[.pointer (some ⟨q, 0, none⟩)] w fun e w' => ∃ u, e = .returned (.agg (ro8 (rowR B s).1 u)) ∧ ColsT w' u (rowR B s).1.cols ∧ RdAt w' q v B (rowR B s).2 ∧ Touch9 w w' q := by
  have hq := h.lt
  have hE0 := (Ext.refl w).alloc (.cells (ro8 zeroRo (.slice none 0 0)) 91)
  have b2 := BoxAt.made w (ro8 zeroRo (.slice none 0 0)) 91
  have h0 := h.ext hE0
  have hq2 : w.heap.size ≠ q := by omega
  unfold rowR
  obtain ⟨X, s1, hX⟩ : ∃ X s1, txtR B s = (X, s1) := ⟨_, _, rfl⟩
  obtain ⟨C, s2, hC⟩ : ∃ C s2, cellR B s1 = (C, s2) := ⟨_, _, rfl⟩
  obtain ⟨G, s3, hG⟩ : ∃ G s3, numR B s2 = (G, s3) := ⟨_, _, rfl⟩
  obtain ⟨H, s4, hH⟩ : ∃ H s4, numR B s3 = (H, s4) := ⟨_, _, rfl⟩
  obtain ⟨L, s5, hL⟩ : ∃ L s5, listR B (colR B) s4 = (L, s5) := ⟨_, _, rfl⟩
  rw [hX]
  simp only
  rw [hC]
  simp only
  rw [hG]
  simp only
  rw [hH]
  simp only
  rw [hL]
  have k1 := rd_text h0
  rw [hX] at k1
  simp only at k1 ⊢
  have K1 := Lib.hid k1
  have HC := Lib.hid hC
  have HG := Lib.hid hG
  have HH := Lib.hid hH
  have HL := Lib.hid hL
  clear k1 hX hC hG hH hL
  obtain ⟨val, dead, at_, fin⟩ := C
  go_enter Tryd.func147, Tryd.ntmps147
  go_wp2_with (go_at_call 118; go_must (refine K1.out.mono ?_); rintro e w1 ⟨rfl, h1, hT1⟩; have b21 := hT1.box b2 hq2; have hq3 : w1.heap.size ≠ q := (by have := h1.lt; omega))
  have b3 := BoxAt.made w1 (ro8 ⟨X, zeroCl, 0, 0, []⟩ (.slice none 0 0)) 91
  have hEa := (Ext.refl w1).alloc (.cells (ro8 ⟨X, zeroCl, 0, 0, []⟩ (.slice none 0 0)) 91)
  have h1a := h1.ext hEa
  have hT1a := (Touch9.of_ext hE0 q).trans (hT1.more hEa)
  have hle1 : w.heap.size ≤ w1.heap.size := by have := hE0.le; have := hT1.size; omega
  have hne23 : w.heap.size ≠ w1.heap.size := by have := b21.lt; omega
  refine (rd_cell h1a).mono ?_
  rintro e w2 ⟨rfl, h2, hT2⟩
  rw [HC.out] at h2
  simp only at h2
  rw [HC.out]
  unfold cl4
  have b22 := hT2.box (b21.ext hEa) hq2
  have b32 := hT2.box b3 hq3
  have y1 : w2.cell? ⟨w1.heap.size, 1, none⟩ = some (.string ⟨#[]⟩) := b32.cell 1
  have y2 : w2.cell? ⟨w1.heap.size, 2, none⟩ = some (.bool false) := b32.cell 2
  have y3 : w2.cell? ⟨w1.heap.size, 3, none⟩ = some (.int .i64 0) := b32.cell 3
  have y4 : w2.cell? ⟨w1.heap.size, 4, none⟩ = some (.int .i64 0) := b32.cell 4
  have yf := b32.free
  have P2 := rd_done1 h (rd_done1 h (rd_done1 h (rd_done1 h ⟨h2, hT1a.trans hT2⟩ hle1 1 (.string val)) hle1 2 (.bool dead)) hle1 3 (.int .i64 at_)) hle1 4 (.int .i64 fin)
  have b33 : BoxAt ((((w2.setCell ⟨w1.heap.size, 1, none⟩ (.string val)).setCell ⟨w1.heap.size, 2, none⟩ (.bool dead)).setCell ⟨w1.heap.size, 3, none⟩ (.int .i64 at_)).setCell ⟨w1.heap.size, 4, none⟩ (.int .i64 fin)) w1.heap.size #[.string X, .string val, .bool dead, .int .i64 at_, .int .i64 fin, .int .i64 0, .int .i64 0, .slice none 0 0] 91 := (((b32.set 1 (.string val)).set 2 (.bool dead)).set 3 (.int .i64 at_)).set 4 (.int .i64 fin)
  have b23 := (((b22.other hne23 1 (.string val)).other hne23 2 (.bool dead)).other hne23 3 (.int .i64 at_)).other hne23 4 (.int .i64 fin)
  go_wp2_with fail
  generalize hw3 : World.setCell (World.setCell (World.setCell (World.setCell w2 _ _) _ _) _ _) _ _ = w3 at P2 b33 b23 ⊢
  clear hw3 y1 y2 y3 y4 yf
  refine (rd_number P2.1).mono ?_
  rintro e w4 ⟨rfl, h4, hT4⟩
  rw [HG.out] at h4
  simp only at h4
  rw [HG.out]
  have b24 := hT4.box b23 hq2
  have b34 := hT4.box b33 hq3
  have y5 : w4.cell? ⟨w1.heap.size, 5, none⟩ = some (.int .i64 0) := b34.cell 5
  have yf := b34.free 5
  have P4 := rd_done1 h ⟨h4, P2.2.trans hT4⟩ hle1 5 (.int .i64 (G : Int))
  have b35 : BoxAt (w4.setCell ⟨w1.heap.size, 5, none⟩ (.int .i64 (G : Int))) w1.heap.size #[.string X, .string val, .bool dead, .int .i64 at_, .int .i64 fin, .int .i64 (G : Int), .int .i64 0, .slice none 0 0] 91 := b34.set 5 _
  have b25 := b24.other hne23 5 (.int .i64 (G : Int))
  go_wp2_with fail
  generalize hw5 : World.setCell w4 _ _ = w5 at P4 b35 b25 ⊢
  clear hw5 y5 yf
  refine (rd_number P4.1).mono ?_
  rintro e w6 ⟨rfl, h6, hT6⟩
  rw [HH.out] at h6
  simp only at h6
  rw [HH.out]
  have b26 := hT6.box b25 hq2
  have b36 := hT6.box b35 hq3
  have y6 : w6.cell? ⟨w1.heap.size, 6, none⟩ = some (.int .i64 0) := b36.cell 6
  have yf := b36.free 6
  have P6 := rd_done1 h ⟨h6, P4.2.trans hT6⟩ hle1 6 (.int .i64 (H : Int))
  have b37 : BoxAt (w6.setCell ⟨w1.heap.size, 6, none⟩ (.int .i64 (H : Int))) w1.heap.size #[.string X, .string val, .bool dead, .int .i64 at_, .int .i64 fin, .int .i64 (G : Int), .int .i64 (H : Int), .slice none 0 0] 91 := b36.set 6 _
  have b27 := b26.other hne23 6 (.int .i64 (H : Int))
  go_wp2_with fail
  generalize hw7 : World.setCell w6 _ _ = w7 at P6 b37 b27 ⊢
  clear hw7 y6 yf
  refine (rd_cols P6.1).mono ?_
  rintro e w8 ⟨u, rfl, hcol, h8, hT8⟩
  rw [HL.out] at h8 hcol
  simp only at h8 hcol
  have hcol' := hcol
  obtain ⟨ua, uc, rfl⟩ := own_shape hcol'
  have hct : ColsT w8 (.slice ua L.length uc) L := TIn.own hcol
  have b28 := hT8.box b27 hq2
  have b38 := hT8.box b37 hq3
  have y7 : w8.cell? ⟨w1.heap.size, 7, none⟩ = some (.slice none 0 0) := b38.cell 7
  have yf := b38.free 7
  have P8 := rd_done1 h ⟨h8, P6.2.trans hT8⟩ hle1 7 (.slice ua L.length uc)
  have b39 : BoxAt (w8.setCell ⟨w1.heap.size, 7, none⟩ (.slice ua L.length uc)) w1.heap.size #[.string X, .string val, .bool dead, .int .i64 at_, .int .i64 fin, .int .i64 (G : Int), .int .i64 (H : Int), .slice ua L.length uc] 91 := b38.set 7 _
  have b29 := b28.other hne23 7 (.slice ua L.length uc)
  have hct2 := TIn.set 7 (.slice ua L.length uc) b38 (by decide) hct
  generalize hw9 : World.setCell w8 ⟨w1.heap.size, 7, none⟩ (.slice ua L.length uc) = w9 at P8 b39 b29 hct2
  have z0 : w9.cell? ⟨w1.heap.size, 0, none⟩ = some (.string X) := b39.cell 0
  have x0 : w9.cell? ⟨w.heap.size, 0, none⟩ = some (.string ⟨#[]⟩) := b29.cell 0
  have z1 : w9.cell? ⟨w1.heap.size, 1, none⟩ = some (.string val) := b39.cell 1
  have x1 : w9.cell? ⟨w.heap.size, 1, none⟩ = some (.string ⟨#[]⟩) := b29.cell 1
  have z2 : w9.cell? ⟨w1.heap.size, 2, none⟩ = some (.bool dead) := b39.cell 2
  have x2 : w9.cell? ⟨w.heap.size, 2, none⟩ = some (.bool false) := b29.cell 2
  have z3 : w9.cell? ⟨w1.heap.size, 3, none⟩ = some (.int .i64 at_) := b39.cell 3
  have x3 : w9.cell? ⟨w.heap.size, 3, none⟩ = some (.int .i64 0) := b29.cell 3
  have z4 : w9.cell? ⟨w1.heap.size, 4, none⟩ = some (.int .i64 fin) := b39.cell 4
  have x4 : w9.cell? ⟨w.heap.size, 4, none⟩ = some (.int .i64 0) := b29.cell 4
  have z5 : w9.cell? ⟨w1.heap.size, 5, none⟩ = some (.int .i64 (G : Int)) := b39.cell 5
  have x5 : w9.cell? ⟨w.heap.size, 5, none⟩ = some (.int .i64 0) := b29.cell 5
  have z6 : w9.cell? ⟨w1.heap.size, 6, none⟩ = some (.int .i64 (H : Int)) := b39.cell 6
  have x6 : w9.cell? ⟨w.heap.size, 6, none⟩ = some (.int .i64 0) := b29.cell 6
  have z7 : w9.cell? ⟨w1.heap.size, 7, none⟩ = some (.slice ua L.length uc) := b39.cell 7
  have x7 : w9.cell? ⟨w.heap.size, 7, none⟩ = some (.slice none 0 0) := b29.cell 7
  have xf := b29.free
  go_wp2_with fail
  refine bodyPost_ret (v := .agg (ro8 ⟨X, ⟨val, dead, at_, fin⟩, (G : Int), (H : Int), L⟩ (.slice ua L.length uc))) ?_ rfl ⟨_, rfl, (TIn.set 7 (.slice ua L.length uc) (((((((b29.set 0 (.string X)).set 1 (.string val)).set 2 (.bool dead)).set 3 (.int .i64 at_)).set 4 (.int .i64 fin)).set 5 (.int .i64 (G : Int))).set 6 (.int .i64 (H : Int))) (by decide) (TIn.set 6 (.int .i64 (H : Int)) ((((((b29.set 0 (.string X)).set 1 (.string val)).set 2 (.bool dead)).set 3 (.int .i64 at_)).set 4 (.int .i64 fin)).set 5 (.int .i64 (G : Int))) (by decide) (TIn.set 5 (.int .i64 (G : Int)) (((((b29.set 0 (.string X)).set 1 (.string val)).set 2 (.bool dead)).set 3 (.int .i64 at_)).set 4 (.int .i64 fin)) (by decide) (TIn.set 4 (.int .i64 fin) ((((b29.set 0 (.string X)).set 1 (.string val)).set 2 (.bool dead)).set 3 (.int .i64 at_)) (by decide) (TIn.set 3 (.int .i64 at_) (((b29.set 0 (.string X)).set 1 (.string val)).set 2 (.bool dead)) (by decide) (TIn.set 2 (.bool dead) ((b29.set 0 (.string X)).set 1 (.string val)) (by decide) (TIn.set 1 (.string val) (b29.set 0 (.string X)) (by decide) (TIn.set 0 (.string X) b29 (by decide) hct2)))))))), (rd_done1 h (rd_done1 h (rd_done1 h (rd_done1 h (rd_done1 h (rd_done1 h (rd_done1 h (rd_done1 h ⟨P8.1, P8.2⟩ (Nat.le_refl _) 0 (.string X)) (Nat.le_refl _) 1 (.string val)) (Nat.le_refl _) 2 (.bool dead)) (Nat.le_refl _) 3 (.int .i64 at_)) (Nat.le_refl _) 4 (.int .i64 fin)) (Nat.le_refl _) 5 (.int .i64 (G : Int))) (Nat.le_refl _) 6 (.int .i64 (H : Int))) (Nat.le_refl _) 7 (.slice ua L.length uc))⟩
  generalize hW : World.setCell _ _ _ = w99
  have hb : BoxAt w99 w.heap.size (ro8 ⟨X, ⟨val, dead, at_, fin⟩, (G : Int), (H : Int), L⟩ (.slice ua L.length uc)) 91 := by rw [← hW]; exact ((((((((b29.set 0 (.string X)).set 1 (.string val)).set 2 (.bool dead)).set 3 (.int .i64 at_)).set 4 (.int .i64 fin)).set 5 (.int .i64 (G : Int))).set 6 (.int .i64 (H : Int))).set 7 (.slice ua L.length uc))
  obtain ⟨z0, z1, z2, z3, z4, z5, z6, z7⟩ := hb.ro
  simp [results, Tryd.results147, go_sem, z0, z1, z2, z3, z4, z5, z6, z7]
  rfl
end Go.Proofs.YtcmgeccgahakbaaDoor

/- pack's reader: a list of rows. -/
namespace Go.Proofs.YtcmgeccgahakbaaDoor
open Go Go.RowKit
attribute [local go_sem] yields yUpon

theorem TIn.touch9 {x y : World} {q : Nat} {W : Array Value} {T e : TypeId} {v : Value} {n : Nat} {xs : List Value} (hT : Touch9 x y q) (hq : BoxAt x q W T) (hne : e ≠ T) (h : TIn x e v n xs) : TIn y e v n xs :=
  h.imp_right fun ⟨b, c, Z, e, hb, h⟩ => ⟨b, c, Z, e, hT.box hb (box_ne hb hq hne), h⟩

set_option maxRecDepth 100000 in
set_option maxHeartbeats 4000000 in
theorem rd_rows {w : World} {q : Nat} {v : Value} {B : List UInt8} {s : Nat × Int} (h : RdAt w q v B s) :
    Calls Tryd.prog 146 #[.pointer (some ⟨q, 0, none⟩), .func (.func 147) #[] #[]] w fun e w' => ∃ u ps, e = .returned u ∧ w'.ownsRow w.heap.size 91 8 u ps.length (roCells ps) ∧ (∀ p ∈ ps, ColsT w' p.2 p.1.cols) ∧ ps.map (·.1) = (listR B (rowR B) s).1 ∧ RdAt w' q v B (listR B (rowR B) s).2 ∧ Touch9 w w' q := by
  have hq := h.lt
  obtain ⟨R, hR⟩ : ∃ R, R = listR B (rowR B) s := ⟨_, rfl⟩
  rw [← hR]
  obtain ⟨N, s1, hN⟩ : ∃ N s1, cntR B s = (N, s1) := ⟨_, _, rfl⟩
  unfold listR at hR
  have hbn := cntR_big h.le h.big
  have k1 := rd_count h
  rw [hN] at hR k1 hbn
  simp only at hR k1 hbn
  have K1 := Lib.hid k1
  have HR := Lib.hid hR
  clear k1 hR hN
  go_enter Tryd.func146, Tryd.ntmps146
  go_wp2_with (go_at_call 117; go_must (refine K1.out.mono ?_); rintro e w1 ⟨rfl, h1, hT1⟩)
  go_loopw [5, 6] (fun u n wr => ∃ (k : Nat) (D : List (Ro × Value)) (t : Nat × Int), D.length + k ≤ N ∧ n = .int .i64 (k : Int) ∧ wr.ownsRow w.heap.size 91 8 u D.length (roCells D) ∧ (∀ p ∈ D, ColsT wr p.2 p.1.cols) ∧ RdAt wr q v B t ∧ Touch9 w wr q ∧ Hid (R = (D.map (·.1) ++ (manyR (rowR B) k t).1, (manyR (rowR B) k t).2))) (fun _ n _ => (intOf n).toNat)
  case atStart => exact ⟨N, [], s1, by simp, rfl, World.ownsRow_nil _ _ _ _, nofun, h1, hT1, HR⟩
  case round =>
    obtain ⟨k, D, t, hDk, rfl, hown, hcs, ht, hTr, HX⟩ := hrel
    have hsz := hTr.size
    obtain ⟨i, e⟩ := t
    have c2 : wr.cell? ⟨q, 2, none⟩ = some (.int .i64 e) := ht.c2
    have hou := hown
    obtain ⟨ua, uc, rfl⟩ := own_shape hou
    clear hou
    have HCS := Lib.hid hcs
    clear hcs
    by_cases hk : 0 < k
    · have hkd : decide ((0 : Int) < (k : Int)) = true := decide_eq_true (by omega)
      by_cases he : e = 0
      · subst he
        obtain ⟨C, t2, hC⟩ : ∃ C t2, rowR B (i, 0) = (C, t2) := ⟨_, _, rfl⟩
        have HC := Lib.hid hC
        clear hC
        go_wp2_with fail
        refine (rd_row ht).mono ?_
        rintro e w5 ⟨cu, rfl, hct, h5, hT5⟩
        rw [HC.out] at h5 hct
        simp only at h5 hct
        rw [HC.out]
        obtain ⟨key, ⟨val, dead, at_, fin⟩, gone, shade, cols⟩ := C
        simp only at hct
        have hct' := hct
        obtain ⟨ca, cn, rfl⟩ : ∃ a c, cu = .slice a cols.length c := hct'.shape
        clear hct'
        have hb6 := BoxAt.made w5 (ro8 ⟨key, ⟨val, dead, at_, fin⟩, gone, shade, cols⟩ (.slice ca cols.length cn)) 91
        have hE6 := (Ext.refl w5).alloc (.cells (ro8 ⟨key, ⟨val, dead, at_, fin⟩, gone, shade, cols⟩ (.slice ca cols.length cn)) 91)
        have hin := rows_one hb6 (hct.cols.ext hE6)
        have hown6 := ownsRow_ext (hT5.owns hown hq) hE6
        have h6 := h5.ext hE6
        have hT6 := hTr.trans (hT5.more hE6)
        have hsz6 := hT6.size
        unfold ro8 at *
        simp only at hin hown6 h6 hT6 hsz6
        go_wp2_with (at_builtin; go_must (refine appRows _ rfl (.tmp 20) (.tmp 24) rfl w.heap.size hsz6 _ D hown6 (by rfl) _ [(⟨key, ⟨val, dead, at_, fin⟩, gone, shade, cols⟩, .slice ca cols.length cn)] hin (by rfl) (by simp; omega) ?_); intro v9 w9 ho9 hg9; have ho9' := ho9; obtain ⟨a9, c9, rfl⟩ := own_shape ho9')
        obtain ⟨k', rfl⟩ : ∃ k', k = k' + 1 := ⟨k - 1, by omega⟩
        go_roundw
        case rel =>
          refine ⟨k', D ++ [(⟨key, ⟨val, dead, at_, fin⟩, gone, shade, cols⟩, .slice ca cols.length cn)], t2, by simp; omega, by go_num, by rw [List.length_append] at ho9 ⊢; exact ho9, ?_, h6.grownOwn h hT6 hown6 hg9 (Nat.le_refl _), hT6.grown hg9 (fun b hb => (hown6.lt b hb).1), ?_⟩
          · intro p hp
            rcases List.mem_append.1 hp with hp | hp
            · exact TIn.keepOwn hown6 hg9 (by decide) ((TIn.touch9 hT5 ht.box (by decide) (HCS.out p hp)).ext hE6)
            · rw [List.mem_singleton.1 hp]
              exact TIn.keepOwn hown6 hg9 (by decide) (TIn.ext hE6 hct)
          · show R = _
            rw [HX.out, manyR_step _ _ _ rfl, HC.out]
            simp only [List.map_append, List.map_cons, List.map_nil, List.append_assoc, List.singleton_append]
        case measure => simp [intOf] <;> omega
      · have e0 : manyR (rowR B) k (i, e) = ([], (i, e)) := manyR_stop _ _ _ (.inr he)
        have e1 : R = (D.map (·.1), (i, e)) := by rw [HX.out, e0]; simp only [List.append_nil]
        go_wp2_with fail
        go_ret
        rw [e1]
        exact ⟨_, D, rfl, hown, HCS.out, rfl, ht, hTr⟩
    · have e0 : manyR (rowR B) k (i, e) = ([], (i, e)) := manyR_stop _ _ _ (.inl (by omega))
      have e1 : R = (D.map (·.1), (i, e)) := by rw [HX.out, e0]; simp only [List.append_nil]
      obtain rfl : k = 0 := by omega
      go_wp2_with fail
      go_ret
      rw [e1]
      exact ⟨_, D, rfl, hown, HCS.out, rfl, ht, hTr⟩
end Go.Proofs.YtcmgeccgahakbaaDoor

/- pack's reader: end, part, read. -/
namespace Go.Proofs.YtcmgeccgahakbaaDoor
open Go Go.RowKit
attribute [local go_sem] yields yUpon

def endR (B : List UInt8) (s : Nat × Int) : Nat × Int := if 0 < B.length - s.1 then failR 6 s else s
/-- A partition: its key, what is gone, its rows. -/
structure Pt where
  key : ByteArray
  gone : Int
  rows : List Ro
def prtR (B : List UInt8) (s : Nat × Int) : Pt × (Nat × Int) :=
  (⟨(txtR B s).1, ((numR B (txtR B s).2).1 : Int), (listR B (rowR B) (numR B (txtR B s).2).2).1⟩, endR B (listR B (rowR B) (numR B (txtR B s).2).2).2)
theorem RowsT.touch9 {x y : World} {q : Nat} {W : Array Value} {T : TypeId} {v : Value} {ps : List (Ro × Value)} (hT : Touch9 x y q) (hq : BoxAt x q W T) (h1 : 91 ≠ T) (h2 : 154 ≠ T) (h : RowsT x v ps) : RowsT y v ps :=
  ⟨TIn.touch9 hT hq h1 h.tin, fun p hp => TIn.touch9 hT hq h2 (h.typed p hp)⟩

set_option maxHeartbeats 1000000 in
theorem rd_end {w : World} {q : Nat} {v : Value} {B : List UInt8} {s : Nat × Int} (h : RdAt w q v B s) :
    Calls Tryd.prog 75 #[.pointer (some ⟨q, 0, none⟩)] w fun e w' => e = .returned (.tuple #[]) ∧ RdAt w' q v B (endR B s) ∧ Touch9 w w' q := by
  obtain ⟨lf, hlf⟩ : ∃ lf, lf = B.length - s.1 := ⟨_, rfl⟩
  have k1 := rd_left h
  unfold endR
  rw [← hlf] at k1 ⊢
  have K1 := Lib.hid k1
  clear k1 hlf
  by_cases h0 : 0 < lf
  · rw [if_pos h0]
    go_enter Tryd.func75, Tryd.ntmps75
    go_wp2_with (first
      | (go_at_call 120; go_must (refine K1.out.mono ?_); rintro e w1 ⟨rfl, hE1⟩; have h1 := h.ext hE1; have d : decide ((0 : Int) < (lf : Int)) = true := (decide_eq_true (by omega)))
      | (go_at_call 76; go_must (refine (rd_fail 6 h1).mono ?_); rintro e w2 ⟨rfl, h2, hT2⟩))
    go_end0
    exact ⟨rfl, h2, (Touch9.of_ext hE1 q).trans hT2⟩
  · rw [if_neg h0]
    have hz : lf = 0 := by omega
    subst hz
    go_enter Tryd.func75, Tryd.ntmps75
    go_wp2_with (first
      | (go_at_call 120; go_must (refine K1.out.mono ?_); rintro e w1 ⟨rfl, hE1⟩; have h1 := h.ext hE1))
    go_end0
    exact ⟨rfl, h1, Touch9.of_ext hE1 q⟩

set_option maxHeartbeats 1000000 in
theorem rd_read (v : Value) (l : List UInt8) (w : World) (hv : BytesIn w v l) (hl : l.length ≤ 900000) (hlow : ∀ b o k c, v = .slice (some ⟨b, o, none⟩) k c → b < w.heap.size) :
    Calls Tryd.prog 68 #[v] w fun e w' => e = .returned (.pointer (some ⟨w.heap.size, 0, none⟩)) ∧ RdAt w' w.heap.size v l (0, if l.length ≤ 262144 then 0 else 2) ∧ Ext w w' := by
  have hE0 := (Ext.refl w).alloc (.cells #[v, .int .i64 0, .int .i64 0] 120)
  have h0 : RdAt (w.alloc (.cells #[v, .int .i64 0, .int .i64 0] 120)) w.heap.size v l (0, 0) := ⟨BoxAt.made w _ _, hv.ext hE0, fun b o k c e => by have := hlow b o k c e; omega, Nat.zero_le _, hl⟩
  obtain ⟨a, c, rfl, _⟩ := h0.shape
  by_cases hc : l.length ≤ 262144
  · rw [if_pos hc]
    have d : ¬ (262144 : Int) < (l.length : Int) := by omega
    go_enter Tryd.func68, Tryd.ntmps68
    go_wp2_with fail
    go_ret
    exact ⟨rfl, h0, hE0⟩
  · rw [if_neg hc]
    have d : decide ((262144 : Int) < (l.length : Int)) = true := decide_eq_true (by omega)
    go_enter Tryd.func68, Tryd.ntmps68
    go_wp2_with (go_at_call 76; go_must (refine (rd_fail 2 h0).mono ?_); rintro e w2 ⟨rfl, h2, hT2⟩)
    go_ret
    exact ⟨rfl, h2, hT2.ext hE0 (Nat.le_refl _)⟩

set_option maxRecDepth 100000 in
set_option maxHeartbeats 4000000 in
theorem rd_part {w : World} {q : Nat} {v : Value} {B : List UInt8} {s : Nat × Int} (h : RdAt w q v B s) :
    Calls Tryd.prog 115 #[.pointer (some ⟨q, 0, none⟩)] w fun e w' => ∃ u ps, e = .returned (.agg (pa3 (prtR B s).1.key (prtR B s).1.gone u)) ∧ RowsT w' u ps ∧ ps.map (·.1) = (prtR B s).1.rows ∧ RdAt w' q v B (prtR B s).2 ∧ Touch9 w w' q := by
  have hq := h.lt
  have hE0 := (Ext.refl w).alloc (.cells (pa3 ⟨#[]⟩ 0 (.slice none 0 0)) 24)
  have b2 := BoxAt.made w (pa3 ⟨#[]⟩ 0 (.slice none 0 0)) 24
  have h0 := h.ext hE0
  have hq2 : w.heap.size ≠ q := by omega
  unfold prtR
  obtain ⟨X, s1, hX⟩ : ∃ X s1, txtR B s = (X, s1) := ⟨_, _, rfl⟩
  obtain ⟨G, s2, hG⟩ : ∃ G s2, numR B s1 = (G, s2) := ⟨_, _, rfl⟩
  obtain ⟨L, s3, hL⟩ : ∃ L s3, listR B (rowR B) s2 = (L, s3) := ⟨_, _, rfl⟩
  rw [hX]
  simp only
  rw [hG]
  simp only
  rw [hL]
  have k1 := rd_text h0
  rw [hX] at k1
  simp only at k1 ⊢
  have K1 := Lib.hid k1
  have HG := Lib.hid hG
  have HL := Lib.hid hL
  clear k1 hX hG hL
  go_enter Tryd.func115, Tryd.ntmps115
  go_wp2_with (go_at_call 118; go_must (refine K1.out.mono ?_); rintro e w1 ⟨rfl, h1, hT1⟩; have b21 := hT1.box b2 hq2; have hq3 : w1.heap.size ≠ q := (by have := h1.lt; omega))
  have b3 := BoxAt.made w1 (pa3 X 0 (.slice none 0 0)) 24
  have hEa := (Ext.refl w1).alloc (.cells (pa3 X 0 (.slice none 0 0)) 24)
  have h1a := h1.ext hEa
  have hT1a := (Touch9.of_ext hE0 q).trans (hT1.more hEa)
  have hle1 : w.heap.size ≤ w1.heap.size := by have := hE0.le; have := hT1.size; omega
  have hne23 : w.heap.size ≠ w1.heap.size := by have := b21.lt; omega
  refine (rd_number h1a).mono ?_
  rintro e w2 ⟨rfl, h2, hT2⟩
  rw [HG.out] at h2
  simp only at h2
  rw [HG.out]
  have b22 := hT2.box (b21.ext hEa) hq2
  have b32 := hT2.box b3 hq3
  have y1 : w2.cell? ⟨w1.heap.size, 1, none⟩ = some (.int .i64 0) := b32.cell 1
  have yf := b32.free
  have P2 := rd_done1 h ⟨h2, hT1a.trans hT2⟩ hle1 1 (.int .i64 (G : Int))
  have b33 : BoxAt (w2.setCell ⟨w1.heap.size, 1, none⟩ (.int .i64 (G : Int))) w1.heap.size #[.string X, .int .i64 (G : Int), .slice none 0 0] 24 := b32.set 1 _
  have b23 := b22.other hne23 1 (.int .i64 (G : Int))
  go_wp2_with fail
  generalize hw3 : World.setCell w2 _ _ = w3 at P2 b33 b23 ⊢
  clear hw3 y1 yf
  refine (rd_rows P2.1).mono ?_
  rintro e w4 ⟨u, ps, rfl, hown, hcs, hmap, h4, hT4⟩
  rw [HL.out] at h4 hmap
  simp only at h4 hmap
  have hown' := hown
  obtain ⟨ua, uc, rfl⟩ := own_shape hown'
  have hrt : RowsT w4 (.slice ua ps.length uc) ps := ⟨TIn.own hown, hcs⟩
  have b24 := hT4.box b23 hq2
  have b34 := hT4.box b33 hq3
  have y2 : w4.cell? ⟨w1.heap.size, 2, none⟩ = some (.slice none 0 0) := b34.cell 2
  have yf := b34.free
  have P4 := rd_done1 h ⟨h4, P2.2.trans hT4⟩ hle1 2 (.slice ua ps.length uc)
  have b35 : BoxAt (w4.setCell ⟨w1.heap.size, 2, none⟩ (.slice ua ps.length uc)) w1.heap.size (pa3 X (G : Int) (.slice ua ps.length uc)) 24 := b34.set 2 _
  have b25 := b24.other hne23 2 (.slice ua ps.length uc)
  have hr5 := RowsT.set 2 (.slice ua ps.length uc) b34 (by decide) (by decide) hrt
  go_wp2_with fail
  generalize hw5 : World.setCell w4 _ _ = w5 at P4 b35 b25 hr5 ⊢
  clear hw5 y2 yf
  refine (rd_end P4.1).mono ?_
  rintro e w6 ⟨rfl, h6, hT6⟩
  have b26 := hT6.box b25 hq2
  have b36 := hT6.box b35 hq3
  have hr6 := hr5.touch9 hT6 P4.1.box (by decide) (by decide)
  have z0 : w6.cell? ⟨w1.heap.size, 0, none⟩ = some (.string X) := b36.cell 0
  have z1 : w6.cell? ⟨w1.heap.size, 1, none⟩ = some (.int .i64 (G : Int)) := b36.cell 1
  have z2 : w6.cell? ⟨w1.heap.size, 2, none⟩ = some (.slice ua ps.length uc) := b36.cell 2
  have x0 : w6.cell? ⟨w.heap.size, 0, none⟩ = some (.string ⟨#[]⟩) := b26.cell 0
  have x1 : w6.cell? ⟨w.heap.size, 1, none⟩ = some (.int .i64 0) := b26.cell 1
  have x2 : w6.cell? ⟨w.heap.size, 2, none⟩ = some (.slice none 0 0) := b26.cell 2
  have xf := b26.free
  have P6 := rd_done1 h (rd_done1 h (rd_done1 h ⟨h6, P4.2.trans hT6⟩ (Nat.le_refl _) 0 (.string X)) (Nat.le_refl _) 1 (.int .i64 (G : Int))) (Nat.le_refl _) 2 (.slice ua ps.length uc)
  have hr7 := RowsT.set 2 (.slice ua ps.length uc) ((b26.set 0 (.string X)).set 1 (.int .i64 (G : Int))) (by decide) (by decide) (RowsT.set 1 (.int .i64 (G : Int)) (b26.set 0 (.string X)) (by decide) (by decide) (RowsT.set 0 (.string X) b26 (by decide) (by decide) hr6))
  go_wp2_with fail
  refine bodyPost_ret (v := .agg (pa3 X (G : Int) (.slice ua ps.length uc))) ?_ rfl ⟨_, ps, rfl, hr7, hmap, P6⟩
  generalize hW : World.setCell _ _ _ = w99
  have hb : BoxAt w99 w.heap.size (pa3 X (G : Int) (.slice ua ps.length uc)) 24 := by rw [← hW]; exact ((b26.set 0 _).set 1 _).set 2 _
  obtain ⟨z0, z1, z2⟩ := hb.pa
  simp [results, Tryd.results115, go_sem, z0, z1, z2]
  rfl
end Go.Proofs.YtcmgeccgahakbaaDoor
