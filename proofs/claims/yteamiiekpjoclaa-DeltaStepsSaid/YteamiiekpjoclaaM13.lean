/- Lists of rows in memory; 'append' to such a list of one's own; rows' columns that stay while such a list grows. -/
import Derived.Test.YteamiiekpjoclaaM9
import Derived.Test.YteamiiekpjoclaaM12
import Derived.Test.YteamiiekpjoclaaM5
namespace Go.Proofs.Yteamiiekpjoclaa
open Go Go.RowKit

theorem info_Row : (Try.prog.info? 55).map (fun i => (i.zero, i.size, i.bytes)) = some (some (.agg #[.string ⟨#[]⟩, .string ⟨#[]⟩, .bool false, .int .i64 0, .int .i64 0, .int .i64 0, .int .i64 0, .slice none 0 0]), 8, 96) := by kernel_rfl
theorem und_Rows : Try.prog.underlying 37 = some (.slice 55) := by kernel_rfl
/-- The cells of rows, each with the value of its columns. -/
def roCells : List (Ro × Value) → List Value
  | [] => []
  | p :: l => .string p.1.key :: .string p.1.live.val :: .bool p.1.live.dead :: .int .i64 p.1.live.at_ :: .int .i64 p.1.live.fin :: .int .i64 p.1.gone :: .int .i64 p.1.shade :: p.2 :: roCells l
theorem roCells_length (l : List (Ro × Value)) : (roCells l).length = l.length * 8 := by
  induction l with
  | nil => rfl
  | cons c l ih => simp [roCells, ih]; omega
theorem roCells_append (l m : List (Ro × Value)) : roCells (l ++ m) = roCells l ++ roCells m := by
  induction l with
  | nil => rfl
  | cons c l ih => simp [roCells, ih]
theorem roCells_get : ∀ (l : List (Ro × Value)) (k : Nat) (h : k < l.length) (j : Nat), j < 8 → (roCells l)[k * 8 + j]? = (ro8 l[k].1 l[k].2)[j]?
  | c :: l, 0, _, j, hj => by
    obtain rfl | rfl | rfl | rfl | rfl | rfl | rfl | rfl : j = 0 ∨ j = 1 ∨ j = 2 ∨ j = 3 ∨ j = 4 ∨ j = 5 ∨ j = 6 ∨ j = 7 := by omega
    all_goals simp [roCells, ro8]
  | c :: l, k + 1, h, j, hj => by
    have ih := roCells_get l k (by simpa using h) j hj
    have e : (k + 1) * 8 + j = k * 8 + j + 8 := by omega
    simp only [e, roCells, List.getElem_cons_succ]
    simpa using ih
/-- Rows in memory: v is a slice that reads as ps, each row's columns lie where its value says. -/
structure RowsIn (w : World) (v : Value) (ps : List (Ro × Value)) : Prop where
  rows : SliceIn w v ps.length (roCells ps)
  cols : ∀ p ∈ ps, ColsIn w p.2 p.1.cols
theorem RowsIn.ext {w w' : World} (hE : Ext w w') {v : Value} {ps : List (Ro × Value)} (h : RowsIn w v ps) : RowsIn w' v ps := ⟨h.rows.ext hE, fun p hp => (h.cols p hp).ext hE⟩
/-- A row at a place in memory. -/
structure RoAt (w : World) (b o : Nat) (r : Ro) (v : Value) : Prop where
  c0 : w.cell? ⟨b, o, none⟩ = some (.string r.key)
  c1 : w.cell? ⟨b, o + 1, none⟩ = some (.string r.live.val)
  c2 : w.cell? ⟨b, o + 2, none⟩ = some (.bool r.live.dead)
  c3 : w.cell? ⟨b, o + 3, none⟩ = some (.int .i64 r.live.at_)
  c4 : w.cell? ⟨b, o + 4, none⟩ = some (.int .i64 r.live.fin)
  c5 : w.cell? ⟨b, o + 5, none⟩ = some (.int .i64 r.gone)
  c6 : w.cell? ⟨b, o + 6, none⟩ = some (.int .i64 r.shade)
  c7 : w.cell? ⟨b, o + 7, none⟩ = some v
theorem RoAt.ext {w w' : World} (hE : Ext w w') {b o : Nat} {r : Ro} {v : Value} (h : RoAt w b o r v) : RoAt w' b o r v := ⟨hE.cell h.c0, hE.cell h.c1, hE.cell h.c2, hE.cell h.c3, hE.cell h.c4, hE.cell h.c5, hE.cell h.c6, hE.cell h.c7⟩
theorem RowsIn.get {w : World} {v : Value} {ps : List (Ro × Value)} (h : RowsIn w v ps) : ∃ a c, v = .slice a ps.length c ∧ ps.length ≤ c ∧ c ≤ 9223372036854775807 ∧ ∀ k (hk : k < ps.length), ∃ b o, a = some ⟨b, o, none⟩ ∧ RoAt w b (o + k * 8) ps[k].1 ps[k].2 := by
  obtain ⟨a, c, rfl, hc, hcm, ha, hcell⟩ := h.rows
  unfold maxLen at hcm
  refine ⟨a, c, rfl, hc, by omega, fun k hk => ?_⟩
  have g : ∀ j u, j < 8 → (ro8 ps[k].1 ps[k].2)[j]? = some u → ∃ b o, a = some ⟨b, o, none⟩ ∧ w.cell? ⟨b, o + (k * 8 + j), none⟩ = some u := fun j u hj he => hcell _ u ((roCells_get ps k hk j hj).trans he)
  obtain ⟨b, o, rfl, h0⟩ := g 0 _ (by decide) rfl
  obtain ⟨b1, o1, e1, h1⟩ := g 1 _ (by decide) rfl
  obtain ⟨b2, o2, e2, h2⟩ := g 2 _ (by decide) rfl
  obtain ⟨b3, o3, e3, h3⟩ := g 3 _ (by decide) rfl
  obtain ⟨b4, o4, e4, h4⟩ := g 4 _ (by decide) rfl
  obtain ⟨b5, o5, e5, h5⟩ := g 5 _ (by decide) rfl
  obtain ⟨b6, o6, e6, h6⟩ := g 6 _ (by decide) rfl
  obtain ⟨b7, o7, e7, h7⟩ := g 7 _ (by decide) rfl
  cases e1; cases e2; cases e3; cases e4; cases e5; cases e6; cases e7
  exact ⟨b, o, rfl, h0, h1, h2, h3, h4, h5, h6, h7⟩
theorem rows_one {w : World} {b : Nat} {r : Ro} {v : Value} {T : TypeId} (hb : BoxAt w b (ro8 r v) T) (hc : ColsIn w v r.cols) : RowsIn w (.slice (some ⟨b, 0, none⟩) 1 1) [(r, v)] :=
  ⟨⟨_, 1, rfl, Nat.le_refl _, by unfold maxLen; decide, nofun, fun j u hj => ⟨b, 0, rfl, by rw [Nat.zero_add, hb.cell j]; simpa [roCells, ro8] using hj⟩⟩, fun p hp => by rw [List.mem_singleton.1 hp]; exact hc⟩

theorem ColsIn.shape {w : World} {v : Value} {l : List Co} (h : ColsIn w v l) : ∃ a c, v = .slice a l.length c := by
  obtain ⟨a, c, e, _⟩ := h
  exact ⟨a, c, e⟩
theorem RowsIn.nil (w : World) : RowsIn w (.slice none 0 0) [] := ⟨SliceIn.nil w, nofun⟩
theorem roCells_one (l : List (Ro × Value)) (h : ∀ p ∈ l, ∃ a n c, p.2 = .slice a n c) : ∀ u ∈ roCells l, u.oneCell' = true := by
  induction l with
  | nil => intro u h; cases h
  | cons c l ih =>
    intro u hu
    simp only [roCells, List.mem_cons] at hu
    rcases hu with rfl | rfl | rfl | rfl | rfl | rfl | rfl | rfl | hu
    all_goals try rfl
    · obtain ⟨a, n, c, e⟩ := h _ (List.mem_cons_self ..)
      rw [e]
      rfl
    · exact ih (fun p hp => h p (List.mem_cons_of_mem _ hp)) u hu
theorem RowsIn.uncons {w : World} {v : Value} {l : List (Ro × Value)} (h : RowsIn w v l) (hl : 0 < l.length) : ∃ b o c A a cc l', l = (A, .slice a A.cols.length cc) :: l' ∧ v = .slice (some ⟨b, o, none⟩) l.length c ∧ l.length ≤ c ∧ c ≤ 9223372036854775807 ∧ RoAt w b o A (.slice a A.cols.length cc) ∧ ColsIn w (.slice a A.cols.length cc) A.cols ∧ RowsIn w (.slice (if c = 1 then some ⟨b, o, none⟩ else some ⟨b, o + 8, none⟩) (l.length - 1) (c - 1)) l' := by
  obtain ⟨a, c, rfl, hc, hcm, hg⟩ := h.get
  obtain ⟨b, o, rfl, h0⟩ := hg 0 hl
  cases l with
  | nil => cases hl
  | cons p l' =>
    obtain ⟨A, u⟩ := p
    have hcol := h.cols _ (List.mem_cons_self ..)
    obtain ⟨a, cc, e⟩ := hcol.shape
    simp only at e
    subst e
    refine ⟨b, o, c, A, a, cc, l', rfl, rfl, hc, hcm, by simpa using h0, hcol, ?_, fun p hp => h.cols p (List.mem_cons_of_mem _ hp)⟩
    obtain ⟨a', c', e, hc', hcm', ha', hcell⟩ := h.rows
    cases e
    refine ⟨if c = 1 then some ⟨b, o, none⟩ else some ⟨b, o + 8, none⟩, c - 1, by simp, by simp at hc' ⊢; omega, by unfold maxLen; omega, (by intro h; split at h <;> cases h), fun j u hj => ?_⟩
    obtain ⟨b', o', e, hx⟩ := hcell (j + 8) u (by simpa [roCells] using hj)
    cases e
    by_cases h1 : c = 1
    · have h2 : l' = [] := List.eq_nil_of_length_eq_zero (by simp at hc'; omega)
      subst h2
      cases hj
    · rw [if_neg h1]
      exact ⟨b, o + 8, rfl, by rw [Nat.add_assoc, Nat.add_comm 8 j]; exact hx⟩
theorem appRows {ops : Array Oper} {rest : List Oper} {o : Oper} {a : Act} {Q : Exit → Act → World → Prop} (w : World) (hg : o.guard = none) (s x : Operand)
    (hop : o.op = Op.call { callee := Callee.builtin Builtin.append, args := #[s, x], argTypes := #[37, 37] })
    (B : Nat) (hB : B ≤ w.heap.size) (v : Value) (l : List (Ro × Value)) (hown : w.ownsRow B 55 8 v l.length (roCells l)) (hs : a.eval s = v) (u : Value) (m : List (Ro × Value)) (hin : RowsIn w u m) (hx : a.eval x = u) (hb : l.length + m.length ≤ 1000000)
    (hK : ∀ v' w', w'.ownsRow B 55 8 v' (l ++ m).length (roCells (l ++ m)) → w.grownBy w' v.ownBlock → wpList Try.prog ops Q rest (a.put o.dst v') w') : wpList Try.prog ops Q (o :: rest) a w := by
  obtain ⟨i0, hi, hz0, hz1, hz2⟩ := info_parts info_Row
  obtain ⟨⟨ao, c, rfl, hc, hcm, ha, hcell⟩, hcols⟩ := hin
  have hone := roCells_one m (fun p hp => let ⟨a, c, e⟩ := (hcols p hp).shape; ⟨a, _, c, e⟩)
  cases ao with
  | none =>
    have hc0 := ha rfl
    obtain rfl : m = [] := List.eq_nil_of_length_eq_zero (by omega)
    subst hc0
    refine wpList_append_own_none hg s x 37 hop B 55 i0 8 und_Rows hi v l.length (roCells l) hs hown hx (hK _ _ (by rw [List.append_nil]; exact hown) ⟨rfl, rfl, rfl, Nat.le_refl _, fun _ _ _ => rfl⟩)
  | some ad =>
    refine wpList_append_own _ hg s x 37 hop B 55 i0 _ 8 96 und_Rows hi hz0 hz1 hz2 rfl (by decide) v l.length (roCells l) hs hown ad m.length c (roCells m) hx (roCells_length m) ?_ hone (by unfold maxLen; omega) (by omega) hB ?_
    · intro j u hj
      obtain ⟨b, o, e, h⟩ := hcell j u hj
      cases e
      rw [Addr.add_lit]
      exact h
    · intro v' w' h2 h3 _
      refine hK v' w' ?_ h3
      rw [roCells_append, List.length_append]
      exact h2

/-- A row's columns that stay: they lie in the first world, or are one's own. -/
def SafeC (w x : World) (p : Ro × Value) : Prop := ColsIn w p.2 p.1.cols ∨ x.ownsRow w.heap.size 58 5 p.2 p.1.cols.length (coCells p.1.cols)
theorem SafeC.ext {w x y : World} {p : Ro × Value} (hE : Ext x y) (h : SafeC w x p) : SafeC w y p := h.imp_right fun h => ownsRow_ext h hE
theorem SafeC.grown {w x y : World} {p : Ro × Value} {B n : Nat} {v : Value} {xs : List Value} (hown : x.ownsRow B 55 8 v n xs) (hg : x.grownBy y v.ownBlock) (h : SafeC w x p) : SafeC w y p :=
  h.imp_right fun h => h.kept hg (own_ne_own h hown (by decide))
theorem SafeC.cols {w x : World} {p : Ro × Value} (hE : Ext w x) (h : SafeC w x p) : ColsIn x p.2 p.1.cols := by
  rcases h with h | h
  · exact h.ext hE
  · exact cols_own h
theorem rows_own {w x : World} {B : Nat} {v : Value} {l : List (Ro × Value)} (h : x.ownsRow B 55 8 v l.length (roCells l)) (hE : Ext w x) (hs : ∀ p ∈ l, SafeC w x p) : RowsIn x v l :=
  ⟨SliceIn.of_owns h, fun p hp => (hs p hp).cols hE⟩

/-- A slice that reads as cells, in a block of its own type: what a store to a block of another type leaves alone. -/
def TIn (x : World) (e : TypeId) (v : Value) (n : Nat) (xs : List Value) : Prop := (v = .slice none 0 0 ∧ n = 0 ∧ xs = []) ∨ ∃ b c Z, v = .slice (some ⟨b, 0, none⟩) n c ∧ BoxAt x b Z e ∧ n ≤ c ∧ c ≤ maxLen ∧ ∀ (j : Nat) u, xs[j]? = some u → Z[j]? = some u
theorem box_ne {x : World} {p q : Nat} {A B : Array Value} {S T : TypeId} (h : BoxAt x p A S) (h' : BoxAt x q B T) (hne : S ≠ T) : p ≠ q := by
  rintro rfl
  unfold BoxAt at h h'
  rw [h] at h'
  injection h' with h'
  injection h' with _ h'
  exact hne h'
theorem TIn.nil (x : World) (e : TypeId) : TIn x e (.slice none 0 0) 0 [] := .inl ⟨rfl, rfl, rfl⟩
theorem TIn.slice {x : World} {e : TypeId} {v : Value} {n : Nat} {xs : List Value} (h : TIn x e v n xs) : SliceIn x v n xs := by
  rcases h with ⟨rfl, rfl, rfl⟩ | ⟨b, c, Z, rfl, hb, hn, hc, hx⟩
  · exact SliceIn.nil x
  · exact ⟨_, _, rfl, hn, hc, nofun, fun j u hj => ⟨b, 0, rfl, by rw [Nat.zero_add, hb.cell j]; exact hx j u hj⟩⟩
theorem TIn.box {x : World} {e : TypeId} {b n : Nat} {xs : List Value} (hb : BoxAt x b xs.toArray e) (hn : n ≤ maxLen) : TIn x e (.slice (some ⟨b, 0, none⟩) n n) n xs :=
  .inr ⟨b, n, _, rfl, hb, Nat.le_refl _, hn, fun j u hj => by simpa using hj⟩
theorem TIn.own {x : World} {B : Nat} {e : TypeId} {size : Nat} {v : Value} {n : Nat} {xs : List Value} (h : x.ownsRow B e size v n xs) : TIn x e v n xs := by
  obtain ⟨hl, h⟩ := h
  rcases h with ⟨rfl, rfl⟩ | ⟨g, cap, cur, rfl, _, hg, hn, hm, hs, ht⟩
  · exact .inl ⟨rfl, rfl, List.eq_nil_of_length_eq_zero (by simpa using hl)⟩
  · refine .inr ⟨g, cap, cur, rfl, hg, hn, hm, fun j u hj => ?_⟩
    have hjl : j < n * size := by
      have := (List.getElem?_eq_some_iff.1 hj).1
      omega
    rw [← ht, List.getElem?_take, if_pos hjl] at hj
    simpa using hj
theorem TIn.ext {x y : World} {e : TypeId} {v : Value} {n : Nat} {xs : List Value} (hE : Ext x y) (h : TIn x e v n xs) : TIn y e v n xs := h.imp_right fun ⟨b, c, Z, e, hb, h⟩ => ⟨b, c, Z, e, hb.ext hE, h⟩
theorem TIn.keep {x y : World} {e : TypeId} {v : Value} {n : Nat} {xs : List Value} {q : Nat} {W : Array Value} {T : TypeId} (hg : x.grownBy y (some q)) (hq : BoxAt x q W T) (hne : e ≠ T) (h : TIn x e v n xs) : TIn y e v n xs :=
  h.imp_right fun ⟨b, c, Z, e, hb, h⟩ => ⟨b, c, Z, e, hb.grown hg (fun e => box_ne hb hq hne (Option.some.inj e)), h⟩
theorem TIn.set {x : World} {e : TypeId} {v : Value} {n : Nat} {xs : List Value} {q : Nat} {W : Array Value} {T : TypeId} (i : Nat) (u : Value) (hq : BoxAt x q W T) (hne : e ≠ T) (h : TIn x e v n xs) : TIn (x.setCell ⟨q, i, none⟩ u) e v n xs :=
  h.imp_right fun ⟨b, c, Z, e, hb, h⟩ => ⟨b, c, Z, e, hb.other (box_ne hb hq hne) i u, h⟩
theorem TIn.keepOwn {x y : World} {e : TypeId} {v : Value} {n : Nat} {xs : List Value} {B : Nat} {T : TypeId} {size m : Nat} {vo : Value} {ys : List Value} (hown : x.ownsRow B T size vo m ys) (hg : x.grownBy y vo.ownBlock) (hne : e ≠ T) (h : TIn x e v n xs) : TIn y e v n xs :=
  h.imp_right fun ⟨b, c, Z, e, hb, h⟩ => ⟨b, c, Z, e, hb.grown hg (fun e => by
    rcases own_ne_box hown hb (fun e => hne e.symm) with h | h
    · rw [h] at e; cases e
    · exact h e.symm), h⟩
theorem TIn.shape {x : World} {e : TypeId} {v : Value} {n : Nat} {xs : List Value} (h : TIn x e v n xs) : ∃ a c, v = .slice a n c := by
  rcases h with ⟨rfl, rfl, rfl⟩ | ⟨b, c, Z, e, _⟩
  · exact ⟨_, _, rfl⟩
  · exact ⟨_, _, e⟩

/-- Columns, rows in blocks of their own types. -/
def ColsT (x : World) (v : Value) (l : List Co) : Prop := TIn x 58 v l.length (coCells l)
structure RowsT (x : World) (v : Value) (qs : List (Ro × Value)) : Prop where
  tin : TIn x 55 v qs.length (roCells qs)
  typed : ∀ p ∈ qs, ColsT x p.2 p.1.cols
theorem ColsT.cols {x : World} {v : Value} {l : List Co} (h : ColsT x v l) : ColsIn x v l := TIn.slice h
theorem ColsT.nil (x : World) : ColsT x (.slice none 0 0) [] := TIn.nil x _
theorem ColsT.ext {x y : World} {v : Value} {l : List Co} (hE : Ext x y) (h : ColsT x v l) : ColsT y v l := TIn.ext hE h
theorem ColsT.keep {x y : World} {v : Value} {l : List Co} {q : Nat} {Z : Array Value} {T : TypeId} (hg : x.grownBy y (some q)) (hb : BoxAt x q Z T) (h2 : 58 ≠ T) (h : ColsT x v l) : ColsT y v l := TIn.keep hg hb h2 h
theorem RowsT.rows {x : World} {v : Value} {qs : List (Ro × Value)} (h : RowsT x v qs) : RowsIn x v qs := ⟨h.tin.slice, fun p hp => (h.typed p hp).cols⟩
theorem RowsT.ext {x y : World} {v : Value} {qs : List (Ro × Value)} (hE : Ext x y) (h : RowsT x v qs) : RowsT y v qs := ⟨h.tin.ext hE, fun p hp => (h.typed p hp).ext hE⟩
theorem RowsT.keep {x y : World} {v : Value} {qs : List (Ro × Value)} {q : Nat} {Z : Array Value} {T : TypeId} (hg : x.grownBy y (some q)) (hb : BoxAt x q Z T) (h1 : 55 ≠ T) (h2 : 58 ≠ T) (h : RowsT x v qs) : RowsT y v qs :=
  ⟨h.tin.keep hg hb h1, fun p hp => (h.typed p hp).keep hg hb h2⟩
theorem RowsT.set {x : World} {v : Value} {qs : List (Ro × Value)} {q : Nat} {Z : Array Value} {T : TypeId} (i : Nat) (u : Value) (hb : BoxAt x q Z T) (h1 : 55 ≠ T) (h2 : 58 ≠ T) (h : RowsT x v qs) : RowsT (x.setCell ⟨q, i, none⟩ u) v qs :=
  ⟨h.tin.set i u hb h1, fun p hp => TIn.set i u hb h2 (h.typed p hp)⟩
theorem RowsT.keepOwn {x y : World} {v : Value} {qs : List (Ro × Value)} {B : Nat} {T : TypeId} {size m : Nat} {vo : Value} {ys : List Value} (hown : x.ownsRow B T size vo m ys) (hg : x.grownBy y vo.ownBlock) (h1 : 55 ≠ T) (h2 : 58 ≠ T) (h : RowsT x v qs) : RowsT y v qs :=
  ⟨h.tin.keepOwn hown hg h1, fun p hp => TIn.keepOwn hown hg h2 (h.typed p hp)⟩
theorem RowsT.nil (x : World) : RowsT x (.slice none 0 0) [] := ⟨TIn.nil x _, nofun⟩
theorem RowsT.shape {x : World} {v : Value} {qs : List (Ro × Value)} (h : RowsT x v qs) : ∃ a c, v = .slice a qs.length c := h.tin.shape
theorem RowsT.one {x : World} {b : Nat} {r : Ro} {v : Value} (hb : BoxAt x b (ro8 r v) 55) (hc : ColsT x v r.cols) : RowsT x (.slice (some ⟨b, 0, none⟩) 1 1) [(r, v)] :=
  ⟨TIn.box (xs := roCells [(r, v)]) hb (by unfold maxLen; decide), fun p hp => by rw [List.mem_singleton.1 hp]; exact hc⟩
end Go.Proofs.Yteamiiekpjoclaa

/- project.Mirror, whether a row has a mirror or none. -/
namespace Go.Proofs.Yteamiiekpjoclaa
open Go Go.RowKit

/-- What mirrors a row: the partition's key and its one row. -/
def mirOf (x : Vw) (ns : List ByteArray) (pk : ByteArray) (pg : Int) (r : Ro) : Option (ByteArray × Ro) :=
  if bestB (cellOf r.cols x.on) (max r.gone pg) then some ((cellOf r.cols x.on).val, ⟨vkey pk r.key, ⟨⟨#[]⟩, false, (cellOf r.cols x.on).at_, (cellOf r.cols x.on).fin⟩, max r.gone pg, 0, r.cols.filter (keeps ns)⟩) else none
def mirK (m : Option (ByteArray × Ro)) : ByteArray := match m with
  | some p => p.1
  | none => ⟨#[]⟩
def mirR (m : Option (ByteArray × Ro)) : List Ro := match m with
  | some p => [p.2]
  | none => []
theorem mirror_any (s : Value) (x : Vw) (u : Value) (ns : List ByteArray) (pk : ByteArray) (pg : Int) (pu : Value) (r : Ro) (v : Value) (w : World) (hin : ColsIn w v r.cols) (hlc : r.cols.length ≤ 1000000) (hns : StrsIn w u ns)
    (hk : pk.size ≤ 10000000) (hr : r.key.size ≤ 10000000) (hkl : (vkey pk r.key).size ≤ 400) :
    Calls Try.prog 31 #[tabV s, .agg #[.string x.name, .int .i64 x.id, .string x.table, .string x.on, u], .agg #[.string pk, .int .i64 pg, pu], (.agg #[.string r.key, .string r.live.val, .bool r.live.dead, .int .i64 r.live.at_, .int .i64 r.live.fin, .int .i64 r.gone, .int .i64 r.shade, v])] w fun e w' =>
      ∃ rv, e = .returned (.tuple #[.agg #[.string (mirK (mirOf x ns pk pg r)), .int .i64 0, rv], .bool (mirOf x ns pk pg r).isSome]) ∧ ∃ ps, RowsT w' rv ps ∧ ps.map (·.1) = mirR (mirOf x ns pk pg r) ∧ Ext w w' := by
  cases hb : bestB (cellOf r.cols x.on) (max r.gone pg) with
  | true =>
    have e : mirOf x ns pk pg r = some ((cellOf r.cols x.on).val, ⟨vkey pk r.key, ⟨⟨#[]⟩, false, (cellOf r.cols x.on).at_, (cellOf r.cols x.on).fin⟩, max r.gone pg, 0, r.cols.filter (keeps ns)⟩) := by unfold mirOf; rw [if_pos hb]
    rw [e]
    refine (mirror_some s x u ns pk pg pu r v w hin hlc hns hb hk hr hkl).mono ?_
    rintro e w' ⟨b, v', rfl, hwb, hbox, hown, hE⟩
    exact ⟨_, rfl, _, RowsT.one hbox (TIn.own hown), rfl, hE⟩
  | false =>
    have e : mirOf x ns pk pg r = none := by unfold mirOf; rw [if_neg (by rw [hb]; decide)]
    rw [e]
    refine (mirror_none s x u pk pg pu r v w hin hb hk hr).mono ?_
    rintro e w' ⟨rfl, hE⟩
    exact ⟨_, rfl, [], RowsT.nil _, rfl, hE⟩
end Go.Proofs.Yteamiiekpjoclaa

/- Cells as one thing: their joins, their order; the plain laws; the walks again, so said. -/
namespace Go.Proofs.Yteamiiekpjoclaa
open Go Go.RowKit

def cmpCl (x y : Cl) : Int := cmpC x.val x.dead x.at_ x.fin y.val y.dead y.at_ y.fin
def joinCl (x y : Cl) : Cl := if cmpCl x y < 0 then y else x
def sameCl (x y : Cl) : Bool := sameC x.val x.dead x.at_ x.fin y.val y.dead y.at_ y.fin

theorem join_c (v : ByteArray) (d : Bool) (a e : Int) (v' : ByteArray) (d' : Bool) (a' e' : Int) (w : World) :
    Calls Try.prog 89 #[.agg #[.string v, .bool d, .int .i64 a, .int .i64 e], .agg #[.string v', .bool d', .int .i64 a', .int .i64 e']] w fun r w' =>
      r = .returned (.agg #[.string (joinCl ⟨v, d, a, e⟩ ⟨v', d', a', e'⟩).val, .bool (joinCl ⟨v, d, a, e⟩ ⟨v', d', a', e'⟩).dead, .int .i64 (joinCl ⟨v, d, a, e⟩ ⟨v', d', a', e'⟩).at_, .int .i64 (joinCl ⟨v, d, a, e⟩ ⟨v', d', a', e'⟩).fin]) ∧ Ext w w' :=
  (join_any v d a e v' d' a' e' w).mono fun r w' h => ⟨by
    rw [h.1]
    unfold joinCl cmpCl
    split <;> rfl, h.2⟩

/-! ### The order of cells -/
theorem cmpI_anti (x y : Int) : cmpI y x = -cmpI x y := by unfold cmpI; split <;> split <;> (try split) <;> (try split) <;> omega
theorem cmpI_zero {x y : Int} (h : cmpI x y = 0) : x = y := by unfold cmpI at h; split at h <;> (try split at h) <;> omega
theorem cmpI_self (x : Int) : cmpI x x = 0 := by unfold cmpI; split <;> (try split) <;> omega
theorem cmpI_trans {x y z : Int} (h1 : cmpI x y ≤ 0) (h2 : cmpI y z ≤ 0) : cmpI x z ≤ 0 := by
  unfold cmpI at *
  split at h1 <;> split at h2 <;> (try split at h1) <;> (try split at h2) <;> split <;> (try split) <;> omega
theorem cmpB_anti (l m : List UInt8) : cmpB m l = -cmpB l m := by
  rw [cmpB_less, cmpB_less]
  rcases less_tri l m with h | h | h
  · rw [h, less_asymm h]; rfl
  · subst h; rw [less_irrefl]; rfl
  · rw [h, less_asymm h]; rfl
theorem cmpB_zero {l m : List UInt8} (h : cmpB l m = 0) : l = m := by
  rw [cmpB_less] at h
  rcases less_tri l m with g | g | g
  · rw [g] at h; simp at h
  · exact g
  · rw [g, less_asymm g] at h; simp at h
theorem cmpB_self (l : List UInt8) : cmpB l l = 0 := by rw [cmpB_less, less_irrefl]; rfl
theorem cmpB_le {l m : List UInt8} : cmpB l m ≤ 0 ↔ less m l = false := by
  rw [cmpB_less]
  rcases less_tri l m with h | h | h
  · rw [h, less_asymm h]; simp
  · subst h; rw [less_irrefl]; simp
  · rw [h, less_asymm h]; simp
theorem cmpB_trans {x y z : List UInt8} (h1 : cmpB x y ≤ 0) (h2 : cmpB y z ≤ 0) : cmpB x z ≤ 0 := by
  rw [cmpB_le] at *
  cases h : less z x with
  | false => rfl
  | true =>
    rcases less_tri y x with g | g | g
    · rw [h1] at g; cases g
    · subst g; rw [h2] at h; cases h
    · rw [less_trans h g] at h2; cases h2
theorem cmpB_small (l m : List UInt8) : -1 ≤ cmpB l m ∧ cmpB l m ≤ 1 := by rw [cmpB_less]; split <;> (try split) <;> omega
theorem cmpI_small (l m : Int) : -1 ≤ cmpI l m ∧ cmpI l m ≤ 1 := by unfold cmpI; split <;> (try split) <;> omega
theorem bit_inj {a b : Bool} (h : bit a = bit b) : a = b := by cases a <;> cases b <;> simp [bit] at h ⊢

/-- The end, as a number by which it is compared: none is above all. -/
theorem endC_anti (x y : Int) : endC y x = -endC x y := by
  unfold endC
  by_cases hx : x = 0 <;> by_cases hy : y = 0 <;> simp [hx, hy, cmpI, bit]
  exact cmpI_anti x y
theorem endC_zero {x y : Int} (h : endC x y = 0) : x = y := by
  unfold endC at h
  by_cases hx : x = 0 <;> by_cases hy : y = 0 <;> simp [hx, hy, cmpI, bit] at h ⊢
  exact cmpI_zero h
theorem endC_self (x : Int) : endC x x = 0 := by
  unfold endC
  by_cases hx : x = 0 <;> simp [hx, cmpI, bit]
theorem endC_trans {x y z : Int} (h1 : endC x y ≤ 0) (h2 : endC y z ≤ 0) : endC x z ≤ 0 := by
  unfold endC at *
  by_cases hx : x = 0 <;> by_cases hy : y = 0 <;> by_cases hz : z = 0 <;> simp [hx, hy, hz, cmpI, bit] at h1 h2 ⊢
  exact cmpI_trans h1 h2

theorem cmpCl_anti (x y : Cl) : cmpCl y x = -cmpCl x y := by
  unfold cmpCl cmpC or4
  rw [cmpI_anti x.at_ y.at_, cmpI_anti (bit x.dead) (bit y.dead), cmpB_anti x.val.data.toList y.val.data.toList, endC_anti x.fin y.fin]
  simp only [Int.neg_eq_zero]
  split
  · split
    · split <;> rfl
    · rfl
  · rfl
theorem cmpCl_zero {x y : Cl} (h : cmpCl x y = 0) : x = y := by
  unfold cmpCl cmpC or4 at h
  split at h
  · rename_i h1
    split at h
    · rename_i h2
      split at h
      · rename_i h3
        have e1 := cmpI_zero h1
        have e2 := bit_inj (cmpI_zero h2)
        have e3 : x.val = y.val := ByteArray.ext (Array.toList_inj.1 (cmpB_zero h3))
        have e4 := endC_zero h
        cases x; cases y
        simp at e1 e2 e3 e4
        subst e1 e2 e3 e4
        rfl
      · exact absurd h ‹_›
    · exact absurd h ‹_›
  · exact absurd h ‹_›
theorem cmpCl_self (x : Cl) : cmpCl x x = 0 := by unfold cmpCl cmpC or4; simp [cmpI_self, cmpB_self, endC_self]
theorem or4_le {a b c d : Int} : or4 a b c d ≤ 0 ↔ a < 0 ∨ a = 0 ∧ (b < 0 ∨ b = 0 ∧ (c < 0 ∨ c = 0 ∧ d ≤ 0)) := by
  unfold or4
  split
  · split
    · split <;> omega
    · omega
  · omega
theorem strict3 {α : Type} {c : α → α → Int} (anti : ∀ x y, c y x = -c x y) (zero : ∀ {x y}, c x y = 0 → x = y) (trans : ∀ {x y z}, c x y ≤ 0 → c y z ≤ 0 → c x z ≤ 0) {x y z : α} (h1 : c x y ≤ 0) (h2 : c y z ≤ 0) :
    c x z ≤ 0 ∧ (c x z = 0 → c x y = 0 ∧ c y z = 0) := by
  refine ⟨trans h1 h2, fun h => ?_⟩
  have e := zero h
  subst e
  have := anti x y
  omega
theorem cmpCl_trans {x y z : Cl} (h1 : cmpCl x y ≤ 0) (h2 : cmpCl y z ≤ 0) : cmpCl x z ≤ 0 := by
  unfold cmpCl cmpC at *
  rw [or4_le] at *
  have t1 := @strict3 Int cmpI cmpI_anti (fun h => cmpI_zero h) (fun a b => cmpI_trans a b) x.at_ y.at_ z.at_
  have t2 := @strict3 Int cmpI cmpI_anti (fun h => cmpI_zero h) (fun a b => cmpI_trans a b) (bit x.dead) (bit y.dead) (bit z.dead)
  have t3 := @strict3 (List UInt8) cmpB cmpB_anti (fun h => cmpB_zero h) (fun a b => cmpB_trans a b) x.val.data.toList y.val.data.toList z.val.data.toList
  have t4 := @endC_trans x.fin y.fin z.fin
  generalize cmpI x.at_ y.at_ = a1 at *
  generalize cmpI y.at_ z.at_ = a2 at *
  generalize cmpI x.at_ z.at_ = a3 at *
  generalize cmpI (bit x.dead) (bit y.dead) = b1 at *
  generalize cmpI (bit y.dead) (bit z.dead) = b2 at *
  generalize cmpI (bit x.dead) (bit z.dead) = b3 at *
  generalize cmpB x.val.data.toList y.val.data.toList = c1 at *
  generalize cmpB y.val.data.toList z.val.data.toList = c2 at *
  generalize cmpB x.val.data.toList z.val.data.toList = c3 at *
  generalize endC x.fin y.fin = d1 at *
  generalize endC y.fin z.fin = d2 at *
  generalize endC x.fin z.fin = d3 at *
  have t1 := t1 (by omega) (by omega)
  by_cases k1 : a3 = 0
  · have := t1.2 k1
    have t2 := t2 (by omega) (by omega)
    by_cases k2 : b3 = 0
    · have := t2.2 k2
      have t3 := t3 (by omega) (by omega)
      by_cases k3 : c3 = 0
      · have := t3.2 k3
        have t4 := t4 (by omega) (by omega)
        omega
      · omega
    · omega
  · omega
/-! ### Joins -/
theorem joinCl_comm (x y : Cl) : joinCl x y = joinCl y x := by
  unfold joinCl
  have h := cmpCl_anti x y
  by_cases h1 : cmpCl x y < 0
  · rw [if_pos h1, if_neg (by omega)]
  · by_cases h2 : cmpCl y x < 0
    · rw [if_neg h1, if_pos h2]
    · rw [if_neg h1, if_neg h2]; exact cmpCl_zero (by omega)
theorem joinCl_self (x : Cl) : joinCl x x = x := by unfold joinCl; split <;> rfl
theorem joinCl_or (x y : Cl) : joinCl x y = x ∨ joinCl x y = y := by unfold joinCl; split <;> simp
theorem le_joinCl_left (x y : Cl) : 0 ≤ cmpCl (joinCl x y) x := by
  unfold joinCl
  have h := cmpCl_anti x y
  split
  · omega
  · rw [cmpCl_self]; omega
theorem le_joinCl_right (x y : Cl) : 0 ≤ cmpCl (joinCl x y) y := by rw [joinCl_comm]; exact le_joinCl_left y x
/-- The join is the least that is above both. -/
theorem joinCl_le {x y z : Cl} (h1 : cmpCl x z ≤ 0) (h2 : cmpCl y z ≤ 0) : cmpCl (joinCl x y) z ≤ 0 := by
  rcases joinCl_or x y with h | h <;> rw [h] <;> assumption
theorem le_antisymm {x y : Cl} (h1 : cmpCl x y ≤ 0) (h2 : cmpCl y x ≤ 0) : x = y := cmpCl_zero (by have := cmpCl_anti x y; omega)
theorem ge_le {x y : Cl} (h : 0 ≤ cmpCl x y) : cmpCl y x ≤ 0 := by have := cmpCl_anti x y; omega
theorem joinCl_assoc (x y z : Cl) : joinCl (joinCl x y) z = joinCl x (joinCl y z) := by
  have a1 := ge_le (le_joinCl_left x y)
  have a2 := ge_le (le_joinCl_right x y)
  have a3 := ge_le (le_joinCl_left (joinCl x y) z)
  have a4 := ge_le (le_joinCl_right (joinCl x y) z)
  have b1 := ge_le (le_joinCl_left y z)
  have b2 := ge_le (le_joinCl_right y z)
  have b3 := ge_le (le_joinCl_left x (joinCl y z))
  have b4 := ge_le (le_joinCl_right x (joinCl y z))
  exact le_antisymm (joinCl_le (joinCl_le b3 (cmpCl_trans b1 b4)) (cmpCl_trans b2 b4)) (joinCl_le (cmpCl_trans a1 a3) (joinCl_le (cmpCl_trans a2 a3) a4))
theorem joinCl_again (x y : Cl) : joinCl (joinCl x y) x = joinCl x y := by
  rw [joinCl_comm (joinCl x y) x, ← joinCl_assoc, joinCl_self]
theorem sameCl_iff (x y : Cl) : sameCl x y = true ↔ x = y := by
  unfold sameCl sameC
  simp only [Bool.and_eq_true, beq_iff_eq]
  constructor
  · rintro ⟨⟨⟨e3, e2⟩, e1⟩, e4⟩
    rw [ByteArray.toList_eq, ByteArray.toList_eq] at e3
    replace e3 : x.val = y.val := ByteArray.ext (Array.toList_inj.1 e3)
    cases x; cases y
    simp at e1 e2 e3 e4
    subst e1 e2 e3 e4
    rfl
  · rintro rfl; simp

theorem rjoin_c (v : ByteArray) (d : Bool) (a e : Int) (v' : ByteArray) (d' : Bool) (a' e' : Int) (w : World) :
    Calls Try.prog 101 #[.agg #[.string v, .bool d, .int .i64 a, .int .i64 e], .agg #[.string v', .bool d', .int .i64 a', .int .i64 e']] w fun r w' =>
      r = .returned (.agg #[.string (joinCl ⟨v, d, a, e⟩ ⟨v', d', a', e'⟩).val, .bool (joinCl ⟨v, d, a, e⟩ ⟨v', d', a', e'⟩).dead, .int .i64 (joinCl ⟨v, d, a, e⟩ ⟨v', d', a', e'⟩).at_, .int .i64 (joinCl ⟨v, d, a, e⟩ ⟨v', d', a', e'⟩).fin]) ∧ Ext w w' :=
  (rjoin_any v d a e v' d' a' e' w).mono fun r w' h => ⟨by
    rw [h.1]
    unfold joinCl cmpCl
    split <;> rfl, h.2⟩
theorem rsame_c (v : ByteArray) (d : Bool) (a e : Int) (v' : ByteArray) (d' : Bool) (a' e' : Int) (w : World) :
    Calls Try.prog 90 #[.agg #[.string v, .bool d, .int .i64 a, .int .i64 e], .agg #[.string v', .bool d', .int .i64 a', .int .i64 e']] w fun r w' =>
      r = .returned (.bool (sameCl ⟨v, d, a, e⟩ ⟨v', d', a', e'⟩)) ∧ Ext w w' := rsame_any v d a e v' d' a' e' w
theorem rcmp_c (v : ByteArray) (d : Bool) (a e : Int) (v' : ByteArray) (d' : Bool) (a' e' : Int) (w : World) :
    Calls Try.prog 112 #[.agg #[.string v, .bool d, .int .i64 a, .int .i64 e], .agg #[.string v', .bool d', .int .i64 a', .int .i64 e']] w fun r w' =>
      r = .returned (.int .i64 (cmpCl ⟨v, d, a, e⟩ ⟨v', d', a', e'⟩)) ∧ Ext w w' := rcmp_any v d a e v' d' a' e' w
end Go.Proofs.Yteamiiekpjoclaa
