/- Appends to rows of one's own inside regions that draw their order: what an append does to the block it may write to, cell by cell. -/
import Derived.Test.YtmjhdfifbjdgpaaQ7
set_option linter.unusedSimpArgs false
set_option linter.unusedVariables false
namespace Go.Proofs.Ytmjhdfifbjdgpaa
open Go Go.RowKit

/-- An append of N to a row of one's own that holds X (k elements). -/
def AppE (T : TypeId) (size S k : Nat) (X N : List Value) (x y : World) : Prop :=
  ∃ vo, x.ownsRow S T size vo k X ∧ x.grownBy y vo.ownBlock ∧ ∀ g, vo.ownBlock = some g → ∀ cur, x.heap[g]? = some (.cells cur T (0, 0)) →
    ∃ cur2, y.heap[g]? = some (.cells cur2 T (0, 0)) ∧ cur2.size = cur.size ∧ ∀ i, cur2[i]? = cur[i]? ∨ (k * size ≤ i ∧ i < k * size + N.length ∧ cur2[i]? = N[i - k * size]?)
section
variable {T : TypeId} {size S k : Nat} {X N : List Value} {x y : World}
theorem AppE.to {w : World} (hS : w.heap.size ≤ S) (h : AppE T size S k X N x y) (hE : Ext w x) : Ext w y := by
  obtain ⟨vo, ho, hg, _⟩ := h
  exact hE.grown hg (fun q hq => by have := (ho.lt q hq).1; omega)
theorem AppE.le (h : AppE T size S k X N x y) : x.heap.size ≤ y.heap.size := by
  obtain ⟨vo, ho, hg, _⟩ := h
  exact hg.size
theorem AppE.keep (h : AppE T size S k X N x y) {S' : Nat} {v : Value} {m : Nat} {Y : List Value} (ho : x.ownsRow S' T size v m Y) (hY : ∀ i u, Y[i]? = some u → k * size ≤ i → i < k * size + N.length → N[i - k * size]? = some u) : y.ownsRow S' T size v m Y := by
  obtain ⟨vo, _, hg, hc⟩ := h
  refine ⟨ho.1, ho.2.imp id ?_⟩
  rintro ⟨g, cap, cur, rfl, hb, hh, hmc, hcm, hcs, ht⟩
  by_cases e : vo.ownBlock = some g
  · obtain ⟨cur2, h2, hs2, hi⟩ := hc g e cur hh
    refine ⟨g, cap, cur2, rfl, hb, h2, hmc, hcm, by rw [hs2, hcs], ?_⟩
    apply List.ext_getElem?
    intro i
    by_cases hlt : i < m * size
    · have hYi : Y[i]? = cur[i]? := by rw [← ht, List.getElem?_take, if_pos hlt, Array.getElem?_toList]
      rw [List.getElem?_take, if_pos hlt, Array.getElem?_toList]
      rcases hi i with h1 | ⟨h1, h1', h2⟩
      · rw [h1, hYi]
      · have hl : i < Y.length := by rw [ho.1]; exact hlt
        rw [h2, hY i _ (List.getElem?_eq_getElem hl) h1 h1', List.getElem?_eq_getElem hl]
    · rw [List.getElem?_take, if_neg hlt, List.getElem?_eq_none (by rw [ho.1]; omega)]
  · exact ⟨g, cap, cur, rfl, hb, by rw [hg.block g (Array.getElem?_eq_some_iff.1 hh).1 (fun h => e h.symm)]; exact hh, hmc, hcm, hcs, ht⟩
theorem AppE.keep_short (h : AppE T size S k X N x y) {S' : Nat} {v : Value} {m : Nat} {Y : List Value} (ho : x.ownsRow S' T size v m Y) (hm : m ≤ k) : y.ownsRow S' T size v m Y :=
  h.keep ho fun i u hu h1 _ => by
    have h2 := (List.getElem?_eq_some_iff.1 hu).1
    rw [ho.1] at h2
    have := Nat.mul_le_mul_right size hm
    omega
theorem AppE.keep_long (h : AppE T size S k X N x y) (hX : X.length = k * size) {S' : Nat} {v : Value} {m : Nat} {R : List Value} (ho : x.ownsRow S' T size v m (X ++ N ++ R)) : y.ownsRow S' T size v m (X ++ N ++ R) :=
  h.keep ho fun i u hu h1 h2 => by
    rw [List.append_assoc, List.getElem?_append_right (by omega), hX, List.getElem?_append_left (by omega)] at hu
    exact hu
/-- A variable of one element, of the row's type. -/
theorem AppE.box (h : AppE T size S k X N x y) {b : Nat} {cs : Array Value} {U : TypeId} (hb : BoxAt x b cs U) (hcs : U = T → ∀ i u, cs[i]? = some u → k * size ≤ i → i < k * size + N.length → N[i - k * size]? = some u) : BoxAt y b cs U := by
  obtain ⟨vo, ho, hg, hc⟩ := h
  by_cases e : vo.ownBlock = some b
  · rcases ho.2 with ⟨rfl, _⟩ | ⟨g, cap, cur, rfl, hb', hh, _⟩
    · cases e
    · have e' : g = b := Option.some.inj e
      subst e'
      have hb2 : x.heap[g]? = some (.cells cs U (0, 0)) := hb
      rw [hh] at hb2
      cases hb2
      obtain ⟨cur2, h2, hs2, hi⟩ := hc g rfl cs hh
      have e2 : cur2 = cs := by
        apply Array.ext_getElem?
        intro i
        rcases hi i with h1 | ⟨h1, h1', h3⟩
        · exact h1
        · by_cases hl : i < cs.size
          · rw [h3, hcs rfl i _ (Array.getElem?_eq_getElem hl) h1 h1', Array.getElem?_eq_getElem hl]
          · rw [Array.getElem?_eq_none (by omega), Array.getElem?_eq_none (by omega)]
      unfold BoxAt
      rw [h2, e2]
  · exact hb.grown hg (fun h => e h.symm)
end
/-- 'append' to a row of one's own, told cell by cell. -/
theorem run_append_cells {P : Program} (w : World) (base : Nat) (t ty e : TypeId) (i : TypeInfo) (z : Value) (size bytes : Nat) (ht : P.underlying t = some (.slice e)) (hi : P.info? e = some i) (hz : i.zero = some z)
    (hsize : i.size = size) (hby : i.bytes = bytes) (hzs : z.cells.size = size) (hsz : 0 < size)
    (v : Value) (n : Nat) (xs : List Value) (hown : w.ownsRow base e size v n xs)
    (a : Addr) (m c : Nat) (news : List Value) (hl : news.length = m * size) (hnews : ∀ j u, news[j]? = some u → w.cell? (a.add j) = some u) (h1 : ∀ u ∈ news, u.oneCell' = true)
    (h63 : n + m ≤ maxLen) (hbytes : (n + m) * bytes ≤ 140737488355328) (hbase : base ≤ w.heap.size) :
    ∃ v' w', (Builtin.append_ #[t, t] ty #[v, .slice (some a) m c]).run P w = .ok v' w' ∧ w'.ownsRow base e size v' (n + m) (xs ++ news) ∧ AppE e size base n xs news w w' ∧ w.grownBy w' v.ownBlock := by
  obtain ⟨v', w', hr, h2, h3, _⟩ := run_append_own (P := P) w base t ty e i z size bytes ht hi hz hsize hby hzs hsz v n xs hown a m c news hl hnews h1 h63 hbytes hbase
  refine ⟨v', w', hr, h2, ⟨v, hown, h3, ?_⟩, h3⟩
  subst hsize
  subst hby
  have hsmall : n + m ≤ 9223372036854775807 := by simp only [maxLen] at h63; omega
  rcases hown.2 with ⟨rfl, rfl⟩ | ⟨g, cap, cur, rfl, hbg, hg, hnc, hcm, hcs, htake⟩
  · intro g hgv; cases hgv
  · intro g' hgv cur' hc'
    have e' : g = g' := Option.some.inj hgv
    subst e'
    rw [hg] at hc'
    cases hc'
    by_cases hroom : n + m ≤ cap
    · have hfit : n * i.size + news.length ≤ cur.size := by rw [hl, hcs, ← Nat.add_mul]; exact Nat.mul_le_mul_right _ hroom
      have hr2 := run_append_room (P := P) w t ty e i ht hi g n cap cur hg a m c news hl hnews h1 hroom hfit
      rw [hr] at hr2
      cases hr2
      refine ⟨_, setRow_heap w g cur _ e (0, 0) hg, ?_, fun j => ?_⟩
      · simp; omega
      · simp only [List.getElem?_toArray]
        rcases Nat.lt_or_ge j (n * i.size) with hj | hj
        · left
          rw [List.append_assoc, List.getElem?_append_left (by simp; omega), List.getElem?_take, if_pos hj, Array.getElem?_toList]
        · rcases Nat.lt_or_ge j (n * i.size + news.length) with hj2 | hj2
          · right
            refine ⟨hj, hj2, ?_⟩
            have hl0 : (cur.toList.take (n * i.size)).length = n * i.size := by simp; omega
            rw [List.append_assoc, List.getElem?_append_right (by omega), hl0, List.getElem?_append_left (by omega)]
          · left
            have hl0 : (cur.toList.take (n * i.size) ++ news).length = n * i.size + news.length := by simp; omega
            rw [List.getElem?_append_right (by omega), hl0, List.getElem?_drop, show n * i.size + news.length + (j - (n * i.size + news.length)) = j by omega, Array.getElem?_toList]
    · have holds : ∀ j u, xs[j]? = some u → w.cell? ((⟨g, 0, none⟩ : Addr).add j) = some u := hown.cells (g := g) rfl
      have hr2 := run_append_grow (P := P) w t ty e i z ht hi hz ⟨g, 0, none⟩ n cap xs hown.1 holds a m c news hl hnews (by omega) (by omega) (growslice_fits (by omega) hbytes)
      rw [hr] at hr2
      cases hr2
      refine ⟨cur, ?_, rfl, fun _ => .inl rfl⟩
      have hlt := (Array.getElem?_eq_some_iff.1 hg).1
      exact (heap_alloc_old w.drew _ hlt).trans hg
theorem AppE.refl {T : TypeId} {size S k : Nat} {X N : List Value} {x : World} {v : Value} (h : x.ownsRow S T size v k X) : AppE T size S k X N x x :=
  ⟨v, h, ⟨rfl, rfl, rfl, Nat.le_refl _, fun _ _ _ => rfl⟩, fun _ _ cur hc => ⟨cur, hc, rfl, fun _ => .inl rfl⟩⟩
/-- Operations j with p j = some (k, X, N) append N to a row of one's own that holds X; the others let memory grow. -/
def NE (T : TypeId) (size S : Nat) (p : Nat → Option (Nat × List Value × List Value)) (j : Nat) (x y : World) : Prop :=
  (p j = none ∧ Ext x y) ∨ ∃ k X N, p j = some (k, X, N) ∧ AppE T size S k X N x y
theorem NE_ext {T : TypeId} {size S : Nat} {p : Nat → Option (Nat × List Value × List Value)} {j : Nat} {x y : World} (hj : p j = none) (h : Ext x y) : NE T size S p j x y := .inl ⟨hj, h⟩
theorem NE_app {T : TypeId} {size S : Nat} {p : Nat → Option (Nat × List Value × List Value)} {j : Nat} {x y : World} {k : Nat} {X N : List Value} (hj : p j = some (k, X, N)) (h : AppE T size S k X N x y) : NE T size S p j x y := .inr ⟨k, X, N, hj, h⟩
theorem NE_to {T : TypeId} {size S : Nat} {p : Nat → Option (Nat × List Value × List Value)} {j : Nat} {x y w : World} (hS : w.heap.size ≤ S) (h : NE T size S p j x y) (hE : Ext w x) : Ext w y := by
  rcases h with ⟨_, h⟩ | ⟨_, _, _, _, h⟩
  · exact hE.trans h
  · exact h.to hS hE
theorem NE_le {T : TypeId} {size S : Nat} {p : Nat → Option (Nat × List Value × List Value)} {j : Nat} {x y : World} (h : NE T size S p j x y) : x.heap.size ≤ y.heap.size := by
  rcases h with ⟨_, h⟩ | ⟨_, _, _, _, h⟩
  · exact h.le
  · exact h.le
theorem NE_own {T : TypeId} {size S : Nat} {p : Nat → Option (Nat × List Value × List Value)} {j : Nat} {x y : World} (h : NE T size S p j x y) {S' : Nat} {v : Value} {m : Nat} {Y : List Value} (ho : x.ownsRow S' T size v m Y)
    (hY : ∀ k X N, p j = some (k, X, N) → ∀ i u, Y[i]? = some u → k * size ≤ i → i < k * size + N.length → N[i - k * size]? = some u) : y.ownsRow S' T size v m Y := by
  rcases h with ⟨_, h⟩ | ⟨k, X, N, hj, h⟩
  · exact ownsRow_ext ho h
  · exact h.keep ho (hY k X N hj)
theorem NE_box {T : TypeId} {size S : Nat} {p : Nat → Option (Nat × List Value × List Value)} {j : Nat} {x y : World} (h : NE T size S p j x y) {b : Nat} {cs : Array Value} {U : TypeId} (hb : BoxAt x b cs U)
    (hY : ∀ k X N, p j = some (k, X, N) → U = T → ∀ i u, cs[i]? = some u → k * size ≤ i → i < k * size + N.length → N[i - k * size]? = some u) : BoxAt y b cs U := by
  rcases h with ⟨_, h⟩ | ⟨k, X, N, hj, h⟩
  · exact hb.ext h
  · exact h.box hb (hY k X N hj)
/-- 'append' of any slice to a row of one's own, as the region's walk meets it. -/
theorem yields_app {P : Program} {o : Oper} {a : Act} {Tt e : TypeId} {z : Value} {size bytes : Nat} (info : (P.info? e).map (fun i => (i.zero, i.size, i.bytes)) = some (some z, size, bytes)) (und : P.underlying Tt = some (.slice e)) (hzs : z.cells.size = size) (hsz : 0 < size) (s x : Operand)
    (hop : o.op = Op.call { callee := Callee.builtin Builtin.append, args := #[s, x], argTypes := #[Tt, Tt] }) {w : World}
    (B : Nat) (hB : B ≤ w.heap.size) (v : Value) (m : Nat) (xs : List Value) (hown : w.ownsRow B e size v m xs) (hs : a.eval s = v) {u : Value} {c : Nat} {news : List Value} (hin : SliceIn w u c news) (hx : a.eval x = u)
    (hl : news.length = c * size) (h1 : ∀ u ∈ news, u.oneCell' = true) (h63 : m + c ≤ maxLen) (hb : (m + c) * bytes ≤ 140737488355328) {R : Value → World → Prop}
    (hR : ∀ v' w', w'.ownsRow B e size v' (m + c) (xs ++ news) → AppE e size B m xs news w w' → w.grownBy w' v.ownBlock → R v' w') : yields P o a w R := by
  obtain ⟨i0, hi, hz0, hz1, hz2⟩ := info_parts info
  obtain ⟨ao, cp, rfl, hc, hcm, ha, hcell⟩ := hin
  cases ao with
  | none =>
    have hc0 := ha rfl
    obtain rfl : c = 0 := by omega
    obtain rfl : news = [] := List.eq_nil_of_length_eq_zero (by omega)
    subst hc0
    have hr := run_append_owned_none (P := P) (w := w) B Tt o.type e i0 size und hi v m xs hown
    unfold yields execOp
    simp only [hop, resolve, invoke, builtin, Sem.run_bind, Sem.run_pure, Result.andThen_ok, List.map_toArray, List.map_cons, List.map_nil, hs, hx, hr]
    exact hR _ _ (by rw [List.append_nil]; exact hown) (AppE.refl hown) ⟨rfl, rfl, rfl, Nat.le_refl _, fun _ _ _ => rfl⟩
  | some ad =>
    obtain ⟨v', w', hr, h2, h3, h4⟩ := run_append_cells (P := P) w B Tt o.type e i0 z size bytes und hi hz0 hz1 hz2 hzs hsz v m xs hown ad c cp news hl (fun j u hj => by
      obtain ⟨b, o, e, h⟩ := hcell j u hj
      cases e
      rw [Addr.add_lit]
      exact h) h1 h63 hb hB
    unfold yields execOp
    simp only [hop, resolve, invoke, builtin, Sem.run_bind, Sem.run_pure, Result.andThen_ok, List.map_toArray, List.map_cons, List.map_nil, hs, hx, hr]
    exact hR v' w' h2 h3 h4
end Go.Proofs.Ytmjhdfifbjdgpaa

/- clerestoryref11: Get, Drop. -/
namespace Go.Proofs.Ytmjhdfifbjdgpaa
open Go Go.RowKit
attribute [local go_sem] yields yUpon

theorem ncells_take (F : Fl) (k : Nat) : ncells (F.take k) = (ncells F).take (k * 2) := by
  induction F generalizing k with
  | nil => simp [ncells]
  | cons q F ih =>
    cases k with
    | zero => simp [ncells]
    | succ k =>
      have := ih k
      simp only [ncells] at this ⊢
      rw [List.take_succ_cons, List.flatMap_cons, List.flatMap_cons, this, show (k + 1) * 2 = k * 2 + 1 + 1 by omega]
      rfl
theorem ncells_drop (F : Fl) (k : Nat) : ncells (F.drop k) = (ncells F).drop (k * 2) := by
  induction F generalizing k with
  | nil => simp [ncells]
  | cons q F ih =>
    cases k with
    | zero => simp
    | succ k =>
      have := ih k
      simp only [ncells] at this ⊢
      rw [List.drop_succ_cons, List.flatMap_cons, this, show (k + 1) * 2 = k * 2 + 1 + 1 by omega]
      rfl
theorem notes_take {w : World} {a : Option Addr} {n c k : Nat} {F : Fl} (h : NotesIn w (.slice a n c) F) (hk : k ≤ n) (hn : n = F.length) : NotesIn w (.slice a k c) (F.take k) :=
  slice_take h hk ⟨ncells (F.drop k), by rw [← ncells_append, List.take_append_drop]⟩ (by rw [List.length_take]; omega)
theorem notes_drop {w : World} {ad : Option Addr} {n c k : Nat} {F : Fl} (h : NotesIn w (.slice ad n c) F) (hk : k ≤ n) (hn : n = F.length) : NotesIn w (dropV ad n c k 2) (F.drop k) := by
  subst hn
  unfold NotesIn
  rw [ncells_drop F k]
  exact drop_cells h (ncells_length F) hk (List.length_drop ..).symm

section
variable {g q : Nat} {F : Fl}
set_option maxRecDepth 100000 in
set_option maxHeartbeats 4000000 in
theorem r11_get (n : Int) (w : World) (h : RefAt w g q F) (hr : Rises F) :
    Calls Try.prog 19 #[.pointer (some ⟨q, 0, none⟩), .int .i64 n] w fun e w' => e = .returned (.tuple #[.string (str (fget n F)), .bool (fhas n F)]) ∧ Ext w w' := by
  cases hb : fhas n F
  · have hf := fget_none hb
    go_enter Try.func19, Try.ntmps19
    go_wp2_with (go_at_call 48; go_must (refine (r11_at n w h hr).mono ?_); rintro e w1 ⟨rfl, hE1⟩; rw [hb])
    go_ret2
    exact ⟨by rw [hf]; rfl, hE1⟩
  · obtain ⟨hl, he⟩ := fhas_lt hr hb
    have hg := fget_at hr hb
    rw [List.getD_eq_getElem?_getD, List.getElem?_eq_getElem hl] at hg
    obtain ⟨v, c0, hin⟩ := h.notes
    obtain ⟨a, c, rfl, hc, hcm, hget⟩ := hin.get
    obtain ⟨b, o, rfl, h1, h2⟩ := hget _ hl
    obtain ⟨k, hk⟩ : ∃ k, k = fat n F := ⟨_, rfl⟩
    have hg' : str (fget n F) = str (F[fat n F]).2 := congrArg str hg
    rw [← hg', ← hk] at h2
    obtain ⟨bd, hbd⟩ : ∃ bd, bd = str (fget n F) := ⟨_, rfl⟩
    rw [← hbd] at h2 ⊢
    have HK := Lib.hid hk
    obtain ⟨m, hm⟩ : ∃ m, m = F.length := ⟨_, rfl⟩
    rw [← hm] at hc c0
    have hkm : k < m := by rw [hk, hm]; exact hl
    clear h1 hg hg' hbd hm hl he hget hin
    go_enter Try.func19, Try.ntmps19
    go_wp2_with (go_at_call 48; go_must (refine (r11_at n w h hr).mono ?_); rintro e w1 ⟨rfl, hE1⟩; rw [hb, ← HK.out]; clear hk; replace c0 := hE1.cell c0; replace h2 := hE1.cell h2)
    go_ret2
    exact ⟨rfl, hE1⟩

set_option maxRecDepth 100000 in
set_option maxHeartbeats 8000000 in
theorem r11_drop (n : Int) (hF : F.length ≤ 1000000) (w : World) (h : RefAt w g q F) (hr : Rises F) :
    Calls Try.prog 15 #[.pointer (some ⟨q, 0, none⟩), .int .i64 n] w fun e w' => (e = .returned (.bool (fhas n F)) ∧ BK g w w') ∧ RefAt w' g q (fdel n F) := by
  have hgw : g ≤ w.heap.size := by obtain ⟨v, hb, _⟩ := h.box; have := hb.lt; have := h.le; omega
  cases hb : fhas n F
  · rw [fdel_not hb]
    go_enter Try.func15, Try.ntmps15
    go_wp2_with (go_at_call 48; go_must (refine (r11_at n w h hr).mono ?_); rintro e w1 ⟨rfl, hE1⟩; rw [hb])
    go_ret
    exact ⟨⟨rfl, BK.of_ext hE1 hgw⟩, h.ext hE1⟩
  · obtain ⟨hl, he⟩ := fhas_lt hr hb
    rw [fdel_at hr hb]
    obtain ⟨k, hk⟩ : ∃ k, k = fat n F := ⟨_, rfl⟩
    rw [← hk] at hl ⊢
    have HK := Lib.hid hk
    clear he hk
    go_enter Try.func15, Try.ntmps15
    go_wp2_with (go_at_call 48; go_must (refine (r11_at n w h hr).mono ?_); rintro e w1 ⟨rfl, hE1⟩; rw [hb, ← HK.out])
    have h1 := h.ext hE1
    obtain ⟨v, hbx, hown⟩ := h1.box
    have hin : NotesIn w1 v F := SliceIn.of_owns hown
    obtain ⟨a, c, rfl, hc, hcm, _⟩ := hin.get
    obtain ⟨m, hm⟩ : ∃ m, m = F.length := ⟨_, rfl⟩
    rw [← hm] at hbx hin hl hc hF
    have c0 : w1.cell? ⟨q, 0, none⟩ = some (.slice a m c) := hbx.cell 0
    obtain ⟨X, hX⟩ : ∃ X, X = ncells (F.take k) := ⟨_, rfl⟩
    obtain ⟨N, hN⟩ : ∃ N, N = ncells (F.drop (k + 1)) := ⟨_, rfl⟩
    have hin1 := notes_take hin (Nat.le_of_lt hl) hm
    have hin2 := notes_drop hin hl hm
    have hXl : X.length = k * 2 := by rw [hX, ncells_length, List.length_take]; omega
    have hNl : N.length = (m - (k + 1)) * 2 := by rw [hN, ncells_length, List.length_drop]; omega
    have hX1 : ∀ u ∈ X, u.oneCell' = true := by rw [hX]; exact ncells_one _
    have hN1 : ∀ u ∈ N, u.oneCell' = true := by rw [hN]; exact ncells_one _
    have hin1' : SliceIn w1 (.slice a k c) k X := by
      have e : (F.take k).length = k := by rw [List.length_take]; omega
      unfold NotesIn at hin1; rw [← hX, e] at hin1; exact hin1
    have hin2' : SliceIn w1 (dropV a m c (k + 1) 2) (m - (k + 1)) N := by
      have e : (F.drop (k + 1)).length = m - (k + 1) := by rw [List.length_drop]; omega
      unfold NotesIn at hin2; rw [← hN, e] at hin2; exact hin2
    have HX := Lib.hid hX
    have HN := Lib.hid hN
    have HM := Lib.hid hm
    clear hX hN hm hin1 hin2 hin hown
    refine wp_region_relE (fun x => Ext w1 x) (NE 30 2 w1.heap.size (fun j => if j = 15 then some (k, X, N) else none))
      (Tab.atE [(2, fun v _ => v = .pointer (some ⟨q, 0, none⟩)), (4, fun v _ => v = .slice a m c), (7, fun v x => x.ownsRow w1.heap.size 30 2 v k X), (9, fun v _ => v = .pointer (some ⟨q, 0, none⟩)), (11, fun v _ => v = .slice a m c), (14, fun v _ => v = dropV a m c (k + 1) 2), (15, fun v x => x.ownsRow w1.heap.size 30 2 v (k + (m - (k + 1))) (X ++ N)), (16, fun v _ => v = .pointer (some ⟨q, 0, none⟩))])
      (Tab.staysE ⟨fun _ _ _ _ _ _ h => h, fun _ _ _ _ _ _ h => h, fun j hj v x y hR h => NE_own hR h (fun k' X' N' hp i u hu h1 h2 => by
          by_cases e : j = 15
          · rw [if_pos e] at hp; cases hp
            have := (List.getElem?_eq_some_iff.1 hu).1
            omega
          · rw [if_neg e] at hp; cases hp), fun _ _ _ _ _ _ h => h, fun _ _ _ _ _ _ h => h, fun _ _ _ _ _ _ h => h, fun j hj v x y hR h => NE_own hR h (fun k' X' N' hp => by
          rw [if_neg hj] at hp; cases hp), fun _ _ _ _ _ _ h => h, trivial⟩)
      18 (by kernel_rfl) (by kernel_rfl) (by kernel_rfl) (Ext.refl w1).drew ?_
    refine relE_quiet rfl rfl rfl rfl ?_; intro K hK; go_big_quiet_op; (first | refine ⟨_, fun _ _ => rfl, hK _ ?_⟩ | refine hK _ ?_); clear hK K
    refine relE_quiet rfl rfl rfl rfl ?_; intro K hK; go_big_quiet_op; (first | refine ⟨_, fun _ _ => rfl, hK _ ?_⟩ | refine hK _ ?_); clear hK K
    refine relE_val [] rfl rfl rfl (by kernel_rfl) (fun y hy hf => ?_) ?_
    · go_simp
      exact ⟨hy, NE_ext rfl (Ext.refl y), rfl⟩
    simp only [Act.put, List.setIfInBounds_toArray, List.set_cons_zero, List.set_cons_succ]
    refine relE_quiet rfl rfl rfl rfl ?_; intro K hK; go_big_quiet_op; (first | refine ⟨_, fun _ _ => rfl, hK _ ?_⟩ | refine hK _ ?_); clear hK K
    refine relE_val [] rfl rfl rfl (by kernel_rfl) (fun y hy hf => ?_) ?_
    · have z0 := hy.cell c0
      go_simp
      exact ⟨hy, NE_ext rfl (Ext.refl y), rfl⟩
    simp only [Act.put, List.setIfInBounds_toArray, List.set_cons_zero, List.set_cons_succ]
    refine relE_quiet rfl rfl rfl rfl ?_; intro K hK; go_big_quiet_op; (first | refine ⟨_, fun _ _ => rfl, hK _ ?_⟩ | refine hK _ ?_); clear hK K
    refine relE_quiet rfl rfl rfl rfl ?_; intro K hK; go_big_quiet_op; (first | refine ⟨_, fun _ _ => rfl, hK _ ?_⟩ | refine hK _ ?_); clear hK K
    refine relE_fact [] rfl rfl rfl (by kernel_rfl) (fun y hy hf => ?_) (fun v7 y7 hC7 hG7 h7 => ?_)
    · refine yields_app info_note und_notes rfl (by decide) (.const (.slice none 0 0)) (.tmp 20) rfl w1.heap.size hy.le (.slice none 0 0) 0 [] (World.ownsRow_nil _ _ _ _) (by rfl) (SliceIn.ext hy hin1') (by rfl) hXl hX1 (by unfold maxLen; omega) (by omega) ?_
      intro v' y' ho' _ hg'
      have hE' : Ext y y' := (Ext.refl y).grown hg' (fun q hq => by cases hq)
      exact ⟨hy.trans hE', NE_ext rfl hE', by rw [Nat.zero_add, List.nil_append] at ho'; exact ho'⟩
    have h7' := h7
    obtain ⟨a7, c7, rfl⟩ := own_shape h7'
    clear hC7 hG7 h7 h7'
    simp only [Act.put, List.setIfInBounds_toArray, List.set_cons_zero, List.set_cons_succ]
    refine relE_quiet rfl rfl rfl rfl ?_; intro K hK; go_big_quiet_op; (first | refine ⟨_, fun _ _ => rfl, hK _ ?_⟩ | refine hK _ ?_); clear hK K
    refine relE_val [] rfl rfl rfl (by kernel_rfl) (fun y hy hf => ?_) ?_
    · go_simp
      exact ⟨hy, NE_ext rfl (Ext.refl y), rfl⟩
    simp only [Act.put, List.setIfInBounds_toArray, List.set_cons_zero, List.set_cons_succ]
    refine relE_quiet rfl rfl rfl rfl ?_; intro K hK; go_big_quiet_op; (first | refine ⟨_, fun _ _ => rfl, hK _ ?_⟩ | refine hK _ ?_); clear hK K
    refine relE_val [] rfl rfl rfl (by kernel_rfl) (fun y hy hf => ?_) ?_
    · have z0 := hy.cell c0
      go_simp
      exact ⟨hy, NE_ext rfl (Ext.refl y), rfl⟩
    simp only [Act.put, List.setIfInBounds_toArray, List.set_cons_zero, List.set_cons_succ]
    refine relE_quiet rfl rfl rfl rfl ?_; intro K hK; go_big_quiet_op; (first | refine ⟨_, fun _ _ => rfl, hK _ ?_⟩ | refine hK _ ?_); clear hK K
    refine relE_quiet rfl rfl rfl rfl ?_; intro K hK; go_big_quiet_op; (first | refine ⟨_, fun _ _ => rfl, hK _ ?_⟩ | refine hK _ ?_); clear hK K
    refine relE_val [] rfl rfl rfl (by kernel_rfl) (fun y hy hf => ?_) ?_
    · exact yields_from und_notes (size := 2) (by kernel_rfl) (.tmp 25) (.tmp 27) rfl rfl (by rfl) hl ⟨hy, NE_ext rfl (Ext.refl y), rfl⟩
    simp only [Act.put, List.setIfInBounds_toArray, List.set_cons_zero, List.set_cons_succ]
    refine relE_fact [7] rfl rfl rfl (by kernel_rfl) (fun y hy hf => ?_) (fun v15 y15 hC15 hG15 h15 => ?_)
    · have h7 := (hf 7 (by simp)).2 rfl
      refine yields_app info_note und_notes rfl (by decide) (.tmp 21) (.tmp 28) rfl w1.heap.size hy.le _ k X h7 (by rfl) (SliceIn.ext hy hin2') (by rfl) hNl hN1 (by unfold maxLen; omega) (by omega) ?_
      intro v' y' ho' hA hg'
      exact ⟨hA.to (Nat.le_refl _) hy, NE_app rfl hA, ho'⟩
    have h15' := h15
    obtain ⟨a15, c15, rfl⟩ := own_shape h15'
    clear hC15 hG15 h15 h15'
    simp only [Act.put, List.setIfInBounds_toArray, List.set_cons_zero, List.set_cons_succ]
    refine relE_val [] rfl rfl rfl (by kernel_rfl) (fun y hy hf => ?_) ?_
    · go_simp
      exact ⟨hy, NE_ext rfl (Ext.refl y), rfl⟩
    simp only [Act.put, List.setIfInBounds_toArray, List.set_cons_zero, List.set_cons_succ]
    refine relE_quiet rfl rfl rfl rfl ?_; intro K hK; go_big_quiet_op; (first | refine ⟨_, fun _ _ => rfl, hK _ ?_⟩ | refine hK _ ?_); clear hK K
    refine relE_tail rfl rfl fun w8 hE8 hG => ?_
    have h15 := (hG 15).2 rfl
    have hb8 := BoxAt.ext hE8 hbx
    have z0 : w8.cell? ⟨q, 0, none⟩ = some (.slice a m c) := hb8.cell 0
    have zf := hb8.free 0
    clear hG
    go_wp2
    go_ret
    have hlt := h15.lt
    have hqs := hbx.lt
    have hle := h1.le
    have hbk : Ext w w8 := hE1.trans hE8
    have hB : BK g w (w8.setCell ⟨q, 0, none⟩ (.slice a15 (k + (m - (k + 1))) c15)) := (BK.of_ext hbk hgw).trans (BK.set hle hb8 (.inl rfl) 0 _)
    refine ⟨⟨rfl, hB⟩, ⟨_, hb8.set 0 _, ?_⟩, hle⟩
    have ho := ownsRow_setCell_below h15 (a := ⟨q, 0, none⟩) hqs (.slice a15 (k + (m - (k + 1))) c15)
    have el : (F.take k ++ F.drop (k + 1)).length = k + (m - (k + 1)) := by simp [← HM.out]; omega
    have ec : ncells (F.take k ++ F.drop (k + 1)) = X ++ N := by rw [ncells_append, HX.out, HN.out]
    rw [el, ec]
    exact own_mono (by have := hE1.le; omega) ho
end
end Go.Proofs.Ytmjhdfifbjdgpaa

/- clerestoryref11: Add. -/
namespace Go.Proofs.Ytmjhdfifbjdgpaa
open Go Go.RowKit
attribute [local go_sem] yields yUpon

section
variable {g q : Nat} {F : Fl}
set_option maxRecDepth 100000 in
set_option maxHeartbeats 4000000 in
theorem r11_add_no (id : Int) (b : ByteArray) (w : World) (h : RefAt w g q F) (hr : Rises F) (hb : b.size ≤ maxLen) (hA : addB id b.size F = false) :
    Calls Try.prog 18 #[.pointer (some ⟨q, 0, none⟩), .agg #[.int .i64 id, .string b]] w fun e w' => e = .returned (.bool false) ∧ Ext w w' := by
  have hE0 := (Ext.refl w).alloc (.cells #[.int .i64 id, .string b] 30)
  have hbx := BoxAt.made w #[.int .i64 id, .string b] 30
  have h0 := h.ext hE0
  unfold maxLen at hb
  rcases addB_cases id b.size F with ⟨hA', _⟩ | ⟨_, a4⟩
  · rw [hA] at hA'; cases hA'
  · rcases a4 with a4 | ⟨a1, a4⟩ | ⟨a1, a2, a4⟩ | ⟨a1, a2, a3, a5, a4⟩
    all_goals
      go_enter Try.func18, Try.ntmps18
      go_wp2_with (go_at_call 48; go_must (refine (r11_at id _ h0 hr).mono ?_); rintro e w1 ⟨rfl, hE1⟩; (try rw [a5]); have hb1 := hbx.ext hE1; have b0 := hb1.cell 0; have b1 := hb1.cell 1; simp at b0 b1; obtain ⟨v, c0, hin⟩ := (h0.ext hE1).notes; obtain ⟨a, c, rfl, hc, hcm, hget⟩ := hin.get; clear hget hin)
      go_ret
      exact ⟨rfl, hE0.trans hE1⟩

theorem ncells_set : ∀ {F : Fl} {k : Nat} (_ : k < F.length) {n : Int} {l : List UInt8}, ncells (F.set k (n, l)) = ((ncells F).set (k * 2) (.int .i64 n)).set (k * 2 + 1) (.string (str l))
  | [], k, h, _, _ => by simp at h
  | q :: F, 0, _, n, l => by simp [ncells]
  | q :: F, k + 1, h, n, l => by
    have ih := ncells_set (F := F) (k := k) (by simpa using h) (n := n) (l := l)
    have e : ∀ (q : Int × List UInt8) (G : Fl), ncells (q :: G) = .int .i64 q.1 :: .string (str q.2) :: ncells G := fun q G => by simp [ncells]
    rw [List.set_cons_succ, e, e, ih, show (k + 1) * 2 = k * 2 + 1 + 1 by omega]
    rfl
theorem own_set2 {w : World} {B : Nat} {T : TypeId} {a : Option Addr} {n c k : Nat} {xs : List Value} (h : w.ownsRow B T 2 (.slice a n c) n xs) (hk : k < n) (u0 u1 : Value) :
    ∃ b, a = some ⟨b, 0, none⟩ ∧ B ≤ b ∧ (∃ u, w.cell? ⟨b, k * 2, none⟩ = some u) ∧ w.frozen? ⟨b, k * 2, none⟩ = false ∧ (∃ u, (w.setCell ⟨b, k * 2, none⟩ u0).cell? ⟨b, k * 2 + 1, none⟩ = some u) ∧ (w.setCell ⟨b, k * 2, none⟩ u0).frozen? ⟨b, k * 2 + 1, none⟩ = false ∧ ((w.setCell ⟨b, k * 2, none⟩ u0).setCell ⟨b, k * 2 + 1, none⟩ u1).ownsRow B T 2 (.slice a n c) n ((xs.set (k * 2) u0).set (k * 2 + 1) u1) := by
  obtain ⟨hl, h⟩ := h
  rcases h with ⟨_, rfl⟩ | ⟨b, cap, cur, e, hb, hh, hnc, hcm, hcs, ht⟩
  · omega
  · cases e
    have hbx : BoxAt w b cur T := hh
    have h0 : k * 2 < cur.size := by omega
    have h1 : k * 2 + 1 < cur.size := by omega
    refine ⟨b, rfl, hb, ⟨_, by rw [hbx.cell, Array.getElem?_eq_getElem h0]⟩, hbx.free _, ⟨cur[k * 2 + 1], by rw [(hbx.set (k * 2) u0).cell, Array.getElem?_setIfInBounds_ne (by omega), Array.getElem?_eq_getElem h1]⟩, (hbx.set (k * 2) u0).free _, by simpa using hl, .inr ⟨b, c, (cur.setIfInBounds (k * 2) u0).setIfInBounds (k * 2 + 1) u1, rfl, hb, (BoxAt.set (BoxAt.set hh (k * 2) u0) (k * 2 + 1) u1), hnc, hcm, by simpa using hcs, ?_⟩⟩
    rw [← ht]
    simp [List.take_set]

set_option maxRecDepth 100000 in
set_option maxHeartbeats 4000000 in
theorem r11_add_has (id : Int) (b : ByteArray) (w : World) (h : RefAt w g q F) (hr : Rises F) (hb : b.size ≤ maxLen) (hA : addB id b.size F = true) (hh : fhas id F = true) :
    Calls Try.prog 18 #[.pointer (some ⟨q, 0, none⟩), .agg #[.int .i64 id, .string b]] w fun e w' => (e = .returned (.bool true) ∧ BK g w w') ∧ RefAt w' g q (fput id b.data.toList F) := by
  have hgw : g ≤ w.heap.size := by obtain ⟨v, hb, _⟩ := h.box; have := hb.lt; have := h.le; omega
  have hE0 := (Ext.refl w).alloc (.cells #[.int .i64 id, .string b] 30)
  have hbx := BoxAt.made w #[.int .i64 id, .string b] 30
  have h0 := h.ext hE0
  unfold maxLen at hb
  rcases addB_cases id b.size F with ⟨_, a1, a2, a3, _⟩ | ⟨hA', _⟩
  rotate_left
  · rw [hA] at hA'; cases hA'
  obtain ⟨hl, he⟩ := fhas_lt hr hh
  rw [fput_at_has hr hh]
  obtain ⟨k, hk⟩ : ∃ k, k = fat id F := ⟨_, rfl⟩
  rw [← hk] at hl ⊢
  have HK := Lib.hid hk
  clear he hk
  go_enter Try.func18, Try.ntmps18
  go_wp2_with (go_at_call 48; go_must (refine (r11_at id _ h0 hr).mono ?_); rintro e w1 ⟨rfl, hE1⟩; rw [hh, ← HK.out]; have hb1 := hbx.ext hE1; have b0 := hb1.cell 0; have b1 := hb1.cell 1; simp at b0 b1)
  have h1 := h0.ext hE1
  obtain ⟨v, hqx, hown⟩ := h1.box
  obtain ⟨a, c, rfl⟩ := own_shape hown
  have c0 : w1.cell? ⟨q, 0, none⟩ = some (.slice a F.length c) := hqx.cell 0
  obtain ⟨bl, rfl, hbl, _⟩ := own_set2 hown hl (.int .i64 id) (.string b)
  obtain ⟨m, hm⟩ : ∃ m, m = F.length := ⟨_, rfl⟩
  rw [← hm] at c0 hqx hl hown
  have HM := Lib.hid hm
  clear hm hb1
  refine wp_region_tab 7 [(1, fun v _ => v = .pointer (some ⟨q, 0, none⟩))] (by kernel_rfl) (by kernel_rfl) (by kernel_rfl) ⟨stays_eq _, trivial⟩ ?_
  replace b0 := held b0
  replace b1 := held b1
  replace c0 := held c0
  refine rg_quiet rfl rfl rfl rfl ?_; intro K hK; go_big_quiet_op; go_big_quiet_on
  refine rg_val [] rfl rfl rfl (by kernel_rfl) (fun w2 hE hf => ?_) ?_
  · go_simp
    exact rg_done hE (Ext.refl w2) rfl
  simp only [Act.put, List.setIfInBounds_toArray, List.set_cons_zero, List.set_cons_succ]
  refine rg_quiet rfl rfl rfl rfl ?_; intro K hK; go_big_quiet_op; go_big_quiet_on
  refine rg_quiet rfl rfl rfl rfl ?_; intro K hK; go_big_quiet_op; go_big_quiet_on
  refine rg_quiet rfl rfl rfl rfl ?_; intro K hK; go_big_quiet_op; go_big_quiet_on
  refine rg_quiet rfl rfl rfl rfl ?_; intro K hK; go_big_quiet_op; go_big_quiet_on
  refine rg_quiet rfl rfl rfl rfl ?_; intro K hK; go_big_quiet_op; go_big_quiet_on
  refine rel_tail rfl rfl fun w2 hE2 hG => ?_
  clear hG b0 b1 c0
  obtain ⟨bl', e, _, ⟨u0, x0⟩, f0, ⟨u1, x1⟩, f1, hset2⟩ := own_set2 (ownsRow_ext hown hE2) hl (.int .i64 id) (.string b)
  cases e
  go_wp2
  go_ret
  have hqb : q ≠ bl := by
    intro e
    have hc := (hown.2.resolve_left (by rintro ⟨e, _⟩; cases e))
    obtain ⟨b2, cap, cur, e2, _, hh2, _⟩ := hc
    cases e2
    rw [← e] at hh2
    have hqx' : w1.heap[q]? = _ := hqx
    rw [hqx'] at hh2
    have := congrArg (fun o : Option Obj => o) hh2
    simp at this
  have hle := h.le
  have T : Touch w1 ((w2.setCell ⟨bl, k * 2, none⟩ (.int .i64 id)).setCell ⟨bl, k * 2 + 1, none⟩ (.string b)) [bl] :=
    ((Touch.of_ext hE2 [bl]).trans ((Touch.set (L := [bl]) (by simp)).trans (Touch.set (L := [bl]) (by simp)))).mono (by simp)
  obtain ⟨cur, hcur⟩ : ∃ cur, BoxAt w2 bl cur 30 := by
    rcases hown.2 with ⟨e, _⟩ | ⟨b2, cap, cur, e2, _, hh2, _⟩
    · cases e
    · cases e2
      exact ⟨cur, BoxAt.ext hE2 hh2⟩
  have hB : BK g w ((w2.setCell ⟨bl, k * 2, none⟩ (.int .i64 id)).setCell ⟨bl, k * 2 + 1, none⟩ (.string b)) :=
    ((BK.of_ext (hE0.trans (hE1.trans hE2)) hgw).trans (BK.set hbl hcur (.inr rfl) _ _)).trans (BK.set hbl (hcur.set _ _) (.inr rfl) _ _)
  refine ⟨⟨rfl, hB⟩, ⟨_, T.box hqx (by simpa using hqb), ?_⟩, hle⟩
  have e1 : (F.set k (id, b.data.toList)).length = m := by simp [← HM.out]
  have e2 : ncells (F.set k (id, b.data.toList)) = ((ncells F).set (k * 2) (.int .i64 id)).set (k * 2 + 1) (.string b) := by
    rw [ncells_set (by rw [← HM.out]; exact hl), show str b.data.toList = b from (str_eq rfl).symm]
  rw [e1, e2]
  exact hset2
end
end Go.Proofs.Ytmjhdfifbjdgpaa

/- clerestoryref11: Add of a number that is not there. -/
namespace Go.Proofs.Ytmjhdfifbjdgpaa
open Go Go.RowKit
attribute [local go_sem] yields yUpon

/-- The two appends of the region. -/
def pAdd (k : Nat) (X N R : List Value) (j : Nat) : Option (Nat × List Value × List Value) := if j = 4 then some (k, X, N) else if j = 11 then some (k + 1, X ++ N, R) else none
theorem pAdd_none {k : Nat} {X N R : List Value} {j : Nat} (h4 : j ≠ 4) (h11 : j ≠ 11) : pAdd k X N R j = none := by unfold pAdd; rw [if_neg h4, if_neg h11]
theorem pAdd_some {k k' : Nat} {X N R X' N' : List Value} {j : Nat} (h : pAdd k X N R j = some (k', X', N')) : (j = 4 ∧ k' = k ∧ X' = X ∧ N' = N) ∨ (j = 11 ∧ k' = k + 1 ∧ X' = X ++ N ∧ N' = R) := by
  unfold pAdd at h
  split at h
  · cases h; exact .inl ⟨by assumption, rfl, rfl, rfl⟩
  · split at h
    · cases h; exact .inr ⟨by assumption, rfl, rfl, rfl⟩
    · cases h
/-- What stays true in the region. -/
structure AddC (w1 : World) (T : TypeId) (v : Value) (k : Nat) (X : List Value) (x : World) : Prop where
  ext : Ext w1 x
  own : x.ownsRow w1.heap.size T 2 v k X
theorem AddC.grow {w1 : World} {T : TypeId} {v : Value} {k : Nat} {X : List Value} {x y : World} (h : AddC w1 T v k X x) (hE : Ext x y) : AddC w1 T v k X y := ⟨h.ext.trans hE, ownsRow_ext h.own hE⟩
theorem AddC.app {w1 : World} {T : TypeId} {v : Value} {k k' : Nat} {X X' N : List Value} {x y : World} (h : AddC w1 T v k X x) (hA : AppE T 2 w1.heap.size k' X' N x y) (hk : k ≤ k') : AddC w1 T v k X y := ⟨hA.to (Nat.le_refl _) h.ext, hA.keep_short h.own hk⟩

theorem addE_box {T U : TypeId} {S k : Nat} {X R : List Value} {u0 u1 : Value} {j : Nat} {x y : World} (h : NE T 2 S (pAdd k X [u0, u1] R) j x y) {b : Nat} (hb : BoxAt x b #[u0, u1] U) : BoxAt y b #[u0, u1] U :=
  NE_box h hb fun k' X' N' hp _ i u hu h1 h2 => by
    have hi : i < 2 := by have := (Array.getElem?_eq_some_iff.1 hu).1; simpa using this
    rcases pAdd_some hp with ⟨_, rfl, rfl, rfl⟩ | ⟨_, rfl, rfl, rfl⟩
    · have hk0 : k' = 0 ∨ 0 < k' := by omega
      rcases hk0 with rfl | hk0
      · simpa using hu
      · omega
    · omega
theorem addE_mid {T : TypeId} {S k : Nat} {X N R : List Value} {j : Nat} (hj : j ≠ 4) {x y : World} (h : NE T 2 S (pAdd k X N R) j x y) {v : Value} (ho : x.ownsRow S T 2 v (k + 1) (X ++ N)) : y.ownsRow S T 2 v (k + 1) (X ++ N) :=
  NE_own h ho fun k' X' N' hp i u hu h1 h2 => by
    rcases pAdd_some hp with ⟨e, _⟩ | ⟨_, rfl, rfl, rfl⟩
    · exact absurd e hj
    · have := (List.getElem?_eq_some_iff.1 hu).1
      rw [ho.1] at this
      omega
theorem addE_end {T : TypeId} {S k m : Nat} {X N R : List Value} (hX : X.length = k * 2) {j : Nat} (hj : j ≠ 11) {x y : World} (h : NE T 2 S (pAdd k X N R) j x y) {v : Value} (ho : x.ownsRow S T 2 v m (X ++ N ++ R)) : y.ownsRow S T 2 v m (X ++ N ++ R) :=
  NE_own h ho fun k' X' N' hp i u hu h1 h2 => by
    rcases pAdd_some hp with ⟨_, rfl, rfl, rfl⟩ | ⟨e, _⟩
    · rw [List.append_assoc, List.getElem?_append_right (by omega), hX, List.getElem?_append_left (by omega)] at hu
      exact hu
    · exact absurd e hj

section
variable {g q : Nat} {F : Fl}
set_option maxRecDepth 100000 in
set_option maxHeartbeats 8000000 in
theorem r11_add_new (id : Int) (b : ByteArray) (w : World) (h : RefAt w g q F) (hr : Rises F) (hb : b.size ≤ maxLen) (hA : addB id b.size F = true) (hh : fhas id F = false) :
    Calls Try.prog 18 #[.pointer (some ⟨q, 0, none⟩), .agg #[.int .i64 id, .string b]] w fun e w' => (e = .returned (.bool true) ∧ BK g w w') ∧ RefAt w' g q (fput id b.data.toList F) := by
  have hgw : g ≤ w.heap.size := by obtain ⟨v, hb, _⟩ := h.box; have := hb.lt; have := h.le; omega
  have hE0 := (Ext.refl w).alloc (.cells #[.int .i64 id, .string b] 30)
  have hbx := BoxAt.made w #[.int .i64 id, .string b] 30
  have h0 := h.ext hE0
  unfold maxLen at hb
  rcases addB_cases id b.size F with ⟨_, a1, a2, a3, a4⟩ | ⟨hA', _⟩
  rotate_left
  · rw [hA] at hA'; cases hA'
  have a5 : ¬ 300 ≤ (F.length : Int) := by
    rcases a4 with a4 | ⟨_, a4⟩
    · rw [hh] at a4; cases a4
    · exact a4
  clear a4
  rw [fput_at hh]
  obtain ⟨k, hk⟩ : ∃ k, k = fat id F := ⟨_, rfl⟩
  have hl : k ≤ F.length := by rw [hk]; exact fat_le id F
  rw [← hk]
  have HK := Lib.hid hk
  obtain ⟨m, hm⟩ : ∃ m, m = F.length := ⟨_, rfl⟩
  rw [← hm] at hl a5
  have HM := Lib.hid hm
  obtain ⟨X, hX⟩ : ∃ X, X = ncells (F.take k) := ⟨_, rfl⟩
  obtain ⟨R, hR⟩ : ∃ R, R = ncells (F.drop k) := ⟨_, rfl⟩
  have hXl : X.length = k * 2 := by rw [hX, ncells_length, List.length_take]; omega
  have hRl : R.length = (m - k) * 2 := by rw [hR, ncells_length, List.length_drop]; omega
  have hX1 : ∀ u ∈ X, u.oneCell' = true := by rw [hX]; exact ncells_one _
  have hR1 : ∀ u ∈ R, u.oneCell' = true := by rw [hR]; exact ncells_one _
  have HX := Lib.hid hX
  have HR := Lib.hid hR
  clear hk hm hX hR
  go_enter Try.func18, Try.ntmps18
  go_wp2_with (first
    | (go_at_call 48; go_must (refine (r11_at id _ h0 hr).mono ?_); rintro e w1 ⟨rfl, hE1⟩; rw [hh, ← HK.out]; have hb1 := hbx.ext hE1; have b0 := hb1.cell 0; have b1 := hb1.cell 1; simp at b0 b1; have h1 := h0.ext hE1; obtain ⟨v, hqx, hown⟩ := h1.box; have hin : NotesIn w1 v F := SliceIn.of_owns hown; obtain ⟨a, c, rfl, hc, hcm, _⟩ := hin.get; rw [← HM.out] at hqx hin hc; have c0 : w1.cell? ⟨q, 0, none⟩ = some (.slice a m c) := hqx.cell 0; have hin1 := notes_take hin hl HM.out; have hin2 := notes_drop hin hl HM.out; have hin1' : SliceIn w1 (.slice a k c) k X := (by have e : (F.take k).length = k := (by rw [List.length_take]; have := HM.out; omega); unfold NotesIn at hin1; rw [← HX.out, e] at hin1; exact hin1); have hin2' : SliceIn w1 (dropV a m c k 2) (m - k) R := (by have e : (F.drop k).length = m - k := (by rw [List.length_drop]; have := HM.out; omega); unfold NotesIn at hin2; rw [← HR.out, e] at hin2; exact hin2); clear hin1 hin2 hin hown)
    | ((guard_target =~ wpList _ _ _ (Oper.mk (some 57) _ _ _ _ _ :: _) _ _); go_must (refine wpList_cloneS rfl info_note und_notes rfl (by decide) (.const (.slice none 0 0)) (.tmp 56) rfl (by rfl) hin1' (by rfl) hXl hX1 (by unfold maxLen; omega) (by omega) ?_); intro v7 w7 ho7 hE7; obtain ⟨a7, c7, rfl⟩ := own_shape ho7))
  have hC0 : AddC w1 30 (.slice a7 k c7) k X w7.drew := ⟨hE7.drew, ownsRow_ext ho7 (Ext.refl w7).drew⟩
  clear b0 b1
  have hEs : ∀ {x : World}, AddC w1 30 (.slice a7 k c7) k X x → BoxAt x w.heap.size #[.int .i64 id, .string b] 30 := fun hx => hb1.ext hx.ext
  refine wp_region_relE (AddC w1 30 (.slice a7 k c7) k X) (NE 30 2 w1.heap.size (pAdd k X [.int .i64 id, .string b] R))
    (Tab.atE [(2, fun v _ => v = .agg #[.int .i64 id, .string b]), (3, fun v x => ∃ bb, v = .slice (some ⟨bb, 0, none⟩) 1 1 ∧ BoxAt x bb #[.int .i64 id, .string b] 30), (4, fun v x => x.ownsRow w1.heap.size 30 2 v (k + 1) (X ++ [.int .i64 id, .string b])), (6, fun v _ => v = .pointer (some ⟨q, 0, none⟩)), (8, fun v _ => v = .slice a m c), (10, fun v _ => v = dropV a m c k 2), (11, fun v x => x.ownsRow w1.heap.size 30 2 v (k + 1 + (m - k)) (X ++ [.int .i64 id, .string b] ++ R)), (12, fun v _ => v = .pointer (some ⟨q, 0, none⟩))])
    (Tab.staysE ⟨fun _ _ _ _ _ _ h => h, fun j hj v x y hR ⟨bb, e, hx⟩ => ⟨bb, e, addE_box hR hx⟩, fun j hj v x y hR hx => addE_mid hj hR hx, fun _ _ _ _ _ _ h => h, fun _ _ _ _ _ _ h => h, fun _ _ _ _ _ _ h => h, fun j hj v x y hR hx => addE_end hXl hj hR hx, fun _ _ _ _ _ _ h => h, trivial⟩)
    14 (by kernel_rfl) (by kernel_rfl) (by kernel_rfl) hC0 ?_
  refine relE_quiet rfl rfl rfl rfl ?_; intro K hK; go_big_quiet_op; (first | refine ⟨_, fun _ _ => rfl, hK _ ?_⟩ | refine hK _ ?_); clear hK K
  refine relE_quiet rfl rfl rfl rfl ?_; intro K hK; go_big_quiet_op; (first | refine ⟨_, fun _ _ => rfl, hK _ ?_⟩ | refine hK _ ?_); clear hK K
  refine relE_val [] rfl rfl rfl (by kernel_rfl) (fun y hy hf => ?_) ?_
  · have z0 : y.cell? ⟨w.heap.size, 0, none⟩ = some (.int .i64 id) := (hEs hy).cell 0
    have z1 : y.cell? ⟨w.heap.size, 1, none⟩ = some (.string b) := (hEs hy).cell 1
    go_simp
    exact ⟨hy, NE_ext rfl (Ext.refl y), rfl⟩
  simp only [Act.put, List.setIfInBounds_toArray, List.set_cons_zero, List.set_cons_succ]
  refine relE_fact [] rfl rfl rfl (by kernel_rfl) (fun y hy hf => ?_) (fun v3 y3 hC3 hG3 h3 => ?_)
  · go_simp
    exact ⟨hy.grow ((Ext.refl y).alloc _), NE_ext rfl ((Ext.refl y).alloc _), _, rfl, BoxAt.made y _ _⟩
  obtain ⟨b3, rfl, _⟩ := h3
  clear hC3 hG3
  simp only [Act.put, List.setIfInBounds_toArray, List.set_cons_zero, List.set_cons_succ]
  refine relE_fact [3] rfl rfl rfl (by kernel_rfl) (fun y hy hf => ?_) (fun v4 y4 hC4 hG4 h4 => ?_)
  · obtain ⟨bb, e, hx⟩ := (hf 3 (by simp)).2 rfl
    cases e
    have hin : SliceIn y (.slice (some ⟨b3, 0, none⟩) 1 1) 1 [.int .i64 id, .string b] := ⟨_, _, rfl, Nat.le_refl _, by unfold maxLen; omega, nofun, fun j u hj => ⟨b3, 0, rfl, by rw [Nat.zero_add, hx.cell j]; simpa using hj⟩⟩
    refine yields_app info_note und_notes rfl (by decide) (.tmp 59) (.tmp 61) rfl w1.heap.size hy.ext.le _ k X hy.own (by rfl) hin (by rfl) rfl (by simp [Value.oneCell']) (by unfold maxLen; omega) (by omega) ?_
    intro v' y' ho' hA' _
    exact ⟨hy.app hA' (Nat.le_refl _), NE_app rfl hA', ho'⟩
  have h4' := h4
  obtain ⟨a4, c4, rfl⟩ := own_shape h4'
  clear hC4 hG4 h4 h4'
  simp only [Act.put, List.setIfInBounds_toArray, List.set_cons_zero, List.set_cons_succ]
  refine relE_quiet rfl rfl rfl rfl ?_; intro K hK; go_big_quiet_op; (first | refine ⟨_, fun _ _ => rfl, hK _ ?_⟩ | refine hK _ ?_); clear hK K
  refine relE_val [] rfl rfl rfl (by kernel_rfl) (fun y hy hf => ?_) ?_
  · go_simp
    exact ⟨hy, NE_ext rfl (Ext.refl y), rfl⟩
  simp only [Act.put, List.setIfInBounds_toArray, List.set_cons_zero, List.set_cons_succ]
  refine relE_quiet rfl rfl rfl rfl ?_; intro K hK; go_big_quiet_op; (first | refine ⟨_, fun _ _ => rfl, hK _ ?_⟩ | refine hK _ ?_); clear hK K
  refine relE_val [] rfl rfl rfl (by kernel_rfl) (fun y hy hf => ?_) ?_
  · have z0 := hy.ext.cell c0
    go_simp
    exact ⟨hy, NE_ext rfl (Ext.refl y), rfl⟩
  simp only [Act.put, List.setIfInBounds_toArray, List.set_cons_zero, List.set_cons_succ]
  refine relE_quiet rfl rfl rfl rfl ?_; intro K hK; go_big_quiet_op; (first | refine ⟨_, fun _ _ => rfl, hK _ ?_⟩ | refine hK _ ?_); clear hK K
  refine relE_val [] rfl rfl rfl (by kernel_rfl) (fun y hy hf => ?_) ?_
  · exact yields_from und_notes (size := 2) (by kernel_rfl) (.tmp 66) (.tmp 67) rfl rfl (by rfl) hl ⟨hy, NE_ext rfl (Ext.refl y), rfl⟩
  simp only [Act.put, List.setIfInBounds_toArray, List.set_cons_zero, List.set_cons_succ]
  refine relE_fact [4] rfl rfl rfl (by kernel_rfl) (fun y hy hf => ?_) (fun v11 y11 hC11 hG11 h11 => ?_)
  · have h4 := (hf 4 (by simp)).2 rfl
    refine yields_app info_note und_notes rfl (by decide) (.tmp 62) (.tmp 68) rfl w1.heap.size hy.ext.le _ (k + 1) _ h4 (by rfl) (SliceIn.ext hy.ext hin2') (by rfl) hRl hR1 (by unfold maxLen; omega) (by omega) ?_
    intro v' y' ho' hA' _
    exact ⟨hy.app hA' (Nat.le_succ k), NE_app rfl hA', ho'⟩
  have h11' := h11
  obtain ⟨a11, c11, rfl⟩ := own_shape h11'
  clear hC11 hG11 h11 h11'
  simp only [Act.put, List.setIfInBounds_toArray, List.set_cons_zero, List.set_cons_succ]
  refine relE_val [] rfl rfl rfl (by kernel_rfl) (fun y hy hf => ?_) ?_
  · go_simp
    exact ⟨hy, NE_ext rfl (Ext.refl y), rfl⟩
  simp only [Act.put, List.setIfInBounds_toArray, List.set_cons_zero, List.set_cons_succ]
  refine relE_quiet rfl rfl rfl rfl ?_; intro K hK; go_big_quiet_op; (first | refine ⟨_, fun _ _ => rfl, hK _ ?_⟩ | refine hK _ ?_); clear hK K
  refine relE_tail rfl rfl fun w8 hC8 hG => ?_
  have h15 := (hG 11).2 rfl
  have hb8 := BoxAt.ext hC8.ext hqx
  have z0 : w8.cell? ⟨q, 0, none⟩ = some (.slice a m c) := hb8.cell 0
  have zf := hb8.free 0
  clear hG
  go_wp2
  go_ret
  have hqs := hqx.lt
  have hle := h1.le
  have hbk : Ext w w8 := hE0.trans (hE1.trans hC8.ext)
  have hB : BK g w (w8.setCell ⟨q, 0, none⟩ (.slice a11 (k + 1 + (m - k)) c11)) := (BK.of_ext hbk hgw).trans (BK.set hle hb8 (.inl rfl) 0 _)
  refine ⟨⟨rfl, hB⟩, ⟨_, hb8.set 0 _, ?_⟩, hle⟩
  have ho := ownsRow_setCell_below h15 (a := ⟨q, 0, none⟩) hqs (.slice a11 (k + 1 + (m - k)) c11)
  have el : (F.take k ++ (id, b.data.toList) :: F.drop k).length = k + 1 + (m - k) := by simp [← HM.out]; omega
  have ec : ncells (F.take k ++ (id, b.data.toList) :: F.drop k) = X ++ [.int .i64 id, .string b] ++ R := by
    rw [ncells_append, show (id, b.data.toList) :: F.drop k = [(id, b.data.toList)] ++ F.drop k from rfl, ncells_append, HX.out, HR.out, List.append_assoc]
    simp only [ncells, List.flatMap_cons, List.flatMap_nil, List.append_nil]
    rw [show str b.data.toList = b from (str_eq rfl).symm]
  rw [el, ec]
  exact own_mono (by have := hE0.le; have := hE1.le; omega) ho
end
end Go.Proofs.Ytmjhdfifbjdgpaa
