/- Appends to rows of one's own inside regions that draw their order: what an append does to the block it may write to, cell by cell. -/
import Derived.Test.YtimbikbbbfpeeaaGreatDoorP1
import Derived.Test.YtimbikbbbfpeeaaGreatDoorP4
import Derived.Laws.Entries
import Derived.Laws.OwnMore
import Derived.Test.YtimbikbbbfpeeaaGreatDoorP28
set_option linter.unusedSimpArgs false
set_option linter.unusedVariables false
namespace Go.Proofs.YtimbikbbbfpeeaaGreatDoor
open Go Go.RowKit

/-- An append of N to a row of one's own that holds X (k elements). -/
def AppE (T : TypeId) (size S k : Nat) (X N : List Value) (x y : World) : Prop :=
  ∃ vo, x.ownsRow S T size vo k X ∧ x.grownBy y vo.ownBlock ∧ ∀ g, vo.ownBlock = some g → ∀ cur, x.heap[g]? = some (.cells cur T (0, 0)) →
    ∃ cur2, y.heap[g]? = some (.cells cur2 T (0, 0)) ∧ cur2.size = cur.size ∧ ∀ i, cur2[i]? = cur[i]? ∨ (k * size ≤ i ∧ i < k * size + N.length ∧ cur2[i]? = N[i - k * size]?)
section
variable {T : TypeId} {size S k : Nat} {X N : List Value} {x y : World}
theorem AppE.to {w : World} (hS : w.heap.size ≤ S) (h : AppE T size S k X N x y) (hE : Ext w x) : Ext w y := by
  obtain ⟨vo, ho, hg, _⟩ := h
  exact hE.grown hg (fun q hq => by have := (ho.lt q hq).1; omega)
theorem AppE.le (h : AppE T size S k X N x y) : x.heap.size ≤ y.heap.size := by
  obtain ⟨vo, ho, hg, _⟩ := h
  exact hg.size
theorem AppE.keep (h : AppE T size S k X N x y) {S' : Nat} {v : Value} {m : Nat} {Y : List Value} (ho : x.ownsRow S' T size v m Y) (hY : ∀ i u, Y[i]? = some u → k * size ≤ i → i < k * size + N.length → N[i - k * size]? = some u) : y.ownsRow S' T size v m Y := by
  obtain ⟨vo, _, hg, hc⟩ := h
  refine ⟨ho.1, ho.2.imp id ?_⟩
  rintro ⟨g, cap, cur, rfl, hb, hh, hmc, hcm, hcs, ht⟩
  by_cases e : vo.ownBlock = some g
  · obtain ⟨cur2, h2, hs2, hi⟩ := hc g e cur hh
    refine ⟨g, cap, cur2, rfl, hb, h2, hmc, hcm, by rw [hs2, hcs], ?_⟩
    apply List.ext_getElem?
    intro i
    by_cases hlt : i < m * size
    · have hYi : Y[i]? = cur[i]? := by rw [← ht, List.getElem?_take, if_pos hlt, Array.getElem?_toList]
      rw [List.getElem?_take, if_pos hlt, Array.getElem?_toList]
      rcases hi i with h1 | ⟨h1, h1', h2⟩
      · rw [h1, hYi]
      · have hl : i < Y.length := by rw [ho.1]; exact hlt
        rw [h2, hY i _ (List.getElem?_eq_getElem hl) h1 h1', List.getElem?_eq_getElem hl]
    · rw [List.getElem?_take, if_neg hlt, List.getElem?_eq_none (by rw [ho.1]; omega)]
  · exact ⟨g, cap, cur, rfl, hb, by rw [hg.block g (Array.getElem?_eq_some_iff.1 hh).1 (fun h => e h.symm)]; exact hh, hmc, hcm, hcs, ht⟩
theorem AppE.keep_short (h : AppE T size S k X N x y) {S' : Nat} {v : Value} {m : Nat} {Y : List Value} (ho : x.ownsRow S' T size v m Y) (hm : m ≤ k) : y.ownsRow S' T size v m Y :=
  h.keep ho fun i u hu h1 _ => by
    have h2 := (List.getElem?_eq_some_iff.1 hu).1
    rw [ho.1] at h2
    have := Nat.mul_le_mul_right size hm
    omega
theorem AppE.keep_long (h : AppE T size S k X N x y) (hX : X.length = k * size) {S' : Nat} {v : Value} {m : Nat} {R : List Value} (ho : x.ownsRow S' T size v m (X ++ N ++ R)) : y.ownsRow S' T size v m (X ++ N ++ R) :=
  h.keep ho fun i u hu h1 h2 => by
    rw [List.append_assoc, List.getElem?_append_right (by omega), hX, List.getElem?_append_left (by omega)] at hu
    exact hu
/-- A variable of one element, of the row's type. -/
theorem AppE.box (h : AppE T size S k X N x y) {b : Nat} {cs : Array Value} {U : TypeId} (hb : BoxAt x b cs U) (hcs : U = T → ∀ i u, cs[i]? = some u → k * size ≤ i → i < k * size + N.length → N[i - k * size]? = some u) : BoxAt y b cs U := by
  obtain ⟨vo, ho, hg, hc⟩ := h
  by_cases e : vo.ownBlock = some b
  · rcases ho.2 with ⟨rfl, _⟩ | ⟨g, cap, cur, rfl, hb', hh, _⟩
    · cases e
    · have e' : g = b := Option.some.inj e
      subst e'
      have hb2 : x.heap[g]? = some (.cells cs U (0, 0)) := hb
      rw [hh] at hb2
      cases hb2
      obtain ⟨cur2, h2, hs2, hi⟩ := hc g rfl cs hh
      have e2 : cur2 = cs := by
        apply Array.ext_getElem?
        intro i
        rcases hi i with h1 | ⟨h1, h1', h3⟩
        · exact h1
        · by_cases hl : i < cs.size
          · rw [h3, hcs rfl i _ (Array.getElem?_eq_getElem hl) h1 h1', Array.getElem?_eq_getElem hl]
          · rw [Array.getElem?_eq_none (by omega), Array.getElem?_eq_none (by omega)]
      unfold BoxAt
      rw [h2, e2]
  · exact hb.grown hg (fun h => e h.symm)
end
/-- 'append' to a row of one's own, told cell by cell. -/
theorem run_append_cells {P : Program} (w : World) (base : Nat) (t ty e : TypeId) (i : TypeInfo) (z : Value) (size bytes : Nat) (ht : P.underlying t = some (.slice e)) (hi : P.info? e = some i) (hz : i.zero = some z)
    (hsize : i.size = size) (hby : i.bytes = bytes) (hzs : z.cells.size = size) (hsz : 0 < size)
    (v : Value) (n : Nat) (xs : List Value) (hown : w.ownsRow base e size v n xs)
    (a : Addr) (m c : Nat) (news : List Value) (hl : news.length = m * size) (hnews : ∀ j u, news[j]? = some u → w.cell? (a.add j) = some u) (h1 : ∀ u ∈ news, u.oneCell' = true)
    (h63 : n + m ≤ maxLen) (hbytes : (n + m) * bytes ≤ 140737488355328) (hbase : base ≤ w.heap.size) :
    ∃ v' w', (Builtin.append_ #[t, t] ty #[v, .slice (some a) m c]).run P w = .ok v' w' ∧ w'.ownsRow base e size v' (n + m) (xs ++ news) ∧ AppE e size base n xs news w w' ∧ w.grownBy w' v.ownBlock := by
  obtain ⟨v', w', hr, h2, h3, _⟩ := run_append_own (P := P) w base t ty e i z size bytes ht hi hz hsize hby hzs hsz v n xs hown a m c news hl hnews h1 h63 hbytes hbase
  refine ⟨v', w', hr, h2, ⟨v, hown, h3, ?_⟩, h3⟩
  subst hsize
  subst hby
  have hsmall : n + m ≤ 9223372036854775807 := by simp only [maxLen] at h63; omega
  rcases hown.2 with ⟨rfl, rfl⟩ | ⟨g, cap, cur, rfl, hbg, hg, hnc, hcm, hcs, htake⟩
  · intro g hgv; cases hgv
  · intro g' hgv cur' hc'
    have e' : g = g' := Option.some.inj hgv
    subst e'
    rw [hg] at hc'
    cases hc'
    by_cases hroom : n + m ≤ cap
    · have hfit : n * i.size + news.length ≤ cur.size := by rw [hl, hcs, ← Nat.add_mul]; exact Nat.mul_le_mul_right _ hroom
      have hr2 := run_append_room (P := P) w t ty e i ht hi g n cap cur hg a m c news hl hnews h1 hroom hfit
      rw [hr] at hr2
      cases hr2
      refine ⟨_, setRow_heap w g cur _ e (0, 0) hg, ?_, fun j => ?_⟩
      · simp; omega
      · simp only [List.getElem?_toArray]
        rcases Nat.lt_or_ge j (n * i.size) with hj | hj
        · left
          rw [List.append_assoc, List.getElem?_append_left (by simp; omega), List.getElem?_take, if_pos hj, Array.getElem?_toList]
        · rcases Nat.lt_or_ge j (n * i.size + news.length) with hj2 | hj2
          · right
            refine ⟨hj, hj2, ?_⟩
            have hl0 : (cur.toList.take (n * i.size)).length = n * i.size := by simp; omega
            rw [List.append_assoc, List.getElem?_append_right (by omega), hl0, List.getElem?_append_left (by omega)]
          · left
            have hl0 : (cur.toList.take (n * i.size) ++ news).length = n * i.size + news.length := by simp; omega
            rw [List.getElem?_append_right (by omega), hl0, List.getElem?_drop, show n * i.size + news.length + (j - (n * i.size + news.length)) = j by omega, Array.getElem?_toList]
    · have holds : ∀ j u, xs[j]? = some u → w.cell? ((⟨g, 0, none⟩ : Addr).add j) = some u := hown.cells (g := g) rfl
      have hr2 := run_append_grow (P := P) w t ty e i z ht hi hz ⟨g, 0, none⟩ n cap xs hown.1 holds a m c news hl hnews (by omega) (by omega) (growslice_fits (by omega) hbytes)
      rw [hr] at hr2
      cases hr2
      refine ⟨cur, ?_, rfl, fun _ => .inl rfl⟩
      have hlt := (Array.getElem?_eq_some_iff.1 hg).1
      exact (heap_alloc_old w.drew _ hlt).trans hg
theorem AppE.refl {T : TypeId} {size S k : Nat} {X N : List Value} {x : World} {v : Value} (h : x.ownsRow S T size v k X) : AppE T size S k X N x x :=
  ⟨v, h, ⟨rfl, rfl, rfl, Nat.le_refl _, fun _ _ _ => rfl⟩, fun _ _ cur hc => ⟨cur, hc, rfl, fun _ => .inl rfl⟩⟩
/-- Operations j with p j = some (k, X, N) append N to a row of one's own that holds X; the others let memory grow. -/
def NE (T : TypeId) (size S : Nat) (p : Nat → Option (Nat × List Value × List Value)) (j : Nat) (x y : World) : Prop :=
  (p j = none ∧ Ext x y) ∨ ∃ k X N, p j = some (k, X, N) ∧ AppE T size S k X N x y
theorem NE_ext {T : TypeId} {size S : Nat} {p : Nat → Option (Nat × List Value × List Value)} {j : Nat} {x y : World} (hj : p j = none) (h : Ext x y) : NE T size S p j x y := .inl ⟨hj, h⟩
theorem NE_app {T : TypeId} {size S : Nat} {p : Nat → Option (Nat × List Value × List Value)} {j : Nat} {x y : World} {k : Nat} {X N : List Value} (hj : p j = some (k, X, N)) (h : AppE T size S k X N x y) : NE T size S p j x y := .inr ⟨k, X, N, hj, h⟩
theorem NE_to {T : TypeId} {size S : Nat} {p : Nat → Option (Nat × List Value × List Value)} {j : Nat} {x y w : World} (hS : w.heap.size ≤ S) (h : NE T size S p j x y) (hE : Ext w x) : Ext w y := by
  rcases h with ⟨_, h⟩ | ⟨_, _, _, _, h⟩
  · exact hE.trans h
  · exact h.to hS hE
theorem NE_le {T : TypeId} {size S : Nat} {p : Nat → Option (Nat × List Value × List Value)} {j : Nat} {x y : World} (h : NE T size S p j x y) : x.heap.size ≤ y.heap.size := by
  rcases h with ⟨_, h⟩ | ⟨_, _, _, _, h⟩
  · exact h.le
  · exact h.le
theorem NE_own {T : TypeId} {size S : Nat} {p : Nat → Option (Nat × List Value × List Value)} {j : Nat} {x y : World} (h : NE T size S p j x y) {S' : Nat} {v : Value} {m : Nat} {Y : List Value} (ho : x.ownsRow S' T size v m Y)
    (hY : ∀ k X N, p j = some (k, X, N) → ∀ i u, Y[i]? = some u → k * size ≤ i → i < k * size + N.length → N[i - k * size]? = some u) : y.ownsRow S' T size v m Y := by
  rcases h with ⟨_, h⟩ | ⟨k, X, N, hj, h⟩
  · exact ownsRow_ext ho h
  · exact h.keep ho (hY k X N hj)
theorem NE_box {T : TypeId} {size S : Nat} {p : Nat → Option (Nat × List Value × List Value)} {j : Nat} {x y : World} (h : NE T size S p j x y) {b : Nat} {cs : Array Value} {U : TypeId} (hb : BoxAt x b cs U)
    (hY : ∀ k X N, p j = some (k, X, N) → U = T → ∀ i u, cs[i]? = some u → k * size ≤ i → i < k * size + N.length → N[i - k * size]? = some u) : BoxAt y b cs U := by
  rcases h with ⟨_, h⟩ | ⟨k, X, N, hj, h⟩
  · exact hb.ext h
  · exact h.box hb (hY k X N hj)
/-- 'append' of any slice to a row of one's own, as the region's walk meets it. -/
theorem yields_app {P : Program} {o : Oper} {a : Act} {Tt e : TypeId} {z : Value} {size bytes : Nat} (info : (P.info? e).map (fun i => (i.zero, i.size, i.bytes)) = some (some z, size, bytes)) (und : P.underlying Tt = some (.slice e)) (hzs : z.cells.size = size) (hsz : 0 < size) (s x : Operand)
    (hop : o.op = Op.call { callee := Callee.builtin Builtin.append, args := #[s, x], argTypes := #[Tt, Tt] }) {w : World}
    (B : Nat) (hB : B ≤ w.heap.size) (v : Value) (m : Nat) (xs : List Value) (hown : w.ownsRow B e size v m xs) (hs : a.eval s = v) {u : Value} {c : Nat} {news : List Value} (hin : SliceIn w u c news) (hx : a.eval x = u)
    (hl : news.length = c * size) (h1 : ∀ u ∈ news, u.oneCell' = true) (h63 : m + c ≤ maxLen) (hb : (m + c) * bytes ≤ 140737488355328) {R : Value → World → Prop}
    (hR : ∀ v' w', w'.ownsRow B e size v' (m + c) (xs ++ news) → AppE e size B m xs news w w' → w.grownBy w' v.ownBlock → R v' w') : yields P o a w R := by
  obtain ⟨i0, hi, hz0, hz1, hz2⟩ := info_parts info
  obtain ⟨ao, cp, rfl, hc, hcm, ha, hcell⟩ := hin
  cases ao with
  | none =>
    have hc0 := ha rfl
    obtain rfl : c = 0 := by omega
    obtain rfl : news = [] := List.eq_nil_of_length_eq_zero (by omega)
    subst hc0
    have hr := run_append_owned_none (P := P) (w := w) B Tt o.type e i0 size und hi v m xs hown
    unfold yields execOp
    simp only [hop, resolve, invoke, builtin, Sem.run_bind, Sem.run_pure, Result.andThen_ok, List.map_toArray, List.map_cons, List.map_nil, hs, hx, hr]
    exact hR _ _ (by rw [List.append_nil]; exact hown) (AppE.refl hown) ⟨rfl, rfl, rfl, Nat.le_refl _, fun _ _ _ => rfl⟩
  | some ad =>
    obtain ⟨v', w', hr, h2, h3, h4⟩ := run_append_cells (P := P) w B Tt o.type e i0 z size bytes und hi hz0 hz1 hz2 hzs hsz v m xs hown ad c cp news hl (fun j u hj => by
      obtain ⟨b, o, e, h⟩ := hcell j u hj
      cases e
      rw [Addr.add_lit]
      exact h) h1 h63 hb hB
    unfold yields execOp
    simp only [hop, resolve, invoke, builtin, Sem.run_bind, Sem.run_pure, Result.andThen_ok, List.map_toArray, List.map_cons, List.map_nil, hs, hx, hr]
    exact hR v' w' h2 h3 h4
end Go.Proofs.YtimbikbbbfpeeaaGreatDoor

/- pack.cell, pack.row: cells and rows as bytes. -/
namespace Go.Proofs.YtimbikbbbfpeeaaGreatDoor
open Go Go.RowKit
attribute [local go_sem] yields yUpon

theorem ownB_shapeP {w : World} {B : Nat} {v : Value} {l : List UInt8} (h : OwnB w B v l) : ∃ a c, v = .slice a l.length c := by
  rcases h.2 with ⟨rfl, h0⟩ | ⟨g, cap, cur, rfl, _⟩
  · exact ⟨none, 0, by rw [h0]⟩
  · exact ⟨_, cap, rfl⟩
theorem dat_size (s : ByteArray) : s.data.toList.length = s.size := by rw [Array.length_toList]; rfl
/-- A cell's bytes. -/
def cellP (c : Cl) : List UInt8 := num c.at_.toNat ++ (if c.at_ = 0 then [] else if c.dead = true then [1] else [0] ++ num c.val.size ++ c.val.data.toList ++ num c.fin.toNat)
/-- No number below nought, no text too long. -/
structure OkC (c : Cl) : Prop where
  at0 : 0 ≤ c.at_
  at1 : c.at_ ≤ 1099511627776
  fin0 : 0 ≤ c.fin
  fin1 : c.fin ≤ 1099511627776
  val : c.val.size ≤ 1000
theorem cellP_le {c : Cl} (h : OkC c) : (cellP c).length ≤ 1028 := by
  obtain ⟨h0, h1, h2, h3, h4⟩ := h
  have l1 := num_length (x := c.at_.toNat) (by omega)
  have l2 := num_length (x := c.val.size) (by omega)
  have l3 := num_length (x := c.fin.toNat) (by omega)
  unfold cellP
  split
  · simp only [List.append_nil]; omega
  · split
    · simp only [List.length_append, List.length_cons, List.length_nil]; omega
    · simp only [List.length_append, List.length_cons, List.length_nil, dat_size]; omega

/-- One append of bytes N to bytes l of one's own. -/
def pB (l N : List UInt8) (i j : Nat) : Option (Nat × List Value × List Value) := if j = i then some (l.length, bcells l, bcells N) else none
theorem pB_none {l N : List UInt8} {i j : Nat} (h : j ≠ i) : pB l N i j = none := by unfold pB; rw [if_neg h]
theorem pB_self {l N : List UInt8} {i : Nat} : pB l N i i = some (l.length, bcells l, bcells N) := by unfold pB; rw [if_pos rfl]
theorem pB_some {l N : List UInt8} {i j k : Nat} {X M : List Value} (h : pB l N i j = some (k, X, M)) : j = i ∧ k = l.length ∧ X = bcells l ∧ M = bcells N := by
  unfold pB at h
  split at h
  · cases h; exact ⟨by assumption, rfl, rfl, rfl⟩
  · cases h
theorem NEb_long {S i j : Nat} {l N : List UInt8} {x y : World} (h : NE 5 1 S (pB l N i) j x y) {B : Nat} {v : Value} {L : List UInt8} (ho : OwnB x B v L) (hL : ∃ R, L = l ++ N ++ R) : OwnB y B v L := by
  obtain ⟨R, rfl⟩ := hL
  rcases h with ⟨_, h⟩ | ⟨k, X, M, hp, hA⟩
  · exact ho.ext h
  · obtain ⟨_, rfl, rfl, rfl⟩ := pB_some hp
    unfold OwnB at ho ⊢
    rw [bcells_append, bcells_append] at ho ⊢
    exact hA.keep_long (by rw [bcells_length, Nat.mul_one]) ho
theorem NEb_end {S i j : Nat} {l N : List UInt8} {x y : World} (hj : j ≠ i) (h : NE 5 1 S (pB l N i) j x y) {B : Nat} {v : Value} {L : List UInt8} (ho : OwnB x B v L) : OwnB y B v L := by
  rcases h with ⟨_, h⟩ | ⟨k, X, M, hp, hA⟩
  · exact ho.ext h
  · exact absurd (pB_some hp).1 hj
theorem NEb_box {S i j : Nat} {l N : List UInt8} {x y : World} (h : NE 5 1 S (pB l N i) j x y) {b : Nat} {cs : Array Value} {U : TypeId} (hU : U ≠ 5) (hb : BoxAt x b cs U) : BoxAt y b cs U :=
  NE_box h hb fun _ _ _ _ e => absurd e hU
theorem NEb_one {S i j : Nat} {l : List UInt8} {u : UInt8} {x y : World} (h : NE 5 1 S (pB l [u] i) j x y) {b : Nat} (hb : BoxAt x b #[.int .u8 (u.toNat : Int)] 5) : BoxAt y b #[.int .u8 (u.toNat : Int)] 5 :=
  NE_box h hb fun k' X' N' hp _ i' u' hu h1 h2 => by
    have hi : i' < 1 := by have := (Array.getElem?_eq_some_iff.1 hu).1; simpa using this
    obtain ⟨_, rfl, rfl, rfl⟩ := pB_some hp
    have hk0 : i' - l.length * 1 = 0 := by omega
    have hi0 : i' = 0 := by omega
    subst hi0
    rw [hk0]
    simpa [bcells] using hu

structure CelC (w : World) (q : Nat) (cs : Array Value) (v : Value) (l : List UInt8) (x : World) : Prop where
  ext : Ext w x
  box : BoxAt x q cs 63
  own : OwnB x w.heap.size v l
theorem CelC.grow {w : World} {q : Nat} {cs : Array Value} {v : Value} {l : List UInt8} {x y : World} (h : CelC w q cs v l x) (hE : Ext x y) : CelC w q cs v l y := ⟨h.ext.trans hE, h.box.ext hE, h.own.ext hE⟩
theorem CelC.app {w : World} {q : Nat} {cs : Array Value} {v : Value} {l : List UInt8} {M : List Value} {x y : World} (h : CelC w q cs v l x) (hA : AppE 5 1 w.heap.size l.length (bcells l) M x y) : CelC w q cs v l y :=
  ⟨hA.to (Nat.le_refl _) h.ext, hA.box h.box (fun e => absurd e (by decide)), hA.keep_short h.own (Nat.le_refl _)⟩

set_option maxRecDepth 100000 in
set_option maxHeartbeats 4000000 in
theorem pk_cell (v : Value) (l : List UInt8) (c : Cl) (hc : OkC c) (w : World) (hv : BytesIn w v l) (hl : l.length ≤ 900000000) :
    Calls Tryz.prog 177 #[v, .agg (cl4 c)] w fun e w' => ∃ v', e = .returned v' ∧ OwnB w' w.heap.size v' (l ++ cellP c) ∧ Ext w w' := by
  have hE0 := (Ext.refl w).alloc (.cells (cl4 c) 63)
  have hbx := BoxAt.made w (cl4 c) 63
  obtain ⟨val, dead, at_, fin⟩ := c
  obtain ⟨h0, h1, h2, h3, h4⟩ := hc
  simp only at h0 h1 h2 h3 h4
  unfold cl4 at *
  simp only at hbx hE0 ⊢
  have c2 : (w.alloc (.cells #[.string val, .bool dead, .int .i64 at_, .int .i64 fin] 63)).cell? ⟨w.heap.size, 2, none⟩ = some (.int .i64 at_) := hbx.cell 2
  have l1 := num_length (x := at_.toNat) (by omega)
  have l2 := num_length (x := val.size) (by omega)
  obtain ⟨M, hM⟩ : ∃ M, M = l ++ num at_.toNat := ⟨_, rfl⟩
  have hMl : M.length ≤ 900000009 := by rw [hM, List.length_append]; omega
  have HM := Lib.hid hM
  clear hM
  by_cases e0 : at_ = 0
  · subst e0
    have HP : Hid (l ++ cellP ⟨val, dead, 0, fin⟩ = M) := Lib.hid (by rw [HM.out]; unfold cellP; rw [if_pos rfl, List.append_nil])
    rw [HP.out]
    go_enter Tryz.func177, Tryz.ntmps177
    go_wp2_with (go_at_call 74; go_must (refine (pk_number v l 0 h0 (by omega) _ (hv.ext hE0) (by omega)).mono ?_); rintro e w1 ⟨v1, rfl, ho1, hE1⟩; rw [← HM.out] at ho1; have ho1' := ho1; obtain ⟨a1, n1, rfl⟩ := ownB_shapeP ho1'; have hb1 := hbx.ext hE1; have d2 : w1.cell? ⟨w.heap.size, 2, none⟩ = some (.int .i64 0) := hb1.cell 2)
    go_ret
    exact ⟨_, rfl, ho1.base hE0.le, hE0.trans hE1⟩
  · by_cases ed : dead = true
    · subst ed
      have HP : Hid (l ++ cellP ⟨val, true, at_, fin⟩ = M ++ [1]) := Lib.hid (by rw [HM.out]; unfold cellP; rw [if_neg e0, if_pos rfl, List.append_assoc])
      rw [HP.out]
      go_enter Tryz.func177, Tryz.ntmps177
      go_wp2_with (first
        | (go_at_call 74; go_must (refine (pk_number v l at_ h0 (by omega) _ (hv.ext hE0) (by omega)).mono ?_); rintro e w1 ⟨v1, rfl, ho1, hE1⟩; rw [← HM.out] at ho1; have ho1' := ho1; obtain ⟨a1, n1, rfl⟩ := ownB_shapeP ho1'; have hb1 := hbx.ext hE1; have d1 : w1.cell? ⟨w.heap.size, 1, none⟩ = some (.bool true) := hb1.cell 1; have d2 : w1.cell? ⟨w.heap.size, 2, none⟩ = some (.int .i64 at_) := hb1.cell 2)
        | (at_builtin; go_must (refine appB w1 rfl (.tmp 17) (.tmp 18) rfl w (hE0.trans hE1) _ M _ [1] (csb 1) (by simp) rfl (Tip.own (ho1.base hE0.le)) _ rfl rfl (by simp; omega) ?_); intro v2 w2 ho2 hE2))
      go_ret
      exact ⟨_, rfl, ho2, hE2⟩
    · obtain rfl : dead = false := by simpa using ed
      have HP : Hid (l ++ cellP ⟨val, false, at_, fin⟩ = M ++ [0] ++ num val.size ++ val.data.toList ++ num fin.toNat) := Lib.hid (by rw [HM.out]; unfold cellP; rw [if_neg e0, if_neg (by simp)]; simp only [List.append_assoc])
      obtain ⟨M2, hM2⟩ : ∃ X, X = M ++ [0] ++ num val.size ++ val.data.toList := ⟨_, rfl⟩
      have hM2l : M2.length ≤ 900002009 := by rw [hM2]; simp only [List.length_append, List.length_cons, List.length_nil, dat_size]; omega
      have hM2R : ∃ R, M2 = M ++ [0] ++ R := ⟨num val.size ++ val.data.toList, by rw [hM2]; simp only [List.append_assoc]⟩
      have hM3R : ∃ R, M2 ++ num fin.toNat = M ++ [0] ++ R := ⟨num val.size ++ val.data.toList ++ num fin.toNat, by rw [hM2]; simp only [List.append_assoc]⟩
      have HM2 := Lib.hid hM2
      obtain ⟨M1, hM1⟩ : ∃ X, X = M ++ [0] := ⟨_, rfl⟩
      have hM1l : M1.length ≤ 900000010 := by rw [hM1]; simp only [List.length_append, List.length_cons, List.length_nil]; omega
      have HM1 := Lib.hid hM1
      clear hM1
      obtain ⟨M3, hM3⟩ : ∃ X, X = M2 ++ num fin.toNat := ⟨_, rfl⟩
      have HM3 := Lib.hid hM3
      rw [← hM2, ← hM3] at HP
      rw [← hM3] at hM3R
      clear hM2 hM3
      rw [HP.out]
      go_enter Tryz.func177, Tryz.ntmps177
      go_wp2_with (go_at_call 74; go_must (refine (pk_number v l at_ h0 (by omega) _ (hv.ext hE0) (by omega)).mono ?_); rintro e w1 ⟨v1, rfl, ho1, hE1⟩; rw [← HM.out] at ho1; have ho1' := ho1; obtain ⟨a1, n1, rfl⟩ := ownB_shapeP ho1'; have hb1 := hbx.ext hE1; have d1 : w1.cell? ⟨w.heap.size, 1, none⟩ = some (.bool false) := hb1.cell 1; have d2 : w1.cell? ⟨w.heap.size, 2, none⟩ = some (.int .i64 at_) := hb1.cell 2)
      have hC0 : CelC w w.heap.size #[.string val, .bool false, .int .i64 at_, .int .i64 fin] (.slice a1 M.length n1) M w1.drew := CelC.grow ⟨hE0.trans hE1, hb1, ho1.base hE0.le⟩ (Ext.refl w1).drew
      refine wp_region_relE (CelC w w.heap.size #[.string val, .bool false, .int .i64 at_, .int .i64 fin] (.slice a1 M.length n1) M) (NE 5 1 w.heap.size (pB M [0] 2))
        (Tab.atE [(0, fun v _ => v = .slice a1 M.length n1), (1, fun v x => ∃ bb, v = .slice (some ⟨bb, 0, none⟩) 1 1 ∧ BoxAt x bb #[.int .u8 ((0 : UInt8).toNat : Int)] 5), (2, fun v x => OwnB x w.heap.size v M1), (3, fun v _ => v = .pointer (some ⟨w.heap.size, 0, none⟩)), (4, fun v _ => v = .string val), (5, fun v x => OwnB x w.heap.size v M2), (6, fun v _ => v = .pointer (some ⟨w.heap.size, 3, none⟩)), (7, fun v _ => v = .int .i64 fin), (8, fun v x => OwnB x w.heap.size v M3)])
        (Tab.staysE ⟨fun _ _ _ _ _ _ h => h, fun j hj v x y hR ⟨bb, e, hx⟩ => ⟨bb, e, NEb_one hR hx⟩, fun j hj v x y hR hx => NEb_end hj hR hx, fun _ _ _ _ _ _ h => h, fun _ _ _ _ _ _ h => h, fun j hj v x y hR hx => NEb_long hR hx hM2R, fun _ _ _ _ _ _ h => h, fun _ _ _ _ _ _ h => h, fun j hj v x y hR hx => NEb_long hR hx hM3R, trivial⟩)
        9 (by kernel_rfl) (by kernel_rfl) (by kernel_rfl) hC0 ?_
      refine relE_val [] rfl rfl rfl (by kernel_rfl) (fun y hy hf => ?_) ?_
      · go_simp
        exact ⟨hy, NE_ext rfl (Ext.refl y), rfl⟩
      simp only [Act.put, List.setIfInBounds_toArray, List.set_cons_zero, List.set_cons_succ]
      refine relE_fact [] rfl rfl rfl (by kernel_rfl) (fun y hy hf => ?_) (fun v3 y3 hC3 hG3 h3 => ?_)
      · go_simp
        exact ⟨hy.grow ((Ext.refl y).alloc _), NE_ext rfl ((Ext.refl y).alloc _), _, rfl, BoxAt.made y _ _⟩
      obtain ⟨b3, rfl, _⟩ := h3
      clear hC3 hG3
      simp only [Act.put, List.setIfInBounds_toArray, List.set_cons_zero, List.set_cons_succ]
      refine relE_fact [1] rfl rfl rfl (by kernel_rfl) (fun y hy hf => ?_) (fun v4 y4 hC4 hG4 h4 => ?_)
      · obtain ⟨bb, e, hx⟩ := (hf 1 (by simp)).2 rfl
        cases e
        have hin : SliceIn y (.slice (some ⟨b3, 0, none⟩) 1 1) 1 (bcells [0]) := ⟨_, _, rfl, Nat.le_refl _, by unfold maxLen; omega, nofun, fun j u hj => ⟨b3, 0, rfl, by rw [Nat.zero_add, hx.cell j]; simpa [bcells] using hj⟩⟩
        refine yields_app info_u8 und_bytes rfl (by decide) (.tmp 20) (.tmp 21) rfl w.heap.size hy.ext.le _ M.length (bcells M) hy.own (by rfl) hin (by rfl) rfl (by simp [bcells, Value.oneCell']) (by unfold maxLen; omega) (by omega) ?_
        intro v' y' ho' hA' _
        refine ⟨hy.app hA', NE_app pB_self hA', ?_⟩
        unfold OwnB
        rw [HM1.out, bcells_append, List.length_append]
        exact ho'
      have h4' := h4
      obtain ⟨a4, c4, rfl⟩ := ownB_shapeP h4'
      clear hC4 hG4 h4 h4'
      simp only [Act.put, List.setIfInBounds_toArray, List.set_cons_zero, List.set_cons_succ]
      refine relE_val [] rfl rfl rfl (by kernel_rfl) (fun y hy hf => ?_) ?_
      · go_simp
        exact ⟨hy, NE_ext rfl (Ext.refl y), rfl⟩
      simp only [Act.put, List.setIfInBounds_toArray, List.set_cons_zero, List.set_cons_succ]
      refine relE_val [] rfl rfl rfl (by kernel_rfl) (fun y hy hf => ?_) ?_
      · have z0 : y.cell? ⟨w.heap.size, 0, none⟩ = some (.string val) := hy.box.cell 0
        go_simp
        exact ⟨hy, NE_ext rfl (Ext.refl y), rfl⟩
      simp only [Act.put, List.setIfInBounds_toArray, List.set_cons_zero, List.set_cons_succ]
      refine relE_fact [2] rfl rfl rfl (by kernel_rfl) (fun y hy hf => ?_) (fun v5 y5 hC5 hG5 h5 => ?_)
      · have h2 := (hf 2 (by simp)).2 rfl
        go_simp
        refine (pk_text _ M1 val (by omega) y (OwnB.bytes h2) (by omega)).mono ?_
        rintro e w' ⟨v', rfl, ho, hw⟩
        exact ⟨_, rfl, hy.grow hw, NE_ext rfl hw, by rw [HM2.out, ← HM1.out]; exact ho.base hy.ext.le⟩
      have h5' := h5
      obtain ⟨a5, c5, rfl⟩ := ownB_shapeP h5'
      clear hC5 hG5 h5 h5'
      simp only [Act.put, List.setIfInBounds_toArray, List.set_cons_zero, List.set_cons_succ]
      refine relE_val [] rfl rfl rfl (by kernel_rfl) (fun y hy hf => ?_) ?_
      · go_simp
        exact ⟨hy, NE_ext rfl (Ext.refl y), rfl⟩
      simp only [Act.put, List.setIfInBounds_toArray, List.set_cons_zero, List.set_cons_succ]
      refine relE_val [] rfl rfl rfl (by kernel_rfl) (fun y hy hf => ?_) ?_
      · have z3 : y.cell? ⟨w.heap.size, 3, none⟩ = some (.int .i64 fin) := hy.box.cell 3
        go_simp
        exact ⟨hy, NE_ext rfl (Ext.refl y), rfl⟩
      simp only [Act.put, List.setIfInBounds_toArray, List.set_cons_zero, List.set_cons_succ]
      refine relE_fact [5] rfl rfl rfl (by kernel_rfl) (fun y hy hf => ?_) (fun v8 y8 hC8 hG8 h8 => ?_)
      · have h5 := (hf 5 (by simp)).2 rfl
        go_simp
        refine (pk_number _ M2 fin (by omega) (by omega) y (OwnB.bytes h5) (by omega)).mono ?_
        rintro e w' ⟨v', rfl, ho, hw⟩
        exact ⟨_, rfl, hy.grow hw, NE_ext rfl hw, by rw [HM3.out]; exact ho.base hy.ext.le⟩
      have h8' := h8
      obtain ⟨a8, c8, rfl⟩ := ownB_shapeP h8'
      clear hC8 hG8 h8 h8'
      simp only [Act.put, List.setIfInBounds_toArray, List.set_cons_zero, List.set_cons_succ]
      refine relE_tail rfl rfl fun w9 hC9 hG => ?_
      have h15 := (hG 8).2 rfl
      clear hG
      go_wp2
      go_ret
      exact ⟨_, rfl, h15, hC9.ext⟩
/-- A column's bytes; a row's. -/
def colP (c : Co) : List UInt8 := num c.name.size ++ c.name.data.toList ++ cellP c.cell
def rowP (r : Ro) : List UInt8 := num r.key.size ++ r.key.data.toList ++ cellP r.live ++ num r.gone.toNat ++ num r.shade.toNat ++ num r.cols.length ++ r.cols.flatMap colP
structure OkCo (c : Co) : Prop where
  name : c.name.size ≤ 1000
  cell : OkC c.cell
structure OkR (r : Ro) : Prop where
  key : r.key.size ≤ 1000
  live : OkC r.live
  gone0 : 0 ≤ r.gone
  gone1 : r.gone ≤ 1099511627776
  shade0 : 0 ≤ r.shade
  shade1 : r.shade ≤ 1099511627776
  many : r.cols.length ≤ 100
  cols : ∀ c ∈ r.cols, OkCo c
theorem colP_le {c : Co} (h : OkCo c) : (colP c).length ≤ 2037 := by
  have l1 := num_length (x := c.name.size) (by have := h.name; omega)
  have l2 := cellP_le h.cell
  have := h.name
  unfold colP
  simp only [List.length_append, dat_size]
  omega
theorem flat_le {α : Type} {f : α → List UInt8} {n : Nat} : ∀ {l : List α}, (∀ c ∈ l, (f c).length ≤ n) → (l.flatMap f).length ≤ l.length * n
  | [], _ => by simp
  | c :: l, h => by
    have h1 := h c (List.mem_cons_self ..)
    have h2 := flat_le (f := f) (n := n) (l := l) (fun d hd => h d (List.mem_cons_of_mem _ hd))
    rw [List.flatMap_cons, List.length_append, List.length_cons, Nat.succ_mul]
    omega
theorem rowP_le {r : Ro} (h : OkR r) : (rowP r).length ≤ 300000 := by
  obtain ⟨h1, h2, h3, h4, h5, h6, h7, h8⟩ := h
  have l1 := num_length (x := r.key.size) (by omega)
  have l2 := cellP_le h2
  have l3 := num_length (x := r.gone.toNat) (by omega)
  have l4 := num_length (x := r.shade.toNat) (by omega)
  have l5 := num_length (x := r.cols.length) (by omega)
  have l6 := flat_le (f := colP) (fun c hc => colP_le (h8 c hc))
  unfold rowP
  simp only [List.length_append, dat_size]
  omega
theorem flat_take {α : Type} {f : α → List UInt8} {l : List α} {k : Nat} {M : α} {R : List α} (hd : l.drop k = M :: R) : (l.take (k + 1)).flatMap f = (l.take k).flatMap f ++ f M := by
  have hk : k < l.length := by
    rcases Nat.lt_or_ge k l.length with h | h
    · exact h
    · rw [List.drop_eq_nil_of_le h] at hd; cases hd
  have e : l[k] = M := by rw [List.drop_eq_getElem_cons hk] at hd; exact (List.cons.inj hd).1
  rw [List.take_succ_eq_append_getElem hk, e, List.flatMap_append, List.flatMap_cons, List.flatMap_nil, List.append_nil]

set_option maxRecDepth 100000 in
set_option maxHeartbeats 8000000 in
theorem pk_row (v : Value) (l : List UInt8) (r : Ro) (u : Value) (hr : OkR r) (w : World) (hin : ColsIn w u r.cols) (hv : BytesIn w v l) (hl : l.length ≤ 500000000) :
    Calls Tryz.prog 126 #[v, (.agg #[.string r.key, .string r.live.val, .bool r.live.dead, .int .i64 r.live.at_, .int .i64 r.live.fin, .int .i64 r.gone, .int .i64 r.shade, u])] w fun e w' => ∃ v', e = .returned v' ∧ OwnB w' w.heap.size v' (l ++ rowP r) ∧ Ext w w' := by
  have hE0 := (Ext.refl w).alloc (.cells (ro8 r u) 66)
  have hbx := BoxAt.made w (ro8 r u) 66
  obtain ⟨au, cu, rfl, hcu, hcum, hget⟩ := hin.get
  obtain ⟨k1, k2, k3, k4, k5, k6, k7, k8⟩ := hr
  obtain ⟨key, live, gone, shade, cols⟩ := r
  obtain ⟨val, dead, at_, fin⟩ := live
  simp only at k1 k2 k3 k4 k5 k6 k7 k8 hget hcu
  have l1 := num_length (x := key.size) (by omega)
  have l2 := cellP_le k2
  have l3 := num_length (x := gone.toNat) (by omega)
  have l4 := num_length (x := shade.toNat) (by omega)
  have l5 := num_length (x := cols.length) (by omega)
  obtain ⟨B1, hB1⟩ : ∃ B, B = l ++ num key.size ++ key.data.toList := ⟨_, rfl⟩
  obtain ⟨B2, hB2⟩ : ∃ B, B = B1 ++ cellP ⟨val, dead, at_, fin⟩ := ⟨_, rfl⟩
  obtain ⟨B3, hB3⟩ : ∃ B, B = B2 ++ num gone.toNat := ⟨_, rfl⟩
  obtain ⟨B4, hB4⟩ : ∃ B, B = B3 ++ num shade.toNat := ⟨_, rfl⟩
  obtain ⟨B5, hB5⟩ : ∃ B, B = B4 ++ num cols.length := ⟨_, rfl⟩
  have m1 : B1.length ≤ 500001009 := by rw [hB1]; simp only [List.length_append, dat_size]; omega
  have m2 : B2.length ≤ 500002037 := by rw [hB2, List.length_append]; omega
  have m3 : B3.length ≤ 500002046 := by rw [hB3, List.length_append]; omega
  have m4 : B4.length ≤ 500002055 := by rw [hB4, List.length_append]; omega
  have m5 : B5.length ≤ 500002064 := by rw [hB5, List.length_append]; omega
  have HW : Hid (l ++ rowP ⟨key, ⟨val, dead, at_, fin⟩, gone, shade, cols⟩ = B5 ++ cols.flatMap colP) := Lib.hid (by rw [hB5, hB4, hB3, hB2, hB1]; unfold rowP; simp only [List.append_assoc])
  have H1 := Lib.hid hB1
  have H2 := Lib.hid hB2
  have H3 := Lib.hid hB3
  have H4 := Lib.hid hB4
  have H5 := Lib.hid hB5
  have HG := Lib.hid hget
  have HK := Lib.hid k8
  rw [HW.out]
  obtain ⟨n, hn⟩ : ∃ n, n = cols.length := ⟨_, rfl⟩
  unfold ro8 at *
  simp only at hbx hE0
  rw [← hn] at hbx hE0 hcu k7 l5 ⊢
  have HN := Lib.hid hn
  clear hB1 hB2 hB3 hB4 hB5 l1 l2 l3 l4 l5 hget k8 hn hin
  go_enter Tryz.func126, Tryz.ntmps126
  go_wp2
  refine wp_region_tab 14 [(3, fun v x => OwnB x w.heap.size v B1), (6, fun v x => OwnB x w.heap.size v B2), (9, fun v x => OwnB x w.heap.size v B3), (12, fun v x => OwnB x w.heap.size v B4)] (by kernel_rfl) (by kernel_rfl) (by kernel_rfl) ⟨fun _ _ _ hE h => h.ext hE, fun _ _ _ hE h => h.ext hE, fun _ _ _ hE h => h.ext hE, fun _ _ _ hE h => h.ext hE, trivial⟩ ?_
  have c0 := held (show (w.alloc (.cells #[.string key, .string val, .bool dead, .int .i64 at_, .int .i64 fin, .int .i64 gone, .int .i64 shade, .slice au n cu] 66)).cell? ⟨w.heap.size, 0, none⟩ = some (.string key) from hbx.cell 0)
  have c1 := held (show (w.alloc (.cells #[.string key, .string val, .bool dead, .int .i64 at_, .int .i64 fin, .int .i64 gone, .int .i64 shade, .slice au n cu] 66)).cell? ⟨w.heap.size, 1, none⟩ = some (.string val) from hbx.cell 1)
  have c2 := held (show (w.alloc (.cells #[.string key, .string val, .bool dead, .int .i64 at_, .int .i64 fin, .int .i64 gone, .int .i64 shade, .slice au n cu] 66)).cell? ⟨w.heap.size, 2, none⟩ = some (.bool dead) from hbx.cell 2)
  have c3 := held (show (w.alloc (.cells #[.string key, .string val, .bool dead, .int .i64 at_, .int .i64 fin, .int .i64 gone, .int .i64 shade, .slice au n cu] 66)).cell? ⟨w.heap.size, 3, none⟩ = some (.int .i64 at_) from hbx.cell 3)
  have c4 := held (show (w.alloc (.cells #[.string key, .string val, .bool dead, .int .i64 at_, .int .i64 fin, .int .i64 gone, .int .i64 shade, .slice au n cu] 66)).cell? ⟨w.heap.size, 4, none⟩ = some (.int .i64 fin) from hbx.cell 4)
  have c5 := held (show (w.alloc (.cells #[.string key, .string val, .bool dead, .int .i64 at_, .int .i64 fin, .int .i64 gone, .int .i64 shade, .slice au n cu] 66)).cell? ⟨w.heap.size, 5, none⟩ = some (.int .i64 gone) from hbx.cell 5)
  have c6 := held (show (w.alloc (.cells #[.string key, .string val, .bool dead, .int .i64 at_, .int .i64 fin, .int .i64 gone, .int .i64 shade, .slice au n cu] 66)).cell? ⟨w.heap.size, 6, none⟩ = some (.int .i64 shade) from hbx.cell 6)
  refine rg_quiet rfl rfl rfl rfl ?_; intro K hK; go_big_quiet_op; go_big_quiet_on
  refine rg_quiet rfl rfl rfl rfl ?_; intro K hK; go_big_quiet_op; go_big_quiet_on
  refine rg_quiet rfl rfl rfl rfl ?_; intro K hK; go_big_quiet_op; go_big_quiet_on
  refine rg_fact [] rfl rfl rfl (by kernel_rfl) (fun y hE hf => ?_) (fun v2 y2 hE2 hG2 h2 => ?_)
  · go_simp
    refine (pk_text v l key (by omega) y (hv.ext (hE0.trans hE)) (by omega)).mono ?_
    rintro e w' ⟨v', rfl, ho, hw⟩
    exact ⟨_, rfl, rg_doneR hE hw (by rw [H1.out]; exact ho.base (hE0.trans hE).le)⟩
  obtain ⟨a2, n2, rfl⟩ := ownB_shapeP h2
  clear hE2 hG2 h2
  simp only [Act.put, List.setIfInBounds_toArray, List.set_cons_zero, List.set_cons_succ]
  refine rg_quiet rfl rfl rfl rfl ?_; intro K hK; go_big_quiet_op; go_big_quiet_on
  refine rg_quiet rfl rfl rfl rfl ?_; intro K hK; go_big_quiet_op; go_big_quiet_on
  refine rg_fact [3] rfl rfl rfl (by kernel_rfl) (fun y hE hf => ?_) (fun v5 y5 hE5 hG5 h5 => ?_)
  · have h2 := (hf 3 (by simp)).2 rfl
    go_simp
    refine (pk_cell _ B1 ⟨val, dead, at_, fin⟩ k2 y (OwnB.bytes h2) (by omega)).mono ?_
    rintro e w' ⟨v', rfl, ho, hw⟩
    exact ⟨_, rfl, rg_doneR hE hw (by rw [H2.out]; exact ho.base (hE0.trans hE).le)⟩
  obtain ⟨a5, n5, rfl⟩ := ownB_shapeP h5
  clear hE5 hG5 h5
  simp only [Act.put, List.setIfInBounds_toArray, List.set_cons_zero, List.set_cons_succ]
  refine rg_quiet rfl rfl rfl rfl ?_; intro K hK; go_big_quiet_op; go_big_quiet_on
  refine rg_quiet rfl rfl rfl rfl ?_; intro K hK; go_big_quiet_op; go_big_quiet_on
  refine rg_fact [6] rfl rfl rfl (by kernel_rfl) (fun y hE hf => ?_) (fun v9 y9 hE9 hG9 h9 => ?_)
  · have h5 := (hf 6 (by simp)).2 rfl
    go_simp
    refine (pk_number _ B2 gone (by omega) (by omega) y (OwnB.bytes h5) (by omega)).mono ?_
    rintro e w' ⟨v', rfl, ho, hw⟩
    exact ⟨_, rfl, rg_doneR hE hw (by rw [H3.out]; exact ho.base (hE0.trans hE).le)⟩
  obtain ⟨a9, n9, rfl⟩ := ownB_shapeP h9
  clear hE9 hG9 h9
  simp only [Act.put, List.setIfInBounds_toArray, List.set_cons_zero, List.set_cons_succ]
  refine rg_quiet rfl rfl rfl rfl ?_; intro K hK; go_big_quiet_op; go_big_quiet_on
  refine rg_quiet rfl rfl rfl rfl ?_; intro K hK; go_big_quiet_op; go_big_quiet_on
  refine rg_fact [9] rfl rfl rfl (by kernel_rfl) (fun y hE hf => ?_) (fun v12 y12 hE12 hG12 h12 => ?_)
  · have h5 := (hf 9 (by simp)).2 rfl
    go_simp
    refine (pk_number _ B3 shade (by omega) (by omega) y (OwnB.bytes h5) (by omega)).mono ?_
    rintro e w' ⟨v', rfl, ho, hw⟩
    exact ⟨_, rfl, rg_doneR hE hw (by rw [H4.out]; exact ho.base (hE0.trans hE).le)⟩
  obtain ⟨a12, n12, rfl⟩ := ownB_shapeP h12
  clear hE12 hG12 h12
  simp only [Act.put, List.setIfInBounds_toArray, List.set_cons_zero, List.set_cons_succ]
  refine rg_quiet rfl rfl rfl rfl ?_; intro K hK; go_big_quiet_op; go_big_quiet_on
  refine rel_nil fun w2 hE2 hG => ?_
  have h12 := (hG 12).2 rfl
  have hb2 := hbx.ext hE2
  have hEw := hE0.trans hE2
  clear c0 c1 c2 c3 c4 c5 c6 hG
  have c7 : w2.cell? ⟨w.heap.size, 7, none⟩ = some (.slice au n cu) := hb2.cell 7
  go_wp2_with (go_at_call 74; go_must (refine (pk_number _ B4 (n : Int) (by omega) (by omega) _ (OwnB.bytes h12) (by omega)).mono ?_); rintro e w3 ⟨v3, rfl, ho3, hE3⟩; rw [Int.toNat_natCast, HN.out, ← H5.out] at ho3; have ho3' := ho3; obtain ⟨a3, n3, rfl⟩ := ownB_shapeP ho3'; have hb3 := hb2.ext hE3; have d7 : w3.cell? ⟨w.heap.size, 7, none⟩ = some (.slice au n cu) := hb3.cell 7)
  go_loopw [0, 28] (fun b i wr => ∃ k : Nat, k ≤ n ∧ i = .int .i64 (k : Int) ∧ Ext w3 wr ∧ OwnB wr w.heap.size b (B5 ++ (cols.take k).flatMap colP)) (fun _ i _ => n - (intOf i).toNat)
  case atStart => exact ⟨0, Nat.zero_le _, rfl, Ext.refl w3, by rw [List.take_zero, List.flatMap_nil, List.append_nil]; exact ho3.base hEw.le⟩
  case round =>
    obtain ⟨k, hkn, rfl, hE, ho⟩ := hrel
    have hEa := (hEw.trans hE3).trans hE
    have htl : ((cols.take k).flatMap colP).length ≤ 203700 := by
      have h1 := flat_le (f := colP) (n := 2037) (l := cols.take k) (fun c hc => colP_le (HK.out c (List.mem_of_mem_take hc)))
      have h2 : (cols.take k).length ≤ 100 := by rw [List.length_take]; have := HN.out; omega
      have := Nat.mul_le_mul_right 2037 h2
      omega
    obtain ⟨L, hL⟩ : ∃ L, L = B5 ++ (cols.take k).flatMap colP := ⟨_, rfl⟩
    have hLl : L.length ≤ 500205764 := by rw [hL, List.length_append]; omega
    rw [← hL] at ho
    have HL := Lib.hid hL
    clear hL htl
    have ho' := ho
    obtain ⟨ab, nb, rfl⟩ := ownB_shapeP ho'
    clear ho'
    by_cases hlt : k < n
    · have hkc : k < cols.length := by rw [← HN.out]; exact hlt
      obtain ⟨b, o, rfl, hco⟩ := HG.out k hkc
      have hok := HK.out _ (List.getElem_mem hkc)
      obtain ⟨M, hM⟩ : ∃ M, M = cols[k] := ⟨_, rfl⟩
      rw [← hM] at hco hok
      have HT := Lib.hid (flat_take (f := colP) (show cols.drop k = M :: cols.drop (k + 1) by rw [hM]; exact List.drop_eq_getElem_cons hkc))
      clear hM
      replace hco := hco.ext hEa
      obtain ⟨g0, g1, g2, g3, g4⟩ := hco
      obtain ⟨name, mval, mdead, mat, mfin⟩ := M
      simp only at g0 g1 g2 g3 g4
      obtain ⟨n1, n2⟩ := hok
      simp only at n1 n2
      have hbc := BoxAt.made wr #[.string name, .string mval, .bool mdead, .int .i64 mat, .int .i64 mfin] 216
      have hE1 := (Ext.refl wr).alloc (.cells #[.string name, .string mval, .bool mdead, .int .i64 mat, .int .i64 mfin] 216)
      have hl1 := num_length (x := name.size) (by omega)
      have hl2 := cellP_le n2
      obtain ⟨L1, hL1⟩ : ∃ X, X = L ++ num name.size ++ name.data.toList := ⟨_, rfl⟩
      have hL1l : L1.length ≤ 500206773 := by rw [hL1]; simp only [List.length_append, dat_size]; omega
      obtain ⟨L2, hL2⟩ : ∃ X, X = L1 ++ cellP ⟨mval, mdead, mat, mfin⟩ := ⟨_, rfl⟩
      have HL1 := Lib.hid hL1
      have HL2 := Lib.hid hL2
      clear hL1 hL2 hl1
      go_wp2_with fail
      refine wp_region_tab 8 [(3, fun v x => OwnB x w.heap.size v L1), (6, fun v x => OwnB x w.heap.size v L2)] (by kernel_rfl) (by kernel_rfl) (by kernel_rfl) ⟨fun _ _ _ hE h => h.ext hE, fun _ _ _ hE h => h.ext hE, trivial⟩ ?_
      have e0 := held (show (wr.alloc (.cells #[.string name, .string mval, .bool mdead, .int .i64 mat, .int .i64 mfin] 216)).cell? ⟨wr.heap.size, 0, none⟩ = some (.string name) from hbc.cell 0)
      have e1 := held (show (wr.alloc (.cells #[.string name, .string mval, .bool mdead, .int .i64 mat, .int .i64 mfin] 216)).cell? ⟨wr.heap.size, 1, none⟩ = some (.string mval) from hbc.cell 1)
      have e2 := held (show (wr.alloc (.cells #[.string name, .string mval, .bool mdead, .int .i64 mat, .int .i64 mfin] 216)).cell? ⟨wr.heap.size, 2, none⟩ = some (.bool mdead) from hbc.cell 2)
      have e3 := held (show (wr.alloc (.cells #[.string name, .string mval, .bool mdead, .int .i64 mat, .int .i64 mfin] 216)).cell? ⟨wr.heap.size, 3, none⟩ = some (.int .i64 mat) from hbc.cell 3)
      have e4 := held (show (wr.alloc (.cells #[.string name, .string mval, .bool mdead, .int .i64 mat, .int .i64 mfin] 216)).cell? ⟨wr.heap.size, 4, none⟩ = some (.int .i64 mfin) from hbc.cell 4)
      refine rg_quiet rfl rfl rfl rfl ?_; intro K hK; go_big_quiet_op; go_big_quiet_on
      refine rg_quiet rfl rfl rfl rfl ?_; intro K hK; go_big_quiet_op; go_big_quiet_on
      refine rg_quiet rfl rfl rfl rfl ?_; intro K hK; go_big_quiet_op; go_big_quiet_on
      refine rg_fact [] rfl rfl rfl (by kernel_rfl) (fun y hE hf => ?_) (fun v5 y5 hE5 hG5 h5 => ?_)
      · go_simp
        refine (pk_text _ L name (by omega) y (OwnB.bytes (ho.ext (hE1.trans hE))) (by omega)).mono ?_
        rintro e w' ⟨v', rfl, ho, hw⟩
        exact ⟨_, rfl, rg_doneR hE hw (by rw [HL1.out]; exact ho.base ((hEa.trans hE1).trans hE).le)⟩
      obtain ⟨a5, n5, rfl⟩ := ownB_shapeP h5
      clear hE5 hG5 h5
      simp only [Act.put, List.setIfInBounds_toArray, List.set_cons_zero, List.set_cons_succ]
      refine rg_quiet rfl rfl rfl rfl ?_; intro K hK; go_big_quiet_op; go_big_quiet_on
      refine rg_quiet rfl rfl rfl rfl ?_; intro K hK; go_big_quiet_op; go_big_quiet_on
      refine rg_fact [3] rfl rfl rfl (by kernel_rfl) (fun y hE hf => ?_) (fun v9 y9 hE9 hG9 h9 => ?_)
      · have h5 := (hf 3 (by simp)).2 rfl
        go_simp
        refine (pk_cell _ L1 ⟨mval, mdead, mat, mfin⟩ n2 y (OwnB.bytes h5) (by omega)).mono ?_
        rintro e w' ⟨v', rfl, ho, hw⟩
        exact ⟨_, rfl, rg_doneR hE hw (by rw [HL2.out]; exact ho.base ((hEa.trans hE1).trans hE).le)⟩
      obtain ⟨a9, n9, rfl⟩ := ownB_shapeP h9
      clear hE9 hG9 h9
      simp only [Act.put, List.setIfInBounds_toArray, List.set_cons_zero, List.set_cons_succ]
      refine rg_quiet rfl rfl rfl rfl ?_; intro K hK; go_big_quiet_op; go_big_quiet_on
      refine rel_nil fun w5 hE5 hG => ?_
      have h6 := (hG 6).2 rfl
      clear e0 e1 e2 e3 e4 hG
      go_wp2_with fail
      go_roundw
      case rel =>
        refine ⟨k + 1, by omega, by go_num, (hE.trans hE1).trans hE5, ?_⟩
        have e : B5 ++ (cols.take (k + 1)).flatMap colP = L2 := by
          rw [HT.out, HL2.out, HL1.out, HL.out]
          unfold colP
          simp only [List.append_assoc]
        rw [e]
        exact h6
      case measure => simp [intOf]; omega
    · obtain rfl : k = n := by omega
      go_wp2_with fail
      go_ret
      refine ⟨_, rfl, ?_, hEa⟩
      have e : B5 ++ cols.flatMap colP = L := by rw [HL.out, List.take_of_length_le (by rw [HN.out]; omega)]
      rw [e]
      exact ho
end Go.Proofs.YtimbikbbbfpeeaaGreatDoor

/- pack.whole: a partition's bytes. -/
namespace Go.Proofs.YtimbikbbbfpeeaaGreatDoor
open Go Go.RowKit
attribute [local go_sem] yields yUpon

def wholeP (k : ByteArray) (g : Int) (rs : List Ro) : List UInt8 := num k.size ++ k.data.toList ++ num g.toNat ++ num rs.length ++ rs.flatMap rowP
structure OkP (k : ByteArray) (g : Int) (rs : List Ro) : Prop where
  key : k.size ≤ 1000
  gone0 : 0 ≤ g
  gone1 : g ≤ 1099511627776
  many : rs.length ≤ 1000
  rows : ∀ r ∈ rs, OkR r
theorem wholeP_le {k : ByteArray} {g : Int} {rs : List Ro} (h : OkP k g rs) : (wholeP k g rs).length ≤ 300010000 := by
  obtain ⟨h1, h2, h3, h4, h5⟩ := h
  have l1 := num_length (x := k.size) (by omega)
  have l3 := num_length (x := g.toNat) (by omega)
  have l5 := num_length (x := rs.length) (by omega)
  have l6 := flat_le (f := rowP) (fun c hc => rowP_le (h5 c hc))
  have := Nat.mul_le_mul_right 300000 h4
  unfold wholeP
  simp only [List.length_append, dat_size]
  omega

set_option maxRecDepth 100000 in
set_option maxHeartbeats 8000000 in
theorem pk_whole (k : ByteArray) (g : Int) (u : Value) (ps : List (Ro × Value)) (hp : OkP k g (ps.map (·.1))) (w : World) (hin : RowsIn w u ps) :
    Calls Tryz.prog 76 #[.agg #[.string k, .int .i64 g, u]] w fun e w' => ∃ v', e = .returned v' ∧ OwnB w' w.heap.size v' (wholeP k g (ps.map (·.1))) ∧ Ext w w' := by
  have hE0 := (Ext.refl w).alloc (.cells #[.string k, .int .i64 g, u] 52)
  have hbx := BoxAt.made w #[.string k, .int .i64 g, u] 52
  have hcols := Lib.hid hin.cols
  obtain ⟨au, cu, rfl, hcu, hcum, hget⟩ := hin.get
  obtain ⟨k1, k2, k3, k4, k5⟩ := hp
  rw [List.length_map] at k4
  have l1 := num_length (x := k.size) (by omega)
  have l2 := num_length (x := g.toNat) (by omega)
  have l3 := num_length (x := ps.length) (by omega)
  obtain ⟨B1, hB1⟩ : ∃ B, B = num k.size ++ k.data.toList := ⟨_, rfl⟩
  obtain ⟨B2, hB2⟩ : ∃ B, B = B1 ++ num g.toNat := ⟨_, rfl⟩
  obtain ⟨B3, hB3⟩ : ∃ B, B = B2 ++ num ps.length := ⟨_, rfl⟩
  have m1 : B1.length ≤ 1009 := by rw [hB1]; simp only [List.length_append, dat_size]; omega
  have m2 : B2.length ≤ 1018 := by rw [hB2, List.length_append]; omega
  have m3 : B3.length ≤ 1027 := by rw [hB3, List.length_append]; omega
  have HW : Hid (wholeP k g (ps.map (·.1)) = B3 ++ (ps.map (·.1)).flatMap rowP) := Lib.hid (by rw [hB3, hB2, hB1]; unfold wholeP; rw [List.length_map])
  have H1 := Lib.hid hB1
  have H2 := Lib.hid hB2
  have H3 := Lib.hid hB3
  have HG := Lib.hid hget
  have HK := Lib.hid k5
  rw [HW.out]
  obtain ⟨n, hn⟩ : ∃ n, n = ps.length := ⟨_, rfl⟩
  rw [← hn] at hbx hE0 hcu k4 l3 ⊢
  have HN := Lib.hid hn
  clear hB1 hB2 hB3 l1 l2 l3 hget k5 hn hin
  go_enter Tryz.func76, Tryz.ntmps76
  go_wp2
  refine wp_region_tab 11 [(2, fun v x => OwnB x w.heap.size v B1), (5, fun v x => OwnB x w.heap.size v B2), (9, fun v x => OwnB x w.heap.size v B3)] (by kernel_rfl) (by kernel_rfl) (by kernel_rfl) ⟨fun _ _ _ hE h => h.ext hE, fun _ _ _ hE h => h.ext hE, fun _ _ _ hE h => h.ext hE, trivial⟩ ?_
  have c0 := held (show (w.alloc (.cells #[.string k, .int .i64 g, .slice au n cu] 52)).cell? ⟨w.heap.size, 0, none⟩ = some (.string k) from hbx.cell 0)
  have c1 := held (show (w.alloc (.cells #[.string k, .int .i64 g, .slice au n cu] 52)).cell? ⟨w.heap.size, 1, none⟩ = some (.int .i64 g) from hbx.cell 1)
  have c2 := held (show (w.alloc (.cells #[.string k, .int .i64 g, .slice au n cu] 52)).cell? ⟨w.heap.size, 2, none⟩ = some (.slice au n cu) from hbx.cell 2)
  refine rg_quiet rfl rfl rfl rfl ?_; intro K hK; go_big_quiet_op; go_big_quiet_on
  refine rg_quiet rfl rfl rfl rfl ?_; intro K hK; go_big_quiet_op; go_big_quiet_on
  refine rg_fact [] rfl rfl rfl (by kernel_rfl) (fun y hE hf => ?_) (fun v2 y2 hE2 hG2 h2 => ?_)
  · go_simp
    refine (pk_text (.slice none 0 0) [] k (by omega) y (SliceIn.nil y) (by simp)).mono ?_
    rintro e w' ⟨v', rfl, ho, hw⟩
    exact ⟨_, rfl, rg_doneR hE hw (by rw [H1.out]; exact ho.base (hE0.trans hE).le)⟩
  obtain ⟨a2, n2, rfl⟩ := ownB_shapeP h2
  clear hE2 hG2 h2
  simp only [Act.put, List.setIfInBounds_toArray, List.set_cons_zero, List.set_cons_succ]
  refine rg_quiet rfl rfl rfl rfl ?_; intro K hK; go_big_quiet_op; go_big_quiet_on
  refine rg_quiet rfl rfl rfl rfl ?_; intro K hK; go_big_quiet_op; go_big_quiet_on
  refine rg_fact [2] rfl rfl rfl (by kernel_rfl) (fun y hE hf => ?_) (fun v5 y5 hE5 hG5 h5 => ?_)
  · have h2 := (hf 2 (by simp)).2 rfl
    go_simp
    refine (pk_number _ B1 g (by omega) (by omega) y (OwnB.bytes h2) (by omega)).mono ?_
    rintro e w' ⟨v', rfl, ho, hw⟩
    exact ⟨_, rfl, rg_doneR hE hw (by rw [H2.out]; exact ho.base (hE0.trans hE).le)⟩
  obtain ⟨a5, n5, rfl⟩ := ownB_shapeP h5
  clear hE5 hG5 h5
  simp only [Act.put, List.setIfInBounds_toArray, List.set_cons_zero, List.set_cons_succ]
  refine rg_quiet rfl rfl rfl rfl ?_; intro K hK; go_big_quiet_op; go_big_quiet_on
  refine rg_quiet rfl rfl rfl rfl ?_; intro K hK; go_big_quiet_op; go_big_quiet_on
  refine rg_quiet rfl rfl rfl rfl ?_; intro K hK; go_big_quiet_op; go_big_quiet_on
  refine rg_fact [5] rfl rfl rfl (by kernel_rfl) (fun y hE hf => ?_) (fun v9 y9 hE9 hG9 h9 => ?_)
  · have h5 := (hf 5 (by simp)).2 rfl
    go_simp
    refine (pk_number _ B2 (n : Int) (by omega) (by omega) y (OwnB.bytes h5) (by omega)).mono ?_
    rintro e w' ⟨v', rfl, ho, hw⟩
    exact ⟨_, rfl, rg_doneR hE hw (by rw [H3.out, ← HN.out]; rw [Int.toNat_natCast] at ho; exact ho.base (hE0.trans hE).le)⟩
  obtain ⟨a9, n9, rfl⟩ := ownB_shapeP h9
  clear hE9 hG9 h9
  simp only [Act.put, List.setIfInBounds_toArray, List.set_cons_zero, List.set_cons_succ]
  refine rg_quiet rfl rfl rfl rfl ?_; intro K hK; go_big_quiet_op; go_big_quiet_on
  refine rel_nil fun w3 hE2 hG => ?_
  have ho3 := (hG 9).2 rfl
  have hb2 := hbx.ext hE2
  have hEw := hE0.trans hE2
  clear c0 c1 c2 hG
  have c2 : w3.cell? ⟨w.heap.size, 2, none⟩ = some (.slice au n cu) := hb2.cell 2
  go_wp2_with fail
  go_loopw [3, 19] (fun b i wr => ∃ j : Nat, j ≤ n ∧ i = .int .i64 (j : Int) ∧ Ext w3 wr ∧ OwnB wr w.heap.size b (B3 ++ ((ps.map (·.1)).take j).flatMap rowP)) (fun _ i _ => n - (intOf i).toNat)
  case atStart => exact ⟨0, Nat.zero_le _, rfl, Ext.refl w3, by rw [List.take_zero, List.flatMap_nil, List.append_nil]; exact ho3⟩
  case round =>
    obtain ⟨j, hjn, rfl, hE, ho⟩ := hrel
    have hEa := hEw.trans hE
    have htl : (((ps.map (·.1)).take j).flatMap rowP).length ≤ 300000000 := by
      have h1 := flat_le (f := rowP) (n := 300000) (l := (ps.map (·.1)).take j) (fun c hc => rowP_le (HK.out c (List.mem_of_mem_take hc)))
      have h2 : ((ps.map (·.1)).take j).length ≤ 1000 := by rw [List.length_take, List.length_map]; have := HN.out; omega
      have := Nat.mul_le_mul_right 300000 h2
      omega
    obtain ⟨L, hL⟩ : ∃ L, L = B3 ++ ((ps.map (·.1)).take j).flatMap rowP := ⟨_, rfl⟩
    have hLl : L.length ≤ 300001027 := by rw [hL, List.length_append]; omega
    rw [← hL] at ho
    have HL := Lib.hid hL
    clear hL htl
    have ho' := ho
    obtain ⟨ab, nb, rfl⟩ := ownB_shapeP ho'
    clear ho'
    by_cases hlt : j < n
    · have hkc : j < ps.length := by rw [← HN.out]; exact hlt
      obtain ⟨b, o, rfl, hco⟩ := HG.out j hkc
      have hok := HK.out _ (List.mem_map_of_mem (f := (·.1)) (List.getElem_mem hkc))
      have hcol := hcols.out _ (List.getElem_mem hkc)
      obtain ⟨M, hM⟩ : ∃ M, M = ps[j] := ⟨_, rfl⟩
      rw [← hM] at hco hok hcol
      have HT := Lib.hid (flat_take (f := rowP) (show (ps.map (·.1)).drop j = M.1 :: (ps.map (·.1)).drop (j + 1) by rw [hM, ← List.map_drop, List.drop_eq_getElem_cons hkc, List.map_cons, List.map_drop]))
      clear hM
      obtain ⟨r, mu⟩ := M
      simp only at hco hok hcol HT
      obtain ⟨ac, cc, rfl⟩ := hcol.shape
      replace hco := hco.ext hEa
      obtain ⟨g0, g1, g2, g3, g4, g5, g6, g7⟩ := hco
      obtain ⟨L1, hL1⟩ : ∃ X, X = L ++ rowP r := ⟨_, rfl⟩
      have HL1 := Lib.hid hL1
      clear hL1
      have HO := Lib.hid hok
      clear hok
      go_wp2_with (go_at_call 126; go_must (refine (pk_row _ L r (.slice ac r.cols.length cc) HO.out _ (hcol.ext (hEa.alloc _)) (OwnB.bytes (ho.ext ((Ext.refl wr).alloc _))) (by omega)).mono ?_); rintro e w5 ⟨v5, rfl, ho5, hE5⟩; rw [← HL1.out] at ho5; have ho5' := ho5; obtain ⟨a5, n5, rfl⟩ := ownB_shapeP ho5')
      go_roundw
      case rel =>
        refine ⟨j + 1, by omega, by go_num, ((hE.alloc _).trans hE5), ?_⟩
        have e : B3 ++ ((ps.map (·.1)).take (j + 1)).flatMap rowP = L1 := by
          rw [HT.out, HL1.out, HL.out, List.append_assoc]
        rw [e]
        exact ho5.base (hEa.alloc _).le
      case measure => simp [intOf]; omega
    · obtain rfl : j = n := by omega
      go_wp2_with fail
      go_ret
      refine ⟨_, rfl, ?_, hEa⟩
      have e : B3 ++ (ps.map (·.1)).flatMap rowP = L := by rw [HL.out, List.take_of_length_le (by rw [List.length_map, HN.out]; omega)]
      rw [e]
      exact ho
end Go.Proofs.YtimbikbbbfpeeaaGreatDoor
