/- clerestoryref11: notes by number as a list; at, Get. -/
import Derived.Test.YtmjhdfifbjdgpaaS2
import Derived.Test.YtmjhdfifbjdgpaaS4
import Derived.BigQuiet
import Derived.Shelf.Small.Bits
import Derived.Shelf.Small.Wraps
import Derived.Shelf.Strconv.Itoa0
import Derived.Shelf.Sort.Plain
import Derived.Shelf.Slices.In.SortNone
import Derived.Test.YtmjhdfifbjdgpaaProg
set_option linter.unusedSimpArgs false
set_option linter.unusedVariables false
namespace Go.Proofs.Ytmjhdfifbjdgpaa
open Go Go.RowKit
attribute [local go_sem] yields yUpon

theorem fat_lt {n : Int} : ∀ {F : Fl} {k : Nat} (_ : k < fat n F) (h : k < F.length), (F[k]).1 < n
  | [], _, h, _ => by simp [fat] at h
  | p :: l, k, h, hl => by
    simp only [fat] at h
    split at h
    · rename_i h1
      cases k with
      | zero => exact h1
      | succ k => exact fat_lt (F := l) (by omega) (by simpa using hl)
    · omega
theorem fat_stop {n : Int} : ∀ {F : Fl} (h : fat n F < F.length), ¬ (F[fat n F]).1 < n
  | [], h => by simp [fat] at h
  | p :: l, h => by
    by_cases h1 : p.1 < n
    · have e : fat n (p :: l) = fat n l + 1 := by simp [fat, h1]
      have h2 := fat_stop (n := n) (F := l) (by rw [e] at h; simpa using h)
      simp only [e, List.getElem_cons_succ]
      exact h2
    · have e : fat n (p :: l) = 0 := by simp [fat, h1]
      simp only [e, List.getElem_cons_zero]
      exact h1
theorem fhas_lt {n : Int} {F : Fl} (hr : Rises F) (h : fhas n F = true) : ∃ hl : fat n F < F.length, (F[fat n F]).1 = n := by
  rw [fhas_at hr] at h
  simp only [Bool.and_eq_true, decide_eq_true_eq, beq_iff_eq] at h
  obtain ⟨h1, h2⟩ := h
  refine ⟨h1, ?_⟩
  rw [List.getD_eq_getElem?_getD, List.getElem?_eq_getElem h1] at h2
  exact h2
theorem fhas_no {n : Int} {F : Fl} (hr : Rises F) (h : fhas n F = false) (hl : fat n F < F.length) : (F[fat n F]).1 ≠ n := by
  rw [fhas_at hr, decide_eq_true hl, List.getD_eq_getElem?_getD, List.getElem?_eq_getElem hl] at h
  simpa using h

/-- The reference's notes at block q; their list is its own, from block g on. -/
structure RefAt (w : World) (g q : Nat) (F : Fl) : Prop where
  box : ∃ v, BoxAt w q #[v] 41 ∧ w.ownsRow g 30 2 v F.length (ncells F)
  le : g ≤ q
theorem RefAt.touch {w w' : World} {L : List Nat} (ht : Touch w w' L) {g q : Nat} {F : Fl} (h : RefAt w g q F) (hL : ∀ k ∈ L, k < g) : RefAt w' g q F := by
  obtain ⟨v, hb, ho⟩ := h.box
  have hle := h.le
  exact ⟨⟨v, ht.box hb fun hq => by have := hL q hq; omega, ht.owns ho fun k hk hl => by have := (ho.lt k hk).1; have := hL k hl; omega⟩, h.le⟩
theorem RefAt.ext {w w' : World} (hE : Ext w w') {g q : Nat} {F : Fl} (h : RefAt w g q F) : RefAt w' g q F := h.touch (Touch.of_ext hE []) (by simp)
theorem RefAt.notes {w : World} {g q : Nat} {F : Fl} (h : RefAt w g q F) : ∃ v, w.cell? ⟨q, 0, none⟩ = some v ∧ NotesIn w v F := by
  obtain ⟨v, hb, ho⟩ := h.box
  exact ⟨v, hb.cell 0, SliceIn.of_owns ho⟩

/-- The blocks below g stay, and so do variables of other types than the reference's own. -/
structure BK (g : Nat) (w w' : World) : Prop where
  below : Below g w w'
  keep : ∀ b cs T, BoxAt w b cs T → T ≠ 41 → T ≠ 30 → BoxAt w' b cs T
theorem BK.of_ext {g : Nat} {w w' : World} (hE : Ext w w') (hg : g ≤ w.heap.size) : BK g w w' := ⟨Below.mono hE hg, fun _ _ _ h _ _ => h.ext hE⟩
theorem BK.trans {g : Nat} {a b c : World} (h : BK g a b) (k : BK g b c) : BK g a c := ⟨h.below.trans k.below, fun b cs T hb h1 h2 => k.keep b cs T (h.keep b cs T hb h1 h2) h1 h2⟩
theorem BK.set {g : Nat} {w : World} {q : Nat} {cs : Array Value} {T : TypeId} (hq : g ≤ q) (hb : BoxAt w q cs T) (hT : T = 41 ∨ T = 30) (i : Nat) (u : Value) : BK g w (w.setCell ⟨q, i, none⟩ u) :=
  ⟨(Below.refl g w).setCell (by exact hq) u, fun b cs' T' h h1 h2 => h.other (fun e => by
    subst e
    have hb' : w.heap[b]? = _ := hb
    have h' : w.heap[b]? = _ := h
    rw [h'] at hb'
    cases hb'
    rcases hT with rfl | rfl
    · exact h1 rfl
    · exact h2 rfl) i u⟩
section
variable {g q : Nat} {F : Fl}
set_option maxRecDepth 100000 in
set_option maxHeartbeats 4000000 in
theorem r11_at (n : Int) (w : World) (h : RefAt w g q F) (hr : Rises F) :
    Calls Try.prog 48 #[.pointer (some ⟨q, 0, none⟩), .int .i64 n] w fun e w' => e = .returned (.tuple #[.int .i64 (fat n F : Int), .bool (fhas n F)]) ∧ Ext w w' := by
  obtain ⟨v, c0, hin⟩ := h.notes
  obtain ⟨a, c, rfl, hc, hcm, hget⟩ := hin.get
  have HG := Lib.hid hget
  obtain ⟨m, hm⟩ : ∃ m, m = F.length := ⟨_, rfl⟩
  obtain ⟨t, ht⟩ : ∃ t, t = fat n F := ⟨_, rfl⟩
  have htm : t ≤ m := by rw [ht, hm]; exact fat_le n F
  have HM := Lib.hid hm
  have HT := Lib.hid ht
  rw [← hm] at c0 hc
  rw [← ht]
  have HR := Lib.hid hr
  clear hget hin hm ht hr
  go_enter Try.func48, Try.ntmps48
  go_wp2
  go_loop [6] (fun i => ∃ k : Nat, k ≤ t ∧ i = .int .i64 (k : Int)) (fun i => m - (intOf i).toNat)
  case atStart => exact ⟨0, Nat.zero_le _, rfl⟩
  case round =>
    obtain ⟨k, hk, rfl⟩ := hrel
    by_cases hlt : k < t
    · have hkm : k < F.length := by rw [← HM.out]; omega
      obtain ⟨b, o, rfl, h1, h2⟩ := HG.out k hkm
      have hx := fat_lt (by rw [← HT.out]; exact hlt) hkm
      obtain ⟨x, hxe⟩ : ∃ x, x = (F[k]).1 := ⟨_, rfl⟩
      rw [← hxe] at h1 hx
      clear h2 hxe
      have t1 : decide ((k : Int) < (m : Int)) = true := by simp; omega
      have t2 : decide (x < n) = true := by simpa using hx
      go_wp2
      go_round
      case rel => exact ⟨k + 1, by omega, by go_num⟩
      case measure => simp [intOf]; omega
    · obtain rfl : k = t := by omega
      by_cases hkm : k < m
      · have hkF : k < F.length := by rw [← HM.out]; exact hkm
        obtain ⟨b, o, rfl, h1, h2⟩ := HG.out k hkF
        have hx : ¬ (F[k]).1 < n := by
          have hs := fat_stop (n := n) (F := F) (by rw [← HT.out]; exact hkF)
          simp only [← HT.out] at hs
          exact hs
        have hq : ((F[k]).1 == n) = fhas n F := by
          rw [fhas_at HR.out, ← HT.out, decide_eq_true hkF, List.getD_eq_getElem?_getD, List.getElem?_eq_getElem hkF]; rfl
        obtain ⟨x, hxe⟩ : ∃ x, x = (F[k]).1 := ⟨_, rfl⟩
        rw [← hxe] at h1 hx hq
        clear h2 hxe
        have t1 : decide ((k : Int) < (m : Int)) = true := by simp; omega
        have t2 : decide (x < n) = false := by simpa using hx
        go_wp2_with fail
        go_quiet (fail)
        go_wp2
        go_ret2
        exact ⟨rfl, (Ext.refl w).drewN _⟩
      · obtain rfl : k = m := by omega
        have hq : fhas n F = false := by
          rw [fhas_at HR.out, ← HT.out, decide_eq_false (by rw [← HM.out]; omega)]; rfl
        have hlt' : ¬ k < k := Nat.lt_irrefl k
        go_wp2_with fail
        go_quiet (fail)
        go_wp2
        go_ret2
        exact ⟨by rw [hq]; rfl, (Ext.refl w).drewN _⟩
end
end Go.Proofs.Ytmjhdfifbjdgpaa

/- Appends to rows of one's own inside regions that draw their order: what an append does to the block it may write to, cell by cell. -/
namespace Go.Proofs.Ytmjhdfifbjdgpaa
open Go Go.RowKit

/-- An append of N to a row of one's own that holds X (k elements). -/
def AppE (T : TypeId) (size S k : Nat) (X N : List Value) (x y : World) : Prop :=
  ∃ vo, x.ownsRow S T size vo k X ∧ x.grownBy y vo.ownBlock ∧ ∀ g, vo.ownBlock = some g → ∀ cur, x.heap[g]? = some (.cells cur T (0, 0)) →
    ∃ cur2, y.heap[g]? = some (.cells cur2 T (0, 0)) ∧ cur2.size = cur.size ∧ ∀ i, cur2[i]? = cur[i]? ∨ (k * size ≤ i ∧ i < k * size + N.length ∧ cur2[i]? = N[i - k * size]?)
section
variable {T : TypeId} {size S k : Nat} {X N : List Value} {x y : World}
theorem AppE.to {w : World} (hS : w.heap.size ≤ S) (h : AppE T size S k X N x y) (hE : Ext w x) : Ext w y := by
  obtain ⟨vo, ho, hg, _⟩ := h
  exact hE.grown hg (fun q hq => by have := (ho.lt q hq).1; omega)
theorem AppE.le (h : AppE T size S k X N x y) : x.heap.size ≤ y.heap.size := by
  obtain ⟨vo, ho, hg, _⟩ := h
  exact hg.size
theorem AppE.keep (h : AppE T size S k X N x y) {S' : Nat} {v : Value} {m : Nat} {Y : List Value} (ho : x.ownsRow S' T size v m Y) (hY : ∀ i u, Y[i]? = some u → k * size ≤ i → i < k * size + N.length → N[i - k * size]? = some u) : y.ownsRow S' T size v m Y := by
  obtain ⟨vo, _, hg, hc⟩ := h
  refine ⟨ho.1, ho.2.imp id ?_⟩
  rintro ⟨g, cap, cur, rfl, hb, hh, hmc, hcm, hcs, ht⟩
  by_cases e : vo.ownBlock = some g
  · obtain ⟨cur2, h2, hs2, hi⟩ := hc g e cur hh
    refine ⟨g, cap, cur2, rfl, hb, h2, hmc, hcm, by rw [hs2, hcs], ?_⟩
    apply List.ext_getElem?
    intro i
    by_cases hlt : i < m * size
    · have hYi : Y[i]? = cur[i]? := by rw [← ht, List.getElem?_take, if_pos hlt, Array.getElem?_toList]
      rw [List.getElem?_take, if_pos hlt, Array.getElem?_toList]
      rcases hi i with h1 | ⟨h1, h1', h2⟩
      · rw [h1, hYi]
      · have hl : i < Y.length := by rw [ho.1]; exact hlt
        rw [h2, hY i _ (List.getElem?_eq_getElem hl) h1 h1', List.getElem?_eq_getElem hl]
    · rw [List.getElem?_take, if_neg hlt, List.getElem?_eq_none (by rw [ho.1]; omega)]
  · exact ⟨g, cap, cur, rfl, hb, by rw [hg.block g (Array.getElem?_eq_some_iff.1 hh).1 (fun h => e h.symm)]; exact hh, hmc, hcm, hcs, ht⟩
theorem AppE.keep_short (h : AppE T size S k X N x y) {S' : Nat} {v : Value} {m : Nat} {Y : List Value} (ho : x.ownsRow S' T size v m Y) (hm : m ≤ k) : y.ownsRow S' T size v m Y :=
  h.keep ho fun i u hu h1 _ => by
    have h2 := (List.getElem?_eq_some_iff.1 hu).1
    rw [ho.1] at h2
    have := Nat.mul_le_mul_right size hm
    omega
theorem AppE.keep_long (h : AppE T size S k X N x y) (hX : X.length = k * size) {S' : Nat} {v : Value} {m : Nat} {R : List Value} (ho : x.ownsRow S' T size v m (X ++ N ++ R)) : y.ownsRow S' T size v m (X ++ N ++ R) :=
  h.keep ho fun i u hu h1 h2 => by
    rw [List.append_assoc, List.getElem?_append_right (by omega), hX, List.getElem?_append_left (by omega)] at hu
    exact hu
/-- A variable of one element, of the row's type. -/
theorem AppE.box (h : AppE T size S k X N x y) {b : Nat} {cs : Array Value} {U : TypeId} (hb : BoxAt x b cs U) (hcs : U = T → ∀ i u, cs[i]? = some u → k * size ≤ i → i < k * size + N.length → N[i - k * size]? = some u) : BoxAt y b cs U := by
  obtain ⟨vo, ho, hg, hc⟩ := h
  by_cases e : vo.ownBlock = some b
  · rcases ho.2 with ⟨rfl, _⟩ | ⟨g, cap, cur, rfl, hb', hh, _⟩
    · cases e
    · have e' : g = b := Option.some.inj e
      subst e'
      have hb2 : x.heap[g]? = some (.cells cs U (0, 0)) := hb
      rw [hh] at hb2
      cases hb2
      obtain ⟨cur2, h2, hs2, hi⟩ := hc g rfl cs hh
      have e2 : cur2 = cs := by
        apply Array.ext_getElem?
        intro i
        rcases hi i with h1 | ⟨h1, h1', h3⟩
        · exact h1
        · by_cases hl : i < cs.size
          · rw [h3, hcs rfl i _ (Array.getElem?_eq_getElem hl) h1 h1', Array.getElem?_eq_getElem hl]
          · rw [Array.getElem?_eq_none (by omega), Array.getElem?_eq_none (by omega)]
      unfold BoxAt
      rw [h2, e2]
  · exact hb.grown hg (fun h => e h.symm)
end
/-- 'append' to a row of one's own, told cell by cell. -/
theorem run_append_cells {P : Program} (w : World) (base : Nat) (t ty e : TypeId) (i : TypeInfo) (z : Value) (size bytes : Nat) (ht : P.underlying t = some (.slice e)) (hi : P.info? e = some i) (hz : i.zero = some z)
    (hsize : i.size = size) (hby : i.bytes = bytes) (hzs : z.cells.size = size) (hsz : 0 < size)
    (v : Value) (n : Nat) (xs : List Value) (hown : w.ownsRow base e size v n xs)
    (a : Addr) (m c : Nat) (news : List Value) (hl : news.length = m * size) (hnews : ∀ j u, news[j]? = some u → w.cell? (a.add j) = some u) (h1 : ∀ u ∈ news, u.oneCell' = true)
    (h63 : n + m ≤ maxLen) (hbytes : (n + m) * bytes ≤ 140737488355328) (hbase : base ≤ w.heap.size) :
    ∃ v' w', (Builtin.append_ #[t, t] ty #[v, .slice (some a) m c]).run P w = .ok v' w' ∧ w'.ownsRow base e size v' (n + m) (xs ++ news) ∧ AppE e size base n xs news w w' ∧ w.grownBy w' v.ownBlock := by
  obtain ⟨v', w', hr, h2, h3, _⟩ := run_append_own (P := P) w base t ty e i z size bytes ht hi hz hsize hby hzs hsz v n xs hown a m c news hl hnews h1 h63 hbytes hbase
  refine ⟨v', w', hr, h2, ⟨v, hown, h3, ?_⟩, h3⟩
  subst hsize
  subst hby
  have hsmall : n + m ≤ 9223372036854775807 := by simp only [maxLen] at h63; omega
  rcases hown.2 with ⟨rfl, rfl⟩ | ⟨g, cap, cur, rfl, hbg, hg, hnc, hcm, hcs, htake⟩
  · intro g hgv; cases hgv
  · intro g' hgv cur' hc'
    have e' : g = g' := Option.some.inj hgv
    subst e'
    rw [hg] at hc'
    cases hc'
    by_cases hroom : n + m ≤ cap
    · have hfit : n * i.size + news.length ≤ cur.size := by rw [hl, hcs, ← Nat.add_mul]; exact Nat.mul_le_mul_right _ hroom
      have hr2 := run_append_room (P := P) w t ty e i ht hi g n cap cur hg a m c news hl hnews h1 hroom hfit
      rw [hr] at hr2
      cases hr2
      refine ⟨_, setRow_heap w g cur _ e (0, 0) hg, ?_, fun j => ?_⟩
      · simp; omega
      · simp only [List.getElem?_toArray]
        rcases Nat.lt_or_ge j (n * i.size) with hj | hj
        · left
          rw [List.append_assoc, List.getElem?_append_left (by simp; omega), List.getElem?_take, if_pos hj, Array.getElem?_toList]
        · rcases Nat.lt_or_ge j (n * i.size + news.length) with hj2 | hj2
          · right
            refine ⟨hj, hj2, ?_⟩
            have hl0 : (cur.toList.take (n * i.size)).length = n * i.size := by simp; omega
            rw [List.append_assoc, List.getElem?_append_right (by omega), hl0, List.getElem?_append_left (by omega)]
          · left
            have hl0 : (cur.toList.take (n * i.size) ++ news).length = n * i.size + news.length := by simp; omega
            rw [List.getElem?_append_right (by omega), hl0, List.getElem?_drop, show n * i.size + news.length + (j - (n * i.size + news.length)) = j by omega, Array.getElem?_toList]
    · have holds : ∀ j u, xs[j]? = some u → w.cell? ((⟨g, 0, none⟩ : Addr).add j) = some u := hown.cells (g := g) rfl
      have hr2 := run_append_grow (P := P) w t ty e i z ht hi hz ⟨g, 0, none⟩ n cap xs hown.1 holds a m c news hl hnews (by omega) (by omega) (growslice_fits (by omega) hbytes)
      rw [hr] at hr2
      cases hr2
      refine ⟨cur, ?_, rfl, fun _ => .inl rfl⟩
      have hlt := (Array.getElem?_eq_some_iff.1 hg).1
      exact (heap_alloc_old w.drew _ hlt).trans hg
theorem AppE.refl {T : TypeId} {size S k : Nat} {X N : List Value} {x : World} {v : Value} (h : x.ownsRow S T size v k X) : AppE T size S k X N x x :=
  ⟨v, h, ⟨rfl, rfl, rfl, Nat.le_refl _, fun _ _ _ => rfl⟩, fun _ _ cur hc => ⟨cur, hc, rfl, fun _ => .inl rfl⟩⟩
/-- Operations j with p j = some (k, X, N) append N to a row of one's own that holds X; the others let memory grow. -/
def NE (T : TypeId) (size S : Nat) (p : Nat → Option (Nat × List Value × List Value)) (j : Nat) (x y : World) : Prop :=
  (p j = none ∧ Ext x y) ∨ ∃ k X N, p j = some (k, X, N) ∧ AppE T size S k X N x y
theorem NE_ext {T : TypeId} {size S : Nat} {p : Nat → Option (Nat × List Value × List Value)} {j : Nat} {x y : World} (hj : p j = none) (h : Ext x y) : NE T size S p j x y := .inl ⟨hj, h⟩
theorem NE_app {T : TypeId} {size S : Nat} {p : Nat → Option (Nat × List Value × List Value)} {j : Nat} {x y : World} {k : Nat} {X N : List Value} (hj : p j = some (k, X, N)) (h : AppE T size S k X N x y) : NE T size S p j x y := .inr ⟨k, X, N, hj, h⟩
theorem NE_to {T : TypeId} {size S : Nat} {p : Nat → Option (Nat × List Value × List Value)} {j : Nat} {x y w : World} (hS : w.heap.size ≤ S) (h : NE T size S p j x y) (hE : Ext w x) : Ext w y := by
  rcases h with ⟨_, h⟩ | ⟨_, _, _, _, h⟩
  · exact hE.trans h
  · exact h.to hS hE
theorem NE_le {T : TypeId} {size S : Nat} {p : Nat → Option (Nat × List Value × List Value)} {j : Nat} {x y : World} (h : NE T size S p j x y) : x.heap.size ≤ y.heap.size := by
  rcases h with ⟨_, h⟩ | ⟨_, _, _, _, h⟩
  · exact h.le
  · exact h.le
theorem NE_own {T : TypeId} {size S : Nat} {p : Nat → Option (Nat × List Value × List Value)} {j : Nat} {x y : World} (h : NE T size S p j x y) {S' : Nat} {v : Value} {m : Nat} {Y : List Value} (ho : x.ownsRow S' T size v m Y)
    (hY : ∀ k X N, p j = some (k, X, N) → ∀ i u, Y[i]? = some u → k * size ≤ i → i < k * size + N.length → N[i - k * size]? = some u) : y.ownsRow S' T size v m Y := by
  rcases h with ⟨_, h⟩ | ⟨k, X, N, hj, h⟩
  · exact ownsRow_ext ho h
  · exact h.keep ho (hY k X N hj)
theorem NE_box {T : TypeId} {size S : Nat} {p : Nat → Option (Nat × List Value × List Value)} {j : Nat} {x y : World} (h : NE T size S p j x y) {b : Nat} {cs : Array Value} {U : TypeId} (hb : BoxAt x b cs U)
    (hY : ∀ k X N, p j = some (k, X, N) → U = T → ∀ i u, cs[i]? = some u → k * size ≤ i → i < k * size + N.length → N[i - k * size]? = some u) : BoxAt y b cs U := by
  rcases h with ⟨_, h⟩ | ⟨k, X, N, hj, h⟩
  · exact hb.ext h
  · exact h.box hb (hY k X N hj)
/-- 'append' of any slice to a row of one's own, as the region's walk meets it. -/
theorem yields_app {P : Program} {o : Oper} {a : Act} {Tt e : TypeId} {z : Value} {size bytes : Nat} (info : (P.info? e).map (fun i => (i.zero, i.size, i.bytes)) = some (some z, size, bytes)) (und : P.underlying Tt = some (.slice e)) (hzs : z.cells.size = size) (hsz : 0 < size) (s x : Operand)
    (hop : o.op = Op.call { callee := Callee.builtin Builtin.append, args := #[s, x], argTypes := #[Tt, Tt] }) {w : World}
    (B : Nat) (hB : B ≤ w.heap.size) (v : Value) (m : Nat) (xs : List Value) (hown : w.ownsRow B e size v m xs) (hs : a.eval s = v) {u : Value} {c : Nat} {news : List Value} (hin : SliceIn w u c news) (hx : a.eval x = u)
    (hl : news.length = c * size) (h1 : ∀ u ∈ news, u.oneCell' = true) (h63 : m + c ≤ maxLen) (hb : (m + c) * bytes ≤ 140737488355328) {R : Value → World → Prop}
    (hR : ∀ v' w', w'.ownsRow B e size v' (m + c) (xs ++ news) → AppE e size B m xs news w w' → w.grownBy w' v.ownBlock → R v' w') : yields P o a w R := by
  obtain ⟨i0, hi, hz0, hz1, hz2⟩ := info_parts info
  obtain ⟨ao, cp, rfl, hc, hcm, ha, hcell⟩ := hin
  cases ao with
  | none =>
    have hc0 := ha rfl
    obtain rfl : c = 0 := by omega
    obtain rfl : news = [] := List.eq_nil_of_length_eq_zero (by omega)
    subst hc0
    have hr := run_append_owned_none (P := P) (w := w) B Tt o.type e i0 size und hi v m xs hown
    unfold yields execOp
    simp only [hop, resolve, invoke, builtin, Sem.run_bind, Sem.run_pure, Result.andThen_ok, List.map_toArray, List.map_cons, List.map_nil, hs, hx, hr]
    exact hR _ _ (by rw [List.append_nil]; exact hown) (AppE.refl hown) ⟨rfl, rfl, rfl, Nat.le_refl _, fun _ _ _ => rfl⟩
  | some ad =>
    obtain ⟨v', w', hr, h2, h3, h4⟩ := run_append_cells (P := P) w B Tt o.type e i0 z size bytes und hi hz0 hz1 hz2 hzs hsz v m xs hown ad c cp news hl (fun j u hj => by
      obtain ⟨b, o, e, h⟩ := hcell j u hj
      cases e
      rw [Addr.add_lit]
      exact h) h1 h63 hb hB
    unfold yields execOp
    simp only [hop, resolve, invoke, builtin, Sem.run_bind, Sem.run_pure, Result.andThen_ok, List.map_toArray, List.map_cons, List.map_nil, hs, hx, hr]
    exact hR v' w' h2 h3 h4
end Go.Proofs.Ytmjhdfifbjdgpaa

/- clerestoryref11: Get, Drop. -/
namespace Go.Proofs.Ytmjhdfifbjdgpaa
open Go Go.RowKit
attribute [local go_sem] yields yUpon

theorem ncells_take (F : Fl) (k : Nat) : ncells (F.take k) = (ncells F).take (k * 2) := by
  induction F generalizing k with
  | nil => simp [ncells]
  | cons q F ih =>
    cases k with
    | zero => simp [ncells]
    | succ k =>
      have := ih k
      simp only [ncells] at this ⊢
      rw [List.take_succ_cons, List.flatMap_cons, List.flatMap_cons, this, show (k + 1) * 2 = k * 2 + 1 + 1 by omega]
      rfl
theorem ncells_drop (F : Fl) (k : Nat) : ncells (F.drop k) = (ncells F).drop (k * 2) := by
  induction F generalizing k with
  | nil => simp [ncells]
  | cons q F ih =>
    cases k with
    | zero => simp
    | succ k =>
      have := ih k
      simp only [ncells] at this ⊢
      rw [List.drop_succ_cons, List.flatMap_cons, this, show (k + 1) * 2 = k * 2 + 1 + 1 by omega]
      rfl
theorem notes_take {w : World} {a : Option Addr} {n c k : Nat} {F : Fl} (h : NotesIn w (.slice a n c) F) (hk : k ≤ n) (hn : n = F.length) : NotesIn w (.slice a k c) (F.take k) :=
  slice_take h hk ⟨ncells (F.drop k), by rw [← ncells_append, List.take_append_drop]⟩ (by rw [List.length_take]; omega)
theorem notes_drop {w : World} {ad : Option Addr} {n c k : Nat} {F : Fl} (h : NotesIn w (.slice ad n c) F) (hk : k ≤ n) (hn : n = F.length) : NotesIn w (dropV ad n c k 2) (F.drop k) := by
  subst hn
  unfold NotesIn
  rw [ncells_drop F k]
  exact drop_cells h (ncells_length F) hk (List.length_drop ..).symm

section
variable {g q : Nat} {F : Fl}
set_option maxRecDepth 100000 in
set_option maxHeartbeats 4000000 in
theorem r11_get (n : Int) (w : World) (h : RefAt w g q F) (hr : Rises F) :
    Calls Try.prog 19 #[.pointer (some ⟨q, 0, none⟩), .int .i64 n] w fun e w' => e = .returned (.tuple #[.string (str (fget n F)), .bool (fhas n F)]) ∧ Ext w w' := by
  cases hb : fhas n F
  · have hf := fget_none hb
    go_enter Try.func19, Try.ntmps19
    go_wp2_with (go_at_call 48; go_must (refine (r11_at n w h hr).mono ?_); rintro e w1 ⟨rfl, hE1⟩; rw [hb])
    go_ret2
    exact ⟨by rw [hf]; rfl, hE1⟩
  · obtain ⟨hl, he⟩ := fhas_lt hr hb
    have hg := fget_at hr hb
    rw [List.getD_eq_getElem?_getD, List.getElem?_eq_getElem hl] at hg
    obtain ⟨v, c0, hin⟩ := h.notes
    obtain ⟨a, c, rfl, hc, hcm, hget⟩ := hin.get
    obtain ⟨b, o, rfl, h1, h2⟩ := hget _ hl
    obtain ⟨k, hk⟩ : ∃ k, k = fat n F := ⟨_, rfl⟩
    have hg' : str (fget n F) = str (F[fat n F]).2 := congrArg str hg
    rw [← hg', ← hk] at h2
    obtain ⟨bd, hbd⟩ : ∃ bd, bd = str (fget n F) := ⟨_, rfl⟩
    rw [← hbd] at h2 ⊢
    have HK := Lib.hid hk
    obtain ⟨m, hm⟩ : ∃ m, m = F.length := ⟨_, rfl⟩
    rw [← hm] at hc c0
    have hkm : k < m := by rw [hk, hm]; exact hl
    clear h1 hg hg' hbd hm hl he hget hin
    go_enter Try.func19, Try.ntmps19
    go_wp2_with (go_at_call 48; go_must (refine (r11_at n w h hr).mono ?_); rintro e w1 ⟨rfl, hE1⟩; rw [hb, ← HK.out]; clear hk; replace c0 := hE1.cell c0; replace h2 := hE1.cell h2)
    go_ret2
    exact ⟨rfl, hE1⟩

set_option maxRecDepth 100000 in
set_option maxHeartbeats 8000000 in
theorem r11_drop (n : Int) (hF : F.length ≤ 1000000) (w : World) (h : RefAt w g q F) (hr : Rises F) :
    Calls Try.prog 15 #[.pointer (some ⟨q, 0, none⟩), .int .i64 n] w fun e w' => (e = .returned (.bool (fhas n F)) ∧ BK g w w') ∧ RefAt w' g q (fdel n F) := by
  have hgw : g ≤ w.heap.size := by obtain ⟨v, hb, _⟩ := h.box; have := hb.lt; have := h.le; omega
  cases hb : fhas n F
  · rw [fdel_not hb]
    go_enter Try.func15, Try.ntmps15
    go_wp2_with (go_at_call 48; go_must (refine (r11_at n w h hr).mono ?_); rintro e w1 ⟨rfl, hE1⟩; rw [hb])
    go_ret
    exact ⟨⟨rfl, BK.of_ext hE1 hgw⟩, h.ext hE1⟩
  · obtain ⟨hl, he⟩ := fhas_lt hr hb
    rw [fdel_at hr hb]
    obtain ⟨k, hk⟩ : ∃ k, k = fat n F := ⟨_, rfl⟩
    rw [← hk] at hl ⊢
    have HK := Lib.hid hk
    clear he hk
    go_enter Try.func15, Try.ntmps15
    go_wp2_with (go_at_call 48; go_must (refine (r11_at n w h hr).mono ?_); rintro e w1 ⟨rfl, hE1⟩; rw [hb, ← HK.out])
    have h1 := h.ext hE1
    obtain ⟨v, hbx, hown⟩ := h1.box
    have hin : NotesIn w1 v F := SliceIn.of_owns hown
    obtain ⟨a, c, rfl, hc, hcm, _⟩ := hin.get
    obtain ⟨m, hm⟩ : ∃ m, m = F.length := ⟨_, rfl⟩
    rw [← hm] at hbx hin hl hc hF
    have c0 : w1.cell? ⟨q, 0, none⟩ = some (.slice a m c) := hbx.cell 0
    obtain ⟨X, hX⟩ : ∃ X, X = ncells (F.take k) := ⟨_, rfl⟩
    obtain ⟨N, hN⟩ : ∃ N, N = ncells (F.drop (k + 1)) := ⟨_, rfl⟩
    have hin1 := notes_take hin (Nat.le_of_lt hl) hm
    have hin2 := notes_drop hin hl hm
    have hXl : X.length = k * 2 := by rw [hX, ncells_length, List.length_take]; omega
    have hNl : N.length = (m - (k + 1)) * 2 := by rw [hN, ncells_length, List.length_drop]; omega
    have hX1 : ∀ u ∈ X, u.oneCell' = true := by rw [hX]; exact ncells_one _
    have hN1 : ∀ u ∈ N, u.oneCell' = true := by rw [hN]; exact ncells_one _
    have hin1' : SliceIn w1 (.slice a k c) k X := by
      have e : (F.take k).length = k := by rw [List.length_take]; omega
      unfold NotesIn at hin1; rw [← hX, e] at hin1; exact hin1
    have hin2' : SliceIn w1 (dropV a m c (k + 1) 2) (m - (k + 1)) N := by
      have e : (F.drop (k + 1)).length = m - (k + 1) := by rw [List.length_drop]; omega
      unfold NotesIn at hin2; rw [← hN, e] at hin2; exact hin2
    have HX := Lib.hid hX
    have HN := Lib.hid hN
    have HM := Lib.hid hm
    clear hX hN hm hin1 hin2 hin hown
    refine wp_region_relE (fun x => Ext w1 x) (NE 30 2 w1.heap.size (fun j => if j = 15 then some (k, X, N) else none))
      (Tab.atE [(2, fun v _ => v = .pointer (some ⟨q, 0, none⟩)), (4, fun v _ => v = .slice a m c), (7, fun v x => x.ownsRow w1.heap.size 30 2 v k X), (9, fun v _ => v = .pointer (some ⟨q, 0, none⟩)), (11, fun v _ => v = .slice a m c), (14, fun v _ => v = dropV a m c (k + 1) 2), (15, fun v x => x.ownsRow w1.heap.size 30 2 v (k + (m - (k + 1))) (X ++ N)), (16, fun v _ => v = .pointer (some ⟨q, 0, none⟩))])
      (Tab.staysE ⟨fun _ _ _ _ _ _ h => h, fun _ _ _ _ _ _ h => h, fun j hj v x y hR h => NE_own hR h (fun k' X' N' hp i u hu h1 h2 => by
          by_cases e : j = 15
          · rw [if_pos e] at hp; cases hp
            have := (List.getElem?_eq_some_iff.1 hu).1
            omega
          · rw [if_neg e] at hp; cases hp), fun _ _ _ _ _ _ h => h, fun _ _ _ _ _ _ h => h, fun _ _ _ _ _ _ h => h, fun j hj v x y hR h => NE_own hR h (fun k' X' N' hp => by
          rw [if_neg hj] at hp; cases hp), fun _ _ _ _ _ _ h => h, trivial⟩)
      18 (by kernel_rfl) (by kernel_rfl) (by kernel_rfl) (Ext.refl w1).drew ?_
    refine relE_quiet rfl rfl rfl rfl ?_; intro K hK; go_big_quiet_op; (first | refine ⟨_, fun _ _ => rfl, hK _ ?_⟩ | refine hK _ ?_); clear hK K
    refine relE_quiet rfl rfl rfl rfl ?_; intro K hK; go_big_quiet_op; (first | refine ⟨_, fun _ _ => rfl, hK _ ?_⟩ | refine hK _ ?_); clear hK K
    refine relE_val [] rfl rfl rfl (by kernel_rfl) (fun y hy hf => ?_) ?_
    · go_simp
      exact ⟨hy, NE_ext rfl (Ext.refl y), rfl⟩
    simp only [Act.put, List.setIfInBounds_toArray, List.set_cons_zero, List.set_cons_succ]
    refine relE_quiet rfl rfl rfl rfl ?_; intro K hK; go_big_quiet_op; (first | refine ⟨_, fun _ _ => rfl, hK _ ?_⟩ | refine hK _ ?_); clear hK K
    refine relE_val [] rfl rfl rfl (by kernel_rfl) (fun y hy hf => ?_) ?_
    · have z0 := hy.cell c0
      go_simp
      exact ⟨hy, NE_ext rfl (Ext.refl y), rfl⟩
    simp only [Act.put, List.setIfInBounds_toArray, List.set_cons_zero, List.set_cons_succ]
    refine relE_quiet rfl rfl rfl rfl ?_; intro K hK; go_big_quiet_op; (first | refine ⟨_, fun _ _ => rfl, hK _ ?_⟩ | refine hK _ ?_); clear hK K
    refine relE_quiet rfl rfl rfl rfl ?_; intro K hK; go_big_quiet_op; (first | refine ⟨_, fun _ _ => rfl, hK _ ?_⟩ | refine hK _ ?_); clear hK K
    refine relE_fact [] rfl rfl rfl (by kernel_rfl) (fun y hy hf => ?_) (fun v7 y7 hC7 hG7 h7 => ?_)
    · refine yields_app info_note und_notes rfl (by decide) (.const (.slice none 0 0)) (.tmp 20) rfl w1.heap.size hy.le (.slice none 0 0) 0 [] (World.ownsRow_nil _ _ _ _) (by rfl) (SliceIn.ext hy hin1') (by rfl) hXl hX1 (by unfold maxLen; omega) (by omega) ?_
      intro v' y' ho' _ hg'
      have hE' : Ext y y' := (Ext.refl y).grown hg' (fun q hq => by cases hq)
      exact ⟨hy.trans hE', NE_ext rfl hE', by rw [Nat.zero_add, List.nil_append] at ho'; exact ho'⟩
    have h7' := h7
    obtain ⟨a7, c7, rfl⟩ := own_shape h7'
    clear hC7 hG7 h7 h7'
    simp only [Act.put, List.setIfInBounds_toArray, List.set_cons_zero, List.set_cons_succ]
    refine relE_quiet rfl rfl rfl rfl ?_; intro K hK; go_big_quiet_op; (first | refine ⟨_, fun _ _ => rfl, hK _ ?_⟩ | refine hK _ ?_); clear hK K
    refine relE_val [] rfl rfl rfl (by kernel_rfl) (fun y hy hf => ?_) ?_
    · go_simp
      exact ⟨hy, NE_ext rfl (Ext.refl y), rfl⟩
    simp only [Act.put, List.setIfInBounds_toArray, List.set_cons_zero, List.set_cons_succ]
    refine relE_quiet rfl rfl rfl rfl ?_; intro K hK; go_big_quiet_op; (first | refine ⟨_, fun _ _ => rfl, hK _ ?_⟩ | refine hK _ ?_); clear hK K
    refine relE_val [] rfl rfl rfl (by kernel_rfl) (fun y hy hf => ?_) ?_
    · have z0 := hy.cell c0
      go_simp
      exact ⟨hy, NE_ext rfl (Ext.refl y), rfl⟩
    simp only [Act.put, List.setIfInBounds_toArray, List.set_cons_zero, List.set_cons_succ]
    refine relE_quiet rfl rfl rfl rfl ?_; intro K hK; go_big_quiet_op; (first | refine ⟨_, fun _ _ => rfl, hK _ ?_⟩ | refine hK _ ?_); clear hK K
    refine relE_quiet rfl rfl rfl rfl ?_; intro K hK; go_big_quiet_op; (first | refine ⟨_, fun _ _ => rfl, hK _ ?_⟩ | refine hK _ ?_); clear hK K
    refine relE_val [] rfl rfl rfl (by kernel_rfl) (fun y hy hf => ?_) ?_
    · exact yields_from und_notes (size := 2) (by kernel_rfl) (.tmp 25) (.tmp 27) rfl rfl (by rfl) hl ⟨hy, NE_ext rfl (Ext.refl y), rfl⟩
    simp only [Act.put, List.setIfInBounds_toArray, List.set_cons_zero, List.set_cons_succ]
    refine relE_fact [7] rfl rfl rfl (by kernel_rfl) (fun y hy hf => ?_) (fun v15 y15 hC15 hG15 h15 => ?_)
    · have h7 := (hf 7 (by simp)).2 rfl
      refine yields_app info_note und_notes rfl (by decide) (.tmp 21) (.tmp 28) rfl w1.heap.size hy.le _ k X h7 (by rfl) (SliceIn.ext hy hin2') (by rfl) hNl hN1 (by unfold maxLen; omega) (by omega) ?_
      intro v' y' ho' hA hg'
      exact ⟨hA.to (Nat.le_refl _) hy, NE_app rfl hA, ho'⟩
    have h15' := h15
    obtain ⟨a15, c15, rfl⟩ := own_shape h15'
    clear hC15 hG15 h15 h15'
    simp only [Act.put, List.setIfInBounds_toArray, List.set_cons_zero, List.set_cons_succ]
    refine relE_val [] rfl rfl rfl (by kernel_rfl) (fun y hy hf => ?_) ?_
    · go_simp
      exact ⟨hy, NE_ext rfl (Ext.refl y), rfl⟩
    simp only [Act.put, List.setIfInBounds_toArray, List.set_cons_zero, List.set_cons_succ]
    refine relE_quiet rfl rfl rfl rfl ?_; intro K hK; go_big_quiet_op; (first | refine ⟨_, fun _ _ => rfl, hK _ ?_⟩ | refine hK _ ?_); clear hK K
    refine relE_tail rfl rfl fun w8 hE8 hG => ?_
    have h15 := (hG 15).2 rfl
    have hb8 := BoxAt.ext hE8 hbx
    have z0 : w8.cell? ⟨q, 0, none⟩ = some (.slice a m c) := hb8.cell 0
    have zf := hb8.free 0
    clear hG
    go_wp2
    go_ret
    have hlt := h15.lt
    have hqs := hbx.lt
    have hle := h1.le
    have hbk : Ext w w8 := hE1.trans hE8
    have hB : BK g w (w8.setCell ⟨q, 0, none⟩ (.slice a15 (k + (m - (k + 1))) c15)) := (BK.of_ext hbk hgw).trans (BK.set hle hb8 (.inl rfl) 0 _)
    refine ⟨⟨rfl, hB⟩, ⟨_, hb8.set 0 _, ?_⟩, hle⟩
    have ho := ownsRow_setCell_below h15 (a := ⟨q, 0, none⟩) hqs (.slice a15 (k + (m - (k + 1))) c15)
    have el : (F.take k ++ F.drop (k + 1)).length = k + (m - (k + 1)) := by simp [← HM.out]; omega
    have ec : ncells (F.take k ++ F.drop (k + 1)) = X ++ N := by rw [ncells_append, HX.out, HN.out]
    rw [el, ec]
    exact own_mono (by have := hE1.le; omega) ho
end
end Go.Proofs.Ytmjhdfifbjdgpaa

/- Contracts of the library, laid at this program: each is one application of a theorem of the shelf (the text is the tool's, its numbers by name). -/
namespace Go.Proofs
open Go.Shelf
def Try.lays189_ren : Go.Shelf.Ren := ⟨fun | 189 => 89 | 125 => 106 | 257 => 105 | 128 => 124 | 129 => 125 | 294 => 115 | 295 => 116 | 296 => 117 | 297 => 118 | 298 => 119 | 299 => 120 | 216 => 121 | 300 => 122 | 301 => 123 | 328 => 130 | 329 => 131 | 330 => 132 | 331 => 133 | 332 => 134 | 215 => 135 | 343 => 138 | n => n, fun | 28 => 22 | 3 => 3 | 46 => 155 | 0 => 0 | 51 => 176 | 53 => 178 | 4 => 4 | 183 => 169 | 182 => 168 | 131 => 106 | 5 => 5 | 9 => 9 | 218 => 184 | 222 => 188 | 228 => 192 | 229 => 193 | n => n, fun | n => n⟩
theorem Try.lays189 : Go.Proofs.Lays.n189 Try.prog Try.lays189_ren := {
  mixed := by kernel_rfl
  f125 := Try.func106.trans (congrArg some (by kernel_rfl))
  f128 := Try.func124.trans (congrArg some (by kernel_rfl))
  f129 := Try.func125.trans (congrArg some (by kernel_rfl))
  f189 := Try.func89.trans (congrArg some (by kernel_rfl))
  f215 := Try.func135.trans (congrArg some (by kernel_rfl))
  f216 := Try.func121.trans (congrArg some (by kernel_rfl))
  f257 := Try.func105.trans (congrArg some (by kernel_rfl))
  f294 := Try.func115.trans (congrArg some (by kernel_rfl))
  f295 := Try.func116.trans (congrArg some (by kernel_rfl))
  f296 := Try.func117.trans (congrArg some (by kernel_rfl))
  f297 := Try.func118.trans (congrArg some (by kernel_rfl))
  f298 := Try.func119.trans (congrArg some (by kernel_rfl))
  f299 := Try.func120.trans (congrArg some (by kernel_rfl))
  f300 := Try.func122.trans (congrArg some (by kernel_rfl))
  f301 := Try.func123.trans (congrArg some (by kernel_rfl))
  f328 := Try.func130.trans (congrArg some (by kernel_rfl))
  f329 := Try.func131.trans (congrArg some (by kernel_rfl))
  f330 := Try.func132.trans (congrArg some (by kernel_rfl))
  f331 := Try.func133.trans (congrArg some (by kernel_rfl))
  f332 := Try.func134.trans (congrArg some (by kernel_rfl))
  f343 := Try.func138.trans (congrArg some (by kernel_rfl))
  t0 := Try.underlying0
  a0 := Try.isAgg0
  z0 := Try.sizeOf0
  v0 := Try.zeroValue0
  t3 := Try.underlying3
  a3 := Try.isAgg3
  z3 := Try.sizeOf3
  v3 := Try.zeroValue3
  t4 := Try.underlying4
  a4 := Try.isAgg4
  z4 := Try.sizeOf4
  v4 := Try.zeroValue4
  t5 := Try.underlying5
  a5 := Try.isAgg5
  z5 := Try.sizeOf5
  v5 := Try.zeroValue5
  t9 := Try.underlying9
  a9 := Try.isAgg9
  z9 := Try.sizeOf9
  v9 := Try.zeroValue9
  t28 := Try.underlying22
  a28 := Try.isAgg22
  z28 := Try.sizeOf22
  v28 := Try.zeroValue22
  t46 := Try.underlying155
  a46 := Try.isAgg155
  z46 := Try.sizeOf155
  v46 := Try.zeroValue155
  t51 := Try.underlying176
  a51 := Try.isAgg176
  z51 := Try.sizeOf176
  v51 := Try.zeroValue176
  t53 := Try.underlying178
  a53 := Try.isAgg178
  z53 := Try.sizeOf178
  v53 := Try.zeroValue178
  t131 := Try.underlying106
  a131 := Try.isAgg106
  z131 := Try.sizeOf106
  v131 := Try.zeroValue106
  t182 := Try.underlying168
  a182 := Try.isAgg168
  z182 := Try.sizeOf168
  v182 := Try.zeroValue168
  t183 := Try.underlying169
  a183 := Try.isAgg169
  z183 := Try.sizeOf169
  v183 := Try.zeroValue169
  t218 := Try.underlying184
  a218 := Try.isAgg184
  z218 := Try.sizeOf184
  v218 := Try.zeroValue184
  t222 := Try.underlying188
  a222 := Try.isAgg188
  z222 := Try.sizeOf188
  v222 := Try.zeroValue188
  t228 := Try.underlying192
  a228 := Try.isAgg192
  z228 := Try.sizeOf192
  v228 := Try.zeroValue192
  t229 := Try.underlying193
  a229 := Try.isAgg193
  z229 := Try.sizeOf193
  v229 := Try.zeroValue193 }
open Go.Sort Go.RowKit in
theorem Try.slices_Sort_int (blk off cap : Nat) (zs : List Int) (w : World) (hH : Holds (Value.int .i64) w blk off zs.toArray) (hblk : blk < w.heap.size) (hsz : zs.length < 4611686018427387904) :
    Calls Try.prog 89 #[.slice (some ⟨blk, off, none⟩) zs.length cap] w fun e w' =>
      e = .returned (.tuple #[]) ∧ ∃ n os, w' = grow (putRow (Value.int .i64) (Sort.ahead w n) blk off (zs.mergeSort fun x y => decide (x ≤ y)).toArray) os := Any.slices_Sort_int Try.lays189 blk off cap zs w hH hblk hsz
theorem Try.slices_Sort_int_none (p : Option Addr) (cap : Nat) (w : World) :
    Calls Try.prog 89 #[.slice p 0 cap] w fun e w' => e = .returned (.tuple #[]) ∧ w' = w := Any.slices_Sort_int_none Try.lays189 p cap w
end Go.Proofs
