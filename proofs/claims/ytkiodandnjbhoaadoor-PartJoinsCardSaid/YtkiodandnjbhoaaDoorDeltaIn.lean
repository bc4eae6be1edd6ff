/- Lists of partitions in memory, in blocks of their own type. -/
import Derived.Test.YtkiodandnjbhoaaDoorRowsIn
import Derived.Test.YtkiodandnjbhoaaDoorRegionE
namespace Go.Proofs.YtkiodandnjbhoaaDoor
open Go Go.RowKit

/-- A partition with the value of its rows. -/
structure Pa where
  key : ByteArray
  gone : Int
  rv : Value
  ps : List (Ro × Value)
/-- What it is, whatever its memory. -/
def Pa.data (p : Pa) : ByteArray × Int × List Ro := (p.key, p.gone, p.ps.map (·.1))
theorem info_Part : (Tryd.prog.info? 35).map (fun i => (i.zero, i.size, i.bytes)) = some (some (.agg #[.string ⟨#[]⟩, .int .i64 0, .slice none 0 0]), 3, 48) := by kernel_rfl
theorem und_Parts : Tryd.prog.underlying 67 = some (.slice 35) := by kernel_rfl
def paCells : List Pa → List Value
  | [] => []
  | p :: l => .string p.key :: .int .i64 p.gone :: p.rv :: paCells l
theorem paCells_length (l : List Pa) : (paCells l).length = l.length * 3 := by
  induction l with
  | nil => rfl
  | cons c l ih => simp [paCells, ih]; omega
theorem paCells_append (l m : List Pa) : paCells (l ++ m) = paCells l ++ paCells m := by
  induction l with
  | nil => rfl
  | cons c l ih => simp [paCells, ih]
theorem paCells_get : ∀ (l : List Pa) (k : Nat) (h : k < l.length), (paCells l)[k * 3]? = some (.string l[k].key) ∧ (paCells l)[k * 3 + 1]? = some (.int .i64 l[k].gone) ∧ (paCells l)[k * 3 + 2]? = some l[k].rv
  | c :: l, 0, _ => by simp [paCells]
  | c :: l, k + 1, h => by
    have ih := paCells_get l k (by simpa using h)
    have e : (k + 1) * 3 = k * 3 + 3 := by omega
    simp only [e, paCells, List.getElem_cons_succ]
    simpa using ih
structure PartsT (x : World) (v : Value) (L : List Pa) : Prop where
  tin : TIn x 35 v L.length (paCells L)
  rows : ∀ p ∈ L, RowsT x p.rv p.ps
theorem PartsT.ext {x y : World} (hE : Ext x y) {v : Value} {L : List Pa} (h : PartsT x v L) : PartsT y v L := ⟨h.tin.ext hE, fun p hp => (h.rows p hp).ext hE⟩
/-- A partition at a place in memory. -/
structure PaAt (w : World) (b o : Nat) (p : Pa) : Prop where
  c0 : w.cell? ⟨b, o, none⟩ = some (.string p.key)
  c1 : w.cell? ⟨b, o + 1, none⟩ = some (.int .i64 p.gone)
  c2 : w.cell? ⟨b, o + 2, none⟩ = some p.rv
theorem PaAt.ext {w w' : World} (hE : Ext w w') {b o : Nat} {p : Pa} (h : PaAt w b o p) : PaAt w' b o p := ⟨hE.cell h.c0, hE.cell h.c1, hE.cell h.c2⟩
theorem PartsT.get {w : World} {v : Value} {L : List Pa} (h : PartsT w v L) : ∃ a c, v = .slice a L.length c ∧ L.length ≤ c ∧ c ≤ 9223372036854775807 ∧ ∀ k (hk : k < L.length), ∃ b, a = some ⟨b, 0, none⟩ ∧ PaAt w b (k * 3) L[k] := by
  rcases h.tin with ⟨rfl, hn, _⟩ | ⟨b, c, Z, rfl, hb, hn, hc, hx⟩
  · exact ⟨none, 0, by rw [hn], by omega, by omega, fun k hk => by omega⟩
  · unfold maxLen at hc
    refine ⟨_, c, rfl, hn, by omega, fun k hk => ⟨b, rfl, ?_⟩⟩
    obtain ⟨g0, g1, g2⟩ := paCells_get L k hk
    exact ⟨(hb.cell _).trans (hx _ _ g0), (hb.cell _).trans (hx _ _ g1), (hb.cell _).trans (hx _ _ g2)⟩

/-- Operation n appends to a list of partitions of one's own; the others let memory grow. -/
def PE (vl : Value) (B n j : Nat) (x y : World) : Prop := if j = n then (∃ m xs, x.ownsRow B 35 3 vl m xs) ∧ x.grownBy y vl.ownBlock else Ext x y
theorem PE_ext {vl : Value} {B n j : Nat} {x y : World} (hj : j ≠ n) (h : Ext x y) : PE vl B n j x y := by unfold PE; rw [if_neg hj]; exact h
theorem PE_off {vl : Value} {B n j : Nat} {x y : World} (hj : j ≠ n) (h : PE vl B n j x y) : Ext x y := by unfold PE at h; rwa [if_neg hj] at h
theorem PE_tin {vl : Value} {B n j : Nat} {x y : World} (h : PE vl B n j x y) {e : TypeId} (he : e ≠ 35) {v : Value} {m : Nat} {xs : List Value} (ht : TIn x e v m xs) : TIn y e v m xs := by
  unfold PE at h
  split at h
  · obtain ⟨⟨m, xs, hown⟩, hg⟩ := h
    exact ht.keepOwn hown hg he
  · exact ht.ext h
theorem PE_rows {vl : Value} {B n j : Nat} {x y : World} (h : PE vl B n j x y) {v : Value} {qs : List (Ro × Value)} (hr : RowsT x v qs) : RowsT y v qs :=
  ⟨PE_tin h (by decide) hr.tin, fun p hp => PE_tin h (by decide) (hr.typed p hp)⟩
theorem PE_box {vl : Value} {B n j : Nat} {x y : World} (h : PE vl B n j x y) {b : Nat} {cs : Array Value} {T : TypeId} (hT : T ≠ 35) (hb : BoxAt x b cs T) : BoxAt y b cs T := by
  unfold PE at h
  split at h
  · obtain ⟨⟨m, xs, hown⟩, hg⟩ := h
    refine hb.grown hg (fun e => ?_)
    rcases own_ne_box hown hb (fun e => hT e.symm) with h | h
    · rw [h] at e; cases e
    · exact h e.symm
  · exact hb.ext h
theorem PE_far {wr : World} {vl : Value} {B n j m : Nat} {xs : List Value} (hown : wr.ownsRow B 35 3 vl m xs) {x y : World} (h : PE vl B n j x y) {b : Nat} (hb : wr.heap.size ≤ b) {cs : Array Value} {e : TypeId} (hx : BoxAt x b cs e) : BoxAt y b cs e := by
  unfold PE at h
  split at h
  · exact hx.grown h.2 (fun e => by have := (hown.lt _ e.symm).2; omega)
  · exact hx.ext h
end Go.Proofs.YtkiodandnjbhoaaDoor
