/- row.Merge over columns. (what a smaller cut has) -/
import Derived.Test.YtimbikbbbfpeeaaGreatDoorP9
import Derived.Test.YtimbikbbbfpeeaaGreatDoorP10
import Derived.Laws.MakeOwn
import Derived.OwnWalk
import Derived.Test.YtimbikbbbfpeeaaGreatDoorP7
import Derived.Test.YtimbikbbbfpeeaaGreatDoorP8
import Derived.Test.YtimbikbbbfpeeaaGreatDoorP4
set_option linter.unusedSimpArgs false
set_option linter.unusedVariables false
namespace Go.Proofs.YtimbikbbbfpeeaaGreatDoor
open Go Go.RowKit
attribute [local go_sem] yields yUpon co5

theorem ColsIn.uncons {w : World} {v : Value} {l : List Co} (h : ColsIn w v l) (hl : 0 < l.length) : ∃ b o c A l', l = A :: l' ∧ v = .slice (some ⟨b, o, none⟩) l.length c ∧ l.length ≤ c ∧ c ≤ 9223372036854775807 ∧ CoAt w b o A ∧ ColsIn w (.slice (if c = 1 then some ⟨b, o, none⟩ else some ⟨b, o + 5, none⟩) (l.length - 1) (c - 1)) l' := by
  obtain ⟨a, c, rfl, hc, hcm, hg⟩ := h.get
  obtain ⟨b, o, rfl, h0⟩ := hg 0 hl
  cases l with
  | nil => cases hl
  | cons A l' =>
    refine ⟨b, o, c, A, l', rfl, rfl, hc, hcm, by simpa using h0, ?_⟩
    obtain ⟨a', c', e, hc', hcm', ha', hcell⟩ := h
    cases e
    refine ⟨if c = 1 then some ⟨b, o, none⟩ else some ⟨b, o + 5, none⟩, c - 1, by simp, by simp at hc' ⊢; omega, by unfold maxLen; omega, (by intro h; split at h <;> cases h), fun j u hj => ?_⟩
    obtain ⟨b', o', e, hx⟩ := hcell (j + 5) u (by simpa [coCells] using hj)
    cases e
    by_cases h1 : c = 1
    · have h2 : l' = [] := List.eq_nil_of_length_eq_zero (by simp at hc'; omega)
      subst h2
      cases hj
    · rw [if_neg h1]
      exact ⟨b, o + 5, rfl, by rw [Nat.add_assoc, Nat.add_comm 5 j]; exact hx⟩

/-- What stays true in a round's region: the row under way may be appended to. -/
structure MC (w wr : World) (vo : Value) (out : List Co) (x : World) : Prop where
  ext : Ext w x
  own : x.ownsRow w.heap.size 216 5 vo out.length (coCells out)
  size : wr.heap.size ≤ x.heap.size
theorem MC.ext' {w wr : World} {vo : Value} {out : List Co} {x y : World} (hE : Ext x y) (h : MC w wr vo out x) : MC w wr vo out y := ⟨h.ext.trans hE, ownsRow_ext h.own hE, Nat.le_trans h.size hE.le⟩
def ME (vo : Value) (n j : Nat) (x y : World) : Prop := if j = n then x.grownBy y vo.ownBlock else Ext x y
theorem ME_ext {vo : Value} {n j : Nat} {x y : World} (h : Ext x y) : ME vo n j x y := by
  unfold ME
  split
  · exact grownBy_ext (grownBy_refl x _) h
  · exact h
theorem ME_off {vo : Value} {n j : Nat} (hj : j ≠ n) {x y : World} (h : ME vo n j x y) : Ext x y := by
  unfold ME at h
  rwa [if_neg hj] at h
theorem ME_box {w wr : World} {vo : Value} {n j m s : Nat} {T : TypeId} {xs : List Value} (hown : wr.ownsRow w.heap.size T s vo m xs) {x y : World} (h : ME vo n j x y) {b : Nat} (hb : wr.heap.size ≤ b) {cs : Array Value} {e : TypeId} (hx : BoxAt x b cs e) : BoxAt y b cs e := by
  unfold ME at h
  split at h
  · exact hx.grown h (fun e => by have := (hown.lt _ e.symm).2; omega)
  · exact hx.ext h
end Go.Proofs.YtimbikbbbfpeeaaGreatDoor

/- row.Join. (what a smaller cut has) -/
namespace Go.Proofs.YtimbikbbbfpeeaaGreatDoor
open Go Go.RowKit
attribute [local go_sem] yields yUpon ro8 co5

/-- What two rows are together. -/
def joinRo (a b : Ro) : Ro := ⟨a.key, joinCl a.live b.live, max a.gone b.gone, max a.shade b.shade, mergeCo a.cols b.cols⟩
theorem mergeCo_len (l m : List Co) : (mergeCo l m).length ≤ l.length + m.length := mergeG_len _ _ _ _
end Go.Proofs.YtimbikbbbfpeeaaGreatDoor

/- Lists of rows in memory; 'append' to such a list of one's own; rows' columns that stay while such a list grows. -/

