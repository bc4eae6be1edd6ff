/- Regions that draw their order, with a store of a whole partition into a variable made in the region. -/
import Derived.Test.YtbjpfhkdlljgdaaDoorRowsIn
import Derived.Test.YtbjpfhkdlljgdaaDoorRegionE
namespace Go.Proofs.YtbjpfhkdlljgdaaDoor
open Go Go.RowKit

/-- Operation n stores into a partition's variable that was made in the region (behind S blocks); the others let memory grow. -/
def SE (S n j : Nat) (x y : World) : Prop := if j = n then ∃ q Z Z', S ≤ q ∧ BoxAt x q Z 35 ∧ BoxAt y q Z' 35 ∧ Z'.size = 3 ∧ x.grownBy y (some q) else Ext x y
theorem SE_ext {S n j : Nat} {x y : World} (hj : j ≠ n) (h : Ext x y) : SE S n j x y := by unfold SE; rw [if_neg hj]; exact h
theorem SE_off {S n j : Nat} {x y : World} (hj : j ≠ n) (h : SE S n j x y) : Ext x y := by unfold SE at h; rwa [if_neg hj] at h
theorem SE_at {S n : Nat} {x y : World} {q : Nat} {Z Z' : Array Value} (hq : S ≤ q) (h1 : BoxAt x q Z 35) (h2 : BoxAt y q Z' 35) (h3 : Z'.size = 3) (hg : x.grownBy y (some q)) : SE S n n x y := by
  unfold SE; rw [if_pos rfl]; exact ⟨q, Z, Z', hq, h1, h2, h3, hg⟩
theorem SE_to {S n j : Nat} {w x y : World} (hS : w.heap.size ≤ S) (h : SE S n j x y) (hE : Ext w x) : Ext w y := by
  unfold SE at h
  split at h
  · obtain ⟨q, Z, Z', hq, _, _, _, hg⟩ := h
    exact hE.grown hg (fun p hp => by cases hp; omega)
  · exact hE.trans h
theorem SE_box {S n j : Nat} {x y : World} (h : SE S n j x y) {b : Nat} {cs : Array Value} {T : TypeId} (hT : T ≠ 35) (hb : BoxAt x b cs T) : BoxAt y b cs T := by
  unfold SE at h
  split at h
  · obtain ⟨q, Z, Z', hq, h1, _, _, hg⟩ := h
    exact hb.grown hg (fun e => box_ne hb h1 hT (Option.some.inj e))
  · exact hb.ext h
theorem SE_old {S n j : Nat} {x y : World} (h : SE S n j x y) {b : Nat} {cs : Array Value} {T : TypeId} (hS : b < S) (hb : BoxAt x b cs T) : BoxAt y b cs T := by
  unfold SE at h
  split at h
  · obtain ⟨q, Z, Z', hq, h1, _, _, hg⟩ := h
    exact hb.grown hg (fun e => by have := Option.some.inj e; omega)
  · exact hb.ext h
theorem SE_rows {S n j : Nat} {x y : World} (h : SE S n j x y) {v : Value} {qs : List (Ro × Value)} (hr : RowsT x v qs) : RowsT y v qs := by
  unfold SE at h
  split at h
  · obtain ⟨q, Z, Z', hq, h1, _, _, hg⟩ := h
    exact hr.keep hg h1 (by decide) (by decide)
  · exact hr.ext h
theorem SE_size {S n j : Nat} {x y : World} (h : SE S n j x y) : x.heap.size ≤ y.heap.size := by
  unfold SE at h
  split at h
  · obtain ⟨q, Z, Z', hq, h1, _, _, hg⟩ := h
    exact hg.size
  · exact h.le
theorem SE_part {S n j : Nat} {x y : World} (h : SE S n j x y) {b : Nat} (hb : ∃ Z, BoxAt x b Z 35 ∧ Z.size = 3) : ∃ Z, BoxAt y b Z 35 ∧ Z.size = 3 := by
  obtain ⟨Z, hb, hZ⟩ := hb
  unfold SE at h
  split at h
  · obtain ⟨q, Z1, Z2, hq, h1, h2, h3, hg⟩ := h
    by_cases e : b = q
    · subst e; exact ⟨Z2, h2, h3⟩
    · exact ⟨Z, hb.grown hg (fun e' => e (Option.some.inj e')), hZ⟩
  · exact ⟨Z, hb.ext h, hZ⟩
end Go.Proofs.YtbjpfhkdlljgdaaDoor
