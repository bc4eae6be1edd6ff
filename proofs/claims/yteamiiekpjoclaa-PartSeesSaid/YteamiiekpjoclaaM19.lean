/- Plain laws of partitions by numbers: keys rise; what a join's row is; what is seen later. -/
import Derived.Test.YteamiiekpjoclaaM13
import Derived.Test.YteamiiekpjoclaaM18
import Derived.Test.YteamiiekpjoclaaM8
import Derived.Test.YteamiiekpjoclaaM6
import Derived.Test.YteamiiekpjoclaaM1
namespace Go.Proofs.Yteamiiekpjoclaa
open Go Go.RowKit

theorem GenRows.rise {k : Nat} {l : List Ro} (h : GenRows k l) (hk : k ≤ 1000) : Rise l := by
  induction h with
  | nil => exact List.Pairwise.nil
  | skip _ ih => exact ih (by omega)
  | put hl _ e ih =>
    refine List.pairwise_append.2 ⟨ih (by omega), List.pairwise_singleton .., fun a ha b hb => ?_⟩
    obtain ⟨i, hi, e'⟩ := hl.key a ha
    rw [List.mem_singleton.1 hb]
    unfold keyR
    rw [e, e']
    exact ik_lt hi (by omega)
theorem GenRows.few {k : Nat} {l : List Ro} (h : GenRows k l) : FewCols l := fun r hr => Nat.le_trans (h.row r hr).cols.len (by omega)

theorem joinCl_zero {c : Cl} (h : GenLive c) : joinCl c zeroCl = c := by
  obtain ⟨h1, h2, h3⟩ := h
  obtain ⟨v, d, a, f⟩ := c
  simp only at h1 h2 h3
  subst h1 h2
  rcases h3 with ⟨rfl, rfl⟩ | ⟨h3, _⟩
  · unfold joinCl; split <;> rfl
  · unfold joinCl
    rw [if_neg]
    show ¬ or4 (cmpI a 0) _ _ _ < 0
    have e : cmpI a 0 = 1 := by unfold cmpI; rw [if_neg (by omega), if_pos (by omega)]
    rw [e]
    unfold or4
    simp
theorem zero_joinCl {c : Cl} (h : GenLive c) : joinCl zeroCl c = c := by
  obtain ⟨h1, h2, h3⟩ := h
  obtain ⟨v, d, a, f⟩ := c
  simp only at h1 h2 h3
  subst h1 h2
  rcases h3 with ⟨rfl, rfl⟩ | ⟨h3, _⟩
  · unfold joinCl; split <;> rfl
  · unfold joinCl
    rw [if_pos]
    show or4 (cmpI 0 a) _ _ _ < 0
    have e : cmpI 0 a = -1 := by unfold cmpI; rw [if_pos (by omega)]
    rw [e]
    unfold or4
    simp
theorem joinRo_zero {r : Ro} (h : GenRow r) : joinRo r ⟨r.key, zeroCl, 0, 0, []⟩ = r := by
  have hg := h.gone
  have hs := h.shade
  unfold joinRo mergeCo
  simp only [joinCl_zero h.live, mergeG_nil_right, hs]
  rw [show max r.gone 0 = r.gone by omega, show max (0 : Int) 0 = r.shade by rw [hs]; rfl]
theorem zero_joinRo {r : Ro} (h : GenRow r) : joinRo ⟨r.key, zeroCl, 0, 0, []⟩ r = r := by
  have hg := h.gone
  have hs := h.shade
  unfold joinRo mergeCo
  simp only [zero_joinCl h.live, mergeG_nil_left, hs]
  rw [show max 0 r.gone = r.gone by omega, show max (0 : Int) 0 = r.shade by rw [hs]; rfl]
/-- A join's row is the join of the two's rows. -/
theorem join_rows {k k' : Nat} {A B : List Ro} (hA : GenRows k A) (hB : GenRows k' B) (hk : k ≤ 1000) (hk' : k' ≤ 1000) {r : Ro} (h : r ∈ mergeRo A B) : joinRo (rowOf A r.key) (rowOf B r.key) = r := by
  have ra := hA.rise hk
  have rb := hB.rise hk'
  rcases mem_mergeRo ra rb h with ⟨h1, h2⟩ | ⟨h1, h2⟩ | ⟨a, ha, b, hb, e, rfl⟩
  · rw [rowOf_mem ra h1, rowOf_none h2]; exact joinRo_zero (hA.row r h1)
  · rw [rowOf_mem rb h1, rowOf_none h2]; exact zero_joinRo (hB.row r h1)
  · rw [show (joinRo a b).key = a.key from rfl, rowOf_mem ra ha, e, rowOf_mem rb hb]
theorem rowOf_key (l : List Ro) (k : ByteArray) : (rowOf l k).key = k := by
  induction l with
  | nil => rfl
  | cons a l ih =>
    unfold rowOf
    split
    · rename_i h
      apply key_of
      rw [← ByteArray.toList_eq, ← ByteArray.toList_eq]
      simpa using h
    · exact ih
theorem merge_one {x y : Ro} (h : x.key = y.key) : mergeRo [x] [y] = [joinRo x y] := by
  unfold mergeRo
  rw [mergeG_eq (keyR_zero.2 h), mergeG_nil_left]
theorem seenRs_one (r : Ro) (g t : Int) (s : Bool) : seenRs [r] g t s = if isB r (max r.gone g) t s then [seenRo r g t] else [] := by
  have := seenRs_snoc [] r g t s
  simpa [seenRs] using this

/-- What is seen later is seen now. -/
theorem seenB_later {d : Bool} {a e t u : Int} (h : t ≤ u) (hs : seenB d a e u = true) : seenB d a e t = true := by
  unfold seenB at *
  simp only [Bool.and_eq_true, Bool.or_eq_true, decide_eq_true_eq] at *
  refine ⟨hs.1, hs.2.imp id fun h => by omega⟩
theorem seenCos_later {l : List Co} {g t u : Int} (h : t ≤ u) : (seenCos l g u).length ≤ (seenCos l g t).length := by
  unfold seenCos
  rw [← List.countP_eq_length_filter, ← List.countP_eq_length_filter]
  refine List.countP_mono_left fun c _ hc => ?_
  unfold seenCo at *
  simp only [Bool.and_eq_true] at *
  exact ⟨hc.1, seenB_later h hc.2⟩
theorem isB_later {r : Ro} {g t u : Int} {s : Bool} (h : t ≤ u) (hs : isB r g u s = true) : isB r g t s = true := by
  unfold isB at *
  simp only [Bool.or_eq_true, Bool.and_eq_true, decide_eq_true_eq] at *
  rcases hs with hs | ⟨h1, h2⟩
  · left
    unfold liveB at *
    simp only [Bool.and_eq_true] at *
    exact ⟨⟨seenB_later h hs.1.1, hs.1.2⟩, hs.2⟩
  · exact .inr ⟨h1, Nat.lt_of_lt_of_le h2 (seenCos_later h)⟩
theorem seenRs_later (l : List Ro) {g t u : Int} {s : Bool} (h : t ≤ u) : (seenRs l g u s).length ≤ (seenRs l g t s).length := by
  unfold seenRs
  rw [List.length_map, List.length_map, ← List.countP_eq_length_filter, ← List.countP_eq_length_filter]
  exact List.countP_mono_left fun r _ hr => isB_later h hr
theorem seenRs_len (l : List Ro) (g t : Int) (s : Bool) : (seenRs l g t s).length ≤ l.length := by
  unfold seenRs
  rw [List.length_map]
  exact List.length_filter_le _ _
/-- The rows that are seen, one by one. -/
theorem seenRs_take {l : List Ro} {k : Nat} (hk : k < l.length) (g t : Int) (s : Bool) : seenRs (l.take (k + 1)) g t s = seenRs (l.take k) g t s ++ seenRs [l[k]] g t s := by
  rw [List.take_succ_eq_append_getElem hk, seenRs_snoc, seenRs_one]
theorem seenRs_at {l : List Ro} {k : Nat} (hk : k < l.length) {g t : Int} {s : Bool} (hb : isB l[k] (max l[k].gone g) t s = true) : (seenRs l g t s)[(seenRs (l.take k) g t s).length]? = some (seenRo l[k] g t) := by
  have e : seenRs l g t s = seenRs (l.take k) g t s ++ seenRo l[k] g t :: seenRs (l.drop (k + 1)) g t s := by
    conv => lhs; rw [← List.take_append_drop k l, List.drop_eq_getElem_cons hk]
    unfold seenRs
    rw [List.filter_append, List.filter_cons_of_pos (by exact hb), List.map_append, List.map_cons]
  rw [e, List.getElem?_append_right (Nat.le_refl _), Nat.sub_self]
  rfl
end Go.Proofs.Yteamiiekpjoclaa

/- Regions that draw their order, with a store of a whole partition into a variable made in the region. -/
namespace Go.Proofs.Yteamiiekpjoclaa
open Go Go.RowKit

/-- Operation n stores into a partition's variable that was made in the region (behind S blocks); the others let memory grow. -/
def SE (S n j : Nat) (x y : World) : Prop := if j = n then ∃ q Z Z', S ≤ q ∧ BoxAt x q Z 39 ∧ BoxAt y q Z' 39 ∧ Z'.size = 3 ∧ x.grownBy y (some q) else Ext x y
theorem SE_ext {S n j : Nat} {x y : World} (hj : j ≠ n) (h : Ext x y) : SE S n j x y := by unfold SE; rw [if_neg hj]; exact h
theorem SE_off {S n j : Nat} {x y : World} (hj : j ≠ n) (h : SE S n j x y) : Ext x y := by unfold SE at h; rwa [if_neg hj] at h
theorem SE_at {S n : Nat} {x y : World} {q : Nat} {Z Z' : Array Value} (hq : S ≤ q) (h1 : BoxAt x q Z 39) (h2 : BoxAt y q Z' 39) (h3 : Z'.size = 3) (hg : x.grownBy y (some q)) : SE S n n x y := by
  unfold SE; rw [if_pos rfl]; exact ⟨q, Z, Z', hq, h1, h2, h3, hg⟩
theorem SE_to {S n j : Nat} {w x y : World} (hS : w.heap.size ≤ S) (h : SE S n j x y) (hE : Ext w x) : Ext w y := by
  unfold SE at h
  split at h
  · obtain ⟨q, Z, Z', hq, _, _, _, hg⟩ := h
    exact hE.grown hg (fun p hp => by cases hp; omega)
  · exact hE.trans h
theorem SE_box {S n j : Nat} {x y : World} (h : SE S n j x y) {b : Nat} {cs : Array Value} {T : TypeId} (hT : T ≠ 39) (hb : BoxAt x b cs T) : BoxAt y b cs T := by
  unfold SE at h
  split at h
  · obtain ⟨q, Z, Z', hq, h1, _, _, hg⟩ := h
    exact hb.grown hg (fun e => box_ne hb h1 hT (Option.some.inj e))
  · exact hb.ext h
theorem SE_old {S n j : Nat} {x y : World} (h : SE S n j x y) {b : Nat} {cs : Array Value} {T : TypeId} (hS : b < S) (hb : BoxAt x b cs T) : BoxAt y b cs T := by
  unfold SE at h
  split at h
  · obtain ⟨q, Z, Z', hq, h1, _, _, hg⟩ := h
    exact hb.grown hg (fun e => by have := Option.some.inj e; omega)
  · exact hb.ext h
theorem SE_rows {S n j : Nat} {x y : World} (h : SE S n j x y) {v : Value} {qs : List (Ro × Value)} (hr : RowsT x v qs) : RowsT y v qs := by
  unfold SE at h
  split at h
  · obtain ⟨q, Z, Z', hq, h1, _, _, hg⟩ := h
    exact hr.keep hg h1 (by decide) (by decide)
  · exact hr.ext h
theorem SE_size {S n j : Nat} {x y : World} (h : SE S n j x y) : x.heap.size ≤ y.heap.size := by
  unfold SE at h
  split at h
  · obtain ⟨q, Z, Z', hq, h1, _, _, hg⟩ := h
    exact hg.size
  · exact h.le
theorem SE_part {S n j : Nat} {x y : World} (h : SE S n j x y) {b : Nat} (hb : ∃ Z, BoxAt x b Z 39 ∧ Z.size = 3) : ∃ Z, BoxAt y b Z 39 ∧ Z.size = 3 := by
  obtain ⟨Z, hb, hZ⟩ := hb
  unfold SE at h
  split at h
  · obtain ⟨q, Z1, Z2, hq, h1, h2, h3, hg⟩ := h
    by_cases e : b = q
    · subst e; exact ⟨Z2, h2, h3⟩
    · exact ⟨Z, hb.grown hg (fun e' => e (Option.some.inj e')), hZ⟩
  · exact ⟨Z, hb.ext h, hZ⟩
end Go.Proofs.Yteamiiekpjoclaa

/- As XStoreE, of a variable of any type. -/
namespace Go.Proofs.Yteamiiekpjoclaa
open Go Go.RowKit

/-- Operation n stores into a variable of type T that was made in the region (behind S blocks); the others let memory grow. -/
def SG (T : TypeId) (m S n j : Nat) (x y : World) : Prop := if j = n then ∃ q Z Z', S ≤ q ∧ BoxAt x q Z T ∧ BoxAt y q Z' T ∧ Z'.size = m ∧ x.grownBy y (some q) else Ext x y
section
variable {T : TypeId} {m S n j : Nat} {x y : World}
theorem SG_ext (hj : j ≠ n) (h : Ext x y) : SG T m S n j x y := by unfold SG; rw [if_neg hj]; exact h
theorem SG_off (hj : j ≠ n) (h : SG T m S n j x y) : Ext x y := by unfold SG at h; rwa [if_neg hj] at h
theorem SG_at {q : Nat} {Z Z' : Array Value} (hq : S ≤ q) (h1 : BoxAt x q Z T) (h2 : BoxAt y q Z' T) (h3 : Z'.size = m) (hg : x.grownBy y (some q)) : SG T m S n n x y := by
  unfold SG; rw [if_pos rfl]; exact ⟨q, Z, Z', hq, h1, h2, h3, hg⟩
theorem SG_to {w : World} (hS : w.heap.size ≤ S) (h : SG T m S n j x y) (hE : Ext w x) : Ext w y := by
  unfold SG at h
  split at h
  · obtain ⟨q, Z, Z', hq, _, _, _, hg⟩ := h
    exact hE.grown hg (fun p hp => by cases hp; omega)
  · exact hE.trans h
theorem SG_box (h : SG T m S n j x y) {b : Nat} {cs : Array Value} {U : TypeId} (hT : U ≠ T) (hb : BoxAt x b cs U) : BoxAt y b cs U := by
  unfold SG at h
  split at h
  · obtain ⟨q, Z, Z', hq, h1, _, _, hg⟩ := h
    exact hb.grown hg (fun e => box_ne hb h1 hT (Option.some.inj e))
  · exact hb.ext h
theorem SG_old (h : SG T m S n j x y) {b : Nat} {cs : Array Value} {U : TypeId} (hS : b < S) (hb : BoxAt x b cs U) : BoxAt y b cs U := by
  unfold SG at h
  split at h
  · obtain ⟨q, Z, Z', hq, h1, _, _, hg⟩ := h
    exact hb.grown hg (fun e => by have := Option.some.inj e; omega)
  · exact hb.ext h
theorem SG_tin (h : SG T m S n j x y) {e : TypeId} {v : Value} {k : Nat} {xs : List Value} (hT : e ≠ T) (ht : TIn x e v k xs) : TIn y e v k xs := by
  unfold SG at h
  split at h
  · obtain ⟨q, Z, Z', hq, h1, _, _, hg⟩ := h
    exact ht.keep hg h1 hT
  · exact ht.ext h
theorem SG_cols (h : SG T m S n j x y) {v : Value} {l : List Co} (hT : 58 ≠ T) (hc : ColsT x v l) : ColsT y v l := SG_tin h hT hc
theorem SG_size (h : SG T m S n j x y) : x.heap.size ≤ y.heap.size := by
  unfold SG at h
  split at h
  · obtain ⟨q, Z, Z', hq, h1, _, _, hg⟩ := h
    exact hg.size
  · exact h.le
theorem SG_part (h : SG T m S n j x y) {b : Nat} (hb : ∃ Z, BoxAt x b Z T ∧ Z.size = m) : ∃ Z, BoxAt y b Z T ∧ Z.size = m := by
  obtain ⟨Z, hb, hZ⟩ := hb
  unfold SG at h
  split at h
  · obtain ⟨q, Z1, Z2, hq, h1, h2, h3, hg⟩ := h
    by_cases e : b = q
    · subst e; exact ⟨Z2, h2, h3⟩
    · exact ⟨Z, hb.grown hg (fun e' => e (Option.some.inj e')), hZ⟩
  · exact ⟨Z, hb.ext h, hZ⟩
end
end Go.Proofs.Yteamiiekpjoclaa
