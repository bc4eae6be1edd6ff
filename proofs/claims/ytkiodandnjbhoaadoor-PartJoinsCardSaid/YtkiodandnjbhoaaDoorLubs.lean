/- Folds of joins over partitions by numbers: each is the least above them all. -/
import Derived.Test.YtkiodandnjbhoaaDoorGenUp
import Derived.Test.YtkiodandnjbhoaaDoorSeveral
namespace Go.Proofs.YtkiodandnjbhoaaDoor
open Go Go.RowKit

/-- What a partition is, whatever its key and its memory. -/
def datP (p : Pa) : Dp := (p.gone, p.ps.map (·.1))
def datL (L : List Pa) (j : Nat) : Dp := match L[j]? with
  | some p => datP p
  | none => (0, [])
theorem datL_get {L : List Pa} {j : Nat} (h : j < L.length) : datL L j = datP L[j] := by unfold datL; rw [List.getElem?_eq_getElem h]
/-- By numbers, or of joins of such. -/
structure NumD (d : Dp) : Prop where
  gone : 0 ≤ d.1 ∧ d.1 ≤ 7
  rows : NumRs d.2
theorem NumD.good {d : Dp} (h : NumD d) : GoodD d := h.rows.good
theorem NumD.join {d e : Dp} (hd : NumD d) (he : NumD e) : NumD (joinD d e) := by
  refine ⟨?_, hd.rows.merge he.rows⟩
  have := hd.gone; have := he.gone
  show 0 ≤ max d.1 e.1 ∧ max d.1 e.1 ≤ 7
  omega
theorem GenPa.num {k : ByteArray} {p : Pa} (h : GenPa k p) : NumD (datP p) := ⟨h.gone, h.rows.num⟩
/-- The least above the first so many of some. -/
def Up1 (L : List Pa) (k : Nat) (d : Dp) : Prop := Lub (fun s => ∃ j, j < k ∧ s = datL L j) d
def Up2 (L : List Pa) (c K k : Nat) (d : Dp) : Prop := Lub (fun s => ∃ j, j < k ∧ s = datL L ((c + j) % K)) d
theorem Up1.one {L : List Pa} {d : Dp} (h : GoodD d) (e : d = datL L 0) : Up1 L 1 d := by
  refine (Lub.one h).congr fun s => ⟨fun h => ⟨0, by decide, by rw [h, e]⟩, fun ⟨j, hj, h⟩ => ?_⟩
  obtain rfl : j = 0 := by omega
  rw [h, e]
theorem Up1.next {L : List Pa} {k : Nat} {d s : Dp} (hu : Up1 L k d) (hs : GoodD s) (e : s = datL L k) : Up1 L (k + 1) (joinD d s) := by
  refine (Lub.join hu hs).congr fun t => ⟨?_, ?_⟩
  · rintro (⟨j, hj, h⟩ | h)
    · exact ⟨j, by omega, h⟩
    · exact ⟨k, by omega, by rw [h, e]⟩
  · rintro ⟨j, hj, h⟩
    by_cases hk : j < k
    · exact .inl ⟨j, hk, h⟩
    · obtain rfl : j = k := by omega
      exact .inr (h.trans e.symm)
theorem Up2.one {L : List Pa} {c K : Nat} {d : Dp} (hc : c < K) (h : GoodD d) (e : d = datL L c) : Up2 L c K 1 d := by
  refine (Lub.one h).congr fun s => ⟨fun h => ⟨0, by decide, by rw [Nat.add_zero, Nat.mod_eq_of_lt hc, h, e]⟩, fun ⟨j, hj, h⟩ => ?_⟩
  obtain rfl : j = 0 := by omega
  rw [h, Nat.add_zero, Nat.mod_eq_of_lt hc, e]
theorem Up2.next {L : List Pa} {c K k : Nat} {d s : Dp} (hu : Up2 L c K k d) (hs : GoodD s) (e : s = datL L ((c + k) % K)) : Up2 L c K (k + 1) (joinD s d) := by
  rw [joinD_comm hs hu.good]
  refine (Lub.join hu hs).congr fun t => ⟨?_, ?_⟩
  · rintro (⟨j, hj, h⟩ | h)
    · exact ⟨j, by omega, h⟩
    · exact ⟨k, by omega, by rw [h, e]⟩
  · rintro ⟨j, hj, h⟩
    by_cases hk : j < k
    · exact .inl ⟨j, hk, h⟩
    · obtain rfl : j = k := by omega
      exact .inr (h.trans e.symm)
/-- Both are the same. -/
theorem Up1.eq {L : List Pa} {c K : Nat} {d e : Dp} (hc : c < K) (h : Up1 L K d) (h' : Up2 L c K K e) : d = e := by
  refine Lub.unique h (h'.congr fun s => ⟨?_, ?_⟩)
  · rintro ⟨j, hj, h⟩
    exact ⟨(c + j) % K, Nat.mod_lt _ (by omega), h⟩
  · rintro ⟨j, hj, h⟩
    by_cases hk : c ≤ j
    · exact ⟨j - c, by omega, by rw [show c + (j - c) = j by omega, Nat.mod_eq_of_lt hj]; exact h⟩
    · exact ⟨j + K - c, by omega, by rw [show c + (j + K - c) = j + K by omega, Nat.add_mod_right, Nat.mod_eq_of_lt hj]; exact h⟩
theorem Up1.again {L : List Pa} {K t : Nat} {d : Dp} (h : Up1 L K d) (ht : t < K) : joinD d (datL L t) = d := h.above _ ⟨t, ht, rfl⟩
/-- One of the partitions by numbers in memory. -/
theorem gen_at {w : World} {b n c : Nat} {L : List Pa} {key : ByteArray} (h : PartsT w (.slice (some ⟨b, 0, none⟩) n c) L) (hgen : ∀ p ∈ L, GenPa key p) (j : Nat) (hj : j < L.length) :
    ∃ (g : Int) (a : Option Addr) (m cc : Nat) (ps : List (Ro × Value)), w.cell? ⟨b, j * 3, none⟩ = some (.string key) ∧ w.cell? ⟨b, j * 3 + 1, none⟩ = some (.int .i64 g) ∧ w.cell? ⟨b, j * 3 + 2, none⟩ = some (.slice a m cc) ∧
      RowsT w (.slice a m cc) ps ∧ m = ps.length ∧ NumD (g, ps.map (·.1)) ∧ datL L j = (g, ps.map (·.1)) := by
  obtain ⟨a', c', e, _, _, hget⟩ := h.get
  obtain ⟨b', e', hat⟩ := hget j hj
  injection e with e1 e2 e3
  rw [← e1] at e'
  cases e'
  have hr := h.rows _ (List.getElem_mem hj)
  have hg := hgen _ (List.getElem_mem hj)
  obtain ⟨aa, cc, es⟩ := hr.shape
  refine ⟨L[j].gone, aa, _, cc, L[j].ps, ?_, hat.c1, ?_, by rw [← es]; exact hr, rfl, hg.num, datL_get hj⟩
  · rw [← hg.key]; exact hat.c0
  · rw [← es]; exact hat.c2
/-- What part.Check asks of rows. -/
theorem NumRs.checks {l : List Ro} (h : NumRs l) : ∀ r ∈ l, headB r = true ∧ colsB none r.cols = true ∧ ∀ c ∈ r.cols, Low c.name := fun r hr => by
  obtain ⟨i, hi, e⟩ := h.key r hr
  refine ⟨(h.row r hr).head ?_, (h.row r hr).colsB, (h.row r hr).low⟩
  rw [e]
  obtain rfl | rfl | rfl | rfl : i = 0 ∨ i = 1 ∨ i = 2 ∨ i = 3 := by omega
  all_goals decide
theorem up_less {l : List Ro} (h : Up kRo l) (j : Nat) (hj : j + 1 < l.length) : Op.bytesLess (l[j].key.toList) (l[j + 1].key.toList) = true := by
  have := List.pairwise_iff_getElem.1 h j (j + 1) (by omega) hj (by omega)
  unfold kRo at this
  rw [cmpB_less] at this
  rw [ByteArray.toList_eq, ByteArray.toList_eq]
  by_cases hl : less l[j].key.data.toList l[j + 1].key.data.toList = true
  · exact hl
  · rw [if_neg hl] at this; split at this <;> omega
end Go.Proofs.YtkiodandnjbhoaaDoor
