/- Rows and partitions by numbers: keys and names rise; what joins make of them may be. -/
import Derived.Test.YtkiodandnjbhoaaDoorLPart
import Derived.Test.YtkiodandnjbhoaaDoorRowLat
import Derived.Test.YtkiodandnjbhoaaDoorOrdLaws
import Derived.Test.YtkiodandnjbhoaaDoorGenRow
import Derived.Test.YtkiodandnjbhoaaDoorPartJoin
namespace Go.Proofs.YtkiodandnjbhoaaDoor
open Go Go.RowKit

theorem ik_lt {i j : Nat} (h : i < j) (hj : j < 1000) : cmpB (ik i).data.toList (ik j).data.toList < 0 := by
  show cmpB (int8 i) (int8 j) < 0
  rw [cmpB_less, less_int8 _ _ (by omega) (by omega) (by omega) (by omega), if_pos (by simp; omega)]
  decide
theorem GenRows.key {k : Nat} {l : List Ro} (h : GenRows k l) : ∀ r ∈ l, ∃ i, i < k ∧ r.key = ik i := by
  induction h with
  | nil => nofun
  | skip _ ih => exact fun r hr => let ⟨i, hi, e⟩ := ih r hr; ⟨i, by omega, e⟩
  | put _ _ e ih =>
    intro r hr
    rcases List.mem_append.1 hr with hr | hr
    · obtain ⟨i, hi, e⟩ := ih r hr
      exact ⟨i, by omega, e⟩
    · rw [List.mem_singleton.1 hr]
      exact ⟨_, by omega, e⟩
theorem GenRows.row {k : Nat} {l : List Ro} (h : GenRows k l) : ∀ r ∈ l, GenRow r := by
  induction h with
  | nil => nofun
  | skip _ ih => exact ih
  | put _ hr _ ih =>
    intro r h
    rcases List.mem_append.1 h with h | h
    · exact ih r h
    · rw [List.mem_singleton.1 h]; exact hr
theorem GenRows.up {k : Nat} {l : List Ro} (h : GenRows k l) (hk : k ≤ 1000) : Up kRo l := by
  induction h with
  | nil => exact List.Pairwise.nil
  | skip _ ih => exact ih (by omega)
  | put hl _ e ih =>
    refine List.pairwise_append.2 ⟨ih (by omega), List.pairwise_singleton .., fun a ha b hb => ?_⟩
    obtain ⟨i, hi, e'⟩ := hl.key a ha
    rw [List.mem_singleton.1 hb]
    unfold kRo
    rw [e, e']
    exact ik_lt hi (by omega)
theorem nm_cmp {j k : Nat} (h : j < k) (hk : k < 4) : cmpB (nmK j).data.toList (nmK k).data.toList < 0 := by
  have h1 := nm_less j k h hk
  rw [ByteArray.toList_eq, ByteArray.toList_eq] at h1
  rw [cmpB_less, if_pos h1]
  decide
/-- A column of a row by numbers. -/
def NumCo (c : Co) : Prop := (∃ j, j < 4 ∧ c.name = nmK j) ∧ checkC c.cell.val c.cell.dead c.cell.at_ c.cell.fin = true ∧ 0 < c.cell.at_
theorem GenCols.num {k : Nat} {l : List Co} (h : GenCols k l) : k ≤ 4 → Up kCo l ∧ (∀ c ∈ l, NumCo c) ∧ ∀ c ∈ l, ∃ j, j < k ∧ c.name = nmK j := by
  induction h with
  | nil => exact fun _ => ⟨List.Pairwise.nil, nofun, nofun⟩
  | skip _ ih =>
    intro hk
    obtain ⟨h1, h2, h3⟩ := ih (by omega)
    exact ⟨h1, h2, fun c hc => let ⟨j, hj, e⟩ := h3 c hc; ⟨j, by omega, e⟩⟩
  | @put k l n _ hn ih =>
    intro hk
    obtain ⟨h1, h2, h3⟩ := ih (by omega)
    obtain ⟨c1, c2⟩ := cellN_ok n hn
    refine ⟨List.pairwise_append.2 ⟨h1, List.pairwise_singleton .., fun a ha b hb => ?_⟩, fun c hc => ?_, fun c hc => ?_⟩
    · obtain ⟨j, hj, e⟩ := h3 a ha
      rw [List.mem_singleton.1 hb]
      unfold kCo
      rw [e]
      exact nm_cmp hj (by omega)
    · rcases List.mem_append.1 hc with hc | hc
      · exact h2 c hc
      · rw [List.mem_singleton.1 hc]
        exact ⟨⟨k, by omega, rfl⟩, c1, c2⟩
    · rcases List.mem_append.1 hc with hc | hc
      · obtain ⟨j, hj, e⟩ := h3 c hc
        exact ⟨j, by omega, e⟩
      · rw [List.mem_singleton.1 hc]
        exact ⟨k, by omega, rfl⟩
/-- A row by numbers, or a join of such. -/
structure NumRow (r : Ro) : Prop where
  live : GenLive r.live
  gone : 0 ≤ r.gone ∧ r.gone ≤ 7
  shade : r.shade = 0
  up : Up kCo r.cols
  cols : ∀ c ∈ r.cols, NumCo c
theorem GenRow.num {r : Ro} (h : GenRow r) : NumRow r := ⟨h.live, h.gone, h.shade, (h.cols.num (Nat.le_refl _)).1, (h.cols.num (Nat.le_refl _)).2.1⟩
theorem num_mergeCo {l m : List Co} (hl : ∀ c ∈ l, NumCo c) (hm : ∀ c ∈ m, NumCo c) : ∀ c ∈ mergeCo l m, NumCo c := by
  intro c hc
  rcases mem_mergeCo hc with (h | h) | ⟨a, ha, b, hb, e, rfl⟩
  · exact hl c h
  · exact hm c h
  · obtain ⟨a1, a2, a3⟩ := hl a ha
    obtain ⟨b1, b2, b3⟩ := hm b hb
    rcases joinCl_or a.cell b.cell with h | h
    · exact ⟨a1, by rw [h]; exact a2, by rw [h]; exact a3⟩
    · exact ⟨a1, by rw [h]; exact b2, by rw [h]; exact b3⟩
theorem NumRow.join {a b : Ro} (ha : NumRow a) (hb : NumRow b) : NumRow (joinRo a b) := by
  refine ⟨?_, ?_, ?_, mergeCo_up ha.up hb.up, num_mergeCo ha.cols hb.cols⟩
  · rcases joinCl_or a.live b.live with h | h
    · show GenLive (joinCl a.live b.live); rw [h]; exact ha.live
    · show GenLive (joinCl a.live b.live); rw [h]; exact hb.live
  · have := ha.gone; have := hb.gone
    show 0 ≤ max a.gone b.gone ∧ max a.gone b.gone ≤ 7
    omega
  · show max a.shade b.shade = 0
    rw [ha.shade, hb.shade]; rfl
theorem NumRow.len {r : Ro} (h : NumRow r) : r.cols.length ≤ 4 :=
  h.up.len (K := [(nmK 0).data.toList, (nmK 1).data.toList, (nmK 2).data.toList, (nmK 3).data.toList]) fun c hc => by
    obtain ⟨⟨j, hj, e⟩, _⟩ := h.cols c hc
    unfold kCo
    rw [e]
    obtain rfl | rfl | rfl | rfl : j = 0 ∨ j = 1 ∨ j = 2 ∨ j = 3 := by omega
    all_goals simp
theorem colsB_up : ∀ {l : List Co} {p : Option ByteArray}, Up kCo l → (∀ c ∈ l, NumCo c) → (∀ q, p = some q → ∀ c ∈ l, cmpB q.data.toList (kCo c) < 0) → colsB p l = true
  | [], _, _, _, _ => rfl
  | c :: l, p, hu, hn, hp => by
    obtain ⟨⟨j, hj, e⟩, h2, h3⟩ := hn c (List.mem_cons_self ..)
    have ih := colsB_up (p := some c.name) hu.tail (fun d hd => hn d (List.mem_cons_of_mem _ hd)) (fun q hq d hd => by cases hq; exact hu.head d hd)
    have ho : ordB p c.name = true := by
      cases p with
      | none => rfl
      | some q =>
        have := hp q rfl c (List.mem_cons_self ..)
        unfold kCo at this
        rw [cmpB_less] at this
        show Op.bytesLess q.toList c.name.toList = true
        rw [ByteArray.toList_eq, ByteArray.toList_eq]
        by_cases h : less q.data.toList c.name.data.toList = true
        · exact h
        · rw [if_neg h] at this; split at this <;> omega
    have hl : lowB c.name = true := by rw [e]; exact (nm_low j).2
    rw [colsB, hl, ho, h2, ih]
    simpa using h3
theorem NumRow.low {r : Ro} (h : NumRow r) : ∀ c ∈ r.cols, Low c.name := fun c hc => by
  obtain ⟨⟨j, _, e⟩, _⟩ := h.cols c hc
  rw [e]
  exact (nm_low j).1
theorem NumRow.colsB {r : Ro} (h : NumRow r) : colsB none r.cols = true := colsB_up h.up h.cols nofun
theorem NumRow.head {r : Ro} (h : NumRow r) (hk : r.key.size ≤ 400) : headB r = true := by
  have h0 : GenRow ⟨r.key, r.live, r.gone, r.shade, []⟩ := ⟨h.live, h.gone, h.shade, .skip (.skip (.skip (.skip .nil)))⟩
  have h1 := (gen_row h0 hk).2.1
  have h2 := h.len
  unfold headB at h1 ⊢
  simp only [Bool.and_eq_true, Bool.not_eq_true', decide_eq_false_iff_not] at h1 ⊢
  exact ⟨h1.1, by omega⟩
theorem NumRow.rowB {r : Ro} (h : NumRow r) (hk : r.key.size ≤ 400) : rowB r = true := by
  unfold Go.Proofs.YtkiodandnjbhoaaDoor.rowB
  rw [h.head hk, h.colsB]
  rfl
/-- A partition's rows by numbers, or of joins of such. -/
structure NumRs (l : List Ro) : Prop where
  up : Up kRo l
  row : ∀ r ∈ l, NumRow r
  key : ∀ r ∈ l, ∃ i, i < 4 ∧ r.key = ik i
theorem GenRows.num {l : List Ro} (h : GenRows 4 l) : NumRs l := ⟨h.up (by decide), fun r hr => (h.row r hr).num, h.key⟩
theorem NumRs.good {l : List Ro} (h : NumRs l) : GoodRs l := ⟨h.up, fun r hr => (h.row r hr).up⟩
theorem NumRs.merge {l m : List Ro} (hl : NumRs l) (hm : NumRs m) : NumRs (mergeRo l m) := by
  refine ⟨hl.up.merge kRo_join hm.up, fun r hr => ?_, fun r hr => ?_⟩
  · rcases mem_mergeRs hr with (h | h) | ⟨a, ha, b, hb, _, rfl⟩
    · exact hl.row r h
    · exact hm.row r h
    · exact (hl.row a ha).join (hm.row b hb)
  · rcases mem_mergeRs hr with (h | h) | ⟨a, ha, b, hb, _, rfl⟩
    · exact hl.key r h
    · exact hm.key r h
    · exact hl.key a ha
theorem NumRs.len {l : List Ro} (h : NumRs l) : l.length ≤ 4 :=
  h.up.len (K := [(ik 0).data.toList, (ik 1).data.toList, (ik 2).data.toList, (ik 3).data.toList]) fun c hc => by
    obtain ⟨j, hj, e⟩ := h.key c hc
    unfold kRo
    rw [e]
    obtain rfl | rfl | rfl | rfl : j = 0 ∨ j = 1 ∨ j = 2 ∨ j = 3 := by omega
    all_goals simp
theorem NumRs.few {l : List Ro} (h : NumRs l) : FewCols l := fun r hr => by have := (h.row r hr).len; omega
theorem NumRs.nil : NumRs [] := ⟨List.Pairwise.nil, nofun, nofun⟩
end Go.Proofs.YtkiodandnjbhoaaDoor
