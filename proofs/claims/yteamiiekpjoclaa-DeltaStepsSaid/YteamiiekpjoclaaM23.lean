/- Rows by numbers: names rise; what joins make of them is such a row. -/
import Derived.Test.YteamiiekpjoclaaM22
import Derived.Test.YteamiiekpjoclaaM4
import Derived.Test.YteamiiekpjoclaaM3
import Derived.Test.YteamiiekpjoclaaM21
import Derived.Test.YteamiiekpjoclaaM19
namespace Go.Proofs.Yteamiiekpjoclaa
open Go Go.RowKit

theorem nm_cmp {j k : Nat} (h : j < k) (hk : k < 4) : cmpB (nmK j).data.toList (nmK k).data.toList < 0 := by
  have h1 := nm_less j k h hk
  rw [ByteArray.toList_eq, ByteArray.toList_eq] at h1
  rw [cmpB_less, if_pos h1]
  decide
/-- A column of a row by numbers. -/
def NumCo (c : Co) : Prop := (∃ j, j < 4 ∧ c.name = nmK j) ∧ checkC c.cell.val c.cell.dead c.cell.at_ c.cell.fin = true ∧ 0 < c.cell.at_
theorem GenCols.num {k : Nat} {l : List Co} (h : GenCols k l) : k ≤ 4 → Up kCo l ∧ (∀ c ∈ l, NumCo c) ∧ ∀ c ∈ l, ∃ j, j < k ∧ c.name = nmK j := by
  induction h with
  | nil => exact fun _ => ⟨List.Pairwise.nil, nofun, nofun⟩
  | skip _ ih =>
    intro hk
    obtain ⟨h1, h2, h3⟩ := ih (by omega)
    exact ⟨h1, h2, fun c hc => let ⟨j, hj, e⟩ := h3 c hc; ⟨j, by omega, e⟩⟩
  | @put k l n _ hn ih =>
    intro hk
    obtain ⟨h1, h2, h3⟩ := ih (by omega)
    obtain ⟨c1, c2⟩ := cellN_ok n hn
    refine ⟨List.pairwise_append.2 ⟨h1, List.pairwise_singleton .., fun a ha b hb => ?_⟩, fun c hc => ?_, fun c hc => ?_⟩
    · obtain ⟨j, hj, e⟩ := h3 a ha
      rw [List.mem_singleton.1 hb]
      unfold kCo
      rw [e]
      exact nm_cmp hj (by omega)
    · rcases List.mem_append.1 hc with hc | hc
      · exact h2 c hc
      · rw [List.mem_singleton.1 hc]
        exact ⟨⟨k, by omega, rfl⟩, c1, c2⟩
    · rcases List.mem_append.1 hc with hc | hc
      · obtain ⟨j, hj, e⟩ := h3 c hc
        exact ⟨j, by omega, e⟩
      · rw [List.mem_singleton.1 hc]
        exact ⟨k, by omega, rfl⟩
/-- A row by numbers, or a join of such. -/
structure NumRow (r : Ro) : Prop where
  live : GenLive r.live
  gone : 0 ≤ r.gone ∧ r.gone ≤ 7
  shade : r.shade = 0
  up : Up kCo r.cols
  cols : ∀ c ∈ r.cols, NumCo c
theorem GenRow.num {r : Ro} (h : GenRow r) : NumRow r := ⟨h.live, h.gone, h.shade, (h.cols.num (Nat.le_refl _)).1, (h.cols.num (Nat.le_refl _)).2.1⟩
theorem num_mergeCo {l m : List Co} (hl : ∀ c ∈ l, NumCo c) (hm : ∀ c ∈ m, NumCo c) : ∀ c ∈ mergeCo l m, NumCo c := by
  intro c hc
  rcases mem_mergeCo hc with (h | h) | ⟨a, ha, b, hb, e, rfl⟩
  · exact hl c h
  · exact hm c h
  · obtain ⟨a1, a2, a3⟩ := hl a ha
    obtain ⟨b1, b2, b3⟩ := hm b hb
    rcases joinCl_or a.cell b.cell with h | h
    · exact ⟨a1, by rw [h]; exact a2, by rw [h]; exact a3⟩
    · exact ⟨a1, by rw [h]; exact b2, by rw [h]; exact b3⟩
theorem NumRow.join {a b : Ro} (ha : NumRow a) (hb : NumRow b) : NumRow (joinRo a b) := by
  refine ⟨?_, ?_, ?_, mergeCo_up ha.up hb.up, num_mergeCo ha.cols hb.cols⟩
  · rcases joinCl_or a.live b.live with h | h
    · show GenLive (joinCl a.live b.live); rw [h]; exact ha.live
    · show GenLive (joinCl a.live b.live); rw [h]; exact hb.live
  · have := ha.gone; have := hb.gone
    show 0 ≤ max a.gone b.gone ∧ max a.gone b.gone ≤ 7
    omega
  · show max a.shade b.shade = 0
    rw [ha.shade, hb.shade]; rfl
theorem NumRow.len {r : Ro} (h : NumRow r) : r.cols.length ≤ 4 :=
  h.up.len (K := [(nmK 0).data.toList, (nmK 1).data.toList, (nmK 2).data.toList, (nmK 3).data.toList]) fun c hc => by
    obtain ⟨⟨j, hj, e⟩, _⟩ := h.cols c hc
    unfold kCo
    rw [e]
    obtain rfl | rfl | rfl | rfl : j = 0 ∨ j = 1 ∨ j = 2 ∨ j = 3 := by omega
    all_goals simp
end Go.Proofs.Yteamiiekpjoclaa

/- Plain laws of a row's cells under joins. -/
namespace Go.Proofs.Yteamiiekpjoclaa
open Go Go.RowKit

theorem cellOf_get (l : List Co) (n : ByteArray) : cellOf l n = ((getK kCo l n.data.toList).map (·.cell)).getD zeroCl := by
  induction l with
  | nil => rfl
  | cons c l ih =>
    unfold cellOf getK
    by_cases h : kCo c = n.data.toList
    · rw [if_pos h, if_pos (by unfold kCo at h; rw [ByteArray.toList_eq, ByteArray.toList_eq]; simpa using h)]
      rfl
    · rw [if_neg h, if_neg (by unfold kCo at h; rw [ByteArray.toList_eq, ByteArray.toList_eq]; simpa using h)]
      exact ih
theorem le_at {x y : Cl} (h : cmpCl x y ≤ 0) : x.at_ ≤ y.at_ := by
  unfold cmpCl cmpC at h
  rw [or4_le] at h
  unfold cmpI at h
  split at h
  · omega
  · split at h
    · omega
    · omega
theorem joinCl_at (x y : Cl) : x.at_ ≤ (joinCl x y).at_ ∧ y.at_ ≤ (joinCl x y).at_ :=
  ⟨le_at (ge_le (le_joinCl_left x y)), le_at (ge_le (le_joinCl_right x y))⟩
/-- What a join's cell of a name is: one of the two's, and older than neither. -/
theorem cell_joined {a b : List Co} (ha : Up kCo a) (hb : Up kCo b) (pa : ∀ c ∈ a, 0 ≤ c.cell.at_) (pb : ∀ c ∈ b, 0 ≤ c.cell.at_) (n : ByteArray) :
    (cellOf a n).at_ ≤ (cellOf (mergeCo a b) n).at_ ∧ (cellOf b n).at_ ≤ (cellOf (mergeCo a b) n).at_ ∧ (cellOf (mergeCo a b) n = cellOf a n ∨ cellOf (mergeCo a b) n = cellOf b n) := by
  rw [cellOf_get a, cellOf_get b, cellOf_get (mergeCo a b), mergeCo_K, getK_merge kCo_join ha hb]
  cases h1 : getK kCo a n.data.toList with
  | none =>
    cases h2 : getK kCo b n.data.toList with
    | none => exact ⟨Int.le_refl _, Int.le_refl _, .inl rfl⟩
    | some y => exact ⟨pb y (getK_mem h2).1, Int.le_refl _, .inr rfl⟩
  | some x =>
    cases h2 : getK kCo b n.data.toList with
    | none => exact ⟨Int.le_refl _, pa x (getK_mem h1).1, .inl rfl⟩
    | some y => exact ⟨(joinCl_at _ _).1, (joinCl_at _ _).2, joinCl_or _ _⟩
theorem best_law (c : Cl) (g : Int) (hg : 0 ≤ g) : bestB c g = decide (0 < (bestC c g).at_) ∧ (bestB c g = true → g < (bestC c g).at_ ∧ (bestC c g).dead = false) := by
  unfold bestC
  cases h : bestB c g with
  | false => exact ⟨by rfl, nofun⟩
  | true =>
    rw [if_pos rfl]
    unfold bestB at h
    simp only [Bool.not_eq_true', Bool.or_eq_false_iff, decide_eq_false_iff_not] at h
    obtain ⟨⟨h1, h2⟩, h3⟩ := h
    refine ⟨?_, fun _ => ⟨by omega, h1⟩⟩
    rw [eq_comm, decide_eq_true_iff]
    omega
theorem is_law (r : Ro) (g t : Int) : (isB r g t false || !isB r g t true) = true ∧ (isB r g t false = true ∨ (seenCos r.cols g t).length = 0) := by
  unfold isB
  constructor
  · cases liveB r g t <;> simp
  · by_cases h : (seenCos r.cols g t).length = 0
    · exact .inr h
    · left
      rw [show decide (0 < (seenCos r.cols g t).length) = true by simp; omega]
      simp
end Go.Proofs.Yteamiiekpjoclaa

/- Columns under one another: plain laws of rising columns, of which some are left out. -/
namespace Go.Proofs.Yteamiiekpjoclaa
open Go Go.RowKit

/-- Columns of names that are let through. -/
def flt (f : List UInt8 → Bool) (l : List Co) : List Co := l.filter fun c => f (kCo c)
def fK (ns : List ByteArray) (k : List UInt8) : Bool := ns.any fun s => k == s.data.toList
theorem keeps_flt (ns : List ByteArray) (l : List Co) : l.filter (keeps ns) = flt (fK ns) l := by
  unfold flt
  congr 1
  funext c
  unfold keeps strikes hasS fK kCo
  rw [Bool.not_not]
  congr 1
  funext s
  rw [ByteArray.toList_eq, ByteArray.toList_eq]
theorem flt_up {f : List UInt8 → Bool} {l : List Co} (h : Up kCo l) : Up kCo (flt f l) := List.Pairwise.filter _ h
theorem flt_mem {f : List UInt8 → Bool} {l : List Co} {c : Co} (h : c ∈ flt f l) : c ∈ l := (List.mem_filter.1 h).1
theorem flt_flt (f g : List UInt8 → Bool) (l : List Co) : flt f (flt g l) = flt (fun k => f k && g k) l := by
  unfold flt
  rw [List.filter_filter]
theorem getK_flt (f : List UInt8 → Bool) (l : List Co) (k : List UInt8) : getK kCo (flt f l) k = if f k then getK kCo l k else none := by
  induction l with
  | nil => cases f k <;> rfl
  | cons a l ih =>
    unfold flt at ih ⊢
    by_cases ha : f (kCo a) = true
    · rw [List.filter_cons_of_pos (by simpa using ha)]
      unfold getK
      by_cases hk : kCo a = k
      · rw [if_pos hk, if_pos hk, ← hk, if_pos ha]
      · rw [if_neg hk, if_neg hk]; exact ih
    · rw [List.filter_cons_of_neg (by simpa using ha), ih]
      conv => rhs; unfold getK
      by_cases hk : kCo a = k
      · rw [if_pos hk, ← hk, if_neg ha, if_neg ha]
      · rw [if_neg hk]
/-- Columns that are under others. -/
def LeC (l m : List Co) : Prop := mergeCo m l = m
theorem leC_get {l m : List Co} (hl : Up kCo l) (hm : Up kCo m) : LeC l m ↔ ∀ k, optJ joinCo (getK kCo m k) (getK kCo l k) = getK kCo m k := by
  constructor
  · intro h k
    have := getK_merge kCo_join hm hl k
    rw [← mergeCo_K, show mergeCo m l = m from h] at this
    exact this.symm
  · intro h
    refine Up.ext (mergeCo_up hm hl) hm fun k => ?_
    rw [mergeCo_K, getK_merge kCo_join hm hl]
    exact h k
theorem leC_refl {l : List Co} (hl : Up kCo l) : LeC l l := mergeCo_self hl
theorem leC_nil (m : List Co) : LeC [] m := by unfold LeC mergeCo; exact mergeG_nil_right _ _ _
theorem leC_trans {l m n : List Co} (hl : Up kCo l) (hm : Up kCo m) (hn : Up kCo n) (h1 : LeC l m) (h2 : LeC m n) : LeC l n := by
  unfold LeC at *
  rw [← h2, mergeCo_assoc hn hm hl, h1]
theorem leC_anti {l m : List Co} (hl : Up kCo l) (hm : Up kCo m) (h1 : LeC l m) (h2 : LeC m l) : l = m := by
  unfold LeC at *
  rw [← h1, mergeCo_comm hm hl, h2]
theorem leC_merge {l m n : List Co} (hl : Up kCo l) (hm : Up kCo m) (hn : Up kCo n) (h1 : LeC l n) (h2 : LeC m n) : LeC (mergeCo l m) n := by
  unfold LeC at *
  rw [← mergeCo_assoc hn hl hm, h1, h2]
theorem leC_left {l m : List Co} (hl : Up kCo l) (hm : Up kCo m) : LeC l (mergeCo l m) := by
  unfold LeC
  rw [mergeCo_comm hl hm, mergeCo_assoc hm hl hl, mergeCo_self hl]
theorem leC_right {l m : List Co} (hl : Up kCo l) (hm : Up kCo m) : LeC m (mergeCo l m) := by
  unfold LeC
  rw [mergeCo_assoc hl hm hm, mergeCo_self hm]
theorem leC_flt {f g : List UInt8 → Bool} {l m : List Co} (hl : Up kCo l) (hm : Up kCo m) (hfg : ∀ k, f k = true → g k = true) (h : LeC l m) : LeC (flt f l) (flt g m) := by
  rw [leC_get (flt_up hl) (flt_up hm)]
  rw [leC_get hl hm] at h
  intro k
  rw [getK_flt, getK_flt]
  by_cases hf : f k = true
  · rw [if_pos hf, if_pos (hfg k hf)]; exact h k
  · rw [if_neg hf]
    cases (if g k = true then getK kCo m k else none) <;> rfl
theorem flt_merge (f : List UInt8 → Bool) {l m : List Co} (hl : Up kCo l) (hm : Up kCo m) : flt f (mergeCo l m) = mergeCo (flt f l) (flt f m) := by
  refine Up.ext (flt_up (mergeCo_up hl hm)) (mergeCo_up (flt_up hl) (flt_up hm)) fun k => ?_
  rw [getK_flt, mergeCo_K, mergeCo_K, getK_merge kCo_join hl hm, getK_merge kCo_join (flt_up hl) (flt_up hm), getK_flt, getK_flt]
  cases f k <;> rfl
theorem zLe {c : Cl} (h : 0 < c.at_) : cmpCl zeroCl c ≤ 0 := by
  unfold cmpCl cmpC
  rw [or4_le]
  left
  unfold cmpI zeroCl
  rw [if_pos h]
  omega
theorem le_cell {l m : List Co} (hl : Up kCo l) (hm : Up kCo m) (pm : ∀ c ∈ m, 0 < c.cell.at_) (h : LeC l m) (n : ByteArray) : cmpCl (cellOf l n) (cellOf m n) ≤ 0 := by
  rw [leC_get hl hm] at h
  have h := h n.data.toList
  rw [cellOf_get, cellOf_get]
  cases h1 : getK kCo l n.data.toList with
  | none =>
    cases h2 : getK kCo m n.data.toList with
    | none => simp only [Option.map_none, Option.getD_none]; rw [cmpCl_self]; exact Int.le_refl _
    | some y => exact zLe (pm y (getK_mem h2).1)
  | some x =>
    cases h2 : getK kCo m n.data.toList with
    | none => rw [h1, h2] at h; cases h
    | some y =>
      rw [h1, h2] at h
      have e : joinCo y x = y := Option.some.inj h
      have e' : joinCl y.cell x.cell = y.cell := congrArg Co.cell e
      show cmpCl x.cell y.cell ≤ 0
      have := le_joinCl_right y.cell x.cell
      rw [e'] at this
      exact ge_le this
/-- Between two cells that are alive, of one stamp and value, there is nothing else. -/
theorem between {c d e : Cl} (h1 : cmpCl c d ≤ 0) (h2 : cmpCl d e ≤ 0) (ha : e.at_ ≤ c.at_) (hc : c.dead = false) (he : e.dead = false) (hv : c.val = e.val) : d.at_ = c.at_ ∧ e.at_ = c.at_ ∧ d.dead = false ∧ d.val = c.val := by
  have a1 := le_at h1
  have a2 := le_at h2
  have e1 : d.at_ = c.at_ := by omega
  have e2 : e.at_ = d.at_ := by omega
  unfold cmpCl cmpC at h1 h2
  rw [e1, cmpI_self] at h1
  rw [e2, cmpI_self] at h2
  rw [or4_le] at h1 h2
  have h1 := (h1.resolve_left (by omega)).2
  have h2 := (h2.resolve_left (by omega)).2
  rw [hc] at h1
  rw [he] at h2
  have hd : d.dead = false := by
    cases hd : d.dead with
    | false => rfl
    | true =>
      rw [hd] at h2
      have : cmpI (bit true) (bit false) = 1 := by decide
      rw [this] at h2
      omega
  refine ⟨e1, by omega, hd, ?_⟩
  rw [hd, cmpI_self] at h1 h2
  have h1 := (h1.resolve_left (by omega)).2
  have h2 := (h2.resolve_left (by omega)).2
  rw [← hv] at h2
  have k1 : cmpB c.val.data.toList d.val.data.toList ≤ 0 := by omega
  have k2 : cmpB d.val.data.toList c.val.data.toList ≤ 0 := by omega
  have k3 := cmpB_anti c.val.data.toList d.val.data.toList
  apply ByteArray.ext
  exact (Array.toList_inj.1 (cmpB_zero (show cmpB c.val.data.toList d.val.data.toList = 0 by omega))).symm
/-- Without their value, cells of one value stay in their order. -/
theorem le_noval {a a' e e' : Int} {v : ByteArray} (h : cmpCl ⟨v, false, a, e⟩ ⟨v, false, a', e'⟩ ≤ 0) : cmpCl ⟨⟨#[]⟩, false, a, e⟩ ⟨⟨#[]⟩, false, a', e'⟩ ≤ 0 := by
  unfold cmpCl cmpC at *
  simp only at *
  rw [cmpB_self] at *
  exact h
theorem join_of_le {x y : Cl} (h : cmpCl x y ≤ 0) : joinCl y x = y := by
  unfold joinCl
  by_cases hlt : cmpCl y x < 0
  · rw [if_pos hlt]
    have := cmpCl_anti x y
    exact le_antisymm h (by omega)
  · rw [if_neg hlt]
theorem le_of_join {x y : Cl} (h : joinCl y x = y) : cmpCl x y ≤ 0 := by
  have := le_joinCl_right y x
  rw [h] at this
  exact ge_le this

/-! ### Rows by their key -/
theorem rowOf_get (l : List Ro) (k : ByteArray) : rowOf l k = (getK kRo l k.data.toList).getD ⟨k, zeroCl, 0, 0, []⟩ := by
  induction l with
  | nil => rfl
  | cons r l ih =>
    unfold rowOf getK
    by_cases h : kRo r = k.data.toList
    · rw [if_pos h, if_pos (by unfold kRo at h; rw [ByteArray.toList_eq, ByteArray.toList_eq]; simpa using h)]
      rfl
    · rw [if_neg h, if_neg (by unfold kRo at h; rw [ByteArray.toList_eq, ByteArray.toList_eq]; simpa using h)]
      exact ih
theorem rowOf_in {l : List Ro} {r : Ro} (h : Up kRo l) (hr : r ∈ l) : rowOf l r.key = r := by
  rw [rowOf_get, show r.key.data.toList = kRo r from rfl, getK_of_mem h hr]
  rfl
theorem vkey_lst (a b : ByteArray) : (vkey a b).data.toList = txt a.data.toList ++ b.data.toList := by
  unfold vkey
  rw [ByteArray.data_append]
  simp [str]
theorem vkey_same {pk a b : ByteArray} (h : vkey pk a = vkey pk b) : a = b := by
  have : (vkey pk a).data.toList = (vkey pk b).data.toList := by rw [h]
  rw [vkey_lst, vkey_lst] at this
  apply ByteArray.ext
  exact Array.toList_inj.1 (List.append_cancel_left this)
end Go.Proofs.Yteamiiekpjoclaa
