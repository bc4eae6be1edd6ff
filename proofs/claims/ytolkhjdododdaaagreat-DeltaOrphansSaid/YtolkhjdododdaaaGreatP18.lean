/- Joins of rows and of partitions are one way: plain laws of rising rows; the least that is above some. -/
import Derived.Test.YtolkhjdododdaaaGreatP17
import Derived.Test.YtolkhjdododdaaaGreatP15
import Derived.Test.YtolkhjdododdaaaGreatP11
import Derived.Test.YtolkhjdododdaaaGreatP7
set_option linter.unusedSimpArgs false
set_option linter.unusedVariables false
namespace Go.Proofs.YtolkhjdododdaaaGreat
open Go Go.RowKit

def kRo (r : Ro) : List UInt8 := r.key.data.toList
theorem kRo_join (a b : Ro) : kRo (joinRo a b) = kRo a := rfl
theorem mergeRo_K (l m : List Ro) : mergeRo l m = mergeK kRo joinRo l m := rfl
theorem key_of_k {a b : Ro} (h : kRo a = kRo b) : a.key = b.key := by
  apply ByteArray.ext
  exact Array.toList_inj.1 h
theorem joinRo_comm {a b : Ro} (h : a.key = b.key) (ha : Up kCo a.cols) (hb : Up kCo b.cols) : joinRo a b = joinRo b a := by
  unfold joinRo
  rw [h, joinCl_comm a.live, mergeCo_comm ha hb, Int.max_comm a.gone, Int.max_comm a.shade]
theorem joinRo_assoc {a b c : Ro} (ha : Up kCo a.cols) (hb : Up kCo b.cols) (hc : Up kCo c.cols) : joinRo (joinRo a b) c = joinRo a (joinRo b c) := by
  unfold joinRo
  simp only [joinCl_assoc, mergeCo_assoc ha hb hc, Int.max_assoc]
theorem joinRo_self {a : Ro} (ha : Up kCo a.cols) : joinRo a a = a := by
  unfold joinRo
  rw [joinCl_self, mergeCo_self ha, Int.max_self, Int.max_self]
theorem joinRo_again {a b : Ro} (ha : Up kCo a.cols) (hb : Up kCo b.cols) : joinRo (joinRo a b) b = joinRo a b := by rw [joinRo_assoc ha hb hb, joinRo_self hb]
/-- Rising rows of rising columns. -/
def GoodRs (l : List Ro) : Prop := Up kRo l ∧ ∀ r ∈ l, Up kCo r.cols
theorem mem_mergeRs {l m : List Ro} {x : Ro} (h : x ∈ mergeRo l m) : (x ∈ l ∨ x ∈ m) ∨ ∃ a ∈ l, ∃ b ∈ m, a.key = b.key ∧ x = joinRo a b := by
  unfold mergeRo at h
  fun_induction mergeG keyR joinRo l m with
  | case1 m => exact .inl (.inr h)
  | case2 a l => exact .inl (.inl h)
  | case3 a l b m hc ih =>
    rcases List.mem_cons.1 h with rfl | h
    · exact .inl (.inl (List.mem_cons_self ..))
    · rcases ih h with (h | h) | ⟨y, hy, z, hz, e⟩
      · exact .inl (.inl (List.mem_cons_of_mem _ h))
      · exact .inl (.inr h)
      · exact .inr ⟨y, List.mem_cons_of_mem _ hy, z, hz, e⟩
  | case4 a l b m hc hc' ih =>
    rcases List.mem_cons.1 h with rfl | h
    · exact .inl (.inr (List.mem_cons_self ..))
    · rcases ih h with (h | h) | ⟨y, hy, z, hz, e⟩
      · exact .inl (.inl h)
      · exact .inl (.inr (List.mem_cons_of_mem _ h))
      · exact .inr ⟨y, hy, z, List.mem_cons_of_mem _ hz, e⟩
  | case5 a l b m hc hc' ih =>
    rcases List.mem_cons.1 h with rfl | h
    · exact .inr ⟨a, List.mem_cons_self .., b, List.mem_cons_self .., key_of_k (cmpB_zero (show cmpB (kRo a) (kRo b) = 0 by have h1 : keyR a b = cmpB (kRo a) (kRo b) := rfl; omega)), rfl⟩
    · rcases ih h with (h | h) | ⟨y, hy, z, hz, e⟩
      · exact .inl (.inl (List.mem_cons_of_mem _ h))
      · exact .inl (.inr (List.mem_cons_of_mem _ h))
      · exact .inr ⟨y, List.mem_cons_of_mem _ hy, z, List.mem_cons_of_mem _ hz, e⟩
theorem GoodRs.merge {l m : List Ro} (hl : GoodRs l) (hm : GoodRs m) : GoodRs (mergeRo l m) := by
  refine ⟨hl.1.merge kRo_join hm.1, fun r hr => ?_⟩
  rcases mem_mergeRs hr with (h | h) | ⟨a, ha, b, hb, _, rfl⟩
  · exact hl.2 r h
  · exact hm.2 r h
  · exact mergeCo_up (hl.2 a ha) (hm.2 b hb)
theorem GoodRs.nil : GoodRs [] := ⟨List.Pairwise.nil, nofun⟩
theorem mergeRo_comm {l m : List Ro} (hl : GoodRs l) (hm : GoodRs m) : mergeRo l m = mergeRo m l := mergeK_comm kRo_join hl.1 hm.1 fun a ha b hb h => joinRo_comm (key_of_k h) (hl.2 a ha) (hm.2 b hb)
theorem mergeRo_assoc {l m n : List Ro} (hl : GoodRs l) (hm : GoodRs m) (hn : GoodRs n) : mergeRo (mergeRo l m) n = mergeRo l (mergeRo m n) := mergeK_assoc kRo_join hl.1 hm.1 hn.1 fun a ha b hb c hc _ _ => joinRo_assoc (hl.2 a ha) (hm.2 b hb) (hn.2 c hc)
theorem mergeRo_self {l : List Ro} (hl : GoodRs l) : mergeRo l l = l := mergeK_self kRo_join hl.1 fun a ha => joinRo_self (hl.2 a ha)

/-! ### Partitions: what is gone, and the rows -/
abbrev Dp := Int × List Ro
def joinD (p q : Dp) : Dp := (max p.1 q.1, mergeRo p.2 q.2)
def GoodD (p : Dp) : Prop := GoodRs p.2
theorem GoodD.join {p q : Dp} (hp : GoodD p) (hq : GoodD q) : GoodD (joinD p q) := GoodRs.merge hp hq
theorem joinD_comm {p q : Dp} (hp : GoodD p) (hq : GoodD q) : joinD p q = joinD q p := by unfold joinD; rw [mergeRo_comm hp hq, Int.max_comm]
theorem joinD_assoc {p q r : Dp} (hp : GoodD p) (hq : GoodD q) (hr : GoodD r) : joinD (joinD p q) r = joinD p (joinD q r) := by unfold joinD; simp only [mergeRo_assoc hp hq hr, Int.max_assoc]
theorem joinD_self {p : Dp} (hp : GoodD p) : joinD p p = p := by unfold joinD; rw [mergeRo_self hp, Int.max_self]
/-- x is the least above some. -/
structure Lub (S : Dp → Prop) (x : Dp) : Prop where
  good : GoodD x
  each : ∀ s, S s → GoodD s
  above : ∀ s, S s → joinD x s = x
  least : ∀ y, GoodD y → (∀ s, S s → joinD y s = y) → joinD y x = y
theorem Lub.one {s : Dp} (h : GoodD s) : Lub (· = s) s := ⟨h, fun t e => by rw [e]; exact h, fun t e => by rw [e]; exact joinD_self h, fun y _ hs => hs s rfl⟩
theorem Lub.join {S : Dp → Prop} {x s : Dp} (h : Lub S x) (hs : GoodD s) : Lub (fun t => S t ∨ t = s) (joinD x s) := by
  refine ⟨h.good.join hs, fun t ht => ?_, fun t ht => ?_, fun y hy ht => ?_⟩
  · rcases ht with ht | rfl
    · exact h.each t ht
    · exact hs
  · rcases ht with ht | rfl
    · rw [joinD_assoc h.good hs (h.each t ht), joinD_comm hs (h.each t ht), ← joinD_assoc h.good (h.each t ht) hs, h.above t ht]
    · rw [joinD_assoc h.good hs hs, joinD_self hs]
  · rw [← joinD_assoc hy h.good hs, h.least y hy (fun t h => ht t (.inl h)), ht s (.inr rfl)]
theorem Lub.congr {S T : Dp → Prop} {x : Dp} (h : Lub S x) (e : ∀ s, S s ↔ T s) : Lub T x := by
  have : S = T := funext fun s => propext (e s)
  exact this ▸ h
theorem Lub.unique {S : Dp → Prop} {x y : Dp} (hx : Lub S x) (hy : Lub S y) : x = y := by
  have h1 := hx.least y hy.good hy.above
  have h2 := hy.least x hx.good hx.above
  rw [← h2, joinD_comm hx.good hy.good, h1]
end Go.Proofs.YtolkhjdododdaaaGreat

/- Rows by numbers: names rise; what joins make of them is such a row. -/
namespace Go.Proofs.YtolkhjdododdaaaGreat
open Go Go.RowKit

theorem nm_cmp {j k : Nat} (h : j < k) (hk : k < 4) : cmpB (nmK j).data.toList (nmK k).data.toList < 0 := by
  have h1 := nm_less j k h hk
  rw [ByteArray.toList_eq, ByteArray.toList_eq] at h1
  rw [cmpB_less, if_pos h1]
  decide
/-- A column of a row by numbers. -/
def NumCo (c : Co) : Prop := (∃ j, j < 4 ∧ c.name = nmK j) ∧ checkC c.cell.val c.cell.dead c.cell.at_ c.cell.fin = true ∧ 0 < c.cell.at_
theorem GenCols.num {k : Nat} {l : List Co} (h : GenCols k l) : k ≤ 4 → Up kCo l ∧ (∀ c ∈ l, NumCo c) ∧ ∀ c ∈ l, ∃ j, j < k ∧ c.name = nmK j := by
  induction h with
  | nil => exact fun _ => ⟨List.Pairwise.nil, nofun, nofun⟩
  | skip _ ih =>
    intro hk
    obtain ⟨h1, h2, h3⟩ := ih (by omega)
    exact ⟨h1, h2, fun c hc => let ⟨j, hj, e⟩ := h3 c hc; ⟨j, by omega, e⟩⟩
  | @put k l n _ hn ih =>
    intro hk
    obtain ⟨h1, h2, h3⟩ := ih (by omega)
    obtain ⟨c1, c2⟩ := cellN_ok n hn
    refine ⟨List.pairwise_append.2 ⟨h1, List.pairwise_singleton .., fun a ha b hb => ?_⟩, fun c hc => ?_, fun c hc => ?_⟩
    · obtain ⟨j, hj, e⟩ := h3 a ha
      rw [List.mem_singleton.1 hb]
      unfold kCo
      rw [e]
      exact nm_cmp hj (by omega)
    · rcases List.mem_append.1 hc with hc | hc
      · exact h2 c hc
      · rw [List.mem_singleton.1 hc]
        exact ⟨⟨k, by omega, rfl⟩, c1, c2⟩
    · rcases List.mem_append.1 hc with hc | hc
      · obtain ⟨j, hj, e⟩ := h3 c hc
        exact ⟨j, by omega, e⟩
      · rw [List.mem_singleton.1 hc]
        exact ⟨k, by omega, rfl⟩
/-- A row by numbers, or a join of such. -/
structure NumRow (r : Ro) : Prop where
  live : GenLive r.live
  gone : 0 ≤ r.gone ∧ r.gone ≤ 7
  shade : r.shade = 0
  up : Up kCo r.cols
  cols : ∀ c ∈ r.cols, NumCo c
theorem GenRow.num {r : Ro} (h : GenRow r) : NumRow r := ⟨h.live, h.gone, h.shade, (h.cols.num (Nat.le_refl _)).1, (h.cols.num (Nat.le_refl _)).2.1⟩
theorem num_mergeCo {l m : List Co} (hl : ∀ c ∈ l, NumCo c) (hm : ∀ c ∈ m, NumCo c) : ∀ c ∈ mergeCo l m, NumCo c := by
  intro c hc
  rcases mem_mergeCo hc with (h | h) | ⟨a, ha, b, hb, e, rfl⟩
  · exact hl c h
  · exact hm c h
  · obtain ⟨a1, a2, a3⟩ := hl a ha
    obtain ⟨b1, b2, b3⟩ := hm b hb
    rcases joinCl_or a.cell b.cell with h | h
    · exact ⟨a1, by rw [h]; exact a2, by rw [h]; exact a3⟩
    · exact ⟨a1, by rw [h]; exact b2, by rw [h]; exact b3⟩
theorem NumRow.join {a b : Ro} (ha : NumRow a) (hb : NumRow b) : NumRow (joinRo a b) := by
  refine ⟨?_, ?_, ?_, mergeCo_up ha.up hb.up, num_mergeCo ha.cols hb.cols⟩
  · rcases joinCl_or a.live b.live with h | h
    · show GenLive (joinCl a.live b.live); rw [h]; exact ha.live
    · show GenLive (joinCl a.live b.live); rw [h]; exact hb.live
  · have := ha.gone; have := hb.gone
    show 0 ≤ max a.gone b.gone ∧ max a.gone b.gone ≤ 7
    omega
  · show max a.shade b.shade = 0
    rw [ha.shade, hb.shade]; rfl
theorem NumRow.len {r : Ro} (h : NumRow r) : r.cols.length ≤ 4 :=
  h.up.len (K := [(nmK 0).data.toList, (nmK 1).data.toList, (nmK 2).data.toList, (nmK 3).data.toList]) fun c hc => by
    obtain ⟨⟨j, hj, e⟩, _⟩ := h.cols c hc
    unfold kCo
    rw [e]
    obtain rfl | rfl | rfl | rfl : j = 0 ∨ j = 1 ∨ j = 2 ∨ j = 3 := by omega
    all_goals simp
end Go.Proofs.YtolkhjdododdaaaGreat

/- row.Is. (what a smaller cut has) -/
namespace Go.Proofs.YtolkhjdododdaaaGreat
open Go Go.RowKit
attribute [local go_sem] yields yUpon

/-- Is what makes a row be counted? -/
def liveB (r : Ro) (G now : Int) : Bool := seenB r.live.dead r.live.at_ r.live.fin now && decide (G < r.live.at_) && decide (r.shade < r.live.at_)
def isB (r : Ro) (G now : Int) (strict : Bool) : Bool := liveB r G now || (!strict && decide (0 < (seenCos r.cols G now).length))
end Go.Proofs.YtolkhjdododdaaaGreat

/- Plain laws of a row's cells under joins. -/
namespace Go.Proofs.YtolkhjdododdaaaGreat
open Go Go.RowKit

theorem cellOf_get (l : List Co) (n : ByteArray) : cellOf l n = ((getK kCo l n.data.toList).map (·.cell)).getD zeroCl := by
  induction l with
  | nil => rfl
  | cons c l ih =>
    unfold cellOf getK
    by_cases h : kCo c = n.data.toList
    · rw [if_pos h, if_pos (by unfold kCo at h; rw [ByteArray.toList_eq, ByteArray.toList_eq]; simpa using h)]
      rfl
    · rw [if_neg h, if_neg (by unfold kCo at h; rw [ByteArray.toList_eq, ByteArray.toList_eq]; simpa using h)]
      exact ih
theorem le_at {x y : Cl} (h : cmpCl x y ≤ 0) : x.at_ ≤ y.at_ := by
  unfold cmpCl cmpC at h
  rw [or4_le] at h
  unfold cmpI at h
  split at h
  · omega
  · split at h
    · omega
    · omega
theorem joinCl_at (x y : Cl) : x.at_ ≤ (joinCl x y).at_ ∧ y.at_ ≤ (joinCl x y).at_ :=
  ⟨le_at (ge_le (le_joinCl_left x y)), le_at (ge_le (le_joinCl_right x y))⟩
/-- What a join's cell of a name is: one of the two's, and older than neither. -/
theorem cell_joined {a b : List Co} (ha : Up kCo a) (hb : Up kCo b) (pa : ∀ c ∈ a, 0 ≤ c.cell.at_) (pb : ∀ c ∈ b, 0 ≤ c.cell.at_) (n : ByteArray) :
    (cellOf a n).at_ ≤ (cellOf (mergeCo a b) n).at_ ∧ (cellOf b n).at_ ≤ (cellOf (mergeCo a b) n).at_ ∧ (cellOf (mergeCo a b) n = cellOf a n ∨ cellOf (mergeCo a b) n = cellOf b n) := by
  rw [cellOf_get a, cellOf_get b, cellOf_get (mergeCo a b), mergeCo_K, getK_merge kCo_join ha hb]
  cases h1 : getK kCo a n.data.toList with
  | none =>
    cases h2 : getK kCo b n.data.toList with
    | none => exact ⟨Int.le_refl _, Int.le_refl _, .inl rfl⟩
    | some y => exact ⟨pb y (getK_mem h2).1, Int.le_refl _, .inr rfl⟩
  | some x =>
    cases h2 : getK kCo b n.data.toList with
    | none => exact ⟨Int.le_refl _, pa x (getK_mem h1).1, .inl rfl⟩
    | some y => exact ⟨(joinCl_at _ _).1, (joinCl_at _ _).2, joinCl_or _ _⟩
theorem best_law (c : Cl) (g : Int) (hg : 0 ≤ g) : bestB c g = decide (0 < (bestC c g).at_) ∧ (bestB c g = true → g < (bestC c g).at_ ∧ (bestC c g).dead = false) := by
  unfold bestC
  cases h : bestB c g with
  | false => exact ⟨by rfl, nofun⟩
  | true =>
    rw [if_pos rfl]
    unfold bestB at h
    simp only [Bool.not_eq_true', Bool.or_eq_false_iff, decide_eq_false_iff_not] at h
    obtain ⟨⟨h1, h2⟩, h3⟩ := h
    refine ⟨?_, fun _ => ⟨by omega, h1⟩⟩
    rw [eq_comm, decide_eq_true_iff]
    omega
theorem is_law (r : Ro) (g t : Int) : (isB r g t false || !isB r g t true) = true ∧ (isB r g t false = true ∨ (seenCos r.cols g t).length = 0) := by
  unfold isB
  constructor
  · cases liveB r g t <;> simp
  · by_cases h : (seenCos r.cols g t).length = 0
    · exact .inr h
    · left
      rw [show decide (0 < (seenCos r.cols g t).length) = true by simp; omega]
      simp
end Go.Proofs.YtolkhjdododdaaaGreat
