/- Cells by numbers may be; the names of columns rise. -/
import Derived.Test.YtolkhjdododdaaaGreatDoorP4
import Derived.Test.YtolkhjdododdaaaGreatDoorP22
import Derived.Test.YtolkhjdododdaaaGreatDoorP17
import Derived.Test.YtolkhjdododdaaaGreatDoorP10
import Derived.Test.YtolkhjdododdaaaGreatDoorP24
set_option linter.unusedSimpArgs false
set_option linter.unusedVariables false
namespace Go.Proofs.YtolkhjdododdaaaGreatDoor
open Go Go.RowKit

theorem cellN_ok (n : Int) (h0 : 0 ≤ n) : checkC (cellN n).val (cellN n).dead (cellN n).at_ (cellN n).fin = true ∧ 0 < (cellN n).at_ := by
 have xs : ∀ i : Nat, i < 3 → ((⟨#[120, 121, 122]⟩ : ByteArray).extract i (i + 1)).size = 1 := by decide
 unfold cellN
 split
 ·unfold checkC stampB
  have h1 : ¬ 1 + n % 7 = 0 := by omega
  simp [h1]
  omega
 ·have e1 : (n / 28 % 3 + 1).toNat = (n / 28 % 3).toNat + 1 := by omega
  have e2 := xs (n / 28 % 3).toNat (by omega)
  rw [← e1] at e2
  have h1 : ¬ 1 + n % 7 = 0 := by omega
  unfold checkC stampB
  simp [h1, e2]
  split <;> omega
theorem nm_less (j k : Nat) (h : j < k) (hk : k < 4) : Op.bytesLess (nmK j).toList (nmK k).toList = true := by
 obtain ⟨rfl, rfl⟩ | ⟨rfl, rfl⟩ | ⟨rfl, rfl⟩ | ⟨rfl, rfl⟩ | ⟨rfl, rfl⟩ | ⟨rfl, rfl⟩ : (j = 0 ∧ k = 1) ∨ (j = 0 ∧ k = 2) ∨ (j = 0 ∧ k = 3) ∨ (j = 1 ∧ k = 2) ∨ (j = 1 ∧ k = 3) ∨ (j = 2 ∧ k = 3) := by omega
 all_goals (simp only [nmK, ByteArray.toList_eq]; decide)
end Go.Proofs.YtolkhjdododdaaaGreatDoor

/- Joins of rows and of partitions are one way: plain laws of rising rows; the least that is above some. -/
namespace Go.Proofs.YtolkhjdododdaaaGreatDoor
open Go Go.RowKit

def kRo (r : Ro) : List UInt8 := r.key.data.toList
theorem kRo_join (a b : Ro) : kRo (joinRo a b) = kRo a := rfl
theorem mergeRo_K (l m : List Ro) : mergeRo l m = mergeK kRo joinRo l m := rfl
theorem key_of_k {a b : Ro} (h : kRo a = kRo b) : a.key = b.key := by
 apply ByteArray.ext
 exact Array.toList_inj.1 h
theorem joinRo_comm {a b : Ro} (h : a.key = b.key) (ha : Up kCo a.cols) (hb : Up kCo b.cols) : joinRo a b = joinRo b a := by
 unfold joinRo
 rw [h, joinCl_comm a.live, mergeCo_comm ha hb, Int.max_comm a.gone, Int.max_comm a.shade]
theorem joinRo_assoc {a b c : Ro} (ha : Up kCo a.cols) (hb : Up kCo b.cols) (hc : Up kCo c.cols) : joinRo (joinRo a b) c = joinRo a (joinRo b c) := by
 unfold joinRo
 simp only [joinCl_assoc, mergeCo_assoc ha hb hc, Int.max_assoc]
theorem joinRo_self {a : Ro} (ha : Up kCo a.cols) : joinRo a a = a := by
 unfold joinRo
 rw [joinCl_self, mergeCo_self ha, Int.max_self, Int.max_self]
theorem joinRo_again {a b : Ro} (ha : Up kCo a.cols) (hb : Up kCo b.cols) : joinRo (joinRo a b) b = joinRo a b := by rw [joinRo_assoc ha hb hb, joinRo_self hb]
/-- Rising rows of rising columns. -/
def GoodRs (l : List Ro) : Prop := Up kRo l ∧ ∀ r ∈ l, Up kCo r.cols
theorem mem_mergeRs {l m : List Ro} {x : Ro} (h : x ∈ mergeRo l m) : (x ∈ l ∨ x ∈ m) ∨ ∃ a ∈ l, ∃ b ∈ m, a.key = b.key ∧ x = joinRo a b := by
 unfold mergeRo at h
 fun_induction mergeG keyR joinRo l m with
 | case1 m => exact .inl (.inr h)
 | case2 a l => exact .inl (.inl h)
 | case3 a l b m hc ih =>
  rcases List.mem_cons.1 h with rfl | h
  ·exact .inl (.inl (List.mem_cons_self ..))
  ·rcases ih h with (h | h) | ⟨y, hy, z, hz, e⟩
   ·exact .inl (.inl (List.mem_cons_of_mem _ h))
   ·exact .inl (.inr h)
   ·exact .inr ⟨y, List.mem_cons_of_mem _ hy, z, hz, e⟩
 | case4 a l b m hc hc' ih =>
  rcases List.mem_cons.1 h with rfl | h
  ·exact .inl (.inr (List.mem_cons_self ..))
  ·rcases ih h with (h | h) | ⟨y, hy, z, hz, e⟩
   ·exact .inl (.inl h)
   ·exact .inl (.inr (List.mem_cons_of_mem _ h))
   ·exact .inr ⟨y, hy, z, List.mem_cons_of_mem _ hz, e⟩
 | case5 a l b m hc hc' ih =>
  rcases List.mem_cons.1 h with rfl | h
  ·exact .inr ⟨a, List.mem_cons_self .., b, List.mem_cons_self .., key_of_k (cmpB_zero (show cmpB (kRo a) (kRo b) = 0 by have h1 : keyR a b = cmpB (kRo a) (kRo b) := rfl; omega)), rfl⟩
  ·rcases ih h with (h | h) | ⟨y, hy, z, hz, e⟩
   ·exact .inl (.inl (List.mem_cons_of_mem _ h))
   ·exact .inl (.inr (List.mem_cons_of_mem _ h))
   ·exact .inr ⟨y, List.mem_cons_of_mem _ hy, z, List.mem_cons_of_mem _ hz, e⟩
theorem GoodRs.merge {l m : List Ro} (hl : GoodRs l) (hm : GoodRs m) : GoodRs (mergeRo l m) := by
 refine ⟨hl.1.merge kRo_join hm.1, fun r hr => ?_⟩
 rcases mem_mergeRs hr with (h | h) | ⟨a, ha, b, hb, _, rfl⟩
 ·exact hl.2 r h
 ·exact hm.2 r h
 ·exact mergeCo_up (hl.2 a ha) (hm.2 b hb)
theorem GoodRs.nil : GoodRs [] := ⟨List.Pairwise.nil, nofun⟩
theorem mergeRo_comm {l m : List Ro} (hl : GoodRs l) (hm : GoodRs m) : mergeRo l m = mergeRo m l := mergeK_comm kRo_join hl.1 hm.1 fun a ha b hb h => joinRo_comm (key_of_k h) (hl.2 a ha) (hm.2 b hb)
theorem mergeRo_assoc {l m n : List Ro} (hl : GoodRs l) (hm : GoodRs m) (hn : GoodRs n) : mergeRo (mergeRo l m) n = mergeRo l (mergeRo m n) := mergeK_assoc kRo_join hl.1 hm.1 hn.1 fun a ha b hb c hc _ _ => joinRo_assoc (hl.2 a ha) (hm.2 b hb) (hn.2 c hc)
theorem mergeRo_self {l : List Ro} (hl : GoodRs l) : mergeRo l l = l := mergeK_self kRo_join hl.1 fun a ha => joinRo_self (hl.2 a ha)

/-! ### Partitions: what is gone, and the rows -/
abbrev Dp := Int × List Ro
def joinD (p q : Dp) : Dp := (max p.1 q.1, mergeRo p.2 q.2)
def GoodD (p : Dp) : Prop := GoodRs p.2
theorem GoodD.join {p q : Dp} (hp : GoodD p) (hq : GoodD q) : GoodD (joinD p q) := GoodRs.merge hp hq
theorem joinD_comm {p q : Dp} (hp : GoodD p) (hq : GoodD q) : joinD p q = joinD q p := by unfold joinD; rw [mergeRo_comm hp hq, Int.max_comm]
theorem joinD_assoc {p q r : Dp} (hp : GoodD p) (hq : GoodD q) (hr : GoodD r) : joinD (joinD p q) r = joinD p (joinD q r) := by unfold joinD; simp only [mergeRo_assoc hp hq hr, Int.max_assoc]
theorem joinD_self {p : Dp} (hp : GoodD p) : joinD p p = p := by unfold joinD; rw [mergeRo_self hp, Int.max_self]
/-- x is the least above some. -/
structure Lub (S : Dp → Prop) (x : Dp) : Prop where
 good : GoodD x
 each : ∀ s, S s → GoodD s
 above : ∀ s, S s → joinD x s = x
 least : ∀ y, GoodD y → (∀ s, S s → joinD y s = y) → joinD y x = y
theorem Lub.one {s : Dp} (h : GoodD s) : Lub (· = s) s := ⟨h, fun t e => by rw [e]; exact h, fun t e => by rw [e]; exact joinD_self h, fun y _ hs => hs s rfl⟩
theorem Lub.join {S : Dp → Prop} {x s : Dp} (h : Lub S x) (hs : GoodD s) : Lub (fun t => S t ∨ t = s) (joinD x s) := by
 refine ⟨h.good.join hs, fun t ht => ?_, fun t ht => ?_, fun y hy ht => ?_⟩
 ·rcases ht with ht | rfl
  ·exact h.each t ht
  ·exact hs
 ·rcases ht with ht | rfl
  ·rw [joinD_assoc h.good hs (h.each t ht), joinD_comm hs (h.each t ht), ← joinD_assoc h.good (h.each t ht) hs, h.above t ht]
  ·rw [joinD_assoc h.good hs hs, joinD_self hs]
 ·rw [← joinD_assoc hy h.good hs, h.least y hy (fun t h => ht t (.inl h)), ht s (.inr rfl)]
theorem Lub.congr {S T : Dp → Prop} {x : Dp} (h : Lub S x) (e : ∀ s, S s ↔ T s) : Lub T x := by
 have : S = T := funext fun s => propext (e s)
 exact this ▸ h
theorem Lub.unique {S : Dp → Prop} {x y : Dp} (hx : Lub S x) (hy : Lub S y) : x = y := by
 have h1 := hx.least y hy.good hy.above
 have h2 := hy.least x hx.good hx.above
 rw [← h2, joinD_comm hx.good hy.good, h1]
end Go.Proofs.YtolkhjdododdaaaGreatDoor

/- Rows by numbers: names rise; what joins make of them is such a row. -/
namespace Go.Proofs.YtolkhjdododdaaaGreatDoor
open Go Go.RowKit

theorem nm_cmp {j k : Nat} (h : j < k) (hk : k < 4) : cmpB (nmK j).data.toList (nmK k).data.toList < 0 := by
 have h1 := nm_less j k h hk
 rw [ByteArray.toList_eq, ByteArray.toList_eq] at h1
 rw [cmpB_less, if_pos h1]
 decide
/-- A column of a row by numbers. -/
def NumCo (c : Co) : Prop := (∃ j, j < 4 ∧ c.name = nmK j) ∧ checkC c.cell.val c.cell.dead c.cell.at_ c.cell.fin = true ∧ 0 < c.cell.at_
theorem GenCols.num {k : Nat} {l : List Co} (h : GenCols k l) : k ≤ 4 → Up kCo l ∧ (∀ c ∈ l, NumCo c) ∧ ∀ c ∈ l, ∃ j, j < k ∧ c.name = nmK j := by
 induction h with
 | nil => exact fun _ => ⟨List.Pairwise.nil, nofun, nofun⟩
 | skip _ ih =>
  intro hk
  obtain ⟨h1, h2, h3⟩ := ih (by omega)
  exact ⟨h1, h2, fun c hc => let ⟨j, hj, e⟩ := h3 c hc; ⟨j, by omega, e⟩⟩
 | @put k l n _ hn ih =>
  intro hk
  obtain ⟨h1, h2, h3⟩ := ih (by omega)
  obtain ⟨c1, c2⟩ := cellN_ok n hn
  refine ⟨List.pairwise_append.2 ⟨h1, List.pairwise_singleton .., fun a ha b hb => ?_⟩, fun c hc => ?_, fun c hc => ?_⟩
  ·obtain ⟨j, hj, e⟩ := h3 a ha
   rw [List.mem_singleton.1 hb]
   unfold kCo
   rw [e]
   exact nm_cmp hj (by omega)
  ·rcases List.mem_append.1 hc with hc | hc
   ·exact h2 c hc
   ·rw [List.mem_singleton.1 hc]
    exact ⟨⟨k, by omega, rfl⟩, c1, c2⟩
  ·rcases List.mem_append.1 hc with hc | hc
   ·obtain ⟨j, hj, e⟩ := h3 c hc
    exact ⟨j, by omega, e⟩
   ·rw [List.mem_singleton.1 hc]
    exact ⟨k, by omega, rfl⟩
/-- A row by numbers, or a join of such. -/
structure NumRow (r : Ro) : Prop where
 live : GenLive r.live
 gone : 0 ≤ r.gone ∧ r.gone ≤ 7
 shade : r.shade = 0
 up : Up kCo r.cols
 cols : ∀ c ∈ r.cols, NumCo c
theorem GenRow.num {r : Ro} (h : GenRow r) : NumRow r := ⟨h.live, h.gone, h.shade, (h.cols.num (Nat.le_refl _)).1, (h.cols.num (Nat.le_refl _)).2.1⟩
theorem num_mergeCo {l m : List Co} (hl : ∀ c ∈ l, NumCo c) (hm : ∀ c ∈ m, NumCo c) : ∀ c ∈ mergeCo l m, NumCo c := by
 intro c hc
 rcases mem_mergeCo hc with (h | h) | ⟨a, ha, b, hb, e, rfl⟩
 ·exact hl c h
 ·exact hm c h
 ·obtain ⟨a1, a2, a3⟩ := hl a ha
  obtain ⟨b1, b2, b3⟩ := hm b hb
  rcases joinCl_or a.cell b.cell with h | h
  ·exact ⟨a1, by rw [h]; exact a2, by rw [h]; exact a3⟩
  ·exact ⟨a1, by rw [h]; exact b2, by rw [h]; exact b3⟩
theorem NumRow.join {a b : Ro} (ha : NumRow a) (hb : NumRow b) : NumRow (joinRo a b) := by
 refine ⟨?_, ?_, ?_, mergeCo_up ha.up hb.up, num_mergeCo ha.cols hb.cols⟩
 ·rcases joinCl_or a.live b.live with h | h
  ·show GenLive (joinCl a.live b.live); rw [h]; exact ha.live
  ·show GenLive (joinCl a.live b.live); rw [h]; exact hb.live
 ·have := ha.gone; have := hb.gone
  show 0 ≤ max a.gone b.gone ∧ max a.gone b.gone ≤ 7
  omega
 ·show max a.shade b.shade = 0
  rw [ha.shade, hb.shade]; rfl
theorem NumRow.len {r : Ro} (h : NumRow r) : r.cols.length ≤ 4 :=
 h.up.len (K := [(nmK 0).data.toList, (nmK 1).data.toList, (nmK 2).data.toList, (nmK 3).data.toList]) fun c hc => by
  obtain ⟨⟨j, hj, e⟩, _⟩ := h.cols c hc
  unfold kCo
  rw [e]
  obtain rfl | rfl | rfl | rfl : j = 0 ∨ j = 1 ∨ j = 2 ∨ j = 3 := by omega
  all_goals simp
end Go.Proofs.YtolkhjdododdaaaGreatDoor

/- Plain laws of a row's cells under joins. -/
namespace Go.Proofs.YtolkhjdododdaaaGreatDoor
open Go Go.RowKit

theorem cellOf_get (l : List Co) (n : ByteArray) : cellOf l n = ((getK kCo l n.data.toList).map (·.cell)).getD zeroCl := by
 induction l with
 | nil => rfl
 | cons c l ih =>
  unfold cellOf getK
  by_cases h : kCo c = n.data.toList
  ·rw [if_pos h, if_pos (by unfold kCo at h; rw [ByteArray.toList_eq, ByteArray.toList_eq]; simpa using h)]
   rfl
  ·rw [if_neg h, if_neg (by unfold kCo at h; rw [ByteArray.toList_eq, ByteArray.toList_eq]; simpa using h)]
   exact ih
theorem le_at {x y : Cl} (h : cmpCl x y ≤ 0) : x.at_ ≤ y.at_ := by
 unfold cmpCl cmpC at h
 rw [or4_le] at h
 unfold cmpI at h
 split at h
 ·omega
 ·split at h
  ·omega
  ·omega
theorem joinCl_at (x y : Cl) : x.at_ ≤ (joinCl x y).at_ ∧ y.at_ ≤ (joinCl x y).at_ :=
 ⟨le_at (ge_le (le_joinCl_left x y)), le_at (ge_le (le_joinCl_right x y))⟩
end Go.Proofs.YtolkhjdododdaaaGreatDoor
