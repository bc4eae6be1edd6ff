/- Lists that rise by their keys: what a merge of two holds under a key; merges are one way. -/
import Derived.Test.YtolkhjdododdaaaGreatDoorP11
import Derived.Test.YtolkhjdododdaaaGreatDoorP2
import Derived.Laws.Entries
import Derived.Laws.OwnMore
import Derived.Laws.AppendOwnNone
import Derived.Test.YtolkhjdododdaaaGreatDoorP8
set_option linter.unusedSimpArgs false
set_option linter.unusedVariables false
namespace Go.Proofs.YtolkhjdododdaaaGreatDoor
open Go Go.RowKit

section
variable {α : Type} (κ : α → List UInt8)
/-- Keys rise. -/
def Up (l : List α) : Prop := l.Pairwise fun a b => cmpB (κ a) (κ b) < 0
/-- What stands under a key. -/
def getK : List α → List UInt8 → Option α
 | [], _ => none
 | a :: l, k => if κ a = k then some a else getK l k
def mergeK (join : α → α → α) (l m : List α) : List α := mergeG (fun a b => cmpB (κ a) (κ b)) join l m
/-- Two that may be none, put together. -/
def optJ (join : α → α → α) : Option α → Option α → Option α
 | some a, some b => some (join a b)
 | some a, none => some a
 | none, y => y
end
theorem cmpB_lt_trans {x y z : List UInt8} (h1 : cmpB x y < 0) (h2 : cmpB y z < 0) : cmpB x z < 0 := by
 have h := cmpB_trans (x := x) (y := y) (z := z) (by omega) (by omega)
 by_cases h0 : cmpB x z = 0
 ·have e := cmpB_zero h0
  subst e
  have h3 := cmpB_anti x y
  omega
 ·omega
section
variable {α : Type} {κ : α → List UInt8} {join : α → α → α}
theorem Up.tail {a : α} {l : List α} (h : Up κ (a :: l)) : Up κ l := (List.pairwise_cons.1 h).2
theorem Up.head {a : α} {l : List α} (h : Up κ (a :: l)) : ∀ b ∈ l, cmpB (κ a) (κ b) < 0 := (List.pairwise_cons.1 h).1
theorem getK_mem : ∀ {l : List α} {k : List UInt8} {x : α}, getK κ l k = some x → x ∈ l ∧ κ x = k
 | [], _, _, h => by cases h
 | a :: l, k, x, h => by
  unfold getK at h
  split at h
  ·cases h; exact ⟨List.mem_cons_self .., by assumption⟩
  ·obtain ⟨h1, h2⟩ := getK_mem h
   exact ⟨List.mem_cons_of_mem _ h1, h2⟩
theorem getK_none : ∀ {l : List α} {k : List UInt8}, (∀ a ∈ l, κ a ≠ k) → getK κ l k = none
 | [], _, _ => rfl
 | a :: l, k, h => by
  unfold getK
  rw [if_neg (h a (List.mem_cons_self ..)), getK_none fun b hb => h b (List.mem_cons_of_mem _ hb)]
theorem ne_of_lt {x y : List UInt8} (h : cmpB x y < 0) : x ≠ y := by
 rintro rfl
 rw [cmpB_self] at h
 omega
theorem getK_under {l : List α} {k : List UInt8} (h : ∀ a ∈ l, cmpB k (κ a) < 0) : getK κ l k = none := getK_none fun a ha e => ne_of_lt (h a ha) e.symm
theorem Up.lt_all {a : α} {l : List α} (h : Up κ (a :: l)) {k : List UInt8} (hk : cmpB k (κ a) < 0) : ∀ b ∈ a :: l, cmpB k (κ b) < 0 := by
 intro b hb
 rcases List.mem_cons.1 hb with rfl | hb
 ·exact hk
 ·exact cmpB_lt_trans hk (h.head b hb)
theorem getK_head (a : α) (l : List α) : getK κ (a :: l) (κ a) = some a := by unfold getK; rw [if_pos rfl]
theorem getK_of_mem : ∀ {l : List α} {x : α}, Up κ l → x ∈ l → getK κ l (κ x) = some x
 | a :: l, x, h, hx => by
  rcases List.mem_cons.1 hx with rfl | hx
  ·exact getK_head _ _
  ·unfold getK
   rw [if_neg (ne_of_lt (h.head x hx)), getK_of_mem h.tail hx]
/-- Rising lists that hold the same are the same. -/
theorem Up.ext : ∀ {l m : List α}, Up κ l → Up κ m → (∀ k, getK κ l k = getK κ m k) → l = m
 | [], [], _, _, _ => rfl
 | [], b :: m, _, _, h => by have := h (κ b); rw [getK_head] at this; cases this
 | a :: l, [], _, _, h => by have := h (κ a); rw [getK_head] at this; cases this
 | a :: l, b :: m, hl, hm, h => by
  rcases Int.lt_trichotomy (cmpB (κ a) (κ b)) 0 with hc | hc | hc
  ·have := h (κ a)
   rw [getK_head, getK_under (hm.lt_all hc)] at this
   cases this
  ·have e := cmpB_zero hc
   have h0 := h (κ a)
   rw [getK_head, e, getK_head] at h0
   cases h0
   rw [Up.ext hl.tail hm.tail fun k => ?_]
   by_cases hk : κ a = k
   ·subst hk
    rw [getK_under hl.head, getK_under hm.head]
   ·have := h k
    unfold getK at this
    rwa [if_neg hk, if_neg hk] at this
  ·have hba : cmpB (κ b) (κ a) < 0 := by rw [cmpB_anti (κ a) (κ b)]; omega
   have := h (κ b)
   rw [getK_head, getK_under (hl.lt_all hba)] at this
   cases this
/-- Each of a merge's elements: of which key it is. -/
theorem mergeK_key (hκ : ∀ a b, κ (join a b) = κ a) {l m : List α} {x : α} (h : x ∈ mergeK κ join l m) : (∃ a ∈ l, κ a = κ x) ∨ ∃ b ∈ m, κ b = κ x := by
 unfold mergeK at h
 fun_induction mergeG (fun a b => cmpB (κ a) (κ b)) join l m with
 | case1 m => exact .inr ⟨x, h, rfl⟩
 | case2 a l => exact .inl ⟨x, h, rfl⟩
 | case3 a l b m hc ih =>
  rcases List.mem_cons.1 h with rfl | h
  ·exact .inl ⟨x, List.mem_cons_self .., rfl⟩
  ·exact (ih h).imp_left fun ⟨c, hc, e⟩ => ⟨c, List.mem_cons_of_mem _ hc, e⟩
 | case4 a l b m hc hc' ih =>
  rcases List.mem_cons.1 h with rfl | h
  ·exact .inr ⟨x, List.mem_cons_self .., rfl⟩
  ·exact (ih h).imp_right fun ⟨c, hc, e⟩ => ⟨c, List.mem_cons_of_mem _ hc, e⟩
 | case5 a l b m hc hc' ih =>
  rcases List.mem_cons.1 h with rfl | h
  ·exact .inl ⟨a, List.mem_cons_self .., (hκ a b).symm⟩
  ·exact (ih h).imp (fun ⟨c, hc, e⟩ => ⟨c, List.mem_cons_of_mem _ hc, e⟩) (fun ⟨c, hc, e⟩ => ⟨c, List.mem_cons_of_mem _ hc, e⟩)
theorem Up.merge (hκ : ∀ a b, κ (join a b) = κ a) {l m : List α} (hl : Up κ l) (hm : Up κ m) : Up κ (mergeK κ join l m) := by
 have far : ∀ {y : List UInt8} {l m : List α}, (∀ a ∈ l, cmpB y (κ a) < 0) → (∀ b ∈ m, cmpB y (κ b) < 0) → ∀ x ∈ mergeG (fun a b => cmpB (κ a) (κ b)) join l m, cmpB y (κ x) < 0 := by
  intro y l m h1 h2 x hx
  rcases mergeK_key hκ hx with ⟨c, hc, e⟩ | ⟨c, hc, e⟩
  ·rw [← e]; exact h1 c hc
  ·rw [← e]; exact h2 c hc
 unfold mergeK
 fun_induction mergeG (fun a b => cmpB (κ a) (κ b)) join l m with
 | case1 m => exact hm
 | case2 a l => exact hl
 | case3 a l b m hc ih => exact List.pairwise_cons.2 ⟨far hl.head (hm.lt_all hc), ih hl.tail hm⟩
 | case4 a l b m hc hc' ih =>
  have hba : cmpB (κ b) (κ a) < 0 := by rw [cmpB_anti (κ a) (κ b)]; omega
  exact List.pairwise_cons.2 ⟨far (hl.lt_all hba) hm.head, ih hl hm.tail⟩
 | case5 a l b m hc hc' ih =>
  have e : κ a = κ b := cmpB_zero (by omega)
  refine List.pairwise_cons.2 ⟨?_, ih hl.tail hm.tail⟩
  rw [hκ]
  exact far hl.head (fun y hy => by rw [e]; exact hm.head y hy)
/-- What stands under a key behind a merge. -/
theorem getK_merge (hκ : ∀ a b, κ (join a b) = κ a) {l m : List α} (hl : Up κ l) (hm : Up κ m) (k : List UInt8) : getK κ (mergeK κ join l m) k = optJ join (getK κ l k) (getK κ m k) := by
 unfold mergeK
 fun_induction mergeG (fun a b => cmpB (κ a) (κ b)) join l m with
 | case1 m => cases h : getK κ m k <;> simp [getK, optJ]
 | case2 a l => cases h : getK κ (a :: l) k <;> simp [getK, optJ]
 | case3 a l b m hc ih =>
  rw [getK, ih hl.tail hm]
  by_cases hk : κ a = k
  ·subst hk
   rw [if_pos rfl, getK_head, getK_under (hm.lt_all hc)]
   rfl
  ·rw [if_neg hk]
   conv => rhs; rw [getK, if_neg hk]
 | case4 a l b m hc hc' ih =>
  have hba : cmpB (κ b) (κ a) < 0 := by rw [cmpB_anti (κ a) (κ b)]; omega
  rw [getK, ih hl hm.tail]
  by_cases hk : κ b = k
  ·subst hk
   rw [if_pos rfl, getK_head, getK_under (hl.lt_all hba)]
   rfl
  ·rw [if_neg hk]
   conv => rhs; rw [show getK κ (b :: m) k = getK κ m k by rw [getK, if_neg hk]]
 | case5 a l b m hc hc' ih =>
  have e : κ a = κ b := cmpB_zero (by omega)
  rw [getK, hκ, ih hl.tail hm.tail]
  by_cases hk : κ a = k
  ·subst hk
   rw [if_pos rfl, getK_head, e, getK_head]
   rfl
  ·rw [if_neg hk]
   conv => rhs; rw [getK, if_neg hk, show getK κ (b :: m) k = getK κ m k by rw [getK, if_neg (e ▸ hk)]]

theorem mergeK_comm (hκ : ∀ a b, κ (join a b) = κ a) {l m : List α} (hl : Up κ l) (hm : Up κ m) (hj : ∀ a ∈ l, ∀ b ∈ m, κ a = κ b → join a b = join b a) : mergeK κ join l m = mergeK κ join m l := by
 refine Up.ext (hl.merge hκ hm) (hm.merge hκ hl) fun k => ?_
 rw [getK_merge hκ hl hm, getK_merge hκ hm hl]
 cases h1 : getK κ l k <;> cases h2 : getK κ m k <;> simp only [optJ]
 obtain ⟨a1, a2⟩ := getK_mem h1
 obtain ⟨b1, b2⟩ := getK_mem h2
 rw [hj _ a1 _ b1 (a2.trans b2.symm)]
theorem mergeK_assoc (hκ : ∀ a b, κ (join a b) = κ a) {l m n : List α} (hl : Up κ l) (hm : Up κ m) (hn : Up κ n) (hj : ∀ a ∈ l, ∀ b ∈ m, ∀ c ∈ n, κ a = κ b → κ b = κ c → join (join a b) c = join a (join b c)) :
  mergeK κ join (mergeK κ join l m) n = mergeK κ join l (mergeK κ join m n) := by
 refine Up.ext ((hl.merge hκ hm).merge hκ hn) (hl.merge hκ (hm.merge hκ hn)) fun k => ?_
 rw [getK_merge hκ (hl.merge hκ hm) hn, getK_merge hκ hl (hm.merge hκ hn), getK_merge hκ hl hm, getK_merge hκ hm hn]
 cases h1 : getK κ l k <;> cases h2 : getK κ m k <;> cases h3 : getK κ n k <;> simp only [optJ]
 obtain ⟨a1, a2⟩ := getK_mem h1
 obtain ⟨b1, b2⟩ := getK_mem h2
 obtain ⟨c1, c2⟩ := getK_mem h3
 rw [hj _ a1 _ b1 _ c1 (a2.trans b2.symm) (b2.trans c2.symm)]
theorem mergeK_self (hκ : ∀ a b, κ (join a b) = κ a) {l : List α} (hl : Up κ l) (hj : ∀ a ∈ l, join a a = a) : mergeK κ join l l = l := by
 refine Up.ext (hl.merge hκ hl) hl fun k => ?_
 rw [getK_merge hκ hl hl]
 cases h1 : getK κ l k <;> simp only [optJ]
 rw [hj _ (getK_mem h1).1]
/-- A rising list whose keys are among rising keys is not longer than they. -/
theorem Up.len {K : List (List UInt8)} : ∀ {l : List α}, Up κ l → (∀ a ∈ l, κ a ∈ K) → l.length ≤ K.length := by
 induction K with
 | nil =>
  intro l _ h
  cases l with
  | nil => exact Nat.le_refl _
  | cons a l => cases h a (List.mem_cons_self ..)
 | cons k K ih =>
  intro l hl h
  by_cases hx : ∃ a ∈ l, κ a = k
  ·obtain ⟨a, ha, e⟩ := hx
   obtain ⟨s, t, rfl⟩ := List.append_of_mem ha
   have h2 : Up κ (s ++ t) := hl.sublist (List.Sublist.append (List.Sublist.refl s) (List.sublist_cons_self a t))
   have h3 := ih h2 (fun b hb => by
    have hb' : b ∈ s ++ a :: t := by
     rcases List.mem_append.1 hb with h | h
     ·exact List.mem_append_left _ h
     ·exact List.mem_append_right _ (List.mem_cons_of_mem _ h)
    rcases List.mem_cons.1 (h b hb') with e' | h'
    ·exfalso
     obtain ⟨_, p2, p3⟩ := List.pairwise_append.1 hl
     rcases List.mem_append.1 hb with hb | hb
     ·exact ne_of_lt (p3 b hb a (List.mem_cons_self ..)) (e'.trans e.symm)
     ·exact ne_of_lt ((List.pairwise_cons.1 p2).1 b hb) (e.trans e'.symm)
    ·exact h')
   simp only [List.length_append, List.length_cons] at h3 ⊢
   omega
  ·have := ih hl (fun b hb => by
    rcases List.mem_cons.1 (h b hb) with e | h'
    ·exact absurd ⟨b, hb, e⟩ hx
    ·exact h')
   simp only [List.length_cons]
   omega
end

/-! ### Columns -/
def kCo (c : Co) : List UInt8 := c.name.data.toList
theorem mergeCo_K (l m : List Co) : mergeCo l m = mergeK kCo joinCo l m := rfl
theorem kCo_join (a b : Co) : kCo (joinCo a b) = kCo a := rfl
theorem name_of {a b : Co} (h : kCo a = kCo b) : a.name = b.name := by
 apply ByteArray.ext
 exact Array.toList_inj.1 h
theorem joinCo_comm {a b : Co} (h : kCo a = kCo b) : joinCo a b = joinCo b a := by
 unfold joinCo
 rw [name_of h, joinCl_comm]
theorem joinCo_assoc (a b c : Co) : joinCo (joinCo a b) c = joinCo a (joinCo b c) := by
 unfold joinCo
 simp only [joinCl_assoc]
theorem joinCo_self (a : Co) : joinCo a a = a := by
 unfold joinCo
 rw [joinCl_self]
theorem mergeCo_comm {l m : List Co} (hl : Up kCo l) (hm : Up kCo m) : mergeCo l m = mergeCo m l := mergeK_comm kCo_join hl hm fun _ _ _ _ h => joinCo_comm h
theorem mergeCo_assoc {l m n : List Co} (hl : Up kCo l) (hm : Up kCo m) (hn : Up kCo n) : mergeCo (mergeCo l m) n = mergeCo l (mergeCo m n) := mergeK_assoc kCo_join hl hm hn fun _ _ _ _ _ _ _ _ => joinCo_assoc _ _ _
theorem mergeCo_self {l : List Co} (hl : Up kCo l) : mergeCo l l = l := mergeK_self kCo_join hl fun _ _ => joinCo_self _
theorem mergeCo_up {l m : List Co} (hl : Up kCo l) (hm : Up kCo m) : Up kCo (mergeCo l m) := hl.merge kCo_join hm
theorem mem_mergeCo {l m : List Co} {x : Co} (h : x ∈ mergeCo l m) : (x ∈ l ∨ x ∈ m) ∨ ∃ a ∈ l, ∃ b ∈ m, a.name = b.name ∧ x = ⟨a.name, joinCl a.cell b.cell⟩ := by
 unfold mergeCo at h
 fun_induction mergeG keyC joinCo l m with
 | case1 m => exact .inl (.inr h)
 | case2 a l => exact .inl (.inl h)
 | case3 a l b m hc ih =>
  rcases List.mem_cons.1 h with rfl | h
  ·exact .inl (.inl (List.mem_cons_self ..))
  ·rcases ih h with (h | h) | ⟨y, hy, z, hz, e⟩
   ·exact .inl (.inl (List.mem_cons_of_mem _ h))
   ·exact .inl (.inr h)
   ·exact .inr ⟨y, List.mem_cons_of_mem _ hy, z, hz, e⟩
 | case4 a l b m hc hc' ih =>
  rcases List.mem_cons.1 h with rfl | h
  ·exact .inl (.inr (List.mem_cons_self ..))
  ·rcases ih h with (h | h) | ⟨y, hy, z, hz, e⟩
   ·exact .inl (.inl h)
   ·exact .inl (.inr (List.mem_cons_of_mem _ h))
   ·exact .inr ⟨y, hy, z, List.mem_cons_of_mem _ hz, e⟩
 | case5 a l b m hc hc' ih =>
  rcases List.mem_cons.1 h with rfl | h
  ·exact .inr ⟨a, List.mem_cons_self .., b, List.mem_cons_self .., name_of (cmpB_zero (show cmpB (kCo a) (kCo b) = 0 by have h1 : keyC a b = cmpB (kCo a) (kCo b) := rfl; omega)), rfl⟩
  ·rcases ih h with (h | h) | ⟨y, hy, z, hz, e⟩
   ·exact .inl (.inl (List.mem_cons_of_mem _ h))
   ·exact .inl (.inr (List.mem_cons_of_mem _ h))
   ·exact .inr ⟨y, List.mem_cons_of_mem _ hy, z, List.mem_cons_of_mem _ hz, e⟩
end Go.Proofs.YtolkhjdododdaaaGreatDoor

/- Putting one into a list that rises is the merge with a list of one (plain laws). -/
namespace Go.Proofs.YtolkhjdododdaaaGreatDoor
open Go Go.RowKit

theorem mem_mergeI {α : Type} {cmp : α → α → Int} {join : α → α → α} {l m : List α} {x : α} (h : x ∈ mergeG cmp join l m) : x ∈ l ∨ x ∈ m ∨ ∃ a ∈ l, ∃ b ∈ m, cmp a b = 0 ∧ x = join a b := by
 fun_induction mergeG cmp join l m with
 | case1 m => exact .inr (.inl h)
 | case2 a l => exact .inl h
 | case3 a l b m hc ih =>
  rcases List.mem_cons.1 h with rfl | h
  ·exact .inl (List.mem_cons_self ..)
  ·rcases ih h with h | h | ⟨y, hy, z, hz, hyz, e⟩
   ·exact .inl (List.mem_cons_of_mem _ h)
   ·exact .inr (.inl h)
   ·exact .inr (.inr ⟨y, List.mem_cons_of_mem _ hy, z, hz, hyz, e⟩)
 | case4 a l b m hc hc' ih =>
  rcases List.mem_cons.1 h with rfl | h
  ·exact .inr (.inl (List.mem_cons_self ..))
  ·rcases ih h with h | h | ⟨y, hy, z, hz, hyz, e⟩
   ·exact .inl h
   ·exact .inr (.inl (List.mem_cons_of_mem _ h))
   ·exact .inr (.inr ⟨y, hy, z, List.mem_cons_of_mem _ hz, hyz, e⟩)
 | case5 a l b m hc hc' ih =>
  rcases List.mem_cons.1 h with rfl | h
  ·exact .inr (.inr ⟨a, List.mem_cons_self .., b, List.mem_cons_self .., by omega, rfl⟩)
  ·rcases ih h with h | h | ⟨y, hy, z, hz, hyz, e⟩
   ·exact .inl (List.mem_cons_of_mem _ h)
   ·exact .inr (.inl (List.mem_cons_of_mem _ h))
   ·exact .inr (.inr ⟨y, List.mem_cons_of_mem _ hy, z, List.mem_cons_of_mem _ hz, hyz, e⟩)
section
variable {α : Type} {cmp : α → α → Int} {join : α → α → α}
theorem mergeG_ins (c : α) : ∀ (l : List α) (k : Nat), k ≤ l.length → (∀ j (h : j < k) (hl : j < l.length), cmp (l[j]'hl) c < 0) → mergeG cmp join l [c] = l.take k ++ mergeG cmp join (l.drop k) [c]
 | l, 0, _, _ => by simp
 | [], k + 1, h, _ => by simp at h
 | a :: l, k + 1, hk, hlt => by
  have ha : cmp a c < 0 := hlt 0 (by omega) (by simp)
  rw [mergeG_lt ha, mergeG_ins c l k (by simpa using hk) fun j hj hl => hlt (j + 1) (by omega) (by simpa using hl)]
  rfl
theorem mergeG_end (c : α) (l : List α) (hlt : ∀ j (hl : j < l.length), cmp (l[j]'hl) c < 0) : mergeG cmp join l [c] = l ++ [c] := by
 rw [mergeG_ins c l l.length (Nat.le_refl _) fun j _ hl => hlt j hl, List.take_length, List.drop_length, mergeG_nil_left]
theorem mergeG_hit (c : α) (l : List α) (k : Nat) (hk : k < l.length) (hlt : ∀ j (h : j < k) (hl : j < l.length), cmp (l[j]'hl) c < 0) (he : cmp l[k] c = 0) : mergeG cmp join l [c] = l.take k ++ join l[k] c :: l.drop (k + 1) := by
 rw [mergeG_ins c l k (by omega) hlt, List.drop_eq_getElem_cons hk, mergeG_eq he, mergeG_nil_right]
theorem mergeG_new (c : α) (l : List α) (k : Nat) (hk : k < l.length) (hlt : ∀ j (h : j < k) (hl : j < l.length), cmp (l[j]'hl) c < 0) (he : 0 < cmp l[k] c) : mergeG cmp join l [c] = l.take k ++ c :: l.drop k := by
 rw [mergeG_ins c l k (by omega) hlt, List.drop_eq_getElem_cons hk, mergeG_gt he, mergeG_nil_right]
end
/-- One by one. -/
def foldG {α : Type} (cmp : α → α → Int) (join : α → α → α) (l m : List α) : List α := m.foldl (fun l c => mergeG cmp join l [c]) l
theorem foldG_snoc {α : Type} (cmp : α → α → Int) (join : α → α → α) (l m : List α) (c : α) : foldG cmp join l (m ++ [c]) = mergeG cmp join (foldG cmp join l m) [c] := by
 unfold foldG; rw [List.foldl_append]; rfl
theorem foldG_len {α : Type} (cmp : α → α → Int) (join : α → α → α) (l m : List α) : (foldG cmp join l m).length ≤ l.length + m.length := by
 induction m generalizing l with
 | nil => exact Nat.le_refl _
 | cons c m ih =>
  have h1 := ih (mergeG cmp join l [c])
  have h2 := mergeG_len cmp join l [c]
  simp only [List.length_cons, List.length_nil] at h2 ⊢
  show (foldG cmp join (mergeG cmp join l [c]) m).length ≤ _
  omega
section
variable {α : Type} {κ : α → List UInt8} {join : α → α → α}
theorem mergeK_cons {c : α} {m : List α} (h : Up κ (c :: m)) : mergeK κ join [c] m = c :: m := by
 cases m with
 | nil => unfold mergeK; rw [mergeG_nil_right]
 | cons d m =>
  unfold mergeK
  rw [mergeG_lt (cmp := fun a b => cmpB (κ a) (κ b)) (show _ from h.head d (List.mem_cons_self ..)), mergeG_nil_left]
theorem foldK (p : α → Prop) (hκ : ∀ a b, κ (join a b) = κ a) (hp : ∀ a b, p a → p b → p (join a b)) (ja : ∀ a b c, p a → p b → p c → κ a = κ b → κ b = κ c → join (join a b) c = join a (join b c)) : ∀ {m l : List α}, Up κ l → Up κ m → (∀ a ∈ l, p a) → (∀ a ∈ m, p a) → foldG (fun a b => cmpB (κ a) (κ b)) join l m = mergeK κ join l m
 | [], l, _, _, _, _ => by unfold mergeK; rw [mergeG_nil_right]; rfl
 | c :: m, l, hl, hm, pl, pm => by
  have h1 : Up κ [c] := List.pairwise_singleton ..
  have pc := pm c (List.mem_cons_self ..)
  have pl' : ∀ a ∈ mergeK κ join l [c], p a := fun a ha => by
   rcases mem_mergeI ha with h | h | ⟨x, hx, y, hy, _, rfl⟩
   ·exact pl a h
   ·rw [List.mem_singleton.1 h]; exact pc
   ·rw [List.mem_singleton.1 hy]; exact hp _ _ (pl x hx) pc
  have ih := foldK p hκ hp ja (m := m) (l := mergeK κ join l [c]) (hl.merge hκ h1) hm.tail pl' (fun a ha => pm a (List.mem_cons_of_mem _ ha))
  show foldG _ join (mergeK κ join l [c]) m = _
  rw [ih, mergeK_assoc hκ hl h1 hm.tail (fun a ha b hb d hd e1 e2 => ja a b d (pl a ha) (by rw [List.mem_singleton.1 hb]; exact pc) (pm d (List.mem_cons_of_mem _ hd)) e1 e2), mergeK_cons hm]
end
/-- The reference's join of rows. -/
def foldRo (a b : Ro) : Ro := ⟨a.key, joinCl a.live b.live, max a.gone b.gone, max a.shade b.shade, foldG keyC joinCo a.cols b.cols⟩
end Go.Proofs.YtolkhjdododdaaaGreatDoor

/- append([]T(nil), s...) of any slice in memory. -/
namespace Go.Proofs.YtolkhjdododdaaaGreatDoor
open Go Go.RowKit

section
variable {P : Program} {ops : Array Oper} {Q : Exit → Act → World → Prop} {a : Act} {w : World} {rest : List Oper} {o : Oper}
/-- append([]T(nil), s...) of any slice in memory. -/
theorem wpList_cloneS {Tt e : TypeId} {z : Value} {size bytes : Nat} (hg : o.guard = none) (info : (P.info? e).map (fun i => (i.zero, i.size, i.bytes)) = some (some z, size, bytes)) (und : P.underlying Tt = some (.slice e)) (hzs : z.cells.size = size) (hsz : 0 < size) (s x : Operand)
  (hop : o.op = Op.call { callee := Callee.builtin Builtin.append, args := #[s, x], argTypes := #[Tt, Tt] }) (hs : a.eval s = .slice none 0 0) {u : Value} {m : Nat} {xs : List Value} (hin : SliceIn w u m xs) (hx : a.eval x = u)
  (hl : xs.length = m * size) (h1 : ∀ u ∈ xs, u.oneCell' = true) (h63 : m ≤ maxLen) (hb : m * bytes ≤ 140737488355328)
  (hK : ∀ v' w', w'.ownsRow w.heap.size e size v' m xs → Ext w w' → wpList P ops Q rest (a.put o.dst v') w') : wpList P ops Q (o :: rest) a w := by
 obtain ⟨i0, hi, hz0, hz1, hz2⟩ := info_parts info
 obtain ⟨ao, c, rfl, hc, hcm, ha, hcell⟩ := hin
 cases ao with
 | none =>
  have hc0 := ha rfl
  obtain rfl : m = 0 := by omega
  obtain rfl : xs = [] := List.eq_nil_of_length_eq_zero (by omega)
  subst hc0
  exact wpList_append_own_none hg s x Tt hop w.heap.size e i0 size und hi (.slice none 0 0) 0 [] hs (World.ownsRow_nil _ _ _ _) hx (hK _ _ (World.ownsRow_nil _ _ _ _) (Ext.refl w))
 | some ad =>
  refine wpList_append_own _ hg s x Tt hop w.heap.size e i0 z size bytes und hi hz0 hz1 hz2 hzs hsz (.slice none 0 0) 0 [] hs (World.ownsRow_nil _ _ _ _) ad m c xs hx hl ?_ h1 (by omega) (by rw [Nat.zero_add]; exact hb) (Nat.le_refl _) ?_
  ·intro j u hj
   obtain ⟨b, o, e, h⟩ := hcell j u hj
   cases e
   rw [Addr.add_lit]
   exact h
  ·intro v' w' h2 h3 _
   rw [Nat.zero_add, List.nil_append] at h2
   exact hK v' w' h2 ((Ext.refl w).grown h3 (fun q hq => by cases hq))
end
end Go.Proofs.YtolkhjdododdaaaGreatDoor

/- s[k:] of a slice, as one opaque value. -/
namespace Go.Proofs.YtolkhjdododdaaaGreatDoor
open Go Go.RowKit

def dropV (a : Option Addr) (n c k size : Nat) : Value := .slice (if c = k then a else a.map (·.add (k * size))) (n - k) (c - k)
section
variable {P : Program} {ops : Array Oper} {Q : Exit → Act → World → Prop} {a : Act} {w : World} {rest : List Oper} {o : Oper}
theorem run_from {T e : TypeId} {size : Nat} (und : P.underlying T = some (.slice e)) (hsz : (P.info? e).map (·.size) = some size) {ad : Option Addr} {n c k : Nat} (hk : k ≤ n) (w : World) :
  (Instr.sliceAt T (.slice ad n c) (some (.int .i64 (k : Int))) none none).run P w = .ok (dropV ad n c k size) w := by
 obtain ⟨i, hi, rfl⟩ := Option.map_eq_some_iff.1 hsz
 have h1 : (0 : Int) ≤ (k : Int) ∧ (k : Int) ≤ (n : Int) := ⟨by omega, by omega⟩
 simp [Instr.sliceAt, Instr.slice, Instr.sliceBounds, Instr.sliceBound, run_underlying und, sizeOf, typeInfo, hi, go_sem, h1, hk, dropV]
theorem yields_from {T e : TypeId} {size : Nat} (und : P.underlying T = some (.slice e)) (hsz : (P.info? e).map (·.size) = some size) (s x : Operand) (hop : o.op = Op.slice T s (some x) none none) {ad : Option Addr} {n c k : Nat} (hs : a.eval s = .slice ad n c) (hx : a.eval x = .int .i64 (k : Int)) (hk : k ≤ n) {R : Value → World → Prop} (hR : R (dropV ad n c k size) w) : yields P o a w R := by
 unfold yields execOp
 simp only [hop, Option.map_some, Option.map_none, hs, hx, Sem.run_bind, run_from und hsz hk, Result.andThen_ok, Sem.run_pure]
 exact hR
theorem wpList_from {T e : TypeId} {size : Nat} (hg : o.guard = none) (und : P.underlying T = some (.slice e)) (hsz : (P.info? e).map (·.size) = some size) (s x : Operand) (hop : o.op = Op.slice T s (some x) none none) {ad : Option Addr} {n c k : Nat} (hs : a.eval s = .slice ad n c) (hx : a.eval x = .int .i64 (k : Int)) (hk : k ≤ n) (hK : wpList P ops Q rest (a.put o.dst (dropV ad n c k size)) w) : wpList P ops Q (o :: rest) a w := by
 unfold wpList
 rw [if_pos (by unfold Region.wanted; rw [hg])]
 exact .inl (yields_wp (yields_from (R := fun v w' => v = dropV ad n c k size ∧ w' = w) und hsz s x hop hs hx hk ⟨rfl, rfl⟩) fun v w' ⟨h1, h2⟩ => by rw [h1, h2]; exact hK)
/-- append([]T(nil), s...): the same in new memory. -/
theorem yields_clone {Tt e : TypeId} {z : Value} {size bytes : Nat} (info : (P.info? e).map (fun i => (i.zero, i.size, i.bytes)) = some (some z, size, bytes)) (und : P.underlying Tt = some (.slice e)) (hzs : z.cells.size = size) (hsz : 0 < size) (s x : Operand)
  (hop : o.op = Op.call { callee := Callee.builtin Builtin.append, args := #[s, x], argTypes := #[Tt, Tt] }) (hs : a.eval s = .slice none 0 0) {u : Value} {m : Nat} {xs : List Value} (hin : TIn w e u m xs) (hx : a.eval x = u)
  (hl : xs.length = m * size) (h1 : ∀ u ∈ xs, u.oneCell' = true) (h63 : m ≤ maxLen) (hb : m * bytes ≤ 140737488355328) {R : Value → World → Prop}
  (hR : ∀ v' w', w'.ownsRow w.heap.size e size v' m xs → Ext w w' → R v' w') : yields P o a w R := by
 rcases hin with ⟨rfl, rfl, rfl⟩ | ⟨b, c, Z, rfl, hbx, hn, hc, hxs⟩
 ·obtain ⟨i0, hi, hz0, hz1, hz2⟩ := info_parts info
  have hr := run_append_owned_none (P := P) (w := w) w.heap.size Tt o.type e i0 size und hi (.slice none 0 0) 0 [] (World.ownsRow_nil _ _ _ _)
  unfold yields execOp
  simp only [hop, resolve, invoke, builtin, Sem.run_bind, Sem.run_pure, Result.andThen_ok, List.map_toArray, List.map_cons, List.map_nil, hs, hx, hr]
  exact hR _ _ (World.ownsRow_nil _ _ _ _) (Ext.refl w)
 ·refine yields_append info und hzs hsz s x hop w.heap.size (Nat.le_refl _) (.slice none 0 0) 0 [] (World.ownsRow_nil _ _ _ _) hs b m c xs hx hl (fun j u hj => by rw [hbx.cell j]; exact hxs j u hj) h1 (by omega) (by rw [Nat.zero_add]; exact hb) ?_
  intro v' w' h1 h2 _
  rw [Nat.zero_add, List.nil_append] at h1
  exact hR v' w' h1 ((Ext.refl w).grown h2 (fun q hq => by cases hq))
end
theorem drop_cells {w : World} {ad : Option Addr} {n c k size N N' : Nat} {xs : List Value} (h : SliceIn w (.slice ad n c) N xs) (hx : xs.length = n * size) (hk : k ≤ n) (hN : n - k = N') : SliceIn w (dropV ad n c k size) N' (xs.drop (k * size)) := by
 obtain ⟨a', c', e, hc, hcm, ha, hcell⟩ := h
 injection e with e1 e2 e3
 subst e1 e2 e3 hN
 refine ⟨_, _, rfl, by omega, by omega, fun e => ?_, fun j u hj => ?_⟩
 ·split at e
  ·omega
  ·cases ad with
   | none => have := ha rfl; omega
   | some ad => cases e
 ·rw [List.getElem?_drop] at hj
  obtain ⟨b, o, rfl, hx'⟩ := hcell _ u hj
  by_cases hck : c = k
  ·have := (List.getElem?_eq_some_iff.1 hj).1
   have : n = k := by omega
   subst this
   omega
  ·refine ⟨b, o + k * size, by rw [if_neg hck]; simp [Addr.add_lit], ?_⟩
   rw [Nat.add_assoc]
   exact hx'
theorem coCells_drop (l : List Co) (k : Nat) (hk : k ≤ l.length) : coCells (l.drop k) = (coCells l).drop (k * 5) := by
 have h : coCells l = coCells (l.take k) ++ coCells (l.drop k) := by rw [← coCells_append, List.take_append_drop]
 have hl : (coCells (l.take k)).length = k * 5 := by rw [coCells_length, List.length_take, Nat.min_eq_left hk]
 rw [h, List.drop_left' hl]
theorem roCells_drop (l : List (Ro × Value)) (k : Nat) (hk : k ≤ l.length) : roCells (l.drop k) = (roCells l).drop (k * 8) := by
 have h : roCells l = roCells (l.take k) ++ roCells (l.drop k) := by rw [← roCells_append, List.take_append_drop]
 have hl : (roCells (l.take k)).length = k * 8 := by rw [roCells_length, List.length_take, Nat.min_eq_left hk]
 rw [h, List.drop_left' hl]
theorem cols_drop {w : World} {ad : Option Addr} {n c k : Nat} {l : List Co} (h : ColsIn w (.slice ad n c) l) (hk : k ≤ n) (hn : n = l.length) : ColsIn w (dropV ad n c k 5) (l.drop k) := by
 subst hn
 unfold ColsIn
 rw [coCells_drop l k hk]
 exact drop_cells h (coCells_length l) hk (List.length_drop ..).symm
theorem rows_drop {w : World} {ad : Option Addr} {n c k : Nat} {l : List (Ro × Value)} (h : RowsIn w (.slice ad n c) l) (hk : k ≤ n) (hn : n = l.length) : RowsIn w (dropV ad n c k 8) (l.drop k) := by
 subst hn
 refine ⟨?_, fun p hp => h.cols p (List.mem_of_mem_drop hp)⟩
 rw [roCells_drop l k hk]
 exact drop_cells h.rows (roCells_length l) hk (List.length_drop ..).symm
theorem slice_take {w : World} {ad : Option Addr} {n c k N M : Nat} {xs ys : List Value} (h : SliceIn w (.slice ad n c) N xs) (hk : k ≤ n) (hp : ∃ zs, xs = ys ++ zs) (hM : M = k) : SliceIn w (.slice ad k c) M ys := by
 obtain ⟨a', c', e, hc, hcm, ha, hcell⟩ := h
 injection e with e1 e2 e3
 subst e1 e2 e3 hM
 refine ⟨_, _, rfl, by omega, hcm, ha, fun j u hj => hcell j u ?_⟩
 obtain ⟨zs, rfl⟩ := hp
 rw [List.getElem?_append_left (List.getElem?_eq_some_iff.1 hj).1]
 exact hj
theorem cols_take {w : World} {a : Option Addr} {n c k : Nat} {l : List Co} (h : ColsIn w (.slice a n c) l) (hk : k ≤ n) (hn : n = l.length) : ColsIn w (.slice a k c) (l.take k) :=
 slice_take h hk ⟨coCells (l.drop k), by rw [← coCells_append, List.take_append_drop]⟩ (by rw [List.length_take]; omega)
theorem rows_take {w : World} {a : Option Addr} {n c k : Nat} {l : List (Ro × Value)} (h : RowsIn w (.slice a n c) l) (hk : k ≤ n) (hn : n = l.length) : RowsIn w (.slice a k c) (l.take k) :=
 ⟨slice_take h.rows hk ⟨roCells (l.drop k), by rw [← roCells_append, List.take_append_drop]⟩ (by rw [List.length_take]; omega), fun p hp => h.cols p (List.mem_of_mem_take hp)⟩
theorem own_mono {w : World} {B B' : Nat} {e : TypeId} {size : Nat} {v : Value} {n : Nat} {xs : List Value} (hB : B' ≤ B) (h : w.ownsRow B e size v n xs) : w.ownsRow B' e size v n xs :=
 ⟨h.1, h.2.imp_right fun ⟨g, cap, cur, e, hb, r⟩ => ⟨g, cap, cur, e, Nat.le_trans hB hb, r⟩⟩
end Go.Proofs.YtolkhjdododdaaaGreatDoor
