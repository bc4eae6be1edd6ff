/- Lists that rise by their keys: what a merge of two holds under a key; merges are one way. -/
import Derived.Test.YtolkhjdododdaaaGreatP16
import Derived.Test.YtolkhjdododdaaaGreatP9
import Derived.Laws.MakeOwn
import Derived.OwnWalk
import Derived.Test.YtolkhjdododdaaaGreatP7
import Derived.Test.YtolkhjdododdaaaGreatP8
set_option linter.unusedSimpArgs false
set_option linter.unusedVariables false
namespace Go.Proofs.YtolkhjdododdaaaGreat
open Go Go.RowKit

section
variable {α : Type} (κ : α → List UInt8)
/-- Keys rise. -/
def Up (l : List α) : Prop := l.Pairwise fun a b => cmpB (κ a) (κ b) < 0
/-- What stands under a key. -/
def getK : List α → List UInt8 → Option α
  | [], _ => none
  | a :: l, k => if κ a = k then some a else getK l k
def mergeK (join : α → α → α) (l m : List α) : List α := mergeG (fun a b => cmpB (κ a) (κ b)) join l m
/-- Two that may be none, put together. -/
def optJ (join : α → α → α) : Option α → Option α → Option α
  | some a, some b => some (join a b)
  | some a, none => some a
  | none, y => y
end
theorem cmpB_lt_trans {x y z : List UInt8} (h1 : cmpB x y < 0) (h2 : cmpB y z < 0) : cmpB x z < 0 := by
  have h := cmpB_trans (x := x) (y := y) (z := z) (by omega) (by omega)
  by_cases h0 : cmpB x z = 0
  · have e := cmpB_zero h0
    subst e
    have h3 := cmpB_anti x y
    omega
  · omega
section
variable {α : Type} {κ : α → List UInt8} {join : α → α → α}
theorem Up.tail {a : α} {l : List α} (h : Up κ (a :: l)) : Up κ l := (List.pairwise_cons.1 h).2
theorem Up.head {a : α} {l : List α} (h : Up κ (a :: l)) : ∀ b ∈ l, cmpB (κ a) (κ b) < 0 := (List.pairwise_cons.1 h).1
theorem getK_mem : ∀ {l : List α} {k : List UInt8} {x : α}, getK κ l k = some x → x ∈ l ∧ κ x = k
  | [], _, _, h => by cases h
  | a :: l, k, x, h => by
    unfold getK at h
    split at h
    · cases h; exact ⟨List.mem_cons_self .., by assumption⟩
    · obtain ⟨h1, h2⟩ := getK_mem h
      exact ⟨List.mem_cons_of_mem _ h1, h2⟩
theorem getK_none : ∀ {l : List α} {k : List UInt8}, (∀ a ∈ l, κ a ≠ k) → getK κ l k = none
  | [], _, _ => rfl
  | a :: l, k, h => by
    unfold getK
    rw [if_neg (h a (List.mem_cons_self ..)), getK_none fun b hb => h b (List.mem_cons_of_mem _ hb)]
theorem ne_of_lt {x y : List UInt8} (h : cmpB x y < 0) : x ≠ y := by
  rintro rfl
  rw [cmpB_self] at h
  omega
theorem getK_under {l : List α} {k : List UInt8} (h : ∀ a ∈ l, cmpB k (κ a) < 0) : getK κ l k = none := getK_none fun a ha e => ne_of_lt (h a ha) e.symm
theorem Up.lt_all {a : α} {l : List α} (h : Up κ (a :: l)) {k : List UInt8} (hk : cmpB k (κ a) < 0) : ∀ b ∈ a :: l, cmpB k (κ b) < 0 := by
  intro b hb
  rcases List.mem_cons.1 hb with rfl | hb
  · exact hk
  · exact cmpB_lt_trans hk (h.head b hb)
theorem getK_head (a : α) (l : List α) : getK κ (a :: l) (κ a) = some a := by unfold getK; rw [if_pos rfl]
theorem getK_of_mem : ∀ {l : List α} {x : α}, Up κ l → x ∈ l → getK κ l (κ x) = some x
  | a :: l, x, h, hx => by
    rcases List.mem_cons.1 hx with rfl | hx
    · exact getK_head _ _
    · unfold getK
      rw [if_neg (ne_of_lt (h.head x hx)), getK_of_mem h.tail hx]
/-- Rising lists that hold the same are the same. -/
theorem Up.ext : ∀ {l m : List α}, Up κ l → Up κ m → (∀ k, getK κ l k = getK κ m k) → l = m
  | [], [], _, _, _ => rfl
  | [], b :: m, _, _, h => by have := h (κ b); rw [getK_head] at this; cases this
  | a :: l, [], _, _, h => by have := h (κ a); rw [getK_head] at this; cases this
  | a :: l, b :: m, hl, hm, h => by
    rcases Int.lt_trichotomy (cmpB (κ a) (κ b)) 0 with hc | hc | hc
    · have := h (κ a)
      rw [getK_head, getK_under (hm.lt_all hc)] at this
      cases this
    · have e := cmpB_zero hc
      have h0 := h (κ a)
      rw [getK_head, e, getK_head] at h0
      cases h0
      rw [Up.ext hl.tail hm.tail fun k => ?_]
      by_cases hk : κ a = k
      · subst hk
        rw [getK_under hl.head, getK_under hm.head]
      · have := h k
        unfold getK at this
        rwa [if_neg hk, if_neg hk] at this
    · have hba : cmpB (κ b) (κ a) < 0 := by rw [cmpB_anti (κ a) (κ b)]; omega
      have := h (κ b)
      rw [getK_head, getK_under (hl.lt_all hba)] at this
      cases this
/-- Each of a merge's elements: of which key it is. -/
theorem mergeK_key (hκ : ∀ a b, κ (join a b) = κ a) {l m : List α} {x : α} (h : x ∈ mergeK κ join l m) : (∃ a ∈ l, κ a = κ x) ∨ ∃ b ∈ m, κ b = κ x := by
  unfold mergeK at h
  fun_induction mergeG (fun a b => cmpB (κ a) (κ b)) join l m with
  | case1 m => exact .inr ⟨x, h, rfl⟩
  | case2 a l => exact .inl ⟨x, h, rfl⟩
  | case3 a l b m hc ih =>
    rcases List.mem_cons.1 h with rfl | h
    · exact .inl ⟨x, List.mem_cons_self .., rfl⟩
    · exact (ih h).imp_left fun ⟨c, hc, e⟩ => ⟨c, List.mem_cons_of_mem _ hc, e⟩
  | case4 a l b m hc hc' ih =>
    rcases List.mem_cons.1 h with rfl | h
    · exact .inr ⟨x, List.mem_cons_self .., rfl⟩
    · exact (ih h).imp_right fun ⟨c, hc, e⟩ => ⟨c, List.mem_cons_of_mem _ hc, e⟩
  | case5 a l b m hc hc' ih =>
    rcases List.mem_cons.1 h with rfl | h
    · exact .inl ⟨a, List.mem_cons_self .., (hκ a b).symm⟩
    · exact (ih h).imp (fun ⟨c, hc, e⟩ => ⟨c, List.mem_cons_of_mem _ hc, e⟩) (fun ⟨c, hc, e⟩ => ⟨c, List.mem_cons_of_mem _ hc, e⟩)
theorem Up.merge (hκ : ∀ a b, κ (join a b) = κ a) {l m : List α} (hl : Up κ l) (hm : Up κ m) : Up κ (mergeK κ join l m) := by
  have far : ∀ {y : List UInt8} {l m : List α}, (∀ a ∈ l, cmpB y (κ a) < 0) → (∀ b ∈ m, cmpB y (κ b) < 0) → ∀ x ∈ mergeG (fun a b => cmpB (κ a) (κ b)) join l m, cmpB y (κ x) < 0 := by
    intro y l m h1 h2 x hx
    rcases mergeK_key hκ hx with ⟨c, hc, e⟩ | ⟨c, hc, e⟩
    · rw [← e]; exact h1 c hc
    · rw [← e]; exact h2 c hc
  unfold mergeK
  fun_induction mergeG (fun a b => cmpB (κ a) (κ b)) join l m with
  | case1 m => exact hm
  | case2 a l => exact hl
  | case3 a l b m hc ih => exact List.pairwise_cons.2 ⟨far hl.head (hm.lt_all hc), ih hl.tail hm⟩
  | case4 a l b m hc hc' ih =>
    have hba : cmpB (κ b) (κ a) < 0 := by rw [cmpB_anti (κ a) (κ b)]; omega
    exact List.pairwise_cons.2 ⟨far (hl.lt_all hba) hm.head, ih hl hm.tail⟩
  | case5 a l b m hc hc' ih =>
    have e : κ a = κ b := cmpB_zero (by omega)
    refine List.pairwise_cons.2 ⟨?_, ih hl.tail hm.tail⟩
    rw [hκ]
    exact far hl.head (fun y hy => by rw [e]; exact hm.head y hy)
/-- What stands under a key behind a merge. -/
theorem getK_merge (hκ : ∀ a b, κ (join a b) = κ a) {l m : List α} (hl : Up κ l) (hm : Up κ m) (k : List UInt8) : getK κ (mergeK κ join l m) k = optJ join (getK κ l k) (getK κ m k) := by
  unfold mergeK
  fun_induction mergeG (fun a b => cmpB (κ a) (κ b)) join l m with
  | case1 m => cases h : getK κ m k <;> simp [getK, optJ]
  | case2 a l => cases h : getK κ (a :: l) k <;> simp [getK, optJ]
  | case3 a l b m hc ih =>
    rw [getK, ih hl.tail hm]
    by_cases hk : κ a = k
    · subst hk
      rw [if_pos rfl, getK_head, getK_under (hm.lt_all hc)]
      rfl
    · rw [if_neg hk]
      conv => rhs; rw [getK, if_neg hk]
  | case4 a l b m hc hc' ih =>
    have hba : cmpB (κ b) (κ a) < 0 := by rw [cmpB_anti (κ a) (κ b)]; omega
    rw [getK, ih hl hm.tail]
    by_cases hk : κ b = k
    · subst hk
      rw [if_pos rfl, getK_head, getK_under (hl.lt_all hba)]
      rfl
    · rw [if_neg hk]
      conv => rhs; rw [show getK κ (b :: m) k = getK κ m k by rw [getK, if_neg hk]]
  | case5 a l b m hc hc' ih =>
    have e : κ a = κ b := cmpB_zero (by omega)
    rw [getK, hκ, ih hl.tail hm.tail]
    by_cases hk : κ a = k
    · subst hk
      rw [if_pos rfl, getK_head, e, getK_head]
      rfl
    · rw [if_neg hk]
      conv => rhs; rw [getK, if_neg hk, show getK κ (b :: m) k = getK κ m k by rw [getK, if_neg (e ▸ hk)]]

theorem mergeK_comm (hκ : ∀ a b, κ (join a b) = κ a) {l m : List α} (hl : Up κ l) (hm : Up κ m) (hj : ∀ a ∈ l, ∀ b ∈ m, κ a = κ b → join a b = join b a) : mergeK κ join l m = mergeK κ join m l := by
  refine Up.ext (hl.merge hκ hm) (hm.merge hκ hl) fun k => ?_
  rw [getK_merge hκ hl hm, getK_merge hκ hm hl]
  cases h1 : getK κ l k <;> cases h2 : getK κ m k <;> simp only [optJ]
  obtain ⟨a1, a2⟩ := getK_mem h1
  obtain ⟨b1, b2⟩ := getK_mem h2
  rw [hj _ a1 _ b1 (a2.trans b2.symm)]
theorem mergeK_assoc (hκ : ∀ a b, κ (join a b) = κ a) {l m n : List α} (hl : Up κ l) (hm : Up κ m) (hn : Up κ n) (hj : ∀ a ∈ l, ∀ b ∈ m, ∀ c ∈ n, κ a = κ b → κ b = κ c → join (join a b) c = join a (join b c)) :
    mergeK κ join (mergeK κ join l m) n = mergeK κ join l (mergeK κ join m n) := by
  refine Up.ext ((hl.merge hκ hm).merge hκ hn) (hl.merge hκ (hm.merge hκ hn)) fun k => ?_
  rw [getK_merge hκ (hl.merge hκ hm) hn, getK_merge hκ hl (hm.merge hκ hn), getK_merge hκ hl hm, getK_merge hκ hm hn]
  cases h1 : getK κ l k <;> cases h2 : getK κ m k <;> cases h3 : getK κ n k <;> simp only [optJ]
  obtain ⟨a1, a2⟩ := getK_mem h1
  obtain ⟨b1, b2⟩ := getK_mem h2
  obtain ⟨c1, c2⟩ := getK_mem h3
  rw [hj _ a1 _ b1 _ c1 (a2.trans b2.symm) (b2.trans c2.symm)]
theorem mergeK_self (hκ : ∀ a b, κ (join a b) = κ a) {l : List α} (hl : Up κ l) (hj : ∀ a ∈ l, join a a = a) : mergeK κ join l l = l := by
  refine Up.ext (hl.merge hκ hl) hl fun k => ?_
  rw [getK_merge hκ hl hl]
  cases h1 : getK κ l k <;> simp only [optJ]
  rw [hj _ (getK_mem h1).1]
/-- A rising list whose keys are among rising keys is not longer than they. -/
theorem Up.len {K : List (List UInt8)} : ∀ {l : List α}, Up κ l → (∀ a ∈ l, κ a ∈ K) → l.length ≤ K.length := by
  induction K with
  | nil =>
    intro l _ h
    cases l with
    | nil => exact Nat.le_refl _
    | cons a l => cases h a (List.mem_cons_self ..)
  | cons k K ih =>
    intro l hl h
    by_cases hx : ∃ a ∈ l, κ a = k
    · obtain ⟨a, ha, e⟩ := hx
      obtain ⟨s, t, rfl⟩ := List.append_of_mem ha
      have h2 : Up κ (s ++ t) := hl.sublist (List.Sublist.append (List.Sublist.refl s) (List.sublist_cons_self a t))
      have h3 := ih h2 (fun b hb => by
        have hb' : b ∈ s ++ a :: t := by
          rcases List.mem_append.1 hb with h | h
          · exact List.mem_append_left _ h
          · exact List.mem_append_right _ (List.mem_cons_of_mem _ h)
        rcases List.mem_cons.1 (h b hb') with e' | h'
        · exfalso
          obtain ⟨_, p2, p3⟩ := List.pairwise_append.1 hl
          rcases List.mem_append.1 hb with hb | hb
          · exact ne_of_lt (p3 b hb a (List.mem_cons_self ..)) (e'.trans e.symm)
          · exact ne_of_lt ((List.pairwise_cons.1 p2).1 b hb) (e.trans e'.symm)
        · exact h')
      simp only [List.length_append, List.length_cons] at h3 ⊢
      omega
    · have := ih hl (fun b hb => by
        rcases List.mem_cons.1 (h b hb) with e | h'
        · exact absurd ⟨b, hb, e⟩ hx
        · exact h')
      simp only [List.length_cons]
      omega
end

/-! ### Columns -/
def kCo (c : Co) : List UInt8 := c.name.data.toList
theorem mergeCo_K (l m : List Co) : mergeCo l m = mergeK kCo joinCo l m := rfl
theorem kCo_join (a b : Co) : kCo (joinCo a b) = kCo a := rfl
theorem name_of {a b : Co} (h : kCo a = kCo b) : a.name = b.name := by
  apply ByteArray.ext
  exact Array.toList_inj.1 h
theorem joinCo_comm {a b : Co} (h : kCo a = kCo b) : joinCo a b = joinCo b a := by
  unfold joinCo
  rw [name_of h, joinCl_comm]
theorem joinCo_assoc (a b c : Co) : joinCo (joinCo a b) c = joinCo a (joinCo b c) := by
  unfold joinCo
  simp only [joinCl_assoc]
theorem joinCo_self (a : Co) : joinCo a a = a := by
  unfold joinCo
  rw [joinCl_self]
theorem mergeCo_comm {l m : List Co} (hl : Up kCo l) (hm : Up kCo m) : mergeCo l m = mergeCo m l := mergeK_comm kCo_join hl hm fun _ _ _ _ h => joinCo_comm h
theorem mergeCo_assoc {l m n : List Co} (hl : Up kCo l) (hm : Up kCo m) (hn : Up kCo n) : mergeCo (mergeCo l m) n = mergeCo l (mergeCo m n) := mergeK_assoc kCo_join hl hm hn fun _ _ _ _ _ _ _ _ => joinCo_assoc _ _ _
theorem mergeCo_self {l : List Co} (hl : Up kCo l) : mergeCo l l = l := mergeK_self kCo_join hl fun _ _ => joinCo_self _
theorem mergeCo_up {l m : List Co} (hl : Up kCo l) (hm : Up kCo m) : Up kCo (mergeCo l m) := hl.merge kCo_join hm
theorem mem_mergeCo {l m : List Co} {x : Co} (h : x ∈ mergeCo l m) : (x ∈ l ∨ x ∈ m) ∨ ∃ a ∈ l, ∃ b ∈ m, a.name = b.name ∧ x = ⟨a.name, joinCl a.cell b.cell⟩ := by
  unfold mergeCo at h
  fun_induction mergeG keyC joinCo l m with
  | case1 m => exact .inl (.inr h)
  | case2 a l => exact .inl (.inl h)
  | case3 a l b m hc ih =>
    rcases List.mem_cons.1 h with rfl | h
    · exact .inl (.inl (List.mem_cons_self ..))
    · rcases ih h with (h | h) | ⟨y, hy, z, hz, e⟩
      · exact .inl (.inl (List.mem_cons_of_mem _ h))
      · exact .inl (.inr h)
      · exact .inr ⟨y, List.mem_cons_of_mem _ hy, z, hz, e⟩
  | case4 a l b m hc hc' ih =>
    rcases List.mem_cons.1 h with rfl | h
    · exact .inl (.inr (List.mem_cons_self ..))
    · rcases ih h with (h | h) | ⟨y, hy, z, hz, e⟩
      · exact .inl (.inl h)
      · exact .inl (.inr (List.mem_cons_of_mem _ h))
      · exact .inr ⟨y, hy, z, List.mem_cons_of_mem _ hz, e⟩
  | case5 a l b m hc hc' ih =>
    rcases List.mem_cons.1 h with rfl | h
    · exact .inr ⟨a, List.mem_cons_self .., b, List.mem_cons_self .., name_of (cmpB_zero (show cmpB (kCo a) (kCo b) = 0 by have h1 : keyC a b = cmpB (kCo a) (kCo b) := rfl; omega)), rfl⟩
    · rcases ih h with (h | h) | ⟨y, hy, z, hz, e⟩
      · exact .inl (.inl (List.mem_cons_of_mem _ h))
      · exact .inl (.inr (List.mem_cons_of_mem _ h))
      · exact .inr ⟨y, List.mem_cons_of_mem _ hy, z, List.mem_cons_of_mem _ hz, e⟩
end Go.Proofs.YtolkhjdododdaaaGreat

/- row.Merge over columns. (what a smaller cut has) -/
namespace Go.Proofs.YtolkhjdododdaaaGreat
open Go Go.RowKit
attribute [local go_sem] yields yUpon co5

theorem ColsIn.uncons {w : World} {v : Value} {l : List Co} (h : ColsIn w v l) (hl : 0 < l.length) : ∃ b o c A l', l = A :: l' ∧ v = .slice (some ⟨b, o, none⟩) l.length c ∧ l.length ≤ c ∧ c ≤ 9223372036854775807 ∧ CoAt w b o A ∧ ColsIn w (.slice (if c = 1 then some ⟨b, o, none⟩ else some ⟨b, o + 5, none⟩) (l.length - 1) (c - 1)) l' := by
  obtain ⟨a, c, rfl, hc, hcm, hg⟩ := h.get
  obtain ⟨b, o, rfl, h0⟩ := hg 0 hl
  cases l with
  | nil => cases hl
  | cons A l' =>
    refine ⟨b, o, c, A, l', rfl, rfl, hc, hcm, by simpa using h0, ?_⟩
    obtain ⟨a', c', e, hc', hcm', ha', hcell⟩ := h
    cases e
    refine ⟨if c = 1 then some ⟨b, o, none⟩ else some ⟨b, o + 5, none⟩, c - 1, by simp, by simp at hc' ⊢; omega, by unfold maxLen; omega, (by intro h; split at h <;> cases h), fun j u hj => ?_⟩
    obtain ⟨b', o', e, hx⟩ := hcell (j + 5) u (by simpa [coCells] using hj)
    cases e
    by_cases h1 : c = 1
    · have h2 : l' = [] := List.eq_nil_of_length_eq_zero (by simp at hc'; omega)
      subst h2
      cases hj
    · rw [if_neg h1]
      exact ⟨b, o + 5, rfl, by rw [Nat.add_assoc, Nat.add_comm 5 j]; exact hx⟩

/-- What stays true in a round's region: the row under way may be appended to. -/
structure MC (w wr : World) (vo : Value) (out : List Co) (x : World) : Prop where
  ext : Ext w x
  own : x.ownsRow w.heap.size 57 5 vo out.length (coCells out)
  size : wr.heap.size ≤ x.heap.size
theorem MC.ext' {w wr : World} {vo : Value} {out : List Co} {x y : World} (hE : Ext x y) (h : MC w wr vo out x) : MC w wr vo out y := ⟨h.ext.trans hE, ownsRow_ext h.own hE, Nat.le_trans h.size hE.le⟩
def ME (vo : Value) (n j : Nat) (x y : World) : Prop := if j = n then x.grownBy y vo.ownBlock else Ext x y
theorem ME_ext {vo : Value} {n j : Nat} {x y : World} (h : Ext x y) : ME vo n j x y := by
  unfold ME
  split
  · exact grownBy_ext (grownBy_refl x _) h
  · exact h
theorem ME_off {vo : Value} {n j : Nat} (hj : j ≠ n) {x y : World} (h : ME vo n j x y) : Ext x y := by
  unfold ME at h
  rwa [if_neg hj] at h
theorem ME_box {w wr : World} {vo : Value} {n j m s : Nat} {T : TypeId} {xs : List Value} (hown : wr.ownsRow w.heap.size T s vo m xs) {x y : World} (h : ME vo n j x y) {b : Nat} (hb : wr.heap.size ≤ b) {cs : Array Value} {e : TypeId} (hx : BoxAt x b cs e) : BoxAt y b cs e := by
  unfold ME at h
  split at h
  · exact hx.grown h (fun e => by have := (hown.lt _ e.symm).2; omega)
  · exact hx.ext h
end Go.Proofs.YtolkhjdododdaaaGreat

/- row.Join. (what a smaller cut has) -/
namespace Go.Proofs.YtolkhjdododdaaaGreat
open Go Go.RowKit
attribute [local go_sem] yields yUpon ro8 co5

/-- What two rows are together. -/
def joinRo (a b : Ro) : Ro := ⟨a.key, joinCl a.live b.live, max a.gone b.gone, max a.shade b.shade, mergeCo a.cols b.cols⟩
theorem mergeCo_len (l m : List Co) : (mergeCo l m).length ≤ l.length + m.length := mergeG_len _ _ _ _
end Go.Proofs.YtolkhjdododdaaaGreat

/- row.Merge over rows. (what a smaller cut has) -/
namespace Go.Proofs.YtolkhjdododdaaaGreat
open Go Go.RowKit
attribute [local go_sem] yields yUpon ro8

def keyR (a b : Ro) : Int := cmpB a.key.data.toList b.key.data.toList
def mergeRo (l m : List Ro) : List Ro := mergeG keyR joinRo l m

/-- What stays true in a round's region: the row under way may be appended to. -/
structure MR (w wr : World) (vo : Value) (out : List (Ro × Value)) (x : World) : Prop where
  ext : Ext w x
  own : x.ownsRow w.heap.size 54 8 vo out.length (roCells out)
  size : wr.heap.size ≤ x.heap.size
  safe : ∀ p ∈ out, SafeC w x p
theorem MR.ext' {w wr : World} {vo : Value} {out : List (Ro × Value)} {x y : World} (hE : Ext x y) (h : MR w wr vo out x) : MR w wr vo out y := ⟨h.ext.trans hE, ownsRow_ext h.own hE, Nat.le_trans h.size hE.le, fun p hp => (h.safe p hp).ext hE⟩
theorem ME_own {w wr : World} {vo : Value} {n j m s : Nat} {T : TypeId} {xs : List Value} (hown : wr.ownsRow w.heap.size T s vo m xs) {x y : World} (h : ME vo n j x y) {T' : TypeId} {s' m' : Nat} {v : Value} {xs' : List Value} (hx : x.ownsRow wr.heap.size T' s' v m' xs') : y.ownsRow wr.heap.size T' s' v m' xs' := by
  unfold ME at h
  split at h
  · refine hx.kept h ?_
    cases e : v.ownBlock with
    | none => exact .inl rfl
    | some g => exact .inr (fun h => by have := (hx.lt g e).1; have := (hown.lt g h.symm).2; omega)
  · exact ownsRow_ext hx h
end Go.Proofs.YtolkhjdododdaaaGreat
