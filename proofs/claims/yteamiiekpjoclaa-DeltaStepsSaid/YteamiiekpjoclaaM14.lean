/- row.Join's two closures over columns: which comes first, what two are together. -/
import Derived.Test.YteamiiekpjoclaaM3
import Derived.Test.YteamiiekpjoclaaM13
import Derived.Test.YteamiiekpjoclaaM9
import Derived.Test.YteamiiekpjoclaaM12
namespace Go.Proofs.Yteamiiekpjoclaa
open Go Go.RowKit
attribute [local go_sem] yields yUpon co5

/-- Two lists in order, those that stand for the same put together. -/
def mergeG {α : Type} (cmp : α → α → Int) (join : α → α → α) : List α → List α → List α
  | [], m => m
  | a :: l, [] => a :: l
  | a :: l, b :: m => if cmp a b < 0 then a :: mergeG cmp join l (b :: m) else if 0 < cmp a b then b :: mergeG cmp join (a :: l) m else join a b :: mergeG cmp join l m
termination_by l m => l.length + m.length
theorem mergeG_nil_left {α : Type} (cmp : α → α → Int) (join : α → α → α) (m : List α) : mergeG cmp join [] m = m := by unfold mergeG; rfl
theorem mergeG_nil_right {α : Type} (cmp : α → α → Int) (join : α → α → α) (l : List α) : mergeG cmp join l [] = l := by cases l <;> (unfold mergeG; rfl)
theorem mergeG_lt {α : Type} {cmp : α → α → Int} {join : α → α → α} {a b : α} {l m : List α} (h : cmp a b < 0) : mergeG cmp join (a :: l) (b :: m) = a :: mergeG cmp join l (b :: m) := by conv => lhs; unfold mergeG; rw [if_pos h]
theorem mergeG_gt {α : Type} {cmp : α → α → Int} {join : α → α → α} {a b : α} {l m : List α} (h : 0 < cmp a b) : mergeG cmp join (a :: l) (b :: m) = b :: mergeG cmp join (a :: l) m := by conv => lhs; unfold mergeG; rw [if_neg (by omega), if_pos h]
theorem mergeG_eq {α : Type} {cmp : α → α → Int} {join : α → α → α} {a b : α} {l m : List α} (h : cmp a b = 0) : mergeG cmp join (a :: l) (b :: m) = join a b :: mergeG cmp join l m := by conv => lhs; unfold mergeG; rw [if_neg (by omega), if_neg (by omega)]
theorem mergeG_len {α : Type} (cmp : α → α → Int) (join : α → α → α) (l m : List α) : (mergeG cmp join l m).length ≤ l.length + m.length := by
  fun_induction mergeG cmp join l m <;> simp at * <;> omega

def keyC (a b : Co) : Int := cmpB a.name.data.toList b.name.data.toList
def joinCo (a b : Co) : Co := ⟨a.name, joinCl a.cell b.cell⟩
def mergeCo (l m : List Co) : List Co := mergeG keyC joinCo l m

set_option maxHeartbeats 1000000 in
theorem rj1_any (a b : Co) (w : World) : Calls Try.prog 87 #[(.agg #[.string a.name, .string a.cell.val, .bool a.cell.dead, .int .i64 a.cell.at_, .int .i64 a.cell.fin]), (.agg #[.string b.name, .string b.cell.val, .bool b.cell.dead, .int .i64 b.cell.at_, .int .i64 b.cell.fin])] w fun e w' => e = .returned (.int .i64 (keyC a b)) ∧ Ext w w' := by
  go_enter Try.func87, Try.ntmps87
  go_wp2_with fail
  refine (strCompare_any _ _ _).mono ?_
  rintro e w1 ⟨rfl, rfl⟩
  go_wp2_with fail
  go_ret
  exact ⟨rfl, ((Ext.refl w).alloc _).alloc _⟩

set_option maxRecDepth 100000 in
set_option maxHeartbeats 2000000 in
theorem rj2_any (a b : Co) (w : World) : Calls Try.prog 88 #[(.agg #[.string a.name, .string a.cell.val, .bool a.cell.dead, .int .i64 a.cell.at_, .int .i64 a.cell.fin]), (.agg #[.string b.name, .string b.cell.val, .bool b.cell.dead, .int .i64 b.cell.at_, .int .i64 b.cell.fin])] w fun e w' => e = .returned (.agg #[.string a.name, .string (joinCl a.cell b.cell).val, .bool (joinCl a.cell b.cell).dead, .int .i64 (joinCl a.cell b.cell).at_, .int .i64 (joinCl a.cell b.cell).fin]) ∧ Ext w w' := by
  obtain ⟨a0, a1, a2, hE⟩ := boxes3 w (co5 a) (co5 b) (co5 ⟨⟨#[]⟩, zeroCl⟩) 58 58 58
  obtain ⟨c, hc⟩ : ∃ c, c = joinCl a.cell b.cell := ⟨_, rfl⟩
  rw [← hc]
  have Hc := Lib.hid hc
  clear hc
  go_enter Try.func88, Try.ntmps88
  go_wp2_with fail
  refine wp_region_in 8 [(6, fun v _ => v = (.agg #[.string c.val, .bool c.dead, .int .i64 c.at_, .int .i64 c.fin]))] (fun w0 => BoxAt w0 w.heap.size (co5 a) 58 ∧ BoxAt w0 (w.heap.size + 1) (co5 b) 58 ∧ BoxAt w0 (w.heap.size + 1 + 1) (co5 ⟨⟨#[]⟩, zeroCl⟩) 58 ∧ Ext w w0) (by kernel_rfl) (by kernel_rfl) (by kernel_rfl) ⟨stays_eq _, trivial⟩ ⟨a0, a1, a2, hE⟩ ?_
  clear a0 a1 a2 hE
  rintro w2 ⟨c0, c1, c2, hE⟩
  have FIN : Hid (∀ wx, Ext w2 wx → BoxAt wx (w.heap.size + 1 + 1) (co5 ⟨⟨#[]⟩, zeroCl⟩) 58 ∧ Ext w wx) := fun wx h => ⟨c2.ext h, hE.trans h⟩
  obtain ⟨x0, x1, x2, x3, x4⟩ := c0.co
  obtain ⟨y0, y1, y2, y3, y4⟩ := c1.co
  clear c0 c1 c2 hE
  replace x0 := held x0
  replace x1 := held x1
  replace x2 := held x2
  replace x3 := held x3
  replace x4 := held x4
  replace y1 := held y1
  replace y2 := held y2
  replace y3 := held y3
  replace y4 := held y4
  clear y0
  refine rg_quiet rfl rfl rfl rfl ?_; intro K hK; go_big_quiet_op; go_big_quiet_on
  refine rg_quiet rfl rfl rfl rfl ?_; intro K hK; go_big_quiet_op; go_big_quiet_on
  refine rg_quiet rfl rfl rfl rfl ?_; intro K hK; go_big_quiet_op; go_big_quiet_on
  refine rg_quiet rfl rfl rfl rfl ?_; intro K hK; go_big_quiet_op; go_big_quiet_on
  refine rg_quiet rfl rfl rfl rfl ?_; intro K hK; go_big_quiet_op; go_big_quiet_on
  refine rg_quiet rfl rfl rfl rfl ?_; intro K hK; go_big_quiet_op; go_big_quiet_on
  refine rg_val [] rfl rfl rfl (by kernel_rfl) (fun w1 hE hf => ?_) ?_
  · go_simp
    exact (join_c a.cell.val a.cell.dead a.cell.at_ a.cell.fin b.cell.val b.cell.dead b.cell.at_ b.cell.fin w1).mono fun e w' ⟨he, hw⟩ => ⟨_, he, rg_done hE hw (by rw [Hc.out])⟩
  simp only [Act.put, List.setIfInBounds_toArray, List.set_cons_zero, List.set_cons_succ]
  refine rg_quiet rfl rfl rfl rfl ?_; intro K hK; go_big_quiet_op; go_big_quiet_on
  refine rel_tail rfl rfl fun w5 hE5 hG => ?_
  obtain ⟨c2, hE⟩ := FIN.out w5 hE5
  clear x0 x1 x2 x3 x4 y1 y2 y3 y4 hE5 hG FIN
  go_wp2_with ((guard_target =~ wpList _ _ _ (Oper.mk none (Op.store _ (Operand.tmp 4) (Operand.tmp 12)) _ _ _ _ :: _) _ _); go_must (refine storeBox rfl 58 (.tmp 4) (.tmp 12) rfl (w.heap.size + 1 + 1) _ _ _ (by rfl) (by rfl) (c2) (by kernel_rfl) (by rfl) (by simp [Value.oneCell']) ?_); intro w6 c6 g6)
  have hX6 := hE.grown g6 (fun q hq => by cases hq; omega)
  clear hE g6 c2
  obtain ⟨z0, z1, z2, z3, z4⟩ := c6.co (c := ⟨a.name, c⟩)
  refine bodyPost_ret (v := .agg #[.string a.name, .string c.val, .bool c.dead, .int .i64 c.at_, .int .i64 c.fin]) ?_ rfl ⟨rfl, hX6⟩
  simp [results, Try.results88, go_sem, Act.put, z0, z1, z2, z3, z4]
end Go.Proofs.Yteamiiekpjoclaa

/- Lists that rise by their keys: what a merge of two holds under a key; merges are one way. -/
namespace Go.Proofs.Yteamiiekpjoclaa
open Go Go.RowKit

section
variable {α : Type} (κ : α → List UInt8)
/-- Keys rise. -/
def Up (l : List α) : Prop := l.Pairwise fun a b => cmpB (κ a) (κ b) < 0
/-- What stands under a key. -/
def getK : List α → List UInt8 → Option α
  | [], _ => none
  | a :: l, k => if κ a = k then some a else getK l k
def mergeK (join : α → α → α) (l m : List α) : List α := mergeG (fun a b => cmpB (κ a) (κ b)) join l m
/-- Two that may be none, put together. -/
def optJ (join : α → α → α) : Option α → Option α → Option α
  | some a, some b => some (join a b)
  | some a, none => some a
  | none, y => y
end
theorem cmpB_lt_trans {x y z : List UInt8} (h1 : cmpB x y < 0) (h2 : cmpB y z < 0) : cmpB x z < 0 := by
  have h := cmpB_trans (x := x) (y := y) (z := z) (by omega) (by omega)
  by_cases h0 : cmpB x z = 0
  · have e := cmpB_zero h0
    subst e
    have h3 := cmpB_anti x y
    omega
  · omega
section
variable {α : Type} {κ : α → List UInt8} {join : α → α → α}
theorem Up.tail {a : α} {l : List α} (h : Up κ (a :: l)) : Up κ l := (List.pairwise_cons.1 h).2
theorem Up.head {a : α} {l : List α} (h : Up κ (a :: l)) : ∀ b ∈ l, cmpB (κ a) (κ b) < 0 := (List.pairwise_cons.1 h).1
theorem getK_mem : ∀ {l : List α} {k : List UInt8} {x : α}, getK κ l k = some x → x ∈ l ∧ κ x = k
  | [], _, _, h => by cases h
  | a :: l, k, x, h => by
    unfold getK at h
    split at h
    · cases h; exact ⟨List.mem_cons_self .., by assumption⟩
    · obtain ⟨h1, h2⟩ := getK_mem h
      exact ⟨List.mem_cons_of_mem _ h1, h2⟩
theorem getK_none : ∀ {l : List α} {k : List UInt8}, (∀ a ∈ l, κ a ≠ k) → getK κ l k = none
  | [], _, _ => rfl
  | a :: l, k, h => by
    unfold getK
    rw [if_neg (h a (List.mem_cons_self ..)), getK_none fun b hb => h b (List.mem_cons_of_mem _ hb)]
theorem ne_of_lt {x y : List UInt8} (h : cmpB x y < 0) : x ≠ y := by
  rintro rfl
  rw [cmpB_self] at h
  omega
theorem getK_under {l : List α} {k : List UInt8} (h : ∀ a ∈ l, cmpB k (κ a) < 0) : getK κ l k = none := getK_none fun a ha e => ne_of_lt (h a ha) e.symm
theorem Up.lt_all {a : α} {l : List α} (h : Up κ (a :: l)) {k : List UInt8} (hk : cmpB k (κ a) < 0) : ∀ b ∈ a :: l, cmpB k (κ b) < 0 := by
  intro b hb
  rcases List.mem_cons.1 hb with rfl | hb
  · exact hk
  · exact cmpB_lt_trans hk (h.head b hb)
theorem getK_head (a : α) (l : List α) : getK κ (a :: l) (κ a) = some a := by unfold getK; rw [if_pos rfl]
theorem getK_of_mem : ∀ {l : List α} {x : α}, Up κ l → x ∈ l → getK κ l (κ x) = some x
  | a :: l, x, h, hx => by
    rcases List.mem_cons.1 hx with rfl | hx
    · exact getK_head _ _
    · unfold getK
      rw [if_neg (ne_of_lt (h.head x hx)), getK_of_mem h.tail hx]
/-- Rising lists that hold the same are the same. -/
theorem Up.ext : ∀ {l m : List α}, Up κ l → Up κ m → (∀ k, getK κ l k = getK κ m k) → l = m
  | [], [], _, _, _ => rfl
  | [], b :: m, _, _, h => by have := h (κ b); rw [getK_head] at this; cases this
  | a :: l, [], _, _, h => by have := h (κ a); rw [getK_head] at this; cases this
  | a :: l, b :: m, hl, hm, h => by
    rcases Int.lt_trichotomy (cmpB (κ a) (κ b)) 0 with hc | hc | hc
    · have := h (κ a)
      rw [getK_head, getK_under (hm.lt_all hc)] at this
      cases this
    · have e := cmpB_zero hc
      have h0 := h (κ a)
      rw [getK_head, e, getK_head] at h0
      cases h0
      rw [Up.ext hl.tail hm.tail fun k => ?_]
      by_cases hk : κ a = k
      · subst hk
        rw [getK_under hl.head, getK_under hm.head]
      · have := h k
        unfold getK at this
        rwa [if_neg hk, if_neg hk] at this
    · have hba : cmpB (κ b) (κ a) < 0 := by rw [cmpB_anti (κ a) (κ b)]; omega
      have := h (κ b)
      rw [getK_head, getK_under (hl.lt_all hba)] at this
      cases this
/-- Each of a merge's elements: of which key it is. -/
theorem mergeK_key (hκ : ∀ a b, κ (join a b) = κ a) {l m : List α} {x : α} (h : x ∈ mergeK κ join l m) : (∃ a ∈ l, κ a = κ x) ∨ ∃ b ∈ m, κ b = κ x := by
  unfold mergeK at h
  fun_induction mergeG (fun a b => cmpB (κ a) (κ b)) join l m with
  | case1 m => exact .inr ⟨x, h, rfl⟩
  | case2 a l => exact .inl ⟨x, h, rfl⟩
  | case3 a l b m hc ih =>
    rcases List.mem_cons.1 h with rfl | h
    · exact .inl ⟨x, List.mem_cons_self .., rfl⟩
    · exact (ih h).imp_left fun ⟨c, hc, e⟩ => ⟨c, List.mem_cons_of_mem _ hc, e⟩
  | case4 a l b m hc hc' ih =>
    rcases List.mem_cons.1 h with rfl | h
    · exact .inr ⟨x, List.mem_cons_self .., rfl⟩
    · exact (ih h).imp_right fun ⟨c, hc, e⟩ => ⟨c, List.mem_cons_of_mem _ hc, e⟩
  | case5 a l b m hc hc' ih =>
    rcases List.mem_cons.1 h with rfl | h
    · exact .inl ⟨a, List.mem_cons_self .., (hκ a b).symm⟩
    · exact (ih h).imp (fun ⟨c, hc, e⟩ => ⟨c, List.mem_cons_of_mem _ hc, e⟩) (fun ⟨c, hc, e⟩ => ⟨c, List.mem_cons_of_mem _ hc, e⟩)
theorem Up.merge (hκ : ∀ a b, κ (join a b) = κ a) {l m : List α} (hl : Up κ l) (hm : Up κ m) : Up κ (mergeK κ join l m) := by
  have far : ∀ {y : List UInt8} {l m : List α}, (∀ a ∈ l, cmpB y (κ a) < 0) → (∀ b ∈ m, cmpB y (κ b) < 0) → ∀ x ∈ mergeG (fun a b => cmpB (κ a) (κ b)) join l m, cmpB y (κ x) < 0 := by
    intro y l m h1 h2 x hx
    rcases mergeK_key hκ hx with ⟨c, hc, e⟩ | ⟨c, hc, e⟩
    · rw [← e]; exact h1 c hc
    · rw [← e]; exact h2 c hc
  unfold mergeK
  fun_induction mergeG (fun a b => cmpB (κ a) (κ b)) join l m with
  | case1 m => exact hm
  | case2 a l => exact hl
  | case3 a l b m hc ih => exact List.pairwise_cons.2 ⟨far hl.head (hm.lt_all hc), ih hl.tail hm⟩
  | case4 a l b m hc hc' ih =>
    have hba : cmpB (κ b) (κ a) < 0 := by rw [cmpB_anti (κ a) (κ b)]; omega
    exact List.pairwise_cons.2 ⟨far (hl.lt_all hba) hm.head, ih hl hm.tail⟩
  | case5 a l b m hc hc' ih =>
    have e : κ a = κ b := cmpB_zero (by omega)
    refine List.pairwise_cons.2 ⟨?_, ih hl.tail hm.tail⟩
    rw [hκ]
    exact far hl.head (fun y hy => by rw [e]; exact hm.head y hy)
/-- What stands under a key behind a merge. -/
theorem getK_merge (hκ : ∀ a b, κ (join a b) = κ a) {l m : List α} (hl : Up κ l) (hm : Up κ m) (k : List UInt8) : getK κ (mergeK κ join l m) k = optJ join (getK κ l k) (getK κ m k) := by
  unfold mergeK
  fun_induction mergeG (fun a b => cmpB (κ a) (κ b)) join l m with
  | case1 m => cases h : getK κ m k <;> simp [getK, optJ]
  | case2 a l => cases h : getK κ (a :: l) k <;> simp [getK, optJ]
  | case3 a l b m hc ih =>
    rw [getK, ih hl.tail hm]
    by_cases hk : κ a = k
    · subst hk
      rw [if_pos rfl, getK_head, getK_under (hm.lt_all hc)]
      rfl
    · rw [if_neg hk]
      conv => rhs; rw [getK, if_neg hk]
  | case4 a l b m hc hc' ih =>
    have hba : cmpB (κ b) (κ a) < 0 := by rw [cmpB_anti (κ a) (κ b)]; omega
    rw [getK, ih hl hm.tail]
    by_cases hk : κ b = k
    · subst hk
      rw [if_pos rfl, getK_head, getK_under (hl.lt_all hba)]
      rfl
    · rw [if_neg hk]
      conv => rhs; rw [show getK κ (b :: m) k = getK κ m k by rw [getK, if_neg hk]]
  | case5 a l b m hc hc' ih =>
    have e : κ a = κ b := cmpB_zero (by omega)
    rw [getK, hκ, ih hl.tail hm.tail]
    by_cases hk : κ a = k
    · subst hk
      rw [if_pos rfl, getK_head, e, getK_head]
      rfl
    · rw [if_neg hk]
      conv => rhs; rw [getK, if_neg hk, show getK κ (b :: m) k = getK κ m k by rw [getK, if_neg (e ▸ hk)]]

theorem mergeK_comm (hκ : ∀ a b, κ (join a b) = κ a) {l m : List α} (hl : Up κ l) (hm : Up κ m) (hj : ∀ a ∈ l, ∀ b ∈ m, κ a = κ b → join a b = join b a) : mergeK κ join l m = mergeK κ join m l := by
  refine Up.ext (hl.merge hκ hm) (hm.merge hκ hl) fun k => ?_
  rw [getK_merge hκ hl hm, getK_merge hκ hm hl]
  cases h1 : getK κ l k <;> cases h2 : getK κ m k <;> simp only [optJ]
  obtain ⟨a1, a2⟩ := getK_mem h1
  obtain ⟨b1, b2⟩ := getK_mem h2
  rw [hj _ a1 _ b1 (a2.trans b2.symm)]
theorem mergeK_assoc (hκ : ∀ a b, κ (join a b) = κ a) {l m n : List α} (hl : Up κ l) (hm : Up κ m) (hn : Up κ n) (hj : ∀ a ∈ l, ∀ b ∈ m, ∀ c ∈ n, κ a = κ b → κ b = κ c → join (join a b) c = join a (join b c)) :
    mergeK κ join (mergeK κ join l m) n = mergeK κ join l (mergeK κ join m n) := by
  refine Up.ext ((hl.merge hκ hm).merge hκ hn) (hl.merge hκ (hm.merge hκ hn)) fun k => ?_
  rw [getK_merge hκ (hl.merge hκ hm) hn, getK_merge hκ hl (hm.merge hκ hn), getK_merge hκ hl hm, getK_merge hκ hm hn]
  cases h1 : getK κ l k <;> cases h2 : getK κ m k <;> cases h3 : getK κ n k <;> simp only [optJ]
  obtain ⟨a1, a2⟩ := getK_mem h1
  obtain ⟨b1, b2⟩ := getK_mem h2
  obtain ⟨c1, c2⟩ := getK_mem h3
  rw [hj _ a1 _ b1 _ c1 (a2.trans b2.symm) (b2.trans c2.symm)]
theorem mergeK_self (hκ : ∀ a b, κ (join a b) = κ a) {l : List α} (hl : Up κ l) (hj : ∀ a ∈ l, join a a = a) : mergeK κ join l l = l := by
  refine Up.ext (hl.merge hκ hl) hl fun k => ?_
  rw [getK_merge hκ hl hl]
  cases h1 : getK κ l k <;> simp only [optJ]
  rw [hj _ (getK_mem h1).1]
/-- A rising list whose keys are among rising keys is not longer than they. -/
theorem Up.len {K : List (List UInt8)} : ∀ {l : List α}, Up κ l → (∀ a ∈ l, κ a ∈ K) → l.length ≤ K.length := by
  induction K with
  | nil =>
    intro l _ h
    cases l with
    | nil => exact Nat.le_refl _
    | cons a l => cases h a (List.mem_cons_self ..)
  | cons k K ih =>
    intro l hl h
    by_cases hx : ∃ a ∈ l, κ a = k
    · obtain ⟨a, ha, e⟩ := hx
      obtain ⟨s, t, rfl⟩ := List.append_of_mem ha
      have h2 : Up κ (s ++ t) := hl.sublist (List.Sublist.append (List.Sublist.refl s) (List.sublist_cons_self a t))
      have h3 := ih h2 (fun b hb => by
        have hb' : b ∈ s ++ a :: t := by
          rcases List.mem_append.1 hb with h | h
          · exact List.mem_append_left _ h
          · exact List.mem_append_right _ (List.mem_cons_of_mem _ h)
        rcases List.mem_cons.1 (h b hb') with e' | h'
        · exfalso
          obtain ⟨_, p2, p3⟩ := List.pairwise_append.1 hl
          rcases List.mem_append.1 hb with hb | hb
          · exact ne_of_lt (p3 b hb a (List.mem_cons_self ..)) (e'.trans e.symm)
          · exact ne_of_lt ((List.pairwise_cons.1 p2).1 b hb) (e.trans e'.symm)
        · exact h')
      simp only [List.length_append, List.length_cons] at h3 ⊢
      omega
    · have := ih hl (fun b hb => by
        rcases List.mem_cons.1 (h b hb) with e | h'
        · exact absurd ⟨b, hb, e⟩ hx
        · exact h')
      simp only [List.length_cons]
      omega
end

/-! ### Columns -/
def kCo (c : Co) : List UInt8 := c.name.data.toList
theorem mergeCo_K (l m : List Co) : mergeCo l m = mergeK kCo joinCo l m := rfl
theorem kCo_join (a b : Co) : kCo (joinCo a b) = kCo a := rfl
theorem name_of {a b : Co} (h : kCo a = kCo b) : a.name = b.name := by
  apply ByteArray.ext
  exact Array.toList_inj.1 h
theorem joinCo_comm {a b : Co} (h : kCo a = kCo b) : joinCo a b = joinCo b a := by
  unfold joinCo
  rw [name_of h, joinCl_comm]
theorem joinCo_assoc (a b c : Co) : joinCo (joinCo a b) c = joinCo a (joinCo b c) := by
  unfold joinCo
  simp only [joinCl_assoc]
theorem joinCo_self (a : Co) : joinCo a a = a := by
  unfold joinCo
  rw [joinCl_self]
theorem mergeCo_comm {l m : List Co} (hl : Up kCo l) (hm : Up kCo m) : mergeCo l m = mergeCo m l := mergeK_comm kCo_join hl hm fun _ _ _ _ h => joinCo_comm h
theorem mergeCo_assoc {l m n : List Co} (hl : Up kCo l) (hm : Up kCo m) (hn : Up kCo n) : mergeCo (mergeCo l m) n = mergeCo l (mergeCo m n) := mergeK_assoc kCo_join hl hm hn fun _ _ _ _ _ _ _ _ => joinCo_assoc _ _ _
theorem mergeCo_self {l : List Co} (hl : Up kCo l) : mergeCo l l = l := mergeK_self kCo_join hl fun _ _ => joinCo_self _
theorem mergeCo_up {l m : List Co} (hl : Up kCo l) (hm : Up kCo m) : Up kCo (mergeCo l m) := hl.merge kCo_join hm
theorem mem_mergeCo {l m : List Co} {x : Co} (h : x ∈ mergeCo l m) : (x ∈ l ∨ x ∈ m) ∨ ∃ a ∈ l, ∃ b ∈ m, a.name = b.name ∧ x = ⟨a.name, joinCl a.cell b.cell⟩ := by
  unfold mergeCo at h
  fun_induction mergeG keyC joinCo l m with
  | case1 m => exact .inl (.inr h)
  | case2 a l => exact .inl (.inl h)
  | case3 a l b m hc ih =>
    rcases List.mem_cons.1 h with rfl | h
    · exact .inl (.inl (List.mem_cons_self ..))
    · rcases ih h with (h | h) | ⟨y, hy, z, hz, e⟩
      · exact .inl (.inl (List.mem_cons_of_mem _ h))
      · exact .inl (.inr h)
      · exact .inr ⟨y, List.mem_cons_of_mem _ hy, z, hz, e⟩
  | case4 a l b m hc hc' ih =>
    rcases List.mem_cons.1 h with rfl | h
    · exact .inl (.inr (List.mem_cons_self ..))
    · rcases ih h with (h | h) | ⟨y, hy, z, hz, e⟩
      · exact .inl (.inl h)
      · exact .inl (.inr (List.mem_cons_of_mem _ h))
      · exact .inr ⟨y, hy, z, List.mem_cons_of_mem _ hz, e⟩
  | case5 a l b m hc hc' ih =>
    rcases List.mem_cons.1 h with rfl | h
    · exact .inr ⟨a, List.mem_cons_self .., b, List.mem_cons_self .., name_of (cmpB_zero (show cmpB (kCo a) (kCo b) = 0 by have h1 : keyC a b = cmpB (kCo a) (kCo b) := rfl; omega)), rfl⟩
    · rcases ih h with (h | h) | ⟨y, hy, z, hz, e⟩
      · exact .inl (.inl (List.mem_cons_of_mem _ h))
      · exact .inl (.inr (List.mem_cons_of_mem _ h))
      · exact .inr ⟨y, List.mem_cons_of_mem _ hy, z, List.mem_cons_of_mem _ hz, e⟩
end Go.Proofs.Yteamiiekpjoclaa

/- Putting one into a list that rises is the merge with a list of one (plain laws). -/
namespace Go.Proofs.Yteamiiekpjoclaa
open Go Go.RowKit

theorem mem_mergeI {α : Type} {cmp : α → α → Int} {join : α → α → α} {l m : List α} {x : α} (h : x ∈ mergeG cmp join l m) : x ∈ l ∨ x ∈ m ∨ ∃ a ∈ l, ∃ b ∈ m, cmp a b = 0 ∧ x = join a b := by
  fun_induction mergeG cmp join l m with
  | case1 m => exact .inr (.inl h)
  | case2 a l => exact .inl h
  | case3 a l b m hc ih =>
    rcases List.mem_cons.1 h with rfl | h
    · exact .inl (List.mem_cons_self ..)
    · rcases ih h with h | h | ⟨y, hy, z, hz, hyz, e⟩
      · exact .inl (List.mem_cons_of_mem _ h)
      · exact .inr (.inl h)
      · exact .inr (.inr ⟨y, List.mem_cons_of_mem _ hy, z, hz, hyz, e⟩)
  | case4 a l b m hc hc' ih =>
    rcases List.mem_cons.1 h with rfl | h
    · exact .inr (.inl (List.mem_cons_self ..))
    · rcases ih h with h | h | ⟨y, hy, z, hz, hyz, e⟩
      · exact .inl h
      · exact .inr (.inl (List.mem_cons_of_mem _ h))
      · exact .inr (.inr ⟨y, hy, z, List.mem_cons_of_mem _ hz, hyz, e⟩)
  | case5 a l b m hc hc' ih =>
    rcases List.mem_cons.1 h with rfl | h
    · exact .inr (.inr ⟨a, List.mem_cons_self .., b, List.mem_cons_self .., by omega, rfl⟩)
    · rcases ih h with h | h | ⟨y, hy, z, hz, hyz, e⟩
      · exact .inl (List.mem_cons_of_mem _ h)
      · exact .inr (.inl (List.mem_cons_of_mem _ h))
      · exact .inr (.inr ⟨y, List.mem_cons_of_mem _ hy, z, List.mem_cons_of_mem _ hz, hyz, e⟩)
section
variable {α : Type} {cmp : α → α → Int} {join : α → α → α}
theorem mergeG_ins (c : α) : ∀ (l : List α) (k : Nat), k ≤ l.length → (∀ j (h : j < k) (hl : j < l.length), cmp (l[j]'hl) c < 0) → mergeG cmp join l [c] = l.take k ++ mergeG cmp join (l.drop k) [c]
  | l, 0, _, _ => by simp
  | [], k + 1, h, _ => by simp at h
  | a :: l, k + 1, hk, hlt => by
    have ha : cmp a c < 0 := hlt 0 (by omega) (by simp)
    rw [mergeG_lt ha, mergeG_ins c l k (by simpa using hk) fun j hj hl => hlt (j + 1) (by omega) (by simpa using hl)]
    rfl
theorem mergeG_end (c : α) (l : List α) (hlt : ∀ j (hl : j < l.length), cmp (l[j]'hl) c < 0) : mergeG cmp join l [c] = l ++ [c] := by
  rw [mergeG_ins c l l.length (Nat.le_refl _) fun j _ hl => hlt j hl, List.take_length, List.drop_length, mergeG_nil_left]
theorem mergeG_hit (c : α) (l : List α) (k : Nat) (hk : k < l.length) (hlt : ∀ j (h : j < k) (hl : j < l.length), cmp (l[j]'hl) c < 0) (he : cmp l[k] c = 0) : mergeG cmp join l [c] = l.take k ++ join l[k] c :: l.drop (k + 1) := by
  rw [mergeG_ins c l k (by omega) hlt, List.drop_eq_getElem_cons hk, mergeG_eq he, mergeG_nil_right]
theorem mergeG_new (c : α) (l : List α) (k : Nat) (hk : k < l.length) (hlt : ∀ j (h : j < k) (hl : j < l.length), cmp (l[j]'hl) c < 0) (he : 0 < cmp l[k] c) : mergeG cmp join l [c] = l.take k ++ c :: l.drop k := by
  rw [mergeG_ins c l k (by omega) hlt, List.drop_eq_getElem_cons hk, mergeG_gt he, mergeG_nil_right]
end
/-- One by one. -/
def foldG {α : Type} (cmp : α → α → Int) (join : α → α → α) (l m : List α) : List α := m.foldl (fun l c => mergeG cmp join l [c]) l
theorem foldG_snoc {α : Type} (cmp : α → α → Int) (join : α → α → α) (l m : List α) (c : α) : foldG cmp join l (m ++ [c]) = mergeG cmp join (foldG cmp join l m) [c] := by
  unfold foldG; rw [List.foldl_append]; rfl
theorem foldG_len {α : Type} (cmp : α → α → Int) (join : α → α → α) (l m : List α) : (foldG cmp join l m).length ≤ l.length + m.length := by
  induction m generalizing l with
  | nil => exact Nat.le_refl _
  | cons c m ih =>
    have h1 := ih (mergeG cmp join l [c])
    have h2 := mergeG_len cmp join l [c]
    simp only [List.length_cons, List.length_nil] at h2 ⊢
    show (foldG cmp join (mergeG cmp join l [c]) m).length ≤ _
    omega
section
variable {α : Type} {κ : α → List UInt8} {join : α → α → α}
theorem mergeK_cons {c : α} {m : List α} (h : Up κ (c :: m)) : mergeK κ join [c] m = c :: m := by
  cases m with
  | nil => unfold mergeK; rw [mergeG_nil_right]
  | cons d m =>
    unfold mergeK
    rw [mergeG_lt (cmp := fun a b => cmpB (κ a) (κ b)) (show _ from h.head d (List.mem_cons_self ..)), mergeG_nil_left]
theorem foldK (p : α → Prop) (hκ : ∀ a b, κ (join a b) = κ a) (hp : ∀ a b, p a → p b → p (join a b)) (ja : ∀ a b c, p a → p b → p c → κ a = κ b → κ b = κ c → join (join a b) c = join a (join b c)) : ∀ {m l : List α}, Up κ l → Up κ m → (∀ a ∈ l, p a) → (∀ a ∈ m, p a) → foldG (fun a b => cmpB (κ a) (κ b)) join l m = mergeK κ join l m
  | [], l, _, _, _, _ => by unfold mergeK; rw [mergeG_nil_right]; rfl
  | c :: m, l, hl, hm, pl, pm => by
    have h1 : Up κ [c] := List.pairwise_singleton ..
    have pc := pm c (List.mem_cons_self ..)
    have pl' : ∀ a ∈ mergeK κ join l [c], p a := fun a ha => by
      rcases mem_mergeI ha with h | h | ⟨x, hx, y, hy, _, rfl⟩
      · exact pl a h
      · rw [List.mem_singleton.1 h]; exact pc
      · rw [List.mem_singleton.1 hy]; exact hp _ _ (pl x hx) pc
    have ih := foldK p hκ hp ja (m := m) (l := mergeK κ join l [c]) (hl.merge hκ h1) hm.tail pl' (fun a ha => pm a (List.mem_cons_of_mem _ ha))
    show foldG _ join (mergeK κ join l [c]) m = _
    rw [ih, mergeK_assoc hκ hl h1 hm.tail (fun a ha b hb d hd e1 e2 => ja a b d (pl a ha) (by rw [List.mem_singleton.1 hb]; exact pc) (pm d (List.mem_cons_of_mem _ hd)) e1 e2), mergeK_cons hm]
end
/-- The reference's join of rows. -/
def foldRo (a b : Ro) : Ro := ⟨a.key, joinCl a.live b.live, max a.gone b.gone, max a.shade b.shade, foldG keyC joinCo a.cols b.cols⟩
end Go.Proofs.Yteamiiekpjoclaa
