/- row.Join's two closures over columns: which comes first, what two are together. -/
import Derived.Test.YteamiiekpjoclaaM3
import Derived.Test.YteamiiekpjoclaaM9
import Derived.Test.YteamiiekpjoclaaM6
import Derived.Test.YteamiiekpjoclaaM1
import Derived.Test.YteamiiekpjoclaaM4
import Derived.Laws.MakeOwn
import Derived.OwnWalk
namespace Go.Proofs.Yteamiiekpjoclaa
open Go Go.RowKit
attribute [local go_sem] yields yUpon co5

/-- Two lists in order, those that stand for the same put together. -/
def mergeG {α : Type} (cmp : α → α → Int) (join : α → α → α) : List α → List α → List α
  | [], m => m
  | a :: l, [] => a :: l
  | a :: l, b :: m => if cmp a b < 0 then a :: mergeG cmp join l (b :: m) else if 0 < cmp a b then b :: mergeG cmp join (a :: l) m else join a b :: mergeG cmp join l m
termination_by l m => l.length + m.length
theorem mergeG_nil_left {α : Type} (cmp : α → α → Int) (join : α → α → α) (m : List α) : mergeG cmp join [] m = m := by unfold mergeG; rfl
theorem mergeG_nil_right {α : Type} (cmp : α → α → Int) (join : α → α → α) (l : List α) : mergeG cmp join l [] = l := by cases l <;> (unfold mergeG; rfl)
theorem mergeG_lt {α : Type} {cmp : α → α → Int} {join : α → α → α} {a b : α} {l m : List α} (h : cmp a b < 0) : mergeG cmp join (a :: l) (b :: m) = a :: mergeG cmp join l (b :: m) := by conv => lhs; unfold mergeG; rw [if_pos h]
theorem mergeG_gt {α : Type} {cmp : α → α → Int} {join : α → α → α} {a b : α} {l m : List α} (h : 0 < cmp a b) : mergeG cmp join (a :: l) (b :: m) = b :: mergeG cmp join (a :: l) m := by conv => lhs; unfold mergeG; rw [if_neg (by omega), if_pos h]
theorem mergeG_eq {α : Type} {cmp : α → α → Int} {join : α → α → α} {a b : α} {l m : List α} (h : cmp a b = 0) : mergeG cmp join (a :: l) (b :: m) = join a b :: mergeG cmp join l m := by conv => lhs; unfold mergeG; rw [if_neg (by omega), if_neg (by omega)]
theorem mergeG_len {α : Type} (cmp : α → α → Int) (join : α → α → α) (l m : List α) : (mergeG cmp join l m).length ≤ l.length + m.length := by
  fun_induction mergeG cmp join l m <;> simp at * <;> omega

def keyC (a b : Co) : Int := cmpB a.name.data.toList b.name.data.toList
def joinCo (a b : Co) : Co := ⟨a.name, joinCl a.cell b.cell⟩
def mergeCo (l m : List Co) : List Co := mergeG keyC joinCo l m

set_option maxHeartbeats 1000000 in
theorem rj1_any (a b : Co) (w : World) : Calls Try.prog 87 #[(.agg #[.string a.name, .string a.cell.val, .bool a.cell.dead, .int .i64 a.cell.at_, .int .i64 a.cell.fin]), (.agg #[.string b.name, .string b.cell.val, .bool b.cell.dead, .int .i64 b.cell.at_, .int .i64 b.cell.fin])] w fun e w' => e = .returned (.int .i64 (keyC a b)) ∧ Ext w w' := by
  go_enter Try.func87, Try.ntmps87
  go_wp2_with fail
  refine (strCompare_any _ _ _).mono ?_
  rintro e w1 ⟨rfl, rfl⟩
  go_wp2_with fail
  go_ret
  exact ⟨rfl, ((Ext.refl w).alloc _).alloc _⟩

set_option maxRecDepth 100000 in
set_option maxHeartbeats 2000000 in
theorem rj2_any (a b : Co) (w : World) : Calls Try.prog 88 #[(.agg #[.string a.name, .string a.cell.val, .bool a.cell.dead, .int .i64 a.cell.at_, .int .i64 a.cell.fin]), (.agg #[.string b.name, .string b.cell.val, .bool b.cell.dead, .int .i64 b.cell.at_, .int .i64 b.cell.fin])] w fun e w' => e = .returned (.agg #[.string a.name, .string (joinCl a.cell b.cell).val, .bool (joinCl a.cell b.cell).dead, .int .i64 (joinCl a.cell b.cell).at_, .int .i64 (joinCl a.cell b.cell).fin]) ∧ Ext w w' := by
  obtain ⟨a0, a1, a2, hE⟩ := boxes3 w (co5 a) (co5 b) (co5 ⟨⟨#[]⟩, zeroCl⟩) 58 58 58
  obtain ⟨c, hc⟩ : ∃ c, c = joinCl a.cell b.cell := ⟨_, rfl⟩
  rw [← hc]
  have Hc := Lib.hid hc
  clear hc
  go_enter Try.func88, Try.ntmps88
  go_wp2_with fail
  refine wp_region_in 8 [(6, fun v _ => v = (.agg #[.string c.val, .bool c.dead, .int .i64 c.at_, .int .i64 c.fin]))] (fun w0 => BoxAt w0 w.heap.size (co5 a) 58 ∧ BoxAt w0 (w.heap.size + 1) (co5 b) 58 ∧ BoxAt w0 (w.heap.size + 1 + 1) (co5 ⟨⟨#[]⟩, zeroCl⟩) 58 ∧ Ext w w0) (by kernel_rfl) (by kernel_rfl) (by kernel_rfl) ⟨stays_eq _, trivial⟩ ⟨a0, a1, a2, hE⟩ ?_
  clear a0 a1 a2 hE
  rintro w2 ⟨c0, c1, c2, hE⟩
  have FIN : Hid (∀ wx, Ext w2 wx → BoxAt wx (w.heap.size + 1 + 1) (co5 ⟨⟨#[]⟩, zeroCl⟩) 58 ∧ Ext w wx) := fun wx h => ⟨c2.ext h, hE.trans h⟩
  obtain ⟨x0, x1, x2, x3, x4⟩ := c0.co
  obtain ⟨y0, y1, y2, y3, y4⟩ := c1.co
  clear c0 c1 c2 hE
  replace x0 := held x0
  replace x1 := held x1
  replace x2 := held x2
  replace x3 := held x3
  replace x4 := held x4
  replace y1 := held y1
  replace y2 := held y2
  replace y3 := held y3
  replace y4 := held y4
  clear y0
  refine rg_quiet rfl rfl rfl rfl ?_; intro K hK; go_big_quiet_op; go_big_quiet_on
  refine rg_quiet rfl rfl rfl rfl ?_; intro K hK; go_big_quiet_op; go_big_quiet_on
  refine rg_quiet rfl rfl rfl rfl ?_; intro K hK; go_big_quiet_op; go_big_quiet_on
  refine rg_quiet rfl rfl rfl rfl ?_; intro K hK; go_big_quiet_op; go_big_quiet_on
  refine rg_quiet rfl rfl rfl rfl ?_; intro K hK; go_big_quiet_op; go_big_quiet_on
  refine rg_quiet rfl rfl rfl rfl ?_; intro K hK; go_big_quiet_op; go_big_quiet_on
  refine rg_val [] rfl rfl rfl (by kernel_rfl) (fun w1 hE hf => ?_) ?_
  · go_simp
    exact (join_c a.cell.val a.cell.dead a.cell.at_ a.cell.fin b.cell.val b.cell.dead b.cell.at_ b.cell.fin w1).mono fun e w' ⟨he, hw⟩ => ⟨_, he, rg_done hE hw (by rw [Hc.out])⟩
  simp only [Act.put, List.setIfInBounds_toArray, List.set_cons_zero, List.set_cons_succ]
  refine rg_quiet rfl rfl rfl rfl ?_; intro K hK; go_big_quiet_op; go_big_quiet_on
  refine rel_tail rfl rfl fun w5 hE5 hG => ?_
  obtain ⟨c2, hE⟩ := FIN.out w5 hE5
  clear x0 x1 x2 x3 x4 y1 y2 y3 y4 hE5 hG FIN
  go_wp2_with ((guard_target =~ wpList _ _ _ (Oper.mk none (Op.store _ (Operand.tmp 4) (Operand.tmp 12)) _ _ _ _ :: _) _ _); go_must (refine storeBox rfl 58 (.tmp 4) (.tmp 12) rfl (w.heap.size + 1 + 1) _ _ _ (by rfl) (by rfl) (c2) (by kernel_rfl) (by rfl) (by simp [Value.oneCell']) ?_); intro w6 c6 g6)
  have hX6 := hE.grown g6 (fun q hq => by cases hq; omega)
  clear hE g6 c2
  obtain ⟨z0, z1, z2, z3, z4⟩ := c6.co (c := ⟨a.name, c⟩)
  refine bodyPost_ret (v := .agg #[.string a.name, .string c.val, .bool c.dead, .int .i64 c.at_, .int .i64 c.fin]) ?_ rfl ⟨rfl, hX6⟩
  simp [results, Try.results88, go_sem, Act.put, z0, z1, z2, z3, z4]
end Go.Proofs.Yteamiiekpjoclaa

/- Lists that rise by their keys: what a merge of two holds under a key; merges are one way. -/
namespace Go.Proofs.Yteamiiekpjoclaa
open Go Go.RowKit

section
variable {α : Type} (κ : α → List UInt8)
/-- Keys rise. -/
def Up (l : List α) : Prop := l.Pairwise fun a b => cmpB (κ a) (κ b) < 0
/-- What stands under a key. -/
def getK : List α → List UInt8 → Option α
  | [], _ => none
  | a :: l, k => if κ a = k then some a else getK l k
def mergeK (join : α → α → α) (l m : List α) : List α := mergeG (fun a b => cmpB (κ a) (κ b)) join l m
/-- Two that may be none, put together. -/
def optJ (join : α → α → α) : Option α → Option α → Option α
  | some a, some b => some (join a b)
  | some a, none => some a
  | none, y => y
end
theorem cmpB_lt_trans {x y z : List UInt8} (h1 : cmpB x y < 0) (h2 : cmpB y z < 0) : cmpB x z < 0 := by
  have h := cmpB_trans (x := x) (y := y) (z := z) (by omega) (by omega)
  by_cases h0 : cmpB x z = 0
  · have e := cmpB_zero h0
    subst e
    have h3 := cmpB_anti x y
    omega
  · omega
section
variable {α : Type} {κ : α → List UInt8} {join : α → α → α}
theorem Up.tail {a : α} {l : List α} (h : Up κ (a :: l)) : Up κ l := (List.pairwise_cons.1 h).2
theorem Up.head {a : α} {l : List α} (h : Up κ (a :: l)) : ∀ b ∈ l, cmpB (κ a) (κ b) < 0 := (List.pairwise_cons.1 h).1
theorem getK_mem : ∀ {l : List α} {k : List UInt8} {x : α}, getK κ l k = some x → x ∈ l ∧ κ x = k
  | [], _, _, h => by cases h
  | a :: l, k, x, h => by
    unfold getK at h
    split at h
    · cases h; exact ⟨List.mem_cons_self .., by assumption⟩
    · obtain ⟨h1, h2⟩ := getK_mem h
      exact ⟨List.mem_cons_of_mem _ h1, h2⟩
theorem getK_none : ∀ {l : List α} {k : List UInt8}, (∀ a ∈ l, κ a ≠ k) → getK κ l k = none
  | [], _, _ => rfl
  | a :: l, k, h => by
    unfold getK
    rw [if_neg (h a (List.mem_cons_self ..)), getK_none fun b hb => h b (List.mem_cons_of_mem _ hb)]
theorem ne_of_lt {x y : List UInt8} (h : cmpB x y < 0) : x ≠ y := by
  rintro rfl
  rw [cmpB_self] at h
  omega
theorem getK_under {l : List α} {k : List UInt8} (h : ∀ a ∈ l, cmpB k (κ a) < 0) : getK κ l k = none := getK_none fun a ha e => ne_of_lt (h a ha) e.symm
theorem Up.lt_all {a : α} {l : List α} (h : Up κ (a :: l)) {k : List UInt8} (hk : cmpB k (κ a) < 0) : ∀ b ∈ a :: l, cmpB k (κ b) < 0 := by
  intro b hb
  rcases List.mem_cons.1 hb with rfl | hb
  · exact hk
  · exact cmpB_lt_trans hk (h.head b hb)
theorem getK_head (a : α) (l : List α) : getK κ (a :: l) (κ a) = some a := by unfold getK; rw [if_pos rfl]
theorem getK_of_mem : ∀ {l : List α} {x : α}, Up κ l → x ∈ l → getK κ l (κ x) = some x
  | a :: l, x, h, hx => by
    rcases List.mem_cons.1 hx with rfl | hx
    · exact getK_head _ _
    · unfold getK
      rw [if_neg (ne_of_lt (h.head x hx)), getK_of_mem h.tail hx]
/-- Rising lists that hold the same are the same. -/
theorem Up.ext : ∀ {l m : List α}, Up κ l → Up κ m → (∀ k, getK κ l k = getK κ m k) → l = m
  | [], [], _, _, _ => rfl
  | [], b :: m, _, _, h => by have := h (κ b); rw [getK_head] at this; cases this
  | a :: l, [], _, _, h => by have := h (κ a); rw [getK_head] at this; cases this
  | a :: l, b :: m, hl, hm, h => by
    rcases Int.lt_trichotomy (cmpB (κ a) (κ b)) 0 with hc | hc | hc
    · have := h (κ a)
      rw [getK_head, getK_under (hm.lt_all hc)] at this
      cases this
    · have e := cmpB_zero hc
      have h0 := h (κ a)
      rw [getK_head, e, getK_head] at h0
      cases h0
      rw [Up.ext hl.tail hm.tail fun k => ?_]
      by_cases hk : κ a = k
      · subst hk
        rw [getK_under hl.head, getK_under hm.head]
      · have := h k
        unfold getK at this
        rwa [if_neg hk, if_neg hk] at this
    · have hba : cmpB (κ b) (κ a) < 0 := by rw [cmpB_anti (κ a) (κ b)]; omega
      have := h (κ b)
      rw [getK_head, getK_under (hl.lt_all hba)] at this
      cases this
/-- Each of a merge's elements: of which key it is. -/
theorem mergeK_key (hκ : ∀ a b, κ (join a b) = κ a) {l m : List α} {x : α} (h : x ∈ mergeK κ join l m) : (∃ a ∈ l, κ a = κ x) ∨ ∃ b ∈ m, κ b = κ x := by
  unfold mergeK at h
  fun_induction mergeG (fun a b => cmpB (κ a) (κ b)) join l m with
  | case1 m => exact .inr ⟨x, h, rfl⟩
  | case2 a l => exact .inl ⟨x, h, rfl⟩
  | case3 a l b m hc ih =>
    rcases List.mem_cons.1 h with rfl | h
    · exact .inl ⟨x, List.mem_cons_self .., rfl⟩
    · exact (ih h).imp_left fun ⟨c, hc, e⟩ => ⟨c, List.mem_cons_of_mem _ hc, e⟩
  | case4 a l b m hc hc' ih =>
    rcases List.mem_cons.1 h with rfl | h
    · exact .inr ⟨x, List.mem_cons_self .., rfl⟩
    · exact (ih h).imp_right fun ⟨c, hc, e⟩ => ⟨c, List.mem_cons_of_mem _ hc, e⟩
  | case5 a l b m hc hc' ih =>
    rcases List.mem_cons.1 h with rfl | h
    · exact .inl ⟨a, List.mem_cons_self .., (hκ a b).symm⟩
    · exact (ih h).imp (fun ⟨c, hc, e⟩ => ⟨c, List.mem_cons_of_mem _ hc, e⟩) (fun ⟨c, hc, e⟩ => ⟨c, List.mem_cons_of_mem _ hc, e⟩)
theorem Up.merge (hκ : ∀ a b, κ (join a b) = κ a) {l m : List α} (hl : Up κ l) (hm : Up κ m) : Up κ (mergeK κ join l m) := by
  have far : ∀ {y : List UInt8} {l m : List α}, (∀ a ∈ l, cmpB y (κ a) < 0) → (∀ b ∈ m, cmpB y (κ b) < 0) → ∀ x ∈ mergeG (fun a b => cmpB (κ a) (κ b)) join l m, cmpB y (κ x) < 0 := by
    intro y l m h1 h2 x hx
    rcases mergeK_key hκ hx with ⟨c, hc, e⟩ | ⟨c, hc, e⟩
    · rw [← e]; exact h1 c hc
    · rw [← e]; exact h2 c hc
  unfold mergeK
  fun_induction mergeG (fun a b => cmpB (κ a) (κ b)) join l m with
  | case1 m => exact hm
  | case2 a l => exact hl
  | case3 a l b m hc ih => exact List.pairwise_cons.2 ⟨far hl.head (hm.lt_all hc), ih hl.tail hm⟩
  | case4 a l b m hc hc' ih =>
    have hba : cmpB (κ b) (κ a) < 0 := by rw [cmpB_anti (κ a) (κ b)]; omega
    exact List.pairwise_cons.2 ⟨far (hl.lt_all hba) hm.head, ih hl hm.tail⟩
  | case5 a l b m hc hc' ih =>
    have e : κ a = κ b := cmpB_zero (by omega)
    refine List.pairwise_cons.2 ⟨?_, ih hl.tail hm.tail⟩
    rw [hκ]
    exact far hl.head (fun y hy => by rw [e]; exact hm.head y hy)
/-- What stands under a key behind a merge. -/
theorem getK_merge (hκ : ∀ a b, κ (join a b) = κ a) {l m : List α} (hl : Up κ l) (hm : Up κ m) (k : List UInt8) : getK κ (mergeK κ join l m) k = optJ join (getK κ l k) (getK κ m k) := by
  unfold mergeK
  fun_induction mergeG (fun a b => cmpB (κ a) (κ b)) join l m with
  | case1 m => cases h : getK κ m k <;> simp [getK, optJ]
  | case2 a l => cases h : getK κ (a :: l) k <;> simp [getK, optJ]
  | case3 a l b m hc ih =>
    rw [getK, ih hl.tail hm]
    by_cases hk : κ a = k
    · subst hk
      rw [if_pos rfl, getK_head, getK_under (hm.lt_all hc)]
      rfl
    · rw [if_neg hk]
      conv => rhs; rw [getK, if_neg hk]
  | case4 a l b m hc hc' ih =>
    have hba : cmpB (κ b) (κ a) < 0 := by rw [cmpB_anti (κ a) (κ b)]; omega
    rw [getK, ih hl hm.tail]
    by_cases hk : κ b = k
    · subst hk
      rw [if_pos rfl, getK_head, getK_under (hl.lt_all hba)]
      rfl
    · rw [if_neg hk]
      conv => rhs; rw [show getK κ (b :: m) k = getK κ m k by rw [getK, if_neg hk]]
  | case5 a l b m hc hc' ih =>
    have e : κ a = κ b := cmpB_zero (by omega)
    rw [getK, hκ, ih hl.tail hm.tail]
    by_cases hk : κ a = k
    · subst hk
      rw [if_pos rfl, getK_head, e, getK_head]
      rfl
    · rw [if_neg hk]
      conv => rhs; rw [getK, if_neg hk, show getK κ (b :: m) k = getK κ m k by rw [getK, if_neg (e ▸ hk)]]

theorem mergeK_comm (hκ : ∀ a b, κ (join a b) = κ a) {l m : List α} (hl : Up κ l) (hm : Up κ m) (hj : ∀ a ∈ l, ∀ b ∈ m, κ a = κ b → join a b = join b a) : mergeK κ join l m = mergeK κ join m l := by
  refine Up.ext (hl.merge hκ hm) (hm.merge hκ hl) fun k => ?_
  rw [getK_merge hκ hl hm, getK_merge hκ hm hl]
  cases h1 : getK κ l k <;> cases h2 : getK κ m k <;> simp only [optJ]
  obtain ⟨a1, a2⟩ := getK_mem h1
  obtain ⟨b1, b2⟩ := getK_mem h2
  rw [hj _ a1 _ b1 (a2.trans b2.symm)]
theorem mergeK_assoc (hκ : ∀ a b, κ (join a b) = κ a) {l m n : List α} (hl : Up κ l) (hm : Up κ m) (hn : Up κ n) (hj : ∀ a ∈ l, ∀ b ∈ m, ∀ c ∈ n, κ a = κ b → κ b = κ c → join (join a b) c = join a (join b c)) :
    mergeK κ join (mergeK κ join l m) n = mergeK κ join l (mergeK κ join m n) := by
  refine Up.ext ((hl.merge hκ hm).merge hκ hn) (hl.merge hκ (hm.merge hκ hn)) fun k => ?_
  rw [getK_merge hκ (hl.merge hκ hm) hn, getK_merge hκ hl (hm.merge hκ hn), getK_merge hκ hl hm, getK_merge hκ hm hn]
  cases h1 : getK κ l k <;> cases h2 : getK κ m k <;> cases h3 : getK κ n k <;> simp only [optJ]
  obtain ⟨a1, a2⟩ := getK_mem h1
  obtain ⟨b1, b2⟩ := getK_mem h2
  obtain ⟨c1, c2⟩ := getK_mem h3
  rw [hj _ a1 _ b1 _ c1 (a2.trans b2.symm) (b2.trans c2.symm)]
theorem mergeK_self (hκ : ∀ a b, κ (join a b) = κ a) {l : List α} (hl : Up κ l) (hj : ∀ a ∈ l, join a a = a) : mergeK κ join l l = l := by
  refine Up.ext (hl.merge hκ hl) hl fun k => ?_
  rw [getK_merge hκ hl hl]
  cases h1 : getK κ l k <;> simp only [optJ]
  rw [hj _ (getK_mem h1).1]
/-- A rising list whose keys are among rising keys is not longer than they. -/
theorem Up.len {K : List (List UInt8)} : ∀ {l : List α}, Up κ l → (∀ a ∈ l, κ a ∈ K) → l.length ≤ K.length := by
  induction K with
  | nil =>
    intro l _ h
    cases l with
    | nil => exact Nat.le_refl _
    | cons a l => cases h a (List.mem_cons_self ..)
  | cons k K ih =>
    intro l hl h
    by_cases hx : ∃ a ∈ l, κ a = k
    · obtain ⟨a, ha, e⟩ := hx
      obtain ⟨s, t, rfl⟩ := List.append_of_mem ha
      have h2 : Up κ (s ++ t) := hl.sublist (List.Sublist.append (List.Sublist.refl s) (List.sublist_cons_self a t))
      have h3 := ih h2 (fun b hb => by
        have hb' : b ∈ s ++ a :: t := by
          rcases List.mem_append.1 hb with h | h
          · exact List.mem_append_left _ h
          · exact List.mem_append_right _ (List.mem_cons_of_mem _ h)
        rcases List.mem_cons.1 (h b hb') with e' | h'
        · exfalso
          obtain ⟨_, p2, p3⟩ := List.pairwise_append.1 hl
          rcases List.mem_append.1 hb with hb | hb
          · exact ne_of_lt (p3 b hb a (List.mem_cons_self ..)) (e'.trans e.symm)
          · exact ne_of_lt ((List.pairwise_cons.1 p2).1 b hb) (e.trans e'.symm)
        · exact h')
      simp only [List.length_append, List.length_cons] at h3 ⊢
      omega
    · have := ih hl (fun b hb => by
        rcases List.mem_cons.1 (h b hb) with e | h'
        · exact absurd ⟨b, hb, e⟩ hx
        · exact h')
      simp only [List.length_cons]
      omega
end

/-! ### Columns -/
def kCo (c : Co) : List UInt8 := c.name.data.toList
theorem mergeCo_K (l m : List Co) : mergeCo l m = mergeK kCo joinCo l m := rfl
theorem kCo_join (a b : Co) : kCo (joinCo a b) = kCo a := rfl
theorem name_of {a b : Co} (h : kCo a = kCo b) : a.name = b.name := by
  apply ByteArray.ext
  exact Array.toList_inj.1 h
theorem joinCo_comm {a b : Co} (h : kCo a = kCo b) : joinCo a b = joinCo b a := by
  unfold joinCo
  rw [name_of h, joinCl_comm]
theorem joinCo_assoc (a b c : Co) : joinCo (joinCo a b) c = joinCo a (joinCo b c) := by
  unfold joinCo
  simp only [joinCl_assoc]
theorem joinCo_self (a : Co) : joinCo a a = a := by
  unfold joinCo
  rw [joinCl_self]
theorem mergeCo_comm {l m : List Co} (hl : Up kCo l) (hm : Up kCo m) : mergeCo l m = mergeCo m l := mergeK_comm kCo_join hl hm fun _ _ _ _ h => joinCo_comm h
theorem mergeCo_assoc {l m n : List Co} (hl : Up kCo l) (hm : Up kCo m) (hn : Up kCo n) : mergeCo (mergeCo l m) n = mergeCo l (mergeCo m n) := mergeK_assoc kCo_join hl hm hn fun _ _ _ _ _ _ _ _ => joinCo_assoc _ _ _
theorem mergeCo_self {l : List Co} (hl : Up kCo l) : mergeCo l l = l := mergeK_self kCo_join hl fun _ _ => joinCo_self _
theorem mergeCo_up {l m : List Co} (hl : Up kCo l) (hm : Up kCo m) : Up kCo (mergeCo l m) := hl.merge kCo_join hm
theorem mem_mergeCo {l m : List Co} {x : Co} (h : x ∈ mergeCo l m) : (x ∈ l ∨ x ∈ m) ∨ ∃ a ∈ l, ∃ b ∈ m, a.name = b.name ∧ x = ⟨a.name, joinCl a.cell b.cell⟩ := by
  unfold mergeCo at h
  fun_induction mergeG keyC joinCo l m with
  | case1 m => exact .inl (.inr h)
  | case2 a l => exact .inl (.inl h)
  | case3 a l b m hc ih =>
    rcases List.mem_cons.1 h with rfl | h
    · exact .inl (.inl (List.mem_cons_self ..))
    · rcases ih h with (h | h) | ⟨y, hy, z, hz, e⟩
      · exact .inl (.inl (List.mem_cons_of_mem _ h))
      · exact .inl (.inr h)
      · exact .inr ⟨y, List.mem_cons_of_mem _ hy, z, hz, e⟩
  | case4 a l b m hc hc' ih =>
    rcases List.mem_cons.1 h with rfl | h
    · exact .inl (.inr (List.mem_cons_self ..))
    · rcases ih h with (h | h) | ⟨y, hy, z, hz, e⟩
      · exact .inl (.inl h)
      · exact .inl (.inr (List.mem_cons_of_mem _ h))
      · exact .inr ⟨y, hy, z, List.mem_cons_of_mem _ hz, e⟩
  | case5 a l b m hc hc' ih =>
    rcases List.mem_cons.1 h with rfl | h
    · exact .inr ⟨a, List.mem_cons_self .., b, List.mem_cons_self .., name_of (cmpB_zero (show cmpB (kCo a) (kCo b) = 0 by have h1 : keyC a b = cmpB (kCo a) (kCo b) := rfl; omega)), rfl⟩
    · rcases ih h with (h | h) | ⟨y, hy, z, hz, e⟩
      · exact .inl (.inl (List.mem_cons_of_mem _ h))
      · exact .inl (.inr (List.mem_cons_of_mem _ h))
      · exact .inr ⟨y, List.mem_cons_of_mem _ hy, z, List.mem_cons_of_mem _ hz, e⟩
end Go.Proofs.Yteamiiekpjoclaa

/- row.Merge over columns. -/
namespace Go.Proofs.Yteamiiekpjoclaa
open Go Go.RowKit
attribute [local go_sem] yields yUpon co5

theorem ColsIn.uncons {w : World} {v : Value} {l : List Co} (h : ColsIn w v l) (hl : 0 < l.length) : ∃ b o c A l', l = A :: l' ∧ v = .slice (some ⟨b, o, none⟩) l.length c ∧ l.length ≤ c ∧ c ≤ 9223372036854775807 ∧ CoAt w b o A ∧ ColsIn w (.slice (if c = 1 then some ⟨b, o, none⟩ else some ⟨b, o + 5, none⟩) (l.length - 1) (c - 1)) l' := by
  obtain ⟨a, c, rfl, hc, hcm, hg⟩ := h.get
  obtain ⟨b, o, rfl, h0⟩ := hg 0 hl
  cases l with
  | nil => cases hl
  | cons A l' =>
    refine ⟨b, o, c, A, l', rfl, rfl, hc, hcm, by simpa using h0, ?_⟩
    obtain ⟨a', c', e, hc', hcm', ha', hcell⟩ := h
    cases e
    refine ⟨if c = 1 then some ⟨b, o, none⟩ else some ⟨b, o + 5, none⟩, c - 1, by simp, by simp at hc' ⊢; omega, by unfold maxLen; omega, (by intro h; split at h <;> cases h), fun j u hj => ?_⟩
    obtain ⟨b', o', e, hx⟩ := hcell (j + 5) u (by simpa [coCells] using hj)
    cases e
    by_cases h1 : c = 1
    · have h2 : l' = [] := List.eq_nil_of_length_eq_zero (by simp at hc'; omega)
      subst h2
      cases hj
    · rw [if_neg h1]
      exact ⟨b, o + 5, rfl, by rw [Nat.add_assoc, Nat.add_comm 5 j]; exact hx⟩

/-- What stays true in a round's region: the row under way may be appended to. -/
structure MC (w wr : World) (vo : Value) (out : List Co) (x : World) : Prop where
  ext : Ext w x
  own : x.ownsRow w.heap.size 58 5 vo out.length (coCells out)
  size : wr.heap.size ≤ x.heap.size
theorem MC.ext' {w wr : World} {vo : Value} {out : List Co} {x y : World} (hE : Ext x y) (h : MC w wr vo out x) : MC w wr vo out y := ⟨h.ext.trans hE, ownsRow_ext h.own hE, Nat.le_trans h.size hE.le⟩
def ME (vo : Value) (n j : Nat) (x y : World) : Prop := if j = n then x.grownBy y vo.ownBlock else Ext x y
theorem ME_ext {vo : Value} {n j : Nat} {x y : World} (h : Ext x y) : ME vo n j x y := by
  unfold ME
  split
  · exact grownBy_ext (grownBy_refl x _) h
  · exact h
theorem ME_off {vo : Value} {n j : Nat} (hj : j ≠ n) {x y : World} (h : ME vo n j x y) : Ext x y := by
  unfold ME at h
  rwa [if_neg hj] at h
theorem ME_box {w wr : World} {vo : Value} {n j m s : Nat} {T : TypeId} {xs : List Value} (hown : wr.ownsRow w.heap.size T s vo m xs) {x y : World} (h : ME vo n j x y) {b : Nat} (hb : wr.heap.size ≤ b) {cs : Array Value} {e : TypeId} (hx : BoxAt x b cs e) : BoxAt y b cs e := by
  unfold ME at h
  split at h
  · exact hx.grown h (fun e => by have := (hown.lt _ e.symm).2; omega)
  · exact hx.ext h

set_option maxRecDepth 100000 in
set_option maxHeartbeats 4000000 in
theorem mergeCo_any (va vb : Value) (la lb : List Co) (w : World) (ha : ColsIn w va la) (hb : ColsIn w vb lb) (hlen : la.length + lb.length ≤ 1000000) :
    Calls Try.prog 86 #[va, vb, .func (.func 87) #[] #[], .func (.func 88) #[] #[]] w fun e w' => ∃ v', e = .returned v' ∧ w'.ownsRow w.heap.size 58 5 v' (mergeCo la lb).length (coCells (mergeCo la lb)) ∧ Ext w w' := by
  obtain ⟨i0, hi, hz0, hz1, hz2⟩ := info_parts info_Col
  obtain ⟨aa, ca, rfl, hca, hcma, _⟩ := ha.get
  obtain ⟨ab, cb, rfl, hcb, hcmb, _⟩ := hb.get
  go_enter Try.func86, Try.ntmps86
  go_wp2_with (at_make; go_must (refine wpList_make_own _ rfl _ _ 53 rfl w.heap.size 58 i0 _ 5 und_Cols hi hz0 hz1 _ _ _ (la.length + lb.length) rfl rfl (by omega) ?b2 ?b3 (Nat.le_refl _) ?_))
  case b2 => rw [hz2]; omega
  case b3 => unfold maxLen; omega
  intro w0 hown0 hgrow0
  go_wp2
  go_loopw [0, 1, 9] (fun sa sb so wr => ∃ (l m out : List Co), ColsIn w sa l ∧ ColsIn w sb m ∧ wr.ownsRow w.heap.size 58 5 so out.length (coCells out) ∧ Ext w wr ∧ Hid (mergeCo la lb = out ++ mergeCo l m) ∧ out.length + l.length + m.length ≤ la.length + lb.length) (fun sa sb _ _ => lenOf sa + lenOf sb)
  case atStart => exact ⟨la, lb, [], ha, hb, hown0, (Ext.refl w).grown hgrow0 (fun q hq => by cases hq), rfl, by simp⟩
  case round =>
    obtain ⟨l, m, out, hl, hm, hown, hE, HM, hsum⟩ := hrel
    by_cases h1 : 0 < l.length
    · by_cases h2 : 0 < m.length
      · obtain ⟨b1, o1, c1, A, l', hll, rfl, hc1, hcm1, hA, hl'⟩ := hl.uncons h1
        obtain ⟨b2, o2, c2, B, m', hmm, rfl, hc2, hcm2, hB, hm'⟩ := hm.uncons h2
        have h1' : decide ((0 : Int) < (l.length : Int)) = true := decide_eq_true (by omega)
        have h2' : decide ((0 : Int) < (m.length : Int)) = true := decide_eq_true (by omega)
        have HL := Lib.hid hll
        have HN := Lib.hid hmm
        clear hll hmm
        go_wp2_with fail
        refine wp_region_in 9 [(7, fun v _ => v = .int .i64 (keyC A B))] (fun x => Ext w x ∧ wr.heap.size ≤ x.heap.size ∧ x.ownsRow w.heap.size 58 5 u9 out.length (coCells out)) (by kernel_rfl) (by kernel_rfl) (by kernel_rfl) ⟨stays_eq _, trivial⟩ ⟨hE, Nat.le_refl _, hown⟩ ?_
        clear hE
        rintro w1 ⟨hE, hle, hown1⟩
        have FIN : Hid (∀ wx, Ext w1 wx → Ext w wx ∧ wr.heap.size ≤ wx.heap.size ∧ wx.ownsRow w.heap.size 58 5 u9 out.length (coCells out)) := fun wx h => ⟨hE.trans h, Nat.le_trans hle h.le, ownsRow_ext hown1 h⟩
        obtain ⟨x0, x1, x2, x3, x4⟩ := hA.ext hE
        obtain ⟨y0, y1, y2, y3, y4⟩ := hB.ext hE
        replace x0 := held x0
        replace x1 := held x1
        replace x2 := held x2
        replace x3 := held x3
        replace x4 := held x4
        replace y0 := held y0
        replace y1 := held y1
        replace y2 := held y2
        replace y3 := held y3
        replace y4 := held y4
        clear hE hle hown1
        refine rg_quiet rfl rfl rfl rfl ?_; intro K hK; go_big_quiet_op; go_big_quiet_on
        refine rg_quiet rfl rfl rfl rfl ?_; intro K hK; go_big_quiet_op; go_big_quiet_on
        refine rg_quiet rfl rfl rfl rfl ?_; intro K hK; go_big_quiet_op; go_big_quiet_on
        refine rg_quiet rfl rfl rfl rfl ?_; intro K hK; go_big_quiet_op; go_big_quiet_on
        refine rg_quiet rfl rfl rfl rfl ?_; intro K hK; go_big_quiet_op; go_big_quiet_on
        refine rg_quiet rfl rfl rfl rfl ?_; intro K hK; go_big_quiet_op; go_big_quiet_on
        refine rg_quiet rfl rfl rfl rfl ?_; intro K hK; go_big_quiet_op; go_big_quiet_on
        refine rg_val [] rfl rfl rfl (by kernel_rfl) (fun w1 hE hf => ?_) ?_
        · go_simp
          exact (rj1_any A B w1).mono fun e w' ⟨he, hw⟩ => ⟨_, he, rg_done hE hw (rfl)⟩
        simp only [Act.put, List.setIfInBounds_toArray, List.set_cons_zero, List.set_cons_succ]
        refine rg_quiet rfl rfl rfl rfl ?_; intro K hK; go_big_quiet_op; go_big_quiet_on
        refine rel_nil fun w2 hE2 _ => ?_
        obtain ⟨hE2', hle, hown2⟩ := FIN.out w2 hE2
        clear x0 x1 x2 x3 x4 y0 y1 y2 y3 y4 FIN hE2
        have hE2 := hE2'
        clear hE2'
        obtain ⟨kc, hkc⟩ : ∃ kc, kc = keyC A B := ⟨_, rfl⟩
        rw [← hkc]
        have HK := Lib.hid hkc
        clear hkc
        have hsz2 : wr.heap.size ≤ w2.heap.size := hle
        by_cases k1 : kc < 0
        · go_wp2_with fail
          refine wp_region_relE (MC w wr u9 out) (ME u9 5) (Tab.atE [(3, fun v _ => v = (.agg #[.string A.name, .string A.cell.val, .bool A.cell.dead, .int .i64 A.cell.at_, .int .i64 A.cell.fin])), (4, fun v x => ∃ b, v = .slice (some ⟨b, 0, none⟩) 1 1 ∧ wr.heap.size ≤ b ∧ BoxAt x b (co5 A) 58), (5, fun v x => x.ownsRow w.heap.size 58 5 v (out.length + 1) (coCells (out ++ [A])))])
            (Tab.staysE ⟨fun _ _ _ _ _ _ h => h, fun j _ v x y hR ⟨b, e, hb, hx⟩ => ⟨b, e, hb, ME_box hown hR hb hx⟩, fun j hj v x y hR h => ownsRow_ext h (ME_off hj hR), trivial⟩)
            12 (by kernel_rfl) (by kernel_rfl) (by kernel_rfl) ((⟨hE2, hown2, hsz2⟩ : MC w wr u9 out w2).ext' (Ext.refl w2).drew) ?_
          refine relE_quiet rfl rfl rfl rfl ?_; intro K hK; go_big_quiet_op; (first | refine ⟨_, fun _ _ => rfl, hK _ ?_⟩ | refine hK _ ?_); clear hK K
          refine relE_quiet rfl rfl rfl rfl ?_; intro K hK; go_big_quiet_op; (first | refine ⟨_, fun _ _ => rfl, hK _ ?_⟩ | refine hK _ ?_); clear hK K
          refine relE_quiet rfl rfl rfl rfl ?_; intro K hK; go_big_quiet_op; (first | refine ⟨_, fun _ _ => rfl, hK _ ?_⟩ | refine hK _ ?_); clear hK K
          refine relE_val [] rfl rfl rfl (by kernel_rfl) (fun z hz hf => ?_) ?_
          · obtain ⟨x0, x1, x2, x3, x4⟩ := hA.ext hz.ext
            go_simp
            exact ⟨hz, ME_ext (Ext.refl z), rfl⟩
          simp only [Act.put, List.setIfInBounds_toArray, List.set_cons_zero, List.set_cons_succ]
          refine relE_fact [] rfl rfl rfl (by kernel_rfl) (fun z hz hf => ?_) (fun v4 z4 hC4 hG4 h4 => ?_)
          · go_simp
            exact ⟨hz.ext' ((Ext.refl z).alloc _), ME_ext ((Ext.refl z).alloc _), _, rfl, hz.size, BoxAt.made z _ _⟩
          obtain ⟨b4, rfl, hb4, _⟩ := h4
          have HB4 := Lib.hid hb4
          clear hC4 hG4 hb4
          simp only [Act.put, List.setIfInBounds_toArray, List.set_cons_zero, List.set_cons_succ]
          refine relE_fact [4] rfl rfl rfl (by kernel_rfl) (fun z hz hf => ?_) (fun v5 z5 hC5 hG5 h5 => ?_)
          · obtain ⟨b, e, _, hbox⟩ := (hf 4 (by simp)).2 rfl
            cases e
            refine yields_append info_Col und_Cols rfl (by decide) (.tmp 51) (.tmp 55) rfl w.heap.size hz.ext.le u9 out.length (coCells out) hz.own (by rfl) b4 1 1 (co5 A).toList (by rfl) (by rfl) (fun j u hj => by rw [hbox.cell j]; simpa using hj) (by simp [co5, Value.oneCell']) (by unfold maxLen; omega) (by omega) ?_
            intro v' y hown' hg hkeep
            refine ⟨⟨hz.ext.grown hg (fun q hq => (hz.own.lt q hq).1), hkeep, Nat.le_trans hz.size hg.size⟩, by unfold ME; rw [if_pos rfl]; exact hg, ?_⟩
            rw [coCells_append]
            exact hown'
          obtain ⟨a5, c5, rfl⟩ := own_shape h5
          clear hC5 hG5 h5
          simp only [Act.put, List.setIfInBounds_toArray, List.set_cons_zero, List.set_cons_succ]
          refine relE_quiet rfl rfl rfl rfl ?_; intro K hK; go_big_quiet_op; (first | refine ⟨_, fun _ _ => rfl, hK _ ?_⟩ | refine hK _ ?_); clear hK K
          refine relE_quiet rfl rfl rfl rfl ?_; intro K hK; go_big_quiet_op; (first | refine ⟨_, fun _ _ => rfl, hK _ ?_⟩ | refine hK _ ?_); clear hK K
          refine relE_quiet rfl rfl rfl rfl ?_; intro K hK; go_big_quiet_op; (first | refine ⟨_, fun _ _ => rfl, hK _ ?_⟩ | refine hK _ ?_); clear hK K
          refine relE_quiet rfl rfl rfl rfl ?_; intro K hK; go_big_quiet_op; (first | refine ⟨_, fun _ _ => rfl, hK _ ?_⟩ | refine hK _ ?_); clear hK K
          refine relE_nil fun w9 hC hG => ?_
          have hown9 := (hG 5).2 rfl
          have hE9 := hC.ext
          clear hC hG HB4 hown hE2 hown2 hsz2
          go_wp2_with fail
          go_roundw
          case rel =>
            refine ⟨l', m, out ++ [A], hl', hm, by rw [List.length_append]; exact hown9, hE9, ?_, by have := congrArg List.length HL.out; simp at this ⊢; omega⟩
            show mergeCo la lb = _
            rw [HM.out, HL.out, HN.out, List.append_assoc]
            unfold mergeCo
            rw [mergeG_lt (by rw [← HK.out]; exact k1)]
            rfl
          case measure => simp [lenOf] <;> omega
        · by_cases k2 : 0 < kc
          · go_wp2_with fail
            refine wp_region_relE (MC w wr u9 out) (ME u9 5) (Tab.atE [(3, fun v _ => v = (.agg #[.string B.name, .string B.cell.val, .bool B.cell.dead, .int .i64 B.cell.at_, .int .i64 B.cell.fin])), (4, fun v x => ∃ b, v = .slice (some ⟨b, 0, none⟩) 1 1 ∧ wr.heap.size ≤ b ∧ BoxAt x b (co5 B) 58), (5, fun v x => x.ownsRow w.heap.size 58 5 v (out.length + 1) (coCells (out ++ [B])))])
              (Tab.staysE ⟨fun _ _ _ _ _ _ h => h, fun j _ v x y hR ⟨b, e, hb, hx⟩ => ⟨b, e, hb, ME_box hown hR hb hx⟩, fun j hj v x y hR h => ownsRow_ext h (ME_off hj hR), trivial⟩)
              12 (by kernel_rfl) (by kernel_rfl) (by kernel_rfl) ((⟨hE2, hown2, hsz2⟩ : MC w wr u9 out w2).ext' (Ext.refl w2).drew) ?_
            refine relE_quiet rfl rfl rfl rfl ?_; intro K hK; go_big_quiet_op; (first | refine ⟨_, fun _ _ => rfl, hK _ ?_⟩ | refine hK _ ?_); clear hK K
            refine relE_quiet rfl rfl rfl rfl ?_; intro K hK; go_big_quiet_op; (first | refine ⟨_, fun _ _ => rfl, hK _ ?_⟩ | refine hK _ ?_); clear hK K
            refine relE_quiet rfl rfl rfl rfl ?_; intro K hK; go_big_quiet_op; (first | refine ⟨_, fun _ _ => rfl, hK _ ?_⟩ | refine hK _ ?_); clear hK K
            refine relE_val [] rfl rfl rfl (by kernel_rfl) (fun z hz hf => ?_) ?_
            · obtain ⟨x0, x1, x2, x3, x4⟩ := hB.ext hz.ext
              go_simp
              exact ⟨hz, ME_ext (Ext.refl z), rfl⟩
            simp only [Act.put, List.setIfInBounds_toArray, List.set_cons_zero, List.set_cons_succ]
            refine relE_fact [] rfl rfl rfl (by kernel_rfl) (fun z hz hf => ?_) (fun v4 z4 hC4 hG4 h4 => ?_)
            · go_simp
              exact ⟨hz.ext' ((Ext.refl z).alloc _), ME_ext ((Ext.refl z).alloc _), _, rfl, hz.size, BoxAt.made z _ _⟩
            obtain ⟨b4, rfl, hb4, _⟩ := h4
            have HB4 := Lib.hid hb4
            clear hC4 hG4 hb4
            simp only [Act.put, List.setIfInBounds_toArray, List.set_cons_zero, List.set_cons_succ]
            refine relE_fact [4] rfl rfl rfl (by kernel_rfl) (fun z hz hf => ?_) (fun v5 z5 hC5 hG5 h5 => ?_)
            · obtain ⟨b, e, _, hbox⟩ := (hf 4 (by simp)).2 rfl
              cases e
              refine yields_append info_Col und_Cols rfl (by decide) (.tmp 62) (.tmp 66) rfl w.heap.size hz.ext.le u9 out.length (coCells out) hz.own (by rfl) b4 1 1 (co5 B).toList (by rfl) (by rfl) (fun j u hj => by rw [hbox.cell j]; simpa using hj) (by simp [co5, Value.oneCell']) (by unfold maxLen; omega) (by omega) ?_
              intro v' y hown' hg hkeep
              refine ⟨⟨hz.ext.grown hg (fun q hq => (hz.own.lt q hq).1), hkeep, Nat.le_trans hz.size hg.size⟩, by unfold ME; rw [if_pos rfl]; exact hg, ?_⟩
              rw [coCells_append]
              exact hown'
            obtain ⟨a5, c5, rfl⟩ := own_shape h5
            clear hC5 hG5 h5
            simp only [Act.put, List.setIfInBounds_toArray, List.set_cons_zero, List.set_cons_succ]
            refine relE_quiet rfl rfl rfl rfl ?_; intro K hK; go_big_quiet_op; (first | refine ⟨_, fun _ _ => rfl, hK _ ?_⟩ | refine hK _ ?_); clear hK K
            refine relE_quiet rfl rfl rfl rfl ?_; intro K hK; go_big_quiet_op; (first | refine ⟨_, fun _ _ => rfl, hK _ ?_⟩ | refine hK _ ?_); clear hK K
            refine relE_quiet rfl rfl rfl rfl ?_; intro K hK; go_big_quiet_op; (first | refine ⟨_, fun _ _ => rfl, hK _ ?_⟩ | refine hK _ ?_); clear hK K
            refine relE_quiet rfl rfl rfl rfl ?_; intro K hK; go_big_quiet_op; (first | refine ⟨_, fun _ _ => rfl, hK _ ?_⟩ | refine hK _ ?_); clear hK K
            refine relE_nil fun w9 hC hG => ?_
            have hown9 := (hG 5).2 rfl
            have hE9 := hC.ext
            clear hC hG HB4 hown hE2 hown2 hsz2
            go_wp2_with fail
            go_roundw
            case rel =>
              refine ⟨l, m', out ++ [B], hl, hm', by rw [List.length_append]; exact hown9, hE9, ?_, by have := congrArg List.length HN.out; simp at this ⊢; omega⟩
              show mergeCo la lb = _
              rw [HM.out, HL.out, HN.out, List.append_assoc]
              unfold mergeCo
              rw [mergeG_gt (by rw [← HK.out]; exact k2)]
              rfl
            case measure => simp [lenOf] <;> omega
          · obtain ⟨J, hJ⟩ : ∃ J, J = joinCo A B := ⟨_, rfl⟩
            have HJ := Lib.hid hJ
            clear hJ
            go_wp2_with fail
            refine wp_region_relE (MC w wr u9 out) (ME u9 10) (Tab.atE [(4, fun v _ => v = (.agg #[.string A.name, .string A.cell.val, .bool A.cell.dead, .int .i64 A.cell.at_, .int .i64 A.cell.fin])), (7, fun v _ => v = (.agg #[.string B.name, .string B.cell.val, .bool B.cell.dead, .int .i64 B.cell.at_, .int .i64 B.cell.fin])), (8, fun v _ => v = (.agg #[.string J.name, .string J.cell.val, .bool J.cell.dead, .int .i64 J.cell.at_, .int .i64 J.cell.fin])), (9, fun v x => ∃ b, v = .slice (some ⟨b, 0, none⟩) 1 1 ∧ wr.heap.size ≤ b ∧ BoxAt x b (co5 J) 58), (10, fun v x => x.ownsRow w.heap.size 58 5 v (out.length + 1) (coCells (out ++ [J])))])
              (Tab.staysE ⟨fun _ _ _ _ _ _ h => h, fun _ _ _ _ _ _ h => h, fun _ _ _ _ _ _ h => h, fun j _ v x y hR ⟨b, e, hb, hx⟩ => ⟨b, e, hb, ME_box hown hR hb hx⟩, fun j hj v x y hR h => ownsRow_ext h (ME_off hj hR), trivial⟩)
              20 (by kernel_rfl) (by kernel_rfl) (by kernel_rfl) ((⟨hE2, hown2, hsz2⟩ : MC w wr u9 out w2).ext' (Ext.refl w2).drew) ?_
            refine relE_quiet rfl rfl rfl rfl ?_; intro K hK; go_big_quiet_op; (first | refine ⟨_, fun _ _ => rfl, hK _ ?_⟩ | refine hK _ ?_); clear hK K
            refine relE_quiet rfl rfl rfl rfl ?_; intro K hK; go_big_quiet_op; (first | refine ⟨_, fun _ _ => rfl, hK _ ?_⟩ | refine hK _ ?_); clear hK K
            refine relE_quiet rfl rfl rfl rfl ?_; intro K hK; go_big_quiet_op; (first | refine ⟨_, fun _ _ => rfl, hK _ ?_⟩ | refine hK _ ?_); clear hK K
            refine relE_quiet rfl rfl rfl rfl ?_; intro K hK; go_big_quiet_op; (first | refine ⟨_, fun _ _ => rfl, hK _ ?_⟩ | refine hK _ ?_); clear hK K
            refine relE_val [] rfl rfl rfl (by kernel_rfl) (fun z hz hf => ?_) ?_
            · obtain ⟨x0, x1, x2, x3, x4⟩ := hA.ext hz.ext
              go_simp
              exact ⟨hz, ME_ext (Ext.refl z), rfl⟩
            simp only [Act.put, List.setIfInBounds_toArray, List.set_cons_zero, List.set_cons_succ]
            refine relE_quiet rfl rfl rfl rfl ?_; intro K hK; go_big_quiet_op; (first | refine ⟨_, fun _ _ => rfl, hK _ ?_⟩ | refine hK _ ?_); clear hK K
            refine relE_quiet rfl rfl rfl rfl ?_; intro K hK; go_big_quiet_op; (first | refine ⟨_, fun _ _ => rfl, hK _ ?_⟩ | refine hK _ ?_); clear hK K
            refine relE_val [] rfl rfl rfl (by kernel_rfl) (fun z hz hf => ?_) ?_
            · obtain ⟨x0, x1, x2, x3, x4⟩ := hB.ext hz.ext
              go_simp
              exact ⟨hz, ME_ext (Ext.refl z), rfl⟩
            simp only [Act.put, List.setIfInBounds_toArray, List.set_cons_zero, List.set_cons_succ]
            refine relE_val [] rfl rfl rfl (by kernel_rfl) (fun z hz hf => ?_) ?_
            · go_simp
              exact (rj2_any A B z).mono fun e y ⟨he, hy⟩ => ⟨_, he, hz.ext' hy, ME_ext hy, by rw [HJ.out]; rfl⟩
            simp only [Act.put, List.setIfInBounds_toArray, List.set_cons_zero, List.set_cons_succ]
            refine relE_fact [] rfl rfl rfl (by kernel_rfl) (fun z hz hf => ?_) (fun v4 z4 hC4 hG4 h4 => ?_)
            · go_simp
              exact ⟨hz.ext' ((Ext.refl z).alloc _), ME_ext ((Ext.refl z).alloc _), _, rfl, hz.size, BoxAt.made z _ _⟩
            obtain ⟨b4, rfl, hb4, _⟩ := h4
            have HB4 := Lib.hid hb4
            clear hC4 hG4 hb4
            simp only [Act.put, List.setIfInBounds_toArray, List.set_cons_zero, List.set_cons_succ]
            refine relE_fact [9] rfl rfl rfl (by kernel_rfl) (fun z hz hf => ?_) (fun v5 z5 hC5 hG5 h5 => ?_)
            · obtain ⟨b, e, _, hbox⟩ := (hf 9 (by simp)).2 rfl
              cases e
              refine yields_append info_Col und_Cols rfl (by decide) (.tmp 33) (.tmp 42) rfl w.heap.size hz.ext.le u9 out.length (coCells out) hz.own (by rfl) b4 1 1 (co5 J).toList (by rfl) (by rfl) (fun j u hj => by rw [hbox.cell j]; simpa using hj) (by simp [co5, Value.oneCell']) (by unfold maxLen; omega) (by omega) ?_
              intro v' y hown' hg hkeep
              refine ⟨⟨hz.ext.grown hg (fun q hq => (hz.own.lt q hq).1), hkeep, Nat.le_trans hz.size hg.size⟩, by unfold ME; rw [if_pos rfl]; exact hg, ?_⟩
              rw [coCells_append]
              exact hown'
            obtain ⟨a5, c5, rfl⟩ := own_shape h5
            clear hC5 hG5 h5
            simp only [Act.put, List.setIfInBounds_toArray, List.set_cons_zero, List.set_cons_succ]
            refine relE_quiet rfl rfl rfl rfl ?_; intro K hK; go_big_quiet_op; (first | refine ⟨_, fun _ _ => rfl, hK _ ?_⟩ | refine hK _ ?_); clear hK K
            refine relE_quiet rfl rfl rfl rfl ?_; intro K hK; go_big_quiet_op; (first | refine ⟨_, fun _ _ => rfl, hK _ ?_⟩ | refine hK _ ?_); clear hK K
            refine relE_quiet rfl rfl rfl rfl ?_; intro K hK; go_big_quiet_op; (first | refine ⟨_, fun _ _ => rfl, hK _ ?_⟩ | refine hK _ ?_); clear hK K
            refine relE_quiet rfl rfl rfl rfl ?_; intro K hK; go_big_quiet_op; (first | refine ⟨_, fun _ _ => rfl, hK _ ?_⟩ | refine hK _ ?_); clear hK K
            refine relE_quiet rfl rfl rfl rfl ?_; intro K hK; go_big_quiet_op; (first | refine ⟨_, fun _ _ => rfl, hK _ ?_⟩ | refine hK _ ?_); clear hK K
            refine relE_quiet rfl rfl rfl rfl ?_; intro K hK; go_big_quiet_op; (first | refine ⟨_, fun _ _ => rfl, hK _ ?_⟩ | refine hK _ ?_); clear hK K
            refine relE_quiet rfl rfl rfl rfl ?_; intro K hK; go_big_quiet_op; (first | refine ⟨_, fun _ _ => rfl, hK _ ?_⟩ | refine hK _ ?_); clear hK K
            refine relE_nil fun w9 hC hG => ?_
            have hown9 := (hG 10).2 rfl
            have hE9 := hC.ext
            clear hC hG HB4 hown hE2 hown2 hsz2
            go_wp2_with fail
            go_roundw
            case rel =>
              refine ⟨l', m', out ++ [J], hl', hm', by rw [List.length_append]; exact hown9, hE9, ?_, by have := congrArg List.length HL.out; have := congrArg List.length HN.out; simp at *; omega⟩
              show mergeCo la lb = _
              rw [HM.out, HL.out, HN.out, List.append_assoc, HJ.out]
              unfold mergeCo
              rw [mergeG_eq (by rw [← HK.out]; omega)]
              rfl
            case measure => simp [lenOf] <;> omega
      · obtain ⟨b1, o1, c1, A, l', hll, rfl, hc1, hcm1, hA, hl'⟩ := hl.uncons h1
        obtain ⟨am, cm, rfl, hcm, hcmm, hgm⟩ := hm.get
        have h1' : decide ((0 : Int) < (l.length : Int)) = true := decide_eq_true (by omega)
        have h2' : decide ((0 : Int) < (m.length : Int)) = false := decide_eq_false (by omega)
        clear hgm hA hl' hll
        have hM : mergeCo la lb = out ++ l ++ m := by
          rw [HM.out]
          have : m = [] := List.eq_nil_of_length_eq_zero (by omega)
          rw [this, List.append_nil]
          unfold mergeCo
          rw [mergeG_nil_right]
        obtain ⟨N, hN⟩ : ∃ N, N = out ++ l ++ m := ⟨_, rfl⟩
        rw [← hN] at hM
        have HN := Lib.hid hN
        have HMM := Lib.hid hM
        clear hN hM
        by_cases hz : N.length = 0
        · have hz' : ((N.length : Int) == 0) = true := by simp [hz]
          go_wp2_with (first
            | (at_builtin; refine appCols wr rfl (.tmp 70) (.tmp 71) rfl w.heap.size hE.le _ out hown (by rfl) _ l (hl.ext hE) (by rfl) (by omega) ?_; intro v3 w3 hown3 hg3; have hE3 := hE.grown hg3 (fun q hq => (hown.lt q hq).1))
            | (at_builtin; refine appCols w3 rfl (.tmp 72) (.tmp 73) rfl w.heap.size hE3.le v3 (out ++ l) hown3 (by rfl) _ m (hm.ext hE3) (by rfl) (by simp; omega) ?_; intro v4 w4 hown4 hg4; have hE4 := hE3.grown hg4 (fun q hq => (hown3.lt q hq).1); rw [← HN.out] at hown4; clear hg3 hg4 hown3 hE3; obtain ⟨a4, c4, rfl⟩ := own_shape hown4))
          go_ret
          rw [HMM.out]
          obtain rfl : N = [] := List.eq_nil_of_length_eq_zero hz
          exact ⟨_, rfl, World.ownsRow_nil _ _ _ _, hE4⟩
        · have hz' : ((N.length : Int) == 0) = false := by simp; intro h; exact hz (by simp [h])
          go_wp2_with (first
            | (at_builtin; refine appCols wr rfl (.tmp 70) (.tmp 71) rfl w.heap.size hE.le _ out hown (by rfl) _ l (hl.ext hE) (by rfl) (by omega) ?_; intro v3 w3 hown3 hg3; have hE3 := hE.grown hg3 (fun q hq => (hown.lt q hq).1))
            | (at_builtin; refine appCols w3 rfl (.tmp 72) (.tmp 73) rfl w.heap.size hE3.le v3 (out ++ l) hown3 (by rfl) _ m (hm.ext hE3) (by rfl) (by simp; omega) ?_; intro v4 w4 hown4 hg4; have hE4 := hE3.grown hg4 (fun q hq => (hown3.lt q hq).1); rw [← HN.out] at hown4; clear hg3 hg4 hown3 hE3; obtain ⟨a4, c4, rfl⟩ := own_shape hown4))
          go_ret
          rw [HMM.out]
          exact ⟨_, rfl, hown4, hE4⟩
    · obtain ⟨al, cl, rfl, hcl, hcml, hgl⟩ := hl.get
      obtain ⟨am, cm, rfl, hcm, hcmm, hgm⟩ := hm.get
      have h1' : decide ((0 : Int) < (l.length : Int)) = false := decide_eq_false (by omega)
      clear hgm hgl
      have hM : mergeCo la lb = out ++ l ++ m := by
        rw [HM.out]
        have : l = [] := List.eq_nil_of_length_eq_zero (by omega)
        rw [this, List.append_nil]
        unfold mergeCo
        rw [mergeG_nil_left]
      obtain ⟨N, hN⟩ : ∃ N, N = out ++ l ++ m := ⟨_, rfl⟩
      rw [← hN] at hM
      have HN := Lib.hid hN
      have HMM := Lib.hid hM
      clear hN hM
      by_cases hz : N.length = 0
      · have hz' : ((N.length : Int) == 0) = true := by simp [hz]
        go_wp2_with (first
          | (at_builtin; refine appCols wr rfl (.tmp 70) (.tmp 71) rfl w.heap.size hE.le _ out hown (by rfl) _ l (hl.ext hE) (by rfl) (by omega) ?_; intro v3 w3 hown3 hg3; have hE3 := hE.grown hg3 (fun q hq => (hown.lt q hq).1))
          | (at_builtin; refine appCols w3 rfl (.tmp 72) (.tmp 73) rfl w.heap.size hE3.le v3 (out ++ l) hown3 (by rfl) _ m (hm.ext hE3) (by rfl) (by simp; omega) ?_; intro v4 w4 hown4 hg4; have hE4 := hE3.grown hg4 (fun q hq => (hown3.lt q hq).1); rw [← HN.out] at hown4; clear hg3 hg4 hown3 hE3; obtain ⟨a4, c4, rfl⟩ := own_shape hown4))
        go_ret
        rw [HMM.out]
        obtain rfl : N = [] := List.eq_nil_of_length_eq_zero hz
        exact ⟨_, rfl, World.ownsRow_nil _ _ _ _, hE4⟩
      · have hz' : ((N.length : Int) == 0) = false := by simp; intro h; exact hz (by simp [h])
        go_wp2_with (first
          | (at_builtin; refine appCols wr rfl (.tmp 70) (.tmp 71) rfl w.heap.size hE.le _ out hown (by rfl) _ l (hl.ext hE) (by rfl) (by omega) ?_; intro v3 w3 hown3 hg3; have hE3 := hE.grown hg3 (fun q hq => (hown.lt q hq).1))
          | (at_builtin; refine appCols w3 rfl (.tmp 72) (.tmp 73) rfl w.heap.size hE3.le v3 (out ++ l) hown3 (by rfl) _ m (hm.ext hE3) (by rfl) (by simp; omega) ?_; intro v4 w4 hown4 hg4; have hE4 := hE3.grown hg4 (fun q hq => (hown3.lt q hq).1); rw [← HN.out] at hown4; clear hg3 hg4 hown3 hE3; obtain ⟨a4, c4, rfl⟩ := own_shape hown4))
        go_ret
        rw [HMM.out]
        exact ⟨_, rfl, hown4, hE4⟩
end Go.Proofs.Yteamiiekpjoclaa
