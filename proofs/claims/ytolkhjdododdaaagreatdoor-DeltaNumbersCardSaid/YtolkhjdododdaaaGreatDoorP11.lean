/- Cells as one thing: their joins, their order; the plain laws; the walks again, so said. (what a smaller cut has) -/
import Derived.Test.YtolkhjdododdaaaGreatDoorP10
import Derived.Test.YtolkhjdododdaaaGreatDoorP7
import Derived.Test.YtolkhjdododdaaaGreatDoorP8
import Derived.Test.YtolkhjdododdaaaGreatDoorP2
import Derived.Test.YtolkhjdododdaaaGreatDoorP9
import Derived.Laws.MakeOwn
import Derived.OwnWalk
set_option linter.unusedSimpArgs false
set_option linter.unusedVariables false
namespace Go.Proofs.YtolkhjdododdaaaGreatDoor
open Go Go.RowKit

def cmpCl (x y : Cl) : Int := cmpC x.val x.dead x.at_ x.fin y.val y.dead y.at_ y.fin
def joinCl (x y : Cl) : Cl := if cmpCl x y < 0 then y else x
def sameCl (x y : Cl) : Bool := sameC x.val x.dead x.at_ x.fin y.val y.dead y.at_ y.fin

/-! ### The order of cells -/
theorem cmpI_anti (x y : Int) : cmpI y x = -cmpI x y := by unfold cmpI; split <;> split <;> (try split) <;> (try split) <;> omega
theorem cmpI_zero {x y : Int} (h : cmpI x y = 0) : x = y := by unfold cmpI at h; split at h <;> (try split at h) <;> omega
theorem cmpI_self (x : Int) : cmpI x x = 0 := by unfold cmpI; split <;> (try split) <;> omega
theorem cmpI_trans {x y z : Int} (h1 : cmpI x y ≤ 0) (h2 : cmpI y z ≤ 0) : cmpI x z ≤ 0 := by
 unfold cmpI at *
 split at h1 <;> split at h2 <;> (try split at h1) <;> (try split at h2) <;> split <;> (try split) <;> omega
theorem cmpB_anti (l m : List UInt8) : cmpB m l = -cmpB l m := by
 rw [cmpB_less, cmpB_less]
 rcases less_tri l m with h | h | h
 ·rw [h, less_asymm h]; rfl
 ·subst h; rw [less_irrefl]; rfl
 ·rw [h, less_asymm h]; rfl
theorem cmpB_zero {l m : List UInt8} (h : cmpB l m = 0) : l = m := by
 rw [cmpB_less] at h
 rcases less_tri l m with g | g | g
 ·rw [g] at h; simp at h
 ·exact g
 ·rw [g, less_asymm g] at h; simp at h
theorem cmpB_self (l : List UInt8) : cmpB l l = 0 := by rw [cmpB_less, less_irrefl]; rfl
theorem cmpB_le {l m : List UInt8} : cmpB l m ≤ 0 ↔ less m l = false := by
 rw [cmpB_less]
 rcases less_tri l m with h | h | h
 ·rw [h, less_asymm h]; simp
 ·subst h; rw [less_irrefl]; simp
 ·rw [h, less_asymm h]; simp
theorem cmpB_trans {x y z : List UInt8} (h1 : cmpB x y ≤ 0) (h2 : cmpB y z ≤ 0) : cmpB x z ≤ 0 := by
 rw [cmpB_le] at *
 cases h : less z x with
 | false => rfl
 | true =>
  rcases less_tri y x with g | g | g
  ·rw [h1] at g; cases g
  ·subst g; rw [h2] at h; cases h
  ·rw [less_trans h g] at h2; cases h2
theorem bit_inj {a b : Bool} (h : bit a = bit b) : a = b := by cases a <;> cases b <;> simp [bit] at h ⊢

/-- The end, as a number by which it is compared: none is above all. -/
theorem endC_anti (x y : Int) : endC y x = -endC x y := by
 unfold endC
 by_cases hx : x = 0 <;> by_cases hy : y = 0 <;> simp [hx, hy, cmpI, bit]
 exact cmpI_anti x y
theorem endC_zero {x y : Int} (h : endC x y = 0) : x = y := by
 unfold endC at h
 by_cases hx : x = 0 <;> by_cases hy : y = 0 <;> simp [hx, hy, cmpI, bit] at h ⊢
 exact cmpI_zero h
theorem endC_self (x : Int) : endC x x = 0 := by
 unfold endC
 by_cases hx : x = 0 <;> simp [hx, cmpI, bit]
theorem endC_trans {x y z : Int} (h1 : endC x y ≤ 0) (h2 : endC y z ≤ 0) : endC x z ≤ 0 := by
 unfold endC at *
 by_cases hx : x = 0 <;> by_cases hy : y = 0 <;> by_cases hz : z = 0 <;> simp [hx, hy, hz, cmpI, bit] at h1 h2 ⊢
 exact cmpI_trans h1 h2

theorem cmpCl_anti (x y : Cl) : cmpCl y x = -cmpCl x y := by
 unfold cmpCl cmpC or4
 rw [cmpI_anti x.at_ y.at_, cmpI_anti (bit x.dead) (bit y.dead), cmpB_anti x.val.data.toList y.val.data.toList, endC_anti x.fin y.fin]
 simp only [Int.neg_eq_zero]
 split
 ·split
  ·split <;> rfl
  ·rfl
 ·rfl
theorem cmpCl_zero {x y : Cl} (h : cmpCl x y = 0) : x = y := by
 unfold cmpCl cmpC or4 at h
 split at h
 ·rename_i h1
  split at h
  ·rename_i h2
   split at h
   ·rename_i h3
    have e1 := cmpI_zero h1
    have e2 := bit_inj (cmpI_zero h2)
    have e3 : x.val = y.val := ByteArray.ext (Array.toList_inj.1 (cmpB_zero h3))
    have e4 := endC_zero h
    cases x; cases y
    simp at e1 e2 e3 e4
    subst e1 e2 e3 e4
    rfl
   ·exact absurd h ‹_›
  ·exact absurd h ‹_›
 ·exact absurd h ‹_›
theorem cmpCl_self (x : Cl) : cmpCl x x = 0 := by unfold cmpCl cmpC or4; simp [cmpI_self, cmpB_self, endC_self]
theorem or4_le {a b c d : Int} : or4 a b c d ≤ 0 ↔ a < 0 ∨ a = 0 ∧ (b < 0 ∨ b = 0 ∧ (c < 0 ∨ c = 0 ∧ d ≤ 0)) := by
 unfold or4
 split
 ·split
  ·split <;> omega
  ·omega
 ·omega
theorem strict3 {α : Type} {c : α → α → Int} (anti : ∀ x y, c y x = -c x y) (zero : ∀ {x y}, c x y = 0 → x = y) (trans : ∀ {x y z}, c x y ≤ 0 → c y z ≤ 0 → c x z ≤ 0) {x y z : α} (h1 : c x y ≤ 0) (h2 : c y z ≤ 0) :
  c x z ≤ 0 ∧ (c x z = 0 → c x y = 0 ∧ c y z = 0) := by
 refine ⟨trans h1 h2, fun h => ?_⟩
 have e := zero h
 subst e
 have := anti x y
 omega
theorem cmpCl_trans {x y z : Cl} (h1 : cmpCl x y ≤ 0) (h2 : cmpCl y z ≤ 0) : cmpCl x z ≤ 0 := by
 unfold cmpCl cmpC at *
 rw [or4_le] at *
 have t1 := @strict3 Int cmpI cmpI_anti (fun h => cmpI_zero h) (fun a b => cmpI_trans a b) x.at_ y.at_ z.at_
 have t2 := @strict3 Int cmpI cmpI_anti (fun h => cmpI_zero h) (fun a b => cmpI_trans a b) (bit x.dead) (bit y.dead) (bit z.dead)
 have t3 := @strict3 (List UInt8) cmpB cmpB_anti (fun h => cmpB_zero h) (fun a b => cmpB_trans a b) x.val.data.toList y.val.data.toList z.val.data.toList
 have t4 := @endC_trans x.fin y.fin z.fin
 generalize cmpI x.at_ y.at_ = a1 at *
 generalize cmpI y.at_ z.at_ = a2 at *
 generalize cmpI x.at_ z.at_ = a3 at *
 generalize cmpI (bit x.dead) (bit y.dead) = b1 at *
 generalize cmpI (bit y.dead) (bit z.dead) = b2 at *
 generalize cmpI (bit x.dead) (bit z.dead) = b3 at *
 generalize cmpB x.val.data.toList y.val.data.toList = c1 at *
 generalize cmpB y.val.data.toList z.val.data.toList = c2 at *
 generalize cmpB x.val.data.toList z.val.data.toList = c3 at *
 generalize endC x.fin y.fin = d1 at *
 generalize endC y.fin z.fin = d2 at *
 generalize endC x.fin z.fin = d3 at *
 have t1 := t1 (by omega) (by omega)
 by_cases k1 : a3 = 0
 ·have := t1.2 k1
  have t2 := t2 (by omega) (by omega)
  by_cases k2 : b3 = 0
  ·have := t2.2 k2
   have t3 := t3 (by omega) (by omega)
   by_cases k3 : c3 = 0
   ·have := t3.2 k3
    have t4 := t4 (by omega) (by omega)
    omega
   ·omega
  ·omega
 ·omega
/-! ### Joins -/
theorem joinCl_comm (x y : Cl) : joinCl x y = joinCl y x := by
 unfold joinCl
 have h := cmpCl_anti x y
 by_cases h1 : cmpCl x y < 0
 ·rw [if_pos h1, if_neg (by omega)]
 ·by_cases h2 : cmpCl y x < 0
  ·rw [if_neg h1, if_pos h2]
  ·rw [if_neg h1, if_neg h2]; exact cmpCl_zero (by omega)
theorem joinCl_self (x : Cl) : joinCl x x = x := by unfold joinCl; split <;> rfl
theorem joinCl_or (x y : Cl) : joinCl x y = x ∨ joinCl x y = y := by unfold joinCl; split <;> simp
theorem le_joinCl_left (x y : Cl) : 0 ≤ cmpCl (joinCl x y) x := by
 unfold joinCl
 have h := cmpCl_anti x y
 split
 ·omega
 ·rw [cmpCl_self]; omega
theorem le_joinCl_right (x y : Cl) : 0 ≤ cmpCl (joinCl x y) y := by rw [joinCl_comm]; exact le_joinCl_left y x
/-- The join is the least that is above both. -/
theorem joinCl_le {x y z : Cl} (h1 : cmpCl x z ≤ 0) (h2 : cmpCl y z ≤ 0) : cmpCl (joinCl x y) z ≤ 0 := by
 rcases joinCl_or x y with h | h <;> rw [h] <;> assumption
theorem le_antisymm {x y : Cl} (h1 : cmpCl x y ≤ 0) (h2 : cmpCl y x ≤ 0) : x = y := cmpCl_zero (by have := cmpCl_anti x y; omega)
theorem ge_le {x y : Cl} (h : 0 ≤ cmpCl x y) : cmpCl y x ≤ 0 := by have := cmpCl_anti x y; omega
theorem joinCl_assoc (x y z : Cl) : joinCl (joinCl x y) z = joinCl x (joinCl y z) := by
 have a1 := ge_le (le_joinCl_left x y)
 have a2 := ge_le (le_joinCl_right x y)
 have a3 := ge_le (le_joinCl_left (joinCl x y) z)
 have a4 := ge_le (le_joinCl_right (joinCl x y) z)
 have b1 := ge_le (le_joinCl_left y z)
 have b2 := ge_le (le_joinCl_right y z)
 have b3 := ge_le (le_joinCl_left x (joinCl y z))
 have b4 := ge_le (le_joinCl_right x (joinCl y z))
 exact le_antisymm (joinCl_le (joinCl_le b3 (cmpCl_trans b1 b4)) (cmpCl_trans b2 b4)) (joinCl_le (cmpCl_trans a1 a3) (joinCl_le (cmpCl_trans a2 a3) a4))
end Go.Proofs.YtolkhjdododdaaaGreatDoor

/- row.Join's two closures over columns: which comes first, what two are together. (what a smaller cut has) -/
namespace Go.Proofs.YtolkhjdododdaaaGreatDoor
open Go Go.RowKit
attribute [local go_sem] yields yUpon co5

/-- Two lists in order, those that stand for the same put together. -/
def mergeG {α : Type} (cmp : α → α → Int) (join : α → α → α) : List α → List α → List α
 | [], m => m
 | a :: l, [] => a :: l
 | a :: l, b :: m => if cmp a b < 0 then a :: mergeG cmp join l (b :: m) else if 0 < cmp a b then b :: mergeG cmp join (a :: l) m else join a b :: mergeG cmp join l m
termination_by l m => l.length + m.length
theorem mergeG_nil_left {α : Type} (cmp : α → α → Int) (join : α → α → α) (m : List α) : mergeG cmp join [] m = m := by unfold mergeG; rfl
theorem mergeG_nil_right {α : Type} (cmp : α → α → Int) (join : α → α → α) (l : List α) : mergeG cmp join l [] = l := by cases l <;> (unfold mergeG; rfl)
theorem mergeG_lt {α : Type} {cmp : α → α → Int} {join : α → α → α} {a b : α} {l m : List α} (h : cmp a b < 0) : mergeG cmp join (a :: l) (b :: m) = a :: mergeG cmp join l (b :: m) := by conv => lhs; unfold mergeG; rw [if_pos h]
theorem mergeG_gt {α : Type} {cmp : α → α → Int} {join : α → α → α} {a b : α} {l m : List α} (h : 0 < cmp a b) : mergeG cmp join (a :: l) (b :: m) = b :: mergeG cmp join (a :: l) m := by conv => lhs; unfold mergeG; rw [if_neg (by omega), if_pos h]
theorem mergeG_eq {α : Type} {cmp : α → α → Int} {join : α → α → α} {a b : α} {l m : List α} (h : cmp a b = 0) : mergeG cmp join (a :: l) (b :: m) = join a b :: mergeG cmp join l m := by conv => lhs; unfold mergeG; rw [if_neg (by omega), if_neg (by omega)]
theorem mergeG_len {α : Type} (cmp : α → α → Int) (join : α → α → α) (l m : List α) : (mergeG cmp join l m).length ≤ l.length + m.length := by
 fun_induction mergeG cmp join l m <;> simp at * <;> omega

def keyC (a b : Co) : Int := cmpB a.name.data.toList b.name.data.toList
def joinCo (a b : Co) : Co := ⟨a.name, joinCl a.cell b.cell⟩
def mergeCo (l m : List Co) : List Co := mergeG keyC joinCo l m
end Go.Proofs.YtolkhjdododdaaaGreatDoor

/- row.Merge over columns. (what a smaller cut has) -/
namespace Go.Proofs.YtolkhjdododdaaaGreatDoor
open Go Go.RowKit
attribute [local go_sem] yields yUpon co5

theorem ColsIn.uncons {w : World} {v : Value} {l : List Co} (h : ColsIn w v l) (hl : 0 < l.length) : ∃ b o c A l', l = A :: l' ∧ v = .slice (some ⟨b, o, none⟩) l.length c ∧ l.length ≤ c ∧ c ≤ 9223372036854775807 ∧ CoAt w b o A ∧ ColsIn w (.slice (if c = 1 then some ⟨b, o, none⟩ else some ⟨b, o + 5, none⟩) (l.length - 1) (c - 1)) l' := by
 obtain ⟨a, c, rfl, hc, hcm, hg⟩ := h.get
 obtain ⟨b, o, rfl, h0⟩ := hg 0 hl
 cases l with
 | nil => cases hl
 | cons A l' =>
  refine ⟨b, o, c, A, l', rfl, rfl, hc, hcm, by simpa using h0, ?_⟩
  obtain ⟨a', c', e, hc', hcm', ha', hcell⟩ := h
  cases e
  refine ⟨if c = 1 then some ⟨b, o, none⟩ else some ⟨b, o + 5, none⟩, c - 1, by simp, by simp at hc' ⊢; omega, by unfold maxLen; omega, (by intro h; split at h <;> cases h), fun j u hj => ?_⟩
  obtain ⟨b', o', e, hx⟩ := hcell (j + 5) u (by simpa [coCells] using hj)
  cases e
  by_cases h1 : c = 1
  ·have h2 : l' = [] := List.eq_nil_of_length_eq_zero (by simp at hc'; omega)
   subst h2
   cases hj
  ·rw [if_neg h1]
   exact ⟨b, o + 5, rfl, by rw [Nat.add_assoc, Nat.add_comm 5 j]; exact hx⟩

/-- What stays true in a round's region: the row under way may be appended to. -/
structure MC (w wr : World) (vo : Value) (out : List Co) (x : World) : Prop where
 ext : Ext w x
 own : x.ownsRow w.heap.size 69 5 vo out.length (coCells out)
 size : wr.heap.size ≤ x.heap.size
theorem MC.ext' {w wr : World} {vo : Value} {out : List Co} {x y : World} (hE : Ext x y) (h : MC w wr vo out x) : MC w wr vo out y := ⟨h.ext.trans hE, ownsRow_ext h.own hE, Nat.le_trans h.size hE.le⟩
def ME (vo : Value) (n j : Nat) (x y : World) : Prop := if j = n then x.grownBy y vo.ownBlock else Ext x y
theorem ME_ext {vo : Value} {n j : Nat} {x y : World} (h : Ext x y) : ME vo n j x y := by
 unfold ME
 split
 ·exact grownBy_ext (grownBy_refl x _) h
 ·exact h
theorem ME_off {vo : Value} {n j : Nat} (hj : j ≠ n) {x y : World} (h : ME vo n j x y) : Ext x y := by
 unfold ME at h
 rwa [if_neg hj] at h
theorem ME_box {w wr : World} {vo : Value} {n j m s : Nat} {T : TypeId} {xs : List Value} (hown : wr.ownsRow w.heap.size T s vo m xs) {x y : World} (h : ME vo n j x y) {b : Nat} (hb : wr.heap.size ≤ b) {cs : Array Value} {e : TypeId} (hx : BoxAt x b cs e) : BoxAt y b cs e := by
 unfold ME at h
 split at h
 ·exact hx.grown h (fun e => by have := (hown.lt _ e.symm).2; omega)
 ·exact hx.ext h
end Go.Proofs.YtolkhjdododdaaaGreatDoor

/- row.Join. (what a smaller cut has) -/
namespace Go.Proofs.YtolkhjdododdaaaGreatDoor
open Go Go.RowKit
attribute [local go_sem] yields yUpon ro8 co5

/-- What two rows are together. -/
def joinRo (a b : Ro) : Ro := ⟨a.key, joinCl a.live b.live, max a.gone b.gone, max a.shade b.shade, mergeCo a.cols b.cols⟩
theorem mergeCo_len (l m : List Co) : (mergeCo l m).length ≤ l.length + m.length := mergeG_len _ _ _ _
end Go.Proofs.YtolkhjdododdaaaGreatDoor
