/- The walks over cell.Cmp, cell.Join. (what a smaller cut has) -/
import Derived.Lib.Bytealg
import Derived.Test.YtimbikbbbfpeeaaGreatDoorP6
import Derived.Deep.Light
set_option linter.unusedSimpArgs false
set_option linter.unusedVariables false
namespace Go.Proofs.YtimbikbbbfpeeaaGreatDoor
open Go Go.RowKit

def cmpI (x y : Int) : Int := if x < y then -1 else if x > y then 1 else 0
def bit (b : Bool) : Int := if b then 1 else 0
def or4 (x y z t : Int) : Int := if x = 0 then (if y = 0 then (if z = 0 then t else z) else y) else x
def endC (e e' : Int) : Int := if e = 0 ∨ e' = 0 then cmpI (bit (e == 0)) (bit (e' == 0)) else cmpI e e'
def cmpB (l m : List UInt8) : Int := Lib.compareBytes l m
/-- cell.Cmp. -/
def cmpC (v : ByteArray) (d : Bool) (a e : Int) (v' : ByteArray) (d' : Bool) (a' e' : Int) : Int := or4 (cmpI a a') (cmpI (bit d) (bit d')) (cmpB v.data.toList v'.data.toList) (endC e e')
def sameC (v : ByteArray) (d : Bool) (a e : Int) (v' : ByteArray) (d' : Bool) (a' e' : Int) : Bool := v.toList == v'.toList && d == d' && a == a' && e == e'

/-- A slice of four ints. -/
def Ints (w : World) (v : Value) (l : List Int) : Prop := SliceIn w v l.length (l.map (Value.int .i64))

attribute [local go_sem] yields yUpon

/-- The two cells that came in, in the blocks that the call has laid for them. -/
structure Params (w w0 : World) (v : ByteArray) (d : Bool) (a e : Int) (v' : ByteArray) (d' : Bool) (a' e' : Int) : Prop where
  c0 : w0.cell? ⟨w.heap.size, 0, none⟩ = some (.string v)
  c1 : w0.cell? ⟨w.heap.size, 1, none⟩ = some (.bool d)
  c2 : w0.cell? ⟨w.heap.size, 2, none⟩ = some (.int .i64 a)
  c3 : w0.cell? ⟨w.heap.size, 3, none⟩ = some (.int .i64 e)
  b0 : w0.cell? ⟨w.heap.size + 1, 0, none⟩ = some (.string v')
  b1 : w0.cell? ⟨w.heap.size + 1, 1, none⟩ = some (.bool d')
  b2 : w0.cell? ⟨w.heap.size + 1, 2, none⟩ = some (.int .i64 a')
  b3 : w0.cell? ⟨w.heap.size + 1, 3, none⟩ = some (.int .i64 e')
theorem Params.mk' (w : World) (v : ByteArray) (d : Bool) (a e : Int) (v' : ByteArray) (d' : Bool) (a' e' : Int) (t : TypeId) :
    Params w ((w.alloc (.cells #[.string v, .bool d, .int .i64 a, .int .i64 e] t)).alloc (.cells #[.string v', .bool d', .int .i64 a', .int .i64 e'] t)) v d a e v' d' a' e' := by
  constructor <;> simp
theorem Params.ext {w w0 w1 : World} {v : ByteArray} {d : Bool} {a e : Int} {v' : ByteArray} {d' : Bool} {a' e' : Int} (h : Params w w0 v d a e v' d' a' e') (hE : Ext w0 w1) : Params w w1 v d a e v' d' a' e' :=
  ⟨hE.cell h.c0, hE.cell h.c1, hE.cell h.c2, hE.cell h.c3, hE.cell h.b0, hE.cell h.b1, hE.cell h.b2, hE.cell h.b3⟩

theorem endC_one {e e' : Int} (h : (e == 0) = true) : cmpI (bit true) (bit (e' == 0)) = endC e e' := by
  have : e = 0 := by simpa using h
  subst this
  simp [endC]
theorem endC_two {e e' : Int} (h : (e == 0) = false) (h' : (e' == 0) = true) : cmpI (bit false) (bit true) = endC e e' := by
  have h1 : e ≠ 0 := by simpa using h
  have : e' = 0 := by simpa using h'
  subst this
  simp [endC, h1, h]
theorem endC_three {e e' : Int} (h : (e == 0) = false) (h' : (e' == 0) = false) : cmpI e e' = endC e e' := by
  have h1 : e ≠ 0 := by simpa using h
  have h2 : e' ≠ 0 := by simpa using h'
  simp [endC, h1, h2]
end Go.Proofs.YtimbikbbbfpeeaaGreatDoor

/- The walks over the reference of cell, and over what the laws of cell ask beside. (what a smaller cut has) (what a smaller cut has) -/
namespace Go.Proofs.YtimbikbbbfpeeaaGreatDoor
open Go Go.RowKit
attribute [local go_sem] yields yUpon

theorem cmpB_less : ∀ (l m : List UInt8), cmpB l m = if less l m then -1 else if less m l then 1 else 0
  | [], [] => rfl
  | [], _ :: _ => rfl
  | _ :: _, [] => rfl
  | a :: l, b :: m => by
    have ih := cmpB_less l m
    unfold cmpB at *
    unfold Lib.compareBytes
    by_cases h1 : a < b
    · rw [if_pos h1, less_lt h1]; rfl
    · by_cases h2 : b < a
      · rw [if_neg h1, if_pos h2, less_gt h2, less_lt h2]; rfl
      · have : a = b := UInt8.le_antisymm (UInt8.not_lt.1 h2) (UInt8.not_lt.1 h1)
        subst this
        rw [if_neg h1, if_neg h1, less_same, less_same]
        exact ih

/-- First of five that is not 0. -/
def or5 (x y z s t : Int) : Int := if x = 0 then (if y = 0 then (if z = 0 then (if s = 0 then t else s) else z) else y) else x
theorem or5_end (v : ByteArray) (d : Bool) (a e : Int) (v' : ByteArray) (d' : Bool) (a' e' : Int) (_ : True) :
    or5 (cmpI a a') (cmpI (bit d) (bit d')) (cmpB v.data.toList v'.data.toList) (cmpI (bit (e == 0)) (bit (e' == 0))) (cmpI e e') = cmpC v d a e v' d' a' e' := by
  unfold or5 cmpC or4
  have h : (if cmpI (bit (e == 0)) (bit (e' == 0)) = 0 then cmpI e e' else cmpI (bit (e == 0)) (bit (e' == 0))) = endC e e' := by
    unfold endC
    by_cases h1 : e = 0 <;> by_cases h2 : e' = 0 <;> simp [h1, h2, cmpI, bit]
  rw [h]

set_option maxHeartbeats 400000 in
theorem rsame_any (v : ByteArray) (d : Bool) (a e : Int) (v' : ByteArray) (d' : Bool) (a' e' : Int) (w : World) :
    Calls Tryz.prog 192 #[.agg #[.string v, .bool d, .int .i64 a, .int .i64 e], .agg #[.string v', .bool d', .int .i64 a', .int .i64 e']] w fun r w' =>
      r = .returned (.bool (sameC v d a e v' d' a' e')) ∧ Ext w w' := by
  go_enter Tryz.func192, Tryz.ntmps192
  go_wp2
  all_goals
    go_ret
    refine ⟨?_, ((Ext.refl w).alloc _).alloc _⟩
    refine ret_bool ?_
    simp [sameC, *]
end Go.Proofs.YtimbikbbbfpeeaaGreatDoor

/- Cells as one thing: their joins, their order; the plain laws; the walks again, so said. (what a smaller cut has) -/
namespace Go.Proofs.YtimbikbbbfpeeaaGreatDoor
open Go Go.RowKit

def cmpCl (x y : Cl) : Int := cmpC x.val x.dead x.at_ x.fin y.val y.dead y.at_ y.fin
def joinCl (x y : Cl) : Cl := if cmpCl x y < 0 then y else x
def sameCl (x y : Cl) : Bool := sameC x.val x.dead x.at_ x.fin y.val y.dead y.at_ y.fin

/-! ### The order of cells -/
theorem cmpI_anti (x y : Int) : cmpI y x = -cmpI x y := by unfold cmpI; split <;> split <;> (try split) <;> (try split) <;> omega
theorem cmpI_zero {x y : Int} (h : cmpI x y = 0) : x = y := by unfold cmpI at h; split at h <;> (try split at h) <;> omega
theorem cmpI_self (x : Int) : cmpI x x = 0 := by unfold cmpI; split <;> (try split) <;> omega
theorem cmpI_trans {x y z : Int} (h1 : cmpI x y ≤ 0) (h2 : cmpI y z ≤ 0) : cmpI x z ≤ 0 := by
  unfold cmpI at *
  split at h1 <;> split at h2 <;> (try split at h1) <;> (try split at h2) <;> split <;> (try split) <;> omega
theorem cmpB_anti (l m : List UInt8) : cmpB m l = -cmpB l m := by
  rw [cmpB_less, cmpB_less]
  rcases less_tri l m with h | h | h
  · rw [h, less_asymm h]; rfl
  · subst h; rw [less_irrefl]; rfl
  · rw [h, less_asymm h]; rfl
theorem cmpB_zero {l m : List UInt8} (h : cmpB l m = 0) : l = m := by
  rw [cmpB_less] at h
  rcases less_tri l m with g | g | g
  · rw [g] at h; simp at h
  · exact g
  · rw [g, less_asymm g] at h; simp at h
theorem cmpB_self (l : List UInt8) : cmpB l l = 0 := by rw [cmpB_less, less_irrefl]; rfl
theorem cmpB_le {l m : List UInt8} : cmpB l m ≤ 0 ↔ less m l = false := by
  rw [cmpB_less]
  rcases less_tri l m with h | h | h
  · rw [h, less_asymm h]; simp
  · subst h; rw [less_irrefl]; simp
  · rw [h, less_asymm h]; simp
theorem cmpB_trans {x y z : List UInt8} (h1 : cmpB x y ≤ 0) (h2 : cmpB y z ≤ 0) : cmpB x z ≤ 0 := by
  rw [cmpB_le] at *
  cases h : less z x with
  | false => rfl
  | true =>
    rcases less_tri y x with g | g | g
    · rw [h1] at g; cases g
    · subst g; rw [h2] at h; cases h
    · rw [less_trans h g] at h2; cases h2
theorem cmpB_small (l m : List UInt8) : -1 ≤ cmpB l m ∧ cmpB l m ≤ 1 := by rw [cmpB_less]; split <;> (try split) <;> omega
theorem cmpI_small (l m : Int) : -1 ≤ cmpI l m ∧ cmpI l m ≤ 1 := by unfold cmpI; split <;> (try split) <;> omega
theorem bit_inj {a b : Bool} (h : bit a = bit b) : a = b := by cases a <;> cases b <;> simp [bit] at h ⊢

/-- The end, as a number by which it is compared: none is above all. -/
theorem endC_anti (x y : Int) : endC y x = -endC x y := by
  unfold endC
  by_cases hx : x = 0 <;> by_cases hy : y = 0 <;> simp [hx, hy, cmpI, bit]
  exact cmpI_anti x y
theorem endC_zero {x y : Int} (h : endC x y = 0) : x = y := by
  unfold endC at h
  by_cases hx : x = 0 <;> by_cases hy : y = 0 <;> simp [hx, hy, cmpI, bit] at h ⊢
  exact cmpI_zero h
theorem endC_self (x : Int) : endC x x = 0 := by
  unfold endC
  by_cases hx : x = 0 <;> simp [hx, cmpI, bit]
theorem endC_trans {x y z : Int} (h1 : endC x y ≤ 0) (h2 : endC y z ≤ 0) : endC x z ≤ 0 := by
  unfold endC at *
  by_cases hx : x = 0 <;> by_cases hy : y = 0 <;> by_cases hz : z = 0 <;> simp [hx, hy, hz, cmpI, bit] at h1 h2 ⊢
  exact cmpI_trans h1 h2

theorem cmpCl_anti (x y : Cl) : cmpCl y x = -cmpCl x y := by
  unfold cmpCl cmpC or4
  rw [cmpI_anti x.at_ y.at_, cmpI_anti (bit x.dead) (bit y.dead), cmpB_anti x.val.data.toList y.val.data.toList, endC_anti x.fin y.fin]
  simp only [Int.neg_eq_zero]
  split
  · split
    · split <;> rfl
    · rfl
  · rfl
theorem cmpCl_zero {x y : Cl} (h : cmpCl x y = 0) : x = y := by
  unfold cmpCl cmpC or4 at h
  split at h
  · rename_i h1
    split at h
    · rename_i h2
      split at h
      · rename_i h3
        have e1 := cmpI_zero h1
        have e2 := bit_inj (cmpI_zero h2)
        have e3 : x.val = y.val := ByteArray.ext (Array.toList_inj.1 (cmpB_zero h3))
        have e4 := endC_zero h
        cases x; cases y
        simp at e1 e2 e3 e4
        subst e1 e2 e3 e4
        rfl
      · exact absurd h ‹_›
    · exact absurd h ‹_›
  · exact absurd h ‹_›
theorem cmpCl_self (x : Cl) : cmpCl x x = 0 := by unfold cmpCl cmpC or4; simp [cmpI_self, cmpB_self, endC_self]
theorem or4_le {a b c d : Int} : or4 a b c d ≤ 0 ↔ a < 0 ∨ a = 0 ∧ (b < 0 ∨ b = 0 ∧ (c < 0 ∨ c = 0 ∧ d ≤ 0)) := by
  unfold or4
  split
  · split
    · split <;> omega
    · omega
  · omega
theorem strict3 {α : Type} {c : α → α → Int} (anti : ∀ x y, c y x = -c x y) (zero : ∀ {x y}, c x y = 0 → x = y) (trans : ∀ {x y z}, c x y ≤ 0 → c y z ≤ 0 → c x z ≤ 0) {x y z : α} (h1 : c x y ≤ 0) (h2 : c y z ≤ 0) :
    c x z ≤ 0 ∧ (c x z = 0 → c x y = 0 ∧ c y z = 0) := by
  refine ⟨trans h1 h2, fun h => ?_⟩
  have e := zero h
  subst e
  have := anti x y
  omega
theorem cmpCl_trans {x y z : Cl} (h1 : cmpCl x y ≤ 0) (h2 : cmpCl y z ≤ 0) : cmpCl x z ≤ 0 := by
  unfold cmpCl cmpC at *
  rw [or4_le] at *
  have t1 := @strict3 Int cmpI cmpI_anti (fun h => cmpI_zero h) (fun a b => cmpI_trans a b) x.at_ y.at_ z.at_
  have t2 := @strict3 Int cmpI cmpI_anti (fun h => cmpI_zero h) (fun a b => cmpI_trans a b) (bit x.dead) (bit y.dead) (bit z.dead)
  have t3 := @strict3 (List UInt8) cmpB cmpB_anti (fun h => cmpB_zero h) (fun a b => cmpB_trans a b) x.val.data.toList y.val.data.toList z.val.data.toList
  have t4 := @endC_trans x.fin y.fin z.fin
  generalize cmpI x.at_ y.at_ = a1 at *
  generalize cmpI y.at_ z.at_ = a2 at *
  generalize cmpI x.at_ z.at_ = a3 at *
  generalize cmpI (bit x.dead) (bit y.dead) = b1 at *
  generalize cmpI (bit y.dead) (bit z.dead) = b2 at *
  generalize cmpI (bit x.dead) (bit z.dead) = b3 at *
  generalize cmpB x.val.data.toList y.val.data.toList = c1 at *
  generalize cmpB y.val.data.toList z.val.data.toList = c2 at *
  generalize cmpB x.val.data.toList z.val.data.toList = c3 at *
  generalize endC x.fin y.fin = d1 at *
  generalize endC y.fin z.fin = d2 at *
  generalize endC x.fin z.fin = d3 at *
  have t1 := t1 (by omega) (by omega)
  by_cases k1 : a3 = 0
  · have := t1.2 k1
    have t2 := t2 (by omega) (by omega)
    by_cases k2 : b3 = 0
    · have := t2.2 k2
      have t3 := t3 (by omega) (by omega)
      by_cases k3 : c3 = 0
      · have := t3.2 k3
        have t4 := t4 (by omega) (by omega)
        omega
      · omega
    · omega
  · omega
/-! ### Joins -/
theorem joinCl_comm (x y : Cl) : joinCl x y = joinCl y x := by
  unfold joinCl
  have h := cmpCl_anti x y
  by_cases h1 : cmpCl x y < 0
  · rw [if_pos h1, if_neg (by omega)]
  · by_cases h2 : cmpCl y x < 0
    · rw [if_neg h1, if_pos h2]
    · rw [if_neg h1, if_neg h2]; exact cmpCl_zero (by omega)
theorem joinCl_self (x : Cl) : joinCl x x = x := by unfold joinCl; split <;> rfl
theorem joinCl_or (x y : Cl) : joinCl x y = x ∨ joinCl x y = y := by unfold joinCl; split <;> simp
theorem le_joinCl_left (x y : Cl) : 0 ≤ cmpCl (joinCl x y) x := by
  unfold joinCl
  have h := cmpCl_anti x y
  split
  · omega
  · rw [cmpCl_self]; omega
theorem le_joinCl_right (x y : Cl) : 0 ≤ cmpCl (joinCl x y) y := by rw [joinCl_comm]; exact le_joinCl_left y x
/-- The join is the least that is above both. -/
theorem joinCl_le {x y z : Cl} (h1 : cmpCl x z ≤ 0) (h2 : cmpCl y z ≤ 0) : cmpCl (joinCl x y) z ≤ 0 := by
  rcases joinCl_or x y with h | h <;> rw [h] <;> assumption
theorem le_antisymm {x y : Cl} (h1 : cmpCl x y ≤ 0) (h2 : cmpCl y x ≤ 0) : x = y := cmpCl_zero (by have := cmpCl_anti x y; omega)
theorem ge_le {x y : Cl} (h : 0 ≤ cmpCl x y) : cmpCl y x ≤ 0 := by have := cmpCl_anti x y; omega
theorem joinCl_assoc (x y z : Cl) : joinCl (joinCl x y) z = joinCl x (joinCl y z) := by
  have a1 := ge_le (le_joinCl_left x y)
  have a2 := ge_le (le_joinCl_right x y)
  have a3 := ge_le (le_joinCl_left (joinCl x y) z)
  have a4 := ge_le (le_joinCl_right (joinCl x y) z)
  have b1 := ge_le (le_joinCl_left y z)
  have b2 := ge_le (le_joinCl_right y z)
  have b3 := ge_le (le_joinCl_left x (joinCl y z))
  have b4 := ge_le (le_joinCl_right x (joinCl y z))
  exact le_antisymm (joinCl_le (joinCl_le b3 (cmpCl_trans b1 b4)) (cmpCl_trans b2 b4)) (joinCl_le (cmpCl_trans a1 a3) (joinCl_le (cmpCl_trans a2 a3) a4))
theorem joinCl_again (x y : Cl) : joinCl (joinCl x y) x = joinCl x y := by
  rw [joinCl_comm (joinCl x y) x, ← joinCl_assoc, joinCl_self]
theorem sameCl_iff (x y : Cl) : sameCl x y = true ↔ x = y := by
  unfold sameCl sameC
  simp only [Bool.and_eq_true, beq_iff_eq]
  constructor
  · rintro ⟨⟨⟨e3, e2⟩, e1⟩, e4⟩
    rw [ByteArray.toList_eq, ByteArray.toList_eq] at e3
    replace e3 : x.val = y.val := ByteArray.ext (Array.toList_inj.1 e3)
    cases x; cases y
    simp at e1 e2 e3 e4
    subst e1 e2 e3 e4
    rfl
  · rintro rfl; simp

theorem rsame_c (v : ByteArray) (d : Bool) (a e : Int) (v' : ByteArray) (d' : Bool) (a' e' : Int) (w : World) :
    Calls Tryz.prog 192 #[.agg #[.string v, .bool d, .int .i64 a, .int .i64 e], .agg #[.string v', .bool d', .int .i64 a', .int .i64 e']] w fun r w' =>
      r = .returned (.bool (sameCl ⟨v, d, a, e⟩ ⟨v', d', a', e'⟩)) ∧ Ext w w' := rsame_any v d a e v' d' a' e' w
end Go.Proofs.YtimbikbbbfpeeaaGreatDoor
