/- Made, Several: partitions by numbers. -/
import Derived.Test.YtolkhjdododdaaaGreatDoorP6
import Derived.Test.YtolkhjdododdaaaGreatDoorP8
import Derived.Test.YtolkhjdododdaaaGreatDoorP9
import Derived.Test.YtolkhjdododdaaaGreatDoorP1
import Derived.Laws.Strings
import Derived.Lib.Bytealg
import Derived.Test.YtolkhjdododdaaaGreatDoorP5
import Derived.Test.YtolkhjdododdaaaGreatDoorP7
import Derived.Deep.Light
set_option linter.unusedSimpArgs false
set_option linter.unusedVariables false


/- Plain laws: the bytes of numbers, texts and whole numbers stand in the order of what they are. -/
namespace Go.Proofs.YtolkhjdododdaaaGreatDoor
open Go

abbrev less (x y : List UInt8) : Bool := Op.bytesLess x y
theorem less_nil (x : List UInt8) : less x [] = false := by cases x <;> rfl
theorem less_nil_cons (b : UInt8) (y : List UInt8) : less [] (b :: y) = true := rfl
theorem less_cons (a b : UInt8) (x y : List UInt8) : less (a :: x) (b :: y) = (decide (a < b) || (a == b && less x y)) := rfl
theorem less_same (a : UInt8) (x y : List UInt8) : less (a :: x) (a :: y) = less x y := by
 rw [less_cons]
 have : ¬ a < a := UInt8.lt_irrefl a
 simp [this]
theorem less_lt {a b : UInt8} (h : a < b) (x y : List UInt8) : less (a :: x) (b :: y) = true := by rw [less_cons]; simp [h]
theorem less_gt {a b : UInt8} (h : b < a) (x y : List UInt8) : less (a :: x) (b :: y) = false := by
 rw [less_cons]
 have h1 : ¬ a < b := UInt8.lt_asymm h
 have h2 : a ≠ b := by rintro rfl; exact UInt8.lt_irrefl _ h
 simp [h1, h2]
theorem less_irrefl (x : List UInt8) : less x x = false := by
 induction x with
 | nil => rfl
 | cons a x ih => rw [less_same]; exact ih
theorem less_asymm : ∀ {x y : List UInt8}, less x y = true → less y x = false
 | [], [], h => by cases h
 | [], _ :: _, _ => less_nil _
 | _ :: _, [], h => by rw [less_nil] at h; cases h
 | a :: x, b :: y, h => by
  rw [less_cons] at h
  by_cases h1 : a < b
  ·exact less_gt h1 _ _
  ·simp [h1] at h
   obtain ⟨rfl, h⟩ := h
   rw [less_same]
   exact less_asymm h
theorem less_tri : ∀ (x y : List UInt8), less x y = true ∨ x = y ∨ less y x = true
 | [], [] => .inr (.inl rfl)
 | [], _ :: _ => .inl rfl
 | _ :: _, [] => .inr (.inr rfl)
 | a :: x, b :: y => by
  by_cases h1 : a < b
  ·exact .inl (less_lt h1 _ _)
  ·by_cases h2 : b < a
   ·exact .inr (.inr (less_lt h2 _ _))
   ·have : a = b := UInt8.le_antisymm (UInt8.not_lt.1 h2) (UInt8.not_lt.1 h1)
    subst this
    rw [less_same, less_same]
    rcases less_tri x y with h | h | h
    ·exact .inl h
    ·exact .inr (.inl (by rw [h]))
    ·exact .inr (.inr h)
theorem less_ne {x y : List UInt8} (h : less x y = true) : x ≠ y := by rintro rfl; rw [less_irrefl] at h; cases h
theorem less_trans : ∀ {x y z : List UInt8}, less x y = true → less y z = true → less x z = true
 | _, _, [], _, h => by rw [less_nil] at h; cases h
 | [], _, _ :: _, _, _ => rfl
 | _ :: _, [], _ :: _, h, _ => by rw [less_nil] at h; cases h
 | a :: x, b :: y, c :: z, h1, h2 => by
  rw [less_cons] at h1 h2
  simp only [Bool.or_eq_true, decide_eq_true_eq, Bool.and_eq_true, beq_iff_eq] at h1 h2
  rcases h1 with h1 | ⟨rfl, h1⟩ <;> rcases h2 with h2 | ⟨rfl, h2⟩
  ·exact less_lt (UInt8.lt_trans h1 h2) _ _
  ·exact less_lt h1 _ _
  ·exact less_lt h2 _ _
  ·rw [less_same]; exact less_trans h1 h2

/-! ### Texts -/
theorem txt_nil_app (r : List UInt8) : txt [] ++ r = 0 :: 1 :: r := rfl
theorem txt_zero_app (l r : List UInt8) : txt (0 :: l) ++ r = 0 :: 255 :: (txt l ++ r) := by simp [txt, esc]
theorem txt_cons_app {b : UInt8} (h : b ≠ 0) (l r : List UInt8) : txt (b :: l) ++ r = b :: (txt l ++ r) := by simp [txt, esc, h]
theorem pos_of_ne {b : UInt8} (h : b ≠ 0) : 0 < b := by
 have : b.toNat ≠ 0 := fun e => h (UInt8.toNat.inj (by simpa using e))
 rw [UInt8.lt_iff_toNat_lt]
 simp; omega

theorem less_txt : ∀ (l m r s : List UInt8), less (txt l ++ r) (txt m ++ s) = if l = m then less r s else less l m
 | [], [], r, s => by rw [txt_nil_app, txt_nil_app, less_same, less_same, if_pos rfl]
 | [], b :: m, r, s => by
  rw [if_neg (by simp), txt_nil_app, less_nil_cons]
  by_cases h : b = 0
  ·subst h; rw [txt_zero_app, less_same]; exact less_lt (by decide) _ _
  ·rw [txt_cons_app h]; exact less_lt (pos_of_ne h) _ _
 | a :: l, [], r, s => by
  rw [if_neg (by simp), txt_nil_app, less_nil]
  by_cases h : a = 0
  ·subst h; rw [txt_zero_app, less_same]; exact less_gt (by decide) _ _
  ·rw [txt_cons_app h]; exact less_gt (pos_of_ne h) _ _
 | a :: l, b :: m, r, s => by
  by_cases hab : a = b
  ·subst hab
   have ih := less_txt l m r s
   have e : (if a :: l = a :: m then less r s else less (a :: l) (a :: m)) = if l = m then less r s else less l m := by
    rw [less_same]
    by_cases hlm : l = m <;> simp [hlm]
   rw [e]
   by_cases h : a = 0
   ·subst h; rw [txt_zero_app, txt_zero_app, less_same, less_same]; exact ih
   ·rw [txt_cons_app h, txt_cons_app h, less_same]; exact ih
  ·rw [if_neg (by simp [hab]), less_cons]
   have e : (a == b) = false := by simp [hab]
   rw [e, Bool.false_and, Bool.or_false]
   by_cases ha : a = 0
   ·subst ha
    rw [txt_zero_app, txt_cons_app (Ne.symm hab), less_lt (pos_of_ne (Ne.symm hab))]
    simp [pos_of_ne (Ne.symm hab)]
   ·by_cases hb : b = 0
    ·subst hb
     rw [txt_zero_app, txt_cons_app ha, less_gt (pos_of_ne ha)]
     simp [UInt8.lt_asymm (pos_of_ne ha)]
    ·rw [txt_cons_app ha, txt_cons_app hb, less_cons, e, Bool.false_and, Bool.or_false]

/-! ### Numbers -/
theorem beB_mod (x : Nat) : ∀ (k m : Nat), k ≤ m → beB k (x % 256 ^ m) = beB k x
 | 0, _, _ => rfl
 | k + 1, m, h => by
  simp only [beB]
  rw [beB_mod x k m (by omega)]
  congr 1
  obtain ⟨j, rfl⟩ : ∃ j, m = k + (j + 1) := ⟨m - k - 1, by omega⟩
  rw [Nat.pow_add, Nat.mod_mul_right_div_self, Nat.pow_succ]
  apply UInt8.toNat.inj
  simp [Nat.mod_mul_left_mod]

theorem less_beB : ∀ (k x y : Nat) (r s : List UInt8), x < 256 ^ k → y < 256 ^ k → less (beB k x ++ r) (beB k y ++ s) = if x = y then less r s else decide (x < y)
 | 0, x, y, r, s, hx, hy => by
  obtain rfl : x = 0 := by simpa using hx
  obtain rfl : y = 0 := by simpa using hy
  rw [if_pos rfl]; rfl
 | k + 1, x, y, r, s, hx, hy => by
  have hp : 0 < 256 ^ k := Nat.pow_pos (by decide)
  have hx1 : x / 256 ^ k < 256 := Nat.div_lt_of_lt_mul (by rw [Nat.pow_succ] at hx; exact hx)
  have hy1 : y / 256 ^ k < 256 := Nat.div_lt_of_lt_mul (by rw [Nat.pow_succ] at hy; exact hy)
  have ex := Nat.div_add_mod x (256 ^ k)
  have ey := Nat.div_add_mod y (256 ^ k)
  have mx := Nat.mod_lt x hp
  have my := Nat.mod_lt y hp
  have ih := less_beB k (x % 256 ^ k) (y % 256 ^ k) r s mx my
  rw [beB_mod x k k (Nat.le_refl k), beB_mod y k k (Nat.le_refl k)] at ih
  simp only [beB, List.cons_append]
  generalize x / 256 ^ k = a at *
  generalize y / 256 ^ k = b at *
  generalize x % 256 ^ k = c at *
  generalize y % 256 ^ k = d at *
  generalize 256 ^ k = p at *
  have na : (UInt8.ofNat a).toNat = a := by simp; omega
  have nb : (UInt8.ofNat b).toNat = b := by simp; omega
  rcases Nat.lt_trichotomy a b with h | h | h
  ·rw [less_lt (UInt8.lt_iff_toNat_lt.2 (by rw [na, nb]; exact h))]
   have hlt : x < y := by
    have : p * (a + 1) ≤ p * b := Nat.mul_le_mul_left p h
    rw [Nat.mul_add] at this
    omega
   rw [if_neg (by omega)]
   simp [hlt]
  ·subst h
   rw [less_same, ih]
   by_cases hcd : c = d
   ·subst hcd; rw [if_pos rfl, if_pos (by omega)]
   ·rw [if_neg hcd, if_neg (by omega)]
    congr 1
    apply propext
    omega
  ·rw [less_gt (UInt8.lt_iff_toNat_lt.2 (by rw [na, nb]; exact h))]
   have hlt : y < x := by
    have : p * (b + 1) ≤ p * a := Nat.mul_le_mul_left p h
    rw [Nat.mul_add] at this
    omega
   rw [if_neg (by omega)]
   simp; omega

/-! ### Whole numbers -/
theorem less_int8 (m n : Int) (hm : -9223372036854775808 ≤ m) (hm' : m ≤ 9223372036854775807) (hn : -9223372036854775808 ≤ n) (hn' : n ≤ 9223372036854775807) : less (int8 m) (int8 n) = decide (m < n) := by
 unfold int8
 have h := less_beB 8 ((m + 9223372036854775808) % 18446744073709551616).toNat ((n + 9223372036854775808) % 18446744073709551616).toNat [] [] (by simp; omega) (by simp; omega)
 rw [List.append_nil, List.append_nil] at h
 rw [h]
 by_cases e : m = n
 ·subst e; rw [if_pos rfl]; simp; rfl
 ·rw [if_neg (by omega)]
  congr 1
  apply propext
  omega

end Go.Proofs.YtolkhjdododdaaaGreatDoor

/- The walks over cell.Cmp, cell.Join. (what a smaller cut has) -/
namespace Go.Proofs.YtolkhjdododdaaaGreatDoor
open Go Go.RowKit

def cmpI (x y : Int) : Int := if x < y then -1 else if x > y then 1 else 0
def bit (b : Bool) : Int := if b then 1 else 0
def or4 (x y z t : Int) : Int := if x = 0 then (if y = 0 then (if z = 0 then t else z) else y) else x
def endC (e e' : Int) : Int := if e = 0 ∨ e' = 0 then cmpI (bit (e == 0)) (bit (e' == 0)) else cmpI e e'
def cmpB (l m : List UInt8) : Int := Lib.compareBytes l m
/-- cell.Cmp. -/
def cmpC (v : ByteArray) (d : Bool) (a e : Int) (v' : ByteArray) (d' : Bool) (a' e' : Int) : Int := or4 (cmpI a a') (cmpI (bit d) (bit d')) (cmpB v.data.toList v'.data.toList) (endC e e')
def sameC (v : ByteArray) (d : Bool) (a e : Int) (v' : ByteArray) (d' : Bool) (a' e' : Int) : Bool := v.toList == v'.toList && d == d' && a == a' && e == e'

/-- A slice of four ints. -/
def Ints (w : World) (v : Value) (l : List Int) : Prop := SliceIn w v l.length (l.map (Value.int .i64))

attribute [local go_sem] yields yUpon

/-- The two cells that came in, in the blocks that the call has laid for them. -/
structure Params (w w0 : World) (v : ByteArray) (d : Bool) (a e : Int) (v' : ByteArray) (d' : Bool) (a' e' : Int) : Prop where
 c0 : w0.cell? ⟨w.heap.size, 0, none⟩ = some (.string v)
 c1 : w0.cell? ⟨w.heap.size, 1, none⟩ = some (.bool d)
 c2 : w0.cell? ⟨w.heap.size, 2, none⟩ = some (.int .i64 a)
 c3 : w0.cell? ⟨w.heap.size, 3, none⟩ = some (.int .i64 e)
 b0 : w0.cell? ⟨w.heap.size + 1, 0, none⟩ = some (.string v')
 b1 : w0.cell? ⟨w.heap.size + 1, 1, none⟩ = some (.bool d')
 b2 : w0.cell? ⟨w.heap.size + 1, 2, none⟩ = some (.int .i64 a')
 b3 : w0.cell? ⟨w.heap.size + 1, 3, none⟩ = some (.int .i64 e')
theorem Params.mk' (w : World) (v : ByteArray) (d : Bool) (a e : Int) (v' : ByteArray) (d' : Bool) (a' e' : Int) (t : TypeId) :
  Params w ((w.alloc (.cells #[.string v, .bool d, .int .i64 a, .int .i64 e] t)).alloc (.cells #[.string v', .bool d', .int .i64 a', .int .i64 e'] t)) v d a e v' d' a' e' := by
 constructor <;> simp
theorem Params.ext {w w0 w1 : World} {v : ByteArray} {d : Bool} {a e : Int} {v' : ByteArray} {d' : Bool} {a' e' : Int} (h : Params w w0 v d a e v' d' a' e') (hE : Ext w0 w1) : Params w w1 v d a e v' d' a' e' :=
 ⟨hE.cell h.c0, hE.cell h.c1, hE.cell h.c2, hE.cell h.c3, hE.cell h.b0, hE.cell h.b1, hE.cell h.b2, hE.cell h.b3⟩

theorem endC_one {e e' : Int} (h : (e == 0) = true) : cmpI (bit true) (bit (e' == 0)) = endC e e' := by
 have : e = 0 := by simpa using h
 subst this
 simp [endC]
theorem endC_two {e e' : Int} (h : (e == 0) = false) (h' : (e' == 0) = true) : cmpI (bit false) (bit true) = endC e e' := by
 have h1 : e ≠ 0 := by simpa using h
 have : e' = 0 := by simpa using h'
 subst this
 simp [endC, h1, h]
theorem endC_three {e e' : Int} (h : (e == 0) = false) (h' : (e' == 0) = false) : cmpI e e' = endC e e' := by
 have h1 : e ≠ 0 := by simpa using h
 have h2 : e' ≠ 0 := by simpa using h'
 simp [endC, h1, h2]
end Go.Proofs.YtolkhjdododdaaaGreatDoor

/- The walks over the reference of cell, and over what the laws of cell ask beside. (what a smaller cut has) (what a smaller cut has) -/
namespace Go.Proofs.YtolkhjdododdaaaGreatDoor
open Go Go.RowKit
attribute [local go_sem] yields yUpon

theorem cmpB_less : ∀ (l m : List UInt8), cmpB l m = if less l m then -1 else if less m l then 1 else 0
 | [], [] => rfl
 | [], _ :: _ => rfl
 | _ :: _, [] => rfl
 | a :: l, b :: m => by
  have ih := cmpB_less l m
  unfold cmpB at *
  unfold Lib.compareBytes
  by_cases h1 : a < b
  ·rw [if_pos h1, less_lt h1]; rfl
  ·by_cases h2 : b < a
   ·rw [if_neg h1, if_pos h2, less_gt h2, less_lt h2]; rfl
   ·have : a = b := UInt8.le_antisymm (UInt8.not_lt.1 h2) (UInt8.not_lt.1 h1)
    subst this
    rw [if_neg h1, if_neg h1, less_same, less_same]
    exact ih

/-- First of five that is not 0. -/
def or5 (x y z s t : Int) : Int := if x = 0 then (if y = 0 then (if z = 0 then (if s = 0 then t else s) else z) else y) else x
theorem or5_end (v : ByteArray) (d : Bool) (a e : Int) (v' : ByteArray) (d' : Bool) (a' e' : Int) (_ : True) :
  or5 (cmpI a a') (cmpI (bit d) (bit d')) (cmpB v.data.toList v'.data.toList) (cmpI (bit (e == 0)) (bit (e' == 0))) (cmpI e e') = cmpC v d a e v' d' a' e' := by
 unfold or5 cmpC or4
 have h : (if cmpI (bit (e == 0)) (bit (e' == 0)) = 0 then cmpI e e' else cmpI (bit (e == 0)) (bit (e' == 0))) = endC e e' := by
  unfold endC
  by_cases h1 : e = 0 <;> by_cases h2 : e' = 0 <;> simp [h1, h2, cmpI, bit]
 rw [h]

end Go.Proofs.YtolkhjdododdaaaGreatDoor
