/- Contracts of the library, laid at this program: strings.Compare, cmp.Compare: each is one application of a theorem of the shelf (the text is the tool's, its numbers by name). -/
import Derived.Shelf.Small.Strs
import Derived.Shelf.Small.Wraps
import Derived.Shelf.Strconv.Itoa0
import Derived.Test.YteamiiekpjoclaaProg
import Derived.Test.YteamiiekpjoclaaP5
import Derived.Laws.Strings
import Derived.Test.YteamiiekpjoclaaP1
import Derived.Deep.Light
set_option linter.unusedSimpArgs false
set_option linter.unusedVariables false
namespace Go.Proofs
open Go.Shelf
def Try.lays106_ren : Go.Shelf.Ren := ⟨fun | 106 => 56 | 213 => 85 | 265 => 107 | n => n, fun | 9 => 9 | 3 => 3 | n => n, fun | n => n⟩
theorem Try.lays106 : Go.Proofs.Lays.n106 Try.prog Try.lays106_ren := {
  mixed := by kernel_rfl
  f106 := Try.func56.trans (congrArg some (by kernel_rfl))
  f213 := Try.func85.trans (congrArg some (by kernel_rfl))
  f265 := Try.func107.trans (congrArg some (by kernel_rfl))
  t3 := Try.underlying3
  a3 := Try.isAgg3
  z3 := Try.sizeOf3
  v3 := Try.zeroValue3
  t9 := Try.underlying9
  a9 := Try.isAgg9
  z9 := Try.sizeOf9
  v9 := Try.zeroValue9 }
open Go.RowKit in
theorem Try.strings_Compare (a b : ByteArray) (w : World) :
    Calls Try.prog 56 #[.string a, .string b] w fun e w' => e = .returned (.int .i64 (Lib.compareBytes a.data.toList b.data.toList)) ∧ w' = w := Any.strings_Compare Try.lays106 a b w
def Try.lays122_ren : Go.Shelf.Ren := ⟨fun | 122 => 114 | 215 => 124 | n => n, fun | 3 => 3 | 4 => 4 | n => n, fun | n => n⟩
theorem Try.lays122 : Go.Proofs.Lays.n122 Try.prog Try.lays122_ren := {
  mixed := by kernel_rfl
  f122 := Try.func114.trans (congrArg some (by kernel_rfl))
  f215 := Try.func124.trans (congrArg some (by kernel_rfl))
  t3 := Try.underlying3
  a3 := Try.isAgg3
  z3 := Try.sizeOf3
  v3 := Try.zeroValue3
  t4 := Try.underlying4
  a4 := Try.isAgg4
  z4 := Try.sizeOf4
  v4 := Try.zeroValue4 }
open Go.RowKit in
theorem Try.cmp_Compare_int (x y : Int) (w : World) :
    Calls Try.prog 114 #[.int .i64 x, .int .i64 y] w fun e w' => e = .returned (.int .i64 (Lib.compareInt x y)) ∧ w' = w := Any.cmp_Compare_int Try.lays122 x y w
end Go.Proofs

/- Plain laws: the bytes of numbers, texts and whole numbers stand in the order of what they are. -/
namespace Go.Proofs.Yteamiiekpjoclaa
open Go

abbrev less (x y : List UInt8) : Bool := Op.bytesLess x y
theorem less_nil (x : List UInt8) : less x [] = false := by cases x <;> rfl
theorem less_nil_cons (b : UInt8) (y : List UInt8) : less [] (b :: y) = true := rfl
theorem less_cons (a b : UInt8) (x y : List UInt8) : less (a :: x) (b :: y) = (decide (a < b) || (a == b && less x y)) := rfl
theorem less_same (a : UInt8) (x y : List UInt8) : less (a :: x) (a :: y) = less x y := by
  rw [less_cons]
  have : ¬ a < a := UInt8.lt_irrefl a
  simp [this]
theorem less_lt {a b : UInt8} (h : a < b) (x y : List UInt8) : less (a :: x) (b :: y) = true := by rw [less_cons]; simp [h]
theorem less_gt {a b : UInt8} (h : b < a) (x y : List UInt8) : less (a :: x) (b :: y) = false := by
  rw [less_cons]
  have h1 : ¬ a < b := UInt8.lt_asymm h
  have h2 : a ≠ b := by rintro rfl; exact UInt8.lt_irrefl _ h
  simp [h1, h2]
theorem less_irrefl (x : List UInt8) : less x x = false := by
  induction x with
  | nil => rfl
  | cons a x ih => rw [less_same]; exact ih
theorem less_asymm : ∀ {x y : List UInt8}, less x y = true → less y x = false
  | [], [], h => by cases h
  | [], _ :: _, _ => less_nil _
  | _ :: _, [], h => by rw [less_nil] at h; cases h
  | a :: x, b :: y, h => by
    rw [less_cons] at h
    by_cases h1 : a < b
    · exact less_gt h1 _ _
    · simp [h1] at h
      obtain ⟨rfl, h⟩ := h
      rw [less_same]
      exact less_asymm h
theorem less_tri : ∀ (x y : List UInt8), less x y = true ∨ x = y ∨ less y x = true
  | [], [] => .inr (.inl rfl)
  | [], _ :: _ => .inl rfl
  | _ :: _, [] => .inr (.inr rfl)
  | a :: x, b :: y => by
    by_cases h1 : a < b
    · exact .inl (less_lt h1 _ _)
    · by_cases h2 : b < a
      · exact .inr (.inr (less_lt h2 _ _))
      · have : a = b := UInt8.le_antisymm (UInt8.not_lt.1 h2) (UInt8.not_lt.1 h1)
        subst this
        rw [less_same, less_same]
        rcases less_tri x y with h | h | h
        · exact .inl h
        · exact .inr (.inl (by rw [h]))
        · exact .inr (.inr h)
theorem less_ne {x y : List UInt8} (h : less x y = true) : x ≠ y := by rintro rfl; rw [less_irrefl] at h; cases h
theorem less_trans : ∀ {x y z : List UInt8}, less x y = true → less y z = true → less x z = true
  | _, _, [], _, h => by rw [less_nil] at h; cases h
  | [], _, _ :: _, _, _ => rfl
  | _ :: _, [], _ :: _, h, _ => by rw [less_nil] at h; cases h
  | a :: x, b :: y, c :: z, h1, h2 => by
    rw [less_cons] at h1 h2
    simp only [Bool.or_eq_true, decide_eq_true_eq, Bool.and_eq_true, beq_iff_eq] at h1 h2
    rcases h1 with h1 | ⟨rfl, h1⟩ <;> rcases h2 with h2 | ⟨rfl, h2⟩
    · exact less_lt (UInt8.lt_trans h1 h2) _ _
    · exact less_lt h1 _ _
    · exact less_lt h2 _ _
    · rw [less_same]; exact less_trans h1 h2

/-! ### Texts -/
theorem txt_nil_app (r : List UInt8) : txt [] ++ r = 0 :: 1 :: r := rfl
theorem txt_zero_app (l r : List UInt8) : txt (0 :: l) ++ r = 0 :: 255 :: (txt l ++ r) := by simp [txt, esc]
theorem txt_cons_app {b : UInt8} (h : b ≠ 0) (l r : List UInt8) : txt (b :: l) ++ r = b :: (txt l ++ r) := by simp [txt, esc, h]
theorem pos_of_ne {b : UInt8} (h : b ≠ 0) : 0 < b := by
  have : b.toNat ≠ 0 := fun e => h (UInt8.toNat.inj (by simpa using e))
  rw [UInt8.lt_iff_toNat_lt]
  simp; omega

theorem less_txt : ∀ (l m r s : List UInt8), less (txt l ++ r) (txt m ++ s) = if l = m then less r s else less l m
  | [], [], r, s => by rw [txt_nil_app, txt_nil_app, less_same, less_same, if_pos rfl]
  | [], b :: m, r, s => by
    rw [if_neg (by simp), txt_nil_app, less_nil_cons]
    by_cases h : b = 0
    · subst h; rw [txt_zero_app, less_same]; exact less_lt (by decide) _ _
    · rw [txt_cons_app h]; exact less_lt (pos_of_ne h) _ _
  | a :: l, [], r, s => by
    rw [if_neg (by simp), txt_nil_app, less_nil]
    by_cases h : a = 0
    · subst h; rw [txt_zero_app, less_same]; exact less_gt (by decide) _ _
    · rw [txt_cons_app h]; exact less_gt (pos_of_ne h) _ _
  | a :: l, b :: m, r, s => by
    by_cases hab : a = b
    · subst hab
      have ih := less_txt l m r s
      have e : (if a :: l = a :: m then less r s else less (a :: l) (a :: m)) = if l = m then less r s else less l m := by
        rw [less_same]
        by_cases hlm : l = m <;> simp [hlm]
      rw [e]
      by_cases h : a = 0
      · subst h; rw [txt_zero_app, txt_zero_app, less_same, less_same]; exact ih
      · rw [txt_cons_app h, txt_cons_app h, less_same]; exact ih
    · rw [if_neg (by simp [hab]), less_cons]
      have e : (a == b) = false := by simp [hab]
      rw [e, Bool.false_and, Bool.or_false]
      by_cases ha : a = 0
      · subst ha
        rw [txt_zero_app, txt_cons_app (Ne.symm hab), less_lt (pos_of_ne (Ne.symm hab))]
        simp [pos_of_ne (Ne.symm hab)]
      · by_cases hb : b = 0
        · subst hb
          rw [txt_zero_app, txt_cons_app ha, less_gt (pos_of_ne ha)]
          simp [UInt8.lt_asymm (pos_of_ne ha)]
        · rw [txt_cons_app ha, txt_cons_app hb, less_cons, e, Bool.false_and, Bool.or_false]

theorem txt_inj : ∀ (l m r s : List UInt8), txt l ++ r = txt m ++ s → l = m ∧ r = s
  | [], [], r, s, h => by rw [txt_nil_app, txt_nil_app] at h; simp at h; exact ⟨rfl, h⟩
  | [], b :: m, r, s, h => by
    rw [txt_nil_app] at h
    by_cases hb : b = 0
    · subst hb; rw [txt_zero_app] at h; simp at h
    · rw [txt_cons_app hb] at h; simp at h; exact absurd h.1.symm hb
  | a :: l, [], r, s, h => by
    rw [txt_nil_app] at h
    by_cases hb : a = 0
    · subst hb; rw [txt_zero_app] at h; simp at h
    · rw [txt_cons_app hb] at h; simp at h; exact absurd h.1 hb
  | a :: l, b :: m, r, s, h => by
    by_cases ha : a = 0 <;> by_cases hb : b = 0
    · subst ha; subst hb
      rw [txt_zero_app, txt_zero_app] at h; simp at h
      have := txt_inj l m r s h
      exact ⟨by rw [this.1], this.2⟩
    · subst ha; rw [txt_zero_app, txt_cons_app hb] at h; simp at h; exact absurd h.1.symm hb
    · subst hb; rw [txt_zero_app, txt_cons_app ha] at h; simp at h; exact absurd h.1 ha
    · rw [txt_cons_app ha, txt_cons_app hb] at h; simp at h
      have := txt_inj l m r s h.2
      exact ⟨by rw [h.1, this.1], this.2⟩

/-! ### Numbers -/
theorem beB_mod (x : Nat) : ∀ (k m : Nat), k ≤ m → beB k (x % 256 ^ m) = beB k x
  | 0, _, _ => rfl
  | k + 1, m, h => by
    simp only [beB]
    rw [beB_mod x k m (by omega)]
    congr 1
    obtain ⟨j, rfl⟩ : ∃ j, m = k + (j + 1) := ⟨m - k - 1, by omega⟩
    rw [Nat.pow_add, Nat.mod_mul_right_div_self, Nat.pow_succ]
    apply UInt8.toNat.inj
    simp [Nat.mod_mul_left_mod]

theorem less_beB : ∀ (k x y : Nat) (r s : List UInt8), x < 256 ^ k → y < 256 ^ k → less (beB k x ++ r) (beB k y ++ s) = if x = y then less r s else decide (x < y)
  | 0, x, y, r, s, hx, hy => by
    obtain rfl : x = 0 := by simpa using hx
    obtain rfl : y = 0 := by simpa using hy
    rw [if_pos rfl]; rfl
  | k + 1, x, y, r, s, hx, hy => by
    have hp : 0 < 256 ^ k := Nat.pow_pos (by decide)
    have hx1 : x / 256 ^ k < 256 := Nat.div_lt_of_lt_mul (by rw [Nat.pow_succ] at hx; exact hx)
    have hy1 : y / 256 ^ k < 256 := Nat.div_lt_of_lt_mul (by rw [Nat.pow_succ] at hy; exact hy)
    have ex := Nat.div_add_mod x (256 ^ k)
    have ey := Nat.div_add_mod y (256 ^ k)
    have mx := Nat.mod_lt x hp
    have my := Nat.mod_lt y hp
    have ih := less_beB k (x % 256 ^ k) (y % 256 ^ k) r s mx my
    rw [beB_mod x k k (Nat.le_refl k), beB_mod y k k (Nat.le_refl k)] at ih
    simp only [beB, List.cons_append]
    generalize x / 256 ^ k = a at *
    generalize y / 256 ^ k = b at *
    generalize x % 256 ^ k = c at *
    generalize y % 256 ^ k = d at *
    generalize 256 ^ k = p at *
    have na : (UInt8.ofNat a).toNat = a := by simp; omega
    have nb : (UInt8.ofNat b).toNat = b := by simp; omega
    rcases Nat.lt_trichotomy a b with h | h | h
    · rw [less_lt (UInt8.lt_iff_toNat_lt.2 (by rw [na, nb]; exact h))]
      have hlt : x < y := by
        have : p * (a + 1) ≤ p * b := Nat.mul_le_mul_left p h
        rw [Nat.mul_add] at this
        omega
      rw [if_neg (by omega)]
      simp [hlt]
    · subst h
      rw [less_same, ih]
      by_cases hcd : c = d
      · subst hcd; rw [if_pos rfl, if_pos (by omega)]
      · rw [if_neg hcd, if_neg (by omega)]
        congr 1
        apply propext
        omega
    · rw [less_gt (UInt8.lt_iff_toNat_lt.2 (by rw [na, nb]; exact h))]
      have hlt : y < x := by
        have : p * (b + 1) ≤ p * a := Nat.mul_le_mul_left p h
        rw [Nat.mul_add] at this
        omega
      rw [if_neg (by omega)]
      simp; omega

theorem beB_inj : ∀ (k x y : Nat) (r s : List UInt8), x < 256 ^ k → y < 256 ^ k → beB k x ++ r = beB k y ++ s → x = y ∧ r = s := by
  intro k x y r s hx hy h
  have e : beB k x = beB k y := by
    have := congrArg (List.take k) h
    rwa [List.take_left' (beB_length _ _), List.take_left' (beB_length _ _)] at this
  have h1 := less_beB k x y [] [] hx hy
  have h2 := less_beB k y x [] [] hy hx
  rw [e, less_irrefl] at h1
  rw [e, less_irrefl] at h2
  refine ⟨?_, by rw [e] at h; exact List.append_cancel_left h⟩
  by_cases hxy : x = y
  · exact hxy
  · rw [if_neg hxy] at h1
    rw [if_neg (Ne.symm hxy)] at h2
    simp at h1 h2
    omega

theorem lt_nlen (x : Nat) : x < 256 ^ nlen x := by
  refine Nat.lt_of_lt_of_le (bitsOf_lt x) ?_
  rw [show (256 : Nat) = 2 ^ 8 from rfl, ← Nat.pow_mul]
  exact Nat.pow_le_pow_right (by omega) (by unfold nlen; omega)
theorem nlen_le_pow {x : Nat} (h : x ≠ 0) : 256 ^ (nlen x - 1) ≤ x := by
  refine Nat.le_trans ?_ (bitsOf_le x h)
  rw [show (256 : Nat) = 2 ^ 8 from rfl, ← Nat.pow_mul]
  exact Nat.pow_le_pow_right (by omega) (by unfold nlen; omega)
theorem nlen_lt {x y : Nat} (h : nlen x < nlen y) : x < y := by
  have hy : y ≠ 0 := by rintro rfl; simp [nlen, bitsOf] at h
  refine Nat.lt_of_lt_of_le (lt_nlen x) (Nat.le_trans ?_ (nlen_le_pow hy))
  exact Nat.pow_le_pow_right (by omega) (by omega)

theorem less_num (x y : Nat) (r s : List UInt8) (hx : nlen x ≤ 8) (hy : nlen y ≤ 8) : less (num x ++ r) (num y ++ s) = if x = y then less r s else decide (x < y) := by
  simp only [num, List.cons_append]
  have na : (UInt8.ofNat (nlen x)).toNat = nlen x := by simp; omega
  have nb : (UInt8.ofNat (nlen y)).toNat = nlen y := by simp; omega
  rcases Nat.lt_trichotomy (nlen x) (nlen y) with h | h | h
  · have := nlen_lt h
    rw [less_lt (UInt8.lt_iff_toNat_lt.2 (by rw [na, nb]; exact h)), if_neg (by omega)]
    simp [this]
  · rw [h, less_same]
    exact less_beB _ x y r s (h ▸ lt_nlen x) (lt_nlen y)
  · have := nlen_lt h
    rw [less_gt (UInt8.lt_iff_toNat_lt.2 (by rw [na, nb]; exact h)), if_neg (by omega)]
    simp; omega
theorem num_inj (x y : Nat) (r s : List UInt8) (hx : nlen x ≤ 8) (hy : nlen y ≤ 8) (h : num x ++ r = num y ++ s) : x = y ∧ r = s := by
  simp only [num, List.cons_append, List.cons.injEq] at h
  have na : (UInt8.ofNat (nlen x)).toNat = nlen x := by simp; omega
  have nb : (UInt8.ofNat (nlen y)).toNat = nlen y := by simp; omega
  have e : nlen x = nlen y := by rw [← na, ← nb, h.1]
  rw [e] at h
  exact beB_inj _ x y r s (e ▸ lt_nlen x) (lt_nlen y) h.2

/-! ### Whole numbers -/
theorem less_int8 (m n : Int) (hm : -9223372036854775808 ≤ m) (hm' : m ≤ 9223372036854775807) (hn : -9223372036854775808 ≤ n) (hn' : n ≤ 9223372036854775807) : less (int8 m) (int8 n) = decide (m < n) := by
  unfold int8
  have h := less_beB 8 ((m + 9223372036854775808) % 18446744073709551616).toNat ((n + 9223372036854775808) % 18446744073709551616).toNat [] [] (by simp; omega) (by simp; omega)
  rw [List.append_nil, List.append_nil] at h
  rw [h]
  by_cases e : m = n
  · subst e; rw [if_pos rfl]; simp; rfl
  · rw [if_neg (by omega)]
    congr 1
    apply propext
    omega

end Go.Proofs.Yteamiiekpjoclaa

/- The walks over cell.Cmp, cell.Join. -/
namespace Go.Proofs.Yteamiiekpjoclaa
open Go Go.RowKit

def cmpI (x y : Int) : Int := if x < y then -1 else if x > y then 1 else 0
def bit (b : Bool) : Int := if b then 1 else 0
def or4 (x y z t : Int) : Int := if x = 0 then (if y = 0 then (if z = 0 then t else z) else y) else x
def endC (e e' : Int) : Int := if e = 0 ∨ e' = 0 then cmpI (bit (e == 0)) (bit (e' == 0)) else cmpI e e'
def cmpB (l m : List UInt8) : Int := Lib.compareBytes l m
/-- cell.Cmp. -/
def cmpC (v : ByteArray) (d : Bool) (a e : Int) (v' : ByteArray) (d' : Bool) (a' e' : Int) : Int := or4 (cmpI a a') (cmpI (bit d) (bit d')) (cmpB v.data.toList v'.data.toList) (endC e e')
def sameC (v : ByteArray) (d : Bool) (a e : Int) (v' : ByteArray) (d' : Bool) (a' e' : Int) : Bool := v.toList == v'.toList && d == d' && a == a' && e == e'

theorem cmpCompare_any (x y : Int) (w : World) : Calls Try.prog 114 #[.int .i64 x, .int .i64 y] w fun e w' => e = .returned (.int .i64 (cmpI x y)) ∧ w = w' :=
  (Try.cmp_Compare_int x y w).mono fun _ _ h => ⟨h.1, h.2.symm⟩
theorem strCompare_any (x y : ByteArray) (w : World) : Calls Try.prog 56 #[.string x, .string y] w fun e w' => e = .returned (.int .i64 (cmpB x.data.toList y.data.toList)) ∧ w = w' :=
  (Try.strings_Compare x y w).mono fun _ _ h => ⟨h.1, h.2.symm⟩

set_option maxHeartbeats 400000 in
theorem truth_any (b : Bool) (w : World) : Calls Try.prog 115 #[.bool b] w fun e w' => e = .returned (.int .i64 (bit b)) ∧ w = w' := by
  cases b
  all_goals
    go_enter Try.func115, Try.ntmps115
    go_wp2
    go_ret
    exact ⟨rfl, rfl⟩

/-- A slice of four ints. -/
def Ints (w : World) (v : Value) (l : List Int) : Prop := SliceIn w v l.length (l.map (Value.int .i64))

set_option maxHeartbeats 400000 in
theorem cmpOr_any (x y z t : Int) (v : Value) (w : World) (hv : SliceIn w v 4 [.int .i64 x, .int .i64 y, .int .i64 z, .int .i64 t]) :
    Calls Try.prog 116 #[v] w fun e w' => e = .returned (.int .i64 (or4 x y z t)) ∧ w = w' := by
  obtain ⟨a, c, rfl, hc, hcm, ha, hcell⟩ := hv
  obtain ⟨b, o, rfl, h0⟩ := hcell 0 _ rfl
  obtain ⟨b1, o1, e1, h1⟩ := hcell 1 _ rfl
  obtain ⟨b2, o2, e2, h2⟩ := hcell 2 _ rfl
  obtain ⟨b3, o3, e3, h3⟩ := hcell 3 _ rfl
  cases e1; cases e2; cases e3
  rw [Nat.add_zero] at h0
  clear hcell ha
  unfold or4
  by_cases hx : x = 0
  · subst hx
    rw [if_pos rfl]
    by_cases hy : y = 0
    · subst hy
      rw [if_pos rfl]
      by_cases hz : z = 0
      · subst hz
        rw [if_pos rfl]
        by_cases ht : t = 0
        · subst ht
          go_enter Try.func116, Try.ntmps116
          go_wp2
          refine wp_loop_rounds 5 ?_
          rw [rounds_succ]
          go_wp2
          rw [rounds_succ]
          go_wp2
          rw [rounds_succ]
          go_wp2
          rw [rounds_succ]
          go_wp2
          rw [rounds_succ]
          go_wp2
          go_ret
          exact ⟨rfl, rfl⟩
        · have ht' : ((t : Int) != 0) = true := by simpa using ht
          go_enter Try.func116, Try.ntmps116
          go_wp2
          refine wp_loop_rounds 4 ?_
          rw [rounds_succ]
          go_wp2
          rw [rounds_succ]
          go_wp2
          rw [rounds_succ]
          go_wp2
          rw [rounds_succ]
          go_wp2
          go_ret
          exact ⟨rfl, rfl⟩
      · have hz' : ((z : Int) != 0) = true := by simpa using hz
        rw [if_neg hz]
        go_enter Try.func116, Try.ntmps116
        go_wp2
        refine wp_loop_rounds 3 ?_
        rw [rounds_succ]
        go_wp2
        rw [rounds_succ]
        go_wp2
        rw [rounds_succ]
        go_wp2
        go_ret
        exact ⟨rfl, rfl⟩
    · have hy' : ((y : Int) != 0) = true := by simpa using hy
      rw [if_neg hy]
      go_enter Try.func116, Try.ntmps116
      go_wp2
      refine wp_loop_rounds 2 ?_
      rw [rounds_succ]
      go_wp2
      rw [rounds_succ]
      go_wp2
      go_ret
      exact ⟨rfl, rfl⟩
  · have hx' : ((x : Int) != 0) = true := by simpa using hx
    rw [if_neg hx]
    go_enter Try.func116, Try.ntmps116
    go_wp2
    refine wp_loop_rounds 1 ?_
    rw [rounds_succ]
    go_wp2
    go_ret
    exact ⟨rfl, rfl⟩

attribute [local go_sem] yields yUpon

/-- The two cells that came in, in the blocks that the call has laid for them. -/
structure Params (w w0 : World) (v : ByteArray) (d : Bool) (a e : Int) (v' : ByteArray) (d' : Bool) (a' e' : Int) : Prop where
  c0 : w0.cell? ⟨w.heap.size, 0, none⟩ = some (.string v)
  c1 : w0.cell? ⟨w.heap.size, 1, none⟩ = some (.bool d)
  c2 : w0.cell? ⟨w.heap.size, 2, none⟩ = some (.int .i64 a)
  c3 : w0.cell? ⟨w.heap.size, 3, none⟩ = some (.int .i64 e)
  b0 : w0.cell? ⟨w.heap.size + 1, 0, none⟩ = some (.string v')
  b1 : w0.cell? ⟨w.heap.size + 1, 1, none⟩ = some (.bool d')
  b2 : w0.cell? ⟨w.heap.size + 1, 2, none⟩ = some (.int .i64 a')
  b3 : w0.cell? ⟨w.heap.size + 1, 3, none⟩ = some (.int .i64 e')
theorem Params.mk' (w : World) (v : ByteArray) (d : Bool) (a e : Int) (v' : ByteArray) (d' : Bool) (a' e' : Int) (t : TypeId) :
    Params w ((w.alloc (.cells #[.string v, .bool d, .int .i64 a, .int .i64 e] t)).alloc (.cells #[.string v', .bool d', .int .i64 a', .int .i64 e'] t)) v d a e v' d' a' e' := by
  constructor <;> simp
theorem Params.ext {w w0 w1 : World} {v : ByteArray} {d : Bool} {a e : Int} {v' : ByteArray} {d' : Bool} {a' e' : Int} (h : Params w w0 v d a e v' d' a' e') (hE : Ext w0 w1) : Params w w1 v d a e v' d' a' e' :=
  ⟨hE.cell h.c0, hE.cell h.c1, hE.cell h.c2, hE.cell h.c3, hE.cell h.b0, hE.cell h.b1, hE.cell h.b2, hE.cell h.b3⟩

theorem endC_one {e e' : Int} (h : (e == 0) = true) : cmpI (bit true) (bit (e' == 0)) = endC e e' := by
  have : e = 0 := by simpa using h
  subst this
  simp [endC]
theorem endC_two {e e' : Int} (h : (e == 0) = false) (h' : (e' == 0) = true) : cmpI (bit false) (bit true) = endC e e' := by
  have h1 : e ≠ 0 := by simpa using h
  have : e' = 0 := by simpa using h'
  subst this
  simp [endC, h1, h]
theorem endC_three {e e' : Int} (h : (e == 0) = false) (h' : (e' == 0) = false) : cmpI e e' = endC e e' := by
  have h1 : e ≠ 0 := by simpa using h
  have h2 : e' ≠ 0 := by simpa using h'
  simp [endC, h1, h2]

set_option maxRecDepth 100000 in
set_option maxHeartbeats 1000000 in
theorem cmp_any (v : ByteArray) (d : Bool) (a e : Int) (v' : ByteArray) (d' : Bool) (a' e' : Int) (w : World) :
    Calls Try.prog 108 #[.agg #[.string v, .bool d, .int .i64 a, .int .i64 e], .agg #[.string v', .bool d', .int .i64 a', .int .i64 e']] w fun r w' =>
      r = .returned (.int .i64 (cmpC v d a e v' d' a' e')) ∧ Ext w w' := by
  go_enter Try.func108, Try.ntmps108
  rcases (show (e == 0) = true ∨ (e == 0) = false ∧ (e' == 0) = true ∨ (e == 0) = false ∧ (e' == 0) = false by cases e == 0 <;> cases e' == 0 <;> simp) with he | ⟨he, he'⟩ | ⟨he, he'⟩
  · have HE := Lib.hid (endC_one (e' := e') he)
    go_wp2_with (go_at_call 114; go_must (refine (cmpCompare_any _ _ _).mono ?_); rintro r w1 ⟨rfl, rfl⟩)
    refine wp_region_in 10 [(3, fun v _ => v = .int .i64 (bit true)), (7, fun v _ => v = .int .i64 (bit (e' == 0))), (8, fun v _ => v = .int .i64 (endC e e'))] (fun w0 => Ext w w0 ∧ Params w w0 v d a e v' d' a' e') (by kernel_rfl) (by kernel_rfl) (by kernel_rfl) ⟨stays_eq _, stays_eq _, stays_eq _, trivial⟩ ?_ ?_
    · exact ⟨((Ext.refl w).alloc _).alloc _, Params.mk' _ _ _ _ _ _ _ _ _ _⟩
    rintro w0 ⟨hX, hP⟩
    have k3 := held hP.c3
    have k3' := held hP.b3
    refine rg_quiet rfl rfl rfl rfl ?_; intro K hK; go_big_quiet_op; go_big_quiet_on
    refine rg_quiet rfl rfl rfl rfl ?_; intro K hK; go_big_quiet_op; go_big_quiet_on
    refine rg_quiet rfl rfl rfl rfl ?_; intro K hK; go_big_quiet_op; go_big_quiet_on
    refine rg_callv (vals := #[.bool true]) [] _ rfl rfl rfl rfl Try.func115 rfl (by kernel_rfl) rfl (by kernel_rfl) (fun w1 hE hf => ?_) ?_
    · exact (truth_any _ w1).mono fun e w' ⟨he, hw⟩ => ⟨he, hw ▸ Ext.refl w1⟩
    simp only [Act.put, List.setIfInBounds_toArray, List.set_cons_zero, List.set_cons_succ]
    refine rg_quiet rfl rfl rfl rfl ?_; intro K hK; go_big_quiet_op; go_big_quiet_on
    refine rg_quiet rfl rfl rfl rfl ?_; intro K hK; go_big_quiet_op; go_big_quiet_on
    refine rg_quiet rfl rfl rfl rfl ?_; intro K hK; go_big_quiet_op; go_big_quiet_on
    refine rg_callv (vals := #[.bool (e' == 0)]) [] _ rfl rfl rfl rfl Try.func115 rfl (by kernel_rfl) rfl (by kernel_rfl) (fun w1 hE hf => ?_) ?_
    · exact (truth_any _ w1).mono fun e w' ⟨he, hw⟩ => ⟨he, hw ▸ Ext.refl w1⟩
    simp only [Act.put, List.setIfInBounds_toArray, List.set_cons_zero, List.set_cons_succ]
    refine rg_callv (vals := #[.int .i64 (bit true), .int .i64 (bit (e' == 0))]) [] _ rfl rfl rfl rfl Try.func114 rfl (by kernel_rfl) rfl (by kernel_rfl) (fun w1 hE hf => ?_) ?_
    · exact (cmpCompare_any _ _ w1).mono fun e w' ⟨he, hw⟩ => ⟨by rw [he, HE.out], hw ▸ Ext.refl w1⟩
    simp only [Act.put, List.setIfInBounds_toArray, List.set_cons_zero, List.set_cons_succ]
    refine rg_quiet rfl rfl rfl rfl ?_; intro K hK; go_big_quiet_op; go_big_quiet_on
    refine rel_nil fun w2 hE2 _ => ?_
    replace hP := hP.ext hE2
    replace hX := hX.trans hE2
    clear k3 k3' hE2 he HE
    go_wp2_with fail
    obtain ⟨q0, hq0⟩ : ∃ q, q = cmpI a a' := ⟨_, rfl⟩
    obtain ⟨q1, hq1⟩ : ∃ q, q = cmpI (bit d) (bit d') := ⟨_, rfl⟩
    obtain ⟨q2, hq2⟩ : ∃ q, q = cmpB v.data.toList v'.data.toList := ⟨_, rfl⟩
    have HQ : Hid (or4 q0 q1 q2 (endC e e') = cmpC v d a e v' d' a' e') := by rw [hq0, hq1, hq2]; rfl
    have H0 := Lib.hid hq0.symm
    have H1 := Lib.hid hq1.symm
    have H2 := Lib.hid hq2.symm
    clear hq0 hq1 hq2
    refine wp_region_in 21 [(4, fun v _ => v = .int .i64 q0), (7, fun v _ => v = .int .i64 (bit d)), (10, fun v _ => v = .int .i64 (bit d')), (11, fun v _ => v = .int .i64 q1), (16, fun v _ => v = .int .i64 q2), (18, fun v w => SliceIn w v 4 [.int .i64 q0, .int .i64 q1, .int .i64 q2, .int .i64 (endC e e')]), (19, fun x _ => x = .int .i64 (or4 q0 q1 q2 (endC e e')))] (fun w0 => Ext w w0 ∧ Params w w0 v d a e v' d' a' e') (by kernel_rfl) (by kernel_rfl) (by kernel_rfl) ⟨stays_eq _, stays_eq _, stays_eq _, stays_eq _, stays_eq _, stays_slice _ _, stays_eq _, trivial⟩ ?_ ?_
    · exact ⟨hX, hP⟩
    clear hX hP
    rintro w0 ⟨hX, hP⟩
    have k0 := held hP.c0
    have k1 := held hP.c1
    have k2 := held hP.c2
    have j0 := held hP.b0
    have j1 := held hP.b1
    have j2 := held hP.b2
    clear hP
    refine rg_quiet rfl rfl rfl rfl ?_; intro K hK; go_big_quiet_op; go_big_quiet_on
    refine rg_quiet rfl rfl rfl rfl ?_; intro K hK; go_big_quiet_op; go_big_quiet_on
    refine rg_quiet rfl rfl rfl rfl ?_; intro K hK; go_big_quiet_op; go_big_quiet_on
    refine rg_quiet rfl rfl rfl rfl ?_; intro K hK; go_big_quiet_op; go_big_quiet_on
    refine rg_callv (vals := #[.int .i64 a, .int .i64 a']) [] _ rfl rfl rfl rfl Try.func114 rfl (by kernel_rfl) rfl (by kernel_rfl) (fun w1 hE hf => ?_) ?_
    · exact (cmpCompare_any _ _ w1).mono fun e w' ⟨he, hw⟩ => ⟨by rw [he, H0.out], hw ▸ Ext.refl w1⟩
    simp only [Act.put, List.setIfInBounds_toArray, List.set_cons_zero, List.set_cons_succ]
    refine rg_quiet rfl rfl rfl rfl ?_; intro K hK; go_big_quiet_op; go_big_quiet_on
    refine rg_quiet rfl rfl rfl rfl ?_; intro K hK; go_big_quiet_op; go_big_quiet_on
    refine rg_callv (vals := #[.bool d]) [] _ rfl rfl rfl rfl Try.func115 rfl (by kernel_rfl) rfl (by kernel_rfl) (fun w1 hE hf => ?_) ?_
    · exact (truth_any _ w1).mono fun e w' ⟨he, hw⟩ => ⟨he, hw ▸ Ext.refl w1⟩
    simp only [Act.put, List.setIfInBounds_toArray, List.set_cons_zero, List.set_cons_succ]
    refine rg_quiet rfl rfl rfl rfl ?_; intro K hK; go_big_quiet_op; go_big_quiet_on
    refine rg_quiet rfl rfl rfl rfl ?_; intro K hK; go_big_quiet_op; go_big_quiet_on
    refine rg_callv (vals := #[.bool d']) [] _ rfl rfl rfl rfl Try.func115 rfl (by kernel_rfl) rfl (by kernel_rfl) (fun w1 hE hf => ?_) ?_
    · exact (truth_any _ w1).mono fun e w' ⟨he, hw⟩ => ⟨he, hw ▸ Ext.refl w1⟩
    simp only [Act.put, List.setIfInBounds_toArray, List.set_cons_zero, List.set_cons_succ]
    refine rg_callv (vals := #[.int .i64 (bit d), .int .i64 (bit d')]) [] _ rfl rfl rfl rfl Try.func114 rfl (by kernel_rfl) rfl (by kernel_rfl) (fun w1 hE hf => ?_) ?_
    · exact (cmpCompare_any _ _ w1).mono fun e w' ⟨he, hw⟩ => ⟨by rw [he, H1.out], hw ▸ Ext.refl w1⟩
    simp only [Act.put, List.setIfInBounds_toArray, List.set_cons_zero, List.set_cons_succ]
    refine rg_quiet rfl rfl rfl rfl ?_; intro K hK; go_big_quiet_op; go_big_quiet_on
    refine rg_quiet rfl rfl rfl rfl ?_; intro K hK; go_big_quiet_op; go_big_quiet_on
    refine rg_quiet rfl rfl rfl rfl ?_; intro K hK; go_big_quiet_op; go_big_quiet_on
    refine rg_quiet rfl rfl rfl rfl ?_; intro K hK; go_big_quiet_op; go_big_quiet_on
    refine rg_callv (vals := #[.string v, .string v']) [] _ rfl rfl rfl rfl Try.func56 rfl (by kernel_rfl) rfl (by kernel_rfl) (fun w1 hE hf => ?_) ?_
    · exact (strCompare_any _ _ w1).mono fun e w' ⟨he, hw⟩ => ⟨by rw [he, H2.out], hw ▸ Ext.refl w1⟩
    simp only [Act.put, List.setIfInBounds_toArray, List.set_cons_zero, List.set_cons_succ]
    refine rg_quiet rfl rfl rfl rfl ?_; intro K hK; go_big_quiet_op; go_big_quiet_on
    refine rel_call [] _ rfl rfl rfl rfl (fun w1 hE hf => ?_) (fun x w1 hE hG hx => ?_)
    · go_simp
      exact ⟨hE.alloc _, (Ext.refl w1).alloc _, SliceIn.made w1 #[_, _, _, _] _ 4 (by unfold maxLen; omega)⟩
    simp only [Act.put, List.setIfInBounds_toArray, List.set_cons_zero, List.set_cons_succ]
    refine rg_callv (vals := #[x]) [18] _ rfl rfl rfl rfl Try.func116 rfl (by kernel_rfl) rfl (by kernel_rfl) (fun w1 hE hf => ?_) ?_
    · exact (cmpOr_any _ _ _ _ _ w1 ((hf 18 (by simp)).2 rfl)).mono fun e w' ⟨he, hw⟩ => ⟨he, hw ▸ Ext.refl w1⟩
    simp only [Act.put, List.setIfInBounds_toArray, List.set_cons_zero, List.set_cons_succ]
    refine rg_quiet rfl rfl rfl rfl ?_; intro K hK; go_big_quiet_op; go_big_quiet_on
    refine rel_nil fun w2 hE2 _ => ?_
    replace hX := hX.trans hE2
    go_wp2
    go_ret
    exact ⟨ret_int HQ.out, hX⟩
  · have HE := Lib.hid (endC_two he he')
    go_wp2_with (go_at_call 114; go_must (refine (cmpCompare_any _ _ _).mono ?_); rintro r w1 ⟨rfl, rfl⟩)
    refine wp_region_in 10 [(3, fun v _ => v = .int .i64 (bit false)), (7, fun v _ => v = .int .i64 (bit true)), (8, fun v _ => v = .int .i64 (endC e e'))] (fun w0 => Ext w w0 ∧ Params w w0 v d a e v' d' a' e') (by kernel_rfl) (by kernel_rfl) (by kernel_rfl) ⟨stays_eq _, stays_eq _, stays_eq _, trivial⟩ ?_ ?_
    · exact ⟨((Ext.refl w).alloc _).alloc _, Params.mk' _ _ _ _ _ _ _ _ _ _⟩
    rintro w0 ⟨hX, hP⟩
    have k3 := held hP.c3
    have k3' := held hP.b3
    refine rg_quiet rfl rfl rfl rfl ?_; intro K hK; go_big_quiet_op; go_big_quiet_on
    refine rg_quiet rfl rfl rfl rfl ?_; intro K hK; go_big_quiet_op; go_big_quiet_on
    refine rg_quiet rfl rfl rfl rfl ?_; intro K hK; go_big_quiet_op; go_big_quiet_on
    refine rg_callv (vals := #[.bool false]) [] _ rfl rfl rfl rfl Try.func115 rfl (by kernel_rfl) rfl (by kernel_rfl) (fun w1 hE hf => ?_) ?_
    · exact (truth_any _ w1).mono fun e w' ⟨he, hw⟩ => ⟨he, hw ▸ Ext.refl w1⟩
    simp only [Act.put, List.setIfInBounds_toArray, List.set_cons_zero, List.set_cons_succ]
    refine rg_quiet rfl rfl rfl rfl ?_; intro K hK; go_big_quiet_op; go_big_quiet_on
    refine rg_quiet rfl rfl rfl rfl ?_; intro K hK; go_big_quiet_op; go_big_quiet_on
    refine rg_quiet rfl rfl rfl rfl ?_; intro K hK; go_big_quiet_op; go_big_quiet_on
    refine rg_callv (vals := #[.bool true]) [] _ rfl rfl rfl rfl Try.func115 rfl (by kernel_rfl) rfl (by kernel_rfl) (fun w1 hE hf => ?_) ?_
    · exact (truth_any _ w1).mono fun e w' ⟨he, hw⟩ => ⟨he, hw ▸ Ext.refl w1⟩
    simp only [Act.put, List.setIfInBounds_toArray, List.set_cons_zero, List.set_cons_succ]
    refine rg_callv (vals := #[.int .i64 (bit false), .int .i64 (bit true)]) [] _ rfl rfl rfl rfl Try.func114 rfl (by kernel_rfl) rfl (by kernel_rfl) (fun w1 hE hf => ?_) ?_
    · exact (cmpCompare_any _ _ w1).mono fun e w' ⟨he, hw⟩ => ⟨by rw [he, HE.out], hw ▸ Ext.refl w1⟩
    simp only [Act.put, List.setIfInBounds_toArray, List.set_cons_zero, List.set_cons_succ]
    refine rg_quiet rfl rfl rfl rfl ?_; intro K hK; go_big_quiet_op; go_big_quiet_on
    refine rel_nil fun w2 hE2 _ => ?_
    replace hP := hP.ext hE2
    replace hX := hX.trans hE2
    clear k3 k3' hE2 he he' HE
    go_wp2_with fail
    obtain ⟨q0, hq0⟩ : ∃ q, q = cmpI a a' := ⟨_, rfl⟩
    obtain ⟨q1, hq1⟩ : ∃ q, q = cmpI (bit d) (bit d') := ⟨_, rfl⟩
    obtain ⟨q2, hq2⟩ : ∃ q, q = cmpB v.data.toList v'.data.toList := ⟨_, rfl⟩
    have HQ : Hid (or4 q0 q1 q2 (endC e e') = cmpC v d a e v' d' a' e') := by rw [hq0, hq1, hq2]; rfl
    have H0 := Lib.hid hq0.symm
    have H1 := Lib.hid hq1.symm
    have H2 := Lib.hid hq2.symm
    clear hq0 hq1 hq2
    refine wp_region_in 21 [(4, fun v _ => v = .int .i64 q0), (7, fun v _ => v = .int .i64 (bit d)), (10, fun v _ => v = .int .i64 (bit d')), (11, fun v _ => v = .int .i64 q1), (16, fun v _ => v = .int .i64 q2), (18, fun v w => SliceIn w v 4 [.int .i64 q0, .int .i64 q1, .int .i64 q2, .int .i64 (endC e e')]), (19, fun x _ => x = .int .i64 (or4 q0 q1 q2 (endC e e')))] (fun w0 => Ext w w0 ∧ Params w w0 v d a e v' d' a' e') (by kernel_rfl) (by kernel_rfl) (by kernel_rfl) ⟨stays_eq _, stays_eq _, stays_eq _, stays_eq _, stays_eq _, stays_slice _ _, stays_eq _, trivial⟩ ?_ ?_
    · exact ⟨hX, hP⟩
    clear hX hP
    rintro w0 ⟨hX, hP⟩
    have k0 := held hP.c0
    have k1 := held hP.c1
    have k2 := held hP.c2
    have j0 := held hP.b0
    have j1 := held hP.b1
    have j2 := held hP.b2
    clear hP
    refine rg_quiet rfl rfl rfl rfl ?_; intro K hK; go_big_quiet_op; go_big_quiet_on
    refine rg_quiet rfl rfl rfl rfl ?_; intro K hK; go_big_quiet_op; go_big_quiet_on
    refine rg_quiet rfl rfl rfl rfl ?_; intro K hK; go_big_quiet_op; go_big_quiet_on
    refine rg_quiet rfl rfl rfl rfl ?_; intro K hK; go_big_quiet_op; go_big_quiet_on
    refine rg_callv (vals := #[.int .i64 a, .int .i64 a']) [] _ rfl rfl rfl rfl Try.func114 rfl (by kernel_rfl) rfl (by kernel_rfl) (fun w1 hE hf => ?_) ?_
    · exact (cmpCompare_any _ _ w1).mono fun e w' ⟨he, hw⟩ => ⟨by rw [he, H0.out], hw ▸ Ext.refl w1⟩
    simp only [Act.put, List.setIfInBounds_toArray, List.set_cons_zero, List.set_cons_succ]
    refine rg_quiet rfl rfl rfl rfl ?_; intro K hK; go_big_quiet_op; go_big_quiet_on
    refine rg_quiet rfl rfl rfl rfl ?_; intro K hK; go_big_quiet_op; go_big_quiet_on
    refine rg_callv (vals := #[.bool d]) [] _ rfl rfl rfl rfl Try.func115 rfl (by kernel_rfl) rfl (by kernel_rfl) (fun w1 hE hf => ?_) ?_
    · exact (truth_any _ w1).mono fun e w' ⟨he, hw⟩ => ⟨he, hw ▸ Ext.refl w1⟩
    simp only [Act.put, List.setIfInBounds_toArray, List.set_cons_zero, List.set_cons_succ]
    refine rg_quiet rfl rfl rfl rfl ?_; intro K hK; go_big_quiet_op; go_big_quiet_on
    refine rg_quiet rfl rfl rfl rfl ?_; intro K hK; go_big_quiet_op; go_big_quiet_on
    refine rg_callv (vals := #[.bool d']) [] _ rfl rfl rfl rfl Try.func115 rfl (by kernel_rfl) rfl (by kernel_rfl) (fun w1 hE hf => ?_) ?_
    · exact (truth_any _ w1).mono fun e w' ⟨he, hw⟩ => ⟨he, hw ▸ Ext.refl w1⟩
    simp only [Act.put, List.setIfInBounds_toArray, List.set_cons_zero, List.set_cons_succ]
    refine rg_callv (vals := #[.int .i64 (bit d), .int .i64 (bit d')]) [] _ rfl rfl rfl rfl Try.func114 rfl (by kernel_rfl) rfl (by kernel_rfl) (fun w1 hE hf => ?_) ?_
    · exact (cmpCompare_any _ _ w1).mono fun e w' ⟨he, hw⟩ => ⟨by rw [he, H1.out], hw ▸ Ext.refl w1⟩
    simp only [Act.put, List.setIfInBounds_toArray, List.set_cons_zero, List.set_cons_succ]
    refine rg_quiet rfl rfl rfl rfl ?_; intro K hK; go_big_quiet_op; go_big_quiet_on
    refine rg_quiet rfl rfl rfl rfl ?_; intro K hK; go_big_quiet_op; go_big_quiet_on
    refine rg_quiet rfl rfl rfl rfl ?_; intro K hK; go_big_quiet_op; go_big_quiet_on
    refine rg_quiet rfl rfl rfl rfl ?_; intro K hK; go_big_quiet_op; go_big_quiet_on
    refine rg_callv (vals := #[.string v, .string v']) [] _ rfl rfl rfl rfl Try.func56 rfl (by kernel_rfl) rfl (by kernel_rfl) (fun w1 hE hf => ?_) ?_
    · exact (strCompare_any _ _ w1).mono fun e w' ⟨he, hw⟩ => ⟨by rw [he, H2.out], hw ▸ Ext.refl w1⟩
    simp only [Act.put, List.setIfInBounds_toArray, List.set_cons_zero, List.set_cons_succ]
    refine rg_quiet rfl rfl rfl rfl ?_; intro K hK; go_big_quiet_op; go_big_quiet_on
    refine rel_call [] _ rfl rfl rfl rfl (fun w1 hE hf => ?_) (fun x w1 hE hG hx => ?_)
    · go_simp
      exact ⟨hE.alloc _, (Ext.refl w1).alloc _, SliceIn.made w1 #[_, _, _, _] _ 4 (by unfold maxLen; omega)⟩
    simp only [Act.put, List.setIfInBounds_toArray, List.set_cons_zero, List.set_cons_succ]
    refine rg_callv (vals := #[x]) [18] _ rfl rfl rfl rfl Try.func116 rfl (by kernel_rfl) rfl (by kernel_rfl) (fun w1 hE hf => ?_) ?_
    · exact (cmpOr_any _ _ _ _ _ w1 ((hf 18 (by simp)).2 rfl)).mono fun e w' ⟨he, hw⟩ => ⟨he, hw ▸ Ext.refl w1⟩
    simp only [Act.put, List.setIfInBounds_toArray, List.set_cons_zero, List.set_cons_succ]
    refine rg_quiet rfl rfl rfl rfl ?_; intro K hK; go_big_quiet_op; go_big_quiet_on
    refine rel_nil fun w2 hE2 _ => ?_
    replace hX := hX.trans hE2
    go_wp2
    go_ret
    exact ⟨ret_int HQ.out, hX⟩
  · have HE := endC_three he he'
    go_wp2_with (go_at_call 114; go_must (refine (cmpCompare_any _ _ _).mono ?_); rintro r w1 ⟨rfl, rfl⟩)
    have hP : Params w _ v d a e v' d' a' e' := Params.mk' w v d a e v' d' a' e' 52
    have hX := ((Ext.refl w).alloc (.cells #[.string v, .bool d, .int .i64 a, .int .i64 e] 52)).alloc (.cells #[.string v', .bool d', .int .i64 a', .int .i64 e'] 52)
    clear he he' HE
    obtain ⟨q0, hq0⟩ : ∃ q, q = cmpI a a' := ⟨_, rfl⟩
    obtain ⟨q1, hq1⟩ : ∃ q, q = cmpI (bit d) (bit d') := ⟨_, rfl⟩
    obtain ⟨q2, hq2⟩ : ∃ q, q = cmpB v.data.toList v'.data.toList := ⟨_, rfl⟩
    have HQ : Hid (or4 q0 q1 q2 (endC e e') = cmpC v d a e v' d' a' e') := by rw [hq0, hq1, hq2]; rfl
    have H0 := Lib.hid hq0.symm
    have H1 := Lib.hid hq1.symm
    have H2 := Lib.hid hq2.symm
    clear hq0 hq1 hq2
    refine wp_region_in 21 [(4, fun v _ => v = .int .i64 q0), (7, fun v _ => v = .int .i64 (bit d)), (10, fun v _ => v = .int .i64 (bit d')), (11, fun v _ => v = .int .i64 q1), (16, fun v _ => v = .int .i64 q2), (18, fun v w => SliceIn w v 4 [.int .i64 q0, .int .i64 q1, .int .i64 q2, .int .i64 (endC e e')]), (19, fun x _ => x = .int .i64 (or4 q0 q1 q2 (endC e e')))] (fun w0 => Ext w w0 ∧ Params w w0 v d a e v' d' a' e') (by kernel_rfl) (by kernel_rfl) (by kernel_rfl) ⟨stays_eq _, stays_eq _, stays_eq _, stays_eq _, stays_eq _, stays_slice _ _, stays_eq _, trivial⟩ ?_ ?_
    · exact ⟨hX, hP⟩
    clear hX hP
    rintro w0 ⟨hX, hP⟩
    have k0 := held hP.c0
    have k1 := held hP.c1
    have k2 := held hP.c2
    have j0 := held hP.b0
    have j1 := held hP.b1
    have j2 := held hP.b2
    clear hP
    refine rg_quiet rfl rfl rfl rfl ?_; intro K hK; go_big_quiet_op; go_big_quiet_on
    refine rg_quiet rfl rfl rfl rfl ?_; intro K hK; go_big_quiet_op; go_big_quiet_on
    refine rg_quiet rfl rfl rfl rfl ?_; intro K hK; go_big_quiet_op; go_big_quiet_on
    refine rg_quiet rfl rfl rfl rfl ?_; intro K hK; go_big_quiet_op; go_big_quiet_on
    refine rg_callv (vals := #[.int .i64 a, .int .i64 a']) [] _ rfl rfl rfl rfl Try.func114 rfl (by kernel_rfl) rfl (by kernel_rfl) (fun w1 hE hf => ?_) ?_
    · exact (cmpCompare_any _ _ w1).mono fun e w' ⟨he, hw⟩ => ⟨by rw [he, H0.out], hw ▸ Ext.refl w1⟩
    simp only [Act.put, List.setIfInBounds_toArray, List.set_cons_zero, List.set_cons_succ]
    refine rg_quiet rfl rfl rfl rfl ?_; intro K hK; go_big_quiet_op; go_big_quiet_on
    refine rg_quiet rfl rfl rfl rfl ?_; intro K hK; go_big_quiet_op; go_big_quiet_on
    refine rg_callv (vals := #[.bool d]) [] _ rfl rfl rfl rfl Try.func115 rfl (by kernel_rfl) rfl (by kernel_rfl) (fun w1 hE hf => ?_) ?_
    · exact (truth_any _ w1).mono fun e w' ⟨he, hw⟩ => ⟨he, hw ▸ Ext.refl w1⟩
    simp only [Act.put, List.setIfInBounds_toArray, List.set_cons_zero, List.set_cons_succ]
    refine rg_quiet rfl rfl rfl rfl ?_; intro K hK; go_big_quiet_op; go_big_quiet_on
    refine rg_quiet rfl rfl rfl rfl ?_; intro K hK; go_big_quiet_op; go_big_quiet_on
    refine rg_callv (vals := #[.bool d']) [] _ rfl rfl rfl rfl Try.func115 rfl (by kernel_rfl) rfl (by kernel_rfl) (fun w1 hE hf => ?_) ?_
    · exact (truth_any _ w1).mono fun e w' ⟨he, hw⟩ => ⟨he, hw ▸ Ext.refl w1⟩
    simp only [Act.put, List.setIfInBounds_toArray, List.set_cons_zero, List.set_cons_succ]
    refine rg_callv (vals := #[.int .i64 (bit d), .int .i64 (bit d')]) [] _ rfl rfl rfl rfl Try.func114 rfl (by kernel_rfl) rfl (by kernel_rfl) (fun w1 hE hf => ?_) ?_
    · exact (cmpCompare_any _ _ w1).mono fun e w' ⟨he, hw⟩ => ⟨by rw [he, H1.out], hw ▸ Ext.refl w1⟩
    simp only [Act.put, List.setIfInBounds_toArray, List.set_cons_zero, List.set_cons_succ]
    refine rg_quiet rfl rfl rfl rfl ?_; intro K hK; go_big_quiet_op; go_big_quiet_on
    refine rg_quiet rfl rfl rfl rfl ?_; intro K hK; go_big_quiet_op; go_big_quiet_on
    refine rg_quiet rfl rfl rfl rfl ?_; intro K hK; go_big_quiet_op; go_big_quiet_on
    refine rg_quiet rfl rfl rfl rfl ?_; intro K hK; go_big_quiet_op; go_big_quiet_on
    refine rg_callv (vals := #[.string v, .string v']) [] _ rfl rfl rfl rfl Try.func56 rfl (by kernel_rfl) rfl (by kernel_rfl) (fun w1 hE hf => ?_) ?_
    · exact (strCompare_any _ _ w1).mono fun e w' ⟨he, hw⟩ => ⟨by rw [he, H2.out], hw ▸ Ext.refl w1⟩
    simp only [Act.put, List.setIfInBounds_toArray, List.set_cons_zero, List.set_cons_succ]
    refine rg_quiet rfl rfl rfl rfl ?_; intro K hK; go_big_quiet_op; go_big_quiet_on
    refine rel_call [] _ rfl rfl rfl rfl (fun w1 hE hf => ?_) (fun x w1 hE hG hx => ?_)
    · go_simp
      exact ⟨hE.alloc _, (Ext.refl w1).alloc _, SliceIn.made w1 #[_, _, _, _] _ 4 (by unfold maxLen; omega)⟩
    simp only [Act.put, List.setIfInBounds_toArray, List.set_cons_zero, List.set_cons_succ]
    refine rg_callv (vals := #[x]) [18] _ rfl rfl rfl rfl Try.func116 rfl (by kernel_rfl) rfl (by kernel_rfl) (fun w1 hE hf => ?_) ?_
    · exact (cmpOr_any _ _ _ _ _ w1 ((hf 18 (by simp)).2 rfl)).mono fun e w' ⟨he, hw⟩ => ⟨he, hw ▸ Ext.refl w1⟩
    simp only [Act.put, List.setIfInBounds_toArray, List.set_cons_zero, List.set_cons_succ]
    refine rg_quiet rfl rfl rfl rfl ?_; intro K hK; go_big_quiet_op; go_big_quiet_on
    refine rel_nil fun w2 hE2 _ => ?_
    replace hX := hX.trans hE2
    go_wp2
    go_ret
    exact ⟨ret_int HQ.out, hX⟩

set_option maxHeartbeats 400000 in
theorem join_any (v : ByteArray) (d : Bool) (a e : Int) (v' : ByteArray) (d' : Bool) (a' e' : Int) (w : World) :
    Calls Try.prog 89 #[.agg #[.string v, .bool d, .int .i64 a, .int .i64 e], .agg #[.string v', .bool d', .int .i64 a', .int .i64 e']] w fun r w' =>
      r = .returned (if cmpC v d a e v' d' a' e' < 0 then .agg #[.string v', .bool d', .int .i64 a', .int .i64 e'] else .agg #[.string v, .bool d, .int .i64 a, .int .i64 e]) ∧ Ext w w' := by
  by_cases h : cmpC v d a e v' d' a' e' < 0
  · rw [if_pos h]
    go_enter Try.func89, Try.ntmps89
    go_wp2_with (go_at_call 108; go_must (refine (cmp_any _ _ _ _ _ _ _ _ _).mono ?_); rintro r w1 ⟨rfl, hE⟩; obtain ⟨hc, hf⟩ := And.intro hE.cells hE.frozens)
    refine bodyPost_ret (v := .agg #[.string v', .bool d', .int .i64 a', .int .i64 e']) (by simp [results, Try.results89, go_sem, hc]) rfl ⟨rfl, ?_⟩
    have hX := ((((Ext.refl w).alloc _).alloc _).alloc _).trans hE
    exact (((hX.setCell (Nat.le_add_right _ 2) _).setCell (Nat.le_add_right _ 2) _).setCell (Nat.le_add_right _ 2) _).setCell (Nat.le_add_right _ 2) _
  · rw [if_neg h]
    go_enter Try.func89, Try.ntmps89
    go_wp2_with (go_at_call 108; go_must (refine (cmp_any _ _ _ _ _ _ _ _ _).mono ?_); rintro r w1 ⟨rfl, hE⟩; obtain ⟨hc, hf⟩ := And.intro hE.cells hE.frozens)
    refine bodyPost_ret (v := .agg #[.string v, .bool d, .int .i64 a, .int .i64 e]) (by simp [results, Try.results89, go_sem, hc]) rfl ⟨rfl, ?_⟩
    have hX := ((((Ext.refl w).alloc _).alloc _).alloc _).trans hE
    exact (((hX.setCell (Nat.le_add_right _ 2) _).setCell (Nat.le_add_right _ 2) _).setCell (Nat.le_add_right _ 2) _).setCell (Nat.le_add_right _ 2) _
end Go.Proofs.Yteamiiekpjoclaa
