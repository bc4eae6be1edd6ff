/- What is put as a text is got: the plain law. -/
import Derived.Test.YteamiiekpjoclaaM6
import Derived.Test.YteamiiekpjoclaaM4
import Derived.Laws.Strings
namespace Go.Proofs.Yteamiiekpjoclaa
open Go Go.RowKit

theorem scan_back : ∀ (l acc R : List UInt8) (k : Nat), scanT acc (txt l ++ R) k = (acc ++ l, (k : Int) + (txt l).length, 0)
  | [], acc, R, k => by
    show scanT acc (0 :: 1 :: R) k = _
    rw [scanT, if_pos rfl, if_neg (by decide), if_pos rfl]
    simp [txt, esc]
  | b :: l, acc, R, k => by
    by_cases hb : b = 0
    · subst hb
      have e : txt (0 :: l) = 0 :: 255 :: txt l := by simp [txt, esc]
      rw [e]
      show scanT acc (0 :: 255 :: (txt l ++ R)) k = _
      rw [scanT, if_pos rfl, if_pos rfl, scan_back l (acc ++ [0]) R (k + 2)]
      simp
      omega
    · have e : txt (b :: l) = b :: txt l := by simp [txt, esc, hb]
      obtain ⟨c, r, hr⟩ : ∃ c r, txt l ++ R = c :: r := by
        cases h : txt l ++ R with
        | nil => simp [txt] at h
        | cons c r => exact ⟨c, r, rfl⟩
      have ih := scan_back l (acc ++ [b]) R (k + 1)
      rw [hr] at ih
      rw [e, List.cons_append, hr, scanT, if_neg hb, ih]
      simp
      omega
theorem scan_cut : ∀ (l acc : List UInt8) (j k : Nat), j < (txt l).length → scanT acc ((txt l).take j) k = ([], 0, 8)
  | [], acc, 0, k, _ => rfl
  | [], acc, 1, k, _ => rfl
  | [], acc, j + 2, k, h => by simp [txt, esc] at h; omega
  | b :: l, acc, 0, k, _ => rfl
  | b :: l, acc, j + 1, k, h => by
    by_cases hb : b = 0
    · subst hb
      have e : txt (0 :: l) = 0 :: 255 :: txt l := by simp [txt, esc]
      rw [e] at h ⊢
      cases j with
      | zero => rfl
      | succ j =>
        show scanT acc (0 :: 255 :: (txt l).take j) k = _
        rw [scanT, if_pos rfl, if_pos rfl]
        exact scan_cut l _ j _ (by simpa using h)
    · have e : txt (b :: l) = b :: txt l := by simp [txt, esc, hb]
      rw [e] at h ⊢
      rw [List.take_succ_cons]
      have ih := scan_cut l (acc ++ [b]) j (k + 1) (by simpa using h)
      cases hr : (txt l).take j with
      | nil => rfl
      | cons c r => rw [scanT, if_neg hb, ← hr, ih]

theorem getText_back (H R l : List UInt8) : getText (H ++ txt l ++ R) (H.length : Int) = (l, ((H ++ txt l).length : Int), 0) := by
  unfold getText
  rw [if_neg (by omega), Int.toNat_natCast]
  unfold getTextN
  rw [if_neg (by simp), List.append_assoc, List.drop_left, scan_back]
  simp
theorem getText_cut (H l : List UInt8) (j : Nat) (hj : j < (txt l).length) : getText ((H ++ txt l).take (H.length + j)) (H.length : Int) = ([], 0, 8) := by
  unfold getText
  rw [if_neg (by omega), Int.toNat_natCast]
  unfold getTextN
  rw [if_neg (by simp)]
  have e : ((H ++ txt l).take (H.length + j)).drop H.length = (txt l).take j := by
    rw [List.take_append, List.take_of_length_le (by omega), List.drop_left]; congr 1; omega
  rw [e, scan_cut _ _ _ _ hj]
end Go.Proofs.Yteamiiekpjoclaa

/- Plain laws: the bytes of numbers, texts and whole numbers stand in the order of what they are. -/
namespace Go.Proofs.Yteamiiekpjoclaa
open Go

abbrev less (x y : List UInt8) : Bool := Op.bytesLess x y
theorem less_nil (x : List UInt8) : less x [] = false := by cases x <;> rfl
theorem less_nil_cons (b : UInt8) (y : List UInt8) : less [] (b :: y) = true := rfl
theorem less_cons (a b : UInt8) (x y : List UInt8) : less (a :: x) (b :: y) = (decide (a < b) || (a == b && less x y)) := rfl
theorem less_same (a : UInt8) (x y : List UInt8) : less (a :: x) (a :: y) = less x y := by
  rw [less_cons]
  have : ¬ a < a := UInt8.lt_irrefl a
  simp [this]
theorem less_lt {a b : UInt8} (h : a < b) (x y : List UInt8) : less (a :: x) (b :: y) = true := by rw [less_cons]; simp [h]
theorem less_gt {a b : UInt8} (h : b < a) (x y : List UInt8) : less (a :: x) (b :: y) = false := by
  rw [less_cons]
  have h1 : ¬ a < b := UInt8.lt_asymm h
  have h2 : a ≠ b := by rintro rfl; exact UInt8.lt_irrefl _ h
  simp [h1, h2]
theorem less_irrefl (x : List UInt8) : less x x = false := by
  induction x with
  | nil => rfl
  | cons a x ih => rw [less_same]; exact ih
theorem less_asymm : ∀ {x y : List UInt8}, less x y = true → less y x = false
  | [], [], h => by cases h
  | [], _ :: _, _ => less_nil _
  | _ :: _, [], h => by rw [less_nil] at h; cases h
  | a :: x, b :: y, h => by
    rw [less_cons] at h
    by_cases h1 : a < b
    · exact less_gt h1 _ _
    · simp [h1] at h
      obtain ⟨rfl, h⟩ := h
      rw [less_same]
      exact less_asymm h
theorem less_tri : ∀ (x y : List UInt8), less x y = true ∨ x = y ∨ less y x = true
  | [], [] => .inr (.inl rfl)
  | [], _ :: _ => .inl rfl
  | _ :: _, [] => .inr (.inr rfl)
  | a :: x, b :: y => by
    by_cases h1 : a < b
    · exact .inl (less_lt h1 _ _)
    · by_cases h2 : b < a
      · exact .inr (.inr (less_lt h2 _ _))
      · have : a = b := UInt8.le_antisymm (UInt8.not_lt.1 h2) (UInt8.not_lt.1 h1)
        subst this
        rw [less_same, less_same]
        rcases less_tri x y with h | h | h
        · exact .inl h
        · exact .inr (.inl (by rw [h]))
        · exact .inr (.inr h)
theorem less_ne {x y : List UInt8} (h : less x y = true) : x ≠ y := by rintro rfl; rw [less_irrefl] at h; cases h
theorem less_trans : ∀ {x y z : List UInt8}, less x y = true → less y z = true → less x z = true
  | _, _, [], _, h => by rw [less_nil] at h; cases h
  | [], _, _ :: _, _, _ => rfl
  | _ :: _, [], _ :: _, h, _ => by rw [less_nil] at h; cases h
  | a :: x, b :: y, c :: z, h1, h2 => by
    rw [less_cons] at h1 h2
    simp only [Bool.or_eq_true, decide_eq_true_eq, Bool.and_eq_true, beq_iff_eq] at h1 h2
    rcases h1 with h1 | ⟨rfl, h1⟩ <;> rcases h2 with h2 | ⟨rfl, h2⟩
    · exact less_lt (UInt8.lt_trans h1 h2) _ _
    · exact less_lt h1 _ _
    · exact less_lt h2 _ _
    · rw [less_same]; exact less_trans h1 h2

/-! ### Texts -/
theorem txt_nil_app (r : List UInt8) : txt [] ++ r = 0 :: 1 :: r := rfl
theorem txt_zero_app (l r : List UInt8) : txt (0 :: l) ++ r = 0 :: 255 :: (txt l ++ r) := by simp [txt, esc]
theorem txt_cons_app {b : UInt8} (h : b ≠ 0) (l r : List UInt8) : txt (b :: l) ++ r = b :: (txt l ++ r) := by simp [txt, esc, h]
theorem pos_of_ne {b : UInt8} (h : b ≠ 0) : 0 < b := by
  have : b.toNat ≠ 0 := fun e => h (UInt8.toNat.inj (by simpa using e))
  rw [UInt8.lt_iff_toNat_lt]
  simp; omega

theorem less_txt : ∀ (l m r s : List UInt8), less (txt l ++ r) (txt m ++ s) = if l = m then less r s else less l m
  | [], [], r, s => by rw [txt_nil_app, txt_nil_app, less_same, less_same, if_pos rfl]
  | [], b :: m, r, s => by
    rw [if_neg (by simp), txt_nil_app, less_nil_cons]
    by_cases h : b = 0
    · subst h; rw [txt_zero_app, less_same]; exact less_lt (by decide) _ _
    · rw [txt_cons_app h]; exact less_lt (pos_of_ne h) _ _
  | a :: l, [], r, s => by
    rw [if_neg (by simp), txt_nil_app, less_nil]
    by_cases h : a = 0
    · subst h; rw [txt_zero_app, less_same]; exact less_gt (by decide) _ _
    · rw [txt_cons_app h]; exact less_gt (pos_of_ne h) _ _
  | a :: l, b :: m, r, s => by
    by_cases hab : a = b
    · subst hab
      have ih := less_txt l m r s
      have e : (if a :: l = a :: m then less r s else less (a :: l) (a :: m)) = if l = m then less r s else less l m := by
        rw [less_same]
        by_cases hlm : l = m <;> simp [hlm]
      rw [e]
      by_cases h : a = 0
      · subst h; rw [txt_zero_app, txt_zero_app, less_same, less_same]; exact ih
      · rw [txt_cons_app h, txt_cons_app h, less_same]; exact ih
    · rw [if_neg (by simp [hab]), less_cons]
      have e : (a == b) = false := by simp [hab]
      rw [e, Bool.false_and, Bool.or_false]
      by_cases ha : a = 0
      · subst ha
        rw [txt_zero_app, txt_cons_app (Ne.symm hab), less_lt (pos_of_ne (Ne.symm hab))]
        simp [pos_of_ne (Ne.symm hab)]
      · by_cases hb : b = 0
        · subst hb
          rw [txt_zero_app, txt_cons_app ha, less_gt (pos_of_ne ha)]
          simp [UInt8.lt_asymm (pos_of_ne ha)]
        · rw [txt_cons_app ha, txt_cons_app hb, less_cons, e, Bool.false_and, Bool.or_false]

theorem txt_inj : ∀ (l m r s : List UInt8), txt l ++ r = txt m ++ s → l = m ∧ r = s
  | [], [], r, s, h => by rw [txt_nil_app, txt_nil_app] at h; simp at h; exact ⟨rfl, h⟩
  | [], b :: m, r, s, h => by
    rw [txt_nil_app] at h
    by_cases hb : b = 0
    · subst hb; rw [txt_zero_app] at h; simp at h
    · rw [txt_cons_app hb] at h; simp at h; exact absurd h.1.symm hb
  | a :: l, [], r, s, h => by
    rw [txt_nil_app] at h
    by_cases hb : a = 0
    · subst hb; rw [txt_zero_app] at h; simp at h
    · rw [txt_cons_app hb] at h; simp at h; exact absurd h.1 hb
  | a :: l, b :: m, r, s, h => by
    by_cases ha : a = 0 <;> by_cases hb : b = 0
    · subst ha; subst hb
      rw [txt_zero_app, txt_zero_app] at h; simp at h
      have := txt_inj l m r s h
      exact ⟨by rw [this.1], this.2⟩
    · subst ha; rw [txt_zero_app, txt_cons_app hb] at h; simp at h; exact absurd h.1.symm hb
    · subst hb; rw [txt_zero_app, txt_cons_app ha] at h; simp at h; exact absurd h.1 ha
    · rw [txt_cons_app ha, txt_cons_app hb] at h; simp at h
      have := txt_inj l m r s h.2
      exact ⟨by rw [h.1, this.1], this.2⟩

/-! ### Numbers -/
theorem beB_mod (x : Nat) : ∀ (k m : Nat), k ≤ m → beB k (x % 256 ^ m) = beB k x
  | 0, _, _ => rfl
  | k + 1, m, h => by
    simp only [beB]
    rw [beB_mod x k m (by omega)]
    congr 1
    obtain ⟨j, rfl⟩ : ∃ j, m = k + (j + 1) := ⟨m - k - 1, by omega⟩
    rw [Nat.pow_add, Nat.mod_mul_right_div_self, Nat.pow_succ]
    apply UInt8.toNat.inj
    simp [Nat.mod_mul_left_mod]

theorem less_beB : ∀ (k x y : Nat) (r s : List UInt8), x < 256 ^ k → y < 256 ^ k → less (beB k x ++ r) (beB k y ++ s) = if x = y then less r s else decide (x < y)
  | 0, x, y, r, s, hx, hy => by
    obtain rfl : x = 0 := by simpa using hx
    obtain rfl : y = 0 := by simpa using hy
    rw [if_pos rfl]; rfl
  | k + 1, x, y, r, s, hx, hy => by
    have hp : 0 < 256 ^ k := Nat.pow_pos (by decide)
    have hx1 : x / 256 ^ k < 256 := Nat.div_lt_of_lt_mul (by rw [Nat.pow_succ] at hx; exact hx)
    have hy1 : y / 256 ^ k < 256 := Nat.div_lt_of_lt_mul (by rw [Nat.pow_succ] at hy; exact hy)
    have ex := Nat.div_add_mod x (256 ^ k)
    have ey := Nat.div_add_mod y (256 ^ k)
    have mx := Nat.mod_lt x hp
    have my := Nat.mod_lt y hp
    have ih := less_beB k (x % 256 ^ k) (y % 256 ^ k) r s mx my
    rw [beB_mod x k k (Nat.le_refl k), beB_mod y k k (Nat.le_refl k)] at ih
    simp only [beB, List.cons_append]
    generalize x / 256 ^ k = a at *
    generalize y / 256 ^ k = b at *
    generalize x % 256 ^ k = c at *
    generalize y % 256 ^ k = d at *
    generalize 256 ^ k = p at *
    have na : (UInt8.ofNat a).toNat = a := by simp; omega
    have nb : (UInt8.ofNat b).toNat = b := by simp; omega
    rcases Nat.lt_trichotomy a b with h | h | h
    · rw [less_lt (UInt8.lt_iff_toNat_lt.2 (by rw [na, nb]; exact h))]
      have hlt : x < y := by
        have : p * (a + 1) ≤ p * b := Nat.mul_le_mul_left p h
        rw [Nat.mul_add] at this
        omega
      rw [if_neg (by omega)]
      simp [hlt]
    · subst h
      rw [less_same, ih]
      by_cases hcd : c = d
      · subst hcd; rw [if_pos rfl, if_pos (by omega)]
      · rw [if_neg hcd, if_neg (by omega)]
        congr 1
        apply propext
        omega
    · rw [less_gt (UInt8.lt_iff_toNat_lt.2 (by rw [na, nb]; exact h))]
      have hlt : y < x := by
        have : p * (b + 1) ≤ p * a := Nat.mul_le_mul_left p h
        rw [Nat.mul_add] at this
        omega
      rw [if_neg (by omega)]
      simp; omega

theorem beB_inj : ∀ (k x y : Nat) (r s : List UInt8), x < 256 ^ k → y < 256 ^ k → beB k x ++ r = beB k y ++ s → x = y ∧ r = s := by
  intro k x y r s hx hy h
  have e : beB k x = beB k y := by
    have := congrArg (List.take k) h
    rwa [List.take_left' (beB_length _ _), List.take_left' (beB_length _ _)] at this
  have h1 := less_beB k x y [] [] hx hy
  have h2 := less_beB k y x [] [] hy hx
  rw [e, less_irrefl] at h1
  rw [e, less_irrefl] at h2
  refine ⟨?_, by rw [e] at h; exact List.append_cancel_left h⟩
  by_cases hxy : x = y
  · exact hxy
  · rw [if_neg hxy] at h1
    rw [if_neg (Ne.symm hxy)] at h2
    simp at h1 h2
    omega

theorem lt_nlen (x : Nat) : x < 256 ^ nlen x := by
  refine Nat.lt_of_lt_of_le (bitsOf_lt x) ?_
  rw [show (256 : Nat) = 2 ^ 8 from rfl, ← Nat.pow_mul]
  exact Nat.pow_le_pow_right (by omega) (by unfold nlen; omega)
theorem nlen_le_pow {x : Nat} (h : x ≠ 0) : 256 ^ (nlen x - 1) ≤ x := by
  refine Nat.le_trans ?_ (bitsOf_le x h)
  rw [show (256 : Nat) = 2 ^ 8 from rfl, ← Nat.pow_mul]
  exact Nat.pow_le_pow_right (by omega) (by unfold nlen; omega)
theorem nlen_lt {x y : Nat} (h : nlen x < nlen y) : x < y := by
  have hy : y ≠ 0 := by rintro rfl; simp [nlen, bitsOf] at h
  refine Nat.lt_of_lt_of_le (lt_nlen x) (Nat.le_trans ?_ (nlen_le_pow hy))
  exact Nat.pow_le_pow_right (by omega) (by omega)

theorem less_num (x y : Nat) (r s : List UInt8) (hx : nlen x ≤ 8) (hy : nlen y ≤ 8) : less (num x ++ r) (num y ++ s) = if x = y then less r s else decide (x < y) := by
  simp only [num, List.cons_append]
  have na : (UInt8.ofNat (nlen x)).toNat = nlen x := by simp; omega
  have nb : (UInt8.ofNat (nlen y)).toNat = nlen y := by simp; omega
  rcases Nat.lt_trichotomy (nlen x) (nlen y) with h | h | h
  · have := nlen_lt h
    rw [less_lt (UInt8.lt_iff_toNat_lt.2 (by rw [na, nb]; exact h)), if_neg (by omega)]
    simp [this]
  · rw [h, less_same]
    exact less_beB _ x y r s (h ▸ lt_nlen x) (lt_nlen y)
  · have := nlen_lt h
    rw [less_gt (UInt8.lt_iff_toNat_lt.2 (by rw [na, nb]; exact h)), if_neg (by omega)]
    simp; omega
theorem num_inj (x y : Nat) (r s : List UInt8) (hx : nlen x ≤ 8) (hy : nlen y ≤ 8) (h : num x ++ r = num y ++ s) : x = y ∧ r = s := by
  simp only [num, List.cons_append, List.cons.injEq] at h
  have na : (UInt8.ofNat (nlen x)).toNat = nlen x := by simp; omega
  have nb : (UInt8.ofNat (nlen y)).toNat = nlen y := by simp; omega
  have e : nlen x = nlen y := by rw [← na, ← nb, h.1]
  rw [e] at h
  exact beB_inj _ x y r s (e ▸ lt_nlen x) (lt_nlen y) h.2

/-! ### Whole numbers -/
theorem less_int8 (m n : Int) (hm : -9223372036854775808 ≤ m) (hm' : m ≤ 9223372036854775807) (hn : -9223372036854775808 ≤ n) (hn' : n ≤ 9223372036854775807) : less (int8 m) (int8 n) = decide (m < n) := by
  unfold int8
  have h := less_beB 8 ((m + 9223372036854775808) % 18446744073709551616).toNat ((n + 9223372036854775808) % 18446744073709551616).toNat [] [] (by simp; omega) (by simp; omega)
  rw [List.append_nil, List.append_nil] at h
  rw [h]
  by_cases e : m = n
  · subst e; rw [if_pos rfl]; simp; rfl
  · rw [if_neg (by omega)]
    congr 1
    apply propext
    omega

end Go.Proofs.Yteamiiekpjoclaa

/- A view's key, put and split: the plain laws. -/
namespace Go.Proofs.Yteamiiekpjoclaa
open Go Go.RowKit

theorem key_eq (a b c d : List UInt8) : (txt a ++ b == txt c ++ d) = (a == c && b == d) := by
  rw [Bool.eq_iff_iff]
  simp only [beq_iff_eq, Bool.and_eq_true]
  exact ⟨fun h => txt_inj a c b d h, fun ⟨h1, h2⟩ => by rw [h1, h2]⟩
theorem key_less (a b c d : List UInt8) : Op.bytesLess (txt a ++ b) (txt c ++ d) = (Op.bytesLess a c || (a == c && Op.bytesLess b d)) := by
  refine (less_txt a c b d).trans ?_
  by_cases h : a = c
  · subst h
    rw [if_pos rfl]
    have := less_irrefl a
    simp only [less] at this
    simp [this]
  · rw [if_neg h]
    have : (a == c) = false := by simpa using h
    simp [this]

theorem esc_length_ge (l : List UInt8) : l.length ≤ (txt l).length := by
  have : l.length ≤ (esc l).length := by
    induction l with
    | nil => exact Nat.zero_le _
    | cons b l ih =>
      have : (esc (b :: l)).length = (if b = 0 then 2 else 1) + (esc l).length := by
        simp only [esc]
        split <;> simp <;> omega
      rw [this, List.length_cons]
      split <;> omega
  unfold txt
  simp
  omega
/-- What was read as a text is the text's bytes. -/
theorem scan_sound : ∀ (n : Nat) (m acc : List UInt8) (k : Nat), m.length ≤ n → (scanT acc m k).2.2 = 0 → ∃ t, (scanT acc m k).1 = acc ++ t ∧ (scanT acc m k).2.1 = (k : Int) + (txt t).length ∧ ∃ r, m = txt t ++ r
  | _, [], _, _, _, h => by simp [scanT] at h
  | _, [_], _, _, _, h => by simp [scanT] at h
  | 0, _ :: _ :: _, _, _, hl, _ => by simp at hl
  | n + 1, b :: c :: r, acc, k, hl, h => by
    rw [scanT] at h ⊢
    by_cases hb : b = 0
    · rw [if_pos hb] at h ⊢
      by_cases h2 : c = 255
      · rw [if_pos h2] at h ⊢
        obtain ⟨t, e1, e2, r', e3⟩ := scan_sound n r (acc ++ [0]) (k + 2) (by simp at hl; omega) h
        have et : txt (0 :: t) = 0 :: 255 :: txt t := by simp [txt, esc]
        refine ⟨0 :: t, by rw [e1]; simp, by rw [e2, et]; simp; omega, r', by rw [et, e3, hb, h2]; rfl⟩
      · rw [if_neg h2] at h ⊢
        by_cases h3 : c = 1
        · rw [if_pos h3] at h ⊢
          refine ⟨[], by simp, by simp [txt, esc], r, by rw [hb, h3]; rfl⟩
        · rw [if_neg h3] at h
          simp at h
    · rw [if_neg hb] at h ⊢
      obtain ⟨t, e1, e2, r', e3⟩ := scan_sound n (c :: r) (acc ++ [b]) (k + 1) (by simp at hl ⊢; omega) h
      have et : txt (b :: t) = b :: txt t := by simp [txt, esc, hb]
      refine ⟨b :: t, by rw [e1]; simp, by rw [e2, et]; simp; omega, r', by rw [et, e3]; rfl⟩

theorem getText_sound (l : List UInt8) (h : (getText l 0).2.2 = 0) : (getText l 0).2.1 = ((txt (getText l 0).1).length : Int) ∧ txt (getText l 0).1 ++ l.drop (txt (getText l 0).1).length = l ∧ (txt (getText l 0).1).length ≤ l.length := by
  have e : getText l 0 = scanT [] l 0 := by
    unfold getText getTextN
    simp
  rw [e] at h ⊢
  obtain ⟨t, e1, e2, r, e3⟩ := scan_sound _ l [] 0 (Nat.le_refl _) h
  rw [e1, e2]
  simp only [List.nil_append]
  refine ⟨by simp, ?_, ?_⟩
  · rw [e3]; simp
  · rw [e3]; simp
theorem getText_key (a b : List UInt8) : getText (txt a ++ b) 0 = (a, ((txt a).length : Int), 0) := by
  have := getText_back [] b a
  simpa using this
end Go.Proofs.Yteamiiekpjoclaa
