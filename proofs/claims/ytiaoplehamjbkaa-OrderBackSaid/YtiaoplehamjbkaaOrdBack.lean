/- What is put is got: the plain law. -/
import Derived.Test.YtiaoplehamjbkaaOrdRef3
namespace Go.Proofs.Ytiaoplehamjbkaa
open Go Go.RowKit

theorem valB_cons (b : UInt8) (l : List UInt8) : valB (b :: l) = b.toNat * 256 ^ l.length + valB l := by
  have key : ∀ (m : List UInt8) (v : Nat), m.foldl (fun v b => v * 256 + b.toNat) v = v * 256 ^ m.length + valB m := by
    intro m
    induction m with
    | nil => intro v; simp [valB]
    | cons c m ih =>
      intro v
      have h1 := ih (v * 256 + c.toNat)
      have h2 := ih (0 * 256 + c.toNat)
      unfold valB
      rw [List.foldl_cons, List.foldl_cons, h1, h2, List.length_cons, Nat.pow_succ]
      simp only [Nat.add_mul, Nat.zero_mul, Nat.zero_add, Nat.mul_assoc, Nat.mul_comm 256]
      omega
  have := key l (0 * 256 + b.toNat)
  unfold valB at *
  rw [List.foldl_cons, this]
  simp
theorem valB_beB (k x : Nat) : valB (beB k x) = x % 256 ^ k := by
  induction k with
  | zero => simp [beB, valB, Nat.mod_one]
  | succ k ih =>
    rw [beB, valB_cons, ih, beB_length, Nat.mod_pow_succ]
    have : (UInt8.ofNat (x / 256 ^ k)).toNat = x / 256 ^ k % 256 := by simp
    rw [this, Nat.mul_comm]
    omega

theorem num_len (x : Nat) : (num x).length = nlen x + 1 := by simp [num, beB_length]
theorem nlen_le (x : Nat) (hx : x < 18446744073709551616) : nlen x ≤ 8 := by have := bitsOf_le64 hx; unfold nlen; omega
theorem nlen_lt (x : Nat) : x < 256 ^ nlen x := by
  rw [show (256 : Nat) = 2 ^ 8 by decide, ← Nat.pow_mul]
  refine Nat.lt_of_lt_of_le (bitsOf_lt x) (Nat.pow_le_pow_right (by decide) ?_)
  unfold nlen; omega
theorem top_ne (x : Nat) (h : 0 < nlen x) : UInt8.ofNat (x / 256 ^ (nlen x - 1)) ≠ 0 := by
  have hx : x ≠ 0 := by rintro rfl; simp [nlen, bitsOf] at h
  have h1 : 256 ^ (nlen x - 1) ≤ x := by
    rw [show (256 : Nat) = 2 ^ 8 by decide, ← Nat.pow_mul]
    refine Nat.le_trans (Nat.pow_le_pow_right (by decide) ?_) (bitsOf_le x hx)
    unfold nlen; omega
  have h2 : x / 256 ^ (nlen x - 1) < 256 := by
    refine Nat.div_lt_of_lt_mul ?_
    rw [← Nat.pow_succ, show (nlen x - 1).succ = nlen x by omega]
    exact nlen_lt x
  have h3 : 0 < x / 256 ^ (nlen x - 1) := Nat.div_pos h1 (Nat.pow_pos (by decide))
  intro he
  have := congrArg UInt8.toNat he
  rw [UInt8.toNat_ofNat_of_lt' h2] at this
  simp at this
  omega

theorem getNum_back (H R : List UInt8) (x : Nat) (hx : x < 18446744073709551616) : getNum (H ++ num x ++ R) (H.length : Int) = (x, ((H ++ num x).length : Int), 0) := by
  have h8 := nlen_le x hx
  unfold getNum
  rw [if_neg (by omega), Int.toNat_natCast]
  unfold getNumN
  have hlen : (H ++ num x ++ R).length = H.length + (nlen x + 1) + R.length := by simp [num_len]; omega
  rw [if_neg (by omega), dif_pos (by omega)]
  have e0 : (H ++ num x ++ R)[H.length]'(by omega) = UInt8.ofNat (nlen x) := by simp [num]
  have e1 : (UInt8.ofNat (nlen x)).toNat = nlen x := UInt8.toNat_ofNat_of_lt' (by show nlen x < 256; omega)
  rw [e0, e1, if_neg (by omega)]
  have e2 : (H ++ num x ++ R)[H.length + 1]? = (beB (nlen x) x ++ R)[0]? := by
    rw [List.append_assoc, List.getElem?_append_right (by omega)]
    simp [num]
  rw [e2, if_neg, if_neg (by omega)]
  · have e3 : ((H ++ num x ++ R).drop (H.length + 1)).take (nlen x) = beB (nlen x) x := by
      rw [List.append_assoc, List.drop_append, List.drop_eq_nil_of_le (by omega), show H.length + 1 - H.length = 1 by omega]
      simp [num, beB_length]
    rw [e3, valB_beB, Nat.mod_eq_of_lt (nlen_lt x)]
    simp [num_len]
    omega
  · rintro ⟨h0, h⟩
    rw [List.getElem?_append_left (by rw [beB_length]; exact h0), beB_get h0] at h
    have := top_ne x h0
    simp at h
    exact this (by simpa using h)

theorem getNum_cut (H : List UInt8) (x j : Nat) (hx : x < 18446744073709551616) (hj : j < (num x).length) : (getNum ((H ++ num x).take (H.length + j)) (H.length : Int)).2.2 = 8 := by
  have h8 := nlen_le x hx
  rw [num_len] at hj
  unfold getNum
  rw [if_neg (by omega), Int.toNat_natCast]
  unfold getNumN
  have hlen : ((H ++ num x).take (H.length + j)).length = H.length + j := by simp [num_len]; omega
  rw [if_neg (by omega)]
  by_cases hj0 : j = 0
  · rw [dif_neg (by omega)]
  rw [dif_pos (by omega)]
  have e0 : ((H ++ num x).take (H.length + j))[H.length]'(by omega) = UInt8.ofNat (nlen x) := by simp [num]
  have e1 : (UInt8.ofNat (nlen x)).toNat = nlen x := UInt8.toNat_ofNat_of_lt' (by show nlen x < 256; omega)
  rw [e0, e1, if_neg (by omega), if_neg, if_pos (by omega)]
  rintro ⟨h0, h⟩
  rw [List.getElem?_take] at h
  split at h
  · rw [List.getElem?_append_right (by omega), show H.length + 1 - H.length = 1 by omega] at h
    simp only [num, List.getElem?_cons_succ] at h
    rw [beB_get h0] at h
    exact top_ne x h0 (by simpa using h)
  · cases h

theorem scan_back : ∀ (l acc R : List UInt8) (k : Nat), scanT acc (txt l ++ R) k = (acc ++ l, (k : Int) + (txt l).length, 0)
  | [], acc, R, k => by
    show scanT acc (0 :: 1 :: R) k = _
    rw [scanT, if_pos rfl, if_neg (by decide), if_pos rfl]
    simp [txt, esc]
  | b :: l, acc, R, k => by
    by_cases hb : b = 0
    · subst hb
      have e : txt (0 :: l) = 0 :: 255 :: txt l := by simp [txt, esc]
      rw [e]
      show scanT acc (0 :: 255 :: (txt l ++ R)) k = _
      rw [scanT, if_pos rfl, if_pos rfl, scan_back l (acc ++ [0]) R (k + 2)]
      simp
      omega
    · have e : txt (b :: l) = b :: txt l := by simp [txt, esc, hb]
      obtain ⟨c, r, hr⟩ : ∃ c r, txt l ++ R = c :: r := by
        cases h : txt l ++ R with
        | nil => simp [txt] at h
        | cons c r => exact ⟨c, r, rfl⟩
      have ih := scan_back l (acc ++ [b]) R (k + 1)
      rw [hr] at ih
      rw [e, List.cons_append, hr, scanT, if_neg hb, ih]
      simp
      omega
theorem scan_cut : ∀ (l acc : List UInt8) (j k : Nat), j < (txt l).length → scanT acc ((txt l).take j) k = ([], 0, 8)
  | [], acc, 0, k, _ => rfl
  | [], acc, 1, k, _ => rfl
  | [], acc, j + 2, k, h => by simp [txt, esc] at h; omega
  | b :: l, acc, 0, k, _ => rfl
  | b :: l, acc, j + 1, k, h => by
    by_cases hb : b = 0
    · subst hb
      have e : txt (0 :: l) = 0 :: 255 :: txt l := by simp [txt, esc]
      rw [e] at h ⊢
      cases j with
      | zero => rfl
      | succ j =>
        show scanT acc (0 :: 255 :: (txt l).take j) k = _
        rw [scanT, if_pos rfl, if_pos rfl]
        exact scan_cut l _ j _ (by simpa using h)
    · have e : txt (b :: l) = b :: txt l := by simp [txt, esc, hb]
      rw [e] at h ⊢
      rw [List.take_succ_cons]
      have ih := scan_cut l (acc ++ [b]) j (k + 1) (by simpa using h)
      cases hr : (txt l).take j with
      | nil => rfl
      | cons c r => rw [scanT, if_neg hb, ← hr, ih]

theorem getText_back (H R l : List UInt8) : getText (H ++ txt l ++ R) (H.length : Int) = (l, ((H ++ txt l).length : Int), 0) := by
  unfold getText
  rw [if_neg (by omega), Int.toNat_natCast]
  unfold getTextN
  rw [if_neg (by simp), List.append_assoc, List.drop_left, scan_back]
  simp
theorem getText_cut (H l : List UInt8) (j : Nat) (hj : j < (txt l).length) : getText ((H ++ txt l).take (H.length + j)) (H.length : Int) = ([], 0, 8) := by
  unfold getText
  rw [if_neg (by omega), Int.toNat_natCast]
  unfold getTextN
  rw [if_neg (by simp)]
  have e : ((H ++ txt l).take (H.length + j)).drop H.length = (txt l).take j := by
    rw [List.take_append, List.take_of_length_le (by omega), List.drop_left]; congr 1; omega
  rw [e, scan_cut _ _ _ _ hj]
theorem getInt_back (n : Int) (h0 : -9223372036854775808 ≤ n) (h1 : n ≤ 9223372036854775807) : getInt (int8 n) = (n, true) := by
  unfold getInt int8
  rw [if_pos (beB_length _ _), valB_beB]
  simp
  omega
end Go.Proofs.Ytiaoplehamjbkaa
