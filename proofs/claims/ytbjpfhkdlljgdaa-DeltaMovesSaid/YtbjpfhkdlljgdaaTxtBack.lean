/- What is put as a text is got: the plain law. -/
import Derived.Test.YtbjpfhkdlljgdaaOrdText
namespace Go.Proofs.Ytbjpfhkdlljgdaa
open Go Go.RowKit

theorem scan_back : ∀ (l acc R : List UInt8) (k : Nat), scanT acc (txt l ++ R) k = (acc ++ l, (k : Int) + (txt l).length, 0)
  | [], acc, R, k => by
    show scanT acc (0 :: 1 :: R) k = _
    rw [scanT, if_pos rfl, if_neg (by decide), if_pos rfl]
    simp [txt, esc]
  | b :: l, acc, R, k => by
    by_cases hb : b = 0
    · subst hb
      have e : txt (0 :: l) = 0 :: 255 :: txt l := by simp [txt, esc]
      rw [e]
      show scanT acc (0 :: 255 :: (txt l ++ R)) k = _
      rw [scanT, if_pos rfl, if_pos rfl, scan_back l (acc ++ [0]) R (k + 2)]
      simp
      omega
    · have e : txt (b :: l) = b :: txt l := by simp [txt, esc, hb]
      obtain ⟨c, r, hr⟩ : ∃ c r, txt l ++ R = c :: r := by
        cases h : txt l ++ R with
        | nil => simp [txt] at h
        | cons c r => exact ⟨c, r, rfl⟩
      have ih := scan_back l (acc ++ [b]) R (k + 1)
      rw [hr] at ih
      rw [e, List.cons_append, hr, scanT, if_neg hb, ih]
      simp
      omega
theorem scan_cut : ∀ (l acc : List UInt8) (j k : Nat), j < (txt l).length → scanT acc ((txt l).take j) k = ([], 0, 8)
  | [], acc, 0, k, _ => rfl
  | [], acc, 1, k, _ => rfl
  | [], acc, j + 2, k, h => by simp [txt, esc] at h; omega
  | b :: l, acc, 0, k, _ => rfl
  | b :: l, acc, j + 1, k, h => by
    by_cases hb : b = 0
    · subst hb
      have e : txt (0 :: l) = 0 :: 255 :: txt l := by simp [txt, esc]
      rw [e] at h ⊢
      cases j with
      | zero => rfl
      | succ j =>
        show scanT acc (0 :: 255 :: (txt l).take j) k = _
        rw [scanT, if_pos rfl, if_pos rfl]
        exact scan_cut l _ j _ (by simpa using h)
    · have e : txt (b :: l) = b :: txt l := by simp [txt, esc, hb]
      rw [e] at h ⊢
      rw [List.take_succ_cons]
      have ih := scan_cut l (acc ++ [b]) j (k + 1) (by simpa using h)
      cases hr : (txt l).take j with
      | nil => rfl
      | cons c r => rw [scanT, if_neg hb, ← hr, ih]

theorem getText_back (H R l : List UInt8) : getText (H ++ txt l ++ R) (H.length : Int) = (l, ((H ++ txt l).length : Int), 0) := by
  unfold getText
  rw [if_neg (by omega), Int.toNat_natCast]
  unfold getTextN
  rw [if_neg (by simp), List.append_assoc, List.drop_left, scan_back]
  simp
theorem getText_cut (H l : List UInt8) (j : Nat) (hj : j < (txt l).length) : getText ((H ++ txt l).take (H.length + j)) (H.length : Int) = ([], 0, 8) := by
  unfold getText
  rw [if_neg (by omega), Int.toNat_natCast]
  unfold getTextN
  rw [if_neg (by simp)]
  have e : ((H ++ txt l).take (H.length + j)).drop H.length = (txt l).take j := by
    rw [List.take_append, List.take_of_length_le (by omega), List.drop_left]; congr 1; omega
  rw [e, scan_cut _ _ _ _ hj]
end Go.Proofs.Ytbjpfhkdlljgdaa
