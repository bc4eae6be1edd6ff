/- A view's key, put and split: the plain laws. -/
import Derived.Test.YtbjpfhkdlljgdaaTxtBack
import Derived.Test.YtbjpfhkdlljgdaaOrdLaws
namespace Go.Proofs.Ytbjpfhkdlljgdaa
open Go Go.RowKit

theorem key_eq (a b c d : List UInt8) : (txt a ++ b == txt c ++ d) = (a == c && b == d) := by
  rw [Bool.eq_iff_iff]
  simp only [beq_iff_eq, Bool.and_eq_true]
  exact ⟨fun h => txt_inj a c b d h, fun ⟨h1, h2⟩ => by rw [h1, h2]⟩
theorem key_less (a b c d : List UInt8) : Op.bytesLess (txt a ++ b) (txt c ++ d) = (Op.bytesLess a c || (a == c && Op.bytesLess b d)) := by
  refine (less_txt a c b d).trans ?_
  by_cases h : a = c
  · subst h
    rw [if_pos rfl]
    have := less_irrefl a
    simp only [less] at this
    simp [this]
  · rw [if_neg h]
    have : (a == c) = false := by simpa using h
    simp [this]

theorem esc_length_ge (l : List UInt8) : l.length ≤ (txt l).length := by
  have : l.length ≤ (esc l).length := by
    induction l with
    | nil => exact Nat.zero_le _
    | cons b l ih =>
      have : (esc (b :: l)).length = (if b = 0 then 2 else 1) + (esc l).length := by
        simp only [esc]
        split <;> simp <;> omega
      rw [this, List.length_cons]
      split <;> omega
  unfold txt
  simp
  omega
/-- What was read as a text is the text's bytes. -/
theorem scan_sound : ∀ (n : Nat) (m acc : List UInt8) (k : Nat), m.length ≤ n → (scanT acc m k).2.2 = 0 → ∃ t, (scanT acc m k).1 = acc ++ t ∧ (scanT acc m k).2.1 = (k : Int) + (txt t).length ∧ ∃ r, m = txt t ++ r
  | _, [], _, _, _, h => by simp [scanT] at h
  | _, [_], _, _, _, h => by simp [scanT] at h
  | 0, _ :: _ :: _, _, _, hl, _ => by simp at hl
  | n + 1, b :: c :: r, acc, k, hl, h => by
    rw [scanT] at h ⊢
    by_cases hb : b = 0
    · rw [if_pos hb] at h ⊢
      by_cases h2 : c = 255
      · rw [if_pos h2] at h ⊢
        obtain ⟨t, e1, e2, r', e3⟩ := scan_sound n r (acc ++ [0]) (k + 2) (by simp at hl; omega) h
        have et : txt (0 :: t) = 0 :: 255 :: txt t := by simp [txt, esc]
        refine ⟨0 :: t, by rw [e1]; simp, by rw [e2, et]; simp; omega, r', by rw [et, e3, hb, h2]; rfl⟩
      · rw [if_neg h2] at h ⊢
        by_cases h3 : c = 1
        · rw [if_pos h3] at h ⊢
          refine ⟨[], by simp, by simp [txt, esc], r, by rw [hb, h3]; rfl⟩
        · rw [if_neg h3] at h
          simp at h
    · rw [if_neg hb] at h ⊢
      obtain ⟨t, e1, e2, r', e3⟩ := scan_sound n (c :: r) (acc ++ [b]) (k + 1) (by simp at hl ⊢; omega) h
      have et : txt (b :: t) = b :: txt t := by simp [txt, esc, hb]
      refine ⟨b :: t, by rw [e1]; simp, by rw [e2, et]; simp; omega, r', by rw [et, e3]; rfl⟩

theorem getText_sound (l : List UInt8) (h : (getText l 0).2.2 = 0) : (getText l 0).2.1 = ((txt (getText l 0).1).length : Int) ∧ txt (getText l 0).1 ++ l.drop (txt (getText l 0).1).length = l ∧ (txt (getText l 0).1).length ≤ l.length := by
  have e : getText l 0 = scanT [] l 0 := by
    unfold getText getTextN
    simp
  rw [e] at h ⊢
  obtain ⟨t, e1, e2, r, e3⟩ := scan_sound _ l [] 0 (Nat.le_refl _) h
  rw [e1, e2]
  simp only [List.nil_append]
  refine ⟨by simp, ?_, ?_⟩
  · rw [e3]; simp
  · rw [e3]; simp
theorem getText_key (a b : List UInt8) : getText (txt a ++ b) 0 = (a, ((txt a).length : Int), 0) := by
  have := getText_back [] b a
  simpa using this
end Go.Proofs.Ytbjpfhkdlljgdaa
