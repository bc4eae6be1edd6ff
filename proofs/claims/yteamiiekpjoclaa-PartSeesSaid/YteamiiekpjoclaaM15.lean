/- The walk over order.GetText. -/
import Derived.Test.YteamiiekpjoclaaM14
import Derived.Test.YteamiiekpjoclaaM2
import Derived.Test.YteamiiekpjoclaaM8
namespace Go.Proofs.Yteamiiekpjoclaa
open Go Go.RowKit
attribute [local go_sem] yields yUpon

/-- What is read of bytes as a text, 'acc' being read already, the first of them at place k. -/
def scanT : List UInt8 → List UInt8 → Nat → List UInt8 × Int × Int
  | _, [], _ => ([], 0, 8)
  | _, [_], _ => ([], 0, 8)
  | acc, b :: c :: r, k => if b = 0 then (if c = 255 then scanT (acc ++ [0]) r (k + 2) else if c = 1 then (acc, (k : Int) + 2, 0) else ([], 0, 6)) else scanT (acc ++ [b]) (c :: r) (k + 1)
def getTextN (l : List UInt8) (i : Nat) : List UInt8 × Int × Int := if l.length < i then ([], 0, 1) else scanT [] (l.drop i) i
def getText (l : List UInt8) (at_ : Int) : List UInt8 × Int × Int := if at_ < 0 then ([], 0, 1) else getTextN l at_.toNat
def tupT (p : List UInt8 × Int × Int) : Value := .tuple #[.string (str p.1), .int .i64 p.2.1, .int .i64 p.2.2]

theorem scan_end {acc l : List UInt8} {k : Nat} (h : l.length ≤ k) : scanT acc (l.drop k) k = ([], 0, 8) := by
  rw [List.drop_eq_nil_of_le h]
  rfl
theorem scan_byte {acc l : List UInt8} {k : Nat} (h : k < l.length) (hb : l[k] ≠ 0) : scanT acc (l.drop k) k = scanT (acc ++ [l[k]]) (l.drop (k + 1)) (k + 1) := by
  rw [List.drop_eq_getElem_cons h]
  cases hd : l.drop (k + 1) with
  | nil => rfl
  | cons c r => rw [scanT, if_neg hb]
theorem scan_short {acc l : List UInt8} {k : Nat} (h : k < l.length) (he : k + 1 = l.length) : scanT acc (l.drop k) k = ([], 0, 8) := by
  rw [List.drop_eq_getElem_cons h, List.drop_eq_nil_of_le (by omega)]
  rfl
theorem scan_two {acc l : List UInt8} {k : Nat} (h : k + 1 < l.length) (hb : l[k] = 0) : scanT acc (l.drop k) k = if l[k + 1] = 255 then scanT (acc ++ [0]) (l.drop (k + 2)) (k + 2) else if l[k + 1] = 1 then (acc, (k : Int) + 2, 0) else ([], 0, 6) := by
  rw [List.drop_eq_getElem_cons (show k < l.length by omega), List.drop_eq_getElem_cons h, scanT, if_pos hb]
theorem tupT_ret {l : List UInt8} {at_ : Int} {x : ByteArray} {y z : Int} {t : List UInt8} (h : getText l at_ = (t, y, z)) (hx : x = str t) : Ending.returned (.tuple #[.string x, .int .i64 y, .int .i64 z]) = .returned (tupT (getText l at_)) := by rw [h, hx]; rfl
theorem byte_eq {b c : UInt8} (h : b = c) : ((b.toNat : Int) == (c.toNat : Int)) = true := by rw [h]; simp
theorem byte_ne {b c : UInt8} (h : b ≠ c) : ((b.toNat : Int) == (c.toNat : Int)) = false := by
  simp only [beq_eq_false_iff_ne]
  intro he
  exact h (UInt8.toNat_inj.1 (by omega))

set_option maxHeartbeats 2000000 in
theorem getText_any (v : Value) (l : List UInt8) (at_ : Int) (w : World) (hv : BytesIn w v l) (hl : l.length ≤ 140737488000000) :
    Calls Try.prog 63 #[v, .int .i64 at_] w fun e w' => e = .returned (tupT (getText l at_)) ∧ Ext w w' := by
  obtain ⟨a, c, rfl, hc, hcm, ha, hcell⟩ := hv
  unfold maxLen at hcm
  by_cases h0 : at_ < 0
  · have d0 : decide (at_ < 0) = true := by simpa using h0
    clear hcell ha
    go_enter Try.func63, Try.ntmps63
    go_wp2
    go_ret3
    refine ⟨tupT_ret (t := []) ?_ (by rfl), Ext.refl w⟩
    unfold getText
    rw [if_pos h0]
  · have d0 : decide (at_ < 0) = false := by simpa using h0
    obtain ⟨i, rfl⟩ : ∃ i : Nat, at_ = i := ⟨at_.toNat, by omega⟩
    have EN : Hid (getText l (i : Int) = getTextN l i) := by unfold getText; rw [if_neg h0]; rfl
    by_cases h1 : l.length < i
    · have d1 : decide ((l.length : Int) < (i : Int)) = true := by simpa using h1
      clear hcell ha
      go_enter Try.func63, Try.ntmps63
      go_wp2
      go_ret3
      refine ⟨tupT_ret (t := []) ?_ (by rfl), Ext.refl w⟩
      rw [EN.out]
      unfold getTextN
      rw [if_pos h1]
    · have d1 : decide ((l.length : Int) < (i : Int)) = false := by simpa using h1
      have EN2 : Hid (getText l (i : Int) = scanT [] (l.drop i) i) := EN.out.trans (by unfold getTextN; rw [if_neg h1])
      have HC := Lib.hid hcell
      clear hcell ha EN
      go_enter Try.func63, Try.ntmps63
      go_wp2
      go_loopw [8] (fun n wr => ∃ (k : Nat) (acc : List UInt8), k ≤ l.length ∧ n = .int .i64 k ∧ acc.length ≤ k ∧ Lib.IsBuilder 130 5 w.heap.size w.heap.size (Lib.byteCells acc) wr ∧ Ext w wr ∧ Hid (getText l (i : Int) = scanT acc (l.drop k) k)) (fun n _ => l.length - (intOf n).toNat)
      case atStart => 
        refine ⟨i, [], by omega, rfl, Nat.zero_le _, .inl ⟨Nat.le_refl _, .slice none 0 0, heap_alloc_new w _, World.ownsRow_nil _ _ _ _, by simp [Value.ownBlock]⟩, (Ext.refl w).alloc _, EN2⟩
      case round =>
        obtain ⟨k, acc, hk, rfl, hacc, hB, hE, hS⟩ := hrel
        have hacc' : (Lib.byteCells acc).length = acc.length := by simp [Lib.byteCells]
        by_cases hlt : k < l.length
        · obtain ⟨b, o, rfl, hb⟩ := HC.out k (.int .u8 l[k].toNat) (by simp [bcells, hlt])
          replace hb := hE.cell hb
          by_cases hz : l[k] = 0
          · have z0 : ((l[k].toNat : Int) == 0) = true := byte_eq (c := 0) hz
            by_cases he : k + 1 = l.length
            · have e0 : ((k : Int) + 1 == (l.length : Int)) = true := by simp; omega
              have HR := Lib.hid (hS.out.trans (scan_short hlt he))
              clear hz hS he
              go_wp2
              go_ret3
              refine ⟨tupT_ret (t := []) ?_ (by rfl), hE⟩
              exact HR.out
            · have e0 : ((k : Int) + 1 == (l.length : Int)) = false := by simp; omega
              have h2 : k + 1 < l.length := by omega
              obtain ⟨b1, o1, e1, hb1⟩ := HC.out (k + 1) (.int .u8 l[k + 1].toNat) (by simp [bcells, h2])
              cases e1
              replace hb1 := hE.cell hb1
              have HT := Lib.hid (hS.out.trans (scan_two h2 hz))
              clear hz hS
              by_cases h255 : l[k + 1] = 255
              · have y0 : ((l[k + 1].toNat : Int) == 255) = true := byte_eq (c := 255) h255
                have HS2 : Hid (getText l (i : Int) = scanT (acc ++ [0]) (l.drop (k + 2)) (k + 2)) := HT.out.trans (by rw [if_pos h255])
                clear h255
                go_wp2_with fail
                refine (writeByte_any _ _ _ _ _ hB (by omega) hE.le).mono ?_
                rintro e w2 ⟨rfl, hB2, hE2⟩
                go_wp2
                go_roundw
                case rel => exact ⟨k + 2, acc ++ [0], by omega, by go_num, by simp; omega, .inr (by simpa [Lib.byteCells] using hB2), Below.trans hE hE2, HS2⟩
                case measure => simp [intOf] <;> omega
              · have y0 : ((l[k + 1].toNat : Int) == 255) = false := byte_ne (c := 255) h255
                by_cases hone : l[k + 1] = 1
                · have y1 : ((l[k + 1].toNat : Int) == 1) = true := byte_eq (c := 1) hone
                  have HR := Lib.hid (HT.out.trans (by rw [if_neg h255, if_pos hone]))
                  clear h255 hone HT
                  go_wp2_with fail
                  refine (Try.Builder_String_any _ _ _ _ hB hE.le).mono ?_
                  rintro e w2 ⟨rfl, hE2⟩
                  go_wp2
                  go_ret3
                  refine ⟨tupT_ret (t := acc) ?_ (by rfl), Below.trans hE hE2⟩
                  rw [HR.out]
                  simp
                  try omega
                · have y1 : ((l[k + 1].toNat : Int) == 1) = false := byte_ne (c := 1) hone
                  have HR := Lib.hid (HT.out.trans (by rw [if_neg h255, if_neg hone]))
                  clear h255 hone HT
                  go_wp2
                  go_ret3
                  refine ⟨tupT_ret (t := []) ?_ (by rfl), hE⟩
                  exact HR.out
          · have z0 : ((l[k].toNat : Int) == 0) = false := byte_ne (c := 0) hz
            have HS2 : Hid (getText l (i : Int) = scanT (acc ++ [l[k]]) (l.drop (k + 1)) (k + 1)) := hS.out.trans (scan_byte hlt hz)
            clear hz hS
            go_wp2_with fail
            refine (writeByte_any _ _ _ _ _ hB (by omega) hE.le).mono ?_
            rintro e w2 ⟨rfl, hB2, hE2⟩
            go_wp2
            go_roundw
            case rel => exact ⟨k + 1, acc ++ [l[k]], by omega, by go_num, by simp; omega, .inr (by simpa [Lib.byteCells] using hB2), Below.trans hE hE2, HS2⟩
            case measure => simp [intOf] <;> omega
        · go_wp2
          go_ret3
          refine ⟨tupT_ret (t := []) ?_ (by rfl), hE⟩
          rw [hS.out, scan_end (by omega)]
end Go.Proofs.Yteamiiekpjoclaa

/- What is put as a text is got: the plain law. -/
namespace Go.Proofs.Yteamiiekpjoclaa
open Go Go.RowKit

theorem scan_back : ∀ (l acc R : List UInt8) (k : Nat), scanT acc (txt l ++ R) k = (acc ++ l, (k : Int) + (txt l).length, 0)
  | [], acc, R, k => by
    show scanT acc (0 :: 1 :: R) k = _
    rw [scanT, if_pos rfl, if_neg (by decide), if_pos rfl]
    simp [txt, esc]
  | b :: l, acc, R, k => by
    by_cases hb : b = 0
    · subst hb
      have e : txt (0 :: l) = 0 :: 255 :: txt l := by simp [txt, esc]
      rw [e]
      show scanT acc (0 :: 255 :: (txt l ++ R)) k = _
      rw [scanT, if_pos rfl, if_pos rfl, scan_back l (acc ++ [0]) R (k + 2)]
      simp
      omega
    · have e : txt (b :: l) = b :: txt l := by simp [txt, esc, hb]
      obtain ⟨c, r, hr⟩ : ∃ c r, txt l ++ R = c :: r := by
        cases h : txt l ++ R with
        | nil => simp [txt] at h
        | cons c r => exact ⟨c, r, rfl⟩
      have ih := scan_back l (acc ++ [b]) R (k + 1)
      rw [hr] at ih
      rw [e, List.cons_append, hr, scanT, if_neg hb, ih]
      simp
      omega
theorem scan_cut : ∀ (l acc : List UInt8) (j k : Nat), j < (txt l).length → scanT acc ((txt l).take j) k = ([], 0, 8)
  | [], acc, 0, k, _ => rfl
  | [], acc, 1, k, _ => rfl
  | [], acc, j + 2, k, h => by simp [txt, esc] at h; omega
  | b :: l, acc, 0, k, _ => rfl
  | b :: l, acc, j + 1, k, h => by
    by_cases hb : b = 0
    · subst hb
      have e : txt (0 :: l) = 0 :: 255 :: txt l := by simp [txt, esc]
      rw [e] at h ⊢
      cases j with
      | zero => rfl
      | succ j =>
        show scanT acc (0 :: 255 :: (txt l).take j) k = _
        rw [scanT, if_pos rfl, if_pos rfl]
        exact scan_cut l _ j _ (by simpa using h)
    · have e : txt (b :: l) = b :: txt l := by simp [txt, esc, hb]
      rw [e] at h ⊢
      rw [List.take_succ_cons]
      have ih := scan_cut l (acc ++ [b]) j (k + 1) (by simpa using h)
      cases hr : (txt l).take j with
      | nil => rfl
      | cons c r => rw [scanT, if_neg hb, ← hr, ih]

theorem getText_back (H R l : List UInt8) : getText (H ++ txt l ++ R) (H.length : Int) = (l, ((H ++ txt l).length : Int), 0) := by
  unfold getText
  rw [if_neg (by omega), Int.toNat_natCast]
  unfold getTextN
  rw [if_neg (by simp), List.append_assoc, List.drop_left, scan_back]
  simp
theorem getText_cut (H l : List UInt8) (j : Nat) (hj : j < (txt l).length) : getText ((H ++ txt l).take (H.length + j)) (H.length : Int) = ([], 0, 8) := by
  unfold getText
  rw [if_neg (by omega), Int.toNat_natCast]
  unfold getTextN
  rw [if_neg (by simp)]
  have e : ((H ++ txt l).take (H.length + j)).drop H.length = (txt l).take j := by
    rw [List.take_append, List.take_of_length_le (by omega), List.drop_left]; congr 1; omega
  rw [e, scan_cut _ _ _ _ hj]
end Go.Proofs.Yteamiiekpjoclaa

/- A view's key, put and split: the plain laws. -/
namespace Go.Proofs.Yteamiiekpjoclaa
open Go Go.RowKit

theorem key_eq (a b c d : List UInt8) : (txt a ++ b == txt c ++ d) = (a == c && b == d) := by
  rw [Bool.eq_iff_iff]
  simp only [beq_iff_eq, Bool.and_eq_true]
  exact ⟨fun h => txt_inj a c b d h, fun ⟨h1, h2⟩ => by rw [h1, h2]⟩
theorem key_less (a b c d : List UInt8) : Op.bytesLess (txt a ++ b) (txt c ++ d) = (Op.bytesLess a c || (a == c && Op.bytesLess b d)) := by
  refine (less_txt a c b d).trans ?_
  by_cases h : a = c
  · subst h
    rw [if_pos rfl]
    have := less_irrefl a
    simp only [less] at this
    simp [this]
  · rw [if_neg h]
    have : (a == c) = false := by simpa using h
    simp [this]

theorem esc_length_ge (l : List UInt8) : l.length ≤ (txt l).length := by
  have : l.length ≤ (esc l).length := by
    induction l with
    | nil => exact Nat.zero_le _
    | cons b l ih =>
      have : (esc (b :: l)).length = (if b = 0 then 2 else 1) + (esc l).length := by
        simp only [esc]
        split <;> simp <;> omega
      rw [this, List.length_cons]
      split <;> omega
  unfold txt
  simp
  omega
/-- What was read as a text is the text's bytes. -/
theorem scan_sound : ∀ (n : Nat) (m acc : List UInt8) (k : Nat), m.length ≤ n → (scanT acc m k).2.2 = 0 → ∃ t, (scanT acc m k).1 = acc ++ t ∧ (scanT acc m k).2.1 = (k : Int) + (txt t).length ∧ ∃ r, m = txt t ++ r
  | _, [], _, _, _, h => by simp [scanT] at h
  | _, [_], _, _, _, h => by simp [scanT] at h
  | 0, _ :: _ :: _, _, _, hl, _ => by simp at hl
  | n + 1, b :: c :: r, acc, k, hl, h => by
    rw [scanT] at h ⊢
    by_cases hb : b = 0
    · rw [if_pos hb] at h ⊢
      by_cases h2 : c = 255
      · rw [if_pos h2] at h ⊢
        obtain ⟨t, e1, e2, r', e3⟩ := scan_sound n r (acc ++ [0]) (k + 2) (by simp at hl; omega) h
        have et : txt (0 :: t) = 0 :: 255 :: txt t := by simp [txt, esc]
        refine ⟨0 :: t, by rw [e1]; simp, by rw [e2, et]; simp; omega, r', by rw [et, e3, hb, h2]; rfl⟩
      · rw [if_neg h2] at h ⊢
        by_cases h3 : c = 1
        · rw [if_pos h3] at h ⊢
          refine ⟨[], by simp, by simp [txt, esc], r, by rw [hb, h3]; rfl⟩
        · rw [if_neg h3] at h
          simp at h
    · rw [if_neg hb] at h ⊢
      obtain ⟨t, e1, e2, r', e3⟩ := scan_sound n (c :: r) (acc ++ [b]) (k + 1) (by simp at hl ⊢; omega) h
      have et : txt (b :: t) = b :: txt t := by simp [txt, esc, hb]
      refine ⟨b :: t, by rw [e1]; simp, by rw [e2, et]; simp; omega, r', by rw [et, e3]; rfl⟩

theorem getText_sound (l : List UInt8) (h : (getText l 0).2.2 = 0) : (getText l 0).2.1 = ((txt (getText l 0).1).length : Int) ∧ txt (getText l 0).1 ++ l.drop (txt (getText l 0).1).length = l ∧ (txt (getText l 0).1).length ≤ l.length := by
  have e : getText l 0 = scanT [] l 0 := by
    unfold getText getTextN
    simp
  rw [e] at h ⊢
  obtain ⟨t, e1, e2, r, e3⟩ := scan_sound _ l [] 0 (Nat.le_refl _) h
  rw [e1, e2]
  simp only [List.nil_append]
  refine ⟨by simp, ?_, ?_⟩
  · rw [e3]; simp
  · rw [e3]; simp
theorem getText_key (a b : List UInt8) : getText (txt a ++ b) 0 = (a, ((txt a).length : Int), 0) := by
  have := getText_back [] b a
  simpa using this
end Go.Proofs.Yteamiiekpjoclaa
