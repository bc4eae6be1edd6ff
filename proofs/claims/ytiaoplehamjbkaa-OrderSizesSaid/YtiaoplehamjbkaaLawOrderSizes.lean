/- OrderSizes: as few bytes as can be; a byte more for each nought of a text, and two: the law's walk. -/
import Derived.Test.YtiaoplehamjbkaaOrd
namespace Go.Proofs.Ytiaoplehamjbkaa
open Go Go.RowKit

def zeros (l : List UInt8) : Nat := (l.filter (· == 0)).length
theorem zeros_le (l : List UInt8) : zeros l ≤ l.length := List.length_filter_le _ _
theorem zeros_snoc (l : List UInt8) (b : UInt8) : zeros (l ++ [b]) = zeros l + if b = 0 then 1 else 0 := by
  unfold zeros
  rw [List.filter_append]
  by_cases h : b = 0 <;> simp [h]
theorem esc_length (l : List UInt8) : (esc l).length = l.length + zeros l := by
  induction l with
  | nil => rfl
  | cons b l ih =>
    have e : zeros (b :: l) = (if b = 0 then 1 else 0) + zeros l := by
      unfold zeros
      by_cases h : b = 0 <;> simp [h]; omega
    rw [e]
    simp only [esc]
    split <;> simp [ih] <;> omega
theorem num_length (x : Nat) : (num x).length = nlen x + 1 := by simp [num, beB_length]
theorem txt_length (l : List UInt8) : (txt l).length = l.length + zeros l + 2 := by simp [txt, esc_length]

theorem nlen_zero : nlen 0 = 0 := by decide
theorem nlen_le8 {x : Nat} (h : x < 18446744073709551616) : nlen x ≤ 8 := by have := bitsOf_le64 h; unfold nlen; omega
theorem nlen_pos {x : Nat} (h : x ≠ 0) : 1 ≤ nlen x := by
  have : bitsOf x ≠ 0 := by unfold bitsOf; rw [if_neg h]; omega
  unfold nlen; omega
theorem nlen_top {x : Nat} (h : x ≠ 0) : 0 < x / 2 ^ (8 * (nlen x - 1)) := by
  apply Nat.div_pos _ (Nat.two_pow_pos _)
  refine Nat.le_trans (Nat.pow_le_pow_right (by omega) ?_) (bitsOf_le x h)
  unfold nlen; omega
theorem nlen_over (x : Nat) : x / 2 ^ (8 * nlen x) = 0 := by
  apply Nat.div_eq_of_lt
  refine Nat.lt_of_lt_of_le (bitsOf_lt x) (Nat.pow_le_pow_right (by omega) ?_)
  unfold nlen; omega

theorem zeros_step {l l' : List UInt8} {b : UInt8} {n : Int} (h1 : l' = l ++ [b]) (h2 : zeros (l ++ [b]) = zeros l + if b = 0 then 1 else 0) (h : ((b.toNat : Int) == 0) = true ∧ n = zeros l + 1 ∨ ((b.toNat : Int) == 0) = false ∧ n = zeros l) : Value.int .i64 n = .int .i64 (zeros l') := by
  rw [h1, h2]
  rcases h with ⟨h, rfl⟩ | ⟨h, rfl⟩
  · have hb : b = 0 := by apply UInt8.toNat.inj; have := beq_iff_eq.1 h; simpa using this
    simp [hb]
  · have hb : b ≠ 0 := by rintro rfl; simp at h
    simp [hb]

set_option maxHeartbeats 1000000 in
theorem law_orderSizes (V : Nat) (bits : Int) (s : ByteArray) (hV : V < 18446744073709551616) (w : World) :
    Calls Try.prog 4 #[.int .u64 V, .int .i64 bits, .string s] w fun e w' => e = .returned (.bool true) ∧ Ext w w' := by
  by_cases hs : s.size ≤ 500
  · obtain ⟨k, hk, hk64⟩ : ∃ k : Nat, bits % 64 = (k : Int) ∧ k < 64 := ⟨(bits % 64).toNat, by omega, by omega⟩
    obtain ⟨X, hX⟩ : ∃ X, X = V / 2 ^ k := ⟨_, rfl⟩
    have hxi : ((V : Int) / 2 ^ k) = (X : Int) := by rw [hX]; simp
    have hX64 : X < 18446744073709551616 := by rw [hX]; exact Nat.lt_of_le_of_lt (Nat.div_le_self _ _) hV
    have HX := Lib.hid hX
    clear hX
    have hs' : decide ((500 : Int) < (s.size : Int)) = false := by simp; omega
    go_enter Try.func4, Try.ntmps4
    go_wp2_with (first
      | (go_at_call 17; go_must (refine (place_any _ _ (by decide) (by decide) _).mono ?_); rintro e w' ⟨rfl, rfl⟩)
      | (go_at_call 14; go_must (refine (Num_nil X hX64 _).mono ?_); rintro e w1 ⟨v1, rfl, h1, hE1⟩))
    obtain ⟨ad, c, rfl, hc, hcm, _, _⟩ := h1.bytes
    have hnl : (num X).length = nlen X + 1 := num_length X
    have h8 := nlen_le8 hX64
    clear h1
    go_loop [9, 10] (fun n i => ∃ j : Nat, j ≤ s.size ∧ i = .int .i64 j ∧ n = .int .i64 (zeros (s.data.toList.take j))) (fun _ i => s.size - (intOf i).toNat)
    case atStart => exact ⟨0, Nat.zero_le _, rfl, rfl⟩
    case round =>
      obtain ⟨j, hj, rfl, rfl⟩ := hrel
      have hz := zeros_le (s.data.toList.take j)
      have hl : (s.data.toList.take j).length ≤ j := List.length_take_le _ _
      by_cases hlt : j < s.size
      · have HZ := Lib.hid (zeros_snoc (s.data.toList.take j) s[j])
        have HT := Lib.hid (take_snoc s j hlt)
        go_wp2
        all_goals
          go_round
          case rel => exact ⟨j + 1, by omega, by go_num, zeros_step HT.out HZ.out (by first | exact .inl ⟨by assumption, rfl⟩ | exact .inr ⟨by assumption, rfl⟩)⟩
          case measure => simp [intOf] <;> omega
      · have htk : s.data.toList.take j = s.data.toList := List.take_of_length_le (by simp; omega)
        rw [htk] at hz ⊢
        have hsz : s.data.toList.length = s.size := rfl
        rw [hsz] at hz
        clear hl htk hsz
        have hil : ∀ v, (int8 v).length = 8 := fun v => beB_length _ _
        by_cases hX0 : X = 0
        · have hn0 : nlen X ≤ 0 := by rw [hX0]; decide
          have hx0 : X ≤ 0 := by omega
          clear hX0
          go_wp2_with (first
            | (go_at_call 15; go_must (refine (Text_nil s w1 (by omega)).mono ?_); rintro e w2 ⟨v2, rfl, h2, hE2⟩; obtain ⟨ad2, c2, rfl, hc2, hcm2, _, _⟩ := h2.bytes; have htl : (txt s.data.toList).length = s.size + zeros s.data.toList + 2 := by rw [txt_length]; rfl)
            | (go_at_call 16; go_must (refine (int_any _ _).mono ?_); rintro e w3 ⟨rfl, hE3⟩)
            | (go_at_call 13; go_must (refine (awake_any _).mono ?_); rintro e w4 ⟨rfl, hE4⟩))
          go_ret
          exact ⟨rfl, ((hE1.trans hE2).trans hE3).trans hE4⟩
        obtain ⟨m, hm⟩ : ∃ m, nlen X = m + 1 := ⟨nlen X - 1, by have := nlen_pos hX0; omega⟩
        have hd1 : 0 < (X : Int) / 2 ^ (8 * m) := by have := nlen_top hX0; rw [hm, Nat.add_sub_cancel] at this; exact_mod_cast Int.ofNat_lt.2 this
        have hd2 : (X : Int) / 2 ^ (8 * (m + 1)) = 0 := by have := nlen_over X; rw [hm] at this; exact_mod_cast this
        go_wp2_with (first
          | (go_at_call 15; go_must (refine (Text_nil s w1 (by omega)).mono ?_); rintro e w2 ⟨v2, rfl, h2, hE2⟩; obtain ⟨ad2, c2, rfl, hc2, hcm2, _, _⟩ := h2.bytes; have htl : (txt s.data.toList).length = s.size + zeros s.data.toList + 2 := by rw [txt_length]; rfl)
          | (go_at_call 16; go_must (refine (int_any _ _).mono ?_); rintro e w3 ⟨rfl, hE3⟩)
          | (go_at_call 13; go_must (refine (awake_any _).mono ?_); rintro e w4 ⟨rfl, hE4⟩))
        all_goals
          go_ret
          exact ⟨rfl, ((hE1.trans hE2).trans hE3).trans hE4⟩
  · go_enter Try.func4, Try.ntmps4
    go_wp2_with (go_at_call 13; go_must (refine (awake_any _).mono ?_); rintro e w4 ⟨rfl, hE4⟩)
    go_ret
    exact ⟨rfl, hE4⟩

theorem walk_orderSizes (a0 a1 : Int) (a2 : ByteArray) (w0 : (Lit.int .u64 a0).wf = true) (_ : (Lit.int .i64 a1).wf = true) (_ : a2.size ≤ maxLen) (w : World) :
    Calls Try.prog 4 #[.int .u64 a0, .int .i64 a1, .string a2] w fun e w' => e = .returned (.bool true) ∧ Ext w w' := by
  obtain ⟨V, rfl⟩ := Int.eq_ofNat_of_zero_le (wf_u64 w0).1
  exact law_orderSizes V a1 a2 (by have := (wf_u64 w0).2; omega) w
end Go.Proofs.Ytiaoplehamjbkaa
