/- The walks over the reference 02: Int, Num. -/
import Derived.Test.YtiaoplehamjbkaaOrdRef2
namespace Go.Proofs.Ytiaoplehamjbkaa
open Go Go.RowKit
attribute [local go_sem] yields yUpon

theorem byte_in (w : World) (X : Int) (h0 : 0 ≤ X) (h1 : X < 256) : BytesIn (w.alloc (.cells #[.int .u8 X] 5)) (.slice (some ⟨w.heap.size, 0, none⟩) 1 1) [UInt8.ofNat X.toNat] := by
  unfold BytesIn
  rw [← cs1 h0 h1]
  exact SliceIn.made w _ _ 1 (by unfold maxLen; omega)

set_option maxHeartbeats 400000 in
theorem rint_any (v : Int) (w : World) :
    Calls Try.prog 33 #[.int .i64 v] w fun e w' => e = .returned (.string (str (int8 v))) ∧ Ext w w' := by
  obtain ⟨U, hU⟩ : ∃ U, U = ((v + 9223372036854775808) % 18446744073709551616).toNat := ⟨_, rfl⟩
  have hx : bits .xor .u64 (IntKind.u64.wrap v) 9223372036854775808 = (U : Int) := by
    have h1 : IntKind.u64.wrap v = ((v % 18446744073709551616).toNat : Int) := by rw [IntKind.wrap_u64]; omega
    rw [h1, bits_xor_top _ (by omega), hU]
    omega
  have HU := Lib.hid hU
  clear hU
  go_enter Try.func33, Try.ntmps33
  go_wp2
  go_loopw [4, 5] (fun t n wr => ∃ (k : Nat), k ≤ 8 ∧ n = .int .i64 k ∧ t = .string (str (beB k U)) ∧ Ext w wr) (fun _ n _ => 8 - (intOf n).toNat)
  case atStart => exact ⟨0, by omega, rfl, rfl, Ext.refl w⟩
  case round =>
    obtain ⟨k, hk, rfl, rfl, hE⟩ := hrel
    have q1 : ¬ 9223372036854775807 < 1 + (beB k U).length := by rw [beB_length]; omega
    by_cases hlt : k < 8
    · go_wp2
      have hX0 : (0 : Int) ≤ (U : Int) / 2 ^ (8 * k) % 256 := (mod256 _).1
      have hX1 : (U : Int) / 2 ^ (8 * k) % 256 < 256 := (mod256 _).2
      rw [run_convert_bytesIn _ 24 9 5 und_bytes und_u8 und_string (byte_in wr _ hX0 hX1)]
      simp only [Result.andThen]
      rw [Oper.upon_value]
      have hcat : Hid (str [UInt8.ofNat ((U : Int) / 2 ^ (8 * k) % 256).toNat] ++ str (beB k U) = str (beB (k + 1) U)) := by
        rw [str_app, byte_shift]
        rfl
      go_wp2
      go_roundw
      case rel => exact ⟨k + 1, by omega, by go_num, by rw [← hcat.out], hE.alloc _⟩
      case measure => simp [intOf] <;> omega
    · have hk8 : k = 8 := by omega
      go_wp2
      go_ret
      refine ⟨?_, hE⟩
      refine ret_str ?_
      unfold int8
      rw [← HU.out, hk8]

theorem nlen_of {x k : Nat} (h1 : x / 256 ^ k = 0) (h2 : k = 0 ∨ 0 < x / 256 ^ (k - 1)) : k = nlen x := by
  have hp : ∀ j : Nat, (256 : Nat) ^ j = 2 ^ (8 * j) := fun j => by rw [Nat.pow_mul]
  have hx : x < 2 ^ (8 * k) := by
    rw [← hp]
    rcases Nat.div_eq_zero_iff.1 h1 with h | h
    · exact absurd h (Nat.pos_iff_ne_zero.1 (Nat.pow_pos (by decide)))
    · exact h
  have hb := bitsOf_lt x
  unfold nlen
  by_cases h0 : x = 0
  · subst h0
    rcases h2 with rfl | h2
    · rfl
    · simp at h2
  · have hl := bitsOf_le x h0
    have a1 : bitsOf x - 1 < 8 * k := (Nat.pow_lt_pow_iff_right (by decide : 1 < 2)).1 (Nat.lt_of_le_of_lt hl hx)
    rcases h2 with rfl | h2
    · simp at hx; omega
    · have a2 : 2 ^ (8 * (k - 1)) ≤ x := by
        rw [← hp]
        rcases Nat.lt_or_ge x (256 ^ (k - 1)) with h | h
        · rw [Nat.div_eq_of_lt h] at h2; omega
        · exact h
      have a3 : 8 * (k - 1) < bitsOf x := (Nat.pow_lt_pow_iff_right (by decide : 1 < 2)).1 (Nat.lt_of_le_of_lt a2 hb)
      omega

theorem ofNat_mod (n : Nat) : UInt8.ofNat (n % 256) = UInt8.ofNat n := by
  apply UInt8.toNat_inj.1
  simp
set_option maxHeartbeats 400000 in
theorem rnum_any (x : Nat) (hx : x < 18446744073709551616) (w : World) :
    Calls Try.prog 31 #[.int .u64 x] w fun e w' => e = .returned (.string (str (num x))) ∧ Ext w w' := by
  have h8 : nlen x ≤ 8 := by have := bitsOf_le64 hx; unfold nlen; omega
  go_enter Try.func31, Try.ntmps31
  go_wp2
  go_loopw [0, 3] (fun v t wr => ∃ (k V : Nat), V = x / 256 ^ k ∧ v = .int .u64 V ∧ t = .string (str (beB k x)) ∧ Hid (k = 0 ∨ 0 < x / 256 ^ (k - 1)) ∧ k ≤ 8 ∧ Ext w wr) (fun v _ _ => (intOf v).toNat)
  case atStart => exact ⟨0, x, by simp, rfl, rfl, .inl rfl, by omega, Ext.refl w⟩
  case round =>
    obtain ⟨k, V, hV, rfl, rfl, hp, hk, hE⟩ := hrel
    have HV := Lib.hid hV
    have hVx : V < 18446744073709551616 := by rw [hV]; exact Nat.lt_of_le_of_lt (Nat.div_le_self _ _) hx
    have q1 : ¬ 9223372036854775807 < 1 + (beB k x).length := by rw [beB_length]; omega
    have q2 := beB_length k x
    clear hV
    by_cases h0 : 0 < V
    · have d0 : decide ((0 : Int) < (V : Int)) = true := by simpa using h0
      have hX0 : (0 : Int) ≤ (V : Int) % 256 := by omega
      have hX1 : (V : Int) % 256 < 256 := by omega
      have hk7 : k < 8 := by
        rcases Nat.lt_or_ge k 8 with h | h
        · exact h
        · obtain rfl : k = 8 := by omega
          rw [HV.out, Nat.div_eq_of_lt hx] at h0
          omega
      have hcat : Hid (str [UInt8.ofNat ((V : Int) % 256).toNat] ++ str (beB k x) = str (beB (k + 1) x)) := by
        rw [str_app, show ((V : Int) % 256).toNat = V % 256 by omega, ofNat_mod, HV.out]
        rfl
      have hV2 : Hid (V / 256 = x / 256 ^ (k + 1)) := Lib.hid (by rw [HV.out, Nat.div_div_eq_div_mul, Nat.pow_succ])
      go_wp2
      rw [run_convert_bytesIn _ 24 9 5 und_bytes und_u8 und_string (byte_in wr _ hX0 hX1)]
      simp only [Result.andThen]
      rw [Oper.upon_value]
      go_wp2
      go_roundw
      case rel => exact ⟨k + 1, V / 256, hV2.out, by go_num, by rw [← hcat.out, show ((V : Int) % 256).toNat = V % 256 by omega], .inr (by rw [Nat.add_sub_cancel, ← HV.out]; exact h0), by omega, hE.alloc _⟩
      case measure => simp [intOf] <;> omega
    · have d0 : decide ((0 : Int) < (V : Int)) = false := by simpa using h0
      have hkn : Hid (k = nlen x) := nlen_of (by rw [← HV.out]; omega) hp.out
      have q3 : ¬ 9223372036854775807 < 1 + k := by omega
      go_wp2
      rw [run_convert_bytesIn _ 24 9 5 und_bytes und_u8 und_string (byte_in wr _ (by omega) (by omega))]
      simp only [Result.andThen]
      rw [Oper.upon_value]
      go_wp2
      go_ret
      refine ⟨ret_str ?_, hE.alloc _⟩
      rw [str_app]
      unfold num
      rw [← hkn.out]
      rfl
end Go.Proofs.Ytiaoplehamjbkaa
