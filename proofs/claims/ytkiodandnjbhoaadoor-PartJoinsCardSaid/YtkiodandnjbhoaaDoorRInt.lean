/- The walk over the reference 02: Int, by itself. -/
import Derived.Test.YtkiodandnjbhoaaDoorNums
import Derived.Test.YtkiodandnjbhoaaDoorBytes

namespace Go.Proofs.YtkiodandnjbhoaaDoor
open Go Go.RowKit
attribute [local go_sem] yields yUpon

theorem nat_xor_top (V : Nat) (h : V < 18446744073709551616) : V ^^^ 9223372036854775808 = (V + 9223372036854775808) % 18446744073709551616 := by
  apply Nat.eq_of_testBit_eq
  intro i
  have e1 : (9223372036854775808 : Nat) = 2 ^ 63 := by decide
  have e2 : (18446744073709551616 : Nat) = 2 ^ 64 := by decide
  rw [e1, e2, Nat.testBit_xor, Nat.testBit_mod_two_pow, Nat.testBit_two_pow]
  rcases Nat.lt_trichotomy i 63 with hi | hi | hi
  · rw [Nat.add_comm, Nat.testBit_two_pow_add_gt hi]
    have : ¬ 63 = i := by omega
    have h' : i < 64 := by omega
    simp [this, h']
  · subst hi
    rw [Nat.add_comm, Nat.testBit_two_pow_add_eq]
    simp
  · have h1 : V.testBit i = false := Nat.testBit_lt_two_pow (Nat.lt_of_lt_of_le (by rw [← e2]; exact h) (Nat.pow_le_pow_right (by decide) (by omega : 64 ≤ i)))
    have h2 : ¬ 63 = i := by omega
    have h3 : ¬ i < 64 := by omega
    simp [h1, h2, h3]

theorem bits_xor_top (V : Nat) (h : V < 18446744073709551616) : bits .xor .u64 (V : Int) 9223372036854775808 = (((V + 9223372036854775808) % 18446744073709551616 : Nat) : Int) := by
  have e : bits .xor .u64 (V : Int) ((9223372036854775808 : Nat) : Int) = ((V ^^^ 9223372036854775808 : Nat) : Int) := by
    simp only [bits, BitVec.ofInt_natCast, BitVec.toNat_xor, BitVec.toNat_ofNat]
    have hp : (2 : Nat) ^ IntKind.u64.bits = 18446744073709551616 := by decide
    rw [hp, Nat.mod_eq_of_lt h, Nat.mod_eq_of_lt (by decide), IntKind.wrap_u64, nat_xor_top V h]
    omega
  rw [nat_xor_top V h] at e
  exact e
theorem str_app (l m : List UInt8) : str l ++ str m = str (l ++ m) := by
  apply ByteArray.ext
  simp [str]
theorem ret_str {x y : ByteArray} (h : x = y) : Ending.returned (.string x) = .returned (.string y) := by rw [h]

theorem byte_in (w : World) (X : Int) (h0 : 0 ≤ X) (h1 : X < 256) : BytesIn (w.alloc (.cells #[.int .u8 X] 5)) (.slice (some ⟨w.heap.size, 0, none⟩) 1 1) [UInt8.ofNat X.toNat] := by
  unfold BytesIn
  rw [← cs1 h0 h1]
  exact SliceIn.made w _ _ 1 (by unfold maxLen; omega)

set_option maxRecDepth 100000 in
set_option maxHeartbeats 1000000 in
theorem rint_any (v : Int) (w : World) :
    Calls Tryd.prog 93 #[.int .i64 v] w fun e w' => e = .returned (.string (str (int8 v))) ∧ Ext w w' := by
  obtain ⟨U, hU⟩ : ∃ U, U = ((v + 9223372036854775808) % 18446744073709551616).toNat := ⟨_, rfl⟩
  have hx : bits .xor .u64 (IntKind.u64.wrap v) 9223372036854775808 = (U : Int) := by
    have h1 : IntKind.u64.wrap v = ((v % 18446744073709551616).toNat : Int) := by rw [IntKind.wrap_u64]; omega
    rw [h1, bits_xor_top _ (by omega), hU]
    omega
  have HU := Lib.hid hU
  clear hU
  go_enter Tryd.func93, Tryd.ntmps93
  go_wp2
  go_loopw [4, 5] (fun t n wr => ∃ (k : Nat), k ≤ 8 ∧ n = .int .i64 k ∧ t = .string (str (beB k U)) ∧ Ext w wr) (fun _ n _ => 8 - (intOf n).toNat)
  case atStart => exact ⟨0, by omega, rfl, rfl, Ext.refl w⟩
  case round =>
    obtain ⟨k, hk, rfl, rfl, hE⟩ := hrel
    have q1 : ¬ 9223372036854775807 < 1 + (beB k U).length := by rw [beB_length]; omega
    by_cases hlt : k < 8
    · go_wp2
      have hX0 : (0 : Int) ≤ (U : Int) / 2 ^ (8 * k) % 256 := Int.emod_nonneg _ (by decide)
      have hX1 : (U : Int) / 2 ^ (8 * k) % 256 < 256 := Int.emod_lt_of_pos _ (by decide)
      rw [run_convert_bytesIn _ 45 9 5 und_bytes und_u8 und_string (byte_in wr _ hX0 hX1)]
      simp only [Result.andThen]
      rw [Oper.upon_value]
      have hcat : Hid (str [UInt8.ofNat ((U : Int) / 2 ^ (8 * k) % 256).toNat] ++ str (beB k U) = str (beB (k + 1) U)) := by
        rw [str_app, byte_shift]
        rfl
      go_wp2
      go_roundw
      case rel => exact ⟨k + 1, by omega, by go_num, by rw [← hcat.out], hE.alloc _⟩
      case measure => simp [intOf] <;> omega
    · have hk8 : k = 8 := by omega
      go_wp2
      go_ret
      refine ⟨?_, hE⟩
      refine ret_str ?_
      unfold int8
      rw [← HU.out, hk8]

end Go.Proofs.YtkiodandnjbhoaaDoor
