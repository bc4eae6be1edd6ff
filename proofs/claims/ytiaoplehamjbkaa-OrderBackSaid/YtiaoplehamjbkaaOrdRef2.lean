/- The walks over the reference 02: GetInt, Num, Text, Int. -/
import Derived.Test.YtiaoplehamjbkaaOrdRef
namespace Go.Proofs.Ytiaoplehamjbkaa
open Go Go.RowKit
attribute [local go_sem] yields yUpon

theorem nat_xor_top (V : Nat) (h : V < 18446744073709551616) : V ^^^ 9223372036854775808 = (V + 9223372036854775808) % 18446744073709551616 := by
  apply Nat.eq_of_testBit_eq
  intro i
  have e1 : (9223372036854775808 : Nat) = 2 ^ 63 := by decide
  have e2 : (18446744073709551616 : Nat) = 2 ^ 64 := by decide
  rw [e1, e2, Nat.testBit_xor, Nat.testBit_mod_two_pow, Nat.testBit_two_pow]
  rcases Nat.lt_trichotomy i 63 with hi | hi | hi
  · rw [Nat.add_comm, Nat.testBit_two_pow_add_gt hi]
    have : ¬ 63 = i := by omega
    have h' : i < 64 := by omega
    simp [this, h']
  · subst hi
    rw [Nat.add_comm, Nat.testBit_two_pow_add_eq]
    simp
  · have h1 : V.testBit i = false := Nat.testBit_lt_two_pow (Nat.lt_of_lt_of_le (by rw [← e2]; exact h) (Nat.pow_le_pow_right (by decide) (by omega : 64 ≤ i)))
    have h2 : ¬ 63 = i := by omega
    have h3 : ¬ i < 64 := by omega
    simp [h1, h2, h3]

theorem bits_xor_top (V : Nat) (h : V < 18446744073709551616) : bits .xor .u64 (V : Int) 9223372036854775808 = (((V + 9223372036854775808) % 18446744073709551616 : Nat) : Int) := by
  have e : bits .xor .u64 (V : Int) ((9223372036854775808 : Nat) : Int) = ((V ^^^ 9223372036854775808 : Nat) : Int) := by
    simp only [bits, BitVec.ofInt_natCast, BitVec.toNat_xor, BitVec.toNat_ofNat]
    have hp : (2 : Nat) ^ IntKind.u64.bits = 18446744073709551616 := by decide
    rw [hp, Nat.mod_eq_of_lt h, Nat.mod_eq_of_lt (by decide), IntKind.wrap_u64, nat_xor_top V h]
    omega
  rw [nat_xor_top V h] at e
  exact e
theorem xor_back (V : Nat) (h : V < 18446744073709551616) : wrap64 (bits .xor .u64 (V : Int) 9223372036854775808) = (V : Int) - 9223372036854775808 := by
  rw [bits_xor_top V h]
  simp only [wrap64]
  omega
theorem str_app (l m : List UInt8) : str l ++ str m = str (l ++ m) := by
  apply ByteArray.ext
  simp [str]
theorem ret_str {x y : ByteArray} (h : x = y) : Ending.returned (.string x) = .returned (.string y) := by rw [h]

set_option maxHeartbeats 400000 in
theorem rgetInt_any (s : ByteArray) (w : World) :
    Calls Try.prog 39 #[.string s] w fun e w' => e = .returned (.tuple #[.int .i64 (getInt s.data.toList).1, .bool (getInt s.data.toList).2]) ∧ w = w' := by
  have hlen : s.data.toList.length = s.size := rfl
  by_cases h8 : s.size = 8
  · have h : ((s.size : Int) == 8) = true := by simp [h8]
    go_enter Try.func39, Try.ntmps39
    go_wp2
    go_loop [4, 5] (fun v i => ∃ k : Nat, k ≤ 8 ∧ i = .int .i64 k ∧ v = .int .u64 (valB (s.data.toList.take k))) (fun v i => 8 - (intOf i).toNat)
    case atStart => exact ⟨0, by omega, rfl, rfl⟩
    case round =>
      obtain ⟨k, hk, rfl, rfl⟩ := hrel
      by_cases hlt : k < 8
      · go_wp2
        go_round
        case rel =>
          refine ⟨k + 1, by omega, by go_num, ?_⟩
          rw [valB_take _ _ (by omega), ← or_step _ _ s.data.toList[k].toNat_lt (valB_take_lt _ _ hlt)]
          rfl
        case measure => simp [intOf] <;> omega
      · have hk8 : k = 8 := by omega
        go_wp2
        go_ret2
        refine ⟨?_, rfl⟩
        have hV : valB s.data.toList < 18446744073709551616 := valB_lt 8 _ (by omega)
        have e1 : s.data.toList.take 8 = s.data.toList := List.take_of_length_le (by omega)
        refine getInt_ret ?_
        rw [e1]
        unfold getInt
        rw [if_pos (by omega)]
        rw [xor_back _ hV]
  · have h : ((s.size : Int) == 8) = false := by simp; omega
    go_enter Try.func39, Try.ntmps39
    go_wp2
    go_ret2
    refine ⟨getInt_ret ?_, rfl⟩
    unfold getInt
    rw [if_neg (by omega)]

set_option maxHeartbeats 400000 in
theorem rtext_any (s : ByteArray) (w : World) (hl : s.size ≤ 100000000) :
    Calls Try.prog 32 #[.string s] w fun e w' => e = .returned (.string (str (txt s.data.toList))) ∧ w = w' := by
  go_enter Try.func32, Try.ntmps32
  go_wp2
  go_loop [3, 4] (fun t n => ∃ (k : Nat), k ≤ s.size ∧ n = .int .i64 k ∧ t = .string (str (esc (s.data.toList.take k)))) (fun _ n => s.size - (intOf n).toNat)
  case atStart => exact ⟨0, by omega, rfl, rfl⟩
  case round =>
    obtain ⟨k, hk, rfl, rfl⟩ := hrel
    have hle : (esc (s.data.toList.take k)).length ≤ 2 * k := Nat.le_trans (esc_length_le _) (by simp; omega)
    have q1 : ¬ 9223372036854775807 < (esc (s.data.toList.take k)).length + (min (k + 1) s.size - k) := by omega
    have q2 : ¬ 9223372036854775807 < (esc (s.data.toList.take k)).length + 2 := by omega
    have q3 : ¬ 9223372036854775807 < (esc (s.data.toList.take k)).length + (min (k + 1) s.size - k) + 1 := by omega
    by_cases hlt : k < s.size
    · have hts : Hid (esc (s.data.toList.take (k + 1)) = esc (s.data.toList.take k) ++ if s[k] = 0 then [0, 255] else [s[k]]) := by
        rw [← esc_snoc]
        congr 1
        exact List.take_succ_eq_append_getElem (by simpa using hlt)
      have hsn := Lib.hid (str_snoc (esc (s.data.toList.take k)) s k hlt)
      by_cases hz : s[k] = 0
      · have z0 : ((s[k].toNat : Int) == 0) = true := byte_eq (c := 0) hz
        have HZ := Lib.hid hz
        clear hz
        go_wp2
        go_round
        case rel =>
          refine ⟨k + 1, by omega, by go_num, ?_⟩
          rw [hsn.out, hts.out, if_pos HZ.out]
          rw [show s.data.toList[k] = 0 from HZ.out, show (⟨#[255]⟩ : ByteArray) = str [255] from rfl, str_app, List.append_assoc]
          rfl
        case measure => simp [intOf] <;> omega
      · have z0 : ((s[k].toNat : Int) == 0) = false := byte_ne (c := 0) hz
        have HZ := Lib.hid hz
        clear hz
        go_wp2
        go_round
        case rel =>
          refine ⟨k + 1, by omega, by go_num, ?_⟩
          rw [hsn.out, hts.out, if_neg HZ.out]
          rfl
        case measure => simp [intOf] <;> omega
    · go_wp2
      go_ret
      refine ⟨?_, rfl⟩
      refine ret_str ?_
      rw [show (⟨#[0, 1]⟩ : ByteArray) = str [0, 1] from rfl, str_app, List.take_of_length_le (by simpa using hlt)]
      rfl
end Go.Proofs.Ytiaoplehamjbkaa
