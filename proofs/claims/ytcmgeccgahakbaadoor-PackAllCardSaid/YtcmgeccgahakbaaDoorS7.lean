/- The reference's code points: cont, one. -/
import Derived.Test.YtcmgeccgahakbaaDoorS1
import Derived.Test.YtcmgeccgahakbaaDoorProg
import Derived.Lib.DecodeN
import Derived.Lib.Hide
import Derived.Laws.BitsLemmas
import Derived.Shelf.Unicode.DecodeAny
set_option linter.unusedSimpArgs false
set_option linter.unusedVariables false
namespace Go.Proofs.YtcmgeccgahakbaaDoor
open Go Go.RowKit
attribute [local go_sem] yields yUpon

/-- Does a byte go on? -/
def goesOn (b : UInt8) : Bool := decide (b.toNat / 64 = 2)
def contB (s : ByteArray) (at_ n : Nat) : Bool := decide (at_ + n ≤ s.size) && (List.range n).all fun i => goesOn (s.get! (at_ + i))
theorem bits192 : ∀ n : Fin 256, (bits BinOp.and IntKind.u8 ((n.val : Nat) : Int) 192 != 128) = !decide (n.val / 64 = 2) := by decide +kernel
theorem goes_bits (b : UInt8) : (bits BinOp.and IntKind.u8 (b.toNat : Int) 192 != 128) = !goesOn b := bits192 ⟨b.toNat, b.toNat_lt⟩
theorem get_bang {s : ByteArray} {i : Nat} (h : i < s.size) : s.get! i = s[i]'h := by
  simp [ByteArray.get!, getElem!_pos, h]
  rfl
theorem contB_false {s : ByteArray} {at_ n k : Nat} (hk : k < n) (h : goesOn (s.get! (at_ + k)) = false) : contB s at_ n = false := by
  unfold contB
  rw [Bool.and_eq_false_iff]
  right
  rw [List.all_eq_false]
  exact ⟨k, by simpa using hk, by rw [h]; decide⟩
theorem contB_true {s : ByteArray} {at_ n : Nat} (hl : at_ + n ≤ s.size) (h : ∀ j, j < n → goesOn (s.get! (at_ + j)) = true) : contB s at_ n = true := by
  unfold contB
  rw [Bool.and_eq_true]
  refine ⟨by simpa using hl, ?_⟩
  rw [List.all_eq_true]
  intro j hj
  exact h j (by simpa using hj)

set_option maxHeartbeats 1000000 in
theorem cont_any (s : ByteArray) (at_ n : Nat) (hs : s.size ≤ 1000000) (ha : at_ ≤ 1000000) (hn : n ≤ 3) (w : World) :
    Calls Tryd.prog 173 #[.string s, .int .i64 at_, .int .i64 n] w fun e w' => e = .returned (.bool (contB s at_ n)) ∧ w = w' := by
  by_cases hl : at_ + n ≤ s.size
  · have k1 : decide ((s.size : Int) < (at_ : Int) + (n : Int)) = false := by simp; omega
    go_enter Tryd.func173, Tryd.ntmps173
    go_wp2
    go_loopw [7] (fun i wr => ∃ k : Nat, k ≤ n ∧ i = .int .i64 ((at_ : Int) + (k : Int)) ∧ wr = w ∧ ∀ j, j < k → goesOn (s.get! (at_ + j)) = true) (fun i _ => at_ + n - (intOf i).toNat)
    case atStart => exact ⟨0, Nat.zero_le _, by simp, rfl, fun j hj => absurd hj (Nat.not_lt_zero _)⟩
    case round =>
      obtain ⟨k, hk, rfl, rfl, hall⟩ := hrel
      have HALL := Lib.hid hall
      clear hall
      by_cases hlt : k < n
      · have hki : decide ((at_ : Int) + (k : Int) < (at_ : Int) + (n : Int)) = true := by simp; omega
        have hb := goes_bits (s[at_ + k]'(by omega))
        obtain ⟨g, hg⟩ : ∃ g, g = goesOn (s[at_ + k]'(by omega)) := ⟨_, rfl⟩
        rw [← hg] at hb
        have HG := Lib.hid hg
        clear hg
        cases g
        · go_wp2_with fail
          go_ret
          have e : contB s at_ n = false := contB_false hlt (by rw [get_bang (show at_ + k < s.size by omega)]; exact HG.out.symm)
          exact ⟨by rw [e]; rfl, rfl⟩
        · go_wp2_with fail
          go_roundw
          case rel => exact ⟨k + 1, by omega, by go_num, trivial, fun j hj => by
            by_cases h : j < k
            · exact HALL.out j h
            · obtain rfl : j = k := by omega
              rw [get_bang (show at_ + j < s.size by omega)]; exact HG.out.symm⟩
          case measure => simp [intOf] <;> omega
      · have hki : decide ((at_ : Int) + (k : Int) < (at_ : Int) + (n : Int)) = false := by simp; omega
        obtain rfl : k = n := by omega
        go_wp2_with fail
        go_ret
        have e : contB s at_ k = true := contB_true hl HALL.out
        exact ⟨by rw [e]; rfl, rfl⟩
  · have k1 : decide ((s.size : Int) < (at_ : Int) + (n : Int)) = true := by simp; omega
    have e : contB s at_ n = false := by
      unfold contB
      rw [Bool.and_eq_false_iff]
      left
      simpa using hl
    go_enter Tryd.func173, Tryd.ntmps173
    go_wp2
    go_ret
    exact ⟨by rw [e]; rfl, rfl⟩

/-- What is put together behind a first byte. -/
def accR (s : ByteArray) (at_ r0 : Nat) : Nat → Nat
  | 0 => r0
  | k + 1 => accR s at_ r0 k * 64 + (s.get! (at_ + (k + 1))).toNat % 64
theorem accR_lt (s : ByteArray) (at_ r0 : Nat) (h : r0 < 32) : ∀ k, k ≤ 3 → accR s at_ r0 k < 8388608 ∧ (k ≤ 2 → accR s at_ r0 k < 131072)
  | 0, _ => ⟨by show r0 < _; omega, fun _ => by show r0 < _; omega⟩
  | 1, _ => ⟨by show r0 * 64 + _ % 64 < _; omega, fun _ => by show r0 * 64 + _ % 64 < _; omega⟩
  | 2, _ => ⟨by show (r0 * 64 + _ % 64) * 64 + _ % 64 < _; omega, fun _ => by show (r0 * 64 + _ % 64) * 64 + _ % 64 < _; omega⟩
  | 3, _ => ⟨by show ((r0 * 64 + _ % 64) * 64 + _ % 64) * 64 + _ % 64 < _; omega, fun h => by omega⟩

theorem accR_one (s : ByteArray) (at_ r0 k : Nat) (h : r0 < 32) (hk : k + 1 ≤ 3) : bits BinOp.or IntKind.i32 (wrap32 ((accR s at_ r0 k : Int) * 64)) (wrap32 (bits BinOp.and IntKind.u8 ((s.get! (at_ + (k + 1))).toNat : Int) 63)) = (accR s at_ r0 (k + 1) : Nat) := by
  have hb := (s.get! (at_ + (k + 1))).toNat_lt
  have ha := (accR_lt s at_ r0 h k (by omega)).2 (by omega)
  rw [u8_and63 _ (by omega) (by omega)]
  unfold wrap32
  rw [show ((accR s at_ r0 k : Int) * 64 + 2147483648) % 4294967296 - 2147483648 = (accR s at_ r0 k : Int) * 64 by omega, show (((s.get! (at_ + (k + 1))).toNat : Int) % 64 + 2147483648) % 4294967296 - 2147483648 = ((s.get! (at_ + (k + 1))).toNat : Int) % 64 by omega]
  rw [i32_or6 _ _ (by omega) (by omega) (by omega) (by omega) (by omega)]
  show _ = ((accR s at_ r0 k * 64 + (s.get! (at_ + (k + 1))).toNat % 64 : Nat) : Int)
  omega
def rC (r : Int) (at_ n : Nat) (ok : Bool) : Array Value := #[.int .i32 r, .int .i64 at_, .int .i64 n, .bool ok]
/-- The code point at a place, as the reference has it. -/
def moreR (s : ByteArray) (at_ n r0 : Nat) : Nat × Nat × Bool :=
  if contB s (at_ + 1) n = true then
    if (n = 2 ∧ (accR s at_ r0 n < 2048 ∨ 55296 ≤ accR s at_ r0 n ∧ accR s at_ r0 n < 57344)) ∨ (n = 3 ∧ (accR s at_ r0 n < 65536 ∨ 1114111 < accR s at_ r0 n)) then (65533, 1, false) else (accR s at_ r0 n, n + 1, true)
  else (65533, 1, false)
def roneC (s : ByteArray) (at_ c : Nat) : Nat × Nat × Bool :=
  if c < 128 then (c, 1, true) else if 194 ≤ c ∧ c < 224 then moreR s at_ 1 (c % 32) else if 224 ≤ c ∧ c < 240 then moreR s at_ 2 (c % 16) else if 240 ≤ c ∧ c < 245 then moreR s at_ 3 (c % 8) else (65533, 1, false)
def roneR (s : ByteArray) (at_ : Nat) : Nat × Nat × Bool := roneC s at_ (s.get! at_).toNat
theorem mask_i32 (b : UInt8) (i : Nat) (hi : i ≤ 31) : bits BinOp.and IntKind.i32 (b.toNat : Int) (2 ^ i - 1) = ((b.toNat % 2 ^ i : Nat) : Int) := by
  have := b.toNat_lt
  rw [bits_mask .i32 31 (by decide) wraps_i32 i hi _ (by omega) (by omega)]
  simp
set_option maxRecDepth 100000 in
set_option maxHeartbeats 4000000 in
theorem rone_a (s : ByteArray) (at_ : Nat) (hs : s.size ≤ 1000000) (ha : at_ < s.size) (w : World) (c1 : (s[at_]).toNat < 128) :
    Calls Tryd.prog 166 #[.string s, .int .i64 at_] w fun e w' => e = .returned (.agg (rC (roneR s at_).1 at_ (roneR s at_).2.1 (roneR s at_).2.2)) ∧ Ext w w' := by
  have d1 : decide (((s[at_]).toNat : Int) < 128) = true := by simp; omega
  have e : roneR s at_ = ((s[at_]).toNat, 1, true) := by unfold roneR roneC; rw [get_bang ha, if_pos c1]
  rw [e]
  clear e
  go_enter Tryd.func166, Tryd.ntmps166
  go_wp2_with fail
  refine bodyPost_ret (v := .agg #[.int .i32 (s[at_]).toNat, .int .i64 at_, .int .i64 1, .bool true]) ?_ rfl ⟨rfl, ((Ext.refl w).alloc _).alloc _⟩
  simp [results, Tryd.results166, go_sem]
set_option maxRecDepth 100000 in
set_option maxHeartbeats 4000000 in
theorem rone_b (s : ByteArray) (at_ : Nat) (hs : s.size ≤ 1000000) (ha : at_ < s.size) (w : World) (c1 : ¬ (s[at_]).toNat < 128) (c2 : 194 ≤ (s[at_]).toNat ∧ (s[at_]).toNat < 224) :
    Calls Tryd.prog 166 #[.string s, .int .i64 at_] w fun e w' => e = .returned (.agg (rC (roneR s at_).1 at_ (roneR s at_).2.1 (roneR s at_).2.2)) ∧ Ext w w' := by
  have d0 : decide (((s[at_]).toNat : Int) < 128) = false := by simp; omega
  have d1 : decide (194 ≤ ((s[at_]).toNat : Int)) = true := by simp; omega
  have d2 : decide (((s[at_]).toNat : Int) < 224) = true := by simp; omega
  have m : bits BinOp.and IntKind.i32 ((s[at_]).toNat : Int) 31 = (((s[at_]).toNat % 32 : Nat) : Int) := mask_i32 _ 5 (by decide)
  obtain ⟨r0, hr0⟩ : ∃ r0, r0 = (s[at_]).toNat % 32 := ⟨_, rfl⟩
  rw [← hr0] at m
  have hr : r0 < 32 := by omega
  have e : roneR s at_ = moreR s at_ 1 r0 := by
    unfold roneR roneC
    rw [get_bang ha, ← hr0, if_neg c1, if_pos c2]
  have HE := Lib.hid e
  clear e hr0
  go_enter Tryd.func166, Tryd.ntmps166
  go_wp2_with fail
  refine (cont_any s (at_ + 1) 1 hs (by omega) (by omega) _).mono ?_
  rintro e w1 ⟨rfl, rfl⟩
  cases hc : contB s (at_ + 1) 1
  · have e : Hid (roneR s at_ = (65533, 1, false)) := by rw [HE.out]; unfold moreR; rw [hc]; rfl
    clear HE
    go_wp2_with fail
    refine bodyPost_ret (v := .agg #[.int .i32 65533, .int .i64 at_, .int .i64 1, .bool false]) ?_ rfl ⟨by rw [e.out]; rfl, ((Ext.refl w).alloc _).alloc _⟩
    simp [results, Tryd.results166, go_sem]
  · have hsz : at_ + 1 + 1 ≤ s.size := by
      unfold contB at hc
      rw [Bool.and_eq_true] at hc
      simpa using hc.1
    have HE2 : Hid (roneR s at_ = if (1 = 2 ∧ (accR s at_ r0 1 < 2048 ∨ 55296 ≤ accR s at_ r0 1 ∧ accR s at_ r0 1 < 57344)) ∨ (1 = 3 ∧ (accR s at_ r0 1 < 65536 ∨ 1114111 < accR s at_ r0 1)) then (65533, 1, false) else (accR s at_ r0 1, 1 + 1, true)) := by have := HE.out; unfold moreR at this; rw [if_pos hc] at this; exact this
    clear HE hc
    go_wp2_with fail
    go_loopw [8, 9] (fun r i wr => ∃ k : Nat, k ≤ 1 ∧ i = .int .i64 ((k : Int) + 1) ∧ r = .int .i32 (accR s at_ r0 k : Nat) ∧ wr = ((w.alloc (.cells #[.int .i32 0, .int .i64 0, .int .i64 0, .bool false] 199)).alloc (.cells #[.int .i32 65533, .int .i64 at_, .int .i64 1, .bool false] 199))) (fun _ i _ => 1 + 1 - (intOf i).toNat)
    case atStart => exact ⟨0, Nat.zero_le _, rfl, rfl, rfl⟩
    case round =>
      obtain ⟨k, hk, rfl, rfl, rfl⟩ := hrel
      by_cases hlt : k < 1
      · have t1 : decide ((k : Int) + 1 ≤ 1) = true := by simp; omega
        have t2 := accR_one s at_ r0 k hr (by omega)
        rw [get_bang (show at_ + (k + 1) < s.size by omega)] at t2
        go_wp2_with fail
        go_roundw
        case rel => exact ⟨k + 1, by omega, by go_num, rfl, trivial⟩
        case measure => simp [intOf] <;> omega
      · have t1 : decide ((k : Int) + 1 ≤ 1) = false := by simp; omega
        obtain rfl : k = 1 := by omega
        obtain ⟨R, hR⟩ : ∃ R, R = accR s at_ r0 1 := ⟨_, rfl⟩
        rw [← hR] at HE2 ⊢
        clear hR
        go_wp2_with fail
        refine bodyPost_ret (v := .agg #[.int .i32 R, .int .i64 at_, .int .i64 2, .bool true]) ?_ rfl ⟨by rw [HE2.out, if_neg (by omega)]; rfl, ((Ext.refl w).alloc _).alloc _⟩
        simp [results, Tryd.results166, go_sem]
set_option maxRecDepth 100000 in
set_option maxHeartbeats 4000000 in
theorem rone_c (s : ByteArray) (at_ : Nat) (hs : s.size ≤ 1000000) (ha : at_ < s.size) (w : World) (c1 : ¬ (s[at_]).toNat < 128) (c2 : ¬ (194 ≤ (s[at_]).toNat ∧ (s[at_]).toNat < 224)) (c3 : 224 ≤ (s[at_]).toNat ∧ (s[at_]).toNat < 240) :
    Calls Tryd.prog 166 #[.string s, .int .i64 at_] w fun e w' => e = .returned (.agg (rC (roneR s at_).1 at_ (roneR s at_).2.1 (roneR s at_).2.2)) ∧ Ext w w' := by
  have d0 : decide (((s[at_]).toNat : Int) < 128) = false := by simp; omega
  have d1 : decide (194 ≤ ((s[at_]).toNat : Int)) = true := by simp; omega
  have d2 : decide (((s[at_]).toNat : Int) < 224) = false := by simp; omega
  have d3 : decide (224 ≤ ((s[at_]).toNat : Int)) = true := by simp; omega
  have d4 : decide (((s[at_]).toNat : Int) < 240) = true := by simp; omega
  have m : bits BinOp.and IntKind.i32 ((s[at_]).toNat : Int) 15 = (((s[at_]).toNat % 16 : Nat) : Int) := mask_i32 _ 4 (by decide)
  obtain ⟨r0, hr0⟩ : ∃ r0, r0 = (s[at_]).toNat % 16 := ⟨_, rfl⟩
  rw [← hr0] at m
  have hr : r0 < 32 := by omega
  have e : roneR s at_ = moreR s at_ 2 r0 := by
    unfold roneR roneC
    rw [get_bang ha, ← hr0, if_neg c1, if_neg c2, if_pos c3]
  have HE := Lib.hid e
  clear e hr0
  go_enter Tryd.func166, Tryd.ntmps166
  go_wp2_with fail
  refine (cont_any s (at_ + 1) 2 hs (by omega) (by omega) _).mono ?_
  rintro e w1 ⟨rfl, rfl⟩
  cases hc : contB s (at_ + 1) 2
  · have e : Hid (roneR s at_ = (65533, 1, false)) := by rw [HE.out]; unfold moreR; rw [hc]; rfl
    clear HE
    go_wp2_with fail
    refine bodyPost_ret (v := .agg #[.int .i32 65533, .int .i64 at_, .int .i64 1, .bool false]) ?_ rfl ⟨by rw [e.out]; rfl, ((Ext.refl w).alloc _).alloc _⟩
    simp [results, Tryd.results166, go_sem]
  · have hsz : at_ + 1 + 2 ≤ s.size := by
      unfold contB at hc
      rw [Bool.and_eq_true] at hc
      simpa using hc.1
    have HE2 : Hid (roneR s at_ = if (2 = 2 ∧ (accR s at_ r0 2 < 2048 ∨ 55296 ≤ accR s at_ r0 2 ∧ accR s at_ r0 2 < 57344)) ∨ (2 = 3 ∧ (accR s at_ r0 2 < 65536 ∨ 1114111 < accR s at_ r0 2)) then (65533, 1, false) else (accR s at_ r0 2, 2 + 1, true)) := by have := HE.out; unfold moreR at this; rw [if_pos hc] at this; exact this
    clear HE hc
    go_wp2_with fail
    go_loopw [8, 9] (fun r i wr => ∃ k : Nat, k ≤ 2 ∧ i = .int .i64 ((k : Int) + 1) ∧ r = .int .i32 (accR s at_ r0 k : Nat) ∧ wr = ((w.alloc (.cells #[.int .i32 0, .int .i64 0, .int .i64 0, .bool false] 199)).alloc (.cells #[.int .i32 65533, .int .i64 at_, .int .i64 1, .bool false] 199))) (fun _ i _ => 2 + 1 - (intOf i).toNat)
    case atStart => exact ⟨0, Nat.zero_le _, rfl, rfl, rfl⟩
    case round =>
      obtain ⟨k, hk, rfl, rfl, rfl⟩ := hrel
      by_cases hlt : k < 2
      · have t1 : decide ((k : Int) + 1 ≤ 2) = true := by simp; omega
        have t2 := accR_one s at_ r0 k hr (by omega)
        rw [get_bang (show at_ + (k + 1) < s.size by omega)] at t2
        go_wp2_with fail
        go_roundw
        case rel => exact ⟨k + 1, by omega, by go_num, rfl, trivial⟩
        case measure => simp [intOf] <;> omega
      · have t1 : decide ((k : Int) + 1 ≤ 2) = false := by simp; omega
        obtain rfl : k = 2 := by omega
        obtain ⟨R, hR⟩ : ∃ R, R = accR s at_ r0 2 := ⟨_, rfl⟩
        rw [← hR] at HE2 ⊢
        clear hR
        by_cases q1 : R < 2048
        · have p1 : decide ((R : Int) < 2048) = true := by simp; omega
          go_wp2_with fail
          refine bodyPost_ret (v := .agg #[.int .i32 65533, .int .i64 at_, .int .i64 1, .bool false]) ?_ rfl ⟨by rw [HE2.out, if_pos (.inl ⟨by trivial, .inl q1⟩)]; rfl, ((Ext.refl w).alloc _).alloc _⟩
          simp [results, Tryd.results166, go_sem]
        · have p1 : decide ((R : Int) < 2048) = false := by simp; omega
          by_cases q2 : 55296 ≤ R
          · have p2 : decide (55296 ≤ (R : Int)) = true := by simp; omega
            by_cases q3 : R < 57344
            · have p3 : decide ((R : Int) < 57344) = true := by simp; omega
              go_wp2_with fail
              refine bodyPost_ret (v := .agg #[.int .i32 65533, .int .i64 at_, .int .i64 1, .bool false]) ?_ rfl ⟨by rw [HE2.out, if_pos (.inl ⟨by trivial, .inr ⟨q2, q3⟩⟩)]; rfl, ((Ext.refl w).alloc _).alloc _⟩
              simp [results, Tryd.results166, go_sem]
            · have p3 : decide ((R : Int) < 57344) = false := by simp; omega
              go_wp2_with fail
              refine bodyPost_ret (v := .agg #[.int .i32 R, .int .i64 at_, .int .i64 3, .bool true]) ?_ rfl ⟨by rw [HE2.out, if_neg (by omega)]; rfl, ((Ext.refl w).alloc _).alloc _⟩
              simp [results, Tryd.results166, go_sem]
          · have p2 : decide (55296 ≤ (R : Int)) = false := by simp; omega
            go_wp2_with fail
            refine bodyPost_ret (v := .agg #[.int .i32 R, .int .i64 at_, .int .i64 3, .bool true]) ?_ rfl ⟨by rw [HE2.out, if_neg (by omega)]; rfl, ((Ext.refl w).alloc _).alloc _⟩
            simp [results, Tryd.results166, go_sem]
set_option maxRecDepth 100000 in
set_option maxHeartbeats 4000000 in
theorem rone_d (s : ByteArray) (at_ : Nat) (hs : s.size ≤ 1000000) (ha : at_ < s.size) (w : World) (c1 : ¬ (s[at_]).toNat < 128) (c2 : ¬ (194 ≤ (s[at_]).toNat ∧ (s[at_]).toNat < 224)) (c3 : ¬ (224 ≤ (s[at_]).toNat ∧ (s[at_]).toNat < 240)) (c4 : 240 ≤ (s[at_]).toNat ∧ (s[at_]).toNat < 245) :
    Calls Tryd.prog 166 #[.string s, .int .i64 at_] w fun e w' => e = .returned (.agg (rC (roneR s at_).1 at_ (roneR s at_).2.1 (roneR s at_).2.2)) ∧ Ext w w' := by
  have d0 : decide (((s[at_]).toNat : Int) < 128) = false := by simp; omega
  have d1 : decide (194 ≤ ((s[at_]).toNat : Int)) = true := by simp; omega
  have d2 : decide (((s[at_]).toNat : Int) < 224) = false := by simp; omega
  have d3 : decide (224 ≤ ((s[at_]).toNat : Int)) = true := by simp; omega
  have d4 : decide (((s[at_]).toNat : Int) < 240) = false := by simp; omega
  have d5 : decide (240 ≤ ((s[at_]).toNat : Int)) = true := by simp; omega
  have d6 : decide (((s[at_]).toNat : Int) < 245) = true := by simp; omega
  have m : bits BinOp.and IntKind.i32 ((s[at_]).toNat : Int) 7 = (((s[at_]).toNat % 8 : Nat) : Int) := mask_i32 _ 3 (by decide)
  obtain ⟨r0, hr0⟩ : ∃ r0, r0 = (s[at_]).toNat % 8 := ⟨_, rfl⟩
  rw [← hr0] at m
  have hr : r0 < 32 := by omega
  have e : roneR s at_ = moreR s at_ 3 r0 := by
    unfold roneR roneC
    rw [get_bang ha, ← hr0, if_neg c1, if_neg c2, if_neg c3, if_pos c4]
  have HE := Lib.hid e
  clear e hr0
  go_enter Tryd.func166, Tryd.ntmps166
  go_wp2_with fail
  refine (cont_any s (at_ + 1) 3 hs (by omega) (by omega) _).mono ?_
  rintro e w1 ⟨rfl, rfl⟩
  cases hc : contB s (at_ + 1) 3
  · have e : Hid (roneR s at_ = (65533, 1, false)) := by rw [HE.out]; unfold moreR; rw [hc]; rfl
    clear HE
    go_wp2_with fail
    refine bodyPost_ret (v := .agg #[.int .i32 65533, .int .i64 at_, .int .i64 1, .bool false]) ?_ rfl ⟨by rw [e.out]; rfl, ((Ext.refl w).alloc _).alloc _⟩
    simp [results, Tryd.results166, go_sem]
  · have hsz : at_ + 1 + 3 ≤ s.size := by
      unfold contB at hc
      rw [Bool.and_eq_true] at hc
      simpa using hc.1
    have HE2 : Hid (roneR s at_ = if (3 = 2 ∧ (accR s at_ r0 3 < 2048 ∨ 55296 ≤ accR s at_ r0 3 ∧ accR s at_ r0 3 < 57344)) ∨ (3 = 3 ∧ (accR s at_ r0 3 < 65536 ∨ 1114111 < accR s at_ r0 3)) then (65533, 1, false) else (accR s at_ r0 3, 3 + 1, true)) := by have := HE.out; unfold moreR at this; rw [if_pos hc] at this; exact this
    clear HE hc
    go_wp2_with fail
    go_loopw [8, 9] (fun r i wr => ∃ k : Nat, k ≤ 3 ∧ i = .int .i64 ((k : Int) + 1) ∧ r = .int .i32 (accR s at_ r0 k : Nat) ∧ wr = ((w.alloc (.cells #[.int .i32 0, .int .i64 0, .int .i64 0, .bool false] 199)).alloc (.cells #[.int .i32 65533, .int .i64 at_, .int .i64 1, .bool false] 199))) (fun _ i _ => 3 + 1 - (intOf i).toNat)
    case atStart => exact ⟨0, Nat.zero_le _, rfl, rfl, rfl⟩
    case round =>
      obtain ⟨k, hk, rfl, rfl, rfl⟩ := hrel
      by_cases hlt : k < 3
      · have t1 : decide ((k : Int) + 1 ≤ 3) = true := by simp; omega
        have t2 := accR_one s at_ r0 k hr (by omega)
        rw [get_bang (show at_ + (k + 1) < s.size by omega)] at t2
        go_wp2_with fail
        go_roundw
        case rel => exact ⟨k + 1, by omega, by go_num, rfl, trivial⟩
        case measure => simp [intOf] <;> omega
      · have t1 : decide ((k : Int) + 1 ≤ 3) = false := by simp; omega
        obtain rfl : k = 3 := by omega
        obtain ⟨R, hR⟩ : ∃ R, R = accR s at_ r0 3 := ⟨_, rfl⟩
        rw [← hR] at HE2 ⊢
        clear hR
        by_cases q1 : R < 65536
        · have p1 : decide ((R : Int) < 65536) = true := by simp; omega
          go_wp2_with fail
          refine bodyPost_ret (v := .agg #[.int .i32 65533, .int .i64 at_, .int .i64 1, .bool false]) ?_ rfl ⟨by rw [HE2.out, if_pos (.inr ⟨by trivial, .inl q1⟩)]; rfl, ((Ext.refl w).alloc _).alloc _⟩
          simp [results, Tryd.results166, go_sem]
        · have p1 : decide ((R : Int) < 65536) = false := by simp; omega
          by_cases q2 : 1114111 < R
          · have p2 : decide (1114111 < (R : Int)) = true := by simp; omega
            go_wp2_with fail
            refine bodyPost_ret (v := .agg #[.int .i32 65533, .int .i64 at_, .int .i64 1, .bool false]) ?_ rfl ⟨by rw [HE2.out, if_pos (.inr ⟨by trivial, .inr q2⟩)]; rfl, ((Ext.refl w).alloc _).alloc _⟩
            simp [results, Tryd.results166, go_sem]
          · have p2 : decide (1114111 < (R : Int)) = false := by simp; omega
            go_wp2_with fail
            refine bodyPost_ret (v := .agg #[.int .i32 R, .int .i64 at_, .int .i64 4, .bool true]) ?_ rfl ⟨by rw [HE2.out, if_neg (by omega)]; rfl, ((Ext.refl w).alloc _).alloc _⟩
            simp [results, Tryd.results166, go_sem]
set_option maxRecDepth 100000 in
set_option maxHeartbeats 4000000 in
theorem rone_e (s : ByteArray) (at_ : Nat) (hs : s.size ≤ 1000000) (ha : at_ < s.size) (w : World) (c1 : ¬ (s[at_]).toNat < 128) (c2 : ¬ (194 ≤ (s[at_]).toNat ∧ (s[at_]).toNat < 224)) (c3 : ¬ (224 ≤ (s[at_]).toNat ∧ (s[at_]).toNat < 240)) (c4 : ¬ (240 ≤ (s[at_]).toNat ∧ (s[at_]).toNat < 245)) :
    Calls Tryd.prog 166 #[.string s, .int .i64 at_] w fun e w' => e = .returned (.agg (rC (roneR s at_).1 at_ (roneR s at_).2.1 (roneR s at_).2.2)) ∧ Ext w w' := by
  have e : Hid (roneR s at_ = (65533, 1, false)) := by
    show roneR s at_ = _
    unfold roneR roneC
    rw [get_bang ha, if_neg c1, if_neg c2, if_neg c3, if_neg c4]
  by_cases c5 : (s[at_]).toNat < 194
  · have _x := c5
    have d0 : decide (((s[at_]).toNat : Int) < 128) = false := by simp; omega
    have d1 : decide (194 ≤ ((s[at_]).toNat : Int)) = false := by simp; omega
    have d2 : decide (224 ≤ ((s[at_]).toNat : Int)) = false := by simp; omega
    have d3 : decide (240 ≤ ((s[at_]).toNat : Int)) = false := by simp; omega
    go_enter Tryd.func166, Tryd.ntmps166
    go_wp2_with fail
    refine bodyPost_ret (v := .agg #[.int .i32 65533, .int .i64 at_, .int .i64 1, .bool false]) ?_ rfl ⟨by rw [e.out]; rfl, ((Ext.refl w).alloc _).alloc _⟩
    simp [results, Tryd.results166, go_sem]
  · have hub : ((s[at_]).toNat : Int) < 256 := by have := (s[at_]).toNat_lt; omega
    have d0 : decide (((s[at_]).toNat : Int) < 128) = false := by simp; omega
    have d1 : decide (194 ≤ ((s[at_]).toNat : Int)) = true := by simp; omega
    have d2 : decide (((s[at_]).toNat : Int) < 224) = false := by simp; omega
    have d3 : decide (224 ≤ ((s[at_]).toNat : Int)) = true := by simp; omega
    have d4 : decide (((s[at_]).toNat : Int) < 240) = false := by simp; omega
    have d5 : decide (240 ≤ ((s[at_]).toNat : Int)) = true := by simp; omega
    have d6 : decide (((s[at_]).toNat : Int) < 245) = false := by simp; omega
    go_enter Tryd.func166, Tryd.ntmps166
    go_wp2_with fail
    refine bodyPost_ret (v := .agg #[.int .i32 65533, .int .i64 at_, .int .i64 1, .bool false]) ?_ rfl ⟨by rw [e.out]; rfl, ((Ext.refl w).alloc _).alloc _⟩
    simp [results, Tryd.results166, go_sem]
set_option maxRecDepth 100000 in
set_option maxHeartbeats 4000000 in
theorem rone_any (s : ByteArray) (at_ : Nat) (hs : s.size ≤ 1000000) (ha : at_ < s.size) (w : World) :
    Calls Tryd.prog 166 #[.string s, .int .i64 at_] w fun e w' => e = .returned (.agg (rC (roneR s at_).1 at_ (roneR s at_).2.1 (roneR s at_).2.2)) ∧ Ext w w' := by
  by_cases c1 : (s[at_]).toNat < 128
  · exact rone_a s at_ hs ha w c1
  by_cases c2 : 194 ≤ (s[at_]).toNat ∧ (s[at_]).toNat < 224
  · exact rone_b s at_ hs ha w c1 c2
  by_cases c3 : 224 ≤ (s[at_]).toNat ∧ (s[at_]).toNat < 240
  · exact rone_c s at_ hs ha w c1 c2 c3
  by_cases c4 : 240 ≤ (s[at_]).toNat ∧ (s[at_]).toNat < 245
  · exact rone_d s at_ hs ha w c1 c2 c3 c4
  exact rone_e s at_ hs ha w c1 c2 c3 c4
end Go.Proofs.YtcmgeccgahakbaaDoor

/- The reference's code points: All, Letter, Name. -/
namespace Go.Proofs.YtcmgeccgahakbaaDoor
open Go Go.RowKit
attribute [local go_sem] yields yUpon

structure Rn where
  r : Nat
  at_ : Nat
  n : Nat
  ok : Bool
def rn4 (x : Rn) : Array Value := #[.int .i32 x.r, .int .i64 x.at_, .int .i64 x.n, .bool x.ok]
attribute [local go_sem] rn4
def rnCells : List Rn → List Value
  | [] => []
  | x :: l => .int .i32 x.r :: .int .i64 x.at_ :: .int .i64 x.n :: .bool x.ok :: rnCells l
theorem rnCells_append (l m : List Rn) : rnCells (l ++ m) = rnCells l ++ rnCells m := by
  induction l with
  | nil => rfl
  | cons c l ih => simp [rnCells, ih]
theorem rnCells_get : ∀ (l : List Rn) (k : Nat) (h : k < l.length), (rnCells l)[k * 4]? = some (.int .i32 l[k].r) ∧ (rnCells l)[k * 4 + 1]? = some (.int .i64 l[k].at_) ∧ (rnCells l)[k * 4 + 2]? = some (.int .i64 l[k].n) ∧ (rnCells l)[k * 4 + 3]? = some (.bool l[k].ok)
  | c :: l, 0, _ => by simp [rnCells]
  | c :: l, k + 1, h => by
    have ih := rnCells_get l k (by simpa using h)
    have e : (k + 1) * 4 = k * 4 + 4 := by omega
    simp only [e, rnCells, List.getElem_cons_succ]
    simpa using ih
theorem info_Rn : (Tryd.prog.info? 199).map (fun i => (i.zero, i.size, i.bytes)) = some (some (.agg #[.int .i32 0, .int .i64 0, .int .i64 0, .bool false]), 4, 32) := by kernel_rfl
theorem und_Rns : Tryd.prog.underlying 195 = some (.slice 199) := by kernel_rfl
def rnOf (s : ByteArray) (at_ : Nat) : Rn := ⟨(roneR s at_).1, at_, (roneR s at_).2.1, (roneR s at_).2.2⟩
def rsF (s : ByteArray) : Nat → Nat → List Rn
  | 0, _ => []
  | f + 1, at_ => if at_ < s.size then rnOf s at_ :: rsF s f (at_ + (rnOf s at_).n) else []
def rsAll (s : ByteArray) : List Rn := rsF s s.size 0
theorem rsF_end (s : ByteArray) (f k : Nat) (h : s.size ≤ k) : rsF s f k = [] := by
  cases f with
  | zero => rfl
  | succ f => unfold rsF; rw [if_neg (by omega)]
theorem more_size (s : ByteArray) (at_ n r0 : Nat) (ha : at_ < s.size) : 1 ≤ (moreR s at_ n r0).2.1 ∧ at_ + (moreR s at_ n r0).2.1 ≤ s.size := by
  unfold moreR
  split
  · rename_i h
    unfold contB at h
    rw [Bool.and_eq_true] at h
    have : at_ + 1 + n ≤ s.size := by simpa using h.1
    split
    · exact ⟨Nat.le_refl _, ha⟩
    · exact ⟨by show 1 ≤ n + 1; omega, by show at_ + (n + 1) ≤ _; omega⟩
  · exact ⟨Nat.le_refl _, ha⟩
theorem rone_size (s : ByteArray) (at_ : Nat) (ha : at_ < s.size) : 1 ≤ (rnOf s at_).n ∧ at_ + (rnOf s at_).n ≤ s.size := by
  show 1 ≤ (roneR s at_).2.1 ∧ at_ + (roneR s at_).2.1 ≤ s.size
  unfold roneR roneC
  split
  · exact ⟨Nat.le_refl _, ha⟩
  · split
    · exact more_size s at_ 1 _ ha
    · split
      · exact more_size s at_ 2 _ ha
      · split
        · exact more_size s at_ 3 _ ha
        · exact ⟨Nat.le_refl _, ha⟩

theorem BoxAt.rn {w : World} {p : Nat} {x : Rn} {T : TypeId} (h : BoxAt w p (rn4 x) T) : w.cell? ⟨p, 0, none⟩ = some (.int .i32 x.r) ∧ w.cell? ⟨p, 1, none⟩ = some (.int .i64 x.at_) ∧ w.cell? ⟨p, 2, none⟩ = some (.int .i64 x.n) ∧ w.cell? ⟨p, 3, none⟩ = some (.bool x.ok) := ⟨h.cell 0, h.cell 1, h.cell 2, h.cell 3⟩

set_option maxRecDepth 100000 in
set_option maxHeartbeats 4000000 in
theorem all_any (s : ByteArray) (hs : s.size ≤ 1000000) (w : World) :
    Calls Tryd.prog 154 #[.string s] w fun e w' => ∃ v, e = .returned v ∧ w'.ownsRow w.heap.size 199 4 v (rsAll s).length (rnCells (rsAll s)) ∧ Ext w w' := by
  obtain ⟨n, hn⟩ : ∃ n, n = s.size := ⟨_, rfl⟩
  have HN := Lib.hid hn
  rw [← hn] at hs
  have hk1 : (s.size : Int) = (n : Int) := by rw [hn]
  go_enter Tryd.func154, Tryd.ntmps154
  go_wp2
  go_loopw [3, 4] (fun v i wr => ∃ (k f : Nat) (L : List Rn), k ≤ n ∧ n ≤ k + f ∧ i = .int .i64 k ∧ Ext w wr ∧ L.length ≤ k ∧ wr.ownsRow w.heap.size 199 4 v L.length (rnCells L) ∧ Hid (rsAll s = L ++ rsF s f k)) (fun _ i _ => n - (intOf i).toNat)
  case atStart => exact ⟨0, n, [], Nat.zero_le _, by omega, rfl, Ext.refl w, Nat.le_refl _, World.ownsRow_nil _ _ _ _, by show rsAll s = _; rw [List.nil_append, hn]; rfl⟩
  case round =>
    obtain ⟨k, f, L, hk, hf, rfl, hE, hL, hown, HX⟩ := hrel
    by_cases hlt : k < n
    · obtain ⟨f, rfl⟩ : ∃ f', f = f' + 1 := ⟨f - 1, by omega⟩
      have hsz := rone_size s k (by omega)
      have hX : rsAll s = (L ++ [rnOf s k]) ++ rsF s f (k + (rnOf s k).n) := by
        rw [HX.out]
        conv => lhs; unfold rsF
        rw [if_pos (by omega), List.append_assoc]
        rfl
      have hone := rone_any s k (by omega) (by omega)
      obtain ⟨M, hM⟩ : ∃ M, M = rnOf s k := ⟨_, rfl⟩
      have hone : ∀ w, Calls Tryd.prog 166 #[.string s, .int .i64 k] w fun e w' => e = .returned (.agg #[.int .i32 M.r, .int .i64 k, .int .i64 M.n, .bool M.ok]) ∧ Ext w w' := by rw [hM]; exact hone
      rw [← hM] at hX hsz
      have HX2 := Lib.hid hX
      have HO := Lib.hid hone
      have hki : decide ((k : Int) < (n : Int)) = true := by simpa using hlt
      have HKA : Hid (M.at_ = k) := by show M.at_ = k; rw [hM]; rfl
      clear hX HX hM hone
      go_wp2_with fail
      refine (HO.out wr).mono ?_
      rintro e w1 ⟨rfl, hE1⟩
      replace hown := ownsRow_ext hown hE1
      replace hE := hE.trans hE1
      obtain ⟨w2, hw2⟩ : ∃ w2, w2 = w1.alloc (.cells (rn4 ⟨M.r, k, M.n, M.ok⟩) 199) := ⟨_, rfl⟩
      have c2 : BoxAt w2 w1.heap.size (rn4 ⟨M.r, k, M.n, M.ok⟩) 199 := by rw [hw2]; exact BoxAt.made w1 _ _
      have hX2 : Ext w1 w2 := by rw [hw2]; exact (Ext.refl w1).alloc _
      have hown2 := ownsRow_ext hown hX2
      have hl2 : w.heap.size ≤ w2.heap.size := by have := hE.le; have := c2.lt; omega
      have hE2 := hE.trans hX2
      have hsz2 : w2.heap.size = w1.heap.size + 1 := by rw [hw2]; exact Deep.nblk_alloc _ _
      have HW2 : Hid (w2 = w1.alloc (.cells #[.int .i32 M.r, .int .i64 k, .int .i64 M.n, .bool M.ok] 199)) := hw2
      clear hw2
      go_wp2_with (at_builtin; rw [← HW2.out]; go_must (refine appR info_Rn und_Rns rfl (by decide) w2 rfl (.tmp 13) (.tmp 15) rfl w.heap.size hl2 _ _ _ hown2 rfl 1 _ (by rw [hsz2]; rfl) rfl (by simp [Value.oneCell']) (by unfold maxLen; omega) (by omega) ?_); intro m3 w3 hown3 hg3; obtain ⟨d0, d1, d2, d3⟩ := (((BoxAt.ext ((Ext.refl w2).alloc _) c2).grown hg3 (fun h => by have := (hown.lt _ h.symm).2; omega)).rn); have hE3 := (hE2.alloc _).grown hg3 (fun q hq => by have := (hown2.lt q hq).1; omega))
      go_roundw
      case rel => exact ⟨k + M.n, f, L ++ [M], by omega, by omega, by go_num, hE3, by simp; omega, by rw [rnCells_append, List.length_append, show rnCells [M] = [.int .i32 M.r, .int .i64 k, .int .i64 M.n, .bool M.ok] by unfold rnCells; rw [HKA.out]; rfl]; exact hown3, HX2.out⟩
      case measure => simp [intOf] <;> omega
    · obtain rfl : k = n := by omega
      have hki : decide ((k : Int) < (k : Int)) = false := by simp
      have e : rsAll s = L := by rw [HX.out, rsF_end s f k (by omega), List.append_nil]
      go_wp2_with fail
      go_ret
      exact ⟨_, rfl, by rw [e]; exact hown, hE⟩

set_option maxRecDepth 100000 in
set_option maxHeartbeats 2000000 in
theorem letter_any (x : Rn) (w : World) :
    Calls Tryd.prog 155 #[.agg #[.int .i32 x.r, .int .i64 x.at_, .int .i64 x.n, .bool x.ok]] w fun e w' => e = .returned (.bool (x.ok && ((decide (97 ≤ x.r) && decide (x.r ≤ 122)) || x.r == 95 || decide (128 ≤ x.r)))) ∧ Ext w w' := by
  obtain ⟨r, a, n, ok⟩ := x
  cases ok
  · go_enter Tryd.func155, Tryd.ntmps155
    go_wp2
    go_ret
    exact ⟨rfl, (Ext.refl w).alloc _⟩
  · go_enter Tryd.func155, Tryd.ntmps155
    go_wp2
    all_goals
      go_ret
      refine ⟨ret_bool ?_, (Ext.refl w).alloc _⟩
      rw [Bool.eq_iff_iff]
      simp
      try omega

def letB (x : Rn) : Bool := x.ok && ((decide (97 ≤ x.r) && decide (x.r ≤ 122)) || x.r == 95 || decide (128 ≤ x.r))
def okN (i : Nat) (x : Rn) : Bool := letB x || (!decide (i = 0) && (decide (48 ≤ x.r) && decide (x.r ≤ 57)))
def nmLoop : Nat → List Rn → Bool
  | _, [] => true
  | i, x :: l => okN i x && nmLoop (i + 1) l
/-- Is a text a name? -/
def nameB (s : ByteArray) : Bool := nmLoop 0 (rsAll s) && (decide (1 ≤ s.size) && decide (s.size ≤ 100))
theorem rs_len (s : ByteArray) : ∀ f k, k ≤ s.size → (rsF s f k).length ≤ s.size - k
  | 0, k, _ => Nat.zero_le _
  | f + 1, k, hk => by
    unfold rsF
    split
    · rename_i h
      have h1 := rone_size s k h
      have := rs_len s f (k + (rnOf s k).n) h1.2
      simp only [List.length_cons]
      omega
    · exact Nat.zero_le _

set_option maxRecDepth 100000 in
set_option maxHeartbeats 4000000 in
theorem rname_any (s : ByteArray) (hs : s.size ≤ 1000000) (w : World) :
    Calls Tryd.prog 125 #[.string s] w fun e w' => e = .returned (.bool (nameB s)) ∧ Ext w w' := by
  obtain ⟨z, hz⟩ : ∃ z, z = s.size := ⟨_, rfl⟩
  have hzi : (s.size : Int) = (z : Int) := by rw [hz]
  have HZ := Lib.hid hz
  rw [← hz] at hs
  clear hz
  go_enter Tryd.func125, Tryd.ntmps125
  go_wp2_with fail
  refine (all_any s (by rw [← HZ.out]; exact hs) w).mono ?_
  rintro e w1 ⟨v, rfl, hown, hE1⟩
  obtain ⟨l, hl⟩ : ∃ l, l = rsAll s := ⟨_, rfl⟩
  have hlen : l.length ≤ 1000000 := by
    have := rs_len s s.size 0 (Nat.zero_le _)
    have h2 := HZ.out
    rw [hl]
    unfold rsAll
    omega
  rw [← hl] at hown
  have HL := Lib.hid hl
  clear hl
  have hin := SliceIn.of_owns hown
  obtain ⟨a, c, rfl, hc, hcm, ha, hcell⟩ := hin
  obtain ⟨n, hn⟩ : ∃ n, n = l.length := ⟨_, rfl⟩
  rw [← hn] at hc hlen ⊢
  unfold maxLen at hcm
  have HN := Lib.hid hn
  have HC : Hid (∀ k (h : k < l.length), ∃ b o, a = some ⟨b, o, none⟩ ∧ w1.cell? ⟨b, o + k * 4, none⟩ = some (.int .i32 l[k].r) ∧ w1.cell? ⟨b, o + k * 4 + 1, none⟩ = some (.int .i64 l[k].at_) ∧ w1.cell? ⟨b, o + k * 4 + 2, none⟩ = some (.int .i64 l[k].n) ∧ w1.cell? ⟨b, o + k * 4 + 3, none⟩ = some (.bool l[k].ok)) := by
    intro k h
    obtain ⟨g0, g1, g2, g3⟩ := rnCells_get l k h
    obtain ⟨b, o, rfl, h0⟩ := hcell _ _ g0
    obtain ⟨b1, o1, e1, h1⟩ := hcell _ _ g1
    obtain ⟨b2, o2, e2, h2⟩ := hcell _ _ g2
    obtain ⟨b3, o3, e3, h3⟩ := hcell _ _ g3
    cases e1; cases e2; cases e3
    exact ⟨b, o, rfl, h0, h1, h2, h3⟩
  clear hcell ha hown hn
  go_wp2
  go_loopw [4] (fun i wr => ∃ k : Nat, k ≤ n ∧ i = .int .i64 k ∧ Ext w1 wr ∧ Hid (nmLoop 0 l = nmLoop k (l.drop k))) (fun i _ => n - (intOf i).toNat)
  case atStart => exact ⟨0, Nat.zero_le _, rfl, Ext.refl w1, rfl⟩
  case round =>
    obtain ⟨k, hk, rfl, hE, HX⟩ := hrel
    by_cases hlt : k < n
    · have hkn : k < l.length := by rw [← HN.out]; exact hlt
      obtain ⟨b, o, rfl, h0, h1, h2, h3⟩ := HC.out k hkn
      have hD : nmLoop 0 l = (okN k l[k] && nmLoop (k + 1) (l.drop (k + 1))) := by rw [HX.out, List.drop_eq_getElem_cons hkn]; rfl
      obtain ⟨M, hM⟩ : ∃ M, M = l[k] := ⟨_, rfl⟩
      rw [← hM] at h0 h1 h2 h3 hD
      replace h0 := hE.cell h0
      replace h1 := hE.cell h1
      replace h2 := hE.cell h2
      replace h3 := hE.cell h3
      have HD := Lib.hid hD
      clear hM hD HX
      have hki : decide ((k : Int) < (n : Int)) = true := by simpa using hlt
      go_wp2_with fail
      refine (letter_any M wr).mono ?_
      obtain ⟨B, hB⟩ : ∃ B, B = letB M := ⟨_, rfl⟩
      rintro e w2 ⟨he, hE2⟩
      have he2 : e = .returned (.bool B) := by rw [hB]; exact he
      subst he2
      have HB := Lib.hid hB
      clear he hB
      replace h0 := hE2.cell h0
      replace hE := hE.trans hE2
      clear hE2 h1 h2 h3
      have BAD : okN k M = false → Hid (false = nameB s) := fun h => by
        show false = nameB s
        unfold nameB
        rw [← HL.out, HD.out, h]
        rfl
      have FIN : okN k M = true → Hid (nmLoop 0 l = nmLoop (k + 1) (l.drop (k + 1))) := fun h => by
        show nmLoop 0 l = _
        rw [HD.out, h]
        rfl
      cases B
      · have hok : okN k M = (!decide (k = 0) && (decide (48 ≤ M.r) && decide (M.r ≤ 57))) := by unfold okN; rw [← HB.out]; rfl
        by_cases hk0 : k = 0
        · have HF := BAD (by rw [hok, hk0]; rfl)
          clear hok BAD FIN
          subst hk0
          go_wp2_with fail
          go_ret
          exact ⟨ret_bool HF.out, hE1.trans hE⟩
        · have t0 : (((k : Int)) == 0) = false := by simp; omega
          by_cases h48 : M.r < 48
          · have HF := BAD (by rw [hok]; simp; omega)
            have t1 : decide ((M.r : Int) < 48) = true := by simp; omega
            clear hok BAD FIN
            go_wp2_with fail
            go_ret
            exact ⟨ret_bool HF.out, hE1.trans hE⟩
          · by_cases h57 : 57 < M.r
            · have HF := BAD (by rw [hok]; simp; omega)
              have t1 : decide ((M.r : Int) < 48) = false := by simp; omega
              have t2 : decide (57 < (M.r : Int)) = true := by simp; omega
              clear hok BAD FIN
              go_wp2_with fail
              go_ret
              exact ⟨ret_bool HF.out, hE1.trans hE⟩
            · have HF := FIN (by rw [hok]; simp; omega)
              have t1 : decide ((M.r : Int) < 48) = false := by simp; omega
              have t2 : decide (57 < (M.r : Int)) = false := by simp; omega
              clear hok BAD FIN
              go_wp2_with fail
              go_roundw
              case rel => exact ⟨k + 1, by omega, by go_num, hE, HF⟩
              case measure => simp [intOf] <;> omega
      · have HF := FIN (by unfold okN; rw [← HB.out]; rfl)
        clear BAD FIN
        go_wp2_with fail
        go_roundw
        case rel => exact ⟨k + 1, by omega, by go_num, hE, HF⟩
        case measure => simp [intOf] <;> omega
    · obtain rfl : k = n := by omega
      have hki : decide ((k : Int) < (k : Int)) = false := by simp
      have e1 : Hid (nmLoop 0 (rsAll s) = true) := by
        show nmLoop 0 (rsAll s) = true
        rw [← HL.out, HX.out, List.drop_eq_nil_of_le (by have := HN.out; omega)]
        rfl
      have e2 : Hid (nameB s = (decide (1 ≤ z) && decide (z ≤ 100))) := by
        show nameB s = _
        unfold nameB
        rw [e1.out, HZ.out]
        rfl
      clear HX e1
      by_cases z1 : 1 ≤ z
      · have t1 : decide (1 ≤ (z : Int)) = true := by simp; omega
        go_wp2_with fail
        go_ret
        exact ⟨ret_bool (by rw [e2.out, Bool.eq_iff_iff]; simp; omega), hE1.trans hE⟩
      · have t1 : decide (1 ≤ (z : Int)) = false := by simp; omega
        go_wp2_with fail
        go_ret
        exact ⟨ret_bool (by rw [e2.out, Bool.eq_iff_iff]; simp; omega), hE1.trans hE⟩
end Go.Proofs.YtcmgeccgahakbaaDoor

/- The reference's code points are the model's (plain law). -/
namespace Go.Proofs.YtcmgeccgahakbaaDoor
open Go Go.RowKit Go.Lib

theorem contB_eq (s : ByteArray) (a n : Nat) : contB s a n = true ↔ a + n ≤ s.size ∧ ∀ i, i < n → (s.get! (a + i)).toNat / 64 = 2 := by
  unfold contB goesOn
  rw [Bool.and_eq_true, decide_eq_true_eq, List.all_eq_true]
  constructor
  · rintro ⟨h1, h2⟩
    exact ⟨h1, fun i hi => by have := h2 i (by simpa using hi); simpa using this⟩
  · rintro ⟨h1, h2⟩
    exact ⟨h1, fun i hi => by have := h2 i (by simpa using hi); simpa using this⟩
section
variable (s : ByteArray) (a r0 : Nat)
theorem cont1 (ha : a < s.size) : contB s (a + 1) 1 = true ↔ 1 < s.size - a ∧ (s.get! (a + 1)).toNat / 64 = 2 := by
  rw [contB_eq]
  constructor
  · rintro ⟨h1, h2⟩; exact ⟨by omega, h2 0 (by omega)⟩
  · rintro ⟨h1, h2⟩
    refine ⟨by omega, fun i hi => ?_⟩
    obtain rfl : i = 0 := by omega
    exact h2
theorem cont2 (ha : a < s.size) : contB s (a + 1) 2 = true ↔ 2 < s.size - a ∧ (s.get! (a + 1)).toNat / 64 = 2 ∧ (s.get! (a + 2)).toNat / 64 = 2 := by
  rw [contB_eq]
  constructor
  · rintro ⟨h1, h2⟩; exact ⟨by omega, h2 0 (by omega), h2 1 (by omega)⟩
  · rintro ⟨h1, h2, h3⟩
    refine ⟨by omega, fun i hi => ?_⟩
    obtain rfl | rfl : i = 0 ∨ i = 1 := by omega
    · exact h2
    · exact h3
theorem cont3 (ha : a < s.size) : contB s (a + 1) 3 = true ↔ 3 < s.size - a ∧ (s.get! (a + 1)).toNat / 64 = 2 ∧ (s.get! (a + 2)).toNat / 64 = 2 ∧ (s.get! (a + 3)).toNat / 64 = 2 := by
  rw [contB_eq]
  constructor
  · rintro ⟨h1, h2⟩; exact ⟨by omega, h2 0 (by omega), h2 1 (by omega), h2 2 (by omega)⟩
  · rintro ⟨h1, h2, h3, h4⟩
    refine ⟨by omega, fun i hi => ?_⟩
    obtain rfl | rfl | rfl : i = 0 ∨ i = 1 ∨ i = 2 := by omega
    · exact h2
    · exact h3
    · exact h4
theorem moreR_1 (ha : a < s.size) : moreR s a 1 r0 = if 1 < s.size - a ∧ (s.get! (a + 1)).toNat / 64 = 2 then (r0 * 64 + (s.get! (a + 1)).toNat % 64, 2, true) else (65533, 1, false) := by
  unfold moreR
  by_cases h : contB s (a + 1) 1 = true
  · rw [if_pos h, if_pos ((cont1 s a ha).1 h), if_neg (by omega)]
    rfl
  · rw [if_neg h, if_neg (fun h' => h ((cont1 s a ha).2 h'))]
theorem moreR_2 (ha : a < s.size) : moreR s a 2 r0 = if 2 < s.size - a ∧ (s.get! (a + 1)).toNat / 64 = 2 ∧ (s.get! (a + 2)).toNat / 64 = 2 then (if (r0 * 64 + (s.get! (a + 1)).toNat % 64) * 64 + (s.get! (a + 2)).toNat % 64 < 2048 ∨ 55296 ≤ (r0 * 64 + (s.get! (a + 1)).toNat % 64) * 64 + (s.get! (a + 2)).toNat % 64 ∧ (r0 * 64 + (s.get! (a + 1)).toNat % 64) * 64 + (s.get! (a + 2)).toNat % 64 < 57344 then (65533, 1, false) else ((r0 * 64 + (s.get! (a + 1)).toNat % 64) * 64 + (s.get! (a + 2)).toNat % 64, 3, true)) else (65533, 1, false) := by
  unfold moreR
  have hR : accR s a r0 2 = (r0 * 64 + (s.get! (a + 1)).toNat % 64) * 64 + (s.get! (a + 2)).toNat % 64 := rfl
  by_cases h : contB s (a + 1) 2 = true
  · rw [if_pos h, if_pos ((cont2 s a ha).1 h), ← hR]
    obtain ⟨R, hRR⟩ : ∃ R, R = accR s a r0 2 := ⟨_, rfl⟩
    rw [← hRR]
    by_cases h2 : R < 2048 ∨ 55296 ≤ R ∧ R < 57344
    · rw [if_pos (Or.inl ⟨rfl, h2⟩), if_pos h2]
    · rw [if_neg h2, if_neg]
      rintro (⟨_, h3⟩ | ⟨h3, _⟩)
      · exact h2 h3
      · omega
  · rw [if_neg h, if_neg (fun h' => h ((cont2 s a ha).2 h'))]
theorem moreR_3 (ha : a < s.size) : moreR s a 3 r0 = if 3 < s.size - a ∧ (s.get! (a + 1)).toNat / 64 = 2 ∧ (s.get! (a + 2)).toNat / 64 = 2 ∧ (s.get! (a + 3)).toNat / 64 = 2 then (if ((r0 * 64 + (s.get! (a + 1)).toNat % 64) * 64 + (s.get! (a + 2)).toNat % 64) * 64 + (s.get! (a + 3)).toNat % 64 < 65536 ∨ 1114111 < ((r0 * 64 + (s.get! (a + 1)).toNat % 64) * 64 + (s.get! (a + 2)).toNat % 64) * 64 + (s.get! (a + 3)).toNat % 64 then (65533, 1, false) else (((r0 * 64 + (s.get! (a + 1)).toNat % 64) * 64 + (s.get! (a + 2)).toNat % 64) * 64 + (s.get! (a + 3)).toNat % 64, 4, true)) else (65533, 1, false) := by
  unfold moreR
  have hR : accR s a r0 3 = ((r0 * 64 + (s.get! (a + 1)).toNat % 64) * 64 + (s.get! (a + 2)).toNat % 64) * 64 + (s.get! (a + 3)).toNat % 64 := rfl
  by_cases h : contB s (a + 1) 3 = true
  · rw [if_pos h, if_pos ((cont3 s a ha).1 h), ← hR]
    obtain ⟨R, hRR⟩ : ∃ R, R = accR s a r0 3 := ⟨_, rfl⟩
    rw [← hRR]
    by_cases h2 : R < 65536 ∨ 1114111 < R
    · rw [if_pos (Or.inr ⟨rfl, h2⟩), if_pos h2]
    · rw [if_neg h2, if_neg]
      rintro (⟨h3, _⟩ | ⟨_, h3⟩)
      · omega
      · exact h2 h3
  · rw [if_neg h, if_neg (fun h' => h ((cont3 s a ha).2 h'))]
end
def flagD (p : Nat × Nat) : Nat × Nat × Bool := (p.1, p.2, !decide (p.1 = 65533 ∧ p.2 = 1))
theorem flag_bad : (65533, 1, false) = flagD (65533, 1) := by decide
theorem flag_ok (r n : Nat) (h : r ≠ 65533 ∨ n ≠ 1) : (r, n, true) = flagD (r, n) := by
  unfold flagD
  have : decide (r = 65533 ∧ n = 1) = false := by simp; omega
  rw [this]
  rfl
set_option maxHeartbeats 4000000 in
theorem rune_N (n b0 b1 b2 b3 : Nat) (h0 : b0 < 256) :
    (if b0 < 128 then (b0, 1, true) else if 194 ≤ b0 ∧ b0 < 224 then (if 1 < n ∧ b1 / 64 = 2 then (b0 % 32 * 64 + b1 % 64, 2, true) else (65533, 1, false))
      else if 224 ≤ b0 ∧ b0 < 240 then (if 2 < n ∧ b1 / 64 = 2 ∧ b2 / 64 = 2 then (if (b0 % 16 * 64 + b1 % 64) * 64 + b2 % 64 < 2048 ∨ 55296 ≤ (b0 % 16 * 64 + b1 % 64) * 64 + b2 % 64 ∧ (b0 % 16 * 64 + b1 % 64) * 64 + b2 % 64 < 57344 then (65533, 1, false) else ((b0 % 16 * 64 + b1 % 64) * 64 + b2 % 64, 3, true)) else (65533, 1, false))
      else if 240 ≤ b0 ∧ b0 < 245 then (if 3 < n ∧ b1 / 64 = 2 ∧ b2 / 64 = 2 ∧ b3 / 64 = 2 then (if ((b0 % 8 * 64 + b1 % 64) * 64 + b2 % 64) * 64 + b3 % 64 < 65536 ∨ 1114111 < ((b0 % 8 * 64 + b1 % 64) * 64 + b2 % 64) * 64 + b3 % 64 then (65533, 1, false) else (((b0 % 8 * 64 + b1 % 64) * 64 + b2 % 64) * 64 + b3 % 64, 4, true)) else (65533, 1, false))
      else (65533, 1, false)) = flagD (decodeN n b0 b1 b2 b3) := by
  unfold decodeN
  have e2 : (b0 % 16 * 64 + b1 % 64) * 64 + b2 % 64 = b0 % 16 * 4096 + b1 % 64 * 64 + b2 % 64 := by omega
  have e3 : ((b0 % 8 * 64 + b1 % 64) * 64 + b2 % 64) * 64 + b3 % 64 = b0 % 8 * 262144 + b1 % 64 * 4096 + b2 % 64 * 64 + b3 % 64 := by omega
  rw [e2, e3]
  repeat' split
  all_goals first
    | exact flag_bad
    | (exfalso; omega)
    | exact flag_ok _ _ (.inr (by decide))
    | exact flag_ok _ _ (.inl (by omega))
/-- A code point of the reference is the model's. -/
theorem roneR_decode (s : ByteArray) (a : Nat) (ha : a < s.size) : roneR s a = ((Utf8.decode s a).1, (Utf8.decode s a).2, !decide ((Utf8.decode s a).1 = 65533 ∧ (Utf8.decode s a).2 = 1)) := by
  show roneR s a = flagD (Utf8.decode s a)
  rw [decode_at, ← rune_N (s.size - a) _ _ _ _ (s.get! a).toNat_lt]
  unfold roneR roneC
  rw [moreR_1 s a _ ha, moreR_2 s a _ ha, moreR_3 s a _ ha]
end Go.Proofs.YtcmgeccgahakbaaDoor

/- utf8.DecodeRuneInString, laid at this program: an application of a theorem of the shelf (the text is the tool's, its numbers by name). -/
namespace Go.Proofs
open Go.Shelf
def Tryd.lays197_ren : Go.Shelf.Ren := ⟨fun | 197 => 153 | 260 => 165 | n => n, fun | 9 => 9 | 21 => 21 | 3 => 3 | 4 => 4 | 5 => 5 | 105 => 193 | 119 => 215 | 0 => 0 | 46 => 79 | 139 => 218 | 138 => 217 | n => n, fun | 3 => 0 | 4 => 1 | n => n⟩
theorem Tryd.lays197 : Go.Proofs.Lays.n197 Tryd.prog Tryd.lays197_ren := {
  mixed := by kernel_rfl
  f197 := Tryd.func153.trans (congrArg some (by kernel_rfl))
  f260 := Tryd.func165.trans (congrArg some (by kernel_rfl))
  t0 := Tryd.underlying0
  a0 := Tryd.isAgg0
  z0 := Tryd.sizeOf0
  v0 := Tryd.zeroValue0
  t3 := Tryd.underlying3
  a3 := Tryd.isAgg3
  z3 := Tryd.sizeOf3
  v3 := Tryd.zeroValue3
  t4 := Tryd.underlying4
  a4 := Tryd.isAgg4
  z4 := Tryd.sizeOf4
  v4 := Tryd.zeroValue4
  t5 := Tryd.underlying5
  a5 := Tryd.isAgg5
  z5 := Tryd.sizeOf5
  v5 := Tryd.zeroValue5
  t9 := Tryd.underlying9
  a9 := Tryd.isAgg9
  z9 := Tryd.sizeOf9
  v9 := Tryd.zeroValue9
  t21 := Tryd.underlying21
  a21 := Tryd.isAgg21
  z21 := Tryd.sizeOf21
  v21 := Tryd.zeroValue21
  t46 := Tryd.underlying79
  a46 := Tryd.isAgg79
  z46 := Tryd.sizeOf79
  v46 := Tryd.zeroValue79
  t105 := Tryd.underlying193
  a105 := Tryd.isAgg193
  z105 := Tryd.sizeOf193
  v105 := Tryd.zeroValue193
  t119 := Tryd.underlying215
  a119 := Tryd.isAgg215
  z119 := Tryd.sizeOf215
  t138 := Tryd.underlying217
  a138 := Tryd.isAgg217
  z138 := Tryd.sizeOf217
  v138 := Tryd.zeroValue217
  t139 := Tryd.underlying218
  a139 := Tryd.isAgg218
  z139 := Tryd.sizeOf218
  v139 := Tryd.zeroValue218
  g3 := by kernel_rfl
  g4 := by kernel_rfl }
open Go.RowKit Go.Lib in
theorem Tryd.utf8_DecodeRuneInString (s : ByteArray) (w : World) (hT : Lib.Utf8Tabs 0 1 w) :
    Calls Tryd.prog 153 #[.string s] w fun e w' => e = .returned (.tuple #[.int .i32 (Lib.decodeGo s).1, .int .i64 (Lib.decodeGo s).2]) ∧ Below w.heap.size w w' := Any.utf8_DecodeRuneInString Tryd.lays197 s w hT
end Go.Proofs
