/- The reference's code points: cont, one. -/
import Derived.Test.YtfagnbofnaoncaaGreatDoorP4
import Derived.Test.YtfagnbofnaoncaaGreatDoorP1
import Derived.Test.YtfagnbofnaoncaaGreatDoorProg
import Derived.Lib.DecodeN
import Derived.Lib.Hide
import Derived.Laws.BitsLemmas
import Derived.Test.YtfagnbofnaoncaaGreatDoorP3
import Derived.Test.YtfagnbofnaoncaaGreatDoorP9
import Derived.Test.YtfagnbofnaoncaaGreatDoorP7
set_option linter.unusedSimpArgs false
set_option linter.unusedVariables false
namespace Go.Proofs.YtfagnbofnaoncaaGreatDoor
open Go Go.RowKit
attribute [local go_sem] yields yUpon
set_option maxHeartbeats 1000000 in
theorem cont_any (s : ByteArray) (at_ n : Nat) (hs : s.size ≤ 1000000) (ha : at_ ≤ 1000000) (hn : n ≤ 3) (w : World) :
    Calls Tryz.prog 175 #[.string s, .int .i64 at_, .int .i64 n] w fun e w' => e = .returned (.bool (contB s at_ n)) ∧ w = w' := by
  by_cases hl : at_ + n ≤ s.size
  · have k1 : decide ((s.size : Int) < (at_ : Int) + (n : Int)) = false := by simp; omega
    go_enter Tryz.func175, Tryz.ntmps175
    go_wp2
    go_loopw [7] (fun i wr => ∃ k : Nat, k ≤ n ∧ i = .int .i64 ((at_ : Int) + (k : Int)) ∧ wr = w ∧ ∀ j, j < k → goesOn (s.get! (at_ + j)) = true) (fun i _ => at_ + n - (intOf i).toNat)
    case atStart => exact ⟨0, Nat.zero_le _, by simp, rfl, fun j hj => absurd hj (Nat.not_lt_zero _)⟩
    case round =>
      obtain ⟨k, hk, rfl, rfl, hall⟩ := hrel
      have HALL := Lib.hid hall
      clear hall
      by_cases hlt : k < n
      · have hki : decide ((at_ : Int) + (k : Int) < (at_ : Int) + (n : Int)) = true := by simp; omega
        have hb := goes_bits (s[at_ + k]'(by omega))
        obtain ⟨g, hg⟩ : ∃ g, g = goesOn (s[at_ + k]'(by omega)) := ⟨_, rfl⟩
        rw [← hg] at hb
        have HG := Lib.hid hg
        clear hg
        cases g
        · go_wp2_with fail
          go_ret
          have e : contB s at_ n = false := contB_false hlt (by rw [get_bang (show at_ + k < s.size by omega)]; exact HG.out.symm)
          exact ⟨by rw [e]; rfl, rfl⟩
        · go_wp2_with fail
          go_roundw
          case rel => exact ⟨k + 1, by omega, by go_num, trivial, fun j hj => by
            by_cases h : j < k
            · exact HALL.out j h
            · obtain rfl : j = k := by omega
              rw [get_bang (show at_ + j < s.size by omega)]; exact HG.out.symm⟩
          case measure => simp [intOf] <;> omega
      · have hki : decide ((at_ : Int) + (k : Int) < (at_ : Int) + (n : Int)) = false := by simp; omega
        obtain rfl : k = n := by omega
        go_wp2_with fail
        go_ret
        have e : contB s at_ k = true := contB_true hl HALL.out
        exact ⟨by rw [e]; rfl, rfl⟩
  · have k1 : decide ((s.size : Int) < (at_ : Int) + (n : Int)) = true := by simp; omega
    have e : contB s at_ n = false := by
      unfold contB
      rw [Bool.and_eq_false_iff]
      left
      simpa using hl
    go_enter Tryz.func175, Tryz.ntmps175
    go_wp2
    go_ret
    exact ⟨by rw [e]; rfl, rfl⟩

set_option maxRecDepth 100000 in
set_option maxHeartbeats 4000000 in
theorem rone_a (s : ByteArray) (at_ : Nat) (hs : s.size ≤ 1000000) (ha : at_ < s.size) (w : World) (c1 : (s[at_]).toNat < 128) :
    Calls Tryz.prog 158 #[.string s, .int .i64 at_] w fun e w' => e = .returned (.agg (rC (roneR s at_).1 at_ (roneR s at_).2.1 (roneR s at_).2.2)) ∧ Ext w w' := by
  have d1 : decide (((s[at_]).toNat : Int) < 128) = true := by simp; omega
  have e : roneR s at_ = ((s[at_]).toNat, 1, true) := by unfold roneR roneC; rw [get_bang ha, if_pos c1]
  rw [e]
  clear e
  go_enter Tryz.func158, Tryz.ntmps158
  go_wp2_with fail
  refine bodyPost_ret (v := .agg #[.int .i32 (s[at_]).toNat, .int .i64 at_, .int .i64 1, .bool true]) ?_ rfl ⟨rfl, ((Ext.refl w).alloc _).alloc _⟩
  simp [results, Tryz.results158, go_sem]
set_option maxRecDepth 100000 in
set_option maxHeartbeats 4000000 in
theorem rone_b (s : ByteArray) (at_ : Nat) (hs : s.size ≤ 1000000) (ha : at_ < s.size) (w : World) (c1 : ¬ (s[at_]).toNat < 128) (c2 : 194 ≤ (s[at_]).toNat ∧ (s[at_]).toNat < 224) :
    Calls Tryz.prog 158 #[.string s, .int .i64 at_] w fun e w' => e = .returned (.agg (rC (roneR s at_).1 at_ (roneR s at_).2.1 (roneR s at_).2.2)) ∧ Ext w w' := by
  have d0 : decide (((s[at_]).toNat : Int) < 128) = false := by simp; omega
  have d1 : decide (194 ≤ ((s[at_]).toNat : Int)) = true := by simp; omega
  have d2 : decide (((s[at_]).toNat : Int) < 224) = true := by simp; omega
  have m : bits BinOp.and IntKind.i32 ((s[at_]).toNat : Int) 31 = (((s[at_]).toNat % 32 : Nat) : Int) := mask_i32 _ 5 (by decide)
  obtain ⟨r0, hr0⟩ : ∃ r0, r0 = (s[at_]).toNat % 32 := ⟨_, rfl⟩
  rw [← hr0] at m
  have hr : r0 < 32 := by omega
  have e : roneR s at_ = moreR s at_ 1 r0 := by
    unfold roneR roneC
    rw [get_bang ha, ← hr0, if_neg c1, if_pos c2]
  have HE := Lib.hid e
  clear e hr0
  go_enter Tryz.func158, Tryz.ntmps158
  go_wp2_with fail
  refine (cont_any s (at_ + 1) 1 hs (by omega) (by omega) _).mono ?_
  rintro e w1 ⟨rfl, rfl⟩
  cases hc : contB s (at_ + 1) 1
  · have e : Hid (roneR s at_ = (65533, 1, false)) := by rw [HE.out]; unfold moreR; rw [hc]; rfl
    clear HE
    go_wp2_with fail
    refine bodyPost_ret (v := .agg #[.int .i32 65533, .int .i64 at_, .int .i64 1, .bool false]) ?_ rfl ⟨by rw [e.out]; rfl, ((Ext.refl w).alloc _).alloc _⟩
    simp [results, Tryz.results158, go_sem]
  · have hsz : at_ + 1 + 1 ≤ s.size := by
      unfold contB at hc
      rw [Bool.and_eq_true] at hc
      simpa using hc.1
    have HE2 : Hid (roneR s at_ = if (1 = 2 ∧ (accR s at_ r0 1 < 2048 ∨ 55296 ≤ accR s at_ r0 1 ∧ accR s at_ r0 1 < 57344)) ∨ (1 = 3 ∧ (accR s at_ r0 1 < 65536 ∨ 1114111 < accR s at_ r0 1)) then (65533, 1, false) else (accR s at_ r0 1, 1 + 1, true)) := by have := HE.out; unfold moreR at this; rw [if_pos hc] at this; exact this
    clear HE hc
    go_wp2_with fail
    go_loopw [8, 9] (fun r i wr => ∃ k : Nat, k ≤ 1 ∧ i = .int .i64 ((k : Int) + 1) ∧ r = .int .i32 (accR s at_ r0 k : Nat) ∧ wr = ((w.alloc (.cells #[.int .i32 0, .int .i64 0, .int .i64 0, .bool false] 199)).alloc (.cells #[.int .i32 65533, .int .i64 at_, .int .i64 1, .bool false] 199))) (fun _ i _ => 1 + 1 - (intOf i).toNat)
    case atStart => exact ⟨0, Nat.zero_le _, rfl, rfl, rfl⟩
    case round =>
      obtain ⟨k, hk, rfl, rfl, rfl⟩ := hrel
      by_cases hlt : k < 1
      · have t1 : decide ((k : Int) + 1 ≤ 1) = true := by simp; omega
        have t2 := accR_one s at_ r0 k hr (by omega)
        rw [get_bang (show at_ + (k + 1) < s.size by omega)] at t2
        go_wp2_with fail
        go_roundw
        case rel => exact ⟨k + 1, by omega, by go_num, rfl, trivial⟩
        case measure => simp [intOf] <;> omega
      · have t1 : decide ((k : Int) + 1 ≤ 1) = false := by simp; omega
        obtain rfl : k = 1 := by omega
        obtain ⟨R, hR⟩ : ∃ R, R = accR s at_ r0 1 := ⟨_, rfl⟩
        rw [← hR] at HE2 ⊢
        clear hR
        go_wp2_with fail
        refine bodyPost_ret (v := .agg #[.int .i32 R, .int .i64 at_, .int .i64 2, .bool true]) ?_ rfl ⟨by rw [HE2.out, if_neg (by omega)]; rfl, ((Ext.refl w).alloc _).alloc _⟩
        simp [results, Tryz.results158, go_sem]
set_option maxRecDepth 100000 in
set_option maxHeartbeats 4000000 in
theorem rone_c (s : ByteArray) (at_ : Nat) (hs : s.size ≤ 1000000) (ha : at_ < s.size) (w : World) (c1 : ¬ (s[at_]).toNat < 128) (c2 : ¬ (194 ≤ (s[at_]).toNat ∧ (s[at_]).toNat < 224)) (c3 : 224 ≤ (s[at_]).toNat ∧ (s[at_]).toNat < 240) :
    Calls Tryz.prog 158 #[.string s, .int .i64 at_] w fun e w' => e = .returned (.agg (rC (roneR s at_).1 at_ (roneR s at_).2.1 (roneR s at_).2.2)) ∧ Ext w w' := by
  have d0 : decide (((s[at_]).toNat : Int) < 128) = false := by simp; omega
  have d1 : decide (194 ≤ ((s[at_]).toNat : Int)) = true := by simp; omega
  have d2 : decide (((s[at_]).toNat : Int) < 224) = false := by simp; omega
  have d3 : decide (224 ≤ ((s[at_]).toNat : Int)) = true := by simp; omega
  have d4 : decide (((s[at_]).toNat : Int) < 240) = true := by simp; omega
  have m : bits BinOp.and IntKind.i32 ((s[at_]).toNat : Int) 15 = (((s[at_]).toNat % 16 : Nat) : Int) := mask_i32 _ 4 (by decide)
  obtain ⟨r0, hr0⟩ : ∃ r0, r0 = (s[at_]).toNat % 16 := ⟨_, rfl⟩
  rw [← hr0] at m
  have hr : r0 < 32 := by omega
  have e : roneR s at_ = moreR s at_ 2 r0 := by
    unfold roneR roneC
    rw [get_bang ha, ← hr0, if_neg c1, if_neg c2, if_pos c3]
  have HE := Lib.hid e
  clear e hr0
  go_enter Tryz.func158, Tryz.ntmps158
  go_wp2_with fail
  refine (cont_any s (at_ + 1) 2 hs (by omega) (by omega) _).mono ?_
  rintro e w1 ⟨rfl, rfl⟩
  cases hc : contB s (at_ + 1) 2
  · have e : Hid (roneR s at_ = (65533, 1, false)) := by rw [HE.out]; unfold moreR; rw [hc]; rfl
    clear HE
    go_wp2_with fail
    refine bodyPost_ret (v := .agg #[.int .i32 65533, .int .i64 at_, .int .i64 1, .bool false]) ?_ rfl ⟨by rw [e.out]; rfl, ((Ext.refl w).alloc _).alloc _⟩
    simp [results, Tryz.results158, go_sem]
  · have hsz : at_ + 1 + 2 ≤ s.size := by
      unfold contB at hc
      rw [Bool.and_eq_true] at hc
      simpa using hc.1
    have HE2 : Hid (roneR s at_ = if (2 = 2 ∧ (accR s at_ r0 2 < 2048 ∨ 55296 ≤ accR s at_ r0 2 ∧ accR s at_ r0 2 < 57344)) ∨ (2 = 3 ∧ (accR s at_ r0 2 < 65536 ∨ 1114111 < accR s at_ r0 2)) then (65533, 1, false) else (accR s at_ r0 2, 2 + 1, true)) := by have := HE.out; unfold moreR at this; rw [if_pos hc] at this; exact this
    clear HE hc
    go_wp2_with fail
    go_loopw [8, 9] (fun r i wr => ∃ k : Nat, k ≤ 2 ∧ i = .int .i64 ((k : Int) + 1) ∧ r = .int .i32 (accR s at_ r0 k : Nat) ∧ wr = ((w.alloc (.cells #[.int .i32 0, .int .i64 0, .int .i64 0, .bool false] 199)).alloc (.cells #[.int .i32 65533, .int .i64 at_, .int .i64 1, .bool false] 199))) (fun _ i _ => 2 + 1 - (intOf i).toNat)
    case atStart => exact ⟨0, Nat.zero_le _, rfl, rfl, rfl⟩
    case round =>
      obtain ⟨k, hk, rfl, rfl, rfl⟩ := hrel
      by_cases hlt : k < 2
      · have t1 : decide ((k : Int) + 1 ≤ 2) = true := by simp; omega
        have t2 := accR_one s at_ r0 k hr (by omega)
        rw [get_bang (show at_ + (k + 1) < s.size by omega)] at t2
        go_wp2_with fail
        go_roundw
        case rel => exact ⟨k + 1, by omega, by go_num, rfl, trivial⟩
        case measure => simp [intOf] <;> omega
      · have t1 : decide ((k : Int) + 1 ≤ 2) = false := by simp; omega
        obtain rfl : k = 2 := by omega
        obtain ⟨R, hR⟩ : ∃ R, R = accR s at_ r0 2 := ⟨_, rfl⟩
        rw [← hR] at HE2 ⊢
        clear hR
        by_cases q1 : R < 2048
        · have p1 : decide ((R : Int) < 2048) = true := by simp; omega
          go_wp2_with fail
          refine bodyPost_ret (v := .agg #[.int .i32 65533, .int .i64 at_, .int .i64 1, .bool false]) ?_ rfl ⟨by rw [HE2.out, if_pos (.inl ⟨by trivial, .inl q1⟩)]; rfl, ((Ext.refl w).alloc _).alloc _⟩
          simp [results, Tryz.results158, go_sem]
        · have p1 : decide ((R : Int) < 2048) = false := by simp; omega
          by_cases q2 : 55296 ≤ R
          · have p2 : decide (55296 ≤ (R : Int)) = true := by simp; omega
            by_cases q3 : R < 57344
            · have p3 : decide ((R : Int) < 57344) = true := by simp; omega
              go_wp2_with fail
              refine bodyPost_ret (v := .agg #[.int .i32 65533, .int .i64 at_, .int .i64 1, .bool false]) ?_ rfl ⟨by rw [HE2.out, if_pos (.inl ⟨by trivial, .inr ⟨q2, q3⟩⟩)]; rfl, ((Ext.refl w).alloc _).alloc _⟩
              simp [results, Tryz.results158, go_sem]
            · have p3 : decide ((R : Int) < 57344) = false := by simp; omega
              go_wp2_with fail
              refine bodyPost_ret (v := .agg #[.int .i32 R, .int .i64 at_, .int .i64 3, .bool true]) ?_ rfl ⟨by rw [HE2.out, if_neg (by omega)]; rfl, ((Ext.refl w).alloc _).alloc _⟩
              simp [results, Tryz.results158, go_sem]
          · have p2 : decide (55296 ≤ (R : Int)) = false := by simp; omega
            go_wp2_with fail
            refine bodyPost_ret (v := .agg #[.int .i32 R, .int .i64 at_, .int .i64 3, .bool true]) ?_ rfl ⟨by rw [HE2.out, if_neg (by omega)]; rfl, ((Ext.refl w).alloc _).alloc _⟩
            simp [results, Tryz.results158, go_sem]
set_option maxRecDepth 100000 in
set_option maxHeartbeats 4000000 in
theorem rone_d (s : ByteArray) (at_ : Nat) (hs : s.size ≤ 1000000) (ha : at_ < s.size) (w : World) (c1 : ¬ (s[at_]).toNat < 128) (c2 : ¬ (194 ≤ (s[at_]).toNat ∧ (s[at_]).toNat < 224)) (c3 : ¬ (224 ≤ (s[at_]).toNat ∧ (s[at_]).toNat < 240)) (c4 : 240 ≤ (s[at_]).toNat ∧ (s[at_]).toNat < 245) :
    Calls Tryz.prog 158 #[.string s, .int .i64 at_] w fun e w' => e = .returned (.agg (rC (roneR s at_).1 at_ (roneR s at_).2.1 (roneR s at_).2.2)) ∧ Ext w w' := by
  have d0 : decide (((s[at_]).toNat : Int) < 128) = false := by simp; omega
  have d1 : decide (194 ≤ ((s[at_]).toNat : Int)) = true := by simp; omega
  have d2 : decide (((s[at_]).toNat : Int) < 224) = false := by simp; omega
  have d3 : decide (224 ≤ ((s[at_]).toNat : Int)) = true := by simp; omega
  have d4 : decide (((s[at_]).toNat : Int) < 240) = false := by simp; omega
  have d5 : decide (240 ≤ ((s[at_]).toNat : Int)) = true := by simp; omega
  have d6 : decide (((s[at_]).toNat : Int) < 245) = true := by simp; omega
  have m : bits BinOp.and IntKind.i32 ((s[at_]).toNat : Int) 7 = (((s[at_]).toNat % 8 : Nat) : Int) := mask_i32 _ 3 (by decide)
  obtain ⟨r0, hr0⟩ : ∃ r0, r0 = (s[at_]).toNat % 8 := ⟨_, rfl⟩
  rw [← hr0] at m
  have hr : r0 < 32 := by omega
  have e : roneR s at_ = moreR s at_ 3 r0 := by
    unfold roneR roneC
    rw [get_bang ha, ← hr0, if_neg c1, if_neg c2, if_neg c3, if_pos c4]
  have HE := Lib.hid e
  clear e hr0
  go_enter Tryz.func158, Tryz.ntmps158
  go_wp2_with fail
  refine (cont_any s (at_ + 1) 3 hs (by omega) (by omega) _).mono ?_
  rintro e w1 ⟨rfl, rfl⟩
  cases hc : contB s (at_ + 1) 3
  · have e : Hid (roneR s at_ = (65533, 1, false)) := by rw [HE.out]; unfold moreR; rw [hc]; rfl
    clear HE
    go_wp2_with fail
    refine bodyPost_ret (v := .agg #[.int .i32 65533, .int .i64 at_, .int .i64 1, .bool false]) ?_ rfl ⟨by rw [e.out]; rfl, ((Ext.refl w).alloc _).alloc _⟩
    simp [results, Tryz.results158, go_sem]
  · have hsz : at_ + 1 + 3 ≤ s.size := by
      unfold contB at hc
      rw [Bool.and_eq_true] at hc
      simpa using hc.1
    have HE2 : Hid (roneR s at_ = if (3 = 2 ∧ (accR s at_ r0 3 < 2048 ∨ 55296 ≤ accR s at_ r0 3 ∧ accR s at_ r0 3 < 57344)) ∨ (3 = 3 ∧ (accR s at_ r0 3 < 65536 ∨ 1114111 < accR s at_ r0 3)) then (65533, 1, false) else (accR s at_ r0 3, 3 + 1, true)) := by have := HE.out; unfold moreR at this; rw [if_pos hc] at this; exact this
    clear HE hc
    go_wp2_with fail
    go_loopw [8, 9] (fun r i wr => ∃ k : Nat, k ≤ 3 ∧ i = .int .i64 ((k : Int) + 1) ∧ r = .int .i32 (accR s at_ r0 k : Nat) ∧ wr = ((w.alloc (.cells #[.int .i32 0, .int .i64 0, .int .i64 0, .bool false] 199)).alloc (.cells #[.int .i32 65533, .int .i64 at_, .int .i64 1, .bool false] 199))) (fun _ i _ => 3 + 1 - (intOf i).toNat)
    case atStart => exact ⟨0, Nat.zero_le _, rfl, rfl, rfl⟩
    case round =>
      obtain ⟨k, hk, rfl, rfl, rfl⟩ := hrel
      by_cases hlt : k < 3
      · have t1 : decide ((k : Int) + 1 ≤ 3) = true := by simp; omega
        have t2 := accR_one s at_ r0 k hr (by omega)
        rw [get_bang (show at_ + (k + 1) < s.size by omega)] at t2
        go_wp2_with fail
        go_roundw
        case rel => exact ⟨k + 1, by omega, by go_num, rfl, trivial⟩
        case measure => simp [intOf] <;> omega
      · have t1 : decide ((k : Int) + 1 ≤ 3) = false := by simp; omega
        obtain rfl : k = 3 := by omega
        obtain ⟨R, hR⟩ : ∃ R, R = accR s at_ r0 3 := ⟨_, rfl⟩
        rw [← hR] at HE2 ⊢
        clear hR
        by_cases q1 : R < 65536
        · have p1 : decide ((R : Int) < 65536) = true := by simp; omega
          go_wp2_with fail
          refine bodyPost_ret (v := .agg #[.int .i32 65533, .int .i64 at_, .int .i64 1, .bool false]) ?_ rfl ⟨by rw [HE2.out, if_pos (.inr ⟨by trivial, .inl q1⟩)]; rfl, ((Ext.refl w).alloc _).alloc _⟩
          simp [results, Tryz.results158, go_sem]
        · have p1 : decide ((R : Int) < 65536) = false := by simp; omega
          by_cases q2 : 1114111 < R
          · have p2 : decide (1114111 < (R : Int)) = true := by simp; omega
            go_wp2_with fail
            refine bodyPost_ret (v := .agg #[.int .i32 65533, .int .i64 at_, .int .i64 1, .bool false]) ?_ rfl ⟨by rw [HE2.out, if_pos (.inr ⟨by trivial, .inr q2⟩)]; rfl, ((Ext.refl w).alloc _).alloc _⟩
            simp [results, Tryz.results158, go_sem]
          · have p2 : decide (1114111 < (R : Int)) = false := by simp; omega
            go_wp2_with fail
            refine bodyPost_ret (v := .agg #[.int .i32 R, .int .i64 at_, .int .i64 4, .bool true]) ?_ rfl ⟨by rw [HE2.out, if_neg (by omega)]; rfl, ((Ext.refl w).alloc _).alloc _⟩
            simp [results, Tryz.results158, go_sem]
set_option maxRecDepth 100000 in
set_option maxHeartbeats 4000000 in
theorem rone_e (s : ByteArray) (at_ : Nat) (hs : s.size ≤ 1000000) (ha : at_ < s.size) (w : World) (c1 : ¬ (s[at_]).toNat < 128) (c2 : ¬ (194 ≤ (s[at_]).toNat ∧ (s[at_]).toNat < 224)) (c3 : ¬ (224 ≤ (s[at_]).toNat ∧ (s[at_]).toNat < 240)) (c4 : ¬ (240 ≤ (s[at_]).toNat ∧ (s[at_]).toNat < 245)) :
    Calls Tryz.prog 158 #[.string s, .int .i64 at_] w fun e w' => e = .returned (.agg (rC (roneR s at_).1 at_ (roneR s at_).2.1 (roneR s at_).2.2)) ∧ Ext w w' := by
  have e : Hid (roneR s at_ = (65533, 1, false)) := by
    show roneR s at_ = _
    unfold roneR roneC
    rw [get_bang ha, if_neg c1, if_neg c2, if_neg c3, if_neg c4]
  by_cases c5 : (s[at_]).toNat < 194
  · have _x := c5
    have d0 : decide (((s[at_]).toNat : Int) < 128) = false := by simp; omega
    have d1 : decide (194 ≤ ((s[at_]).toNat : Int)) = false := by simp; omega
    have d2 : decide (224 ≤ ((s[at_]).toNat : Int)) = false := by simp; omega
    have d3 : decide (240 ≤ ((s[at_]).toNat : Int)) = false := by simp; omega
    go_enter Tryz.func158, Tryz.ntmps158
    go_wp2_with fail
    refine bodyPost_ret (v := .agg #[.int .i32 65533, .int .i64 at_, .int .i64 1, .bool false]) ?_ rfl ⟨by rw [e.out]; rfl, ((Ext.refl w).alloc _).alloc _⟩
    simp [results, Tryz.results158, go_sem]
  · have hub : ((s[at_]).toNat : Int) < 256 := by have := (s[at_]).toNat_lt; omega
    have d0 : decide (((s[at_]).toNat : Int) < 128) = false := by simp; omega
    have d1 : decide (194 ≤ ((s[at_]).toNat : Int)) = true := by simp; omega
    have d2 : decide (((s[at_]).toNat : Int) < 224) = false := by simp; omega
    have d3 : decide (224 ≤ ((s[at_]).toNat : Int)) = true := by simp; omega
    have d4 : decide (((s[at_]).toNat : Int) < 240) = false := by simp; omega
    have d5 : decide (240 ≤ ((s[at_]).toNat : Int)) = true := by simp; omega
    have d6 : decide (((s[at_]).toNat : Int) < 245) = false := by simp; omega
    go_enter Tryz.func158, Tryz.ntmps158
    go_wp2_with fail
    refine bodyPost_ret (v := .agg #[.int .i32 65533, .int .i64 at_, .int .i64 1, .bool false]) ?_ rfl ⟨by rw [e.out]; rfl, ((Ext.refl w).alloc _).alloc _⟩
    simp [results, Tryz.results158, go_sem]
set_option maxRecDepth 100000 in
set_option maxHeartbeats 4000000 in
theorem rone_any (s : ByteArray) (at_ : Nat) (hs : s.size ≤ 1000000) (ha : at_ < s.size) (w : World) :
    Calls Tryz.prog 158 #[.string s, .int .i64 at_] w fun e w' => e = .returned (.agg (rC (roneR s at_).1 at_ (roneR s at_).2.1 (roneR s at_).2.2)) ∧ Ext w w' := by
  by_cases c1 : (s[at_]).toNat < 128
  · exact rone_a s at_ hs ha w c1
  by_cases c2 : 194 ≤ (s[at_]).toNat ∧ (s[at_]).toNat < 224
  · exact rone_b s at_ hs ha w c1 c2
  by_cases c3 : 224 ≤ (s[at_]).toNat ∧ (s[at_]).toNat < 240
  · exact rone_c s at_ hs ha w c1 c2 c3
  by_cases c4 : 240 ≤ (s[at_]).toNat ∧ (s[at_]).toNat < 245
  · exact rone_d s at_ hs ha w c1 c2 c3 c4
  exact rone_e s at_ hs ha w c1 c2 c3 c4
end Go.Proofs.YtfagnbofnaoncaaGreatDoor

/- The reference's code points: All, Letter, Name. -/
namespace Go.Proofs.YtfagnbofnaoncaaGreatDoor
open Go Go.RowKit
attribute [local go_sem] yields yUpon
attribute [local go_sem] rn4
theorem info_Rn : (Tryz.prog.info? 199).map (fun i => (i.zero, i.size, i.bytes)) = some (some (.agg #[.int .i32 0, .int .i64 0, .int .i64 0, .bool false]), 4, 32) := by kernel_rfl
theorem und_Rns : Tryz.prog.underlying 195 = some (.slice 199) := by kernel_rfl
set_option maxRecDepth 100000 in
set_option maxHeartbeats 4000000 in
theorem all_any (s : ByteArray) (hs : s.size ≤ 1000000) (w : World) :
    Calls Tryz.prog 140 #[.string s] w fun e w' => ∃ v, e = .returned v ∧ w'.ownsRow w.heap.size 199 4 v (rsAll s).length (rnCells (rsAll s)) ∧ Ext w w' := by
  obtain ⟨n, hn⟩ : ∃ n, n = s.size := ⟨_, rfl⟩
  have HN := Lib.hid hn
  rw [← hn] at hs
  have hk1 : (s.size : Int) = (n : Int) := by rw [hn]
  go_enter Tryz.func140, Tryz.ntmps140
  go_wp2
  go_loopw [3, 4] (fun v i wr => ∃ (k f : Nat) (L : List Rn), k ≤ n ∧ n ≤ k + f ∧ i = .int .i64 k ∧ Ext w wr ∧ L.length ≤ k ∧ wr.ownsRow w.heap.size 199 4 v L.length (rnCells L) ∧ Hid (rsAll s = L ++ rsF s f k)) (fun _ i _ => n - (intOf i).toNat)
  case atStart => exact ⟨0, n, [], Nat.zero_le _, by omega, rfl, Ext.refl w, Nat.le_refl _, World.ownsRow_nil _ _ _ _, by show rsAll s = _; rw [List.nil_append, hn]; rfl⟩
  case round =>
    obtain ⟨k, f, L, hk, hf, rfl, hE, hL, hown, HX⟩ := hrel
    by_cases hlt : k < n
    · obtain ⟨f, rfl⟩ : ∃ f', f = f' + 1 := ⟨f - 1, by omega⟩
      have hsz := rone_size s k (by omega)
      have hX : rsAll s = (L ++ [rnOf s k]) ++ rsF s f (k + (rnOf s k).n) := by
        rw [HX.out]
        conv => lhs; unfold rsF
        rw [if_pos (by omega), List.append_assoc]
        rfl
      have hone := rone_any s k (by omega) (by omega)
      obtain ⟨M, hM⟩ : ∃ M, M = rnOf s k := ⟨_, rfl⟩
      have hone : ∀ w, Calls Tryz.prog 158 #[.string s, .int .i64 k] w fun e w' => e = .returned (.agg #[.int .i32 M.r, .int .i64 k, .int .i64 M.n, .bool M.ok]) ∧ Ext w w' := by rw [hM]; exact hone
      rw [← hM] at hX hsz
      have HX2 := Lib.hid hX
      have HO := Lib.hid hone
      have hki : decide ((k : Int) < (n : Int)) = true := by simpa using hlt
      have HKA : Hid (M.at_ = k) := by show M.at_ = k; rw [hM]; rfl
      clear hX HX hM hone
      go_wp2_with fail
      refine (HO.out wr).mono ?_
      rintro e w1 ⟨rfl, hE1⟩
      replace hown := ownsRow_ext hown hE1
      replace hE := hE.trans hE1
      obtain ⟨w2, hw2⟩ : ∃ w2, w2 = w1.alloc (.cells (rn4 ⟨M.r, k, M.n, M.ok⟩) 199) := ⟨_, rfl⟩
      have c2 : BoxAt w2 w1.heap.size (rn4 ⟨M.r, k, M.n, M.ok⟩) 199 := by rw [hw2]; exact BoxAt.made w1 _ _
      have hX2 : Ext w1 w2 := by rw [hw2]; exact (Ext.refl w1).alloc _
      have hown2 := ownsRow_ext hown hX2
      have hl2 : w.heap.size ≤ w2.heap.size := by have := hE.le; have := c2.lt; omega
      have hE2 := hE.trans hX2
      have hsz2 : w2.heap.size = w1.heap.size + 1 := by rw [hw2]; exact Deep.nblk_alloc _ _
      have HW2 : Hid (w2 = w1.alloc (.cells #[.int .i32 M.r, .int .i64 k, .int .i64 M.n, .bool M.ok] 199)) := hw2
      clear hw2
      go_wp2_with (at_builtin; rw [← HW2.out]; go_must (refine appR info_Rn und_Rns rfl (by decide) w2 rfl (.tmp 13) (.tmp 15) rfl w.heap.size hl2 _ _ _ hown2 rfl 1 _ (by rw [hsz2]; rfl) rfl (by simp [Value.oneCell']) (by unfold maxLen; omega) (by omega) ?_); intro m3 w3 hown3 hg3; obtain ⟨d0, d1, d2, d3⟩ := (((BoxAt.ext ((Ext.refl w2).alloc _) c2).grown hg3 (fun h => by have := (hown.lt _ h.symm).2; omega)).rn); have hE3 := (hE2.alloc _).grown hg3 (fun q hq => by have := (hown2.lt q hq).1; omega))
      go_roundw
      case rel => exact ⟨k + M.n, f, L ++ [M], by omega, by omega, by go_num, hE3, by simp; omega, by rw [rnCells_append, List.length_append, show rnCells [M] = [.int .i32 M.r, .int .i64 k, .int .i64 M.n, .bool M.ok] by unfold rnCells; rw [HKA.out]; rfl]; exact hown3, HX2.out⟩
      case measure => simp [intOf] <;> omega
    · obtain rfl : k = n := by omega
      have hki : decide ((k : Int) < (k : Int)) = false := by simp
      have e : rsAll s = L := by rw [HX.out, rsF_end s f k (by omega), List.append_nil]
      go_wp2_with fail
      go_ret
      exact ⟨_, rfl, by rw [e]; exact hown, hE⟩

set_option maxRecDepth 100000 in
set_option maxHeartbeats 2000000 in
theorem letter_any (x : Rn) (w : World) :
    Calls Tryz.prog 141 #[.agg #[.int .i32 x.r, .int .i64 x.at_, .int .i64 x.n, .bool x.ok]] w fun e w' => e = .returned (.bool (x.ok && ((decide (97 ≤ x.r) && decide (x.r ≤ 122)) || x.r == 95 || decide (128 ≤ x.r)))) ∧ Ext w w' := by
  obtain ⟨r, a, n, ok⟩ := x
  cases ok
  · go_enter Tryz.func141, Tryz.ntmps141
    go_wp2
    go_ret
    exact ⟨rfl, (Ext.refl w).alloc _⟩
  · go_enter Tryz.func141, Tryz.ntmps141
    go_wp2
    all_goals
      go_ret
      refine ⟨ret_bool ?_, (Ext.refl w).alloc _⟩
      rw [Bool.eq_iff_iff]
      simp
      try omega

set_option maxRecDepth 100000 in
set_option maxHeartbeats 4000000 in
theorem rname_any (s : ByteArray) (hs : s.size ≤ 1000000) (w : World) :
    Calls Tryz.prog 100 #[.string s] w fun e w' => e = .returned (.bool (nameB s)) ∧ Ext w w' := by
  obtain ⟨z, hz⟩ : ∃ z, z = s.size := ⟨_, rfl⟩
  have hzi : (s.size : Int) = (z : Int) := by rw [hz]
  have HZ := Lib.hid hz
  rw [← hz] at hs
  clear hz
  go_enter Tryz.func100, Tryz.ntmps100
  go_wp2_with fail
  refine (all_any s (by rw [← HZ.out]; exact hs) w).mono ?_
  rintro e w1 ⟨v, rfl, hown, hE1⟩
  obtain ⟨l, hl⟩ : ∃ l, l = rsAll s := ⟨_, rfl⟩
  have hlen : l.length ≤ 1000000 := by
    have := rs_len s s.size 0 (Nat.zero_le _)
    have h2 := HZ.out
    rw [hl]
    unfold rsAll
    omega
  rw [← hl] at hown
  have HL := Lib.hid hl
  clear hl
  have hin := SliceIn.of_owns hown
  obtain ⟨a, c, rfl, hc, hcm, ha, hcell⟩ := hin
  obtain ⟨n, hn⟩ : ∃ n, n = l.length := ⟨_, rfl⟩
  rw [← hn] at hc hlen ⊢
  unfold maxLen at hcm
  have HN := Lib.hid hn
  have HC : Hid (∀ k (h : k < l.length), ∃ b o, a = some ⟨b, o, none⟩ ∧ w1.cell? ⟨b, o + k * 4, none⟩ = some (.int .i32 l[k].r) ∧ w1.cell? ⟨b, o + k * 4 + 1, none⟩ = some (.int .i64 l[k].at_) ∧ w1.cell? ⟨b, o + k * 4 + 2, none⟩ = some (.int .i64 l[k].n) ∧ w1.cell? ⟨b, o + k * 4 + 3, none⟩ = some (.bool l[k].ok)) := by
    intro k h
    obtain ⟨g0, g1, g2, g3⟩ := rnCells_get l k h
    obtain ⟨b, o, rfl, h0⟩ := hcell _ _ g0
    obtain ⟨b1, o1, e1, h1⟩ := hcell _ _ g1
    obtain ⟨b2, o2, e2, h2⟩ := hcell _ _ g2
    obtain ⟨b3, o3, e3, h3⟩ := hcell _ _ g3
    cases e1; cases e2; cases e3
    exact ⟨b, o, rfl, h0, h1, h2, h3⟩
  clear hcell ha hown hn
  go_wp2
  go_loopw [4] (fun i wr => ∃ k : Nat, k ≤ n ∧ i = .int .i64 k ∧ Ext w1 wr ∧ Hid (nmLoop 0 l = nmLoop k (l.drop k))) (fun i _ => n - (intOf i).toNat)
  case atStart => exact ⟨0, Nat.zero_le _, rfl, Ext.refl w1, rfl⟩
  case round =>
    obtain ⟨k, hk, rfl, hE, HX⟩ := hrel
    by_cases hlt : k < n
    · have hkn : k < l.length := by rw [← HN.out]; exact hlt
      obtain ⟨b, o, rfl, h0, h1, h2, h3⟩ := HC.out k hkn
      have hD : nmLoop 0 l = (okN k l[k] && nmLoop (k + 1) (l.drop (k + 1))) := by rw [HX.out, List.drop_eq_getElem_cons hkn]; rfl
      obtain ⟨M, hM⟩ : ∃ M, M = l[k] := ⟨_, rfl⟩
      rw [← hM] at h0 h1 h2 h3 hD
      replace h0 := hE.cell h0
      replace h1 := hE.cell h1
      replace h2 := hE.cell h2
      replace h3 := hE.cell h3
      have HD := Lib.hid hD
      clear hM hD HX
      have hki : decide ((k : Int) < (n : Int)) = true := by simpa using hlt
      go_wp2_with fail
      refine (letter_any M wr).mono ?_
      obtain ⟨B, hB⟩ : ∃ B, B = letB M := ⟨_, rfl⟩
      rintro e w2 ⟨he, hE2⟩
      have he2 : e = .returned (.bool B) := by rw [hB]; exact he
      subst he2
      have HB := Lib.hid hB
      clear he hB
      replace h0 := hE2.cell h0
      replace hE := hE.trans hE2
      clear hE2 h1 h2 h3
      have BAD : okN k M = false → Hid (false = nameB s) := fun h => by
        show false = nameB s
        unfold nameB
        rw [← HL.out, HD.out, h]
        rfl
      have FIN : okN k M = true → Hid (nmLoop 0 l = nmLoop (k + 1) (l.drop (k + 1))) := fun h => by
        show nmLoop 0 l = _
        rw [HD.out, h]
        rfl
      cases B
      · have hok : okN k M = (!decide (k = 0) && (decide (48 ≤ M.r) && decide (M.r ≤ 57))) := by unfold okN; rw [← HB.out]; rfl
        by_cases hk0 : k = 0
        · have HF := BAD (by rw [hok, hk0]; rfl)
          clear hok BAD FIN
          subst hk0
          go_wp2_with fail
          go_ret
          exact ⟨ret_bool HF.out, hE1.trans hE⟩
        · have t0 : (((k : Int)) == 0) = false := by simp; omega
          by_cases h48 : M.r < 48
          · have HF := BAD (by rw [hok]; simp; omega)
            have t1 : decide ((M.r : Int) < 48) = true := by simp; omega
            clear hok BAD FIN
            go_wp2_with fail
            go_ret
            exact ⟨ret_bool HF.out, hE1.trans hE⟩
          · by_cases h57 : 57 < M.r
            · have HF := BAD (by rw [hok]; simp; omega)
              have t1 : decide ((M.r : Int) < 48) = false := by simp; omega
              have t2 : decide (57 < (M.r : Int)) = true := by simp; omega
              clear hok BAD FIN
              go_wp2_with fail
              go_ret
              exact ⟨ret_bool HF.out, hE1.trans hE⟩
            · have HF := FIN (by rw [hok]; simp; omega)
              have t1 : decide ((M.r : Int) < 48) = false := by simp; omega
              have t2 : decide (57 < (M.r : Int)) = false := by simp; omega
              clear hok BAD FIN
              go_wp2_with fail
              go_roundw
              case rel => exact ⟨k + 1, by omega, by go_num, hE, HF⟩
              case measure => simp [intOf] <;> omega
      · have HF := FIN (by unfold okN; rw [← HB.out]; rfl)
        clear BAD FIN
        go_wp2_with fail
        go_roundw
        case rel => exact ⟨k + 1, by omega, by go_num, hE, HF⟩
        case measure => simp [intOf] <;> omega
    · obtain rfl : k = n := by omega
      have hki : decide ((k : Int) < (k : Int)) = false := by simp
      have e1 : Hid (nmLoop 0 (rsAll s) = true) := by
        show nmLoop 0 (rsAll s) = true
        rw [← HL.out, HX.out, List.drop_eq_nil_of_le (by have := HN.out; omega)]
        rfl
      have e2 : Hid (nameB s = (decide (1 ≤ z) && decide (z ≤ 100))) := by
        show nameB s = _
        unfold nameB
        rw [e1.out, HZ.out]
        rfl
      clear HX e1
      by_cases z1 : 1 ≤ z
      · have t1 : decide (1 ≤ (z : Int)) = true := by simp; omega
        go_wp2_with fail
        go_ret
        exact ⟨ret_bool (by rw [e2.out, Bool.eq_iff_iff]; simp; omega), hE1.trans hE⟩
      · have t1 : decide (1 ≤ (z : Int)) = false := by simp; omega
        go_wp2_with fail
        go_ret
        exact ⟨ret_bool (by rw [e2.out, Bool.eq_iff_iff]; simp; omega), hE1.trans hE⟩
end Go.Proofs.YtfagnbofnaoncaaGreatDoor

/- The reference's Check of cells, of rows. -/
namespace Go.Proofs.YtfagnbofnaoncaaGreatDoor
open Go Go.RowKit
attribute [local go_sem] yields yUpon
set_option maxHeartbeats 400000 in
theorem stamp7_any (v : Int) (w : World) : Calls Tryz.prog 160 #[.int .i64 v] w fun e w' => e = .returned (.bool (stampB v)) ∧ w = w' := by
  by_cases h : 0 ≤ v
  all_goals
    go_enter Tryz.func160, Tryz.ntmps160
    go_wp2
    go_ret
    exact ⟨by unfold stampB; simp [h] <;> omega, rfl⟩

set_option maxHeartbeats 2000000 in
theorem check6_any (v : ByteArray) (d : Bool) (a e : Int) (w : World) :
    Calls Tryz.prog 159 #[.agg #[.string v, .bool d, .int .i64 a, .int .i64 e]] w fun r w' =>
      r = .returned (.bool (checkC v d a e)) ∧ Ext w w' := by
  by_cases h1 : a < 0
  · have t1 : decide (a < 0) = true := by simpa using h1
    go_enter Tryz.func159, Tryz.ntmps159
    go_wp2
    go_ret
    exact ⟨ret_bool (by unfold checkC stampB; simp; omega), (Ext.refl w).alloc _⟩
  · have t1 : decide (a < 0) = false := by simpa using h1
    cases t2 : decide (1099511627776 < a)
    · cases t3 : (a == 0)
      · cases d
        · go_enter Tryz.func159, Tryz.ntmps159
          go_wp2
          all_goals
            go_ret
            refine ⟨ret_bool ?_, (Ext.refl w).alloc _⟩
            rw [Bool.eq_iff_iff]
            simp_all [checkC, stampB]
            try omega
        · cases t4 : (v.toList == []) <;> cases t5 : (e == 0)
          all_goals
            go_enter Tryz.func159, Tryz.ntmps159
            go_wp2
          all_goals
            go_ret
            refine ⟨ret_bool ?_, (Ext.refl w).alloc _⟩
            rw [Bool.eq_iff_iff]
            simp_all [checkC, stampB]
            try omega
      · cases t4 : (v.toList == []) <;> cases t5 : (e == 0) <;> cases d
        all_goals
          go_enter Tryz.func159, Tryz.ntmps159
          go_wp2
        all_goals
          go_ret
          refine ⟨ret_bool ?_, (Ext.refl w).alloc _⟩
          rw [Bool.eq_iff_iff]
          simp_all [checkC, stampB]
          try omega
    · go_enter Tryz.func159, Tryz.ntmps159
      go_wp2
      go_ret
      exact ⟨ret_bool (by unfold checkC stampB; simp at t2 ⊢; omega), (Ext.refl w).alloc _⟩

set_option maxRecDepth 100000 in
set_option maxHeartbeats 4000000 in
theorem check7_bad (r : Ro) (v : Value) (w : World) (hin : ColsIn w v r.cols) (hb : hdB r = false) :
    Calls Tryz.prog 142 #[(.agg #[.string r.key, .string r.live.val, .bool r.live.dead, .int .i64 r.live.at_, .int .i64 r.live.fin, .int .i64 r.gone, .int .i64 r.shade, v])] w fun e w' => e = .returned (.bool false) ∧ Ext w w' := by
  obtain ⟨a, c, rfl, hc, hcm, hcell⟩ := hin.get
  clear hcell hin
  obtain ⟨key, ⟨val, dead, at_, fin⟩, gone, shade, cols⟩ := r
  have b0 : BoxAt (w.alloc (.cells (ro8 ⟨key, ⟨val, dead, at_, fin⟩, gone, shade, cols⟩ (.slice a cols.length c)) 58)) w.heap.size (ro8 ⟨key, ⟨val, dead, at_, fin⟩, gone, shade, cols⟩ (.slice a cols.length c)) 58 := BoxAt.made w _ _
  have hE0 : Ext w (w.alloc (.cells (ro8 ⟨key, ⟨val, dead, at_, fin⟩, gone, shade, cols⟩ (.slice a cols.length c)) 58)) := (Ext.refl w).alloc _
  obtain ⟨n, hn⟩ : ∃ n, n = cols.length := ⟨_, rfl⟩
  unfold hdB at hb
  dsimp only at hb hc ⊢
  rw [← hn] at hb hc b0 hE0 ⊢
  clear hn
  cases c1 : decide (400 < (key.size : Int))
  · cases c2 : checkC val dead at_ fin
    · clear hb
      go_enter Tryz.func142, Tryz.ntmps142
      go_wp2_with (first
        | (go_at_call 159; go_must (refine (check6_any _ _ _ _ _).mono ?_; rw [c2];rintro e w1 ⟨rfl, hE1⟩; replace hE0 := hE0.trans hE1; replace b0 := b0.ext hE1; obtain ⟨y0, y1, y2, y3, y4, y5, y6, y7⟩ := b0.ro))
        | (go_at_call 160; go_must (refine (stamp7_any _ _).mono ?_); rintro e w2 ⟨rfl, rfl⟩))
      go_ret
      exact ⟨rfl, by first | exact hE0 | exact Ext.refl _⟩
    · cases c3 : (val.toList == [])
      · clear hb
        go_enter Tryz.func142, Tryz.ntmps142
        go_wp2_with (first
          | (go_at_call 159; go_must (refine (check6_any _ _ _ _ _).mono ?_; rw [c2];rintro e w1 ⟨rfl, hE1⟩; replace hE0 := hE0.trans hE1; replace b0 := b0.ext hE1; obtain ⟨y0, y1, y2, y3, y4, y5, y6, y7⟩ := b0.ro))
          | (go_at_call 160; go_must (refine (stamp7_any _ _).mono ?_); rintro e w2 ⟨rfl, rfl⟩))
        go_ret
        exact ⟨rfl, by first | exact hE0 | exact Ext.refl _⟩
      · cases dead
        · cases c5 : stampB gone
          · clear hb
            go_enter Tryz.func142, Tryz.ntmps142
            go_wp2_with (first
              | (go_at_call 159; go_must (refine (check6_any _ _ _ _ _).mono ?_; rw [c2];rintro e w1 ⟨rfl, hE1⟩; replace hE0 := hE0.trans hE1; replace b0 := b0.ext hE1; obtain ⟨y0, y1, y2, y3, y4, y5, y6, y7⟩ := b0.ro))
              | (go_at_call 160; go_must (refine (stamp7_any _ _).mono ?_); rw [c5];rintro e w2 ⟨rfl, rfl⟩))
            go_ret
            exact ⟨rfl, by first | exact hE0 | exact Ext.refl _⟩
          · cases c6 : stampB shade
            · clear hb
              go_enter Tryz.func142, Tryz.ntmps142
              go_wp2_with (first
                | (go_at_call 159; go_must (refine (check6_any _ _ _ _ _).mono ?_; rw [c2];rintro e w1 ⟨rfl, hE1⟩; replace hE0 := hE0.trans hE1; replace b0 := b0.ext hE1; obtain ⟨y0, y1, y2, y3, y4, y5, y6, y7⟩ := b0.ro))
                | (go_at_call 160; go_must (refine (stamp7_any _ _).mono ?_); (first | rw [c5] | rw [c6]);rintro e w2 ⟨rfl, rfl⟩))
              go_ret
              exact ⟨rfl, by first | exact hE0 | exact Ext.refl _⟩
            · have c7 : decide (8 < (n : Int)) = true := by rw [c1, c2, c3, c5, c6] at hb; simpa using hb
              clear hb
              go_enter Tryz.func142, Tryz.ntmps142
              go_wp2_with (first
                | (go_at_call 159; go_must (refine (check6_any _ _ _ _ _).mono ?_; rw [c2];rintro e w1 ⟨rfl, hE1⟩; replace hE0 := hE0.trans hE1; replace b0 := b0.ext hE1; obtain ⟨y0, y1, y2, y3, y4, y5, y6, y7⟩ := b0.ro))
                | (go_at_call 160; go_must (refine (stamp7_any _ _).mono ?_); (first | rw [c5] | rw [c6]);rintro e w2 ⟨rfl, rfl⟩))
              go_ret
              exact ⟨rfl, by first | exact hE0 | exact Ext.refl _⟩
        · clear hb
          go_enter Tryz.func142, Tryz.ntmps142
          go_wp2_with (first
            | (go_at_call 159; go_must (refine (check6_any _ _ _ _ _).mono ?_; rw [c2];rintro e w1 ⟨rfl, hE1⟩; replace hE0 := hE0.trans hE1; replace b0 := b0.ext hE1; obtain ⟨y0, y1, y2, y3, y4, y5, y6, y7⟩ := b0.ro))
            | (go_at_call 160; go_must (refine (stamp7_any _ _).mono ?_); rintro e w2 ⟨rfl, rfl⟩))
          go_ret
          exact ⟨rfl, by first | exact hE0 | exact Ext.refl _⟩
  · clear hb
    go_enter Tryz.func142, Tryz.ntmps142
    go_wp2_with (first
      | (go_at_call 159; go_must (refine (check6_any _ _ _ _ _).mono ?_; rintro e w1 ⟨rfl, hE1⟩; replace hE0 := hE0.trans hE1; replace b0 := b0.ext hE1; obtain ⟨y0, y1, y2, y3, y4, y5, y6, y7⟩ := b0.ro))
      | (go_at_call 160; go_must (refine (stamp7_any _ _).mono ?_); rintro e w2 ⟨rfl, rfl⟩))
    go_ret
    exact ⟨rfl, by first | exact hE0 | exact Ext.refl _⟩
set_option maxRecDepth 100000 in
set_option maxHeartbeats 8000000 in
theorem check7_good (r : Ro) (v : Value) (w : World) (hin : ColsIn w v r.cols) (hb : hdB r = true) (hlow : ∀ k (h : k < r.cols.length), (r.cols[k]'h).name.size ≤ 1000000) :
    Calls Tryz.prog 142 #[(.agg #[.string r.key, .string r.live.val, .bool r.live.dead, .int .i64 r.live.at_, .int .i64 r.live.fin, .int .i64 r.gone, .int .i64 r.shade, v])] w fun e w' => e = .returned (.bool (csB none r.cols)) ∧ Ext w w' := by
  obtain ⟨a, c, rfl, hc, hcm, hcell⟩ := hin.get
  obtain ⟨c1, c2, c3, c4, c5, c6, c7⟩ := hdB_parts hb
  clear hin hb
  obtain ⟨key, ⟨val, dead, at_, fin⟩, gone, shade, l⟩ := r
  dsimp only at hcell hc c1 c2 c3 c4 c5 c6 c7 hlow ⊢
  subst c4
  have HC := Lib.hid hcell
  have HLow := Lib.hid hlow
  clear hcell hlow
  have b0 : BoxAt (w.alloc (.cells (ro8 ⟨key, ⟨val, false, at_, fin⟩, gone, shade, l⟩ (.slice a l.length c)) 58)) w.heap.size (ro8 ⟨key, ⟨val, false, at_, fin⟩, gone, shade, l⟩ (.slice a l.length c)) 58 := BoxAt.made w _ _
  have hE0 : Ext w (w.alloc (.cells (ro8 ⟨key, ⟨val, false, at_, fin⟩, gone, shade, l⟩ (.slice a l.length c)) 58)) := (Ext.refl w).alloc _
  go_enter Tryz.func142, Tryz.ntmps142
  go_wp2_with (first
    | (go_at_call 159; go_must (refine (check6_any _ _ _ _ _).mono ?_; rw [c2]; rintro e w1 ⟨rfl, hE1⟩; replace hE0 := hE0.trans hE1; replace b0 := b0.ext hE1; obtain ⟨y0, y1, y2, y3, y4, y5, y6, y7⟩ := b0.ro))
    | (go_at_call 160; go_must (refine (stamp7_any _ _).mono ?_); (first | rw [c5] | rw [c6]); rintro e w2 ⟨rfl, rfl⟩))
  clear y0 y1 y2 y3 y4 y5 y6 y7 c1 c2 c3 c5 c6 c7
  obtain ⟨wz, rfl⟩ : ∃ w', w' = w1 := ⟨_, rfl⟩
  go_loopw [3] (fun i wr => ∃ k : Nat, k ≤ l.length ∧ i = .int .i64 k ∧ BoxAt wr w.heap.size (ro8 ⟨key, ⟨val, false, at_, fin⟩, gone, shade, l⟩ (.slice a l.length c)) 58 ∧ Ext w wr ∧ Hid (csB none l = csB (prevM l k) (l.drop k))) (fun i _ => l.length - (intOf i).toNat)
  case atStart => exact ⟨0, Nat.zero_le _, rfl, b0, hE0, rfl⟩
  case round =>
    clear b0 hE0
    obtain ⟨k, hk, rfl, hbox, hE, HX⟩ := hrel
    by_cases hlt : k < l.length
    · obtain ⟨b, o, rfl, hco⟩ := HC.out k hlt
      obtain ⟨M, hM⟩ : ∃ M, M = l[k] := ⟨_, rfl⟩
      have hML := HLow.out k hlt
      rw [← hM] at hco hML
      have hD : l.drop k = M :: l.drop (k + 1) := by rw [hM]; exact List.drop_eq_getElem_cons hlt
      clear hM
      have HN := Lib.hid (prevM_succ hD)
      have HD := Lib.hid (HX.out.trans ((congrArg (csB (prevM l k)) hD).trans (csB_cons _ _ _)))
      have HML := Lib.hid hML
      clear hD HX hML
      replace hco := hco.ext hE
      obtain ⟨g0, g1, g2, g3, g4⟩ := hco
      have y7 := hbox.allocs
      obtain ⟨_, _, _, _, _, _, _, z7⟩ := hbox.ro
      go_wp2_with fail
      refine wp_region_in 32 [(2, fun v _ => v = .bool (nameB M.name)), (23, fun v _ => v = .bool (checkC M.cell.val M.cell.dead M.cell.at_ M.cell.fin))] (fun w0 => BoxAt w0 wr.heap.size (co5 M) 111 ∧ BoxAt w0 w.heap.size (ro8 ⟨key, ⟨val, false, at_, fin⟩, gone, shade, l⟩ (.slice (some ⟨b, o, none⟩) l.length c)) 58 ∧ Ext w w0) (by kernel_rfl) (by kernel_rfl) (by kernel_rfl) ⟨stays_eq _, stays_eq _, trivial⟩ ?_ ?_
      · exact ⟨BoxAt.made _ _ _, hbox.ext ((Ext.refl _).alloc _), hE.alloc _⟩
      clear hbox hE g0 g1 g2 g3 g4 y7 z7
      rintro w2 ⟨b2, b0, hE⟩
      have FIN : Hid (∀ wx, Ext w2 wx → BoxAt wx w.heap.size (ro8 ⟨key, ⟨val, false, at_, fin⟩, gone, shade, l⟩ (.slice (some ⟨b, o, none⟩) l.length c)) 58 ∧ Ext w wx) := fun wx h => ⟨b0.ext h, hE.trans h⟩
      obtain ⟨x0, x1, x2, x3, x4⟩ := b2.co
      obtain ⟨_, _, _, _, _, _, _, y7⟩ := b0.ro
      clear b2 b0
      replace x0 := held x0
      replace x1 := held x1
      replace x2 := held x2
      replace x3 := held x3
      replace x4 := held x4
      replace y7 := held y7
      cases e0 : nameB M.name
      · have HQ : Hid (csB none l = false) := by show csB none l = false; rw [HD.out, e0]; simp
        refine rg_quiet rfl rfl rfl rfl ?_; intro K hK; go_big_quiet_op; go_big_quiet_on
        refine rg_quiet rfl rfl rfl rfl ?_; intro K hK; go_big_quiet_op; go_big_quiet_on
        refine rg_val [] rfl rfl rfl (by kernel_rfl) (fun w1 hE hf => ?_) ?_
        · go_simp
          exact (rname_any _ HML.out w1).mono fun e w' ⟨he, hw⟩ => ⟨_, he, rg_done hE hw (bool_congr e0)⟩
        simp only [Act.put, List.setIfInBounds_toArray, List.set_cons_zero, List.set_cons_succ]
        refine rg_quiet rfl rfl rfl rfl ?_; intro K hK; go_big_quiet_op; go_big_quiet_on
        refine rg_quiet rfl rfl rfl rfl ?_; intro K hK; go_big_quiet_op; go_big_quiet_on
        refine rel_skip rfl rfl ?_
        simp only [Act.put, List.setIfInBounds_toArray, List.set_cons_zero, List.set_cons_succ]
        refine rel_skip rfl rfl ?_
        simp only [Act.put, List.setIfInBounds_toArray, List.set_cons_zero, List.set_cons_succ]
        refine rel_skip rfl rfl ?_
        simp only [Act.put, List.setIfInBounds_toArray, List.set_cons_zero, List.set_cons_succ]
        refine rel_skip rfl rfl ?_
        simp only [Act.put, List.setIfInBounds_toArray, List.set_cons_zero, List.set_cons_succ]
        refine rel_skip rfl rfl ?_
        simp only [Act.put, List.setIfInBounds_toArray, List.set_cons_zero, List.set_cons_succ]
        refine rel_skip rfl rfl ?_
        simp only [Act.put, List.setIfInBounds_toArray, List.set_cons_zero, List.set_cons_succ]
        refine rel_skip rfl rfl ?_
        simp only [Act.put, List.setIfInBounds_toArray, List.set_cons_zero, List.set_cons_succ]
        refine rel_skip rfl rfl ?_
        simp only [Act.put, List.setIfInBounds_toArray, List.set_cons_zero, List.set_cons_succ]
        refine rel_skip rfl rfl ?_
        simp only [Act.put, List.setIfInBounds_toArray, List.set_cons_zero, List.set_cons_succ]
        refine rel_skip rfl rfl ?_
        simp only [Act.put, List.setIfInBounds_toArray, List.set_cons_zero, List.set_cons_succ]
        refine rel_skip rfl rfl ?_
        simp only [Act.put, List.setIfInBounds_toArray, List.set_cons_zero, List.set_cons_succ]
        refine rel_skip rfl rfl ?_
        simp only [Act.put, List.setIfInBounds_toArray, List.set_cons_zero, List.set_cons_succ]
        refine rel_skip rfl rfl ?_
        simp only [Act.put, List.setIfInBounds_toArray, List.set_cons_zero, List.set_cons_succ]
        refine rel_skip rfl rfl ?_
        simp only [Act.put, List.setIfInBounds_toArray, List.set_cons_zero, List.set_cons_succ]
        refine rg_quiet rfl rfl rfl rfl ?_; intro K hK; go_big_quiet_op; go_big_quiet_on
        refine rg_quiet rfl rfl rfl rfl ?_; intro K hK; go_big_quiet_op; go_big_quiet_on
        refine rel_skip rfl rfl ?_
        simp only [Act.put, List.setIfInBounds_toArray, List.set_cons_zero, List.set_cons_succ]
        refine rel_skip rfl rfl ?_
        simp only [Act.put, List.setIfInBounds_toArray, List.set_cons_zero, List.set_cons_succ]
        refine rel_skip rfl rfl ?_
        simp only [Act.put, List.setIfInBounds_toArray, List.set_cons_zero, List.set_cons_succ]
        refine rel_skip rfl rfl ?_
        simp only [Act.put, List.setIfInBounds_toArray, List.set_cons_zero, List.set_cons_succ]
        refine rg_quiet rfl rfl rfl rfl ?_; intro K hK; go_big_quiet_op; go_big_quiet_on
        refine rg_quiet rfl rfl rfl rfl ?_; intro K hK; go_big_quiet_op; go_big_quiet_on
        refine rel_skip rfl rfl ?_
        simp only [Act.put, List.setIfInBounds_toArray, List.set_cons_zero, List.set_cons_succ]
        refine rel_skip rfl rfl ?_
        simp only [Act.put, List.setIfInBounds_toArray, List.set_cons_zero, List.set_cons_succ]
        refine rel_skip rfl rfl ?_
        simp only [Act.put, List.setIfInBounds_toArray, List.set_cons_zero, List.set_cons_succ]
        refine rel_skip rfl rfl ?_
        simp only [Act.put, List.setIfInBounds_toArray, List.set_cons_zero, List.set_cons_succ]
        refine rg_quiet rfl rfl rfl rfl ?_; intro K hK; go_big_quiet_op; go_big_quiet_on
        refine rel_nil fun w5 hE5 _ => ?_
        obtain ⟨b0, hE⟩ := FIN.out w5 hE5
        clear x0 x1 x2 x3 x4 y7 hE5 FIN e0
        go_wp2_with fail
        go_ret
        exact ⟨ret_bool HQ.out.symm, hE⟩
      · cases k with
        | zero =>
          have ho : Hid (orB (prevM l 0) M.name = true) := rfl
          refine rg_quiet rfl rfl rfl rfl ?_; intro K hK; go_big_quiet_op; go_big_quiet_on
          refine rg_quiet rfl rfl rfl rfl ?_; intro K hK; go_big_quiet_op; go_big_quiet_on
          refine rg_val [] rfl rfl rfl (by kernel_rfl) (fun w1 hE hf => ?_) ?_
          · go_simp
            exact (rname_any _ HML.out w1).mono fun e w' ⟨he, hw⟩ => ⟨_, he, rg_done hE hw (bool_congr e0)⟩
          simp only [Act.put, List.setIfInBounds_toArray, List.set_cons_zero, List.set_cons_succ]
          refine rg_quiet rfl rfl rfl rfl ?_; intro K hK; go_big_quiet_op; go_big_quiet_on
          refine rg_quiet rfl rfl rfl rfl ?_; intro K hK; go_big_quiet_op; go_big_quiet_on
          refine rg_quiet rfl rfl rfl rfl ?_; intro K hK; go_big_quiet_op; go_big_quiet_on
          refine rg_quiet rfl rfl rfl rfl ?_; intro K hK; go_big_quiet_op; go_big_quiet_on
          refine rg_quiet rfl rfl rfl rfl ?_; intro K hK; go_big_quiet_op; go_big_quiet_on
          refine rel_skip rfl rfl ?_
          simp only [Act.put, List.setIfInBounds_toArray, List.set_cons_zero, List.set_cons_succ]
          refine rel_skip rfl rfl ?_
          simp only [Act.put, List.setIfInBounds_toArray, List.set_cons_zero, List.set_cons_succ]
          refine rel_skip rfl rfl ?_
          simp only [Act.put, List.setIfInBounds_toArray, List.set_cons_zero, List.set_cons_succ]
          refine rel_skip rfl rfl ?_
          simp only [Act.put, List.setIfInBounds_toArray, List.set_cons_zero, List.set_cons_succ]
          refine rel_skip rfl rfl ?_
          simp only [Act.put, List.setIfInBounds_toArray, List.set_cons_zero, List.set_cons_succ]
          refine rel_skip rfl rfl ?_
          simp only [Act.put, List.setIfInBounds_toArray, List.set_cons_zero, List.set_cons_succ]
          refine rel_skip rfl rfl ?_
          simp only [Act.put, List.setIfInBounds_toArray, List.set_cons_zero, List.set_cons_succ]
          refine rel_skip rfl rfl ?_
          simp only [Act.put, List.setIfInBounds_toArray, List.set_cons_zero, List.set_cons_succ]
          refine rel_skip rfl rfl ?_
          simp only [Act.put, List.setIfInBounds_toArray, List.set_cons_zero, List.set_cons_succ]
          refine rel_skip rfl rfl ?_
          simp only [Act.put, List.setIfInBounds_toArray, List.set_cons_zero, List.set_cons_succ]
          refine rg_quiet rfl rfl rfl rfl ?_; intro K hK; go_big_quiet_op; go_big_quiet_on
          refine rg_quiet rfl rfl rfl rfl ?_; intro K hK; go_big_quiet_op; go_big_quiet_on
          refine rg_quiet rfl rfl rfl rfl ?_; intro K hK; go_big_quiet_op; go_big_quiet_on
          cases e2 : checkC M.cell.val M.cell.dead M.cell.at_ M.cell.fin
          · have HQ : Hid (csB none l = false) := by show csB none l = false; rw [HD.out, e0, ho.out, e2]; simp
            refine rg_quiet rfl rfl rfl rfl ?_; intro K hK; go_big_quiet_op; go_big_quiet_on
            refine rg_quiet rfl rfl rfl rfl ?_; intro K hK; go_big_quiet_op; go_big_quiet_on
            refine rg_val [] rfl rfl rfl (by kernel_rfl) (fun w1 hE hf => ?_) ?_
            · go_simp
              exact (check6_any _ _ _ _ w1).mono fun e w' ⟨he, hw⟩ => ⟨_, he, rg_done hE hw (bool_congr e2)⟩
            simp only [Act.put, List.setIfInBounds_toArray, List.set_cons_zero, List.set_cons_succ]
            refine rg_quiet rfl rfl rfl rfl ?_; intro K hK; go_big_quiet_op; go_big_quiet_on
            refine rg_quiet rfl rfl rfl rfl ?_; intro K hK; go_big_quiet_op; go_big_quiet_on
            refine rg_quiet rfl rfl rfl rfl ?_; intro K hK; go_big_quiet_op; go_big_quiet_on
            refine rel_skip rfl rfl ?_
            simp only [Act.put, List.setIfInBounds_toArray, List.set_cons_zero, List.set_cons_succ]
            refine rel_skip rfl rfl ?_
            simp only [Act.put, List.setIfInBounds_toArray, List.set_cons_zero, List.set_cons_succ]
            refine rel_skip rfl rfl ?_
            simp only [Act.put, List.setIfInBounds_toArray, List.set_cons_zero, List.set_cons_succ]
            refine rel_skip rfl rfl ?_
            simp only [Act.put, List.setIfInBounds_toArray, List.set_cons_zero, List.set_cons_succ]
            refine rg_quiet rfl rfl rfl rfl ?_; intro K hK; go_big_quiet_op; go_big_quiet_on
            refine rel_nil fun w5 hE5 _ => ?_
            obtain ⟨b0, hE⟩ := FIN.out w5 hE5
            clear x0 x1 x2 x3 x4 y7 hE5 FIN e0 e2 
            go_wp2_with fail
            go_ret
            exact ⟨ret_bool HQ.out.symm, hE⟩
          · cases e3 : decide (0 < M.cell.at_)
            · have e4 : decide (M.cell.at_ < 1) = true := by simp at e3 ⊢ <;> omega
              have HQ : Hid (csB none l = false) := by show csB none l = false; rw [HD.out, e0, ho.out, e2, e3]; simp
              refine rg_quiet rfl rfl rfl rfl ?_; intro K hK; go_big_quiet_op; go_big_quiet_on
              refine rg_quiet rfl rfl rfl rfl ?_; intro K hK; go_big_quiet_op; go_big_quiet_on
              refine rg_val [] rfl rfl rfl (by kernel_rfl) (fun w1 hE hf => ?_) ?_
              · go_simp
                exact (check6_any _ _ _ _ w1).mono fun e w' ⟨he, hw⟩ => ⟨_, he, rg_done hE hw (bool_congr e2)⟩
              simp only [Act.put, List.setIfInBounds_toArray, List.set_cons_zero, List.set_cons_succ]
              refine rg_quiet rfl rfl rfl rfl ?_; intro K hK; go_big_quiet_op; go_big_quiet_on
              refine rg_quiet rfl rfl rfl rfl ?_; intro K hK; go_big_quiet_op; go_big_quiet_on
              refine rg_quiet rfl rfl rfl rfl ?_; intro K hK; go_big_quiet_op; go_big_quiet_on
              refine rg_quiet rfl rfl rfl rfl ?_; intro K hK; go_big_quiet_op; go_big_quiet_on
              refine rg_quiet rfl rfl rfl rfl ?_; intro K hK; go_big_quiet_op; go_big_quiet_on
              refine rg_quiet rfl rfl rfl rfl ?_; intro K hK; go_big_quiet_op; go_big_quiet_on
              refine rg_quiet rfl rfl rfl rfl ?_; intro K hK; go_big_quiet_op; go_big_quiet_on
              refine rg_quiet rfl rfl rfl rfl ?_; intro K hK; go_big_quiet_op; go_big_quiet_on
              refine rel_nil fun w5 hE5 _ => ?_
              obtain ⟨b0, hE⟩ := FIN.out w5 hE5
              clear x0 x1 x2 x3 x4 y7 hE5 FIN e0 e2 e3 
              go_wp2_with fail
              go_ret
              exact ⟨ret_bool HQ.out.symm, hE⟩
            · have e4 : decide (M.cell.at_ < 1) = false := by simp at e3 ⊢ <;> omega
              have HQ : Hid (csB none l = csB (prevM l (0 + 1)) (l.drop (0 + 1))) := by show csB none l = _; rw [HD.out, e0, ho.out, e2, e3, HN.out]; rfl
              refine rg_quiet rfl rfl rfl rfl ?_; intro K hK; go_big_quiet_op; go_big_quiet_on
              refine rg_quiet rfl rfl rfl rfl ?_; intro K hK; go_big_quiet_op; go_big_quiet_on
              refine rg_val [] rfl rfl rfl (by kernel_rfl) (fun w1 hE hf => ?_) ?_
              · go_simp
                exact (check6_any _ _ _ _ w1).mono fun e w' ⟨he, hw⟩ => ⟨_, he, rg_done hE hw (bool_congr e2)⟩
              simp only [Act.put, List.setIfInBounds_toArray, List.set_cons_zero, List.set_cons_succ]
              refine rg_quiet rfl rfl rfl rfl ?_; intro K hK; go_big_quiet_op; go_big_quiet_on
              refine rg_quiet rfl rfl rfl rfl ?_; intro K hK; go_big_quiet_op; go_big_quiet_on
              refine rg_quiet rfl rfl rfl rfl ?_; intro K hK; go_big_quiet_op; go_big_quiet_on
              refine rg_quiet rfl rfl rfl rfl ?_; intro K hK; go_big_quiet_op; go_big_quiet_on
              refine rg_quiet rfl rfl rfl rfl ?_; intro K hK; go_big_quiet_op; go_big_quiet_on
              refine rg_quiet rfl rfl rfl rfl ?_; intro K hK; go_big_quiet_op; go_big_quiet_on
              refine rg_quiet rfl rfl rfl rfl ?_; intro K hK; go_big_quiet_op; go_big_quiet_on
              refine rg_quiet rfl rfl rfl rfl ?_; intro K hK; go_big_quiet_op; go_big_quiet_on
              refine rel_nil fun w5 hE5 _ => ?_
              obtain ⟨b0, hE⟩ := FIN.out w5 hE5
              clear x0 x1 x2 x3 x4 y7 hE5 FIN e0 e2 e3 
              go_wp2_with fail
              go_roundw
              case rel => exact ⟨0 + 1, by omega, by go_num, b0, hE, HQ.out⟩
              case measure => simp [intOf] <;> omega
        | succ j =>
          have hj : j < l.length := by omega
          obtain ⟨b', o', e', hp⟩ := HC.out j hj
          cases e'
          replace hp := held (hE.cell hp.c0)
          obtain ⟨Pn, hPn⟩ : ∃ Pn, Pn = l[j].name := ⟨_, rfl⟩
          rw [← hPn] at hp
          have HO : Hid (orB (prevM l (j + 1)) M.name = Op.bytesLess Pn.toList M.name.toList) := by show orB (prevM l (j + 1)) M.name = _; simp [prevM, hj, orB, hPn]
          clear hPn
          have hw : IntKind.i64.wrap ((j : Int) + 1 - 1) = (j : Int) := by rw [IntKind.wrap_i64]; omega
          have hjl : decide ((j : Int) < (l.length : Int)) = true := by simpa using hj
          have hj0 : decide ((0 : Int) < (j : Int) + 1) = true := decide_eq_true (by omega)
          have hle := less_leq M.name.toList Pn.toList
          cases eo : Op.bytesLess Pn.toList M.name.toList
          all_goals rw [eo] at hle
          · have ho : Hid (orB (prevM l (j + 1)) M.name = false) := HO.out.trans eo
            have HQ : Hid (csB none l = false) := by show csB none l = false; rw [HD.out, e0, ho.out]; simp
            refine rg_quiet rfl rfl rfl rfl ?_; intro K hK; go_big_quiet_op; go_big_quiet_on
            refine rg_quiet rfl rfl rfl rfl ?_; intro K hK; go_big_quiet_op; go_big_quiet_on
            refine rg_val [] rfl rfl rfl (by kernel_rfl) (fun w1 hE hf => ?_) ?_
            · go_simp
              exact (rname_any _ HML.out w1).mono fun e w' ⟨he, hw⟩ => ⟨_, he, rg_done hE hw (bool_congr e0)⟩
            simp only [Act.put, List.setIfInBounds_toArray, List.set_cons_zero, List.set_cons_succ]
            refine rg_quiet rfl rfl rfl rfl ?_; intro K hK; go_big_quiet_op; go_big_quiet_on
            refine rg_quiet rfl rfl rfl rfl ?_; intro K hK; go_big_quiet_op; go_big_quiet_on
            refine rg_quiet rfl rfl rfl rfl ?_; intro K hK; go_big_quiet_op; go_big_quiet_on
            refine rg_quiet rfl rfl rfl rfl ?_; intro K hK; go_big_quiet_op; go_big_quiet_on
            refine rg_quiet rfl rfl rfl rfl ?_; intro K hK; go_big_quiet_op; go_big_quiet_on
            refine rg_quiet rfl rfl rfl rfl ?_; intro K hK; go_big_quiet_op; go_big_quiet_on
            refine rg_quiet rfl rfl rfl rfl ?_; intro K hK; go_big_quiet_op; go_big_quiet_on
            refine rg_quiet rfl rfl rfl rfl ?_; intro K hK; go_big_quiet_op; go_big_quiet_on
            refine rg_quiet rfl rfl rfl rfl ?_; intro K hK; go_big_quiet_op; go_big_quiet_on
            refine rg_quiet rfl rfl rfl rfl ?_; intro K hK; go_big_quiet_op; go_big_quiet_on
            refine rg_quiet rfl rfl rfl rfl ?_; intro K hK; go_big_quiet_op; go_big_quiet_on
            refine rg_quiet rfl rfl rfl rfl ?_; intro K hK; go_big_quiet_op; go_big_quiet_on
            refine rg_quiet rfl rfl rfl rfl ?_; intro K hK; go_big_quiet_op; go_big_quiet_on
            refine rg_quiet rfl rfl rfl rfl ?_; intro K hK; go_big_quiet_op; go_big_quiet_on
            refine rg_quiet rfl rfl rfl rfl ?_; intro K hK; go_big_quiet_op; go_big_quiet_on
            refine rg_quiet rfl rfl rfl rfl ?_; intro K hK; go_big_quiet_op; go_big_quiet_on
            refine rg_quiet rfl rfl rfl rfl ?_; intro K hK; go_big_quiet_op; go_big_quiet_on
            refine rg_quiet rfl rfl rfl rfl ?_; intro K hK; go_big_quiet_op; go_big_quiet_on
            refine rel_skip rfl rfl ?_
            simp only [Act.put, List.setIfInBounds_toArray, List.set_cons_zero, List.set_cons_succ]
            refine rel_skip rfl rfl ?_
            simp only [Act.put, List.setIfInBounds_toArray, List.set_cons_zero, List.set_cons_succ]
            refine rel_skip rfl rfl ?_
            simp only [Act.put, List.setIfInBounds_toArray, List.set_cons_zero, List.set_cons_succ]
            refine rel_skip rfl rfl ?_
            simp only [Act.put, List.setIfInBounds_toArray, List.set_cons_zero, List.set_cons_succ]
            refine rg_quiet rfl rfl rfl rfl ?_; intro K hK; go_big_quiet_op; go_big_quiet_on
            refine rg_quiet rfl rfl rfl rfl ?_; intro K hK; go_big_quiet_op; go_big_quiet_on
            refine rel_skip rfl rfl ?_
            simp only [Act.put, List.setIfInBounds_toArray, List.set_cons_zero, List.set_cons_succ]
            refine rel_skip rfl rfl ?_
            simp only [Act.put, List.setIfInBounds_toArray, List.set_cons_zero, List.set_cons_succ]
            refine rel_skip rfl rfl ?_
            simp only [Act.put, List.setIfInBounds_toArray, List.set_cons_zero, List.set_cons_succ]
            refine rel_skip rfl rfl ?_
            simp only [Act.put, List.setIfInBounds_toArray, List.set_cons_zero, List.set_cons_succ]
            refine rg_quiet rfl rfl rfl rfl ?_; intro K hK; go_big_quiet_op; go_big_quiet_on
            refine rel_nil fun w5 hE5 _ => ?_
            obtain ⟨b0, hE⟩ := FIN.out w5 hE5
            clear x0 x1 x2 x3 x4 y7 hE5 FIN e0 eo hp hle
            go_wp2_with fail
            go_ret
            exact ⟨ret_bool HQ.out.symm, hE⟩
          · have ho : Hid (orB (prevM l (j + 1)) M.name = true) := HO.out.trans eo
            refine rg_quiet rfl rfl rfl rfl ?_; intro K hK; go_big_quiet_op; go_big_quiet_on
            refine rg_quiet rfl rfl rfl rfl ?_; intro K hK; go_big_quiet_op; go_big_quiet_on
            refine rg_val [] rfl rfl rfl (by kernel_rfl) (fun w1 hE hf => ?_) ?_
            · go_simp
              exact (rname_any _ HML.out w1).mono fun e w' ⟨he, hw⟩ => ⟨_, he, rg_done hE hw (bool_congr e0)⟩
            simp only [Act.put, List.setIfInBounds_toArray, List.set_cons_zero, List.set_cons_succ]
            refine rg_quiet rfl rfl rfl rfl ?_; intro K hK; go_big_quiet_op; go_big_quiet_on
            refine rg_quiet rfl rfl rfl rfl ?_; intro K hK; go_big_quiet_op; go_big_quiet_on
            refine rg_quiet rfl rfl rfl rfl ?_; intro K hK; go_big_quiet_op; go_big_quiet_on
            refine rg_quiet rfl rfl rfl rfl ?_; intro K hK; go_big_quiet_op; go_big_quiet_on
            refine rg_quiet rfl rfl rfl rfl ?_; intro K hK; go_big_quiet_op; go_big_quiet_on
            refine rg_quiet rfl rfl rfl rfl ?_; intro K hK; go_big_quiet_op; go_big_quiet_on
            refine rg_quiet rfl rfl rfl rfl ?_; intro K hK; go_big_quiet_op; go_big_quiet_on
            refine rg_quiet rfl rfl rfl rfl ?_; intro K hK; go_big_quiet_op; go_big_quiet_on
            refine rg_quiet rfl rfl rfl rfl ?_; intro K hK; go_big_quiet_op; go_big_quiet_on
            refine rg_quiet rfl rfl rfl rfl ?_; intro K hK; go_big_quiet_op; go_big_quiet_on
            refine rg_quiet rfl rfl rfl rfl ?_; intro K hK; go_big_quiet_op; go_big_quiet_on
            refine rg_quiet rfl rfl rfl rfl ?_; intro K hK; go_big_quiet_op; go_big_quiet_on
            refine rg_quiet rfl rfl rfl rfl ?_; intro K hK; go_big_quiet_op; go_big_quiet_on
            refine rg_quiet rfl rfl rfl rfl ?_; intro K hK; go_big_quiet_op; go_big_quiet_on
            refine rg_quiet rfl rfl rfl rfl ?_; intro K hK; go_big_quiet_op; go_big_quiet_on
            refine rg_quiet rfl rfl rfl rfl ?_; intro K hK; go_big_quiet_op; go_big_quiet_on
            refine rg_quiet rfl rfl rfl rfl ?_; intro K hK; go_big_quiet_op; go_big_quiet_on
            refine rg_quiet rfl rfl rfl rfl ?_; intro K hK; go_big_quiet_op; go_big_quiet_on
            cases e2 : checkC M.cell.val M.cell.dead M.cell.at_ M.cell.fin
            · have HQ : Hid (csB none l = false) := by show csB none l = false; rw [HD.out, e0, ho.out, e2]; simp
              refine rg_quiet rfl rfl rfl rfl ?_; intro K hK; go_big_quiet_op; go_big_quiet_on
              refine rg_quiet rfl rfl rfl rfl ?_; intro K hK; go_big_quiet_op; go_big_quiet_on
              refine rg_val [] rfl rfl rfl (by kernel_rfl) (fun w1 hE hf => ?_) ?_
              · go_simp
                exact (check6_any _ _ _ _ w1).mono fun e w' ⟨he, hw⟩ => ⟨_, he, rg_done hE hw (bool_congr e2)⟩
              simp only [Act.put, List.setIfInBounds_toArray, List.set_cons_zero, List.set_cons_succ]
              refine rg_quiet rfl rfl rfl rfl ?_; intro K hK; go_big_quiet_op; go_big_quiet_on
              refine rg_quiet rfl rfl rfl rfl ?_; intro K hK; go_big_quiet_op; go_big_quiet_on
              refine rg_quiet rfl rfl rfl rfl ?_; intro K hK; go_big_quiet_op; go_big_quiet_on
              refine rel_skip rfl rfl ?_
              simp only [Act.put, List.setIfInBounds_toArray, List.set_cons_zero, List.set_cons_succ]
              refine rel_skip rfl rfl ?_
              simp only [Act.put, List.setIfInBounds_toArray, List.set_cons_zero, List.set_cons_succ]
              refine rel_skip rfl rfl ?_
              simp only [Act.put, List.setIfInBounds_toArray, List.set_cons_zero, List.set_cons_succ]
              refine rel_skip rfl rfl ?_
              simp only [Act.put, List.setIfInBounds_toArray, List.set_cons_zero, List.set_cons_succ]
              refine rg_quiet rfl rfl rfl rfl ?_; intro K hK; go_big_quiet_op; go_big_quiet_on
              refine rel_nil fun w5 hE5 _ => ?_
              obtain ⟨b0, hE⟩ := FIN.out w5 hE5
              clear x0 x1 x2 x3 x4 y7 hE5 FIN e0 e2 eo hp hle
              go_wp2_with fail
              go_ret
              exact ⟨ret_bool HQ.out.symm, hE⟩
            · cases e3 : decide (0 < M.cell.at_)
              · have e4 : decide (M.cell.at_ < 1) = true := by simp at e3 ⊢ <;> omega
                have HQ : Hid (csB none l = false) := by show csB none l = false; rw [HD.out, e0, ho.out, e2, e3]; simp
                refine rg_quiet rfl rfl rfl rfl ?_; intro K hK; go_big_quiet_op; go_big_quiet_on
                refine rg_quiet rfl rfl rfl rfl ?_; intro K hK; go_big_quiet_op; go_big_quiet_on
                refine rg_val [] rfl rfl rfl (by kernel_rfl) (fun w1 hE hf => ?_) ?_
                · go_simp
                  exact (check6_any _ _ _ _ w1).mono fun e w' ⟨he, hw⟩ => ⟨_, he, rg_done hE hw (bool_congr e2)⟩
                simp only [Act.put, List.setIfInBounds_toArray, List.set_cons_zero, List.set_cons_succ]
                refine rg_quiet rfl rfl rfl rfl ?_; intro K hK; go_big_quiet_op; go_big_quiet_on
                refine rg_quiet rfl rfl rfl rfl ?_; intro K hK; go_big_quiet_op; go_big_quiet_on
                refine rg_quiet rfl rfl rfl rfl ?_; intro K hK; go_big_quiet_op; go_big_quiet_on
                refine rg_quiet rfl rfl rfl rfl ?_; intro K hK; go_big_quiet_op; go_big_quiet_on
                refine rg_quiet rfl rfl rfl rfl ?_; intro K hK; go_big_quiet_op; go_big_quiet_on
                refine rg_quiet rfl rfl rfl rfl ?_; intro K hK; go_big_quiet_op; go_big_quiet_on
                refine rg_quiet rfl rfl rfl rfl ?_; intro K hK; go_big_quiet_op; go_big_quiet_on
                refine rg_quiet rfl rfl rfl rfl ?_; intro K hK; go_big_quiet_op; go_big_quiet_on
                refine rel_nil fun w5 hE5 _ => ?_
                obtain ⟨b0, hE⟩ := FIN.out w5 hE5
                clear x0 x1 x2 x3 x4 y7 hE5 FIN e0 e2 e3 eo hp hle
                go_wp2_with fail
                go_ret
                exact ⟨ret_bool HQ.out.symm, hE⟩
              · have e4 : decide (M.cell.at_ < 1) = false := by simp at e3 ⊢ <;> omega
                have HQ : Hid (csB none l = csB (prevM l ((j + 1) + 1)) (l.drop ((j + 1) + 1))) := by show csB none l = _; rw [HD.out, e0, ho.out, e2, e3, HN.out]; rfl
                refine rg_quiet rfl rfl rfl rfl ?_; intro K hK; go_big_quiet_op; go_big_quiet_on
                refine rg_quiet rfl rfl rfl rfl ?_; intro K hK; go_big_quiet_op; go_big_quiet_on
                refine rg_val [] rfl rfl rfl (by kernel_rfl) (fun w1 hE hf => ?_) ?_
                · go_simp
                  exact (check6_any _ _ _ _ w1).mono fun e w' ⟨he, hw⟩ => ⟨_, he, rg_done hE hw (bool_congr e2)⟩
                simp only [Act.put, List.setIfInBounds_toArray, List.set_cons_zero, List.set_cons_succ]
                refine rg_quiet rfl rfl rfl rfl ?_; intro K hK; go_big_quiet_op; go_big_quiet_on
                refine rg_quiet rfl rfl rfl rfl ?_; intro K hK; go_big_quiet_op; go_big_quiet_on
                refine rg_quiet rfl rfl rfl rfl ?_; intro K hK; go_big_quiet_op; go_big_quiet_on
                refine rg_quiet rfl rfl rfl rfl ?_; intro K hK; go_big_quiet_op; go_big_quiet_on
                refine rg_quiet rfl rfl rfl rfl ?_; intro K hK; go_big_quiet_op; go_big_quiet_on
                refine rg_quiet rfl rfl rfl rfl ?_; intro K hK; go_big_quiet_op; go_big_quiet_on
                refine rg_quiet rfl rfl rfl rfl ?_; intro K hK; go_big_quiet_op; go_big_quiet_on
                refine rg_quiet rfl rfl rfl rfl ?_; intro K hK; go_big_quiet_op; go_big_quiet_on
                refine rel_nil fun w5 hE5 _ => ?_
                obtain ⟨b0, hE⟩ := FIN.out w5 hE5
                clear x0 x1 x2 x3 x4 y7 hE5 FIN e0 e2 e3 eo hp hle
                go_wp2_with fail
                go_roundw
                case rel => exact ⟨(j + 1) + 1, by omega, by go_num, b0, hE, HQ.out⟩
                case measure => simp [intOf] <;> omega
    · obtain rfl : k = l.length := by omega
      obtain ⟨_, _, _, _, _, _, _, z7⟩ := hbox.ro
      have HQ : Hid (csB none l = true) := by show csB none l = true; rw [HX.out, List.drop_length]; rfl
      go_wp2_with fail
      go_ret
      exact ⟨ret_bool HQ.out.symm, hE⟩
theorem check7_any (r : Ro) (v : Value) (w : World) (hin : ColsIn w v r.cols) (hlow : ∀ c ∈ r.cols, c.name.size ≤ 1000000) :
    Calls Tryz.prog 142 #[(.agg #[.string r.key, .string r.live.val, .bool r.live.dead, .int .i64 r.live.at_, .int .i64 r.live.fin, .int .i64 r.gone, .int .i64 r.shade, v])] w fun e w' => e = .returned (.bool (rwB r)) ∧ Ext w w' := by
  cases hb : hdB r
  · have e : rwB r = false := by unfold rwB; rw [hb]; rfl
    rw [e]
    exact check7_bad r v w hin hb
  · have e : rwB r = csB none r.cols := by unfold rwB; rw [hb]; rfl
    rw [e]
    exact check7_good r v w hin hb fun k h => hlow _ (List.getElem_mem h)
end Go.Proofs.YtfagnbofnaoncaaGreatDoor

/- The reference's Check of partitions. -/
namespace Go.Proofs.YtfagnbofnaoncaaGreatDoor
open Go Go.RowKit
attribute [local go_sem] yields yUpon ro8 pa3
set_option maxRecDepth 100000 in
set_option maxHeartbeats 8000000 in
theorem check8_any (pk : ByteArray) (pg : Int) (pu : Value) (ps : List (Ro × Value)) (w : World) (hin : RowsIn w pu ps) (hlow : ∀ p ∈ ps, ∀ c ∈ p.1.cols, c.name.size ≤ 1000000) :
    Calls Tryz.prog 101 #[.agg #[.string pk, .int .i64 pg, pu]] w fun e w' => e = .returned (.bool (ptB pk pg (ps.map (·.1)))) ∧ Ext w w' := by
  have a0 := BoxAt.made w (pa3 pk pg pu) 50
  have hE := (Ext.refl w).alloc (.cells (pa3 pk pg pu) 50)
  obtain ⟨aa, ca, rfl, hca, hcma, hget⟩ := hin.get
  have c0 := a0.pa
  obtain ⟨n, hn⟩ : ∃ n, n = ps.length := ⟨_, rfl⟩
  rw [← hn] at hca a0 hE c0 ⊢
  obtain ⟨P, hP⟩ : ∃ P, P = ptB pk pg (ps.map (·.1)) := ⟨_, rfl⟩
  have hP2 : P = (!decide (100 < (pk.size : Int)) && !decide (pg < 0) && !decide (1099511627776 < pg) && !decide (100 < (n : Int)) && rsB none (ps.map (·.1))) := by rw [hP, hn]; unfold ptB; rw [List.length_map]
  rw [← hP]
  have HP := Lib.hid hP2
  have HN := Lib.hid hn
  have HGET := Lib.hid hget
  have HC := Lib.hid hin.cols
  have HL := Lib.hid hlow
  clear hn hget hin hP hP2 hlow
  cases q1 : decide (100 < (pk.size : Int))
  · cases q2 : decide (pg < 0)
    · cases q3 : decide (1099511627776 < pg)
      · cases q4 : decide (100 < (n : Int))
        · have HP2 : Hid (P = rsB none (ps.map (·.1))) := by show P = _; rw [HP.out, q1, q2, q3, q4]; rfl
          clear HP
          go_enter Tryz.func101, Tryz.ntmps101
          go_wp2_with fail
          go_loopw [3] (fun i wr => ∃ k : Nat, k ≤ n ∧ i = .int .i64 k ∧ BoxAt wr w.heap.size (pa3 pk pg (.slice aa n ca)) 50 ∧ Ext w wr ∧ Hid (P = rsB (prevR ps k) ((ps.drop k).map (·.1)))) (fun i _ => n - (intOf i).toNat)
          case atStart => exact ⟨0, Nat.zero_le _, rfl, a0, hE, HP2⟩
          case round =>
            obtain ⟨k, hkn, rfl, b0, hE1, HX⟩ := hrel
            clear a0 c0 hE q1 q2 q3 q4 HP2
            obtain ⟨z0, z1, z2⟩ := b0.pa
            by_cases hlt : k < n
            · have hkp : k < ps.length := by rw [← HN.out]; exact hlt
              have hD : ps.drop k = ps[k] :: ps.drop (k + 1) := List.drop_eq_getElem_cons hkp
              have hD2 : P = (rwB ps[k].1 && orB (prevR ps k) ps[k].1.key && rsB (prevR ps (k + 1)) ((ps.drop (k + 1)).map (·.1))) := by
                rw [HX.out, prevR_succ hD, hD]
                rfl
              obtain ⟨b, o, rfl, hat⟩ := HGET.out k hkp
              have hcu := HC.out _ (List.getElem_mem hkp)
              have hll := HL.out _ (List.getElem_mem hkp)
              obtain ⟨M, hM⟩ : ∃ M, M = ps[k].1 := ⟨_, rfl⟩
              obtain ⟨au, cu, hu⟩ := hcu.shape
              have HM := Lib.hid hM
              rw [← hM] at hat hu hcu hll hD2
              rw [hu] at hat hcu
              have HD := Lib.hid hD2
              clear hM hu hD hD2 HX
              obtain ⟨m, hm⟩ : ∃ m, m = M.cols.length := ⟨_, rfl⟩
              rw [← hm] at hat hcu
              have HMM := Lib.hid hm
              have HLL := Lib.hid hll
              clear hm hll
              have hki : decide ((k : Int) < (n : Int)) = true := by simpa using hlt
              have hat1 := hat.ext hE1
              have hcu1 := hcu.ext hE1
              clear hat hcu
              obtain ⟨B, hB⟩ : ∃ B, B = rwB M := ⟨_, rfl⟩
              have HB := Lib.hid hB
              rw [← hB] at HD
              clear hB
              go_wp2_with fail
              refine wp_region_in 27 [(5, fun v _ => v = .bool B)] (fun y => RoAt y b (o + k * 8) M (.slice au m cu) ∧ BoxAt y w.heap.size (pa3 pk pg (.slice (some ⟨b, o, none⟩) n ca)) 50 ∧ ColsIn y (.slice au m cu) M.cols ∧ Ext w y) (by kernel_rfl) (by kernel_rfl) (by kernel_rfl) ⟨stays_eq _, trivial⟩ ⟨hat1, b0, hcu1, hE1⟩ ?_
              clear hat1 b0 hcu1 hE1 z0 z1 z2
              rintro w5 ⟨hat, b5, hcu, hE⟩
              have FIN : Hid (∀ wx, Ext w5 wx → BoxAt wx w.heap.size (pa3 pk pg (.slice (some ⟨b, o, none⟩) n ca)) 50 ∧ Ext w wx) := fun wx h => ⟨b5.ext h, hE.trans h⟩
              obtain ⟨x0, x1, x2, x3, x4, x5, x6, x7⟩ := hat
              obtain ⟨y0, y1, y2⟩ := b5.pa
              clear b5
              replace x0 := held x0
              replace x1 := held x1
              replace x2 := held x2
              replace x3 := held x3
              replace x4 := held x4
              replace x5 := held x5
              replace x6 := held x6
              replace x7 := held x7
              replace y2 := held y2
              clear y0 y1
              refine rg_quiet rfl rfl rfl rfl ?_; intro K hK; go_big_quiet_op; go_big_quiet_on
              refine rg_quiet rfl rfl rfl rfl ?_; intro K hK; go_big_quiet_op; go_big_quiet_on
              refine rg_quiet rfl rfl rfl rfl ?_; intro K hK; go_big_quiet_op; go_big_quiet_on
              refine rg_quiet rfl rfl rfl rfl ?_; intro K hK; go_big_quiet_op; go_big_quiet_on
              refine rg_quiet rfl rfl rfl rfl ?_; intro K hK; go_big_quiet_op; go_big_quiet_on
              refine rg_val [] rfl rfl rfl (by kernel_rfl) (fun w1 hE hf => ?_) ?_
              · go_simp
                rw [HMM.out]
                refine (check7_any M _ w1 (by rw [← HMM.out]; exact hcu.ext hE) HLL.out).mono ?_
                rintro e w' ⟨he, hw⟩
                exact ⟨_, he, rg_done hE hw (by rw [HB.out])⟩
              simp only [Act.put, List.setIfInBounds_toArray, List.set_cons_zero, List.set_cons_succ]
              cases B
              · have HF : Hid (P = false) := by show P = false; rw [HD.out]; rfl
                clear HD
                refine rg_quiet rfl rfl rfl rfl ?_; intro K hK; go_big_quiet_op; go_big_quiet_on
                refine rg_quiet rfl rfl rfl rfl ?_; intro K hK; go_big_quiet_op; go_big_quiet_on
                refine rel_skip rfl rfl ?_
                simp only [Act.put, List.setIfInBounds_toArray, List.set_cons_zero, List.set_cons_succ]
                refine rel_skip rfl rfl ?_
                simp only [Act.put, List.setIfInBounds_toArray, List.set_cons_zero, List.set_cons_succ]
                refine rel_skip rfl rfl ?_
                simp only [Act.put, List.setIfInBounds_toArray, List.set_cons_zero, List.set_cons_succ]
                refine rel_skip rfl rfl ?_
                simp only [Act.put, List.setIfInBounds_toArray, List.set_cons_zero, List.set_cons_succ]
                refine rel_skip rfl rfl ?_
                simp only [Act.put, List.setIfInBounds_toArray, List.set_cons_zero, List.set_cons_succ]
                refine rel_skip rfl rfl ?_
                simp only [Act.put, List.setIfInBounds_toArray, List.set_cons_zero, List.set_cons_succ]
                refine rel_skip rfl rfl ?_
                simp only [Act.put, List.setIfInBounds_toArray, List.set_cons_zero, List.set_cons_succ]
                refine rel_skip rfl rfl ?_
                simp only [Act.put, List.setIfInBounds_toArray, List.set_cons_zero, List.set_cons_succ]
                refine rel_skip rfl rfl ?_
                simp only [Act.put, List.setIfInBounds_toArray, List.set_cons_zero, List.set_cons_succ]
                refine rel_skip rfl rfl ?_
                simp only [Act.put, List.setIfInBounds_toArray, List.set_cons_zero, List.set_cons_succ]
                refine rel_skip rfl rfl ?_
                simp only [Act.put, List.setIfInBounds_toArray, List.set_cons_zero, List.set_cons_succ]
                refine rel_skip rfl rfl ?_
                simp only [Act.put, List.setIfInBounds_toArray, List.set_cons_zero, List.set_cons_succ]
                refine rel_skip rfl rfl ?_
                simp only [Act.put, List.setIfInBounds_toArray, List.set_cons_zero, List.set_cons_succ]
                refine rel_skip rfl rfl ?_
                simp only [Act.put, List.setIfInBounds_toArray, List.set_cons_zero, List.set_cons_succ]
                refine rel_skip rfl rfl ?_
                simp only [Act.put, List.setIfInBounds_toArray, List.set_cons_zero, List.set_cons_succ]
                refine rel_skip rfl rfl ?_
                simp only [Act.put, List.setIfInBounds_toArray, List.set_cons_zero, List.set_cons_succ]
                refine rel_skip rfl rfl ?_
                simp only [Act.put, List.setIfInBounds_toArray, List.set_cons_zero, List.set_cons_succ]
                refine rel_skip rfl rfl ?_
                simp only [Act.put, List.setIfInBounds_toArray, List.set_cons_zero, List.set_cons_succ]
                refine rg_quiet rfl rfl rfl rfl ?_; intro K hK; go_big_quiet_op; go_big_quiet_on
                refine rel_nil fun w6 hE6 _ => ?_
                obtain ⟨b6, hE7⟩ := FIN.out w6 hE6
                clear x0 x1 x2 x3 x4 x5 x6 x7 y2 FIN hE6 hE hcu
                go_wp2_with fail
                go_ret
                exact ⟨ret_bool HF.out.symm, hE7⟩
              · cases k with
                | zero =>
                  have HF : Hid (P = rsB (prevR ps (0 + 1)) ((ps.drop (0 + 1)).map (·.1))) := by show P = _; rw [HD.out]; rfl
                  clear HD
                  refine rg_quiet rfl rfl rfl rfl ?_; intro K hK; go_big_quiet_op; go_big_quiet_on
                  refine rg_quiet rfl rfl rfl rfl ?_; intro K hK; go_big_quiet_op; go_big_quiet_on
                  refine rg_quiet rfl rfl rfl rfl ?_; intro K hK; go_big_quiet_op; go_big_quiet_on
                  refine rg_quiet rfl rfl rfl rfl ?_; intro K hK; go_big_quiet_op; go_big_quiet_on
                  refine rg_quiet rfl rfl rfl rfl ?_; intro K hK; go_big_quiet_op; go_big_quiet_on
                  refine rel_skip rfl rfl ?_
                  simp only [Act.put, List.setIfInBounds_toArray, List.set_cons_zero, List.set_cons_succ]
                  refine rel_skip rfl rfl ?_
                  simp only [Act.put, List.setIfInBounds_toArray, List.set_cons_zero, List.set_cons_succ]
                  refine rel_skip rfl rfl ?_
                  simp only [Act.put, List.setIfInBounds_toArray, List.set_cons_zero, List.set_cons_succ]
                  refine rel_skip rfl rfl ?_
                  simp only [Act.put, List.setIfInBounds_toArray, List.set_cons_zero, List.set_cons_succ]
                  refine rel_skip rfl rfl ?_
                  simp only [Act.put, List.setIfInBounds_toArray, List.set_cons_zero, List.set_cons_succ]
                  refine rel_skip rfl rfl ?_
                  simp only [Act.put, List.setIfInBounds_toArray, List.set_cons_zero, List.set_cons_succ]
                  refine rel_skip rfl rfl ?_
                  simp only [Act.put, List.setIfInBounds_toArray, List.set_cons_zero, List.set_cons_succ]
                  refine rel_skip rfl rfl ?_
                  simp only [Act.put, List.setIfInBounds_toArray, List.set_cons_zero, List.set_cons_succ]
                  refine rel_skip rfl rfl ?_
                  simp only [Act.put, List.setIfInBounds_toArray, List.set_cons_zero, List.set_cons_succ]
                  refine rel_skip rfl rfl ?_
                  simp only [Act.put, List.setIfInBounds_toArray, List.set_cons_zero, List.set_cons_succ]
                  refine rel_skip rfl rfl ?_
                  simp only [Act.put, List.setIfInBounds_toArray, List.set_cons_zero, List.set_cons_succ]
                  refine rel_skip rfl rfl ?_
                  simp only [Act.put, List.setIfInBounds_toArray, List.set_cons_zero, List.set_cons_succ]
                  refine rel_skip rfl rfl ?_
                  simp only [Act.put, List.setIfInBounds_toArray, List.set_cons_zero, List.set_cons_succ]
                  refine rel_skip rfl rfl ?_
                  simp only [Act.put, List.setIfInBounds_toArray, List.set_cons_zero, List.set_cons_succ]
                  refine rg_quiet rfl rfl rfl rfl ?_; intro K hK; go_big_quiet_op; go_big_quiet_on
                  refine rg_quiet rfl rfl rfl rfl ?_; intro K hK; go_big_quiet_op; go_big_quiet_on
                  refine rel_nil fun w6 hE6 _ => ?_
                  obtain ⟨b6, hE7⟩ := FIN.out w6 hE6
                  clear x0 x1 x2 x3 x4 x5 x6 x7 y2 FIN hE6 hE hcu
                  go_wp2_with fail
                  go_roundw
                  case rel => exact ⟨0 + 1, by omega, by go_num, b6, hE7, HF⟩
                  case measure => simp [intOf] <;> omega
                | succ j =>
                  have hjp : j < ps.length := by omega
                  obtain ⟨b', o', e', hp⟩ := HGET.out j hjp
                  cases e'
                  replace hp := held (hE.cell hp.c0)
                  obtain ⟨Pn, hPn⟩ : ∃ Pn, Pn = ps[j].1.key := ⟨_, rfl⟩
                  rw [← hPn] at hp
                  have HO : Hid (orB (prevR ps (j + 1)) M.key = Op.bytesLess Pn.toList M.key.toList) := by show orB (prevR ps (j + 1)) M.key = _; simp [prevR, hjp, orB, hPn]
                  clear hPn
                  have hw : IntKind.i64.wrap ((j : Int) + 1 - 1) = (j : Int) := by rw [IntKind.wrap_i64]; omega
                  have hjl : decide ((j : Int) < (n : Int)) = true := by simp; omega
                  have hj0 : decide ((0 : Int) < (j : Int) + 1) = true := decide_eq_true (by omega)
                  have hle := less_leq M.key.toList Pn.toList
                  cases eo : Op.bytesLess Pn.toList M.key.toList
                  all_goals rw [eo] at hle
                  · have HF : Hid (P = false) := by show P = false; rw [HD.out, HO.out, eo]; rfl
                    clear HD HO eo
                    refine rg_quiet rfl rfl rfl rfl ?_; intro K hK; go_big_quiet_op; go_big_quiet_on
                    refine rg_quiet rfl rfl rfl rfl ?_; intro K hK; go_big_quiet_op; go_big_quiet_on
                    refine rg_quiet rfl rfl rfl rfl ?_; intro K hK; go_big_quiet_op; go_big_quiet_on
                    refine rg_quiet rfl rfl rfl rfl ?_; intro K hK; go_big_quiet_op; go_big_quiet_on
                    refine rg_quiet rfl rfl rfl rfl ?_; intro K hK; go_big_quiet_op; go_big_quiet_on
                    refine rg_quiet rfl rfl rfl rfl ?_; intro K hK; go_big_quiet_op; go_big_quiet_on
                    refine rg_quiet rfl rfl rfl rfl ?_; intro K hK; go_big_quiet_op; go_big_quiet_on
                    refine rg_quiet rfl rfl rfl rfl ?_; intro K hK; go_big_quiet_op; go_big_quiet_on
                    refine rg_quiet rfl rfl rfl rfl ?_; intro K hK; go_big_quiet_op; go_big_quiet_on
                    refine rg_quiet rfl rfl rfl rfl ?_; intro K hK; go_big_quiet_op; go_big_quiet_on
                    refine rg_quiet rfl rfl rfl rfl ?_; intro K hK; go_big_quiet_op; go_big_quiet_on
                    refine rg_quiet rfl rfl rfl rfl ?_; intro K hK; go_big_quiet_op; go_big_quiet_on
                    refine rg_quiet rfl rfl rfl rfl ?_; intro K hK; go_big_quiet_op; go_big_quiet_on
                    refine rg_quiet rfl rfl rfl rfl ?_; intro K hK; go_big_quiet_op; go_big_quiet_on
                    refine rg_quiet rfl rfl rfl rfl ?_; intro K hK; go_big_quiet_op; go_big_quiet_on
                    refine rg_quiet rfl rfl rfl rfl ?_; intro K hK; go_big_quiet_op; go_big_quiet_on
                    refine rg_quiet rfl rfl rfl rfl ?_; intro K hK; go_big_quiet_op; go_big_quiet_on
                    refine rg_quiet rfl rfl rfl rfl ?_; intro K hK; go_big_quiet_op; go_big_quiet_on
                    refine rg_quiet rfl rfl rfl rfl ?_; intro K hK; go_big_quiet_op; go_big_quiet_on
                    refine rg_quiet rfl rfl rfl rfl ?_; intro K hK; go_big_quiet_op; go_big_quiet_on
                    refine rg_quiet rfl rfl rfl rfl ?_; intro K hK; go_big_quiet_op; go_big_quiet_on
                    refine rel_nil fun w6 hE6 _ => ?_
                    obtain ⟨b6, hE7⟩ := FIN.out w6 hE6
                    clear x0 x1 x2 x3 x4 x5 x6 x7 y2 FIN hE6 hE hcu hp hle
                    go_wp2_with fail
                    go_ret
                    exact ⟨ret_bool HF.out.symm, hE7⟩
                  · have HF : Hid (P = rsB (prevR ps (j + 1 + 1)) ((ps.drop (j + 1 + 1)).map (·.1))) := by show P = _; rw [HD.out, HO.out, eo]; rfl
                    clear HD HO eo
                    refine rg_quiet rfl rfl rfl rfl ?_; intro K hK; go_big_quiet_op; go_big_quiet_on
                    refine rg_quiet rfl rfl rfl rfl ?_; intro K hK; go_big_quiet_op; go_big_quiet_on
                    refine rg_quiet rfl rfl rfl rfl ?_; intro K hK; go_big_quiet_op; go_big_quiet_on
                    refine rg_quiet rfl rfl rfl rfl ?_; intro K hK; go_big_quiet_op; go_big_quiet_on
                    refine rg_quiet rfl rfl rfl rfl ?_; intro K hK; go_big_quiet_op; go_big_quiet_on
                    refine rg_quiet rfl rfl rfl rfl ?_; intro K hK; go_big_quiet_op; go_big_quiet_on
                    refine rg_quiet rfl rfl rfl rfl ?_; intro K hK; go_big_quiet_op; go_big_quiet_on
                    refine rg_quiet rfl rfl rfl rfl ?_; intro K hK; go_big_quiet_op; go_big_quiet_on
                    refine rg_quiet rfl rfl rfl rfl ?_; intro K hK; go_big_quiet_op; go_big_quiet_on
                    refine rg_quiet rfl rfl rfl rfl ?_; intro K hK; go_big_quiet_op; go_big_quiet_on
                    refine rg_quiet rfl rfl rfl rfl ?_; intro K hK; go_big_quiet_op; go_big_quiet_on
                    refine rg_quiet rfl rfl rfl rfl ?_; intro K hK; go_big_quiet_op; go_big_quiet_on
                    refine rg_quiet rfl rfl rfl rfl ?_; intro K hK; go_big_quiet_op; go_big_quiet_on
                    refine rg_quiet rfl rfl rfl rfl ?_; intro K hK; go_big_quiet_op; go_big_quiet_on
                    refine rg_quiet rfl rfl rfl rfl ?_; intro K hK; go_big_quiet_op; go_big_quiet_on
                    refine rg_quiet rfl rfl rfl rfl ?_; intro K hK; go_big_quiet_op; go_big_quiet_on
                    refine rg_quiet rfl rfl rfl rfl ?_; intro K hK; go_big_quiet_op; go_big_quiet_on
                    refine rg_quiet rfl rfl rfl rfl ?_; intro K hK; go_big_quiet_op; go_big_quiet_on
                    refine rg_quiet rfl rfl rfl rfl ?_; intro K hK; go_big_quiet_op; go_big_quiet_on
                    refine rg_quiet rfl rfl rfl rfl ?_; intro K hK; go_big_quiet_op; go_big_quiet_on
                    refine rg_quiet rfl rfl rfl rfl ?_; intro K hK; go_big_quiet_op; go_big_quiet_on
                    refine rel_nil fun w6 hE6 _ => ?_
                    obtain ⟨b6, hE7⟩ := FIN.out w6 hE6
                    clear x0 x1 x2 x3 x4 x5 x6 x7 y2 FIN hE6 hE hcu hp hle
                    go_wp2_with fail
                    go_roundw
                    case rel => exact ⟨j + 1 + 1, by omega, by go_num, b6, hE7, HF⟩
                    case measure => simp [intOf] <;> omega
            · have HF : Hid (P = true) := by show P = true; rw [HX.out, List.drop_eq_nil_of_le (by have := HN.out; omega)]; rfl
              go_wp2_with fail
              go_ret
              exact ⟨ret_bool HF.out.symm, hE1⟩
        · have HF : Hid (P = false) := by show P = false; rw [HP.out, q1, q2, q3, q4]; rfl
          go_enter Tryz.func101, Tryz.ntmps101
          go_wp2_with fail
          go_ret
          exact ⟨ret_bool HF.out.symm, hE⟩
      · have HF : Hid (P = false) := by show P = false; rw [HP.out, q1, q2, q3]; rfl
        go_enter Tryz.func101, Tryz.ntmps101
        go_wp2_with fail
        go_ret
        exact ⟨ret_bool HF.out.symm, hE⟩
    · have HF : Hid (P = false) := by show P = false; rw [HP.out, q1, q2]; rfl
      go_enter Tryz.func101, Tryz.ntmps101
      go_wp2_with fail
      go_ret
      exact ⟨ret_bool HF.out.symm, hE⟩
  · have HF : Hid (P = false) := by show P = false; rw [HP.out, q1]; rfl
    go_enter Tryz.func101, Tryz.ntmps101
    go_wp2_with fail
    go_ret
    exact ⟨ret_bool HF.out.symm, hE⟩
end Go.Proofs.YtfagnbofnaoncaaGreatDoor
