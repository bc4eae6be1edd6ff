/- Place: any number as one below another. (what a smaller cut has) -/
import Derived.Test.YtfagnbofnaoncaaGreatDoorP1
import Derived.Test.YtfagnbofnaoncaaGreatDoorProg
import Derived.Shelf.Small.Bits
import Derived.Shelf.Small.Wraps
import Derived.Lib.ItoaNum
set_option linter.unusedSimpArgs false
set_option linter.unusedVariables false
namespace Go.Proofs.YtfagnbofnaoncaaGreatDoor
open Go Go.RowKit

end Go.Proofs.YtfagnbofnaoncaaGreatDoor

/- order.own. -/
namespace Go.Proofs.YtfagnbofnaoncaaGreatDoor
open Go Go.RowKit

set_option maxHeartbeats 400000 in
theorem own_any (a : Option Addr) (n c : Nat) (h : n ≤ c) (_hc : c ≤ maxLen) (w : World) :
    Calls Tryz.prog 179 #[.slice a n c] w fun e w' => e = .returned (.slice a n n) ∧ w = w' := by
  unfold maxLen at _hc
  go_enter Tryz.func179, Tryz.ntmps179
  go_wp2
  go_ret
  exact ⟨rfl, rfl⟩

end Go.Proofs.YtfagnbofnaoncaaGreatDoor

/- math/bits.Len64, laid at this program (the text is the tool's, its numbers by name). -/
namespace Go.Proofs
open Go.Shelf
def Tryz.lays129_ren : Go.Shelf.Ren := ⟨fun | 129 => 189 | n => n, fun | 53 => 153 | 3 => 3 | 4 => 4 | 46 => 116 | 5 => 5 | 9 => 9 | n => n, fun | n => n⟩
theorem Tryz.lays129 : Go.Proofs.Lays.n129 Tryz.prog Tryz.lays129_ren := {
  mixed := by kernel_rfl
  f129 := Tryz.func189.trans (congrArg some (by kernel_rfl))
  t3 := Tryz.underlying3
  a3 := Tryz.isAgg3
  z3 := Tryz.sizeOf3
  v3 := Tryz.zeroValue3
  t4 := Tryz.underlying4
  a4 := Tryz.isAgg4
  z4 := Tryz.sizeOf4
  v4 := Tryz.zeroValue4
  t5 := Tryz.underlying5
  a5 := Tryz.isAgg5
  z5 := Tryz.sizeOf5
  v5 := Tryz.zeroValue5
  t9 := Tryz.underlying9
  a9 := Tryz.isAgg9
  z9 := Tryz.sizeOf9
  v9 := Tryz.zeroValue9
  t46 := Tryz.underlying116
  a46 := Tryz.isAgg116
  z46 := Tryz.sizeOf116
  v46 := Tryz.zeroValue116
  t53 := Tryz.underlying153
  a53 := Tryz.isAgg153
  z53 := Tryz.sizeOf153
  v53 := Tryz.zeroValue153 }
theorem Tryz.bits_Len64 (x : Int) (w : World) (h0 : 0 ≤ x) (h1 : x ≤ 18446744073709551615) :
    Calls Tryz.prog 189 #[.int .u64 x] w fun e w' => e = .returned (.int .i64 (Lib.bitLen x.toNat)) ∧ w' = w := Any.bits_Len64 Tryz.lays129 x w h0 h1
end Go.Proofs

/- order.Num, for callers (a cut of the order's walks). -/
namespace Go.Proofs.YtfagnbofnaoncaaGreatDoor
open Go Go.RowKit

theorem mod256 (X : Int) : 0 ≤ X % 256 ∧ X % 256 < 256 := ⟨Int.emod_nonneg _ (by decide), Int.emod_lt_of_pos _ (by decide)⟩
theorem nlen_int (x : Nat) : (((bitsOf x : Int) + 8 - 1) / 8).toNat = nlen x := by unfold nlen; omega
theorem num_step {w w0 : World} {v : Value} {l : List UInt8} {x j k : Nat} (h : j + (k + 1) = nlen x) (hown : OwnB w w0.heap.size v ((l ++ UInt8.ofNat (nlen x) :: (beB (nlen x) x).take j) ++ [UInt8.ofNat (((x : Int) / 2 ^ (8 * k) % 256).toNat)])) :
    OwnB w w0.heap.size v (l ++ UInt8.ofNat (nlen x) :: (beB (nlen x) x).take (j + 1)) := by
  have e : (l ++ UInt8.ofNat (nlen x) :: (beB (nlen x) x).take j) ++ [UInt8.ofNat (((x : Int) / 2 ^ (8 * k) % 256).toNat)] = l ++ UInt8.ofNat (nlen x) :: (beB (nlen x) x).take (j + 1) := by
    rw [List.append_assoc, List.cons_append, List.take_add_one, beB_get (by omega)]
    simp only [Option.toList_some]
    rw [show nlen x - 1 - j = k by omega, byte_shift]
  rw [← e]
  exact hown

set_option maxHeartbeats 400000 in
theorem num_any (v : Value) (l : List UInt8) (x : Nat) (hx : x < 18446744073709551616) (w : World) (hv : BytesIn w v l) (hl : l.length ≤ 140737488000000)
    (hlen : ∀ w', Calls Tryz.prog 189 #[.int .u64 x] w' fun e w'' => e = .returned (.int .i64 (bitsOf x)) ∧ w' = w'') :
    Calls Tryz.prog 214 #[v, .int .u64 x] w fun e w' => ∃ v', e = .returned v' ∧ OwnB w' w.heap.size v' (l ++ num x) ∧ Ext w w' := by
  obtain ⟨a, c, rfl, hc, hcm, ha, hcell⟩ := hv
  have hv : BytesIn w (.slice a l.length l.length) l := ⟨a, l.length, rfl, Nat.le_refl _, Nat.le_trans hc hcm, fun h => by have := ha h; omega, hcell⟩
  have hb : bitsOf x ≤ 64 := bitsOf_le64 hx
  clear hcell ha
  go_enter Tryz.func214, Tryz.ntmps214
  go_wp2_with (first
    | (go_at_call 189; refine (hlen _).mono ?_; rintro e w' ⟨rfl, rfl⟩)
    | (go_at_call 179; refine (own_any _ _ _ hc hcm _).mono ?_; rintro e w' ⟨rfl, rfl⟩)
    | (at_builtin; go_must (refine appB w rfl (.tmp 12) (.tmp 15) rfl w (Ext.refl w) _ _ _ _ (cs1 (by omega) (by omega)) (by simp) rfl (Tip.full hv) _ rfl rfl (by simp; omega) ?_); intro v1 w1 hown1 hE1))
  clear hv hc hcm
  go_loopw [0, 5] (fun v n wr => ∃ (j k : Nat), j + k = nlen x ∧ n = .int .i64 ((k : Int) - 1) ∧ OwnB wr w.heap.size v (l ++ UInt8.ofNat (nlen x) :: (beB (nlen x) x).take j) ∧ Ext w wr) (fun _ n _ => (intOf n + 1).toNat)
  case atStart => exact ⟨0, nlen x, by omega, by unfold nlen; go_num, by rw [nlen_int] at hown1; simpa using hown1, hE1⟩
  case round =>
    obtain ⟨j, k, hjk, rfl, hown, hE⟩ := hrel
    cases k with
    | zero =>
      go_wp2
      go_ret
      exact ⟨_, rfl, by rw [show j = nlen x by omega, List.take_of_length_le (by rw [beB_length]; omega)] at hown; exact hown, hE⟩
    | succ k =>
      have hk8 : k ≤ 7 := by unfold nlen at hjk; omega
      have hj8 : j ≤ 8 := by unfold nlen at hjk; omega
      go_wp2_with (at_builtin; go_must (refine appB wr rfl (.tmp 23) (.tmp 29) rfl w hE _ _ _ _ (cs1 (mod256 _).1 (mod256 _).2) (by simp) rfl (Tip.own hown) _ rfl rfl (by simp [beB_length]; omega) ?_); intro v2 w2 hown2 hE2)
      go_roundw
      case rel => exact ⟨j + 1, k, by omega, rfl, num_step hjk hown2, hE2⟩
      case measure => simp [intOf] <;> omega

theorem bitLen_bits (x : Nat) (hx : x < 18446744073709551616) : Lib.bitLen x = bitsOf x := by
  symm
  by_cases h : x = 0
  · subst h; rfl
  · have := Lib.bitLenAux_bounds 64 x (by simpa using hx) h
    exact bitsOf_unique this.2.2 (.inr this.2.1)

theorem len64_any (x : Nat) (hx : x < 18446744073709551616) (w : World) : Calls Tryz.prog 189 #[.int .u64 x] w fun e w' => e = .returned (.int .i64 (bitsOf x)) ∧ w = w' :=
  (Tryz.bits_Len64 x w (by omega) (by omega)).mono fun e w' h => ⟨by rw [h.1, Int.toNat_natCast, bitLen_bits x hx], h.2.symm⟩

/-- order.Num, for callers. -/
theorem Num_ok (v : Value) (l : List UInt8) (X : Int) (h0 : 0 ≤ X) (h1 : X < 18446744073709551616) (w : World) (hv : BytesIn w v l) (hl : l.length ≤ 140737488000000) :
    Calls Tryz.prog 214 #[v, .int .u64 X] w fun e w' => ∃ v', e = .returned v' ∧ OwnB w' w.heap.size v' (l ++ num X.toNat) ∧ Ext w w' := by
  obtain ⟨x, rfl⟩ := Int.eq_ofNat_of_zero_le h0
  have hx : x < 18446744073709551616 := by omega
  rw [Int.toNat_natCast]
  exact num_any v l x hx w hv hl (len64_any x hx)

end Go.Proofs.YtfagnbofnaoncaaGreatDoor
