/- runes.Name at small ASCII letters. -/
import Derived.Test.YtkiodandnjbhoaaDoorBase
import Derived.Test.YtkiodandnjbhoaaDoorProg
import Derived.Laws.RangeString
namespace Go.Proofs.YtkiodandnjbhoaaDoor
open Go Go.RowKit
attribute [local go_sem] yields yUpon

def iterPos (w : World) (b : Nat) : Nat := match w.heap[b]? with | some (.stringIter _ p) => p | _ => 0
theorem iterPos_iter (w : World) (s : ByteArray) (k : Nat) : iterPos (w.iter s k) w.heap.size = k := by
  unfold iterPos
  rw [World.iter_heap]
theorem Ext.iter (w : World) (s : ByteArray) (k : Nat) : Ext w (w.iter s k) := (Ext.refl w).alloc _

set_option maxHeartbeats 400000 in
theorem letter_low (r : Int) (h1 : 97 ≤ r) (h2 : r ≤ 122) (w : World) : Calls Tryd.prog 84 #[.int .i32 r] w fun e w' => e = .returned (.bool true) ∧ w = w' := by
  have d0 : (r == 95) = false := by simp; omega
  have d1 : decide (97 ≤ r) = true := by simpa using h1
  have d2 : decide (r ≤ 122) = true := by simpa using h2
  clear h1 h2
  go_enter Tryd.func84, Tryd.ntmps84
  go_wp2
  all_goals first
    | (exfalso; omega)
    | (go_ret
       exact ⟨rfl, rfl⟩)

set_option maxHeartbeats 400000 in
theorem right_any (s : ByteArray) (i r : Int) (h : r ≠ 65533) (w : World) : Calls Tryd.prog 85 #[.string s, .int .i64 i, .int .i32 r] w fun e w' => e = .returned (.bool true) ∧ w = w' := by
  have d0 : (r == 65533) = false := by simpa using h
  go_enter Tryd.func85, Tryd.ntmps85
  go_wp2
  all_goals
    go_ret
    exact ⟨rfl, rfl⟩

/-- A name of small letters. -/
def Low (s : ByteArray) : Prop := s.size ≤ 100 ∧ ∀ i (h : i < s.size), 97 ≤ (s[i]'h).toNat ∧ (s[i]'h).toNat ≤ 122

set_option maxRecDepth 100000 in
set_option maxHeartbeats 1000000 in
theorem name_low (s : ByteArray) (hs : Low s) (h0 : s.size ≠ 0) (w : World) :
    Calls Tryd.prog 55 #[.string s] w fun e w' => e = .returned (.bool true) ∧ Ext w w' := by
  obtain ⟨hl, hlow⟩ := hs
  have HLow := Lib.hid hlow
  clear hlow
  go_enter Tryd.func55, Tryd.ntmps55
  go_wp2
  go_loopw [3] (fun _ wr => ∃ k : Nat, k ≤ s.size ∧ wr = w.iter s k) (fun _ wr => s.size - iterPos wr w.heap.size)
  case atStart => exact ⟨0, Nat.zero_le _, rfl⟩
  case round =>
    obtain ⟨k, hk, rfl⟩ := hrel
    by_cases hlt : k < s.size
    · obtain ⟨b1, b2⟩ := HLow.out k hlt
      have hnx := fun ty => run_next_ascii (P := Tryd.prog) w s k ty hlt (by omega)
      obtain ⟨R, hR⟩ : ∃ R : Int, R = ((s[k]'hlt).toNat : Int) := ⟨_, rfl⟩
      rw [← hR] at hnx
      have r1 : 97 ≤ R := by omega
      have r2 : R ≤ 122 := by omega
      clear hR b1 b2
      go_wp2_with fail
      refine (letter_low R r1 r2 _).mono ?_
      rintro e w1 ⟨rfl, rfl⟩
      go_wp2_with fail
      refine (right_any s _ R (by omega) _).mono ?_
      rintro e w2 ⟨rfl, rfl⟩
      go_wp2_with fail
      go_roundw
      case rel => exact ⟨k + 1, by omega, rfl⟩
      case measure => rw [iterPos_iter, iterPos_iter]; omega
    · obtain rfl : k = s.size := by omega
      have hnx := fun ty => run_next_end (P := Tryd.prog) w s s.size ty (by omega)
      have k100 : decide ((s.size : Int) ≤ 100) = true := by simp; omega
      have e0 : (s.toList == []) = false := by
        rw [ByteArray.toList_eq]
        simp only [beq_eq_false_iff_ne, ne_eq]
        intro h
        exact h0 (by have := congrArg List.length h; exact this)
      go_wp2_with fail
      go_ret
      exact ⟨rfl, Ext.iter w s _⟩

set_option maxHeartbeats 1000000 in
theorem name_none (w : World) :
    Calls Tryd.prog 55 #[.string ⟨#[]⟩] w fun e w' => e = .returned (.bool false) ∧ Ext w w' := by
  go_enter Tryd.func55, Tryd.ntmps55
  go_wp2
  go_loopw [3] (fun _ wr => wr = w.iter ⟨#[]⟩ 0) (fun _ wr => 0)
  case atStart => rfl
  case round =>
    obtain rfl := hrel
    have hnx := fun ty => run_next_end (P := Tryd.prog) w ⟨#[]⟩ 0 ty (by decide)
    go_wp2_with fail
    go_ret
    exact ⟨rfl, Ext.iter w _ _⟩

/-- Is a text a name? (of texts of small letters) -/
def lowB (s : ByteArray) : Bool := decide (s.size ≠ 0)
theorem name_lowB (s : ByteArray) (hs : Low s) (w : World) :
    Calls Tryd.prog 55 #[.string s] w fun e w' => e = .returned (.bool (lowB s)) ∧ Ext w w' := by
  by_cases h : s.size = 0
  · have e : s = ⟨#[]⟩ := ByteArray.ext (Array.eq_empty_of_size_eq_zero h)
    subst e
    exact name_none w
  · have e : lowB s = true := by simp [lowB, h]
    rw [e]
    exact name_low s hs h w
end Go.Proofs.YtkiodandnjbhoaaDoor
