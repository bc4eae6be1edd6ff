/- ProjectKeys: the law's walk. -/
import Derived.Test.YtobanilgofhgkaaProjAwake
namespace Go.Proofs.Ytobanilgofhgkaa
open Go Go.RowKit
attribute [local go_sem] yields yUpon

theorem vkey_toList (a b : ByteArray) : (vkey a b).toList = txt a.toList ++ b.toList := by
  rw [ByteArray.toList_eq, ByteArray.toList_eq, ByteArray.toList_eq, vkey_list]

set_option maxRecDepth 100000 in
set_option maxHeartbeats 4000000 in
theorem law_projectKeys (a b c d : ByteArray) (ha : a.size ≤ 200) (hb : b.size ≤ 200) (hc : c.size ≤ 200) (hd : d.size ≤ 200) (w : World) :
    Calls Try.prog 3 #[.string a, .string b, .string c, .string d] w fun e w' => e = .returned (.bool true) ∧ Ext w w' := by
  have f1 : ((vkey a b).toList == (vkey c d).toList) = (a.toList == c.toList && b.toList == d.toList) := by
    rw [vkey_toList, vkey_toList]; exact key_eq _ _ _ _
  have f2 : Op.bytesLess (vkey a b).toList (vkey c d).toList = (Op.bytesLess a.toList c.toList || (a.toList == c.toList && Op.bytesLess b.toList d.toList)) := by
    rw [vkey_toList, vkey_toList]; exact key_less _ _ _ _
  obtain ⟨A, hA⟩ : ∃ A, A = (a.toList == c.toList) := ⟨_, rfl⟩
  obtain ⟨B, hB⟩ : ∃ B, B = (b.toList == d.toList) := ⟨_, rfl⟩
  obtain ⟨L, hL⟩ : ∃ L, L = Op.bytesLess a.toList c.toList := ⟨_, rfl⟩
  obtain ⟨M, hM⟩ : ∃ M, M = Op.bytesLess b.toList d.toList := ⟨_, rfl⟩
  rw [← hA, ← hB] at f1
  rw [← hA, ← hL, ← hM] at f2
  replace hA := hA.symm
  replace hB := hB.symm
  replace hL := hL.symm
  replace hM := hM.symm
  have k1 : decide ((200 : Int) < (a.size : Int)) = false := by simp; omega
  have k2 : decide ((200 : Int) < (b.size : Int)) = false := by simp; omega
  have k3 : decide ((200 : Int) < (c.size : Int)) = false := by simp; omega
  have k4 : decide ((200 : Int) < (d.size : Int)) = false := by simp; omega
  go_enter Try.func3, Try.ntmps3
  go_wp2_with fail
  refine (key_any a b _ (by omega) (by omega)).mono ?_
  rintro e w1 ⟨rfl, hE1⟩
  go_wp2_with fail
  refine (key_any c d _ (by omega) (by omega)).mono ?_
  rintro e w2 ⟨rfl, hE2⟩
  replace hE2 := hE1.trans hE2
  clear hE1
  go_wp2_with fail
  refine (split_key a b _ (by omega) (by omega)).mono ?_
  rintro e w3 ⟨rfl, hE3⟩
  replace hE3 := hE2.trans hE3
  clear hE2
  cases A <;> cases B <;> cases L <;> cases M <;> simp only [Bool.and_true, Bool.and_false, Bool.or_true, Bool.or_false] at f1 f2
  all_goals
    go_wp2_with fail
    refine (pawake_any _).mono ?_
    rintro e w4 ⟨rfl, hE4⟩
    go_wp2
    go_ret
    exact ⟨rfl, hE3.trans hE4⟩

set_option maxRecDepth 100000 in
set_option maxHeartbeats 1000000 in
theorem law_projectKeys_big (a b c d : ByteArray) (h : 200 < a.size ∨ 200 < b.size ∨ 200 < c.size ∨ 200 < d.size) (w : World) :
    Calls Try.prog 3 #[.string a, .string b, .string c, .string d] w fun e w' => e = .returned (.bool true) ∧ Ext w w' := by
  cases k1 : decide ((200 : Int) < (a.size : Int)) <;> cases k2 : decide ((200 : Int) < (b.size : Int)) <;> cases k3 : decide ((200 : Int) < (c.size : Int)) <;> cases k4 : decide ((200 : Int) < (d.size : Int))
  · exfalso; simp at k1 k2 k3 k4; omega
  all_goals
    go_enter Try.func3, Try.ntmps3
    go_wp2_with fail
    refine (pawake_any _).mono ?_
    rintro e w1 ⟨rfl, hE⟩
    go_wp2
    go_ret
    exact ⟨rfl, hE⟩

theorem walk_projectKeys (a b c d : ByteArray) (_ : a.size ≤ maxLen) (_ : b.size ≤ maxLen) (_ : c.size ≤ maxLen) (_ : d.size ≤ maxLen) (w : World) :
    Calls Try.prog 3 #[.string a, .string b, .string c, .string d] w fun e w' => e = .returned (.bool true) ∧ Ext w w' := by
  by_cases h : 200 < a.size ∨ 200 < b.size ∨ 200 < c.size ∨ 200 < d.size
  · exact law_projectKeys_big a b c d h w
  · exact law_projectKeys a b c d (by omega) (by omega) (by omega) (by omega) w
end Go.Proofs.Ytobanilgofhgkaa
