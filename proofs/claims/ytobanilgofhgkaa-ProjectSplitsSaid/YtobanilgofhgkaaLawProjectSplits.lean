/- ProjectSplits: the law's walk. -/
import Derived.Test.YtobanilgofhgkaaProjAwake
namespace Go.Proofs.Ytobanilgofhgkaa
open Go Go.RowKit
attribute [local go_sem] yields yUpon

theorem bytes_eq_self (s t : ByteArray) (h : s = t) : (s.toList == t.toList) = true := by rw [h]; simp

set_option maxRecDepth 100000 in
set_option maxHeartbeats 2000000 in
theorem law_projectSplits (k : ByteArray) (hk : k.size ≤ 500) (w : World) :
    Calls Try.prog 4 #[.string k] w fun e w' => e = .returned (.bool true) ∧ Ext w w' := by
  have k1 : decide ((500 : Int) < (k.size : Int)) = false := by simp; omega
  have hS := getText_sound k.data.toList
  obtain ⟨p, hp⟩ : ∃ p, p = getText k.data.toList 0 := ⟨_, rfl⟩
  rw [← hp] at hS
  have HP := Lib.hid hp
  have HS := Lib.hid hS
  clear hp hS
  go_enter Try.func4, Try.ntmps4
  go_wp2_with fail
  refine (split_any k _ (by omega)).mono ?_
  rw [← HP.out]
  rintro e w1 ⟨h, hE1⟩
  rcases h with ⟨h, rfl⟩ | ⟨h, rfl⟩
  · clear h
    go_wp2_with fail
    refine (pawake_any _).mono ?_
    rintro e w2 ⟨rfl, hE2⟩
    go_wp2
    go_ret
    exact ⟨rfl, hE1.trans hE2⟩
  · obtain ⟨hi, hS2, hS3⟩ := HS.out h
    obtain ⟨t, i, z⟩ := p
    simp only at hi hS2 hS3
    have hsz : k.data.toList.length = k.size := rfl
    rw [hsz] at hS3
    have hpos : 2 ≤ (txt t).length := by unfold txt; simp
    obtain ⟨c, hc⟩ : ∃ c, c = k.extract (txt t).length k.size := ⟨_, rfl⟩
    have hcl : c.data.toList = k.data.toList.drop (txt t).length := by
      rw [hc, ByteArray.data_extract, Array.toList_extract]
      simp only [List.extract_eq_take_drop]
      rw [List.take_of_length_le]
      simp
    have hcs : c.size = k.size - (txt t).length := by
      show c.data.toList.length = _
      rw [hcl, List.length_drop]; rfl
    have hkey : vkey (str t) c = k := by
      apply ba_ext
      rw [vkey_list, hcl, str_toList, hS2]
    have htl : t.length ≤ 500 := by have : t.length ≤ (txt t).length := esc_length_ge t; omega
    simp only
    rw [← hc]
    have hlt : decide ((c.size : Int) < (k.size : Int)) = true := by simp; omega
    have heq := bytes_eq_self _ _ hkey
    have HK := Lib.hid hkey
    clear hi hS2 hcl hc hkey h hsz HP HS
    go_wp2_with fail
    refine (key_any (str t) c _ (by simp; omega) (by omega)).mono ?_
    rintro e w2 ⟨rfl, hE2⟩
    replace hE2 := hE1.trans hE2
    have hcn : (c.size : Int) < (k.size : Int) := by omega
    clear hcs hS3 hpos htl hlt
    go_wp2_with fail
    all_goals first
      | (exfalso; omega)
      | (refine (pawake_any _).mono ?_
         rintro e w3 ⟨rfl, hE3⟩
         go_wp2
         go_ret
         exact ⟨rfl, hE2.trans hE3⟩)

set_option maxHeartbeats 1000000 in
theorem walk_projectSplits (k : ByteArray) (_ : k.size ≤ maxLen) (w : World) :
    Calls Try.prog 4 #[.string k] w fun e w' => e = .returned (.bool true) ∧ Ext w w' := by
  by_cases h : 500 < k.size
  · have k1 : decide ((500 : Int) < (k.size : Int)) = true := by simp; omega
    go_enter Try.func4, Try.ntmps4
    go_wp2_with fail
    refine (pawake_any _).mono ?_
    rintro e w1 ⟨rfl, hE⟩
    go_wp2
    go_ret
    exact ⟨rfl, hE⟩
  · exact law_projectSplits k (by omega) w
end Go.Proofs.Ytobanilgofhgkaa
