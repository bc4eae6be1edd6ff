/- A view's key split again; clerestorylaw18.awake. -/
import Derived.Test.YtobanilgofhgkaaProjNo
namespace Go.Proofs.Ytobanilgofhgkaa
open Go Go.RowKit
attribute [local go_sem] yields yUpon tabV viewV

theorem vkey_list (a b : ByteArray) : (vkey a b).data.toList = txt a.data.toList ++ b.data.toList := by
  unfold vkey
  rw [ByteArray.data_append]
  simp [str]
theorem vkey_size (a b : ByteArray) : (vkey a b).size = (txt a.data.toList).length + b.size := by
  show (vkey a b).data.toList.length = _
  rw [vkey_list, List.length_append]
  rfl
theorem ba_ext {a b : ByteArray} (h : a.data.toList = b.data.toList) : a = b := ByteArray.ext (Array.toList_inj.1 h)
theorem vkey_rest (a b : ByteArray) : (vkey a b).extract (txt a.data.toList).length (vkey a b).size = b := by
  apply ba_ext
  rw [ByteArray.data_extract, Array.toList_extract, vkey_list, vkey_size]
  simp only [List.extract_eq_take_drop, List.drop_left]
  rw [List.take_of_length_le]
  show b.size ≤ _
  omega
theorem split_key (a b : ByteArray) (w : World) (ha : a.size ≤ 1000000) (hb : b.size ≤ 1000000) :
    Calls Try.prog 15 #[.string (vkey a b)] w fun e w' => e = .returned (.tuple #[.string a, .string b, .bool true]) ∧ Ext w w' := by
  have hl : (txt a.data.toList).length ≤ 2 * a.size + 2 := txt_length_le a.data.toList
  refine (split_any (vkey a b) w (by rw [vkey_size]; omega)).mono ?_
  rw [vkey_list, getText_key, vkey_rest]
  rintro e w' ⟨h, hE⟩
  rcases h with ⟨h, _⟩ | ⟨_, h⟩
  · exact absurd rfl h
  · exact ⟨h, hE⟩

set_option maxRecDepth 100000 in
set_option maxHeartbeats 2000000 in
theorem pawake_any (w : World) :
    Calls Try.prog 13 #[] w fun e w' => e = .returned (.bool true) ∧ Ext w w' := by
  go_enter Try.func13, Try.ntmps13
  go_wp2_with fail
  refine (view_any _).mono ?_
  rintro e w1 ⟨bs, bu, rfl, _, hE1⟩
  go_wp2_with fail
  refine (mirror_none (.slice (some ⟨bs, 0, none⟩) 4 4) ⟨⟨#[118]⟩, 2, ⟨#[116]⟩, ⟨#[97]⟩⟩ (.slice (some ⟨bu, 0, none⟩) 2 2) ⟨#[109]⟩ 0 (.slice none 0 0) ⟨⟨#[107]⟩, zeroCl, 0, 0, []⟩ (.slice none 0 0) _ (ColsIn.nil _) rfl (by decide) (by decide)).mono ?_
  rintro e w2 ⟨rfl, hE2⟩
  replace hE2 := ((hE1.alloc _).alloc _).trans hE2
  clear hE1
  go_wp2_with fail
  refine (key_any ⟨#[120]⟩ ⟨#[121]⟩ _ (by decide) (by decide)).mono ?_
  rintro e w3 ⟨rfl, hE3⟩
  replace hE3 := (hE2.alloc _).trans hE3
  clear hE2
  go_wp2_with fail
  refine (split_key ⟨#[120]⟩ ⟨#[121]⟩ _ (by decide) (by decide)).mono ?_
  rintro e w4 ⟨rfl, hE4⟩
  replace hE4 := hE3.trans hE4
  go_wp2
  go_ret
  exact ⟨rfl, hE4⟩
end Go.Proofs.Ytobanilgofhgkaa
