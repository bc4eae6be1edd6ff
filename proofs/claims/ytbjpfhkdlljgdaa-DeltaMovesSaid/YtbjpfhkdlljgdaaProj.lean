/- project.Key, project.Split, clerestorylaw00.View. -/
import Derived.Test.YtbjpfhkdlljgdaaViewKey
import Derived.Test.YtbjpfhkdlljgdaaRowBest
import Derived.Laws.IdiomStrings
namespace Go.Proofs.Ytbjpfhkdlljgdaa
open Go Go.RowKit
attribute [local go_sem] yields yUpon tupT

theorem conv_bytes (w : World) (s : ByteArray) (hs : s.size ≤ maxLen) : ∃ v w', (convert 9 89 (.string s)).run Try.prog w = .ok v w' ∧ BytesIn w' v s.data.toList ∧ Ext w w' := by
  refine ⟨_, _, run_bytes_of_string w 9 89 5 s und_string und_bytes und_u8, ?_, (Ext.refl w).drew.alloc _⟩
  have h1 := grownCap_ge w s.size 0 5
  refine ⟨_, _, rfl, h1, grownCap_le_maxLen w s.size 0 5 hs, nofun, fun j u hj => ⟨w.heap.size, 0, rfl, ?_⟩⟩
  rw [Nat.zero_add, cell_of_row _ w.heap.size j _ _ _ (heap_alloc_new w.drew _)]
  simp only [bcells, List.getElem?_map] at hj
  unfold bytesRow
  rw [Array.getElem?_append_left (by have := (List.getElem?_eq_some_iff.1 (Option.map_eq_some_iff.1 hj).choose_spec.1).1; simpa using this)]
  simpa using hj

def vkey (a b : ByteArray) : ByteArray := str (txt a.data.toList) ++ b
set_option maxRecDepth 100000 in
set_option maxHeartbeats 1000000 in
theorem key_any (a b : ByteArray) (w : World) (ha : a.size ≤ 10000000) (hb : b.size ≤ 10000000) :
    Calls Try.prog 39 #[.string a, .string b] w fun e w' => e = .returned (.string (vkey a b)) ∧ Ext w w' := by
  have hl : (txt a.data.toList).length ≤ 2 * a.size + 2 := txt_length_le a.data.toList
  have hm : ¬ 9223372036854775807 < (txt a.data.toList).length + b.size := by omega
  obtain ⟨T, hT⟩ : ∃ T, T = txt a.data.toList := ⟨_, rfl⟩
  have e1 : vkey a b = str T ++ b := by rw [hT]; rfl
  rw [e1]
  rw [← hT] at hm
  have HT := Lib.hid hT
  clear hT hl e1
  go_enter Try.func39, Try.ntmps39
  go_wp2_with fail
  refine (Text_nil a _ (by omega)).mono ?_
  rw [← HT.out]
  rintro e w1 ⟨v, rfl, hown, hE⟩
  go_wp2_with fail
  rw [run_convert_bytesIn _ 89 9 5 und_bytes und_u8 und_string hown.bytes]
  simp only [Result.andThen]
  rw [Oper.upon_value]
  go_wp2
  go_ret
  exact ⟨rfl, hE⟩

set_option maxRecDepth 100000 in
set_option maxHeartbeats 1000000 in
theorem split_any (k : ByteArray) (w : World) (hk : k.size ≤ 10000000) :
    Calls Try.prog 37 #[.string k] w fun e w' => ((getText k.data.toList 0).2.2 ≠ 0 ∧ e = .returned (.tuple #[.string ⟨#[]⟩, .string ⟨#[]⟩, .bool false]) ∨
      (getText k.data.toList 0).2.2 = 0 ∧ e = .returned (.tuple #[.string (str (getText k.data.toList 0).1), .string (k.extract (txt (getText k.data.toList 0).1).length k.size), .bool true])) ∧ Ext w w' := by
  have hS := getText_sound k.data.toList
  obtain ⟨p, hp⟩ : ∃ p, p = getText k.data.toList 0 := ⟨_, rfl⟩
  rw [← hp] at hS ⊢
  obtain ⟨t, i, z⟩ := p
  simp only at hS ⊢
  have HP := Lib.hid hp
  have HS := Lib.hid hS
  clear hp hS
  go_enter Try.func37, Try.ntmps37
  go_wp2_with fail
  obtain ⟨v, w1, he, hv, hE⟩ := conv_bytes w k (by unfold maxLen; omega)
  rw [he]
  simp only [Result.andThen]
  rw [Oper.upon_value]
  go_wp2_with fail
  refine (getText_any v k.data.toList 0 _ hv (by show k.size ≤ _; omega)).mono ?_
  rw [← HP.out]
  rintro e w2 ⟨rfl, hE2⟩
  replace hE := hE.trans hE2
  clear hE2 hv he
  by_cases hz : z = 0
  · subst hz
    obtain ⟨hi, hS2, hS3⟩ := HS.out rfl
    have hsz : k.data.toList.length = k.size := rfl
    rw [hsz] at hS3
    clear hS2 hsz HS HP
    subst hi
    go_wp2_with fail
    refine wp_region_tab 7 [] (by kernel_rfl) (by kernel_rfl) (by kernel_rfl) trivial ?_
    refine rg_quiet rfl rfl rfl rfl ?_; intro K hK; go_big_quiet_op; go_big_quiet_on
    refine rg_quiet rfl rfl rfl rfl ?_; intro K hK; go_big_quiet_op; go_big_quiet_on
    refine rg_quiet rfl rfl rfl rfl ?_; intro K hK; go_big_quiet_op; go_big_quiet_on
    refine rg_quiet rfl rfl rfl rfl ?_; intro K hK; go_big_quiet_op; go_big_quiet_on
    refine rg_quiet rfl rfl rfl rfl ?_; intro K hK; go_big_quiet_op; go_big_quiet_on
    refine rg_quiet rfl rfl rfl rfl ?_; intro K hK; go_big_quiet_op; go_big_quiet_on
    refine rg_quiet rfl rfl rfl rfl ?_; intro K hK; go_big_quiet_op; go_big_quiet_on
    refine rel_nil fun w5 hE5 _ => ?_
    go_wp2_with fail
    refine bodyPost_ret (v := .tuple #[.string (str t), .string (k.extract (txt t).length k.size), .bool true]) ?_ rfl ⟨by first | exact rfl | exact .inr ⟨rfl, rfl⟩, hE.trans hE5⟩
    simp [results, Try.results37, go_sem]
  · have h0 : (z == 0) = false := by simpa using hz
    go_wp2_with fail
    refine bodyPost_ret (v := .tuple #[.string ⟨#[]⟩, .string ⟨#[]⟩, .bool false]) ?_ rfl ⟨.inl ⟨hz, rfl⟩, hE⟩
    simp [results, Try.results37, go_sem]

end Go.Proofs.Ytbjpfhkdlljgdaa
