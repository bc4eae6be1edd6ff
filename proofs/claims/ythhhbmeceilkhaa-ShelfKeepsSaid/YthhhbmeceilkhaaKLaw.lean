/- ShelfKeeps: what is synced stays, whatever crashes; of what is not, as many bytes as are left; a man and an empty log come at once: the law's walk. -/
import Derived.Test.YthhhbmeceilkhaaK4
set_option linter.unusedSimpArgs false
set_option linter.unusedVariables false
namespace Go.Proofs.Ythhhbmeceilkhaa
open Go Go.RowKit
attribute [local go_sem] yields yUpon

theorem crashN_self (n : Int) (g : Nat) : crashN n g g = g := by
  unfold crashN
  omega
theorem app_extract (a b : ByteArray) (n : Nat) : (a ++ b).extract 0 (a.size + n) = a ++ b.extract 0 n := by
  apply ByteArray.ext
  rw [ByteArray.data_extract, ByteArray.data_append, ByteArray.data_append, ByteArray.data_extract, Array.extract_append]
  have e : a.data.size = a.size := rfl
  rw [e]
  congr 1
  · exact Array.extract_eq_self_of_le (by rw [e]; omega)
  · congr 1
    · omega
    · omega
theorem put5_ok (a : ByteArray) (h : a.size ≤ 1000) : putE 5 a [] = 0 := by
  unfold putE
  rw [if_neg, if_neg]
  · rintro (h | h)
    · omega
    · simp at h
  · rintro (h | h | h)
    · omega
    · omega
    · cases h
theorem extract_all (a : ByteArray) : a.extract 0 a.size = a := by
  apply ByteArray.ext
  simp [ByteArray.data_extract]
theorem str_data (a : ByteArray) : str a.data.toList = a := by
  apply ByteArray.ext
  simp [str]

set_option maxRecDepth 100000 in
set_option maxHeartbeats 4000000 in
theorem law_shelfKeeps (a b : ByteArray) (keep twice : Int) (ha : a.size ≤ 1000) (hb : b.size ≤ 1000) (k0 : -9223372036854775808 ≤ keep) (k1 : keep ≤ 9223372036854775807) (t0 : -9223372036854775808 ≤ twice) (t1 : twice ≤ 9223372036854775807)
    (N : Nat) (hN : N ≤ b.size) (hk : min (max keep 0) (b.size : Int) = (N : Int)) (w : World) :
    Calls Try.prog 4 #[.string a, .string b, .int .i64 keep, .int .i64 twice] w fun e w' => e = .returned (.bool true) ∧ Ext w w' := by
  have HC : Hid (crashN keep a.size (a ++ b).size = a.size + N) := Lib.hid (by
    rw [ByteArray.size_append]
    unfold crashN
    omega)
  have HE := Lib.hid (app_extract a b N)
  obtain ⟨L, hL⟩ : ∃ L, L = a ++ b.extract 0 N := ⟨_, rfl⟩
  have hLs : L.size = a.size + N := by rw [hL, ByteArray.size_append, ByteArray.size_extract]; omega
  have HL := Lib.hid hL
  have HLs := Lib.hid hLs
  clear hL hLs
  go_enter Try.func4, Try.ntmps4
  go_wp2_with fail
  refine (ow_new w).mono ?_
  rintro e w1 ⟨rfl, h⟩
  go_wp2_with fail
  refine (ow_append a a (by have e : (⟨#[]⟩ : ByteArray).size = 0 := rfl; rw [e]; omega) (by apply ByteArray.ext; rw [ByteArray.data_append]; simp) h).mono ?_
  rintro e w2 ⟨rfl, h2⟩
  clear h
  go_wp2_with fail
  refine (ow_sync h2).mono ?_
  rintro e w3 ⟨rfl, h3⟩
  clear h2
  go_wp2_with fail
  refine (ow_append b _ (by omega) rfl h3).mono ?_
  rintro e w4 ⟨rfl, h4⟩
  clear h3
  go_wp2_with fail
  refine (ow_put 5 (by omega) (by omega) a (by unfold maxLen; omega) (by simp) 0 [(5, a.data.toList)] (put5_ok a ha) (by rfl) h4).mono ?_
  rintro e w5 ⟨rfl, h5⟩
  clear h4
  go_wp2_with fail
  refine (ow_unsynced (b.size : Int) (by rw [ByteArray.size_append]; omega) h5).mono ?_
  rintro e w6 ⟨rfl, hE6, h6⟩
  clear h5 hE6
  go_wp2_with fail
  refine (ow_crash _ (by omega) (by omega) L _ HC.out (by rw [HE.out]; exact HL.out.symm) h6).mono ?_
  rintro e w7 ⟨rfl, h7⟩
  clear h6
  go_wp2
  refine wp_region_tab 13 [(1, fun v _ => v = .string L), (6, fun v _ => v = .string L), (10, fun v _ => v = .int .i64 0)] (by kernel_rfl) (by kernel_rfl) (by kernel_rfl) ⟨stays_eq _, stays_eq _, stays_eq _, trivial⟩ ?_
  refine rg_quiet rfl rfl rfl rfl ?_; intro K hK; go_big_quiet_op; go_big_quiet_on
  refine rg_val [] rfl rfl rfl (by kernel_rfl) (fun w8 hE hf => ?_) ?_
  · go_simp
    exact (ow_log (h7.more hE)).mono fun e w' ⟨he, hw⟩ => ⟨_, he, rg_done hE (Ext.of_eq hw) rfl⟩
  simp only [Act.put, List.setIfInBounds_toArray, List.set_cons_zero, List.set_cons_succ]
  refine rg_quiet rfl rfl rfl rfl ?_; intro K hK; go_big_quiet_op; go_big_quiet_on
  refine rg_quiet rfl rfl rfl rfl ?_; intro K hK; go_big_quiet_op; go_big_quiet_on
  refine rg_quiet rfl rfl rfl rfl ?_; intro K hK; go_big_quiet_op; go_big_quiet_on
  refine rg_quiet rfl rfl rfl rfl ?_; intro K hK; go_big_quiet_op; go_big_quiet_on
  refine rg_val [] rfl rfl rfl (by kernel_rfl) (fun w8 hE hf => ?_) ?_
  · go_simp
    rw [if_neg (by omega)]
    exact rg_done hE (Ext.refl w8) (by rw [HL.out])
  simp only [Act.put, List.setIfInBounds_toArray, List.set_cons_zero, List.set_cons_succ]
  refine rg_quiet rfl rfl rfl rfl ?_; intro K hK; go_big_quiet_op; go_big_quiet_on
  refine rg_quiet rfl rfl rfl rfl ?_; intro K hK; go_big_quiet_op; go_big_quiet_on
  refine rg_quiet rfl rfl rfl rfl ?_; intro K hK; go_big_quiet_op; go_big_quiet_on
  refine rg_val [] rfl rfl rfl (by kernel_rfl) (fun w8 hE hf => ?_) ?_
  · go_simp
    exact (ow_unsynced 0 (by have := HLs.out; omega) (h7.more hE)).mono fun e w' ⟨he, hw, _⟩ => ⟨_, he, rg_done hE hw rfl⟩
  simp only [Act.put, List.setIfInBounds_toArray, List.set_cons_zero, List.set_cons_succ]
  refine rg_quiet rfl rfl rfl rfl ?_; intro K hK; go_big_quiet_op; go_big_quiet_on
  refine rg_quiet rfl rfl rfl rfl ?_; intro K hK; go_big_quiet_op; go_big_quiet_on
  refine rel_nil fun w8 hE8 _ => ?_
  have h8 := h7.more hE8
  clear h7 hE8
  go_wp2_with fail
  refine (ow_crash _ (by omega) (by omega) L (a.size + N) (by rw [HLs.out]; exact crashN_self _ _) (by rw [← HLs.out]; exact extract_all L) h8).mono ?_
  rintro e w9 ⟨rfl, h9⟩
  clear h8
  go_wp2_with fail
  refine (ow_get 5 (by omega) (by omega) a 0 (by simp [fget, str_data]) (by simp [fhas]) h9).mono ?_
  rintro e w10 ⟨rfl, rfl⟩
  go_wp2
  refine wp_region_tab 20 [(1, fun v _ => v = .string L), (6, fun v _ => v = .string L)] (by kernel_rfl) (by kernel_rfl) (by kernel_rfl) ⟨stays_eq _, stays_eq _, trivial⟩ ?_
  refine rg_quiet rfl rfl rfl rfl ?_; intro K hK; go_big_quiet_op; go_big_quiet_on
  refine rg_val [] rfl rfl rfl (by kernel_rfl) (fun w8 hE hf => ?_) ?_
  · go_simp
    exact (ow_log (h9.more hE)).mono fun e w' ⟨he, hw⟩ => ⟨_, he, rg_done hE (Ext.of_eq hw) rfl⟩
  simp only [Act.put, List.setIfInBounds_toArray, List.set_cons_zero, List.set_cons_succ]
  refine rg_quiet rfl rfl rfl rfl ?_; intro K hK; go_big_quiet_op; go_big_quiet_on
  refine rg_quiet rfl rfl rfl rfl ?_; intro K hK; go_big_quiet_op; go_big_quiet_on
  refine rg_quiet rfl rfl rfl rfl ?_; intro K hK; go_big_quiet_op; go_big_quiet_on
  refine rg_quiet rfl rfl rfl rfl ?_; intro K hK; go_big_quiet_op; go_big_quiet_on
  refine rg_val [] rfl rfl rfl (by kernel_rfl) (fun w8 hE hf => ?_) ?_
  · go_simp
    rw [if_neg (by omega)]
    exact rg_done hE (Ext.refl w8) (by rw [HL.out])
  simp only [Act.put, List.setIfInBounds_toArray, List.set_cons_zero, List.set_cons_succ]
  refine rg_quiet rfl rfl rfl rfl ?_; intro K hK; go_big_quiet_op; go_big_quiet_on
  refine rg_quiet rfl rfl rfl rfl ?_; intro K hK; go_big_quiet_op; go_big_quiet_on
  refine rg_quiet rfl rfl rfl rfl ?_; intro K hK; go_big_quiet_op; go_big_quiet_on
  refine rg_quiet rfl rfl rfl rfl ?_; intro K hK; go_big_quiet_op; go_big_quiet_on
  refine rg_quiet rfl rfl rfl rfl ?_; intro K hK; go_big_quiet_op; go_big_quiet_on
  refine rg_quiet rfl rfl rfl rfl ?_; intro K hK; go_big_quiet_op; go_big_quiet_on
  refine rg_quiet rfl rfl rfl rfl ?_; intro K hK; go_big_quiet_op; go_big_quiet_on
  refine rg_quiet rfl rfl rfl rfl ?_; intro K hK; go_big_quiet_op; go_big_quiet_on
  refine rg_quiet rfl rfl rfl rfl ?_; intro K hK; go_big_quiet_op; go_big_quiet_on
  refine rg_quiet rfl rfl rfl rfl ?_; intro K hK; go_big_quiet_op; go_big_quiet_on
  refine rg_quiet rfl rfl rfl rfl ?_; intro K hK; go_big_quiet_op; go_big_quiet_on
  refine rg_quiet rfl rfl rfl rfl ?_; intro K hK; go_big_quiet_op; go_big_quiet_on
  refine rg_quiet rfl rfl rfl rfl ?_; intro K hK; go_big_quiet_op; go_big_quiet_on
  refine rel_tail rfl rfl fun w10 hE10 _ => ?_
  have h10 := h9.more hE10
  clear h9 hE10
  go_wp2_with fail
  refine (ow_turn b (by omega) h10).mono ?_
  rintro e w11 ⟨rfl, h11, _⟩
  clear h10
  go_wp2_with fail
  refine (ow_crash 0 (by omega) (by omega) ⟨#[]⟩ 0 (by decide) (by rfl) h11).mono ?_
  rintro e w12 ⟨rfl, h12⟩
  clear h11
  go_wp2_with fail
  refine (ow_man h12).mono ?_
  rintro e w13 ⟨rfl, rfl⟩
  go_wp2_with fail
  refine (ow_log h12).mono ?_
  rintro e w13 ⟨rfl, rfl⟩
  go_wp2_with fail
  refine (ow_nums [5] (by rfl) (by simp) h12).mono ?_
  rintro e w14 ⟨a14, c14, rfl, _, _, h14⟩
  clear h12
  go_wp2_with (go_at_call 15; go_must (refine (awake5_any _).mono ?_); rintro e w15 ⟨rfl, hE15⟩)
  go_ret
  exact ⟨rfl, h14.ext.trans hE15⟩

theorem law_shelfKeeps_big (a b : ByteArray) (keep twice : Int) (h : 1000 < a.size ∨ 1000 < b.size) (w : World) :
    Calls Try.prog 4 #[.string a, .string b, .int .i64 keep, .int .i64 twice] w fun e w' => e = .returned (.bool true) ∧ Ext w w' := by
  go_enter Try.func4, Try.ntmps4
  go_wp2_with (go_at_call 15; go_must (refine (awake5_any _).mono ?_); rintro e w4 ⟨rfl, hE4⟩)
  all_goals
    go_ret
    exact ⟨rfl, hE4⟩

theorem walk_shelfKeeps (a b : ByteArray) (keep twice : Int) (_ : a.size ≤ maxLen) (_ : b.size ≤ maxLen) (wk : (Lit.int .i64 keep).wf = true) (wt : (Lit.int .i64 twice).wf = true) (w : World) :
    Calls Try.prog 4 #[.string a, .string b, .int .i64 keep, .int .i64 twice] w fun e w' => e = .returned (.bool true) ∧ Ext w w' := by
  have k := wf_i64 wk
  have t := wf_i64 wt
  by_cases h : 1000 < a.size ∨ 1000 < b.size
  · exact law_shelfKeeps_big a b keep twice h w
  · exact law_shelfKeeps a b keep twice (by omega) (by omega) k.1 k.2 t.1 t.2 (min (max keep 0) (b.size : Int)).toNat (by omega) (by omega) w
end Go.Proofs.Ythhhbmeceilkhaa
