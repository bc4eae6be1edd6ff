/- SegmentAll: any bytes, any body: the law's walk. -/
import Derived.Test.YthhhbmeceilkhaaDoorV6
import Derived.Test.YthhhbmeceilkhaaDoorV7
set_option linter.unusedSimpArgs false
set_option linter.unusedVariables false
namespace Go.Proofs.YthhhbmeceilkhaaDoor
open Go Go.RowKit
attribute [local go_sem] yields yUpon

theorem stays_bytesA (l : List UInt8) : Stays (fun v w => BytesIn w v l) := fun _ _ _ hE h => h.ext hE
set_option maxRecDepth 100000 in
set_option maxHeartbeats 2000000 in
theorem law_segmentAll_big (v0 : Value) (l : List UInt8) (s : ByteArray) (hs : s.size ≤ maxLen) (h : 2000 < l.length ∨ 2000 < s.size) (W : World) (hin : BytesIn W v0 l) :
    Calls Tryd.prog 3 #[v0, .string s] W fun e w' => e = .returned (.bool true) ∧ Ext W w' := by
  obtain ⟨a0, c0, rfl, hc0, hcm0, ha0, hcell0⟩ := hin
  unfold maxLen at hcm0 hs
  clear hcell0
  by_cases h1 : (2000 : Int) < (l.length : Int)
  · go_enter Tryd.func3, Tryd.ntmps3
    go_wp2_with (go_at_call 8; go_must (refine (awake4_any _).mono ?_); rintro e w7 ⟨rfl, hE7⟩)
    go_ret
    exact ⟨rfl, hE7⟩
  · have h2 : (2000 : Int) < (s.size : Int) := by omega
    go_enter Tryd.func3, Tryd.ntmps3
    go_wp2_with (go_at_call 8; go_must (refine (awake4_any _).mono ?_); rintro e w7 ⟨rfl, hE7⟩)
    go_ret
    exact ⟨rfl, hE7⟩

set_option maxRecDepth 100000 in
set_option maxHeartbeats 8000000 in
theorem law_segmentAll (v0 : Value) (l : List UInt8) (s : ByteArray) (hl : l.length ≤ 2000) (hs : s.size ≤ 2000) (W : World) (hin : BytesIn W v0 l) :
    Calls Tryd.prog 3 #[v0, .string s] W fun e w' => e = .returned (.bool true) ∧ Ext W w' := by
  have k1 : decide ((2000 : Int) < (l.length : Int)) = false := by simp; omega
  have k2 : decide ((2000 : Int) < (s.size : Int)) = false := by simp; omega
  have hin0 := hin
  obtain ⟨a0, c0, rfl, hc0, hcm0, ha0, hcell0⟩ := hin
  unfold maxLen at hcm0
  clear hcell0
  go_enter Tryd.func3, Tryd.ntmps3
  go_wp2_with (first
    | ((guard_target =~ wpList _ _ _ (Oper.mk (some 20) _ _ _ _ _ :: _) _ _); go_must (refine wpList_cloneB (by rfl) (.const (.slice none 0 0)) (.tmp 19) rfl rfl (by rfl) hin0 (by omega) ?_); intro v1 w1 hown1 hE1)
    | (at_builtin; go_must (refine appB w1 rfl (.tmp 20) (.tmp 21) rfl W hE1 _ _ _ [99] cs99 (by simp) rfl (Tip.own hown1) _ rfl rfl (by simp; omega) ?_); intro v2 w2 hown2 hE2; obtain ⟨a2, c2, rfl, hc2, hcm2, ha2, hcell2⟩ := hown2.bytes; obtain ⟨b2, o2, rfl, _⟩ := hcell2 l.length (.int .u8 99) (by simp [bcells]); unfold maxLen at hcm2; have hc2' : l.length + 1 ≤ c2 := (by simpa using hc2); clear hcell2 ha2 hc2))
  have hB2 : BytesIn w2 (.slice (some ⟨b2, o2, none⟩) l.length c2) l := BytesIn.cut (m := [99]) (by have := hown2.bytes; simpa using this)
  clear hown1 hown2 hE1
  refine (scan_any _ l (by omega) w2 hB2).mono ?_
  rintro e w3 ⟨v3, ⟨rfl, hE3⟩, hs3⟩
  have hin3 := hin0.ext (hE2.trans hE3)
  go_wp2_with ((guard_target =~ wpList _ _ _ (Oper.mk (some 33) _ _ _ _ _ :: _) _ _); go_must (refine wpList_text (by rfl) (.tmp 32) rfl hin3 ?_); intro s33 hs33 hz33)
  refine (rscan4_any s33 (by omega) w3).mono ?_
  rw [hs33.out]
  rintro e w4 ⟨v4, ⟨rfl, hE4⟩, hs4⟩
  have hgl := (scan_le l _ 0 (Nat.le_refl _) (Nat.zero_le _)).1
  generalize (scan l 0).1 = m at hs3 hs4
  generalize (scan l 0).2 = g at hgl ⊢
  obtain ⟨P, hP⟩ : ∃ P, P = sput false l.length s.data.toList := ⟨_, rfl⟩
  have hPl : P.length ≤ 20000 := by
    rw [hP, sput_lenS]
    have h1 := lenS_le _ l.length s.data.toList.length (Nat.le_refl _)
    have h2 : s.data.toList.length = s.size := by simp
    omega
  have HP := Lib.hid hP
  clear hP hs33 hz33
  have e1 : str l ++ str P = str (l ++ P) := strz_app l P
  have q1 : ¬ 9223372036854775807 < l.length + P.length := by omega
  replace hB2 := hB2.ext (hE3.trans hE4)
  replace hs3 := hs3.ext hE4
  have hin4 := hin3.ext hE4
  have hE := hE2.trans (hE3.trans hE4)
  clear hE2 hE3 hE4 hin3 hin0
  go_wp2_with fail
  refine wp_region_tab 33 [(2, fun v w => BytesIn w v (l ++ P)), (3, fun v _ => v = .string (str (l ++ P))), (5, fun v _ => v = .string (str l)), (9, fun v _ => v = .string (str P)), (15, fun v _ => v = .bool true), (24, fun v _ => v = .string (str l)), (26, fun v _ => v = .string (str l)), (30, fun v _ => v = .bool true)] (by kernel_rfl) (by kernel_rfl) (by kernel_rfl)
    ⟨stays_bytesA _, stays_eq _, stays_eq _, stays_eq _, stays_eq _, stays_eq _, stays_eq _, stays_eq _, trivial⟩ ?_
  refine rg_quiet rfl rfl rfl rfl ?_; intro K hK; go_big_quiet_op; go_big_quiet_on
  refine rg_quiet rfl rfl rfl rfl ?_; intro K hK; go_big_quiet_op; go_big_quiet_on
  refine rg_call (vals := #[.slice (some ⟨b2, o2, none⟩) l.length c2, .string s]) [] rfl rfl rfl rfl Tryd.func11 rfl (by kernel_rfl) rfl (by kernel_rfl) (fun w3 hE hf => ?_) (fun v5 w5 hE5 hG5 h5 => ?_)
  · exact (put_gen _ l (by omega) s (by omega) w3 (hB2.ext hE)).mono fun e w' ⟨v, ⟨he, hE'⟩, ho⟩ => ⟨v, he, by rw [HP.out]; exact ho.bytes, hE'⟩
  simp only [Act.put, List.setIfInBounds_toArray, List.set_cons_zero, List.set_cons_succ]
  clear hE5 hG5 h5 w5
  refine rg_text [2] 22 9 5 (.tmp 39) (l ++ P) rfl rfl rfl rfl (by kernel_rfl) und_bytes und_u8 und_string (fun w1 hE hf => (hf 2 (by simp)).2 rfl) ?_
  simp only [Act.put, List.setIfInBounds_toArray, List.set_cons_zero, List.set_cons_succ]
  refine rg_quiet rfl rfl rfl rfl ?_; intro K hK; go_big_quiet_op; go_big_quiet_on
  refine rg_text [] 22 9 5 (.tmp 41) l rfl rfl rfl rfl (by kernel_rfl) und_bytes und_u8 und_string (fun w1 hE hf => hin4.ext hE) ?_
  simp only [Act.put, List.setIfInBounds_toArray, List.set_cons_zero, List.set_cons_succ]
  refine rg_quiet rfl rfl rfl rfl ?_; intro K hK; go_big_quiet_op; go_big_quiet_on
  refine rg_quiet rfl rfl rfl rfl ?_; intro K hK; go_big_quiet_op; go_big_quiet_on
  refine rg_quiet rfl rfl rfl rfl ?_; intro K hK; go_big_quiet_op; go_big_quiet_on
  refine rg_val [] rfl rfl rfl (by kernel_rfl) (fun w1 hE hf => ?_) ?_
  · go_simp
    exact (rput4_any l.length (by omega) s (by omega) w1).mono fun e w' ⟨p, ⟨he, hw⟩, hp⟩ => ⟨_, he, rg_done hE hw (by rw [show p = str P from by rw [HP.out, ← hp.out, str_self]])⟩
  simp only [Act.put, List.setIfInBounds_toArray, List.set_cons_zero, List.set_cons_succ]
  refine rg_quiet rfl rfl rfl rfl ?_; intro K hK; go_big_quiet_op; go_big_quiet_on
  refine rg_quiet rfl rfl rfl rfl ?_; intro K hK; go_big_quiet_op; go_big_quiet_on
  refine rg_quiet rfl rfl rfl rfl ?_; intro K hK; go_big_quiet_op; go_big_quiet_on
  refine rg_quiet rfl rfl rfl rfl ?_; intro K hK; go_big_quiet_op; go_big_quiet_on
  refine rg_quiet rfl rfl rfl rfl ?_; intro K hK; go_big_quiet_op; go_big_quiet_on
  refine rg_val [] rfl rfl rfl (by kernel_rfl) (fun w1 hE hf => ?_) ?_
  · go_simp
    exact (sameStr_any _ _ m w1 (hs3.ext hE) (hs4.ext hE)).mono fun e w' ⟨he, hw⟩ => ⟨_, he, rg_done hE hw (rfl)⟩
  simp only [Act.put, List.setIfInBounds_toArray, List.set_cons_zero, List.set_cons_succ]
  refine rg_quiet rfl rfl rfl rfl ?_; intro K hK; go_big_quiet_op; go_big_quiet_on
  refine rg_quiet rfl rfl rfl rfl ?_; intro K hK; go_big_quiet_op; go_big_quiet_on
  refine rg_quiet rfl rfl rfl rfl ?_; intro K hK; go_big_quiet_op; go_big_quiet_on
  refine rg_quiet rfl rfl rfl rfl ?_; intro K hK; go_big_quiet_op; go_big_quiet_on
  refine rg_quiet rfl rfl rfl rfl ?_; intro K hK; go_big_quiet_op; go_big_quiet_on
  refine rg_quiet rfl rfl rfl rfl ?_; intro K hK; go_big_quiet_op; go_big_quiet_on
  refine rg_quiet rfl rfl rfl rfl ?_; intro K hK; go_big_quiet_op; go_big_quiet_on
  refine rg_quiet rfl rfl rfl rfl ?_; intro K hK; go_big_quiet_op; go_big_quiet_on
  refine rg_text [] 22 9 5 (.tmp 60) l rfl rfl rfl rfl (by kernel_rfl) und_bytes und_u8 und_string (fun w1 hE hf => hB2.ext hE) ?_
  simp only [Act.put, List.setIfInBounds_toArray, List.set_cons_zero, List.set_cons_succ]
  refine rg_quiet rfl rfl rfl rfl ?_; intro K hK; go_big_quiet_op; go_big_quiet_on
  refine rg_text [] 22 9 5 (.tmp 62) l rfl rfl rfl rfl (by kernel_rfl) und_bytes und_u8 und_string (fun w1 hE hf => hin4.ext hE) ?_
  simp only [Act.put, List.setIfInBounds_toArray, List.set_cons_zero, List.set_cons_succ]
  refine rg_quiet rfl rfl rfl rfl ?_; intro K hK; go_big_quiet_op; go_big_quiet_on
  refine rg_quiet rfl rfl rfl rfl ?_; intro K hK; go_big_quiet_op; go_big_quiet_on
  refine rg_quiet rfl rfl rfl rfl ?_; intro K hK; go_big_quiet_op; go_big_quiet_on
  refine rg_val [] rfl rfl rfl (by kernel_rfl) (fun w1 hE hf => ?_) ?_
  · go_simp
    exact (awake4_any w1).mono fun e w' ⟨he, hw⟩ => ⟨_, he, rg_done hE hw (rfl)⟩
  simp only [Act.put, List.setIfInBounds_toArray, List.set_cons_zero, List.set_cons_succ]
  refine rg_quiet rfl rfl rfl rfl ?_; intro K hK; go_big_quiet_op; go_big_quiet_on
  refine rg_quiet rfl rfl rfl rfl ?_; intro K hK; go_big_quiet_op; go_big_quiet_on
  refine rel_nil fun w5 hE5 _ => ?_
  go_wp2
  go_ret
  exact ⟨rfl, hE.trans hE5⟩

theorem walk_segmentAll (v0 : Value) (s : ByteArray) (W : World) (w0 : ∃ l : List Int, IntsIn W v0 .u8 l ∧ ∀ n ∈ l, (Lit.int .u8 n).wf = true) (hs : s.size ≤ maxLen) :
    Calls Tryd.prog 3 #[v0, .string s] W fun e w' => e = .returned (.bool true) ∧ Ext W w' := by
  obtain ⟨z, hz, hw⟩ := w0
  obtain ⟨l, hl⟩ := bytes_of_ints hz hw
  by_cases h : 2000 < l.length ∨ 2000 < s.size
  · exact law_segmentAll_big v0 l s hs h W hl
  · exact law_segmentAll v0 l s (by omega) (by omega) W hl
end Go.Proofs.YthhhbmeceilkhaaDoor
