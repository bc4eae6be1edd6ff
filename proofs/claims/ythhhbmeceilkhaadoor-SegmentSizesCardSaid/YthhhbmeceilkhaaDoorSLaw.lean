/- SegmentSizes: a record's bytes, six for each piece, and noughts at most at blocks' ends; no piece goes over a block's end: the law's walk. -/
import Derived.Test.YthhhbmeceilkhaaDoorS4
import Derived.Test.YthhhbmeceilkhaaDoorS5
set_option linter.unusedSimpArgs false
set_option linter.unusedVariables false
namespace Go.Proofs.YthhhbmeceilkhaaDoor
open Go Go.RowKit
attribute [local go_sem] yields yUpon

theorem stays_ownB (B : Nat) (l : List UInt8) : Stays (fun v w => OwnB w B v l) := fun _ _ _ hE h => h.ext hE
/-- What the law's count is at a loop's head. -/
def SzJ (h k E : Nat) (at_ left p : Nat) : Prop := at_ + lenS at_ left = E ∧ at_ ≤ E ∧ left ≤ k ∧ (p = 0 ∧ left = k ∨ 1 ≤ p ∧ at_ % 128 = 0 ∧ 0 < left ∧ 122 * (p - 1) + left ≤ k)
theorem sz_start (h k : Nat) : SzJ h k (h + lenS h k) h k 0 := ⟨rfl, by omega, Nat.le_refl _, .inl ⟨rfl, rfl⟩⟩
theorem sz_last {h k E at_ left p : Nat} (hJ : SzJ h k E at_ left p) (hl : left ≤ room at_) : at_ + gap at_ + 6 + left = E ∧ p + 1 ≤ 1 + k / 122 + 2 := by
  obtain ⟨h1, _, _, h2⟩ := hJ
  rw [lenS_last hl] at h1
  refine ⟨by omega, ?_⟩
  rcases h2 with ⟨rfl, _⟩ | ⟨a, b, c, d⟩
  · omega
  · have : p - 1 ≤ k / 122 := by omega
    omega
theorem sz_more {h k E at_ left p : Nat} (hJ : SzJ h k E at_ left p) (hl : room at_ < left) : SzJ h k E (at_ + gap at_ + 6 + room at_) (left - room at_) (p + 1) := by
  obtain ⟨h1, h0, h3, h2⟩ := hJ
  have hf := gap_full at_
  rw [lenS_more (by omega)] at h1
  have e : at_ + gap at_ + (6 + room at_) = at_ + gap at_ + 6 + room at_ := by omega
  rw [e] at h1 hf
  have hp := room_pos at_
  refine ⟨by omega, by omega, by omega, .inr ⟨by omega, hf, by omega, ?_⟩⟩
  rcases h2 with ⟨rfl, rfl⟩ | ⟨a, b, c, d⟩
  · omega
  · rw [room_zero b] at *
    omega

set_option maxRecDepth 100000 in
set_option maxHeartbeats 8000000 in
theorem law_segmentSizes (a0 a1 : Int) (w : World) :
    Calls Tryd.prog 6 #[.int .i64 a0, .int .i64 a1] w fun e w' => e = .returned (.bool true) ∧ Ext w w' := by
  obtain ⟨h, hh⟩ : ∃ h : Nat, (h : Int) = a0 % 300 := ⟨(a0 % 300).toNat, by omega⟩
  have hhl : h < 300 := by omega
  obtain ⟨k, hk⟩ : ∃ k : Nat, (k : Int) = a1 % 700 := ⟨(a1 % 700).toNat, by omega⟩
  have hkl : k < 700 := by omega
  have Hh := Lib.hid hh.symm
  have Hk := Lib.hid hk.symm
  clear hh hk
  obtain ⟨E, hE⟩ : ∃ E, E = h + lenS h k := ⟨_, rfl⟩
  have hEl : E ≤ 100000 := by rw [hE]; have := lenS_le _ h k (Nat.le_refl _); omega
  have HE := Lib.hid hE
  clear hE
  go_enter Tryd.func6, Tryd.ntmps6
  go_wp2_with fail
  refine (place_any _ _ (by omega) (by omega) _).mono ?_
  rintro e w1 ⟨rfl, rfl⟩
  rw [Hh.out]
  go_wp2_with fail
  refine (place_any _ _ (by omega) (by omega) _).mono ?_
  rintro e w1 ⟨rfl, rfl⟩
  rw [Hk.out]
  go_wp2_with ((guard_target =~ wpList _ _ _ (Oper.mk (some 21) _ _ _ _ _ :: _) _ _); go_must (refine wpList_zeros (by rfl) (.tmp 20) (.tmp 20) rfl (N := h) rfl rfl (by omega) ?_); intro v1 w1 ho1 hE1)
  have hb1 := ho1.bytes
  have hrl : (List.replicate h (0 : UInt8)).length = h := by simp
  have HR := Lib.hid hrl
  clear ho1 hrl
  refine wp_region_tab 7 [(1, fun v w => BytesIn w v (List.replicate h 0)), (3, fun v w => BytesIn w v (List.replicate k 0)), (4, fun v _ => v = .string (str (List.replicate k 0))), (5, fun v w' => BytesIn w' v (List.replicate h 0 ++ sput false h (List.replicate k 0)))] (by kernel_rfl) (by kernel_rfl) (by kernel_rfl) ⟨stays_bytes _, stays_bytes _, stays_eq _, stays_bytes _, trivial⟩ ?_
  refine rg_quiet rfl rfl rfl rfl ?_; intro K hK; go_big_quiet_op; go_big_quiet_on
  refine rg_fact [] rfl rfl rfl (by kernel_rfl) (fun x hx hf => ?_) (fun v2 x2 hC2 hG2 h2 => ?_)
  · exact yields_cloneB (.const (.slice none 0 0)) (.tmp 22) rfl rfl (by rfl) (hb1.ext hx) (by rw [HR.out]; omega) fun v' w' h3 h4 => rg_doneR hx h4 h3.bytes
  clear hC2 hG2 h2 x2
  simp only [Act.put, List.setIfInBounds_toArray, List.set_cons_zero, List.set_cons_succ]
  refine rg_quiet rfl rfl rfl rfl ?_; intro K hK; go_big_quiet_op; go_big_quiet_on
  refine rg_fact [] rfl rfl rfl (by kernel_rfl) (fun x hx hf => ?_) (fun v3 x3 hC3 hG3 h3 => ?_)
  · exact yields_zeros (.tmp 24) (.tmp 24) rfl (N := k) (by rfl) (by rfl) (by omega) fun v' w' h3 h4 => rg_doneR hx h4 h3.bytes
  clear hC3 hG3 h3 x3
  simp only [Act.put, List.setIfInBounds_toArray, List.set_cons_zero, List.set_cons_succ]
  refine rg_text [3] 22 9 5 (.tmp 25) (List.replicate k 0) rfl rfl rfl rfl (by kernel_rfl) und_bytes und_u8 und_string (fun w1 hE hf => (hf 3 (by simp)).2 rfl) ?_
  simp only [Act.put, List.setIfInBounds_toArray, List.set_cons_zero, List.set_cons_succ]
  refine rg_call (vals := #[v2, .string (str (List.replicate k 0))]) [1] rfl rfl rfl rfl Tryd.func11 rfl (by kernel_rfl) rfl (by kernel_rfl) (fun w1 hE hf => ?_) (fun v5 w5 hE5 hG5 h5 => ?_)
  · exact (put_gen v2 (List.replicate h 0) (by rw [HR.out]; omega) (str (List.replicate k 0)) (by simp; omega) w1 ((hf 1 (by simp)).1.2 rfl)).mono fun e w' ⟨v, ⟨he, hE'⟩, ho⟩ => ⟨v, he, by have := ho.bytes; rw [HR.out] at this; exact this, hE'⟩
  simp only [Act.put, List.setIfInBounds_toArray, List.set_cons_zero, List.set_cons_succ]
  clear hE5 hG5 h5
  refine rg_quiet rfl rfl rfl rfl ?_; intro K hK; go_big_quiet_op; go_big_quiet_on
  refine rel_nil fun w6 hE6 hF6 => ?_
  obtain ⟨a5, c5, rfl, hc5, hcm5, _, _⟩ := (hF6 5).2 rfl
  clear hF6
  have hlc : (List.replicate h (0 : UInt8) ++ sput false h (List.replicate k 0)).length = E := by rw [HE.out]; simp [sput_lenS]
  rw [hlc] at hc5 ⊢
  clear hlc hb1
  unfold maxLen at hcm5
  have hj0 : SzJ h k E h k 0 := by rw [HE.out]; exact sz_start h k
  go_wp2
  go_loop [9, 10, 11] (fun a l p => ∃ at_ left n : Nat, a = .int .i64 at_ ∧ l = .int .i64 left ∧ p = .int .i64 n ∧ SzJ h k E at_ left n) (fun _ l _ => (intOf l).toNat)
  case atStart => exact ⟨h, k, 0, rfl, rfl, rfl, hj0⟩
  case round =>
    obtain ⟨at_, left, n, rfl, rfl, rfl, hJ⟩ := hrel
    have hg : gap at_ = 0 ∧ room at_ = 122 - at_ % 128 ∧ ¬ 128 - (at_ : Int) % 128 < 7 ∨ gap at_ = 128 - at_ % 128 ∧ room at_ = 122 ∧ 128 - (at_ : Int) % 128 < 7 := by unfold room gap; split <;> omega
    have hJ' := hJ
    obtain ⟨j1, j2, j3, j4⟩ := hJ'
    have jn : n ≤ 1000 := by rcases j4 with ⟨rfl, _⟩ | ⟨a, b, c, d⟩ <;> omega
    by_cases hlr : left ≤ room at_
    · have hl := sz_last hJ hlr
      rcases hg with ⟨g1, g2, g3⟩ | ⟨g1, g2, g3⟩
      all_goals
        go_wp2_with (first
          | ((guard_target =~ wpList _ _ _ (Oper.mk (some 67) _ _ _ _ _ :: _) _ _); go_must (refine wpList_zeros (by rfl) (.tmp 66) (.tmp 66) rfl (N := k) rfl rfl (by omega) ?_); intro v7 w7 ho7 hE7; have hb7 := ho7.bytes; clear ho7)
          | ((guard_target =~ wpList _ _ _ (Oper.mk (some 68) _ _ _ _ _ :: _) _ _); go_must (refine wpList_text (by rfl) (.tmp 67) rfl hb7 ?_); intro s8 hs8 hz8))
        simp only [List.length_replicate] at hz8
        refine (put_nil s8 (by omega) _).mono ?_
        rintro e w8 ⟨v8, ⟨rfl, hE8⟩, ho8⟩
        obtain ⟨L, hL⟩ : ∃ L, L = sput false 0 s8.data.toList := ⟨_, rfl⟩
        have hLl : L.length = lenS 0 k := by rw [hL, sput_lenS]; simp [hz8]
        have hLp := lenS_pos 0 k
        have hLu := lenS_le _ 0 k (Nat.le_refl _)
        have hsc : scan L 0 = ([s8.data.toList], L.length) := by rw [hL]; exact scan_one _
        rw [← hL] at ho8
        have hb8 := ho8.bytes
        have HS := Lib.hid hsc
        clear ho8 hL hsc
        go_wp2_with fail
        refine (scan_any _ L (by omega) w8 hb8).mono ?_
        rw [HS.out]
        rintro e w9 ⟨v9, ⟨rfl, hE9⟩, hs9⟩
        obtain ⟨a9, c9, rfl, hc9, hcm9, _, hcell9⟩ := hs9
        obtain ⟨b9, o9, rfl, h9⟩ := hcell9 0 _ rfl
        have hst : str s8.data.toList = s8 := by cases s8; simp [str]
        simp only [hst, Nat.add_zero] at h9
        clear hcell9 hst hb7 hb8
        have hLk : k < L.length := by omega
        go_wp2_with fail
        refine (awake4_any _).mono ?_
        rintro e w10 ⟨rfl, hE10⟩
        go_wp2
        go_ret
        exact ⟨rfl, (hE1.trans hE6).trans (hE7.trans (hE8.trans (hE9.trans hE10)))⟩
    · have hm := sz_more hJ (by omega)
      rcases hg with ⟨g1, g2, g3⟩ | ⟨g1, g2, g3⟩
      all_goals
        go_wp2
        go_round
        case rel => exact ⟨_, _, _, congrArg (Value.int .i64) (by omega), congrArg (Value.int .i64) (by omega), congrArg (Value.int .i64) (by omega), hm⟩
        case measure => simp [intOf]; omega
theorem walk_segmentSizes (a0 a1 : Int) (_ : (Lit.int .i64 a0).wf = true) (_ : (Lit.int .i64 a1).wf = true) (w : World) :
    Calls Tryd.prog 6 #[.int .i64 a0, .int .i64 a1] w fun e w' => e = .returned (.bool true) ∧ Ext w w' := law_segmentSizes a0 a1 w
end Go.Proofs.YthhhbmeceilkhaaDoor
