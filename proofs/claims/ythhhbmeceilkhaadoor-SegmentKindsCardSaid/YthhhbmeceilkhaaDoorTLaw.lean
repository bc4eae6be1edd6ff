/- SegmentKinds: pieces that were put out of order, or by themselves, are no record: the law's walk. -/
import Derived.Test.YthhhbmeceilkhaaDoorT4
import Derived.Test.YthhhbmeceilkhaaDoorT5
set_option linter.unusedSimpArgs false
set_option linter.unusedVariables false
namespace Go.Proofs.YthhhbmeceilkhaaDoor
open Go Go.RowKit
attribute [local go_sem] yields yUpon

theorem rd_not {s : List UInt8} (h : s.getD 0 0 = 3 ∨ s.getD 0 0 = 4) : rd s false 0 = none := by
  have hp : pk s 0 = 3 ∨ pk s 0 = 4 := by
    unfold pk
    rcases h with h | h <;> rw [h]
    · exact .inl rfl
    · exact .inr rfl
  have hk : okP s false 0 = false := by rcases hp with hp | hp <;> simp [okP, hp]
  have hg : gap 0 = 0 := gap_zero rfl
  rw [rd]
  simp [hg, hk]
theorem sput_head {m : Nat} (hm : m % 128 = 0) (body : List UInt8) : (sput true m body).getD 0 0 = 3 ∨ (sput true m body).getD 0 0 = 4 := by
  by_cases hr : body.length ≤ room m
  · right; rw [sput_last hr, gap_zero hm]; rfl
  · left; rw [sput_more hr, gap_zero hm]; rfl
theorem sput_second {z : List UInt8} (hz : 122 < z.length) : (sput false 0 z).drop 128 = sput true 128 (z.drop 122) := by
  have hr : room 0 = 122 := room_zero rfl
  have hg : gap 0 = 0 := gap_zero rfl
  rw [sput_more (by rw [hr]; omega), hr, hg]
  simp only [zer, List.replicate_zero, List.nil_append]
  exact List.drop_left' (by simp; omega)
/-- A long record's bytes without their first or their last block. -/
theorem kinds_none {z : List UInt8} (hz : 122 < z.length) {B v lo : Nat} (hB : B = ((sput false 0 z).length + 127) / 128) (hv : v < B) (hlo : lo = min (128 * (v + 1)) (sput false 0 z).length) (he : v = 0 ∨ v = B - 1) :
    scan ((sput false 0 z).take (128 * v) ++ (sput false 0 z).drop lo) 0 = ([], 0) := by
  have hp := sput_pos false 0 z
  refine scan_none ?_
  rcases he with rfl | rfl
  · obtain rfl : lo = 128 := by omega
    rw [Nat.mul_zero, List.take_zero, List.nil_append, sput_second hz]
    exact rd_not (sput_head rfl _)
  · have e : (sput false 0 z).drop lo = [] := List.drop_of_length_le (by omega)
    rw [e, List.append_nil]
    refine rd_cut (t := (sput false 0 z).drop (128 * (B - 1))) (body := z) ?_ ?_ (Nat.zero_le _)
    · rw [List.drop_zero, List.take_append_drop]
    · intro h
      have := congrArg List.length h
      simp at this
      omega

set_option maxRecDepth 100000 in
set_option maxHeartbeats 8000000 in
theorem law_segmentKinds (a0 a1 : Int) (w : World) :
    Calls Tryd.prog 7 #[.int .i64 a0, .int .i64 a1] w fun e w' => e = .returned (.bool true) ∧ Ext w w' := by
  obtain ⟨k0, hk⟩ : ∃ k0 : Nat, (k0 : Int) = a0 % 400 := ⟨(a0 % 400).toNat, by omega⟩
  have hkl : k0 < 400 := by omega
  have Hk := Lib.hid hk.symm
  clear hk
  go_enter Tryd.func7, Tryd.ntmps7
  go_wp2_with fail
  refine (place_any _ _ (by omega) (by omega) _).mono ?_
  rintro e w1 ⟨rfl, rfl⟩
  rw [Hk.out]
  go_wp2_with (first
    | ((guard_target =~ wpList _ _ _ (Oper.mk (some 16) _ _ _ _ _ :: _) _ _); go_must (refine wpList_zeros (by rfl) (.tmp 15) (.tmp 15) rfl (N := 200 + k0) (congrArg (Value.int .i64) (by omega)) (congrArg (Value.int .i64) (by omega)) (by omega) ?_); intro v1 w1 ho1 hE1; have hb1 := ho1.bytes; clear ho1)
    | ((guard_target =~ wpList _ _ _ (Oper.mk (some 17) _ _ _ _ _ :: _) _ _); go_must (refine wpList_text (by rfl) (.tmp 16) rfl hb1 ?_); intro s hs hz))
  simp only [List.length_replicate] at hz
  refine (put_nil s (by omega) _).mono ?_
  rintro e w2 ⟨v2, ⟨rfl, hE2⟩, ho2⟩
  obtain ⟨L, hL⟩ : ∃ L, L = sput false 0 s.data.toList := ⟨_, rfl⟩
  have hsl : s.data.toList.length = 200 + k0 := by simpa using hz
  have hLb : 206 ≤ L.length ∧ L.length ≤ 5000 := by
    have h1 := lenS_pos 0 (200 + k0)
    have h2 := lenS_le _ 0 (200 + k0) (Nat.le_refl _)
    rw [hL, sput_lenS, hsl]
    omega
  rw [← hL] at ho2
  have hb2 := ho2.bytes
  obtain ⟨a2, c2, rfl, hc2, hcm2, _, _⟩ := ho2.bytes
  clear ho2 hb1
  unfold maxLen at hcm2
  obtain ⟨B, hB⟩ : ∃ B : Nat, B = (L.length + 127) / 128 := ⟨_, rfl⟩
  have hBi : ((L.length : Int) + 128 - 1) / 128 = (B : Int) := by omega
  have hBl : 2 ≤ B ∧ B ≤ 100 ∧ 128 * (B - 1) < L.length := by omega
  have HL := Lib.hid hL
  clear hL
  obtain ⟨n, hn⟩ : ∃ n, n = L.length := ⟨_, rfl⟩
  have HN := Lib.hid hn
  have hLn := hLb.2
  rw [← hn] at hLb hc2 hBi hBl hB ⊢
  have HB := Lib.hid hB
  clear hn hB
  go_wp2_with fail
  try simp only [hBi]
  obtain ⟨v, hv⟩ : ∃ v : Nat, (v : Int) = a1 % (B : Int) := ⟨(a1 % (B : Int)).toNat, by have := Int.emod_nonneg a1 (show (B : Int) ≠ 0 by omega); omega⟩
  have hvB : v < B := by have := Int.emod_lt_of_pos a1 (show (0 : Int) < (B : Int) by omega); omega
  refine (place_any _ _ (by omega) (by omega) _).mono ?_
  rintro e w3 ⟨rfl, rfl⟩
  rw [← hv]
  clear hv
  obtain ⟨lo, hlo⟩ : ∃ lo : Nat, lo = min (128 * (v + 1)) n := ⟨_, rfl⟩
  have hloi : min (128 * ((v : Int) + 1)) (n : Int) = (lo : Int) := by omega
  have hlol : lo ≤ n := by omega
  have HLO := Lib.hid hlo
  clear hlo hBi
  go_wp2_with (first
    | ((guard_target =~ wpList _ _ _ (Oper.mk (some 40) _ _ _ _ _ :: _) _ _); go_must (refine wpList_subTo (by rfl) (.tmp 37) (.tmp 39) rfl (l := L) (hi := 128 * v) (congrArg (fun q => Value.slice a2 q c2) HN.out) (congrArg (Value.int .i64) (by omega)) hb2 (by rw [← HN.out]; omega) ?_); intro u40 h40)
    | ((guard_target =~ wpList _ _ _ (Oper.mk (some 41) _ _ _ _ _ :: _) _ _); go_must (refine wpList_cloneB (by rfl) (.const (.slice none 0 0)) (.tmp 40) rfl rfl rfl h40 (by rw [List.length_take]; omega) ?_); intro v41 w41 h41 hE41)
    | ((guard_target =~ wpList _ _ _ (Oper.mk (some 50) _ _ _ _ _ :: _) _ _); go_must (refine wpList_subFrom (by rfl) (.tmp 43) (.tmp 49) rfl (l := L) (lo := lo) (congrArg (fun q => Value.slice a2 q c2) HN.out) rfl (hb2.ext hE41) (by rw [← HN.out]; omega) ?_); intro u50 h50)
    | ((guard_target =~ wpList _ _ _ (Oper.mk (some 51) _ _ _ _ _ :: _) _ _); go_must (refine wpList_ownB (by rfl) (.tmp 42) (.tmp 50) rfl rfl rfl hE41.size h41 h50 (by rw [List.length_take, List.length_drop]; omega) ?_); intro v51 w51 h51 hg51))
  have hE51 := (Ext.refl w2).trans hE41 |>.grownOwn h41 (Nat.le_refl _) hg51
  have hb51 := h51.bytes
  obtain ⟨C, hC⟩ : ∃ C, C = L.take (128 * v) ++ L.drop lo := ⟨_, rfl⟩
  rw [← hC] at hb51
  have hCl : C.length ≤ 4294967296 := by rw [hC, List.length_append, List.length_take, List.length_drop]; omega
  have HC := Lib.hid hC
  clear hC h51 h41 h40 h50 hb2 hg51
  refine (scan_any v51 C hCl w51 hb51).mono ?_
  rintro e w6 ⟨v6, ⟨rfl, hE6⟩, hs6⟩
  obtain ⟨a6, c6, rfl, hc6, hcm6, _, _⟩ := hs6
  unfold maxLen at hcm6
  have hE06 := hE1.trans (hE2.trans (hE51.trans hE6))
  have hBc := hBl.1
  by_cases hve : v = 0 ∨ v = B - 1
  · have hsc : scan C 0 = ([], 0) := by
      have h1 := HC.out
      have h2 := HL.out
      have h3 := HN.out
      have h4 := HLO.out
      have h5 := HB.out
      subst h1
      subst h2
      subst h3
      exact kinds_none (z := s.data.toList) (by omega) h5 hvB h4 hve
    simp only [hsc, List.length_nil]
    clear hc6 hb51 hsc
    go_wp2_with fail
    refine (awake4_any _).mono ?_
    rintro e w7 ⟨rfl, hE7⟩
    go_wp2
    go_ret
    exact ⟨rfl, hE06.trans hE7⟩
  · obtain ⟨g, hg⟩ : ∃ g, g = (scan C 0).2 := ⟨_, rfl⟩
    obtain ⟨m, hm⟩ : ∃ m, m = (scan C 0).1.length := ⟨_, rfl⟩
    have hgl : g ≤ 4294967296 := by rw [hg]; have := (scan_le C _ 0 (Nat.le_refl _) (Nat.zero_le _)).1; omega
    rw [← hm] at hc6 ⊢
    rw [← hg]
    clear hm hg hb51
    have h1 : (0 : Int) < (v : Int) := by omega
    have h2 : (v : Int) < (B : Int) - 1 := by omega
    go_wp2_with (first
      | (go_at_call 8; go_must (refine (awake4_any _).mono ?_); rintro e w7 ⟨rfl, hE7⟩))
    all_goals
      go_ret
      exact ⟨rfl, hE06.trans hE7⟩
theorem walk_segmentKinds (a0 a1 : Int) (_ : (Lit.int .i64 a0).wf = true) (_ : (Lit.int .i64 a1).wf = true) (w : World) :
    Calls Tryd.prog 7 #[.int .i64 a0, .int .i64 a1] w fun e w' => e = .returned (.bool true) ∧ Ext w w' := law_segmentKinds a0 a1 w
end Go.Proofs.YthhhbmeceilkhaaDoor
