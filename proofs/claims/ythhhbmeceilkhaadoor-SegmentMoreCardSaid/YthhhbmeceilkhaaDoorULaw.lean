/- SegmentMore: behind what is good a record goes on as if nothing had been torn: the law's walk. -/
import Derived.Test.YthhhbmeceilkhaaDoorU5
import Derived.Test.YthhhbmeceilkhaaDoorU6
set_option linter.unusedSimpArgs false
set_option linter.unusedVariables false
namespace Go.Proofs.YthhhbmeceilkhaaDoor
open Go Go.RowKit
attribute [local go_sem] yields yUpon

set_option maxRecDepth 100000 in
set_option maxHeartbeats 8000000 in
theorem law_segmentMore (v0 : Value) (l : List (List UInt8)) (cut : Int) (body : ByteArray) (hb : body.size ≤ maxLen) (hl : ∀ x ∈ l, x.length ≤ maxLen) (w : World) (hin : StrsIn w v0 l) :
    Calls Tryd.prog 5 #[v0, .int .i64 cut, .string body] w fun e w' => e = .returned (.bool true) ∧ Ext w w' := by
  obtain ⟨a0, c0, rfl, hc0, hcm0, hcell0⟩ := hin.get
  have HC := Lib.hid hcell0
  have HLn := Lib.hid hl
  unfold maxLen at hcm0 hb
  clear hcell0 hin hl
  obtain ⟨n, hn⟩ : ∃ n, n = l.length := ⟨_, rfl⟩
  have HN := Lib.hid hn
  rw [← hn] at hc0 ⊢
  clear hn
  by_cases h12 : 12 < (n : Int)
  · go_enter Tryd.func5, Tryd.ntmps5
    go_wp2_with (go_at_call 8; go_must (refine (awake4_any _).mono ?_); rintro e w7 ⟨rfl, hE7⟩)
    go_ret
    exact ⟨rfl, hE7⟩
  by_cases h400 : 400 < (body.size : Int)
  · go_enter Tryd.func5, Tryd.ntmps5
    go_wp2_with (go_at_call 8; go_must (refine (awake4_any _).mono ?_); rintro e w7 ⟨rfl, hE7⟩)
    go_ret
    exact ⟨rfl, hE7⟩
  go_enter Tryd.func5, Tryd.ntmps5
  go_wp2
  go_loopw [7, 8] (fun vb i wr => ∃ k : Nat, k ≤ n ∧ i = .int .i64 k ∧ BytesIn wr vb (puts 0 (l.take k)) ∧ Ext w wr ∧ Hid (∀ x ∈ l.take k, x.length ≤ 400)) (fun _ i _ => n - (intOf i).toNat)
  case atStart => exact ⟨0, Nat.zero_le _, rfl, SliceIn.nil w, Ext.refl w, Lib.hid (by simp)⟩
  case round =>
    obtain ⟨k, hk, rfl, hB, hE, HT⟩ := hrel
    have hpl : (puts 0 (l.take k)).length ≤ 33744 := by
      have h1 := puts_le (l.take k) 0 HT.out
      rw [List.length_take] at h1
      omega
    by_cases hlt : k < n
    · have hkl : k < l.length := by rw [← HN.out]; exact hlt
      obtain ⟨b, o, rfl, hco⟩ := HC.out k hkl
      replace hco := hE.cell hco
      have hxl : l[k].length ≤ maxLen := HLn.out _ (List.getElem_mem hkl)
      have hxs : (str l[k]).size = l[k].length := by simp
      obtain ⟨x, hx⟩ : ∃ x, x = str l[k] := ⟨_, rfl⟩
      have HX := Lib.hid hx
      rw [← hx] at hco hxs
      unfold maxLen at hxl
      rw [← hxs] at hxl
      clear hx
      by_cases hx4 : 400 < (x.size : Int)
      · go_wp2_with (go_at_call 8; go_must (refine (awake4_any _).mono ?_); rintro e w7 ⟨rfl, hE7⟩)
        go_ret
        exact ⟨rfl, hE.trans hE7⟩
      · have HTk : Hid (∀ y ∈ l.take (k + 1), y.length ≤ 400) := Lib.hid (take_le hkl HT.out (by omega))
        have HP : Hid (puts 0 (l.take k) ++ sput false (puts 0 (l.take k)).length x.data.toList = puts 0 (l.take (k + 1))) := Lib.hid (by rw [HX.out]; simpa using puts_take hkl)
        clear hxs
        go_wp2_with (go_at_call 11; go_must (refine (put_gen _ (puts 0 (l.take k)) (by omega) x (by omega) wr hB).mono ?_); rintro e w7 ⟨v7, ⟨rfl, hE7⟩, ho7⟩; have hb7 := ho7.bytes; rw [HP.out] at hb7; clear ho7)
        go_roundw
        case rel => exact ⟨k + 1, by omega, by go_num, hb7, hE.trans hE7, HTk⟩
        case measure => simp [intOf]; omega
    · obtain rfl : k = n := by omega
      rw [HN.out, List.take_length] at hB
      rw [HN.out, List.take_length] at hpl
      obtain ⟨L, hL⟩ : ∃ L, L = puts 0 l := ⟨_, rfl⟩
      rw [← hL] at hB hpl
      clear hL HT
      obtain ⟨ab, cb, rfl, hcb, hcmb, _, _⟩ := id hB
      unfold maxLen at hcmb
      obtain ⟨K, hK⟩ : ∃ K : Nat, (K : Int) = cut % ((L.length : Int) + 1) := ⟨(cut % ((L.length : Int) + 1)).toNat, by have := Int.emod_nonneg cut (show (L.length : Int) + 1 ≠ 0 by omega); omega⟩
      have hKl : K ≤ L.length := by have := Int.emod_lt_of_pos cut (show (0 : Int) < (L.length : Int) + 1 by omega); omega
      have HK := Lib.hid hK.symm
      clear hK
      go_wp2_with (first
        | (go_at_call 14; go_must (refine (place_any _ _ (by omega) (by omega) _).mono ?_); rintro e w3 ⟨rfl, rfl⟩; rw [HK.out])
        | ((guard_target =~ wpList _ _ _ (Oper.mk (some 47) _ _ _ _ _ :: _) _ _); go_must (refine wpList_subTo (by rfl) (.tmp 41) (.tmp 46) rfl (l := L) (hi := K) rfl rfl hB hKl ?_); intro u47 h47))
      obtain ⟨S, hS⟩ : ∃ S, S = L.take K := ⟨_, rfl⟩
      have hSl : S.length ≤ 33744 := by rw [hS, List.length_take]; omega
      rw [← hS] at h47
      clear hS hB
      obtain ⟨aS, cS, rfl, hcS, hcmS, _, _⟩ := id h47
      unfold maxLen at hcmS
      refine (scan_any _ S (by omega) _ h47).mono ?_
      rintro e w5 ⟨v5, ⟨rfl, hE5⟩, hs5⟩
      have hg := (scan_le S _ 0 (Nat.le_refl _) (Nat.zero_le _)).1
      have hmore := scan_more S body.data.toList
      generalize (scan S 0).1 = m at hs5 hmore hg ⊢
      generalize (scan S 0).2 = g at hs5 hmore hg ⊢
      obtain ⟨am, cm, rfl, hcm', hcmm, _⟩ := hs5.get
      unfold maxLen at hcmm
      replace h47 := h47.ext hE5
      have HM := Lib.hid hmore
      clear hmore
      go_wp2_with (first
        | ((guard_target =~ wpList _ _ _ (Oper.mk (some 64) _ _ _ _ _ :: _) _ _); go_must (refine wpList_subTo (by rfl) (.tmp 62) (.tmp 63) rfl (l := S) (hi := g) rfl rfl h47 hg ?_); intro u64 h64)
        | ((guard_target =~ wpList _ _ _ (Oper.mk (some 65) _ _ _ _ _ :: _) _ _); go_must (refine wpList_cloneB (by rfl) (.const (.slice none 0 0)) (.tmp 64) rfl rfl rfl h64 (by rw [List.length_take]; omega) ?_); intro v65 w65 h65 hE65)
        | (go_at_call 11; go_must (refine (put_gen v65 (S.take g) (by rw [List.length_take]; omega) body (by omega) w65 h65.bytes).mono ?_); rintro e w66 ⟨v66, ⟨rfl, hE66⟩, ho66⟩))
      have hlen : (S.take g).length = g := by rw [List.length_take]; omega
      have hb66 := ho66.bytes
      rw [hlen] at hb66
      have hsl := sput_lenS false g body.data.toList
      have hsu := lenS_le _ g body.data.toList.length (Nat.le_refl _)
      have hsp := sput_pos false g body.data.toList
      have hbl : body.data.toList.length = body.size := by simp
      have hTl : (S.take g ++ sput false g body.data.toList).length ≤ 4294967296 := by rw [List.length_append, hlen]; omega
      have hG : g < g + (sput false g body.data.toList).length := by omega
      clear h64 h65 ho66 hlen
      refine (scan_any v66 _ hTl w66 hb66).mono ?_
      rw [HM.out]
      rintro e w9 ⟨v9, ⟨rfl, hE9⟩, hs9⟩
      obtain ⟨b9, o9, c9, rfl, hc9, hcm9, h9⟩ := hs9.at
      have hp9 := hs9.pre
      have hm9 := ((hs5.ext hE65).ext hE66).ext hE9
      simp only [str_self, List.length_append, List.length_cons, List.length_nil] at h9 hc9 ⊢
      unfold maxLen at hcm9
      have hEE := hE.trans (hE5.trans (hE65.trans (hE66.trans hE9)))
      obtain ⟨G, hG'⟩ : ∃ G, G = g + (sput false g body.data.toList).length := ⟨_, rfl⟩
      rw [← hG'] at hG ⊢
      have hGu : G ≤ 4294967296 := by omega
      clear hG' hsl hsu hsp hbl hTl hb66 hs9 hs5 h47
      go_wp2_with (first
        | (go_at_call 13; go_must (refine (sameStr_any _ _ m _ hp9 hm9).mono ?_); rintro e w10 ⟨rfl, hE10⟩; replace h9 := hE10.cell h9)
        | (go_at_call 8; go_must (refine (awake4_any _).mono ?_); rintro e w11 ⟨rfl, hE11⟩))
      go_ret
      exact ⟨rfl, hEE.trans (hE10.trans hE11)⟩
theorem walk_segmentMore (v0 : Value) (cut : Int) (body : ByteArray) (w : World) (hin : ∃ l : List (List UInt8), StrsIn w v0 l ∧ ∀ x ∈ l, x.length ≤ maxLen) (_ : (Lit.int .i64 cut).wf = true) (hb : body.size ≤ maxLen) :
    Calls Tryd.prog 5 #[v0, .int .i64 cut, .string body] w fun e w' => e = .returned (.bool true) ∧ Ext w w' := by
  obtain ⟨l, h1, h2⟩ := hin
  exact law_segmentMore v0 l cut body hb h2 w h1
end Go.Proofs.YthhhbmeceilkhaaDoor
