/- The walks over the reference 02: what is got back. -/
import Derived.Test.YtiaoplehamjbkaaOrdText
namespace Go.Proofs.Ytiaoplehamjbkaa
open Go Go.RowKit
attribute [local go_sem] yields yUpon

theorem str_data (s : ByteArray) : str s.data.toList = s := rfl
theorem str_snoc (acc : List UInt8) (s : ByteArray) (k : Nat) (h : k < s.size) : str acc ++ s.extract k (k + 1) = str (acc ++ [s.data.toList[k]'h]) := by
  apply ByteArray.ext
  simp only [ByteArray.data_append, ByteArray.data_extract, str]
  apply Array.toList_inj.1
  simp
  rw [List.drop_eq_getElem_cons (by simpa using h)]
  rfl
theorem tupT_rets {l : List UInt8} {at_ : Int} {x : ByteArray} {y z : Int} {t : List UInt8} (h : getText l at_ = (t, y, z)) (hx : x = str t) : Ending.returned (.tuple #[.string x, .int .i64 y, .int .i64 z]) = .returned (tupT (getText l at_)) := tupT_ret h hx

set_option maxHeartbeats 2000000 in
theorem rgetText_any (s : ByteArray) (at_ : Int) (w : World) (hl : s.size ≤ 140737488000000) :
    Calls Try.prog 37 #[.string s, .int .i64 at_] w fun e w' => e = .returned (tupT (getText s.data.toList at_)) ∧ w = w' := by
  obtain ⟨l, hls⟩ : ∃ l, l = s.data.toList := ⟨_, rfl⟩
  have hlen : l.length = s.size := by rw [hls]; rfl
  have hget : ∀ (k : Nat) (h : k < s.size), l[k]'(by omega) = s[k]'h := by subst hls; intro k h; rfl
  rw [← hls]
  have HL := Lib.hid hls
  have HG := Lib.hid hget
  clear hls hget
  by_cases h0 : at_ < 0
  · have d0 : decide (at_ < 0) = true := by simpa using h0
    go_enter Try.func37, Try.ntmps37
    go_wp2
    go_ret3
    refine ⟨tupT_ret (t := []) ?_ (by rfl), rfl⟩
    unfold getText
    rw [if_pos h0]
  · have d0 : decide (at_ < 0) = false := by simpa using h0
    obtain ⟨i, rfl⟩ : ∃ i : Nat, at_ = i := ⟨at_.toNat, by omega⟩
    have EN : Hid (getText l (i : Int) = getTextN l i) := by unfold getText; rw [if_neg h0]; rfl
    by_cases h1 : s.size < i
    · have d1 : decide ((s.size : Int) < (i : Int)) = true := by simpa using h1
      go_enter Try.func37, Try.ntmps37
      go_wp2
      go_ret3
      refine ⟨tupT_ret (t := []) ?_ (by rfl), rfl⟩
      rw [EN.out]
      unfold getTextN
      rw [if_pos (by omega)]
    · have d1 : decide ((s.size : Int) < (i : Int)) = false := by simpa using h1
      have EN2 : Hid (getText l (i : Int) = scanT [] (l.drop i) i) := EN.out.trans (by unfold getTextN; rw [if_neg (by omega)])
      clear EN
      go_enter Try.func37, Try.ntmps37
      go_wp2
      go_loop [7, 8] (fun t n => ∃ (k : Nat) (acc : List UInt8), k ≤ s.size ∧ n = .int .i64 k ∧ t = .string (str acc) ∧ acc.length ≤ k ∧ Hid (getText l (i : Int) = scanT acc (l.drop k) k)) (fun _ n => s.size - (intOf n).toNat)
      case atStart => exact ⟨i, [], by omega, rfl, rfl, Nat.zero_le _, EN2⟩
      case round =>
        obtain ⟨k, acc, hk, rfl, rfl, hacc, hS⟩ := hrel
        have q1 : ¬ 9223372036854775807 < acc.length + (min (k + 1) s.size - k) := by omega
        have q2 : ¬ 9223372036854775807 < acc.length + 1 := by omega
        by_cases hlt : k < s.size
        · by_cases hz : s[k] = 0
          · have z0 : ((s[k].toNat : Int) == 0) = true := byte_eq (c := 0) hz
            have hz' : l[k]'(by omega) = 0 := (HG.out k hlt).trans hz
            by_cases he : k + 1 = s.size
            · have e0 : decide ((s.size : Int) ≤ (k : Int) + 1) = true := by simp; omega
              have HR := Lib.hid (hS.out.trans (scan_short (by omega) (by omega)))
              clear hz hS he
              go_wp2
              go_ret3
              refine ⟨tupT_ret (t := []) ?_ (by rfl), rfl⟩
              exact HR.out
            · have e0 : decide ((s.size : Int) ≤ (k : Int) + 1) = false := by simp; omega
              have h2 : k + 1 < s.size := by omega
              have HT := Lib.hid (hS.out.trans (scan_two (by omega) hz'))
              have hg1 := HG.out (k + 1) h2
              clear hz hS
              by_cases hone : s[k + 1] = 1
              · have y1 : ((s[k + 1].toNat : Int) == 1) = true := byte_eq (c := 1) hone
                have h255 : ¬ s[k + 1] = 255 := by rw [hone]; decide
                have HR := Lib.hid (HT.out.trans (by rw [hg1, if_neg h255, if_pos hone]))
                clear h255 hone HT hg1
                go_wp2
                go_ret3
                refine ⟨tupT_ret (t := acc) ?_ (by rfl), rfl⟩
                rw [HR.out]
                simp
                try omega
              · have y1 : ((s[k + 1].toNat : Int) == 1) = false := byte_ne (c := 1) hone
                by_cases h255 : s[k + 1] = 255
                · have y0 : ((s[k + 1].toNat : Int) == 255) = true := byte_eq (c := 255) h255
                  have HS2 : Hid (getText l (i : Int) = scanT (acc ++ [0]) (l.drop (k + 2)) (k + 2)) := HT.out.trans (by rw [hg1, if_pos h255])
                  clear h255 hone HT hg1
                  go_wp2
                  go_round
                  case rel => exact ⟨k + 2, acc ++ [0], by omega, by go_num, rfl, by simp; omega, HS2⟩
                  case measure => simp [intOf] <;> omega
                · have y0 : ((s[k + 1].toNat : Int) == 255) = false := byte_ne (c := 255) h255
                  have HR := Lib.hid (HT.out.trans (by rw [hg1, if_neg h255, if_neg hone]))
                  clear h255 hone HT hg1
                  go_wp2
                  go_ret3
                  refine ⟨tupT_ret (t := []) ?_ (by rfl), rfl⟩
                  exact HR.out
          · have z0 : ((s[k].toNat : Int) == 0) = false := byte_ne (c := 0) hz
            have hz' : l[k]'(by omega) ≠ 0 := by rw [HG.out k hlt]; exact hz
            have HS2 : Hid (getText l (i : Int) = scanT (acc ++ [l[k]'(by omega)]) (l.drop (k + 1)) (k + 1)) := hS.out.trans (scan_byte (by omega) hz')
            have HSn : Hid (str acc ++ s.extract k (k + 1) = str (acc ++ [l[k]'(by omega)])) := by rw [str_snoc acc s k hlt]; congr 3; exact (HG.out k hlt).symm
            clear hz hz' hS
            go_wp2
            go_round
            case rel => exact ⟨k + 1, acc ++ [l[k]'(by omega)], by omega, by go_num, by rw [← HSn.out], by simp; omega, HS2⟩
            case measure => simp [intOf] <;> omega
        · go_wp2
          go_ret3
          refine ⟨tupT_ret (t := []) ?_ (by rfl), rfl⟩
          rw [hS.out, scan_end (by omega)]

/-! ### GetNum, GetInt -/
theorem add_step (V x : Nat) (hx : x < 256) (hV : V < 72057594037927936) : IntKind.u64.wrap (IntKind.u64.wrap ((V : Int) * 256) + IntKind.u64.wrap (x : Int)) = ((V * 256 + x : Nat) : Int) := by
  simp only [IntKind.wrap_u64]
  omega

set_option maxHeartbeats 2000000 in
theorem rgetNum_any (s : ByteArray) (at_ : Int) (w : World) (hl : s.size ≤ 140737488000000) :
    Calls Try.prog 35 #[.string s, .int .i64 at_] w fun e w' => e = .returned (tup3 (getNum s.data.toList at_)) ∧ w = w' := by
  obtain ⟨l, hls⟩ : ∃ l, l = s.data.toList := ⟨_, rfl⟩
  have hlen : l.length = s.size := by rw [hls]; rfl
  have hget : ∀ (k : Nat) (h : k < s.size), l[k]'(by omega) = s[k]'h := by subst hls; intro k h; rfl
  rw [← hls]
  have HL := Lib.hid hls
  have HG := Lib.hid hget
  clear hls hget
  by_cases h0 : at_ < 0
  · have d0 : decide (at_ < 0) = true := by simpa using h0
    go_enter Try.func35, Try.ntmps35
    go_wp2
    go_ret3
    refine ⟨tup3_ret (v := 0) ?_ (by rfl), rfl⟩
    unfold getNum
    rw [if_pos h0]
  · have d0 : decide (at_ < 0) = false := by simpa using h0
    obtain ⟨i, rfl⟩ : ∃ i : Nat, at_ = i := ⟨at_.toNat, by omega⟩
    have EN : Hid (getNum l (i : Int) = getNumN l i) := by unfold getNum; rw [if_neg h0]; rfl
    by_cases h1 : s.size < i
    · have d1 : decide ((s.size : Int) < (i : Int)) = true := by simpa using h1
      go_enter Try.func35, Try.ntmps35
      go_wp2
      go_ret3
      refine ⟨tup3_ret (v := 0) ?_ (by rfl), rfl⟩
      rw [EN.out]
      unfold getNumN
      rw [if_pos (by omega)]
    · have d1 : decide ((s.size : Int) < (i : Int)) = false := by simpa using h1
      have g1 : ¬ l.length < i := by omega
      by_cases h2 : i < s.size
      · have d2 : ((i : Int) == (s.size : Int)) = false := by simp; omega
        have g2 : i < l.length := by omega
        obtain ⟨n, hn⟩ : ∃ n, n = l[i].toNat := ⟨_, rfl⟩
        have hn256 : n < 256 := by rw [hn]; exact l[i].toNat_lt
        have hsn : s[i].toNat = n := by rw [hn, HG.out i h2]
        by_cases h3 : 8 < n
        · have d3 : decide ((8 : Int) < (n : Int)) = true := by simp; omega
          have HN := Lib.hid hn
          clear hn
          go_enter Try.func35, Try.ntmps35
          go_wp2
          go_ret3
          refine ⟨tup3_ret (v := 0) ?_ (by rfl), rfl⟩
          rw [EN.out]
          unfold getNumN
          rw [if_neg g1, dif_pos g2, if_pos (by rw [← HN.out]; exact h3)]
        · have d3 : decide ((8 : Int) < (n : Int)) = false := by simp; omega
          by_cases h4 : 0 < n ∧ l[i + 1]? = some 0
          · obtain ⟨h4, h5⟩ := h4
            have h6 : i + 1 < s.size := by have := (List.getElem?_eq_some_iff.1 h5).1; omega
            have d4 : decide ((0 : Int) < (n : Int)) = true := by simp; omega
            have d5 : decide ((i : Int) + 1 < (s.size : Int)) = true := by simp; omega
            have d6 : ((s[i + 1].toNat : Int) == 0) = true := by
              refine byte_eq (c := 0) ?_
              rw [← HG.out (i + 1) h6]
              exact (List.getElem?_eq_some_iff.1 h5).2
            have HN := Lib.hid hn
            have H5 := Lib.hid h5
            clear hn h5
            go_enter Try.func35, Try.ntmps35
            go_wp2
            go_ret3
            refine ⟨tup3_ret (v := 0) ?_ (by rfl), rfl⟩
            rw [EN.out]
            unfold getNumN
            rw [if_neg g1, dif_pos g2, if_neg (by rw [← HN.out]; exact h3), if_pos ⟨by rw [← HN.out]; exact h4, H5.out⟩]
          · by_cases hn0 : n = 0
            · have d4 : decide ((0 : Int) < (n : Int)) = false := by simp; omega
              have h7 : ¬ s.size - i - 1 < n := by omega
              have hk0 := hn0
              have hn0 := Lib.hid hn0
              have HN := Lib.hid hn
              have H4 := Lib.hid h4
              have d7 : decide ((s.size : Int) - (i : Int) - 1 < (n : Int)) = false := by simp; omega
              clear hn h4
              go_enter Try.func35, Try.ntmps35
              go_wp2
              go_loop [8, 9] (fun v j => ∃ k : Nat, k ≤ n ∧ j = .int .i64 ((k : Int) + 1) ∧ v = .int .u64 (valB ((l.drop (i + 1)).take k))) (fun v j => n + 1 - (intOf j).toNat)
              case atStart => exact ⟨0, Nat.zero_le _, rfl, rfl⟩
              case round =>
                obtain ⟨k, hk, rfl, rfl⟩ := hrel
                by_cases hlt : k < n
                · first
                  | (exfalso; omega)
                  | (
                  have hle : decide ((k : Int) + 1 ≤ (n : Int)) = true := by simp; omega
                  have hle' : decide ((k : Int) < (n : Int)) = true := by simp; omega
                  have hix : i + (k + 1) < s.size := by omega
                  go_wp2
                  go_round
                  case rel =>
                    refine ⟨k + 1, by omega, by go_num, ?_⟩
                    rw [valB_take _ _ (by simp; omega), add_step _ _ (UInt8.toNat_lt _) (valB_take_lt _ _ (by omega))]
                    have e1 : (l.drop (i + 1))[k]'(by simp; omega) = s[i + (k + 1)] := by rw [← HG.out _ hix, List.getElem_drop]; congr 1; omega
                    rw [e1]
                  case measure => simp [intOf] <;> omega)
                · have hle : decide ((k : Int) + 1 ≤ (n : Int)) = false := by simp; omega
                  have hle' : decide ((k : Int) < (n : Int)) = false := by simp; omega
                  have hkn := Lib.hid (show k = n by omega)
                  go_wp2
                  go_ret3
                  refine ⟨tup3_ret (v := valB ((l.drop (i + 1)).take n)) ?_ ?_, rfl⟩
                  · rw [EN.out]
                    unfold getNumN
                    rw [if_neg g1, dif_pos g2, if_neg (by rw [← HN.out]; exact h3), if_neg (by rw [← HN.out]; exact H4.out), if_neg (by rw [← HN.out]; omega), ← HN.out]
                    try simp [hn0.out]
                  · first
                    | (rw [hn0.out]; rfl)
                    | rw [← hkn.out]
            · have d4 : decide ((0 : Int) < (n : Int)) = true := by simp; omega
              by_cases h6 : i + 1 < s.size
              · have d5 : decide ((i : Int) + 1 < (s.size : Int)) = true := by simp; omega
                have d6 : ((s[i + 1].toNat : Int) == 0) = false := by
                  refine byte_ne (c := 0) fun he => h4 ⟨by omega, ?_⟩
                  rw [List.getElem?_eq_getElem (by omega), HG.out (i + 1) h6, he]
                by_cases h7 : s.size < i + 1 + n
                · have HN := Lib.hid hn
                  have H4 := Lib.hid h4
                  have d7 : decide ((s.size : Int) - (i : Int) - 1 < (n : Int)) = true := by simp; omega
                  clear hn h4
                  go_enter Try.func35, Try.ntmps35
                  go_wp2
                  go_ret3
                  refine ⟨tup3_ret (v := 0) ?_ (by rfl), rfl⟩
                  rw [EN.out]
                  unfold getNumN
                  rw [if_neg g1, dif_pos g2, if_neg (by rw [← HN.out]; exact h3), if_neg (by rw [← HN.out]; exact H4.out), if_pos (by rw [← HN.out]; omega)]
                · have HN := Lib.hid hn
                  have H4 := Lib.hid h4
                  have d7 : decide ((s.size : Int) - (i : Int) - 1 < (n : Int)) = false := by simp; omega
                  clear hn h4
                  go_enter Try.func35, Try.ntmps35
                  go_wp2
                  go_loop [8, 9] (fun v j => ∃ k : Nat, k ≤ n ∧ j = .int .i64 ((k : Int) + 1) ∧ v = .int .u64 (valB ((l.drop (i + 1)).take k))) (fun v j => n + 1 - (intOf j).toNat)
                  case atStart => exact ⟨0, Nat.zero_le _, rfl, rfl⟩
                  case round =>
                    obtain ⟨k, hk, rfl, rfl⟩ := hrel
                    by_cases hlt : k < n
                    · first
                      | (exfalso; omega)
                      | (
                      have hle : decide ((k : Int) + 1 ≤ (n : Int)) = true := by simp; omega
                      have hle' : decide ((k : Int) < (n : Int)) = true := by simp; omega
                      have hix : i + (k + 1) < s.size := by omega
                      go_wp2
                      go_round
                      case rel =>
                        refine ⟨k + 1, by omega, by go_num, ?_⟩
                        rw [valB_take _ _ (by simp; omega), add_step _ _ (UInt8.toNat_lt _) (valB_take_lt _ _ (by omega))]
                        have e1 : (l.drop (i + 1))[k]'(by simp; omega) = s[i + (k + 1)] := by rw [← HG.out _ hix, List.getElem_drop]; congr 1; omega
                        rw [e1]
                      case measure => simp [intOf] <;> omega)
                    · have hle : decide ((k : Int) + 1 ≤ (n : Int)) = false := by simp; omega
                      have hle' : decide ((k : Int) < (n : Int)) = false := by simp; omega
                      have hkn := Lib.hid (show k = n by omega)
                      go_wp2
                      go_ret3
                      refine ⟨tup3_ret (v := valB ((l.drop (i + 1)).take n)) ?_ ?_, rfl⟩
                      · rw [EN.out]
                        unfold getNumN
                        rw [if_neg g1, dif_pos g2, if_neg (by rw [← HN.out]; exact h3), if_neg (by rw [← HN.out]; exact H4.out), if_neg (by rw [← HN.out]; omega), ← HN.out]
                        try simp [hn0.out]
                      · first
                        | (rw [hn0.out]; rfl)
                        | rw [← hkn.out]
              · have d5 : decide ((i : Int) + 1 < (s.size : Int)) = false := by simp; omega
                have HN := Lib.hid hn
                have H4 := Lib.hid h4
                have d7 : decide ((s.size : Int) - (i : Int) - 1 < (n : Int)) = true := by simp; omega
                clear hn h4
                go_enter Try.func35, Try.ntmps35
                go_wp2
                go_ret3
                refine ⟨tup3_ret (v := 0) ?_ (by rfl), rfl⟩
                rw [EN.out]
                unfold getNumN
                rw [if_neg g1, dif_pos g2, if_neg (by rw [← HN.out]; exact h3), if_neg (by rw [← HN.out]; exact H4.out), if_pos (by rw [← HN.out]; omega)]
      · have d2 : ((i : Int) == (s.size : Int)) = true := by simp; omega
        go_enter Try.func35, Try.ntmps35
        go_wp2
        go_ret3
        refine ⟨tup3_ret (v := 0) ?_ (by rfl), rfl⟩
        rw [EN.out]
        unfold getNumN
        rw [if_neg g1, dif_neg (by omega)]
end Go.Proofs.Ytiaoplehamjbkaa
