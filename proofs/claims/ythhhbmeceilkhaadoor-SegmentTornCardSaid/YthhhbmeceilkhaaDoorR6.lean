/- The reference of chapter 4: left, gap, zeros, kind, piece. -/
import Derived.Test.YthhhbmeceilkhaaDoorR4
import Derived.Test.YthhhbmeceilkhaaDoorR1
import Derived.Test.YthhhbmeceilkhaaDoorR5
import Derived.Test.YthhhbmeceilkhaaDoorR3
import Derived.BigQuiet
import Derived.RegionTactic
set_option linter.unusedSimpArgs false
set_option linter.unusedVariables false
namespace Go.Proofs.YthhhbmeceilkhaaDoor
open Go Go.RowKit
attribute [local go_sem] yields yUpon

set_option maxHeartbeats 400000 in
theorem rleft4_any (n : Nat) (hn : n ≤ 9223372036854775807) (w : World) : Calls Tryd.prog 26 #[.int .i64 (n : Int)] w fun e w' => e = .returned (.int .i64 (128 - (n : Int) % 128)) ∧ w = w' := by
  go_enter Tryd.func26, Tryd.ntmps26
  go_wp2
  go_ret
  exact ⟨rfl, rfl⟩
set_option maxHeartbeats 400000 in
theorem rgap4_any (n : Nat) (hn : n ≤ 9223372036854775807) (w : World) : Calls Tryd.prog 25 #[.int .i64 (n : Int)] w fun e w' => e = .returned (.int .i64 (gap n : Int)) ∧ w = w' := by
  have hg : gap n = 0 ∧ ¬ 128 - (n : Int) % 128 < 7 ∨ (gap n : Int) = 128 - (n : Int) % 128 ∧ 128 - (n : Int) % 128 < 7 := by unfold gap; split <;> omega
  rcases hg with ⟨g1, g2⟩ | ⟨g1, g2⟩
  all_goals
    go_enter Tryd.func25, Tryd.ntmps25
    go_wp2_with (go_at_call 26; go_must (refine (rleft4_any n hn _).mono ?_); rintro e w1 ⟨rfl, rfl⟩)
    go_ret
    exact ⟨ret_int (by omega), rfl⟩
set_option maxHeartbeats 400000 in
theorem rzeros4_any (N : Nat) (hN : N ≤ 16777216) (w : World) : Calls Tryd.prog 24 #[.int .i64 (N : Int)] w fun e w' => e = .returned (.string (str (zer N))) ∧ Ext w w' := by
  obtain ⟨w1, h1, h2, h3⟩ := run_zero_text w N hN
  go_enter Tryd.func24, Tryd.ntmps24
  go_wp2
  go_ret
  exact ⟨rfl, h3⟩
set_option maxHeartbeats 400000 in
theorem rkind4_any (f l : Bool) (w : World) : Calls Tryd.prog 28 #[.bool f, .bool l] w fun e w' => e = .returned (.int .i64 (kindOf (!f) l : Int)) ∧ w = w' := by
  cases f <;> cases l
  all_goals
    go_enter Tryd.func28, Tryd.ntmps28
    go_wp2
    try rw [Exit.noGoto_ret]
    go_ret
    exact ⟨rfl, rfl⟩

set_option maxHeartbeats 2000000 in
theorem rpiece4_any (kind : Nat) (hk : kind < 256) (body : ByteArray) (hb : body.size < 256) (w : World) :
    Calls Tryd.prog 27 #[.int .i64 (kind : Int), .string body] w fun e w' => ∃ s, (e = .returned (.string s) ∧ Ext w w' ∧ s.size = 6 + body.size) ∧ Hid (s.data.toList = pc kind body.data.toList) := by
  have hbs : (body.size : Int) < 256 := by omega
  go_enter Tryd.func27, Tryd.ntmps27
  go_wp2
  rw [run_convert_bytesIn _ 22 9 5 und_bytes und_u8 und_string (two_bytes kind body.size hk hb w)]
  simp only [Result.andThen]
  rw [Oper.upon_value]
  obtain ⟨two, htwo⟩ : ∃ two, two = str [UInt8.ofNat kind, UInt8.ofNat body.size] := ⟨_, rfl⟩
  have h2 : two.size = 2 := by rw [htwo]; rfl
  have h2d : two.data.toList = [UInt8.ofNat kind, UInt8.ofNat body.size] := by rw [htwo]; rfl
  have H2 := Lib.hid h2d
  rw [← htwo]
  clear htwo h2d
  have hsz : (two ++ body).size = 2 + body.size := by rw [ByteArray.size_append, h2]
  have hdt : Hid ((two ++ body).data.toList = UInt8.ofNat kind :: UInt8.ofNat body.size :: body.data.toList) := Lib.hid (by rw [ByteArray.data_append, Array.toList_append, H2.out]; rfl)
  have htl := tok_lt (UInt8.ofNat kind :: UInt8.ofNat body.size :: body.data.toList) 1 (by decide)
  go_wp2_with (first
    | (go_at_call 40; go_must (refine (rof_any (two ++ body) (by unfold maxLen; omega) _).mono ?_); rintro e w2 ⟨rfl, rfl⟩; rw [hdt.out])
    | (go_at_call 39; go_must (refine (rbytes_any _ htl _).mono ?_); rintro e w3 ⟨rfl, hE3⟩))
  go_ret
  refine ⟨_, ⟨rfl, ((Ext.refl w).alloc _).trans hE3, by simp [h2]⟩, Lib.hid ?_⟩
  simp only [ByteArray.data_append, Array.toList_append, H2.out]
  simp [pc, str]
end Go.Proofs.YthhhbmeceilkhaaDoor

/- The reference of chapter 4: Put. -/
namespace Go.Proofs.YthhhbmeceilkhaaDoor
open Go Go.RowKit
attribute [local go_sem] yields yUpon

theorem kindOf_lt (b e : Bool) : kindOf b e < 256 := by cases b <;> cases e <;> decide
theorem put4_end {s z p bd R : List UInt8} {b : Bool} {N : Nat} (h : s ++ sput b N bd = R) (hl : bd.length ≤ room N) (hz : z = zer (gap N)) (hp : p = pc (kindOf b true) bd) : s ++ z ++ p = R := by
  rw [sput_last hl, ← hz, ← hp, ← List.append_assoc] at h; exact h
theorem put4_go {s z p bd R : List UInt8} {b : Bool} {N : Nat} (h : s ++ sput b N bd = R) (hl : ¬ bd.length ≤ room N) (hz : z = zer (gap N)) (hp : p = pc (kindOf b false) (bd.take (room N))) : s ++ z ++ p ++ sput true (N + gap N + (6 + room N)) (bd.drop (room N)) = R := by
  rw [sput_more hl, ← hz, ← hp, ← List.append_assoc, ← List.append_assoc] at h; exact h

set_option maxRecDepth 100000 in
set_option maxHeartbeats 8000000 in
theorem rput4_any (n : Nat) (hn : n ≤ 4294967296) (body : ByteArray) (hb : body.size ≤ 4294967296) (w : World) :
    Calls Tryd.prog 12 #[.int .i64 (n : Int), .string body] w fun e w' => ∃ s, (e = .returned (.string s) ∧ Ext w w') ∧ Hid (s.data.toList = sput false n body.data.toList) := by
  have hU : (sput false n body.data.toList).length ≤ 12 + 7 * body.size := by rw [sput_lenS]; exact lenS_le _ n _ (Nat.le_refl _)
  obtain ⟨R, hR⟩ : ∃ R, R = sput false n body.data.toList := ⟨_, rfl⟩
  rw [← hR] at hU ⊢
  have HR := Lib.hid hR
  clear hR
  go_enter Tryd.func12, Tryd.ntmps12
  go_wp2
  go_loopw [1, 5, 6] (fun b sv fv wr => ∃ (bd s : ByteArray) (f : Bool), b = .string bd ∧ sv = .string s ∧ fv = .bool f ∧ Ext w wr ∧ Hid (s.data.toList ++ sput (!f) (n + s.size) bd.data.toList = R) ∧ bd.size ≤ body.size) (fun b _ _ _ => strSize b)
  case atStart => exact ⟨body, ⟨#[]⟩, true, rfl, rfl, rfl, Ext.refl w, Lib.hid (by rw [HR.out]; rfl), Nat.le_refl _⟩
  case round =>
    obtain ⟨bd, s, f, rfl, rfl, rfl, hE, HJ, hbd⟩ := hrel
    have hsz : s.size ≤ 12 + 7 * body.size := by
      have h1 := congrArg List.length HJ.out
      have h2 : s.data.toList.length = s.size := by simp
      rw [List.length_append] at h1
      omega
    obtain ⟨N, hN⟩ : ∃ N, N = n + s.size := ⟨_, rfl⟩
    have hNi : (n : Int) + (s.size : Int) = (N : Int) := by omega
    have hNl : N ≤ 68719476736 := by omega
    have HN := Lib.hid hN
    clear hN
    have hgl : gap N ≤ 6 := by unfold gap; split <;> omega
    obtain ⟨z, hz⟩ : ∃ z, z = str (zer (gap N)) := ⟨_, rfl⟩
    have hzs : z.size = gap N := by rw [hz]; simp
    have HZ := Lib.hid hz
    clear hz
    go_wp2_with (first
      | (go_at_call 25; go_must (refine (rgap4_any N (by omega) _).mono ?_); rintro e w1 ⟨rfl, rfl⟩)
      | (go_at_call 24; go_must (refine (rzeros4_any (gap N) (by omega) _).mono ?_); rintro e w2 ⟨rfl, hE2⟩; rw [← HZ.out]))
    obtain ⟨M, hM⟩ : ∃ M, M = N + gap N := ⟨_, rfl⟩
    have hMi : (n : Int) + ((s.size : Int) + (gap N : Int)) = (M : Int) := by omega
    have hri : 128 - (M : Int) % 128 - 6 = (room N : Int) := by have := room_left N; rw [← hM] at this; omega
    have hrl := room_le N
    have hrp := room_pos N
    have hMl : M ≤ 68719476742 := by omega
    simp only [hMi]
    have HM := Lib.hid hM
    clear hM
    replace hE := hE.trans hE2
    clear hE2
    refine (rleft4_any M (by omega) _).mono ?_
    rintro e w3 ⟨rfl, rfl⟩
    obtain ⟨s1, hs1⟩ : ∃ s1, s1 = s ++ z := ⟨_, rfl⟩
    have hs1s : s1.size = s.size + z.size := by rw [hs1]; simp
    rw [← hs1]
    have HS1 := Lib.hid hs1
    clear hs1
    obtain ⟨r, hr⟩ : ∃ r, r = room N := ⟨_, rfl⟩
    rw [← hr] at hri hrl hrp
    have HRM := Lib.hid hr
    clear hr
    have HJN : Hid (s.data.toList ++ sput (!f) N bd.data.toList = R) := Lib.hid (by rw [HN.out]; exact HJ.out)
    have hzt : Hid (z.data.toList = zer (gap N)) := Lib.hid (by rw [HZ.out]; simp [str])
    by_cases hl : bd.size ≤ r
    · have hmi : min (r : Int) (bd.size : Int) = (bd.size : Int) := by omega
      go_wp2_with fail
      go_region_with (first
        | (go_at_call 28; go_must (refine (rkind4_any f true _).mono ?_); rintro e w4 ⟨rfl, rfl⟩)
        | (go_at_call 27; go_must (refine (rpiece4_any (kindOf (!f) true) (kindOf_lt _ _) _ (by first | omega | (simp; omega)) _).mono ?_); rintro e w5 ⟨p, ⟨rfl, hE5, hps⟩, hp⟩; try simp at hps))
      go_wp2
      go_ret
      exact ⟨_, ⟨rfl, hE.drew.trans hE5⟩, Lib.hid (by
        have h1 := put4_end HJN.out (show bd.data.toList.length ≤ room N by rw [← HRM.out]; exact hl) hzt.out hp.out
        rw [← h1, HS1.out]
        simp only [ByteArray.data_append, Array.toList_append])⟩
    · have hmi : min (r : Int) (bd.size : Int) = (r : Int) := by omega
      have hrb : r < bd.size := by omega
      have hemp : (bd.extract r bd.size).toList.isEmpty = false := by
        rw [ByteArray.toList_eq, ext_drop, Bool.eq_false_iff]
        intro h
        have h1 := congrArg List.length (List.isEmpty_iff.1 h)
        have e : bd.data.toList.length = bd.size := by simp
        rw [List.length_drop, e, List.length_nil] at h1
        omega
      have hne1 : ((r : Int) == (bd.size : Int)) = false := by simp; omega
      have hne2 : (r == bd.size) = false := by simp; omega
      go_wp2_with fail
      go_region_with (first
        | (go_at_call 28; go_must (refine (rkind4_any f false _).mono ?_); rintro e w4 ⟨rfl, rfl⟩)
        | (go_at_call 27; go_must (refine (rpiece4_any (kindOf (!f) false) (kindOf_lt _ _) (bd.extract 0 r) (by first | omega | (simp; omega)) _).mono ?_); rintro e w5 ⟨p, ⟨rfl, hE5, hps⟩, hp⟩; try simp at hps))
      go_wp2
      all_goals
        have hps' : p.size = 6 + r := by omega
        have hlen : n + (s1 ++ p).size = N + gap N + (6 + room N) := by
          have h1 := HN.out
          have h2 := HRM.out
          rw [ByteArray.size_append]
          omega
        go_roundw
        case rel =>
          refine ⟨bd.extract r bd.size, s1 ++ p, false, rfl, rfl, rfl, hE.drew.trans hE5, Lib.hid ?_, by simp; omega⟩
          have h1 := put4_go (p := p.data.toList) HJN.out (show ¬ bd.data.toList.length ≤ room N by rw [← HRM.out]; exact hl) hzt.out (by rw [← HRM.out, ← ext_take]; exact hp.out)
          rw [hlen, ext_drop, HRM.out]
          rw [HS1.out]
          simp only [ByteArray.data_append, Array.toList_append]
          exact h1
        case measure => simp [strSize]; omega
end Go.Proofs.YthhhbmeceilkhaaDoor

/- The reference of chapter 4: one. -/
namespace Go.Proofs.YthhhbmeceilkhaaDoor
open Go Go.RowKit
attribute [local go_sem] yields yUpon

theorem rwk_gap {s : List UInt8} {k : Nat} (h : gapOk s k = false) : rwk s k = none := by rw [rwk]; simp [h]
theorem rwk_bad {s : List UInt8} {k : Nat} (h : ¬ k + gap k + 6 + pn s (k + gap k) ≤ s.length) : rwk s k = none := by rw [rwk]; simp [h]
theorem rwk_last {s : List UInt8} {k : Nat} (hg : gapOk s k = true) (h : k + gap k + 6 + pn s (k + gap k) ≤ s.length) (hl : pk s (k + gap k) = 1 ∨ pk s (k + gap k) = 4) :
    rwk s k = some (pb s (k + gap k), k + gap k + 6 + pn s (k + gap k)) := by
  rw [rwk, if_pos hg, dif_pos h, if_pos]
  rcases hl with hl | hl <;> simp [hl]
theorem rwk_on {s : List UInt8} {k : Nat} (hg : gapOk s k = true) (h : k + gap k + 6 + pn s (k + gap k) ≤ s.length) (hl : ¬ pk s (k + gap k) = 1) (hl4 : ¬ pk s (k + gap k) = 4) :
    rwk s k = (rwk s (k + gap k + 6 + pn s (k + gap k))).map fun p => (pb s (k + gap k) ++ p.1, p.2) := by
  rw [rwk, if_pos hg, dif_pos h, if_neg]
  simp [hl, hl4]
theorem zstep {l : List UInt8} {k q : Nat} (hkq : k ≤ q) (h : (l.drop k).take (q - k) = zer (q - k)) (hq : q < l.length) (hz : l.getD q 0 = 0) : (l.drop k).take (q + 1 - k) = zer (q + 1 - k) := by
  obtain ⟨j, rfl⟩ : ∃ j, q = k + j := ⟨q - k, by omega⟩
  have e : k + j - k = j := by omega
  have e1 : k + j + 1 - k = j + 1 := by omega
  rw [e] at h
  rw [e1, List.take_add_one, h, List.getElem?_drop, List.getElem?_eq_getElem hq]
  rw [List.getD_eq_getElem?_getD, List.getElem?_eq_getElem hq] at hz
  simp at hz
  simp [hz, zer, List.replicate_succ']
theorem znot {l : List UInt8} {k q K : Nat} (hkq : k ≤ q) (hqK : q < K) (hq : q < l.length) (hz : l.getD q 0 ≠ 0) : ¬ (l.drop k).take (K - k) = zer (K - k) := by
  intro h
  have h1 := congrArg (fun x => x[q - k]?) h
  simp only [zer, List.getElem?_replicate, List.getElem?_take, List.getElem?_drop] at h1
  rw [if_pos (by omega), if_pos (by omega), show k + (q - k) = q by omega, List.getElem?_eq_getElem hq] at h1
  rw [List.getD_eq_getElem?_getD, List.getElem?_eq_getElem hq] at hz
  simp at h1 hz
  exact hz h1
theorem getD_s {s : ByteArray} {k : Nat} (h : k < s.size) : s.data.toList.getD k 0 = s[k] := by
  rw [List.getD_eq_getElem?_getD, List.getElem?_eq_getElem (by simpa using h)]
  rfl
end Go.Proofs.YthhhbmeceilkhaaDoor

/- The reference of chapter 4: the walk of one. -/
namespace Go.Proofs.YthhhbmeceilkhaaDoor
open Go Go.RowKit
attribute [local go_sem] yields yUpon

theorem ext_sub (s : ByteArray) (a b : Nat) : (s.extract a b).data.toList = (s.data.toList.drop a).take (b - a) := by
  rw [ByteArray.data_extract, Array.toList_extract, List.extract_eq_take_drop]

/-- What 'one' answers. -/
def OneAns (l : List UInt8) (at_ : Nat) (e : Ending) : Prop :=
  (∃ (b : ByteArray) (en : Nat), e = .returned (.tuple #[.string b, .int .i64 (en : Int)]) ∧ rd l false at_ = some (b.data.toList, en)) ∨ (e = .returned (.tuple #[.string ⟨#[]⟩, .int .i64 (-1)]) ∧ rd l false at_ = none)

set_option maxRecDepth 100000 in
set_option maxHeartbeats 8000000 in
theorem rone4_any (s : ByteArray) (hs : s.size ≤ 4294967296) (at_ : Nat) (ha : at_ ≤ s.size) (w : World) :
    Calls Tryd.prog 22 #[.string s, .int .i64 (at_ : Int)] w fun e w' => OneAns s.data.toList at_ e ∧ Ext w w' := by
  obtain ⟨l, hl⟩ : ∃ l, l = s.data.toList := ⟨_, rfl⟩
  have hls : l.length = s.size := by rw [hl]; simp
  rw [← hl]
  have HL := Lib.hid hl
  have HLS := Lib.hid hls
  clear hl hls
  have HG : ∀ k (h : k < s.size), Hid (l.getD k 0 = s[k]) := fun k h => Lib.hid (by rw [HL.out]; exact getD_s h)
  go_enter Tryd.func22, Tryd.ntmps22
  go_wp2
  go_loopw [6, 7] (fun bv i wr => ∃ (bd : ByteArray) (k : Nat), bv = .string bd ∧ i = .int .i64 (k : Int) ∧ k ≤ s.size ∧ Ext w wr ∧ bd.size ≤ k ∧ at_ ≤ k ∧ Hid (rwk l at_ = (rwk l k).map fun p => (bd.data.toList ++ p.1, p.2))) (fun _ i _ => s.size - (intOf i).toNat)
  case atStart => exact ⟨⟨#[]⟩, at_, rfl, rfl, ha, Ext.refl w, Nat.zero_le _, Nat.le_refl _, Lib.hid (by cases rwk l at_ <;> simp)⟩
  case round =>
    obtain ⟨bd, k, rfl, rfl, hk, hE, hbd, hak, HW⟩ := hrel
    have Hnone : rwk l k = none → Hid (rd l false at_ = none) := fun h => Lib.hid (rd_of_rwk_none (by rw [HW.out, h]; rfl))
    obtain ⟨K, hK⟩ : ∃ K, K = k + gap k := ⟨_, rfl⟩
    have hgi : (gap k : Int) = (K : Int) - (k : Int) := by omega
    have hgl : gap k ≤ 6 := by unfold gap; split <;> omega
    have hkK : k ≤ K := by omega
    have hK6 : K ≤ k + 6 := by omega
    have HK := Lib.hid hK
    clear hK
    go_wp2_with (go_at_call 25; go_must (refine (rgap4_any k (by omega) _).mono ?_); rintro e w1 ⟨rfl, rfl⟩)
    clear hgi
    go_loop [7, 8] (fun qv i => ∃ q : Nat, qv = .int .i64 (q : Int) ∧ i = .int .i64 ((K : Int) - (q : Int)) ∧ k ≤ q ∧ q ≤ K ∧ q ≤ s.size ∧ Hid ((l.drop k).take (q - k) = zer (q - k))) (fun _ i => (intOf i).toNat)
    case atStart => exact ⟨k, rfl, rfl, Nat.le_refl _, hkK, hk, Lib.hid (by simp [zer])⟩
    case round =>
      obtain ⟨q, rfl, rfl, hkq, hqK, hqs, HZ⟩ := hrel
      by_cases hq : q < K
      · have h0 : (0 : Int) < (K : Int) - (q : Int) := by omega
        by_cases hqs' : q < s.size
        · obtain ⟨x, hx⟩ : ∃ x, s[q].toNat = x := ⟨_, rfl⟩
          have HQ := HG q hqs'
          by_cases hx0 : x = 0
          · subst hx0
            have HZ' : Hid ((l.drop k).take (q + 1 - k) = zer (q + 1 - k)) := Lib.hid (zstep hkq HZ.out (by rw [HLS.out]; exact hqs') (by rw [HQ.out]; exact UInt8.toNat_inj.1 (by simpa using hx)))
            go_wp2
            all_goals
              go_round
              case rel => exact ⟨q + 1, by go_num, congrArg (Value.int .i64) (by omega), by omega, by omega, by omega, HZ'⟩
              case measure => simp [intOf]; omega
          · have hne : ((x : Int) != 0) = true := by simp; omega
            have HF := Hnone (rwk_gap (gapOk_false (.inr (by
              have := znot hkq (show q < k + gap k by rw [← HK.out]; exact hq) (by rw [HLS.out]; exact hqs') (by rw [HQ.out]; intro h; apply hx0; rw [← hx, h]; rfl)
              rwa [Nat.add_sub_cancel_left] at this))))
            go_wp2
            go_ret2
            exact ⟨.inr ⟨rfl, HF.out⟩, hE⟩
        · have hd : decide (s.size ≤ q) = true := by simp; omega
          have HF := Hnone (rwk_gap (gapOk_false (.inl (by rw [HLS.out, ← HK.out]; omega))))
          go_wp2
          go_ret2
          exact ⟨.inr ⟨rfl, HF.out⟩, hE⟩
      · obtain rfl : q = K := by omega
        have hgo : Hid (gapOk l k = true) := Lib.hid (gapOk_true (by rw [HLS.out, ← HK.out]; exact hqs) (by have h1 := HZ.out; have h2 := HK.out; rwa [show q - k = gap k by omega] at h1))
        by_cases h6 : q + 6 ≤ s.size
        · obtain ⟨q1, hq1⟩ : ∃ q1, q1 = q + 1 := ⟨_, rfl⟩
          have hq1i : (q : Int) + 1 = (q1 : Int) := by omega
          have hq1l : q1 < s.size := by omega
          obtain ⟨nv, hnv⟩ : ∃ nv, s[q1].toNat = nv := ⟨_, rfl⟩
          have hnvl : nv < 256 := by rw [← hnv]; exact UInt8.toNat_lt _
          have HPN : Hid (pn l q = nv) := Lib.hid (by unfold pn; rw [← hq1, (HG q1 hq1l).out]; exact hnv)
          have hql : q < s.size := by omega
          obtain ⟨kv, hkv⟩ : ∃ kv, s[q].toNat = kv := ⟨_, rfl⟩
          have HPK : Hid (pk l q = kv) := Lib.hid (by unfold pk; rw [(HG q hql).out]; exact hkv)
          clear hq1
          by_cases hn : q + 6 + nv ≤ s.size
          · obtain ⟨q6, hq6⟩ : ∃ q6, q6 = q + 6 := ⟨_, rfl⟩
            have hq6i : (q : Int) + 6 = (q6 : Int) := by omega
            obtain ⟨E, hEE⟩ : ∃ E, E = q6 + nv := ⟨_, rfl⟩
            have hEi : (q6 : Int) + (nv : Int) = (E : Int) := by omega
            have HPB : Hid ((bd ++ s.extract q6 E).data.toList = bd.data.toList ++ pb l q) := Lib.hid (by
              rw [ByteArray.data_append, Array.toList_append, ext_sub, ← HL.out]
              unfold pb
              rw [HPN.out, hq6, hEE, hq6]
              congr 2
              omega)
            have hEl : E ≤ s.size := by omega
            have hq6E : q6 ≤ E := by omega
            have hexs : (s.extract q6 E).size = nv := by rw [ByteArray.size_extract]; omega
            have HQE : Hid (q + 6 + nv = E) := Lib.hid (by omega)
            have hqE : q < E := by omega
            have hbE : bd.size + nv ≤ E := by omega
            clear hq6 hEE
            by_cases hk1 : kv = 1
            · have hb1 : ((kv : Int) == 1) = true := by simp; omega
              have HLST : Hid (rwk l at_ = some ((bd ++ s.extract q6 E).data.toList, E)) := Lib.hid (by
                have h := rwk_last hgo.out (by rw [← HK.out, HPN.out, HLS.out]; exact hn) (by rw [← HK.out, HPK.out]; exact .inl hk1)
                rw [← HK.out, HPN.out, HQE.out] at h
                rw [HW.out, h, HPB.out]
                rfl)
              have hbs : (bd ++ s.extract q6 E).size ≤ 4294967296 := by rw [ByteArray.size_append, hexs]; omega
              obtain ⟨bx, hbx⟩ : ∃ b, b = bd ++ s.extract q6 E := ⟨_, rfl⟩
              have hatE : at_ ≤ E := by omega
              go_wp2
              rw [← hbx] at hbs HLST ⊢
              clear hbx
              obtain ⟨cx, hcx⟩ : ∃ b, b = s.extract at_ E := ⟨_, rfl⟩
              have HCX : Hid (cx.data.toList = (l.drop at_).take (E - at_)) := Lib.hid (by rw [hcx, ext_sub, HL.out])
              by_cases hpe : (l.drop at_).take (E - at_) = sput false at_ bx.data.toList
              · go_region_with (go_at_call 12; go_must (refine (rput4_any at_ (by omega) bx hbs _).mono ?_); rintro e w5 ⟨p, ⟨rfl, hE5⟩, hp⟩; have hpx : p = cx := (by apply ByteArray.ext; apply Array.toList_inj.1; rw [hp.out, HCX.out, hpe]); rw [hcx] at hpx; subst hpx)
                go_wp2
                go_ret2
                exact ⟨.inl ⟨bx, E, rfl, rd_of_rwk_yes HLST.out hpe⟩, hE.drew.trans hE5⟩
              · go_region_with (go_at_call 12; go_must (refine (rput4_any at_ (by omega) bx hbs _).mono ?_); rintro e w5 ⟨p, ⟨rfl, hE5⟩, hp⟩; have hcmp1 : ((s.extract at_ E).toList == p.toList) = false := (by rw [ByteArray.toList_eq, ByteArray.toList_eq, hp.out, ← hcx, HCX.out]; simpa using hpe); have hcmp2 : ((s.extract at_ E).toList != p.toList) = true := (by rw [bne, hcmp1]; rfl))
                go_wp2
                go_ret2
                exact ⟨.inr ⟨rfl, rd_of_rwk_no HLST.out hpe⟩, hE.drew.trans hE5⟩
            · by_cases hk4 : kv = 4
              · have hb1 : ((kv : Int) == 1) = false := by simp; omega
                have hb4 : ((kv : Int) == 4) = true := by simp; omega
                have HLST : Hid (rwk l at_ = some ((bd ++ s.extract q6 E).data.toList, E)) := Lib.hid (by
                  have h := rwk_last hgo.out (by rw [← HK.out, HPN.out, HLS.out]; exact hn) (by rw [← HK.out, HPK.out]; exact .inr hk4)
                  rw [← HK.out, HPN.out, HQE.out] at h
                  rw [HW.out, h, HPB.out]
                  rfl)
                have hbs : (bd ++ s.extract q6 E).size ≤ 4294967296 := by rw [ByteArray.size_append, hexs]; omega
                obtain ⟨bx, hbx⟩ : ∃ b, b = bd ++ s.extract q6 E := ⟨_, rfl⟩
                have hatE : at_ ≤ E := by omega
                go_wp2
                rw [← hbx] at hbs HLST ⊢
                clear hbx
                obtain ⟨cx, hcx⟩ : ∃ b, b = s.extract at_ E := ⟨_, rfl⟩
                have HCX : Hid (cx.data.toList = (l.drop at_).take (E - at_)) := Lib.hid (by rw [hcx, ext_sub, HL.out])
                by_cases hpe : (l.drop at_).take (E - at_) = sput false at_ bx.data.toList
                · go_region_with (go_at_call 12; go_must (refine (rput4_any at_ (by omega) bx hbs _).mono ?_); rintro e w5 ⟨p, ⟨rfl, hE5⟩, hp⟩; have hpx : p = cx := (by apply ByteArray.ext; apply Array.toList_inj.1; rw [hp.out, HCX.out, hpe]); rw [hcx] at hpx; subst hpx)
                  go_wp2
                  go_ret2
                  exact ⟨.inl ⟨bx, E, rfl, rd_of_rwk_yes HLST.out hpe⟩, hE.drew.trans hE5⟩
                · go_region_with (go_at_call 12; go_must (refine (rput4_any at_ (by omega) bx hbs _).mono ?_); rintro e w5 ⟨p, ⟨rfl, hE5⟩, hp⟩; have hcmp1 : ((s.extract at_ E).toList == p.toList) = false := (by rw [ByteArray.toList_eq, ByteArray.toList_eq, hp.out, ← hcx, HCX.out]; simpa using hpe); have hcmp2 : ((s.extract at_ E).toList != p.toList) = true := (by rw [bne, hcmp1]; rfl))
                  go_wp2
                  go_ret2
                  exact ⟨.inr ⟨rfl, rd_of_rwk_no HLST.out hpe⟩, hE.drew.trans hE5⟩
              · have hb1 : ((kv : Int) == 1) = false := by simp; omega
                have hb4 : ((kv : Int) == 4) = false := by simp; omega
                have HON : Hid (rwk l k = (rwk l E).map fun p => (pb l q ++ p.1, p.2)) := Lib.hid (by
                  have h := rwk_on hgo.out (by rw [← HK.out, HPN.out, HLS.out]; exact hn) (by rw [← HK.out, HPK.out]; exact hk1) (by rw [← HK.out, HPK.out]; exact hk4)
                  rw [← HK.out, HPN.out, HQE.out] at h
                  exact h)
                have HW' : Hid (rwk l at_ = (rwk l E).map fun p => ((bd ++ s.extract q6 E).data.toList ++ p.1, p.2)) := Lib.hid (by
                  rw [HW.out, HON.out, HPB.out]
                  cases rwk l E <;> simp)
                go_wp2
                go_roundw
                case rel => exact ⟨_, E, rfl, rfl, hEl, hE, by rw [ByteArray.size_append, hexs]; exact hbE, by omega, HW'⟩
                case measure => simp [intOf]; omega
          · have hni : (s.size : Int) - (q : Int) - 6 < (nv : Int) := by omega
            have HF := Hnone (rwk_bad (by rw [← HK.out, HPN.out, HLS.out]; exact hn))
            go_wp2
            go_ret2
            exact ⟨.inr ⟨rfl, HF.out⟩, hE⟩
        · have h6i : (s.size : Int) - (q : Int) < 6 := by omega
          have HF := Hnone (rwk_bad (by rw [← HK.out, HLS.out]; omega))
          go_wp2
          go_ret2
          exact ⟨.inr ⟨rfl, HF.out⟩, hE⟩
end Go.Proofs.YthhhbmeceilkhaaDoor
