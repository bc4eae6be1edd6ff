/- A text of so many noughts: make, convert. -/
import Derived.Test.YthhhbmeceilkhaaDoorV2
import Derived.Test.YthhhbmeceilkhaaDoorV4
import Derived.Test.YthhhbmeceilkhaaDoorV1
import Derived.Test.YthhhbmeceilkhaaDoorV3
import Derived.BigQuiet
import Derived.RegionTactic
set_option linter.unusedSimpArgs false
set_option linter.unusedVariables false
namespace Go.Proofs.YthhhbmeceilkhaaDoor
open Go Go.RowKit

theorem info_b8z : Tryd.prog.info? 5 = some (Tryd.prog.info? 5).get! ∧ (Tryd.prog.info? 5).get!.zero = some (.int .u8 0) ∧ (Tryd.prog.info? 5).get!.size = 1 ∧ (Tryd.prog.info? 5).get!.bytes = 1 := ⟨by kernel_rfl, by kernel_rfl, by kernel_rfl, by kernel_rfl⟩
theorem made_zeros (N : Nat) : (madeCells (Value.int .u8 0).cells (N * 1)).toList = bcells (List.replicate N 0) := by
  apply List.ext_getElem?
  intro j
  simp only [madeCells, Nat.mul_one, bcells]
  by_cases hj : j < N
  · simp [hj, Value.cells, Nat.mod_one]
  · rw [List.getElem?_eq_none (by simp; omega), List.getElem?_eq_none (by simp; omega)]
/-- 'make([]byte, N)'. -/
theorem run_zeros (w : World) (N : Nat) (hN : N ≤ 16777216) : ∃ w', (Instr.makeSlice 22 (.int .i64 (N : Int)) (.int .i64 (N : Int))).run Tryd.prog w = .ok (.slice (some ⟨w.heap.size, 0, none⟩) N N) w' ∧
    w'.ownsRow w.heap.size 5 1 (.slice (some ⟨w.heap.size, 0, none⟩) N N) N (bcells (List.replicate N 0)) ∧ w.grownBy w' none := by
  obtain ⟨w4, he, hown, hg⟩ := run_makeSlice_full w w.heap.size 22 5 _ _ 1 und_bytes info_b8z.1 info_b8z.2.1 info_b8z.2.2.1 .i64 .i64 N (by omega) (by rw [info_b8z.2.2.2]; omega) (by unfold maxLen; omega) (Nat.le_refl _)
  rw [made_zeros] at hown
  exact ⟨w4, he, hown, hg⟩
/-- The same, and the text that it is: facts for the walk. -/
theorem run_zero_text (w : World) (N : Nat) (hN : N ≤ 16777216) : ∃ w', (Instr.makeSlice 22 (.int .i64 (N : Int)) (.int .i64 (N : Int))).run Tryd.prog w = .ok (.slice (some ⟨w.heap.size, 0, none⟩) N N) w' ∧
    (convert 22 9 (.slice (some ⟨w.heap.size, 0, none⟩) N N)).run Tryd.prog w' = .ok (.string (str (List.replicate N 0))) w' ∧ Ext w w' := by
  obtain ⟨w4, he, hown, hg⟩ := run_zeros w N hN
  refine ⟨w4, he, ?_, (Ext.refl w).grown hg nofun⟩
  refine run_convert_bytesIn _ 22 9 5 und_bytes und_u8 und_string ?_
  have := SliceIn.of_owns hown
  unfold BytesIn
  rw [List.length_replicate]
  exact this
section
variable {ops : Array Oper} {Q : Exit → Act → World → Prop} {a : Act} {w : World} {rest : List Oper} {o : Oper}
theorem yields_zeros (x y : Operand) (hop : o.op = Op.makeSlice 22 x y) {N : Nat} (hx : a.eval x = .int .i64 (N : Int)) (hy : a.eval y = .int .i64 (N : Int)) (hN : N ≤ 16777216) {R : Value → World → Prop}
    (hR : ∀ v' w', OwnB w' w.heap.size v' (List.replicate N 0) → Ext w w' → R v' w') : yields Tryd.prog o a w R := by
  obtain ⟨w', he, hown, hg⟩ := run_zeros w N hN
  unfold yields execOp
  simp only [hop, hx, hy, Sem.run_bind, he, Result.andThen_ok, Sem.run_pure]
  exact hR _ w' (by unfold OwnB; rw [List.length_replicate]; exact hown) ((Ext.refl w).grown hg nofun)
theorem wpList_zeros (hw : Region.wanted o (yielded ops a.tmps) = true) (x y : Operand) (hop : o.op = Op.makeSlice 22 x y) {N : Nat} (hx : a.eval x = .int .i64 (N : Int)) (hy : a.eval y = .int .i64 (N : Int)) (hN : N ≤ 16777216)
    (hK : ∀ v' w', OwnB w' w.heap.size v' (List.replicate N 0) → Ext w w' → wpList Tryd.prog ops Q rest (a.put o.dst v') w') : wpList Tryd.prog ops Q (o :: rest) a w := by
  unfold wpList
  rw [if_pos hw]
  exact .inl (yields_wp (yields_zeros (R := fun v w' => wpList Tryd.prog ops Q rest (a.put o.dst v) w') x y hop hx hy hN hK) fun v w' h => h)
end
end Go.Proofs.YthhhbmeceilkhaaDoor

/- The reference of chapter 4: left, gap, zeros, kind, piece. -/
namespace Go.Proofs.YthhhbmeceilkhaaDoor
open Go Go.RowKit
attribute [local go_sem] yields yUpon

set_option maxHeartbeats 400000 in
theorem rleft4_any (n : Nat) (hn : n ≤ 9223372036854775807) (w : World) : Calls Tryd.prog 26 #[.int .i64 (n : Int)] w fun e w' => e = .returned (.int .i64 (128 - (n : Int) % 128)) ∧ w = w' := by
  go_enter Tryd.func26, Tryd.ntmps26
  go_wp2
  go_ret
  exact ⟨rfl, rfl⟩
set_option maxHeartbeats 400000 in
theorem rgap4_any (n : Nat) (hn : n ≤ 9223372036854775807) (w : World) : Calls Tryd.prog 25 #[.int .i64 (n : Int)] w fun e w' => e = .returned (.int .i64 (gap n : Int)) ∧ w = w' := by
  have hg : gap n = 0 ∧ ¬ 128 - (n : Int) % 128 < 7 ∨ (gap n : Int) = 128 - (n : Int) % 128 ∧ 128 - (n : Int) % 128 < 7 := by unfold gap; split <;> omega
  rcases hg with ⟨g1, g2⟩ | ⟨g1, g2⟩
  all_goals
    go_enter Tryd.func25, Tryd.ntmps25
    go_wp2_with (go_at_call 26; go_must (refine (rleft4_any n hn _).mono ?_); rintro e w1 ⟨rfl, rfl⟩)
    go_ret
    exact ⟨ret_int (by omega), rfl⟩
set_option maxHeartbeats 400000 in
theorem rzeros4_any (N : Nat) (hN : N ≤ 16777216) (w : World) : Calls Tryd.prog 24 #[.int .i64 (N : Int)] w fun e w' => e = .returned (.string (str (zer N))) ∧ Ext w w' := by
  obtain ⟨w1, h1, h2, h3⟩ := run_zero_text w N hN
  go_enter Tryd.func24, Tryd.ntmps24
  go_wp2
  go_ret
  exact ⟨rfl, h3⟩
set_option maxHeartbeats 400000 in
theorem rkind4_any (f l : Bool) (w : World) : Calls Tryd.prog 28 #[.bool f, .bool l] w fun e w' => e = .returned (.int .i64 (kindOf (!f) l : Int)) ∧ w = w' := by
  cases f <;> cases l
  all_goals
    go_enter Tryd.func28, Tryd.ntmps28
    go_wp2
    try rw [Exit.noGoto_ret]
    go_ret
    exact ⟨rfl, rfl⟩

set_option maxHeartbeats 2000000 in
theorem rpiece4_any (kind : Nat) (hk : kind < 256) (body : ByteArray) (hb : body.size < 256) (w : World) :
    Calls Tryd.prog 27 #[.int .i64 (kind : Int), .string body] w fun e w' => ∃ s, (e = .returned (.string s) ∧ Ext w w' ∧ s.size = 6 + body.size) ∧ Hid (s.data.toList = pc kind body.data.toList) := by
  have hbs : (body.size : Int) < 256 := by omega
  go_enter Tryd.func27, Tryd.ntmps27
  go_wp2
  rw [run_convert_bytesIn _ 22 9 5 und_bytes und_u8 und_string (two_bytes kind body.size hk hb w)]
  simp only [Result.andThen]
  rw [Oper.upon_value]
  obtain ⟨two, htwo⟩ : ∃ two, two = str [UInt8.ofNat kind, UInt8.ofNat body.size] := ⟨_, rfl⟩
  have h2 : two.size = 2 := by rw [htwo]; rfl
  have h2d : two.data.toList = [UInt8.ofNat kind, UInt8.ofNat body.size] := by rw [htwo]; rfl
  have H2 := Lib.hid h2d
  rw [← htwo]
  clear htwo h2d
  have hsz : (two ++ body).size = 2 + body.size := by rw [ByteArray.size_append, h2]
  have hdt : Hid ((two ++ body).data.toList = UInt8.ofNat kind :: UInt8.ofNat body.size :: body.data.toList) := Lib.hid (by rw [ByteArray.data_append, Array.toList_append, H2.out]; rfl)
  have htl := tok_lt (UInt8.ofNat kind :: UInt8.ofNat body.size :: body.data.toList) 1 (by decide)
  go_wp2_with (first
    | (go_at_call 40; go_must (refine (rof_any (two ++ body) (by unfold maxLen; omega) _).mono ?_); rintro e w2 ⟨rfl, rfl⟩; rw [hdt.out])
    | (go_at_call 39; go_must (refine (rbytes_any _ htl _).mono ?_); rintro e w3 ⟨rfl, hE3⟩))
  go_ret
  refine ⟨_, ⟨rfl, ((Ext.refl w).alloc _).trans hE3, by simp [h2]⟩, Lib.hid ?_⟩
  simp only [ByteArray.data_append, Array.toList_append, H2.out]
  simp [pc, str]
end Go.Proofs.YthhhbmeceilkhaaDoor

/- The reference of chapter 4: Put. -/
namespace Go.Proofs.YthhhbmeceilkhaaDoor
open Go Go.RowKit
attribute [local go_sem] yields yUpon

theorem kindOf_lt (b e : Bool) : kindOf b e < 256 := by cases b <;> cases e <;> decide
theorem put4_end {s z p bd R : List UInt8} {b : Bool} {N : Nat} (h : s ++ sput b N bd = R) (hl : bd.length ≤ room N) (hz : z = zer (gap N)) (hp : p = pc (kindOf b true) bd) : s ++ z ++ p = R := by
  rw [sput_last hl, ← hz, ← hp, ← List.append_assoc] at h; exact h
theorem put4_go {s z p bd R : List UInt8} {b : Bool} {N : Nat} (h : s ++ sput b N bd = R) (hl : ¬ bd.length ≤ room N) (hz : z = zer (gap N)) (hp : p = pc (kindOf b false) (bd.take (room N))) : s ++ z ++ p ++ sput true (N + gap N + (6 + room N)) (bd.drop (room N)) = R := by
  rw [sput_more hl, ← hz, ← hp, ← List.append_assoc, ← List.append_assoc] at h; exact h

set_option maxRecDepth 100000 in
set_option maxHeartbeats 8000000 in
theorem rput4_any (n : Nat) (hn : n ≤ 4294967296) (body : ByteArray) (hb : body.size ≤ 4294967296) (w : World) :
    Calls Tryd.prog 12 #[.int .i64 (n : Int), .string body] w fun e w' => ∃ s, (e = .returned (.string s) ∧ Ext w w') ∧ Hid (s.data.toList = sput false n body.data.toList) := by
  have hU : (sput false n body.data.toList).length ≤ 12 + 7 * body.size := by rw [sput_lenS]; exact lenS_le _ n _ (Nat.le_refl _)
  obtain ⟨R, hR⟩ : ∃ R, R = sput false n body.data.toList := ⟨_, rfl⟩
  rw [← hR] at hU ⊢
  have HR := Lib.hid hR
  clear hR
  go_enter Tryd.func12, Tryd.ntmps12
  go_wp2
  go_loopw [1, 5, 6] (fun b sv fv wr => ∃ (bd s : ByteArray) (f : Bool), b = .string bd ∧ sv = .string s ∧ fv = .bool f ∧ Ext w wr ∧ Hid (s.data.toList ++ sput (!f) (n + s.size) bd.data.toList = R) ∧ bd.size ≤ body.size) (fun b _ _ _ => strSize b)
  case atStart => exact ⟨body, ⟨#[]⟩, true, rfl, rfl, rfl, Ext.refl w, Lib.hid (by rw [HR.out]; rfl), Nat.le_refl _⟩
  case round =>
    obtain ⟨bd, s, f, rfl, rfl, rfl, hE, HJ, hbd⟩ := hrel
    have hsz : s.size ≤ 12 + 7 * body.size := by
      have h1 := congrArg List.length HJ.out
      have h2 : s.data.toList.length = s.size := by simp
      rw [List.length_append] at h1
      omega
    obtain ⟨N, hN⟩ : ∃ N, N = n + s.size := ⟨_, rfl⟩
    have hNi : (n : Int) + (s.size : Int) = (N : Int) := by omega
    have hNl : N ≤ 68719476736 := by omega
    have HN := Lib.hid hN
    clear hN
    have hgl : gap N ≤ 6 := by unfold gap; split <;> omega
    obtain ⟨z, hz⟩ : ∃ z, z = str (zer (gap N)) := ⟨_, rfl⟩
    have hzs : z.size = gap N := by rw [hz]; simp
    have HZ := Lib.hid hz
    clear hz
    go_wp2_with (first
      | (go_at_call 25; go_must (refine (rgap4_any N (by omega) _).mono ?_); rintro e w1 ⟨rfl, rfl⟩)
      | (go_at_call 24; go_must (refine (rzeros4_any (gap N) (by omega) _).mono ?_); rintro e w2 ⟨rfl, hE2⟩; rw [← HZ.out]))
    obtain ⟨M, hM⟩ : ∃ M, M = N + gap N := ⟨_, rfl⟩
    have hMi : (n : Int) + ((s.size : Int) + (gap N : Int)) = (M : Int) := by omega
    have hri : 128 - (M : Int) % 128 - 6 = (room N : Int) := by have := room_left N; rw [← hM] at this; omega
    have hrl := room_le N
    have hrp := room_pos N
    have hMl : M ≤ 68719476742 := by omega
    simp only [hMi]
    have HM := Lib.hid hM
    clear hM
    replace hE := hE.trans hE2
    clear hE2
    refine (rleft4_any M (by omega) _).mono ?_
    rintro e w3 ⟨rfl, rfl⟩
    obtain ⟨s1, hs1⟩ : ∃ s1, s1 = s ++ z := ⟨_, rfl⟩
    have hs1s : s1.size = s.size + z.size := by rw [hs1]; simp
    rw [← hs1]
    have HS1 := Lib.hid hs1
    clear hs1
    obtain ⟨r, hr⟩ : ∃ r, r = room N := ⟨_, rfl⟩
    rw [← hr] at hri hrl hrp
    have HRM := Lib.hid hr
    clear hr
    have HJN : Hid (s.data.toList ++ sput (!f) N bd.data.toList = R) := Lib.hid (by rw [HN.out]; exact HJ.out)
    have hzt : Hid (z.data.toList = zer (gap N)) := Lib.hid (by rw [HZ.out]; simp [str])
    by_cases hl : bd.size ≤ r
    · have hmi : min (r : Int) (bd.size : Int) = (bd.size : Int) := by omega
      go_wp2_with fail
      go_region_with (first
        | (go_at_call 28; go_must (refine (rkind4_any f true _).mono ?_); rintro e w4 ⟨rfl, rfl⟩)
        | (go_at_call 27; go_must (refine (rpiece4_any (kindOf (!f) true) (kindOf_lt _ _) _ (by first | omega | (simp; omega)) _).mono ?_); rintro e w5 ⟨p, ⟨rfl, hE5, hps⟩, hp⟩; try simp at hps))
      go_wp2
      go_ret
      exact ⟨_, ⟨rfl, hE.drew.trans hE5⟩, Lib.hid (by
        have h1 := put4_end HJN.out (show bd.data.toList.length ≤ room N by rw [← HRM.out]; exact hl) hzt.out hp.out
        rw [← h1, HS1.out]
        simp only [ByteArray.data_append, Array.toList_append])⟩
    · have hmi : min (r : Int) (bd.size : Int) = (r : Int) := by omega
      have hrb : r < bd.size := by omega
      have hemp : (bd.extract r bd.size).toList.isEmpty = false := by
        rw [ByteArray.toList_eq, ext_drop, Bool.eq_false_iff]
        intro h
        have h1 := congrArg List.length (List.isEmpty_iff.1 h)
        have e : bd.data.toList.length = bd.size := by simp
        rw [List.length_drop, e, List.length_nil] at h1
        omega
      have hne1 : ((r : Int) == (bd.size : Int)) = false := by simp; omega
      have hne2 : (r == bd.size) = false := by simp; omega
      go_wp2_with fail
      go_region_with (first
        | (go_at_call 28; go_must (refine (rkind4_any f false _).mono ?_); rintro e w4 ⟨rfl, rfl⟩)
        | (go_at_call 27; go_must (refine (rpiece4_any (kindOf (!f) false) (kindOf_lt _ _) (bd.extract 0 r) (by first | omega | (simp; omega)) _).mono ?_); rintro e w5 ⟨p, ⟨rfl, hE5, hps⟩, hp⟩; try simp at hps))
      go_wp2
      all_goals
        have hps' : p.size = 6 + r := by omega
        have hlen : n + (s1 ++ p).size = N + gap N + (6 + room N) := by
          have h1 := HN.out
          have h2 := HRM.out
          rw [ByteArray.size_append]
          omega
        go_roundw
        case rel =>
          refine ⟨bd.extract r bd.size, s1 ++ p, false, rfl, rfl, rfl, hE.drew.trans hE5, Lib.hid ?_, by simp; omega⟩
          have h1 := put4_go (p := p.data.toList) HJN.out (show ¬ bd.data.toList.length ≤ room N by rw [← HRM.out]; exact hl) hzt.out (by rw [← HRM.out, ← ext_take]; exact hp.out)
          rw [hlen, ext_drop, HRM.out]
          rw [HS1.out]
          simp only [ByteArray.data_append, Array.toList_append]
          exact h1
        case measure => simp [strSize]; omega
end Go.Proofs.YthhhbmeceilkhaaDoor

/- The reference of chapter 4: one. -/
namespace Go.Proofs.YthhhbmeceilkhaaDoor
open Go Go.RowKit
attribute [local go_sem] yields yUpon

theorem rwk_gap {s : List UInt8} {k : Nat} (h : gapOk s k = false) : rwk s k = none := by rw [rwk]; simp [h]
theorem rwk_bad {s : List UInt8} {k : Nat} (h : ¬ k + gap k + 6 + pn s (k + gap k) ≤ s.length) : rwk s k = none := by rw [rwk]; simp [h]
theorem rwk_last {s : List UInt8} {k : Nat} (hg : gapOk s k = true) (h : k + gap k + 6 + pn s (k + gap k) ≤ s.length) (hl : pk s (k + gap k) = 1 ∨ pk s (k + gap k) = 4) :
    rwk s k = some (pb s (k + gap k), k + gap k + 6 + pn s (k + gap k)) := by
  rw [rwk, if_pos hg, dif_pos h, if_pos]
  rcases hl with hl | hl <;> simp [hl]
theorem rwk_on {s : List UInt8} {k : Nat} (hg : gapOk s k = true) (h : k + gap k + 6 + pn s (k + gap k) ≤ s.length) (hl : ¬ pk s (k + gap k) = 1) (hl4 : ¬ pk s (k + gap k) = 4) :
    rwk s k = (rwk s (k + gap k + 6 + pn s (k + gap k))).map fun p => (pb s (k + gap k) ++ p.1, p.2) := by
  rw [rwk, if_pos hg, dif_pos h, if_neg]
  simp [hl, hl4]
theorem zstep {l : List UInt8} {k q : Nat} (hkq : k ≤ q) (h : (l.drop k).take (q - k) = zer (q - k)) (hq : q < l.length) (hz : l.getD q 0 = 0) : (l.drop k).take (q + 1 - k) = zer (q + 1 - k) := by
  obtain ⟨j, rfl⟩ : ∃ j, q = k + j := ⟨q - k, by omega⟩
  have e : k + j - k = j := by omega
  have e1 : k + j + 1 - k = j + 1 := by omega
  rw [e] at h
  rw [e1, List.take_add_one, h, List.getElem?_drop, List.getElem?_eq_getElem hq]
  rw [List.getD_eq_getElem?_getD, List.getElem?_eq_getElem hq] at hz
  simp at hz
  simp [hz, zer, List.replicate_succ']
theorem znot {l : List UInt8} {k q K : Nat} (hkq : k ≤ q) (hqK : q < K) (hq : q < l.length) (hz : l.getD q 0 ≠ 0) : ¬ (l.drop k).take (K - k) = zer (K - k) := by
  intro h
  have h1 := congrArg (fun x => x[q - k]?) h
  simp only [zer, List.getElem?_replicate, List.getElem?_take, List.getElem?_drop] at h1
  rw [if_pos (by omega), if_pos (by omega), show k + (q - k) = q by omega, List.getElem?_eq_getElem hq] at h1
  rw [List.getD_eq_getElem?_getD, List.getElem?_eq_getElem hq] at hz
  simp at h1 hz
  exact hz h1
theorem getD_s {s : ByteArray} {k : Nat} (h : k < s.size) : s.data.toList.getD k 0 = s[k] := by
  rw [List.getD_eq_getElem?_getD, List.getElem?_eq_getElem (by simpa using h)]
  rfl
end Go.Proofs.YthhhbmeceilkhaaDoor
