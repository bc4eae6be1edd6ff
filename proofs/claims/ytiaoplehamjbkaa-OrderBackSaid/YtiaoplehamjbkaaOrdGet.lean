/- The walks over what is got back: order.GetNum, GetText, GetInt. -/
import Derived.Test.YtiaoplehamjbkaaOrd
import Derived.Test.YtiaoplehamjbkaaShelfB
namespace Go.Proofs.Ytiaoplehamjbkaa
open Go Go.RowKit
attribute [local go_sem] yields yUpon

/-- The number that bytes are, the first one highest. -/
def valB (l : List UInt8) : Nat := l.foldl (fun v b => v * 256 + b.toNat) 0
theorem valB_snoc (l : List UInt8) (b : UInt8) : valB (l ++ [b]) = valB l * 256 + b.toNat := by simp [valB]
theorem valB_lt : ∀ (n : Nat) (l : List UInt8), l.length = n → valB l < 256 ^ n
  | 0, l, h => by rw [List.eq_nil_of_length_eq_zero h]; simp [valB]
  | n + 1, l, h => by
    have hne : l ≠ [] := by intro e; simp [e] at h
    obtain ⟨m, b, rfl⟩ : ∃ m b, l = m ++ [b] := ⟨_, _, (List.dropLast_concat_getLast hne).symm⟩
    have ih := valB_lt n m (by simpa using h)
    rw [valB_snoc, Nat.pow_succ]
    have := b.toNat_lt
    omega
theorem or_step (V x : Nat) (hx : x < 256) (hV : V < 72057594037927936) : bits .or .u64 (IntKind.u64.wrap ((V : Int) * 256)) (IntKind.u64.wrap (x : Int)) = ((V * 256 + x : Nat) : Int) := by
  have e1 : IntKind.u64.wrap ((V : Int) * 256) = ((V * 256 : Nat) : Int) := by rw [IntKind.wrap_u64]; omega
  have e2 : IntKind.u64.wrap (x : Int) = ((x : Nat) : Int) := by rw [IntKind.wrap_u64]; omega
  rw [e1, e2, bits_or_u64_nat _ _ (by omega) (by omega)]
  have := Nat.shiftLeft_add_eq_or_of_lt (i := 8) (b := x) (by omega) V
  rw [Nat.shiftLeft_eq] at this
  rw [← this]
theorem valB_take (l : List UInt8) (k : Nat) (h : k < l.length) : valB (l.take (k + 1)) = valB (l.take k) * 256 + l[k].toNat := by
  rw [List.take_succ_eq_append_getElem h, valB_snoc]
theorem valB_take_lt (l : List UInt8) (k : Nat) (hk : k < 8) : valB (l.take k) < 72057594037927936 := by
  have h1 := valB_lt _ (l.take k) rfl
  have h2 : (l.take k).length ≤ 7 := by simp; omega
  exact Nat.lt_of_lt_of_le h1 (Nat.pow_le_pow_right (by decide) h2)

def getInt (l : List UInt8) : Int × Bool := if l.length = 8 then ((valB l : Int) - 9223372036854775808, true) else (0, false)

theorem getInt_ret {l : List UInt8} {x : Int} {y : Bool} (h : getInt l = (x, y)) : Ending.returned (.tuple #[.int .i64 x, .bool y]) = .returned (.tuple #[.int .i64 (getInt l).1, .bool (getInt l).2]) := by rw [h]
theorem int_back (V : Nat) (h : V < 18446744073709551616) : wrap64 (IntKind.u64.wrap ((V : Int) - 9223372036854775808)) = (V : Int) - 9223372036854775808 := by
  rw [IntKind.wrap_u64]
  simp only [wrap64]
  omega

set_option maxHeartbeats 400000 in
theorem getInt_any (s : ByteArray) (w : World) :
    Calls Try.prog 38 #[.string s] w fun e w' => e = .returned (.tuple #[.int .i64 (getInt s.data.toList).1, .bool (getInt s.data.toList).2]) ∧ w = w' := by
  have hlen : s.data.toList.length = s.size := rfl
  by_cases h8 : s.size = 8
  · have h : ((s.size : Int) == 8) = true := by simp [h8]
    go_enter Try.func38, Try.ntmps38
    go_wp2
    go_loop [4, 5, 9] (fun v j i => ∃ k : Nat, k ≤ 8 ∧ i = .int .i64 k ∧ v = .int .u64 (valB (s.data.toList.take k))) (fun v j i => 8 - (intOf i).toNat)
    case atStart => exact ⟨0, by omega, rfl, rfl⟩
    case round =>
      obtain ⟨k, hk, rfl, rfl⟩ := hrel
      by_cases hlt : k < 8
      · go_wp2
        go_round
        case rel =>
          refine ⟨k + 1, by omega, by go_num, ?_⟩
          rw [valB_take _ _ (by omega), ← or_step _ _ s.data.toList[k].toNat_lt (valB_take_lt _ _ hlt)]
          rfl
        case measure => simp [intOf] <;> omega
      · have hk8 : k = 8 := by omega
        go_wp2
        go_ret2
        refine ⟨?_, rfl⟩
        have hV : valB s.data.toList < 18446744073709551616 := valB_lt 8 _ (by omega)
        have e1 : s.data.toList.take 8 = s.data.toList := List.take_of_length_le (by omega)
        refine getInt_ret ?_
        rw [e1, int_back _ hV]
        unfold getInt
        rw [if_pos (by omega)]
  · have h : ((s.size : Int) == 8) = false := by simp; omega
    go_enter Try.func38, Try.ntmps38
    go_wp2
    go_ret2
    refine ⟨getInt_ret ?_, rfl⟩
    unfold getInt
    rw [if_neg (by omega)]

/-! ### GetNum -/
/-- The number at a place, the place behind it, the error: for a place that is no less than nought. -/
def getNumN (l : List UInt8) (i : Nat) : Nat × Int × Int :=
  if l.length < i then (0, 0, 1) else
  if h : i < l.length then
    if 8 < l[i].toNat then (0, 0, 6) else
    if 0 < l[i].toNat ∧ l[i + 1]? = some 0 then (0, 0, 6) else
    if l.length < i + 1 + l[i].toNat then (0, 0, 8) else
    (valB ((l.drop (i + 1)).take l[i].toNat), (i : Int) + 1 + l[i].toNat, 0)
  else (0, 0, 8)
def getNum (l : List UInt8) (at_ : Int) : Nat × Int × Int := if at_ < 0 then (0, 0, 1) else getNumN l at_.toNat
def tup3 (p : Nat × Int × Int) : Value := .tuple #[.int .u64 p.1, .int .i64 p.2.1, .int .i64 p.2.2]
theorem tup3_ret {l : List UInt8} {at_ : Int} {x y z : Int} {v : Nat} (h : getNum l at_ = (v, y, z)) (hx : x = (v : Int)) : Ending.returned (.tuple #[.int .u64 x, .int .i64 y, .int .i64 z]) = .returned (tup3 (getNum l at_)) := by rw [h, hx]; rfl

set_option maxHeartbeats 1000000 in
theorem getNum_any (v : Value) (l : List UInt8) (at_ : Int) (w : World) (hv : BytesIn w v l) (hl : l.length ≤ 140737488355328) :
    Calls Try.prog 34 #[v, .int .i64 at_] w fun e w' => e = .returned (tup3 (getNum l at_)) ∧ w = w' := by
  obtain ⟨a, c, rfl, hc, hcm, ha, hcell⟩ := hv
  unfold maxLen at hcm
  by_cases h0 : at_ < 0
  · have d0 : decide (at_ < 0) = true := by simpa using h0
    clear hcell ha
    go_enter Try.func34, Try.ntmps34
    go_wp2
    go_ret3
    refine ⟨tup3_ret (v := 0) ?_ (by rfl), rfl⟩
    unfold getNum
    rw [if_pos h0]
  · have d0 : decide (at_ < 0) = false := by simpa using h0
    obtain ⟨i, rfl⟩ : ∃ i : Nat, at_ = i := ⟨at_.toNat, by omega⟩
    have EN : Hid (getNum l (i : Int) = getNumN l i) := by unfold getNum; rw [if_neg h0]; rfl
    by_cases h1 : l.length < i
    · have d1 : decide ((l.length : Int) < (i : Int)) = true := by simpa using h1
      clear hcell ha
      go_enter Try.func34, Try.ntmps34
      go_wp2
      go_ret3
      refine ⟨tup3_ret (v := 0) ?_ (by rfl), rfl⟩
      rw [EN.out]
      unfold getNumN
      rw [if_pos h1]
    · have d1 : decide ((l.length : Int) < (i : Int)) = false := by simpa using h1
      by_cases h2 : i < l.length
      · have d2 : ((i : Int) == (l.length : Int)) = false := by simp; omega
        obtain ⟨b, o, rfl, hb⟩ := hcell i (.int .u8 l[i].toNat) (by simp [bcells, h2])
        obtain ⟨n, hn⟩ : ∃ n, n = l[i].toNat := ⟨_, rfl⟩
        have hn256 : n < 256 := by rw [hn]; exact l[i].toNat_lt
        rw [← hn] at hb
        by_cases h3 : 8 < n
        · have d3 : decide ((8 : Int) < (n : Int)) = true := by simp; omega
          have HN := Lib.hid hn
          clear hcell ha hn
          go_enter Try.func34, Try.ntmps34
          go_wp2
          go_ret3
          refine ⟨tup3_ret (v := 0) ?_ (by rfl), rfl⟩
          rw [EN.out]
          unfold getNumN
          rw [if_neg h1, dif_pos h2, if_pos (by rw [← HN.out]; exact h3)]
        · have d3 : decide ((8 : Int) < (n : Int)) = false := by simp; omega
          have d3' : decide (n > 8) = false := by simp; omega
          by_cases h4 : 0 < n ∧ l[i + 1]? = some 0
          · obtain ⟨h4, h5⟩ := h4
            have h6 : i + 1 < l.length := (List.getElem?_eq_some_iff.1 h5).1
            obtain ⟨b1, o1, e1, hb1⟩ := hcell (i + 1) (.int .u8 0) (by simp [bcells, h5])
            cases e1
            have d4 : decide ((i : Int) + 1 < (i : Int) + 1 + (n : Int)) = true := by simp; omega
            have d5 : decide ((i : Int) + 1 < (l.length : Int)) = true := by simp; omega
            have HN := Lib.hid hn
            clear hcell ha hn
            go_enter Try.func34, Try.ntmps34
            go_wp2
            go_ret3
            refine ⟨tup3_ret (v := 0) ?_ (by rfl), rfl⟩
            rw [EN.out]
            unfold getNumN
            rw [if_neg h1, dif_pos h2, if_neg (by rw [← HN.out]; exact h3), if_pos ⟨by rw [← HN.out]; exact h4, h5⟩]
          · by_cases hn0 : n = 0
            · have h7 : ¬ l.length < i + 1 + n := by omega
              have d4 : decide ((i : Int) + 1 < (i : Int) + 1 + (n : Int)) = false := by simp; omega
              have hn0 := Lib.hid hn0
              have HN := Lib.hid hn
              have H4 := Lib.hid h4
              have HC := Lib.hid hcell
              have d6 : decide ((l.length : Int) < (i : Int) + 1 + (n : Int)) = false := by simp; omega
              clear hcell ha hn h4
              go_enter Try.func34, Try.ntmps34
              go_wp2
              all_goals
                go_loop [4, 8, 68] (fun v x j => ∃ k : Nat, k ≤ n ∧ j = .int .i64 k ∧ v = .int .u64 (valB ((l.drop (i + 1)).take k))) (fun v x j => n - (intOf j).toNat)
                case atStart => exact ⟨0, Nat.zero_le _, rfl, rfl⟩
                case round =>
                  obtain ⟨k, hk, rfl, rfl⟩ := hrel
                  by_cases hlt : k < n
                  · first
                    | (exfalso; omega)
                    | (
                    obtain ⟨b2, o2, e2, hb2⟩ := HC.out (i + 1 + k) (.int .u8 l[i + 1 + k].toNat) (by simp [bcells, show i + 1 + k < l.length by omega])
                    cases e2
                    have hb2' : w.cell? ⟨b, o + (i + 1) + k, none⟩ = some (.int .u8 l[i + 1 + k].toNat) := by rw [Nat.add_assoc]; exact hb2
                    have hb3 : w.cell? ⟨b, o + i + 1 + k, none⟩ = some (.int .u8 l[i + 1 + k].toNat) := by rw [show o + i + 1 + k = o + (i + 1 + k) by omega]; exact hb2
                    go_wp2
                    go_round
                    case rel =>
                      refine ⟨k + 1, by omega, by go_num, ?_⟩
                      rw [valB_take _ _ (by simp; omega), ← or_step _ _ (UInt8.toNat_lt _) (valB_take_lt _ _ (by omega))]
                      try simp
                    case measure => simp [intOf] <;> omega)
                  · have hkn : k = n := by omega
                    go_wp2
                    go_ret3
                    refine ⟨tup3_ret (v := valB ((l.drop (i + 1)).take n)) ?_ ?_, rfl⟩
                    · rw [EN.out]
                      unfold getNumN
                      rw [if_neg h1, dif_pos h2, if_neg (by rw [← HN.out]; exact h3), if_neg (by rw [← HN.out]; exact H4.out), if_neg (by rw [← HN.out]; exact h7), ← HN.out]
                      try simp [hn0.out]
                    · first
                      | (rw [hn0.out]; rfl)
                      | rw [← hkn]
            · have d4 : decide ((i : Int) + 1 < (i : Int) + 1 + (n : Int)) = true := by simp; omega
              by_cases h6 : i + 1 < l.length
              · have d5 : decide ((i : Int) + 1 < (l.length : Int)) = true := by simp; omega
                obtain ⟨b1, o1, e1, hb1⟩ := hcell (i + 1) (.int .u8 l[i + 1].toNat) (by simp [bcells, h6])
                cases e1
                have hm0 : ((l[i + 1].toNat : Int) == 0) = false := by
                  simp only [beq_eq_false_iff_ne]
                  intro he
                  exact h4 ⟨by omega, by rw [List.getElem?_eq_getElem h6]; congr 1; exact UInt8.toNat_inj.1 (by simpa using he)⟩
                by_cases h7 : l.length < i + 1 + n
                · have HN := Lib.hid hn
                  have H4 := Lib.hid h4
                  have d6 : decide ((l.length : Int) < (i : Int) + 1 + (n : Int)) = true := by simp; omega
                  clear hcell ha hn h4
                  go_enter Try.func34, Try.ntmps34
                  go_wp2
                  go_ret3
                  refine ⟨tup3_ret (v := 0) ?_ (by rfl), rfl⟩
                  rw [EN.out]
                  unfold getNumN
                  rw [if_neg h1, dif_pos h2, if_neg (by rw [← HN.out]; exact h3), if_neg (by rw [← HN.out]; exact H4.out), if_pos (by rw [← HN.out]; exact h7)]
                · have HN := Lib.hid hn
                  have H4 := Lib.hid h4
                  have HC := Lib.hid hcell
                  have d6 : decide ((l.length : Int) < (i : Int) + 1 + (n : Int)) = false := by simp; omega
                  clear hcell ha hn h4
                  go_enter Try.func34, Try.ntmps34
                  go_wp2
                  all_goals
                    go_loop [4, 8, 68] (fun v x j => ∃ k : Nat, k ≤ n ∧ j = .int .i64 k ∧ v = .int .u64 (valB ((l.drop (i + 1)).take k))) (fun v x j => n - (intOf j).toNat)
                    case atStart => exact ⟨0, Nat.zero_le _, rfl, rfl⟩
                    case round =>
                      obtain ⟨k, hk, rfl, rfl⟩ := hrel
                      by_cases hlt : k < n
                      · first
                        | (exfalso; omega)
                        | (
                        obtain ⟨b2, o2, e2, hb2⟩ := HC.out (i + 1 + k) (.int .u8 l[i + 1 + k].toNat) (by simp [bcells, show i + 1 + k < l.length by omega])
                        cases e2
                        have hb2' : w.cell? ⟨b, o + (i + 1) + k, none⟩ = some (.int .u8 l[i + 1 + k].toNat) := by rw [Nat.add_assoc]; exact hb2
                        have hb3 : w.cell? ⟨b, o + i + 1 + k, none⟩ = some (.int .u8 l[i + 1 + k].toNat) := by rw [show o + i + 1 + k = o + (i + 1 + k) by omega]; exact hb2
                        go_wp2
                        go_round
                        case rel =>
                          refine ⟨k + 1, by omega, by go_num, ?_⟩
                          rw [valB_take _ _ (by simp; omega), ← or_step _ _ (UInt8.toNat_lt _) (valB_take_lt _ _ (by omega))]
                          try simp
                        case measure => simp [intOf] <;> omega)
                      · have hkn : k = n := by omega
                        go_wp2
                        go_ret3
                        refine ⟨tup3_ret (v := valB ((l.drop (i + 1)).take n)) ?_ ?_, rfl⟩
                        · rw [EN.out]
                          unfold getNumN
                          rw [if_neg h1, dif_pos h2, if_neg (by rw [← HN.out]; exact h3), if_neg (by rw [← HN.out]; exact H4.out), if_neg (by rw [← HN.out]; exact h7), ← HN.out]
                          try simp [hn0.out]
                        · first
                          | (rw [hn0.out]; rfl)
                          | rw [← hkn]
              · have d5 : decide ((i : Int) + 1 < (l.length : Int)) = false := by simp; omega
                have h7 : l.length < i + 1 + n := by omega
                have HN := Lib.hid hn
                have H4 := Lib.hid h4
                have d6 : decide ((l.length : Int) < (i : Int) + 1 + (n : Int)) = true := by simp; omega
                clear hcell ha hn h4
                go_enter Try.func34, Try.ntmps34
                go_wp2
                go_ret3
                refine ⟨tup3_ret (v := 0) ?_ (by rfl), rfl⟩
                rw [EN.out]
                unfold getNumN
                rw [if_neg h1, dif_pos h2, if_neg (by rw [← HN.out]; exact h3), if_neg (by rw [← HN.out]; exact H4.out), if_pos (by rw [← HN.out]; exact h7)]
      · have d2 : ((i : Int) == (l.length : Int)) = true := by simp; omega
        clear hcell ha
        go_enter Try.func34, Try.ntmps34
        go_wp2
        go_ret3
        refine ⟨tup3_ret (v := 0) ?_ (by rfl), rfl⟩
        rw [EN.out]
        unfold getNumN
        rw [if_neg h1, dif_neg h2]
end Go.Proofs.Ytiaoplehamjbkaa
