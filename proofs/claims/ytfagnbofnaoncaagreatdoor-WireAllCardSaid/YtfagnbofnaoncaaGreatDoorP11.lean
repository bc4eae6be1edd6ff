/- A world in which one block may have turned. -/
import Derived.Test.YtfagnbofnaoncaaGreatDoorP1
import Derived.Test.YtfagnbofnaoncaaGreatDoorP3
import Derived.Test.YtfagnbofnaoncaaGreatDoorP2
import Derived.Test.YtfagnbofnaoncaaGreatDoorP6
import Derived.BigQuiet
import Derived.RegionTactic
set_option linter.unusedSimpArgs false
set_option linter.unusedVariables false
namespace Go.Proofs.YtfagnbofnaoncaaGreatDoor
open Go Go.RowKit

/-- All blocks but one stay. -/
structure Touch9 (w w' : World) (q : Nat) : Prop where
  os : w'.os = w.os
  tape : w'.tape = w.tape
  output : w'.output = w.output
  size : w.heap.size ≤ w'.heap.size
  block : ∀ k, k < w.heap.size → k ≠ q → w'.heap[k]? = w.heap[k]?
theorem Touch9.set (w : World) {q : Nat} (i : Nat) (u : Value) : Touch9 w (w.setCell ⟨q, i, none⟩ u) q := ⟨rfl, rfl, rfl, by rw [Deep.nblk_setCell]; exact Nat.le_refl _, fun k _ hn => heap_setCell_other _ _ _ _ hn⟩
theorem Touch9.more {w a b : World} {q : Nat} (h : Touch9 w a q) (hE : Ext a b) : Touch9 w b q := ⟨hE.os.trans h.os, hE.tape.trans h.tape, hE.output.trans h.output, Nat.le_trans h.size hE.size, fun k hk hn => (hE.block k (Nat.lt_of_lt_of_le hk h.size)).trans (h.block k hk hn)⟩
theorem Touch9.grown {w a b : World} {q : Nat} {r : Option Nat} (h : Touch9 w a q) (hg : a.grownBy b r) (hr : ∀ k, r = some k → w.heap.size ≤ k) : Touch9 w b q := ⟨hg.os.trans h.os, hg.tape.trans h.tape, hg.output.trans h.output, Nat.le_trans h.size hg.size, fun k hk hn => (hg.block k (Nat.lt_of_lt_of_le hk h.size) (fun e => by have := hr k e.symm; omega)).trans (h.block k hk hn)⟩
theorem Touch9.put {w a : World} {q : Nat} (h : Touch9 w a q) (i : Nat) (u : Value) : Touch9 w (a.setCell ⟨q, i, none⟩ u) q := ⟨h.os, h.tape, h.output, by rw [Deep.nblk_setCell]; exact h.size, fun k hk hn => (heap_setCell_other _ _ _ _ hn).trans (h.block k hk hn)⟩
theorem Touch9.slice {w a : World} {q : Nat} (h : Touch9 w a q) {v : Value} {n : Nat} {xs : List Value} (hs : SliceIn w v n xs) (hv : ∀ b o k c, v = .slice (some ⟨b, o, none⟩) k c → b ≠ q) : SliceIn a v n xs := by
  obtain ⟨ad, c, rfl, hc, hcm, ha, hcell⟩ := hs
  refine ⟨ad, c, rfl, hc, hcm, ha, fun j x hj => ?_⟩
  obtain ⟨b, o, rfl, hx⟩ := hcell j x hj
  have hne := hv b o n c rfl
  have hl := World.block_lt_of_cell? w _ hx
  refine ⟨b, o, rfl, ?_⟩
  rw [World.cell?_of_block (w := w) (h.block b hl hne)]
  exact hx
theorem Touch9.box {w a : World} {q p : Nat} (h : Touch9 w a q) {cs : Array Value} {e : TypeId} (hb : BoxAt w p cs e) (hp : p ≠ q) : BoxAt a p cs e := by
  have hl := hb.lt
  unfold BoxAt at *
  rw [h.block p hl hp]; exact hb
theorem Touch9.ext {w0 w a : World} {q : Nat} (h : Touch9 w a q) (hE : Ext w0 w) (hq : w0.heap.size ≤ q) : Ext w0 a := ⟨h.os.trans hE.os, h.tape.trans hE.tape, h.output.trans hE.output, Nat.le_trans hE.size h.size, fun k hk => (h.block k (Nat.lt_of_lt_of_le hk hE.size) (by omega)).trans (hE.block k hk)⟩
theorem Touch9.put2 {w a : World} {q p : Nat} (h : Touch9 w a q) (hp : w.heap.size ≤ p) (i : Nat) (u : Value) : Touch9 w (a.setCell ⟨p, i, none⟩ u) q := ⟨h.os, h.tape, h.output, by rw [Deep.nblk_setCell]; exact h.size, fun k hk hn => (heap_setCell_other _ _ _ _ (by show k ≠ p; omega)).trans (h.block k hk hn)⟩
theorem slice_off {w : World} {q i : Nat} {u v : Value} {n : Nat} {xs : List Value} (h : SliceIn w v n xs) (hv : ∀ b o k c, v = .slice (some ⟨b, o, none⟩) k c → b ≠ q) : SliceIn (w.setCell ⟨q, i, none⟩ u) v n xs := by
  obtain ⟨a, c, rfl, hc, hcm, ha, hcell⟩ := h
  refine ⟨a, c, rfl, hc, hcm, ha, fun j x hj => ?_⟩
  obtain ⟨b, o, rfl, hx⟩ := hcell j x hj
  have hne := hv b o n c rfl
  refine ⟨b, o, rfl, ?_⟩
  rw [World.cell?_of_block (w := w) (heap_setCell_other _ _ _ _ hne)]
  exact hx
theorem off_blk {b0 q : Nat} (h : b0 ≠ q) (n0 c0 : Nat) : ∀ b o k c, (.slice (some ⟨b0, 0, none⟩) n0 c0 : Value) = .slice (some ⟨b, o, none⟩) k c → b ≠ q := by
  intro b o k c e
  cases e
  exact h

end Go.Proofs.YtfagnbofnaoncaaGreatDoor

/- order.GetNum: the number at a place. -/
namespace Go.Proofs.YtfagnbofnaoncaaGreatDoor
open Go Go.RowKit
attribute [local go_sem] yields yUpon

/-- The number that bytes are, the first one highest. -/
def valB (l : List UInt8) : Nat := l.foldl (fun v b => v * 256 + b.toNat) 0
theorem valB_snoc (l : List UInt8) (b : UInt8) : valB (l ++ [b]) = valB l * 256 + b.toNat := by simp [valB]
theorem valB_lt : ∀ (n : Nat) (l : List UInt8), l.length = n → valB l < 256 ^ n
  | 0, l, h => by rw [List.eq_nil_of_length_eq_zero h]; simp [valB]
  | n + 1, l, h => by
    have hne : l ≠ [] := by intro e; simp [e] at h
    obtain ⟨m, b, rfl⟩ : ∃ m b, l = m ++ [b] := ⟨_, _, (List.dropLast_concat_getLast hne).symm⟩
    have ih := valB_lt n m (by simpa using h)
    rw [valB_snoc, Nat.pow_succ]
    have := b.toNat_lt
    omega
theorem or_step (V x : Nat) (hx : x < 256) (hV : V < 72057594037927936) : bits .or .u64 (IntKind.u64.wrap ((V : Int) * 256)) (IntKind.u64.wrap (x : Int)) = ((V * 256 + x : Nat) : Int) := by
  have e1 : IntKind.u64.wrap ((V : Int) * 256) = ((V * 256 : Nat) : Int) := by rw [IntKind.wrap_u64]; omega
  have e2 : IntKind.u64.wrap (x : Int) = ((x : Nat) : Int) := by rw [IntKind.wrap_u64]; omega
  rw [e1, e2, bits_or_u64_nat _ _ (by omega) (by omega)]
  have := Nat.shiftLeft_add_eq_or_of_lt (i := 8) (b := x) (by omega) V
  rw [Nat.shiftLeft_eq] at this
  rw [← this]
theorem valB_take (l : List UInt8) (k : Nat) (h : k < l.length) : valB (l.take (k + 1)) = valB (l.take k) * 256 + l[k].toNat := by
  rw [List.take_succ_eq_append_getElem h, valB_snoc]
theorem valB_take_lt (l : List UInt8) (k : Nat) (hk : k < 8) : valB (l.take k) < 72057594037927936 := by
  have h1 := valB_lt _ (l.take k) rfl
  have h2 : (l.take k).length ≤ 7 := by simp; omega
  exact Nat.lt_of_lt_of_le h1 (Nat.pow_le_pow_right (by decide) h2)

/-! ### GetNum -/
/-- The number at a place, the place behind it, the error: for a place that is no less than nought. -/
def getNumN (l : List UInt8) (i : Nat) : Nat × Int × Int :=
  if l.length < i then (0, 0, 1) else
  if h : i < l.length then
    if 8 < l[i].toNat then (0, 0, 6) else
    if 0 < l[i].toNat ∧ l[i + 1]? = some 0 then (0, 0, 6) else
    if l.length < i + 1 + l[i].toNat then (0, 0, 8) else
    (valB ((l.drop (i + 1)).take l[i].toNat), (i : Int) + 1 + l[i].toNat, 0)
  else (0, 0, 8)
def getNum (l : List UInt8) (at_ : Int) : Nat × Int × Int := if at_ < 0 then (0, 0, 1) else getNumN l at_.toNat
def tup3 (p : Nat × Int × Int) : Value := .tuple #[.int .u64 p.1, .int .i64 p.2.1, .int .i64 p.2.2]
theorem tup3_ret {l : List UInt8} {at_ : Int} {x y z : Int} {v : Nat} (h : getNum l at_ = (v, y, z)) (hx : x = (v : Int)) : Ending.returned (.tuple #[.int .u64 x, .int .i64 y, .int .i64 z]) = .returned (tup3 (getNum l at_)) := by rw [h, hx]; rfl

set_option maxHeartbeats 1000000 in
theorem getNum_any (v : Value) (l : List UInt8) (at_ : Int) (w : World) (hv : BytesIn w v l) (hl : l.length ≤ 140737488355328) :
    Calls Tryz.prog 216 #[v, .int .i64 at_] w fun e w' => e = .returned (tup3 (getNum l at_)) ∧ w = w' := by
  obtain ⟨a, c, rfl, hc, hcm, ha, hcell⟩ := hv
  unfold maxLen at hcm
  by_cases h0 : at_ < 0
  · have d0 : decide (at_ < 0) = true := by simpa using h0
    clear hcell ha
    go_enter Tryz.func216, Tryz.ntmps216
    go_wp2
    go_ret3
    refine ⟨tup3_ret (v := 0) ?_ (by rfl), rfl⟩
    unfold getNum
    rw [if_pos h0]
  · have d0 : decide (at_ < 0) = false := by simpa using h0
    obtain ⟨i, rfl⟩ : ∃ i : Nat, at_ = i := ⟨at_.toNat, by omega⟩
    have EN : Hid (getNum l (i : Int) = getNumN l i) := by unfold getNum; rw [if_neg h0]; rfl
    by_cases h1 : l.length < i
    · have d1 : decide ((l.length : Int) < (i : Int)) = true := by simpa using h1
      clear hcell ha
      go_enter Tryz.func216, Tryz.ntmps216
      go_wp2
      go_ret3
      refine ⟨tup3_ret (v := 0) ?_ (by rfl), rfl⟩
      rw [EN.out]
      unfold getNumN
      rw [if_pos h1]
    · have d1 : decide ((l.length : Int) < (i : Int)) = false := by simpa using h1
      by_cases h2 : i < l.length
      · have d2 : ((i : Int) == (l.length : Int)) = false := by simp; omega
        obtain ⟨b, o, rfl, hb⟩ := hcell i (.int .u8 l[i].toNat) (by simp [bcells, h2])
        obtain ⟨n, hn⟩ : ∃ n, n = l[i].toNat := ⟨_, rfl⟩
        have hn256 : n < 256 := by rw [hn]; exact l[i].toNat_lt
        rw [← hn] at hb
        by_cases h3 : 8 < n
        · have d3 : decide ((8 : Int) < (n : Int)) = true := by simp; omega
          have HN := Lib.hid hn
          clear hcell ha hn
          go_enter Tryz.func216, Tryz.ntmps216
          go_wp2
          go_ret3
          refine ⟨tup3_ret (v := 0) ?_ (by rfl), rfl⟩
          rw [EN.out]
          unfold getNumN
          rw [if_neg h1, dif_pos h2, if_pos (by rw [← HN.out]; exact h3)]
        · have d3 : decide ((8 : Int) < (n : Int)) = false := by simp; omega
          have d3' : decide (n > 8) = false := by simp; omega
          by_cases h4 : 0 < n ∧ l[i + 1]? = some 0
          · obtain ⟨h4, h5⟩ := h4
            have h6 : i + 1 < l.length := (List.getElem?_eq_some_iff.1 h5).1
            obtain ⟨b1, o1, e1, hb1⟩ := hcell (i + 1) (.int .u8 0) (by simp [bcells, h5])
            cases e1
            have d4 : decide ((i : Int) + 1 < (i : Int) + 1 + (n : Int)) = true := by simp; omega
            have d5 : decide ((i : Int) + 1 < (l.length : Int)) = true := by simp; omega
            have HN := Lib.hid hn
            clear hcell ha hn
            go_enter Tryz.func216, Tryz.ntmps216
            go_wp2
            go_ret3
            refine ⟨tup3_ret (v := 0) ?_ (by rfl), rfl⟩
            rw [EN.out]
            unfold getNumN
            rw [if_neg h1, dif_pos h2, if_neg (by rw [← HN.out]; exact h3), if_pos ⟨by rw [← HN.out]; exact h4, h5⟩]
          · by_cases hn0 : n = 0
            · have h7 : ¬ l.length < i + 1 + n := by omega
              have d4 : decide ((i : Int) + 1 < (i : Int) + 1 + (n : Int)) = false := by simp; omega
              have hn0 := Lib.hid hn0
              have HN := Lib.hid hn
              have H4 := Lib.hid h4
              have HC := Lib.hid hcell
              have d6 : decide ((l.length : Int) < (i : Int) + 1 + (n : Int)) = false := by simp; omega
              clear hcell ha hn h4
              go_enter Tryz.func216, Tryz.ntmps216
              go_wp2
              all_goals
                go_loop [4, 8, 68] (fun v x j => ∃ k : Nat, k ≤ n ∧ j = .int .i64 k ∧ v = .int .u64 (valB ((l.drop (i + 1)).take k))) (fun v x j => n - (intOf j).toNat)
                case atStart => exact ⟨0, Nat.zero_le _, rfl, rfl⟩
                case round =>
                  obtain ⟨k, hk, rfl, rfl⟩ := hrel
                  by_cases hlt : k < n
                  · first
                    | (exfalso; omega)
                    | (
                    obtain ⟨b2, o2, e2, hb2⟩ := HC.out (i + 1 + k) (.int .u8 l[i + 1 + k].toNat) (by simp [bcells, show i + 1 + k < l.length by omega])
                    cases e2
                    have hb2' : w.cell? ⟨b, o + (i + 1) + k, none⟩ = some (.int .u8 l[i + 1 + k].toNat) := by rw [Nat.add_assoc]; exact hb2
                    have hb3 : w.cell? ⟨b, o + i + 1 + k, none⟩ = some (.int .u8 l[i + 1 + k].toNat) := by rw [show o + i + 1 + k = o + (i + 1 + k) by omega]; exact hb2
                    go_wp2
                    go_round
                    case rel =>
                      refine ⟨k + 1, by omega, by go_num, ?_⟩
                      rw [valB_take _ _ (by simp; omega), ← or_step _ _ (UInt8.toNat_lt _) (valB_take_lt _ _ (by omega))]
                      try simp
                    case measure => simp [intOf] <;> omega)
                  · have hkn : k = n := by omega
                    go_wp2
                    go_ret3
                    refine ⟨tup3_ret (v := valB ((l.drop (i + 1)).take n)) ?_ ?_, rfl⟩
                    · rw [EN.out]
                      unfold getNumN
                      rw [if_neg h1, dif_pos h2, if_neg (by rw [← HN.out]; exact h3), if_neg (by rw [← HN.out]; exact H4.out), if_neg (by rw [← HN.out]; exact h7), ← HN.out]
                      try simp [hn0.out]
                    · first
                      | (rw [hn0.out]; rfl)
                      | rw [← hkn]
            · have d4 : decide ((i : Int) + 1 < (i : Int) + 1 + (n : Int)) = true := by simp; omega
              by_cases h6 : i + 1 < l.length
              · have d5 : decide ((i : Int) + 1 < (l.length : Int)) = true := by simp; omega
                obtain ⟨b1, o1, e1, hb1⟩ := hcell (i + 1) (.int .u8 l[i + 1].toNat) (by simp [bcells, h6])
                cases e1
                have hm0 : ((l[i + 1].toNat : Int) == 0) = false := by
                  simp only [beq_eq_false_iff_ne]
                  intro he
                  exact h4 ⟨by omega, by rw [List.getElem?_eq_getElem h6]; congr 1; exact UInt8.toNat_inj.1 (by simpa using he)⟩
                by_cases h7 : l.length < i + 1 + n
                · have HN := Lib.hid hn
                  have H4 := Lib.hid h4
                  have d6 : decide ((l.length : Int) < (i : Int) + 1 + (n : Int)) = true := by simp; omega
                  clear hcell ha hn h4
                  go_enter Tryz.func216, Tryz.ntmps216
                  go_wp2
                  go_ret3
                  refine ⟨tup3_ret (v := 0) ?_ (by rfl), rfl⟩
                  rw [EN.out]
                  unfold getNumN
                  rw [if_neg h1, dif_pos h2, if_neg (by rw [← HN.out]; exact h3), if_neg (by rw [← HN.out]; exact H4.out), if_pos (by rw [← HN.out]; exact h7)]
                · have HN := Lib.hid hn
                  have H4 := Lib.hid h4
                  have HC := Lib.hid hcell
                  have d6 : decide ((l.length : Int) < (i : Int) + 1 + (n : Int)) = false := by simp; omega
                  clear hcell ha hn h4
                  go_enter Tryz.func216, Tryz.ntmps216
                  go_wp2
                  all_goals
                    go_loop [4, 8, 68] (fun v x j => ∃ k : Nat, k ≤ n ∧ j = .int .i64 k ∧ v = .int .u64 (valB ((l.drop (i + 1)).take k))) (fun v x j => n - (intOf j).toNat)
                    case atStart => exact ⟨0, Nat.zero_le _, rfl, rfl⟩
                    case round =>
                      obtain ⟨k, hk, rfl, rfl⟩ := hrel
                      by_cases hlt : k < n
                      · first
                        | (exfalso; omega)
                        | (
                        obtain ⟨b2, o2, e2, hb2⟩ := HC.out (i + 1 + k) (.int .u8 l[i + 1 + k].toNat) (by simp [bcells, show i + 1 + k < l.length by omega])
                        cases e2
                        have hb2' : w.cell? ⟨b, o + (i + 1) + k, none⟩ = some (.int .u8 l[i + 1 + k].toNat) := by rw [Nat.add_assoc]; exact hb2
                        have hb3 : w.cell? ⟨b, o + i + 1 + k, none⟩ = some (.int .u8 l[i + 1 + k].toNat) := by rw [show o + i + 1 + k = o + (i + 1 + k) by omega]; exact hb2
                        go_wp2
                        go_round
                        case rel =>
                          refine ⟨k + 1, by omega, by go_num, ?_⟩
                          rw [valB_take _ _ (by simp; omega), ← or_step _ _ (UInt8.toNat_lt _) (valB_take_lt _ _ (by omega))]
                          try simp
                        case measure => simp [intOf] <;> omega)
                      · have hkn : k = n := by omega
                        go_wp2
                        go_ret3
                        refine ⟨tup3_ret (v := valB ((l.drop (i + 1)).take n)) ?_ ?_, rfl⟩
                        · rw [EN.out]
                          unfold getNumN
                          rw [if_neg h1, dif_pos h2, if_neg (by rw [← HN.out]; exact h3), if_neg (by rw [← HN.out]; exact H4.out), if_neg (by rw [← HN.out]; exact h7), ← HN.out]
                          try simp [hn0.out]
                        · first
                          | (rw [hn0.out]; rfl)
                          | rw [← hkn]
              · have d5 : decide ((i : Int) + 1 < (l.length : Int)) = false := by simp; omega
                have h7 : l.length < i + 1 + n := by omega
                have HN := Lib.hid hn
                have H4 := Lib.hid h4
                have d6 : decide ((l.length : Int) < (i : Int) + 1 + (n : Int)) = true := by simp; omega
                clear hcell ha hn h4
                go_enter Tryz.func216, Tryz.ntmps216
                go_wp2
                go_ret3
                refine ⟨tup3_ret (v := 0) ?_ (by rfl), rfl⟩
                rw [EN.out]
                unfold getNumN
                rw [if_neg h1, dif_pos h2, if_neg (by rw [← HN.out]; exact h3), if_neg (by rw [← HN.out]; exact H4.out), if_pos (by rw [← HN.out]; exact h7)]
      · have d2 : ((i : Int) == (l.length : Int)) = true := by simp; omega
        clear hcell ha
        go_enter Tryz.func216, Tryz.ntmps216
        go_wp2
        go_ret3
        refine ⟨tup3_ret (v := 0) ?_ (by rfl), rfl⟩
        rw [EN.out]
        unfold getNumN
        rw [if_neg h1, dif_neg h2]
end Go.Proofs.YtfagnbofnaoncaaGreatDoor

/- pack's reader: its box in memory; fail, left, any, number, count, text, truth. -/
namespace Go.Proofs.YtfagnbofnaoncaaGreatDoor
open Go Go.RowKit
attribute [local go_sem] yields yUpon

theorem Touch9.refl (w : World) (q : Nat) : Touch9 w w q := ⟨rfl, rfl, rfl, Nat.le_refl _, fun _ _ _ => rfl⟩
theorem Touch9.of_ext {w a : World} (h : Ext w a) (q : Nat) : Touch9 w a q := ⟨h.os, h.tape, h.output, h.size, fun k hk _ => h.block k hk⟩
theorem Touch9.trans {a b c : World} {q : Nat} (h : Touch9 a b q) (k : Touch9 b c q) : Touch9 a c q :=
  ⟨k.os.trans h.os, k.tape.trans h.tape, k.output.trans h.output, Nat.le_trans h.size k.size, fun i hi hn => (k.block i (Nat.lt_of_lt_of_le hi h.size) hn).trans (h.block i hi hn)⟩
theorem Touch9.drewN {a w : World} {q : Nat} (h : Touch9 a w q) (n : Nat) : Touch9 a (w.drewN n) q := ⟨h.os, h.tape, h.output, h.size, h.block⟩
theorem Touch9.alloc {a w : World} {q : Nat} (h : Touch9 a w q) (o : Obj) : Touch9 a (w.alloc o) q := h.more ((Ext.refl w).alloc o)
/-- A new thing: what turns a block that was not there lets memory grow. -/
theorem Touch9.fresh {a w w' : World} {q : Nat} (h : Touch9 w w' q) (hE : Ext a w) (hq : a.heap.size ≤ q) : Ext a w' := h.ext hE hq

/-- A reader in memory: its bytes (a slice v), the next place, what is wrong. -/
structure RdAt (w : World) (q : Nat) (v : Value) (B : List UInt8) (s : Nat × Int) : Prop where
  box : BoxAt w q #[v, .int .i64 (s.1 : Int), .int .i64 s.2] 266
  bytes : BytesIn w v B
  off : ∀ b o k c, v = .slice (some ⟨b, o, none⟩) k c → b ≠ q
  le : s.1 ≤ B.length
  big : B.length ≤ 900000
section
variable {w w' : World} {q : Nat} {v : Value} {B : List UInt8} {s : Nat × Int}
theorem RdAt.ext (h : RdAt w q v B s) (hE : Ext w w') : RdAt w' q v B s := ⟨h.box.ext hE, h.bytes.ext hE, h.off, h.le, h.big⟩
theorem RdAt.c0 (h : RdAt w q v B s) : w.cell? ⟨q, 0, none⟩ = some v := h.box.cell 0
theorem RdAt.c1 (h : RdAt w q v B s) : w.cell? ⟨q, 1, none⟩ = some (.int .i64 (s.1 : Int)) := h.box.cell 1
theorem RdAt.c2 (h : RdAt w q v B s) : w.cell? ⟨q, 2, none⟩ = some (.int .i64 s.2) := h.box.cell 2
theorem RdAt.f1 (h : RdAt w q v B s) : w.frozen? ⟨q, 1, none⟩ = false := h.box.free 1
theorem RdAt.f2 (h : RdAt w q v B s) : w.frozen? ⟨q, 2, none⟩ = false := h.box.free 2
theorem RdAt.lt (h : RdAt w q v B s) : q < w.heap.size := BoxAt.lt h.box
theorem RdAt.set1 (h : RdAt w q v B s) (i : Nat) (hi : i ≤ B.length) : RdAt (w.setCell ⟨q, 1, none⟩ (.int .i64 (i : Int))) q v B (i, s.2) := ⟨h.box.set 1 _, slice_off h.bytes h.off, h.off, hi, h.big⟩
theorem RdAt.set2 (h : RdAt w q v B s) (e : Int) : RdAt (w.setCell ⟨q, 2, none⟩ (.int .i64 e)) q v B (s.1, e) := ⟨h.box.set 2 _, slice_off h.bytes h.off, h.off, h.le, h.big⟩
theorem RdAt.shape (h : RdAt w q v B s) : ∃ a c, v = .slice a B.length c ∧ B.length ≤ c ∧ c ≤ 9223372036854775807 ∧ ∀ k (hk : k < B.length), ∃ b o, a = some ⟨b, o, none⟩ ∧ w.cell? ⟨b, o + k, none⟩ = some (.int .u8 (B[k].toNat : Int)) := by
  obtain ⟨a, c, rfl, h1, h2, _, h3⟩ := h.bytes
  unfold maxLen at h2
  refine ⟨a, c, rfl, h1, by omega, fun k hk => ?_⟩
  obtain ⟨b, o, e, hc⟩ := h3 k (.int .u8 (B[k].toNat : Int)) (by simp [bcells, hk])
  exact ⟨b, o, e, hc⟩
end

def failR (k : Int) (s : Nat × Int) : Nat × Int := if s.2 = 0 then (s.1, k) else s
/-- The next number, whatever it is. -/
def anyR (B : List UInt8) (s : Nat × Int) : Nat × (Nat × Int) :=
  if s.2 = 0 then (if (getNum B s.1).2.2 = 0 then ((getNum B s.1).1, ((getNum B s.1).2.1.toNat, 0)) else (0, (s.1, (getNum B s.1).2.2))) else (0, s)
def numR (B : List UInt8) (s : Nat × Int) : Nat × (Nat × Int) := if (anyR B s).1 ≤ 1099511627776 then anyR B s else (0, failR 6 (anyR B s).2)
def cntR (B : List UInt8) (s : Nat × Int) : Nat × (Nat × Int) :=
  if (anyR B s).1 ≤ B.length - (anyR B s).2.1 then (if (anyR B s).2.2 = 0 then anyR B s else (0, (anyR B s).2)) else (0, failR 8 (anyR B s).2)
def txtR (B : List UInt8) (s : Nat × Int) : ByteArray × (Nat × Int) := (str ((B.drop (cntR B s).2.1).take (cntR B s).1), ((cntR B s).2.1 + (cntR B s).1, (cntR B s).2.2))
def truR (B : List UInt8) (s : Nat × Int) : Bool × (Nat × Int) :=
  if s.2 = 0 then (match B[s.1]? with | none => (false, (s.1, 8)) | some b => (b == 1, (s.1 + 1, if 1 < b.toNat then 6 else 0))) else (false, s)

theorem getNumN_next {B : List UInt8} {i : Nat} : (getNumN B i).2.2 = 0 → 0 ≤ (getNumN B i).2.1 ∧ (getNumN B i).2.1.toNat ≤ B.length ∧ i < (getNumN B i).2.1.toNat := by
  unfold getNumN
  split
  · intro h; simp at h
  · split
    · split
      · intro h; simp at h
      · split
        · intro h; simp at h
        · split
          · intro h; simp at h
          · intro _
            simp only
            omega
    · intro h; simp at h
theorem getNumN_lt {B : List UInt8} {i : Nat} : (getNumN B i).1 < 18446744073709551616 := by
  unfold getNumN
  repeat' split
  all_goals try (simp; done)
  rename_i h1 h2 h3 h4 h5
  have h := valB_lt _ ((B.drop (i + 1)).take B[i].toNat) rfl
  have hl : ((B.drop (i + 1)).take B[i].toNat).length ≤ 8 := by rw [List.length_take]; omega
  have hp : 256 ^ ((B.drop (i + 1)).take B[i].toNat).length ≤ 256 ^ 8 := Nat.pow_le_pow_right (by decide) hl
  exact Nat.lt_of_lt_of_le h (Nat.le_trans hp (by decide))
theorem getNum_nat (B : List UInt8) (i : Nat) : getNum B (i : Int) = getNumN B i := by unfold getNum; rw [if_neg (by omega), Int.toNat_natCast]
theorem anyR_lt (B : List UInt8) (s : Nat × Int) : (anyR B s).1 < 18446744073709551616 := by
  unfold anyR
  rw [getNum_nat]
  have := @getNumN_lt B s.1
  repeat' split
  all_goals simp only
  all_goals omega
theorem anyR_le {B : List UInt8} {s : Nat × Int} (h : s.1 ≤ B.length) : (anyR B s).2.1 ≤ B.length := by
  unfold anyR
  rw [getNum_nat]
  split
  · split
    · rename_i h2
      exact (getNumN_next h2).2.1
    · exact h
  · exact h

set_option maxHeartbeats 400000 in
theorem rd_fail {w : World} {q : Nat} {v : Value} {B : List UInt8} {s : Nat × Int} (k : Int) (h : RdAt w q v B s) :
    Calls Tryz.prog 230 #[.pointer (some ⟨q, 0, none⟩), .int .i64 k] w fun e w' => e = .returned (.tuple #[]) ∧ RdAt w' q v B (failR k s) ∧ Touch9 w w' q := by
  have c2 := h.c2
  have f2 := h.f2
  obtain ⟨i, e⟩ := s
  simp only at c2
  by_cases he : e = 0
  · subst he
    have hf : failR k (i, 0) = (i, k) := if_pos rfl
    rw [hf]
    go_enter Tryz.func230, Tryz.ntmps230
    go_wp2
    go_end0
    exact ⟨rfl, h.set2 k, Touch9.set w 2 _⟩
  · have hf : failR k (i, e) = (i, e) := if_neg he
    rw [hf]
    go_enter Tryz.func230, Tryz.ntmps230
    go_wp2
    go_end0
    exact ⟨rfl, h, Touch9.refl w q⟩

set_option maxHeartbeats 400000 in
theorem rd_left {w : World} {q : Nat} {v : Value} {B : List UInt8} {s : Nat × Int} (h : RdAt w q v B s) :
    Calls Tryz.prog 242 #[.pointer (some ⟨q, 0, none⟩)] w fun e w' => e = .returned (.int .i64 ((B.length - s.1 : Nat) : Int)) ∧ Ext w w' := by
  have c0 := h.c0
  have c1 := h.c1
  have hle := h.le
  have hbig := h.big
  obtain ⟨a, c, rfl, _⟩ := h.shape
  obtain ⟨i, e⟩ := s
  simp only at c1 hle ⊢
  go_enter Tryz.func242, Tryz.ntmps242
  go_wp2
  go_quiet (fail)
  go_wp2
  go_ret
  exact ⟨ret_int (by omega), (Ext.refl w).drewN _⟩
set_option maxRecDepth 100000 in
set_option maxHeartbeats 1000000 in
theorem rd_any {w : World} {q : Nat} {v : Value} {B : List UInt8} {s : Nat × Int} (h : RdAt w q v B s) :
    Calls Tryz.prog 238 #[.pointer (some ⟨q, 0, none⟩)] w fun e w' => e = .returned (.int .u64 ((anyR B s).1 : Int)) ∧ RdAt w' q v B (anyR B s).2 ∧ Touch9 w w' q := by
  have c0 := h.c0
  have c1 := h.c1
  have c2 := h.c2
  have f1 := h.f1
  have hle := h.le
  have hbig := h.big
  obtain ⟨a, c, rfl, _⟩ := h.shape
  obtain ⟨i, e⟩ := s
  simp only at c1 c2 hle
  by_cases he : e = 0
  · subst he
    obtain ⟨V, N, K, hg⟩ : ∃ V N K, getNum B (i : Int) = (V, N, K) := ⟨_, _, _, rfl⟩
    have hcall : ∀ n, Calls Tryz.prog 216 #[.slice a B.length c, .int .i64 (i : Int)] (w.drewN n) fun e w'' => e = .returned (.tuple #[.int .u64 (V : Int), .int .i64 N, .int .i64 K]) ∧ w'' = w.drewN n := fun n => by
      have hx := getNum_any (.slice a B.length c) B (i : Int) (w.drewN n) (h.bytes.ext ((Ext.refl w).drewN n)) (by omega)
      rw [hg] at hx
      exact hx.mono fun e w'' hh => ⟨hh.1, hh.2.symm⟩
    by_cases hK : K = 0
    · subst hK
      have hn : N = ((N.toNat : Nat) : Int) ∧ N.toNat ≤ B.length := by
        have := @getNumN_next B i
        rw [← getNum_nat, hg] at this
        have := this rfl
        simp only at this
        omega
      have e1 : Hid (anyR B (i, 0) = (V, (N.toNat, 0))) := Lib.hid (by unfold anyR; rw [if_pos rfl, hg]; rfl)
      have HC := Lib.hid hcall
      have HN := Lib.hid hn
      rw [e1.out]
      clear hcall hg hn e1
      go_enter Tryz.func238, Tryz.ntmps238
      go_wp2
      go_quiet (first | (go_at_call 216; go_must (refine Calls.quiet_of_same (HC.out _))))
      go_wp2
      go_ret
      rw [HN.out.1]
      exact ⟨rfl, (h.ext ((Ext.refl w).drewN nq)).set1 _ HN.out.2, (Touch9.refl w q).drewN nq |>.put 1 _⟩
    · have e1 : Hid (anyR B (i, 0) = (0, (i, K))) := Lib.hid (by unfold anyR; rw [if_pos rfl, hg, if_neg hK])
      have HC := Lib.hid hcall
      rw [e1.out]
      clear hcall hg e1
      go_enter Tryz.func238, Tryz.ntmps238
      go_wp2
      go_quiet (first | (go_at_call 216; go_must (refine Calls.quiet_of_same (HC.out _))))
      go_wp2_with (go_at_call 230; go_must (refine (rd_fail K (h.ext ((Ext.refl w).drewN nq))).mono ?_); rintro e w1 ⟨rfl, h1, hT1⟩)
      go_ret
      exact ⟨rfl, h1, ((Touch9.refl w q).drewN nq).trans hT1⟩
  · have e1 : anyR B (i, e) = (0, (i, e)) := by unfold anyR; rw [if_neg he]
    rw [e1]
    go_enter Tryz.func238, Tryz.ntmps238
    go_wp2
    go_ret
    exact ⟨rfl, h, Touch9.refl w q⟩

set_option maxHeartbeats 1000000 in
theorem rd_number {w : World} {q : Nat} {v : Value} {B : List UInt8} {s : Nat × Int} (h : RdAt w q v B s) :
    Calls Tryz.prog 232 #[.pointer (some ⟨q, 0, none⟩)] w fun e w' => e = .returned (.int .i64 ((numR B s).1 : Int)) ∧ RdAt w' q v B (numR B s).2 ∧ Touch9 w w' q := by
  obtain ⟨V, S, hV⟩ : ∃ V S, anyR B s = (V, S) := ⟨_, _, rfl⟩
  have hA := rd_any h
  rw [hV] at hA
  simp only at hA
  have HA := Lib.hid hA
  have hlt := anyR_lt B s
  rw [hV] at hlt
  simp only at hlt
  clear hA
  by_cases hc : V ≤ 1099511627776
  · have e1 : numR B s = (V, S) := by unfold numR; rw [hV]; exact if_pos hc
    rw [e1]
    have d : ¬ (1099511627776 : Int) < (V : Int) := by omega
    clear e1 hV
    go_enter Tryz.func232, Tryz.ntmps232
    go_wp2_with (go_at_call 238; go_must (refine HA.out.mono ?_); rintro e w1 ⟨rfl, h1, hT1⟩)
    go_ret
    exact ⟨ret_int (by omega), h1, hT1⟩
  · have e1 : numR B s = (0, failR 6 S) := by unfold numR; rw [hV]; exact if_neg hc
    rw [e1]
    have d : decide ((1099511627776 : Int) < (V : Int)) = true := decide_eq_true (by omega)
    clear e1 hV
    go_enter Tryz.func232, Tryz.ntmps232
    go_wp2_with (first
      | (go_at_call 238; go_must (refine HA.out.mono ?_); rintro e w1 ⟨rfl, h1, hT1⟩)
      | (go_at_call 230; go_must (refine (rd_fail 6 h1).mono ?_); rintro e w2 ⟨rfl, h2, hT2⟩))
    go_ret
    exact ⟨rfl, h2, hT1.trans hT2⟩
end Go.Proofs.YtfagnbofnaoncaaGreatDoor

/- b[lo:hi] of a slice of bytes, as one opaque value that reads as those bytes; string(..) of it. -/
namespace Go.Proofs.YtfagnbofnaoncaaGreatDoor
open Go Go.RowKit

def subV (a : Option Addr) (c lo hi : Nat) : Value := .slice (if c = lo then a else a.map (·.add lo)) (hi - lo) (c - lo)
section
variable {ops : Array Oper} {Q : Exit → Act → World → Prop} {a : Act} {w : World} {rest : List Oper} {o : Oper}
theorem size_u8 : (Tryz.prog.info? 5).map (·.size) = some 1 := by kernel_rfl
theorem run_sub {ad : Option Addr} {n c lo hi : Nat} (h1 : lo ≤ hi) (h2 : hi ≤ n) (h3 : n ≤ c) (w : World) :
    (Instr.sliceAt 79 (.slice ad n c) (some (.int .i64 (lo : Int))) (some (.int .i64 (hi : Int))) none).run Tryz.prog w = .ok (subV ad c lo hi) w := by
  obtain ⟨i, hi', hs⟩ := Option.map_eq_some_iff.1 size_u8
  have e1 : (0 : Int) ≤ (lo : Int) ∧ (lo : Int) ≤ (hi : Int) := ⟨by omega, by omega⟩
  have e2 : (0 : Int) ≤ (hi : Int) ∧ (hi : Int) ≤ (c : Int) := ⟨by omega, by omega⟩
  have e3 : lo ≤ hi := h1
  have e4 : hi ≤ c := by omega
  simp [Instr.sliceAt, Instr.slice, Instr.sliceBounds, Instr.sliceBound, run_underlying und_bytes, sizeOf, typeInfo, hi', hs, go_sem, e1, e2, e3, e4, subV]
theorem sub_bytes {ad : Option Addr} {n c lo hi : Nat} {l : List UInt8} (h : BytesIn w (.slice ad n c) l) (h1 : lo ≤ hi) (h2 : hi ≤ l.length) : BytesIn w (subV ad c lo hi) ((l.drop lo).take (hi - lo)) := by
  obtain ⟨a', c', e, hc, hcm, ha, hcell⟩ := h
  injection e with e1 e2 e3
  subst e1 e2 e3
  have hl : ((l.drop lo).take (hi - lo)).length = hi - lo := by simp; omega
  refine ⟨_, c - lo, by rw [hl]; rfl, by rw [hl]; omega, by omega, fun e => ?_, fun j u hj => ?_⟩
  · split at e
    · omega
    · cases ad with
      | none => have := ha rfl; omega
      | some x => cases e
  · simp only [bcells, List.getElem?_map, List.getElem?_take, List.getElem?_drop] at hj
    by_cases hjl : j < hi - lo
    · rw [if_pos hjl] at hj
      obtain ⟨b, o, rfl, h⟩ := hcell (lo + j) u (by simpa [bcells] using hj)
      refine ⟨b, o + lo, ?_, by rw [show o + lo + j = o + (lo + j) by omega]; exact h⟩
      rw [if_neg (by omega)]
      simp [Addr.add_lit]
    · rw [if_neg hjl] at hj; cases hj
theorem wpList_sub (hw : Region.wanted o (yielded ops a.tmps) = true) (s x y : Operand) (hop : o.op = Op.slice 79 s (some x) (some y) none) {ad : Option Addr} {c lo hi : Nat} {l : List UInt8} (hs : a.eval s = .slice ad l.length c) (hx : a.eval x = .int .i64 (lo : Int)) (hy : a.eval y = .int .i64 (hi : Int))
    (h : BytesIn w (.slice ad l.length c) l) (h1 : lo ≤ hi) (h2 : hi ≤ l.length) (hK : ∀ u, BytesIn w u ((l.drop lo).take (hi - lo)) → wpList Tryz.prog ops Q rest (a.put o.dst u) w) : wpList Tryz.prog ops Q (o :: rest) a w := by
  have hlc : l.length ≤ c := by obtain ⟨a', c', e, hc, _⟩ := h; cases e; exact hc
  unfold wpList
  rw [if_pos hw]
  refine .inl (yields_wp (R := fun v w' => v = subV ad c lo hi ∧ w' = w) ?_ fun v w' ⟨e1, e2⟩ => by rw [e1, e2]; exact hK _ (sub_bytes h h1 h2))
  unfold yields execOp
  simp only [hop, Option.map_some, Option.map_none, hs, hx, hy, Sem.run_bind, run_sub h1 h2 hlc, Result.andThen_ok, Sem.run_pure]
  exact ⟨rfl, rfl⟩
theorem wpList_text (hw : Region.wanted o (yielded ops a.tmps) = true) (x : Operand) (hop : o.op = .convert 79 9 x) {l : List UInt8} (h : BytesIn w (a.eval x) l) (hK : ∀ s : ByteArray, Hid (s.data.toList = l) → s.size = l.length → wpList Tryz.prog ops Q rest (a.put o.dst (.string s)) w) : wpList Tryz.prog ops Q (o :: rest) a w :=
  wpList_convert_bytes hw 79 9 5 x hop und_bytes und_u8 und_string h (hK _ (Lib.hid rfl) (by simp))
end
end Go.Proofs.YtfagnbofnaoncaaGreatDoor
