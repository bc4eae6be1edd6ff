/- What makes things by numbers: L.Next, L.Cell. (what a smaller cut has) -/
import Derived.Test.YtolkhjdododdaaaGreatDoorP2
import Derived.Test.YtolkhjdododdaaaGreatDoorP3
import Derived.Test.YtolkhjdododdaaaGreatDoorP1
set_option linter.unusedSimpArgs false
set_option linter.unusedVariables false
namespace Go.Proofs.YtolkhjdododdaaaGreatDoor
open Go Go.RowKit
attribute [local go_sem] yields yUpon

/-- The next number, the numbers behind it. -/
def nextN (l : List Int) (n : Int) : Int := match l with | [] => 0 | x :: _ => x % n
theorem IntsIn.block {w : World} {v : Value} {k : IntKind} {l : List Int} (h : IntsIn w v k l) : ∃ a c, v = .slice a l.length c ∧ l.length ≤ c ∧ c ≤ maxLen ∧ (a = none → c = 0) := by
 obtain ⟨a, c, h1, h2, h3, h4, _⟩ := h
 exact ⟨a, c, h1, h2, h3, h4⟩

theorem ints_tail {W : World} {b o c : Nat} {x : Int} {l : List Int} {k : IntKind} (hcm : c ≤ maxLen) (hcell : ∀ j u, (kcells k (x :: l))[j]? = some u → ∃ b' o', (some ⟨b, o, none⟩ : Option Addr) = some ⟨b', o', none⟩ ∧ W.cell? ⟨b', o' + j, none⟩ = some u) (hc : l.length + 1 ≤ c) :
  IntsIn W (.slice (some ⟨b, o + 1, none⟩) l.length (c - 1)) k l :=
 ⟨_, c - 1, rfl, by omega, by omega, nofun, fun j u hj => by
  obtain ⟨b', o', e, hc⟩ := hcell (j + 1) u (by simpa [kcells] using hj)
  cases e
  exact ⟨b, o + 1, rfl, by rw [show o + 1 + j = o + (j + 1) by omega]; exact hc⟩⟩

/-- A cell by a number. -/
def cellN (v : Int) : Cl := if v / 7 % 4 = 0 then ⟨⟨#[]⟩, true, 1 + v % 7, 0⟩ else ⟨(⟨#[120, 121, 122]⟩ : ByteArray).extract (v / 28 % 3).toNat (v / 28 % 3 + 1).toNat, false, 1 + v % 7, if v / 84 % 4 = 0 then 1 + v / 336 % 10 else 0⟩

/-! ### The same, whether or not numbers are left -/
theorem grownBy_set {w : World} (p : Nat) (v : Value) : w.grownBy (w.setCell ⟨p, 0, none⟩ v) (some p) :=
 ⟨rfl, rfl, rfl, by rw [Deep.nblk_setCell]; exact Nat.le_refl _, fun k _ hne => Deep.blk_setCell_other _ _ _ _ (fun e => hne (by rw [e]))⟩
theorem grownBy_refl (w : World) (r : Option Nat) : w.grownBy w r := ⟨rfl, rfl, rfl, Nat.le_refl _, fun _ _ _ => rfl⟩
theorem grownBy_ext {a b c : World} {r : Option Nat} (h : a.grownBy b r) (hE : Ext b c) : a.grownBy c r :=
 ⟨hE.os.trans h.os, hE.tape.trans h.tape, hE.output.trans h.output, Nat.le_trans h.size hE.size, fun k hk hne => (hE.block k (Nat.lt_of_lt_of_le hk h.size)).trans (h.block k hk hne)⟩
theorem ext_grownBy {a b c : World} {r : Option Nat} (hE : Ext a b) (h : b.grownBy c r) : a.grownBy c r :=
 ⟨h.os.trans hE.os, h.tape.trans hE.tape, h.output.trans hE.output, Nat.le_trans hE.size h.size, fun k hk hne => (h.block k (Nat.lt_of_lt_of_le hk hE.size) hne).trans (hE.block k hk)⟩
theorem grownBy_trans {a b c : World} {r : Option Nat} (h : a.grownBy b r) (k : b.grownBy c r) : a.grownBy c r :=
 ⟨k.os.trans h.os, k.tape.trans h.tape, k.output.trans h.output, Nat.le_trans h.size k.size, fun i hi hne => (k.block i (Nat.lt_of_lt_of_le hi h.size) hne).trans (h.block i hi hne)⟩
end Go.Proofs.YtolkhjdododdaaaGreatDoor

/- What makes things by numbers: L.Next, L.Cell. -/
namespace Go.Proofs.YtolkhjdododdaaaGreatDoor
open Go Go.RowKit
attribute [local go_sem] yields yUpon
set_option maxHeartbeats 400000 in
theorem next_any (W : World) (p : Nat) (hp : W.heap.size ≤ p) (v : Value) (x : Int) (l : List Int) (hin : IntsIn W v .i64 (x :: l)) (n : Int) (h1 : 1 ≤ n) (h2 : n ≤ 9223372036854775807)
  (w : World) (hE : Ext W w) (hv : w.heap[p]? = some (.cells #[v] 42 (0, 0))) :
  Calls Tryz.prog 24 #[.pointer (some ⟨p, 0, none⟩), .int .i64 n] w fun e w' => e = .returned (.int .i64 (x % n)) ∧ ∃ v', w' = w.setCell ⟨p, 0, none⟩ v' ∧ IntsIn W v' .i64 l := by
 obtain ⟨a, c, rfl, hc, hcm, ha, hcell⟩ := hin
 obtain ⟨b, o, rfl, h0⟩ := hcell 0 (.int .i64 x) (by simp [kcells])
 have c0 := var_cell hv 0
 have f0 := var_free hv 0
 simp at c0
 have g0 := hE.cell h0
 simp at g0 hc
 unfold maxLen at hcm
 have HC := Lib.hid hcell
 clear hcell ha h0
 go_enter Tryz.func24, Tryz.ntmps24
 go_wp2_with fail
 refine (place_any _ _ h1 h2 _).mono ?_
 rintro e w1 ⟨rfl, rfl⟩
 go_wp2_with fail
 ·subst h
  obtain rfl : l = [] := List.eq_nil_of_length_eq_zero (by omega)
  go_ret
  exact ⟨rfl, _, rfl, ⟨_, 0, rfl, Nat.le_refl _, Nat.zero_le _, nofun, fun j u hj => by simp [kcells] at hj⟩⟩
 ·go_ret
  exact ⟨rfl, _, rfl, ints_tail (by unfold maxLen; omega) HC.out hc⟩

set_option maxHeartbeats 1000000 in
theorem lcell_any (W : World) (p : Nat) (hp : W.heap.size ≤ p) (v : Value) (x : Int) (l : List Int) (hin : IntsIn W v .i64 (x :: l))
  (w : World) (hE : Ext W w) (hv : w.heap[p]? = some (.cells #[v] 42 (0, 0))) :
  Calls Tryz.prog 26 #[.pointer (some ⟨p, 0, none⟩)] w fun e w' => e = .returned (.agg #[.string (cellN (x % 1048576)).val, .bool (cellN (x % 1048576)).dead, .int .i64 (cellN (x % 1048576)).at_, .int .i64 (cellN (x % 1048576)).fin]) ∧ ∃ v', Ext (w.setCell ⟨p, 0, none⟩ v') w' ∧ IntsIn W v' .i64 l := by
 have hpl : p < w.heap.size := (Array.getElem?_eq_some_iff.1 hv).1
 obtain ⟨N, hN⟩ : ∃ N, N = x % 1048576 := ⟨_, rfl⟩
 have N0 : 0 ≤ N := by omega
 have N1 : N < 1048576 := by omega
 rw [← hN]
 have HN := Lib.hid hN
 clear hN
 go_enter Tryz.func26, Tryz.ntmps26
 go_wp2_with fail
 refine (next_any W p hp v x l hin _ (by omega) (by omega) _ (hE.alloc _) (by rw [((Ext.refl w).alloc _).block p hpl]; exact hv)).mono ?_
 rw [← HN.out]
 rintro e w1 ⟨rfl, v', rfl, hin'⟩
 by_cases k1 : N / 7 % 4 = 0
 ·have h1 : (N / 7 % 4 == 0) = true := by simpa using k1
  go_wp2
  have e1 : cellN N = ⟨⟨#[]⟩, true, 1 + N % 7, 0⟩ := by unfold cellN; rw [if_pos k1]
  rw [e1]
  refine bodyPost_ret (v := (.agg #[.string (⟨⟨#[]⟩, true, 1 + N % 7, 0⟩ : Cl).val, .bool (⟨⟨#[]⟩, true, 1 + N % 7, 0⟩ : Cl).dead, .int .i64 (⟨⟨#[]⟩, true, 1 + N % 7, 0⟩ : Cl).at_, .int .i64 (⟨⟨#[]⟩, true, 1 + N % 7, 0⟩ : Cl).fin])) (by simp [results, Tryz.results26, go_sem]) rfl ⟨rfl, v', ((Ext.refl _).alloc _).alloc _, hin'⟩
 ·have h1 : (N / 7 % 4 == 0) = false := by simpa using k1
  by_cases k2 : N / 84 % 4 = 0
  ·have h2 : (N / 84 % 4 == 0) = true := by simpa using k2
   go_wp2
   have e1 : cellN N = ⟨(⟨#[120, 121, 122]⟩ : ByteArray).extract (N / 28 % 3).toNat (N / 28 % 3 + 1).toNat, false, 1 + N % 7, 1 + N / 336 % 10⟩ := by unfold cellN; rw [if_neg k1, if_pos k2]
   rw [e1]
   refine bodyPost_ret (v := (.agg #[.string (⟨(⟨#[120, 121, 122]⟩ : ByteArray).extract (N / 28 % 3).toNat (N / 28 % 3 + 1).toNat, false, 1 + N % 7, 1 + N / 336 % 10⟩ : Cl).val, .bool (⟨(⟨#[120, 121, 122]⟩ : ByteArray).extract (N / 28 % 3).toNat (N / 28 % 3 + 1).toNat, false, 1 + N % 7, 1 + N / 336 % 10⟩ : Cl).dead, .int .i64 (⟨(⟨#[120, 121, 122]⟩ : ByteArray).extract (N / 28 % 3).toNat (N / 28 % 3 + 1).toNat, false, 1 + N % 7, 1 + N / 336 % 10⟩ : Cl).at_, .int .i64 (⟨(⟨#[120, 121, 122]⟩ : ByteArray).extract (N / 28 % 3).toNat (N / 28 % 3 + 1).toNat, false, 1 + N % 7, 1 + N / 336 % 10⟩ : Cl).fin])) (by simp [results, Tryz.results26, go_sem]) rfl ⟨rfl, v', ((Ext.refl _).alloc _).alloc _, hin'⟩
  ·have h2 : (N / 84 % 4 == 0) = false := by simpa using k2
   go_wp2
   have e1 : cellN N = ⟨(⟨#[120, 121, 122]⟩ : ByteArray).extract (N / 28 % 3).toNat (N / 28 % 3 + 1).toNat, false, 1 + N % 7, 0⟩ := by unfold cellN; rw [if_neg k1, if_neg k2]
   rw [e1]
   refine bodyPost_ret (v := (.agg #[.string (⟨(⟨#[120, 121, 122]⟩ : ByteArray).extract (N / 28 % 3).toNat (N / 28 % 3 + 1).toNat, false, 1 + N % 7, 0⟩ : Cl).val, .bool (⟨(⟨#[120, 121, 122]⟩ : ByteArray).extract (N / 28 % 3).toNat (N / 28 % 3 + 1).toNat, false, 1 + N % 7, 0⟩ : Cl).dead, .int .i64 (⟨(⟨#[120, 121, 122]⟩ : ByteArray).extract (N / 28 % 3).toNat (N / 28 % 3 + 1).toNat, false, 1 + N % 7, 0⟩ : Cl).at_, .int .i64 (⟨(⟨#[120, 121, 122]⟩ : ByteArray).extract (N / 28 % 3).toNat (N / 28 % 3 + 1).toNat, false, 1 + N % 7, 0⟩ : Cl).fin])) (by simp [results, Tryz.results26, go_sem]) rfl ⟨rfl, v', ((Ext.refl _).alloc _).alloc _, hin'⟩

/-! ### The same, whether or not numbers are left -/
set_option maxHeartbeats 400000 in
theorem next_gen (W : World) (p : Nat) (hp : W.heap.size ≤ p) (v : Value) (l : List Int) (hin : IntsIn W v .i64 l) (n : Int) (h1 : 1 ≤ n) (h2 : n ≤ 9223372036854775807)
  (w : World) (hE : Ext W w) (hv : BoxAt w p #[v] 42) :
  Calls Tryz.prog 24 #[.pointer (some ⟨p, 0, none⟩), .int .i64 n] w fun e w' => e = .returned (.int .i64 (nextN l n)) ∧ w.grownBy w' (some p) ∧ ∃ v', BoxAt w' p #[v'] 42 ∧ IntsIn W v' .i64 l.tail := by
 cases l with
 | cons x l =>
  refine (next_any W p hp v x l hin n h1 h2 w hE hv).mono ?_
  rintro e w' ⟨rfl, v', rfl, hin'⟩
  exact ⟨rfl, grownBy_set p v', v', hv.set 0 v', hin'⟩
 | nil =>
  have hin0 := hin
  obtain ⟨a, c, rfl, hc, hcm, ha⟩ := hin.block
  have c0 := hv.cell 0
  simp at c0
  go_enter Tryz.func24, Tryz.ntmps24
  go_wp2
  go_ret
  exact ⟨rfl, grownBy_refl w _, _, hv, hin0⟩
end Go.Proofs.YtolkhjdododdaaaGreatDoor

/- Rows by numbers: L.Cell whatever numbers are left; Names. -/
namespace Go.Proofs.YtolkhjdododdaaaGreatDoor
open Go Go.RowKit
attribute [local go_sem] yields yUpon

theorem next_nil' (W : World) (p : Nat) (v : Value) (hin : IntsIn W v .i64 []) (w : World) (hv : BoxAt w p #[v] 42) (n : Int) :
  Calls Tryz.prog 24 #[.pointer (some ⟨p, 0, none⟩), .int .i64 n] w fun e w' => e = .returned (.int .i64 0) ∧ w = w' := by
 obtain ⟨a, c, rfl, hc, hcm, ha⟩ := hin.block
 have c0 := hv.cell 0
 simp at c0
 go_enter Tryz.func24, Tryz.ntmps24
 go_wp2
 go_ret
 exact ⟨rfl, rfl⟩

set_option maxHeartbeats 1000000 in
theorem lcell_nil (W : World) (p : Nat) (v : Value) (hin : IntsIn W v .i64 []) (w : World) (hv : BoxAt w p #[v] 42) :
  Calls Tryz.prog 26 #[.pointer (some ⟨p, 0, none⟩)] w fun e w' => e = .returned (.agg #[.string (cellN 0).val, .bool (cellN 0).dead, .int .i64 (cellN 0).at_, .int .i64 (cellN 0).fin]) ∧ Ext w w' := by
 go_enter Tryz.func26, Tryz.ntmps26
 go_wp2_with fail
 refine (next_nil' W p v hin _ (hv.ext ((Ext.refl _).alloc _)) _).mono ?_
 rintro e w1 ⟨rfl, rfl⟩
 go_wp2
 refine bodyPost_ret (v := (.agg #[.string (cellN 0).val, .bool (cellN 0).dead, .int .i64 (cellN 0).at_, .int .i64 (cellN 0).fin])) (by simp [results, Tryz.results26, go_sem, cellN]) rfl ⟨rfl, ((Ext.refl _).alloc _).alloc _⟩

/-- The numbers that are left: any. -/
def LeftIn (W w : World) (p : Nat) : Prop := ∃ v l, BoxAt w p #[v] 42 ∧ IntsIn W v .i64 l

theorem lcell_ex (W : World) (p : Nat) (hp : W.heap.size ≤ p) (w : World) (hE : Ext W w) (hL : LeftIn W w p) :
  Calls Tryz.prog 26 #[.pointer (some ⟨p, 0, none⟩)] w fun e w' => ∃ n : Int, 0 ≤ n ∧ e = .returned (.agg #[.string (cellN n).val, .bool (cellN n).dead, .int .i64 (cellN n).at_, .int .i64 (cellN n).fin]) ∧ w.grownBy w' (some p) ∧ LeftIn W w' p := by
 obtain ⟨v, l, hv, hin⟩ := hL
 cases l with
 | nil =>
  refine (lcell_nil W p v hin w hv).mono ?_
  rintro e w' ⟨rfl, hX⟩
  exact ⟨0, Int.le_refl 0, rfl, grownBy_ext (grownBy_refl w _) hX, v, [], hv.ext hX, hin⟩
 | cons x l =>
  refine (lcell_any W p hp v x l hin w hE hv).mono ?_
  rintro e w' ⟨rfl, v', hX, hin'⟩
  exact ⟨x % 1048576, by omega, rfl, grownBy_ext (grownBy_set p v') hX, v', l, (hv.set 0 v').ext hX, hin'⟩
theorem next_ex (W : World) (p : Nat) (hp : W.heap.size ≤ p) (w : World) (hE : Ext W w) (hL : LeftIn W w p) :
  Calls Tryz.prog 24 #[.pointer (some ⟨p, 0, none⟩), .int .i64 1048576] w fun e w' => ∃ n : Int, 0 ≤ n ∧ n < 1048576 ∧ e = .returned (.int .i64 n) ∧ w.grownBy w' (some p) ∧ LeftIn W w' p := by
 obtain ⟨v, l, hv, hin⟩ := hL
 refine (next_gen W p hp v l hin 1048576 (by omega) (by omega) w hE hv).mono ?_
 rintro e w' ⟨rfl, hg, v', hb, hin'⟩
 refine ⟨nextN l 1048576, ?_, ?_, rfl, hg, v', l.tail, hb, hin'⟩
 ·cases l with
  | nil => exact Int.le_refl 0
  | cons x l => show 0 ≤ x % 1048576; omega
 ·cases l with
  | nil => show (0 : Int) < 1048576; omega
  | cons x l => show x % 1048576 < 1048576; omega

/-- The names of columns. -/
def nm4 : Array Value := #[.string ⟨#[97]⟩, .string ⟨#[98]⟩, .string ⟨#[99]⟩, .string ⟨#[100]⟩]
set_option maxHeartbeats 1000000 in
theorem names_any (w : World) :
  Calls Tryz.prog 25 #[] w fun e w' => e = .returned (.slice (some ⟨w.heap.size, 0, none⟩) 4 4) ∧ w' = w.alloc (.cells nm4 9) := by
 go_enter Tryz.func25, Tryz.ntmps25
 go_wp2
 go_ret
 exact ⟨rfl, rfl⟩

def nmK : Nat → ByteArray
 | 0 => ⟨#[97]⟩
 | 1 => ⟨#[98]⟩
 | 2 => ⟨#[99]⟩
 | _ => ⟨#[100]⟩
/-- Columns by numbers, of the first so many names. -/
inductive GenCols : Nat → List Co → Prop
 | nil : GenCols 0 []
 | skip {k l} : GenCols k l → GenCols (k + 1) l
 | put {k l} {n : Int} : GenCols k l → 0 ≤ n → GenCols (k + 1) (l ++ [⟨nmK k, cellN n⟩])
theorem GenCols.len {k : Nat} {l : List Co} (h : GenCols k l) : l.length ≤ k := by
 induction h with
 | nil => exact Nat.le_refl 0
 | skip _ ih => omega
 | put _ _ ih => simp; omega
end Go.Proofs.YtolkhjdododdaaaGreatDoor

/- L.Row: a row by numbers. -/
namespace Go.Proofs.YtolkhjdododdaaaGreatDoor
open Go Go.RowKit
attribute [local go_sem] yields yUpon ro8

/-- What makes a row be, by numbers. -/
def GenLive (c : Cl) : Prop := c.val = ⟨#[]⟩ ∧ c.dead = false ∧ ((c.at_ = 0 ∧ c.fin = 0) ∨ (1 ≤ c.at_ ∧ c.at_ ≤ 7 ∧ 0 ≤ c.fin ∧ c.fin ≤ 10))
structure GenRow (r : Ro) : Prop where
 live : GenLive r.live
 gone : 0 ≤ r.gone ∧ r.gone ≤ 7
 shade : r.shade = 0
 cols : GenCols 4 r.cols

/-- The row under way: its box, the box of the result, the numbers that are left. -/
structure RowAL (W w : World) (p : Nat) (key : ByteArray) (wr : World) (live : Cl) (gone : Int) (cols : List Co) (vc : Value) : Prop where
 box : BoxAt wr (w.heap.size + 1) (ro8 ⟨key, live, gone, 0, cols⟩ vc) 47
 res : BoxAt wr w.heap.size (ro8 ⟨⟨#[]⟩, zeroCl, 0, 0, []⟩ (.slice none 0 0)) 47
 left : LeftIn W wr p
 grown : w.grownBy wr (some p)
theorem LeftIn.other {W w : World} {p q i : Nat} {u : Value} (h : LeftIn W w p) (hne : p ≠ q) : LeftIn W (w.setCell ⟨q, i, none⟩ u) p := by
 obtain ⟨v, l, hv, hin⟩ := h
 exact ⟨v, l, hv.other hne i u, hin⟩
theorem grownBy_new {w wr : World} {r : Option Nat} {q i : Nat} {u : Value} (h : w.grownBy wr r) (hq : w.heap.size ≤ q) : w.grownBy (wr.setCell ⟨q, i, none⟩ u) r :=
 ⟨h.os, h.tape, h.output, Nat.le_trans h.size (by rw [Deep.nblk_setCell]; exact Nat.le_refl _), fun k hk hne => (Deep.blk_setCell_other _ _ _ _ (fun e => by subst e; omega)).trans (h.block k hk hne)⟩
section
variable {W w : World} {p : Nat} {key : ByteArray} {wr : World} {live : Cl} {gone : Int} {cols : List Co} {vc : Value}
theorem RowAL.fin (hpl : p < w.heap.size) {x : Int} (h : RowAL W w p key wr live gone cols vc) : RowAL W w p key (wr.setCell ⟨w.heap.size + 1, 4, none⟩ (.int .i64 x)) ⟨live.val, live.dead, live.at_, x⟩ gone cols vc :=
 ⟨h.box.set 4 _, h.res.other (by omega) 4 _, h.left.other (by omega), grownBy_new h.grown (Nat.le_succ _)⟩
theorem RowAL.gone' (hpl : p < w.heap.size) {x : Int} (h : RowAL W w p key wr live gone cols vc) : RowAL W w p key (wr.setCell ⟨w.heap.size + 1, 5, none⟩ (.int .i64 x)) live x cols vc :=
 ⟨h.box.set 5 _, h.res.other (by omega) 5 _, h.left.other (by omega), grownBy_new h.grown (Nat.le_succ _)⟩
theorem RowAL.live4 (hpl : p < w.heap.size) {c : Cl} (h : RowAL W w p key wr live gone cols vc) : RowAL W w p key ((((wr.setCell ⟨w.heap.size + 1, 1, none⟩ (.string c.val)).setCell ⟨w.heap.size + 1, 2, none⟩ (.bool c.dead)).setCell ⟨w.heap.size + 1, 3, none⟩ (.int .i64 c.at_)).setCell ⟨w.heap.size + 1, 4, none⟩ (.int .i64 c.fin)) c gone cols vc :=
 ⟨(((h.box.set 1 _).set 2 _).set 3 _).set 4 _, (((h.res.other (by omega) 1 _).other (by omega) 2 _).other (by omega) 3 _).other (by omega) 4 _,
  (((h.left.other (by omega)).other (by omega)).other (by omega)).other (by omega), grownBy_new (grownBy_new (grownBy_new (grownBy_new h.grown (Nat.le_succ _)) (Nat.le_succ _)) (Nat.le_succ _)) (Nat.le_succ _)⟩
end

section
variable {W w : World} {p : Nat} {key : ByteArray} {live : Cl} {gone : Int} {cols : List Co} {vc : Value}
theorem LeftIn.ext {W w w' : World} {p : Nat} (hE : Ext w w') (h : LeftIn W w p) : LeftIn W w' p := by
 obtain ⟨v, l, hv, hin⟩ := h
 exact ⟨v, l, hv.ext hE, hin⟩
theorem RowAL.ext {wr wx : World} (hE : Ext wr wx) (h : RowAL W w p key wr live gone cols vc) : RowAL W w p key wx live gone cols vc :=
 ⟨h.box.ext hE, h.res.ext hE, h.left.ext hE, grownBy_ext h.grown hE⟩
/-- What stays true in the round's region. -/
structure RC (W w : World) (p : Nat) (key : ByteArray) (wr : World) (live : Cl) (gone : Int) (cols : List Co) (vc : Value) (x : World) : Prop where
 al : RowAL W w p key x live gone cols vc
 own : x.ownsRow (w.heap.size + 2) 69 5 vc cols.length (coCells cols)
 size : wr.heap.size ≤ x.heap.size
theorem RC.ext {wr x y : World} (hE : Ext x y) (h : RC W w p key wr live gone cols vc x) : RC W w p key wr live gone cols vc y := ⟨h.al.ext hE, ownsRow_ext h.own hE, Nat.le_trans h.size hE.le⟩
def RE (p : Nat) (vc : Value) (j : Nat) (x y : World) : Prop := if j = 10 then x.grownBy y vc.ownBlock else x.grownBy y (some p)
theorem RE_ext {p : Nat} {vc : Value} {j : Nat} {x y : World} (h : Ext x y) : RE p vc j x y := by
 unfold RE
 split <;> exact grownBy_ext (grownBy_refl x _) h
theorem RE_box {wr x y : World} (hpl : p < w.heap.size) (hws : w.heap.size ≤ wr.heap.size) (hown : wr.ownsRow (w.heap.size + 2) 69 5 vc cols.length (coCells cols)) {j : Nat} (h : RE p vc j x y) {b : Nat} (hb : wr.heap.size ≤ b) {cs : Array Value} {e : TypeId} (hx : BoxAt x b cs e) : BoxAt y b cs e := by
 unfold RE at h
 split at h
 ·exact hx.grown h (fun e => by have := (hown.lt _ e.symm).2; omega)
 ·exact hx.grown h (fun e => by have := Option.some.inj e; omega)
theorem RE_own {x y : World} (hpl : p < w.heap.size) {j : Nat} (hj : j ≠ 10) (h : RE p vc j x y) {v : Value} {m : Nat} {xs : List Value} (hx : x.ownsRow (w.heap.size + 2) 69 5 v m xs) : y.ownsRow (w.heap.size + 2) 69 5 v m xs := by
 unfold RE at h
 rw [if_neg hj] at h
 refine hx.kept h ?_
 cases e : v.ownBlock with
 | none => exact .inl rfl
 | some g => exact .inr (fun h => by have := (hx.lt g e).1; have := Option.some.inj h; omega)
end
theorem nm4_get (k : Nat) (h : k < 4) : nm4[k]? = some (.string (nmK k)) := by
 obtain rfl | rfl | rfl | rfl : k = 0 ∨ k = 1 ∨ k = 2 ∨ k = 3 := by omega
 all_goals rfl
theorem ownsRow_shape {w : World} {B : Nat} {e : TypeId} {size : Nat} {v : Value} {n : Nat} {xs : List Value} (h : w.ownsRow B e size v n xs) : ∃ a c, v = .slice a n c := by
 obtain ⟨a, c, h, _⟩ := SliceIn.of_owns h
 exact ⟨a, c, h⟩

set_option maxRecDepth 100000 in
set_option maxHeartbeats 8000000 in
theorem lrow_any (W : World) (p : Nat) (hp : W.heap.size ≤ p) (key : ByteArray) (w : World) (hW : Ext W w) (hL : LeftIn W w p) :
  Calls Tryz.prog 8 #[.pointer (some ⟨p, 0, none⟩), .string key] w fun e w' => ∃ (r : Ro) (vc : Value), e = .returned (.agg #[.string r.key, .string r.live.val, .bool r.live.dead, .int .i64 r.live.at_, .int .i64 r.live.fin, .int .i64 r.gone, .int .i64 r.shade, vc]) ∧ r.key = key ∧ GenRow r ∧ w'.ownsRow w.heap.size 69 5 vc r.cols.length (coCells r.cols) ∧ w.grownBy w' (some p) ∧ LeftIn W w' p := by
 have hpl : p < w.heap.size := by obtain ⟨v, l, hv, _⟩ := hL; exact hv.lt
 obtain ⟨a0, a1, hE0⟩ := boxes2 w (ro8 ⟨⟨#[]⟩, zeroCl, 0, 0, []⟩ (.slice none 0 0)) (ro8 ⟨key, zeroCl, 0, 0, []⟩ (.slice none 0 0)) 47 47
 have hL0 : LeftIn W ((w.alloc (.cells (ro8 ⟨⟨#[]⟩, zeroCl, 0, 0, []⟩ (.slice none 0 0)) 47)).alloc (.cells (ro8 ⟨key, zeroCl, 0, 0, []⟩ (.slice none 0 0)) 47)) p := by
  obtain ⟨v, l, hv, hin⟩ := hL
  exact ⟨v, l, hv.ext hE0, hin⟩
 go_enter Tryz.func8, Tryz.ntmps8
 go_wp2_with fail
 refine (next_ex W p hp _ (hW.trans hE0) hL0).mono ?_
 rintro e w1 ⟨N, N0, N1, rfl, hg, hL1⟩
 have H : RowAL W w p key w1 zeroCl 0 [] (.slice none 0 0) := ⟨a1.grown hg (by simp; omega), a0.grown hg (by simp; omega), hL1, ext_grownBy hE0 hg⟩
 clear hE0 hL0 hg hL hL1 a0 a1
 have x1 := H.box.cell 1
 have x2 := H.box.cell 2
 have x3 := H.box.cell 3
 have x4 := H.box.cell 4
 have x5 := H.box.cell 5
 have xf := H.box.free
 simp [ro8, zeroCl] at x1 x2 x3 x4 x5
 have n1 : 0 ≤ N / 3 % 7 ∧ N / 3 % 7 < 7 := by omega
 have n2 : 0 ≤ N / 84 % 10 ∧ N / 84 % 10 < 10 := by omega
 have n3 : 0 ≤ N / 3360 % 8 ∧ N / 3360 % 8 < 8 := by omega
 have HL1 : ∀ (live : Cl), live = zeroCl ∨ live = ⟨⟨#[]⟩, false, 1 + N / 3 % 7, 0⟩ ∨ live = ⟨⟨#[]⟩, false, 1 + N / 3 % 7, 1 + N / 84 % 10⟩ → GenLive live := by
  rintro live (rfl | rfl | rfl)
  ·exact ⟨rfl, rfl, .inl ⟨rfl, rfl⟩⟩
  ·exact ⟨rfl, rfl, .inr ⟨by show 1 ≤ 1 + N / 3 % 7; omega, by show 1 + N / 3 % 7 ≤ 7; omega, Int.le_refl 0, by show (0 : Int) ≤ 10; omega⟩⟩
  ·exact ⟨rfl, rfl, .inr ⟨by show 1 ≤ 1 + N / 3 % 7; omega, by show 1 + N / 3 % 7 ≤ 7; omega, by show 0 ≤ 1 + N / 84 % 10; omega, by show 1 + N / 84 % 10 ≤ 10; omega⟩⟩
 have HLV := Lib.hid HL1
 clear HL1
 have G3 : Hid (0 ≤ N / 3360 % 8 ∧ N / 3360 % 8 ≤ 7) := ⟨n3.1, by omega⟩
 by_cases k1 : 0 < N % 3
 ·by_cases k2 : N / 21 % 4 = 0
  ·by_cases k3 : N / 840 % 4 = 0
   ·go_wp2_with fail
    clear x1 x2 x3 x4 x5 xf k1 k3
    go_loopw [7] (fun i wr => ∃ (k : Nat) (live : Cl) (gone : Int) (cols : List Co) (vc : Value), k ≤ 4 ∧ i = .int .i64 k ∧ GenLive live ∧ (0 ≤ gone ∧ gone ≤ 7) ∧ GenCols k cols ∧ RowAL W w p key wr live gone cols vc ∧ wr.ownsRow (w.heap.size + 2) 69 5 vc cols.length (coCells cols)) (fun i _ => 4 - (intOf i).toNat)
    case atStart => exact ⟨0, ⟨⟨#[]⟩, false, 1 + N / 3 % 7, 1 + N / 84 % 10⟩, (N / 3360 % 8), [], .slice none 0 0, Nat.zero_le _, rfl, HLV.out _ (.inr (.inr rfl)), G3.out, GenCols.nil, (((H.live4 (c := ⟨⟨#[]⟩, false, 1 + N / 3 % 7, 0⟩) hpl).fin hpl).gone' hpl), World.ownsRow_nil _ _ _ _⟩
    case round =>
     obtain ⟨k, live, gone, cols, vc, hk, rfl, hgl, hgo, hgc, hal, hown⟩ := hrel
     by_cases hlt : k < 4
     ·have hw10 : IntKind.i64.wrap (10 + (k : Int)) = 10 + (k : Int) := by rw [IntKind.wrap_i64]; omega
      have hlen := hgc.len
      have hwsz : w.heap.size ≤ wr.heap.size := hal.grown.size
      go_wp2_with fail
      ·have hk4 : decide ((k : Int) < 4) = true := decide_eq_true (by omega)
       refine wp_region_relE (RC W w p key wr live gone cols vc) (RE p vc) (Tab.atE [(1, fun v _ => v = vc), (2, fun v x => ∃ b, v = .slice (some ⟨b, 0, none⟩) 4 4 ∧ wr.heap.size ≤ b ∧ BoxAt x b nm4 9), (5, fun v _ => v = .string (nmK k)), (7, fun v _ => ∃ n : Int, 0 ≤ n ∧ v = (.agg #[.string (cellN n).val, .bool (cellN n).dead, .int .i64 (cellN n).at_, .int .i64 (cellN n).fin])), (9, fun v x => ∃ (b : Nat) (n : Int), 0 ≤ n ∧ v = .slice (some ⟨b, 0, none⟩) 1 1 ∧ wr.heap.size ≤ b ∧ BoxAt x b (co5 ⟨nmK k, cellN n⟩) 69), (10, fun v x => ∃ n : Int, 0 ≤ n ∧ x.ownsRow (w.heap.size + 2) 69 5 v (cols.length + 1) (coCells (cols ++ [⟨nmK k, cellN n⟩])))])
        (Tab.staysE ⟨fun _ _ _ _ _ _ h => h, fun j _ v x y hR ⟨b, e, hb, hx⟩ => ⟨b, e, hb, RE_box hpl hwsz hown hR hb hx⟩, fun _ _ _ _ _ _ h => h, fun _ _ _ _ _ _ h => h, fun j _ v x y hR ⟨b, n, h0, e, hb, hx⟩ => ⟨b, n, h0, e, hb, RE_box hpl hwsz hown hR hb hx⟩, fun j hj v x y hR ⟨n, h0, hx⟩ => ⟨n, h0, RE_own hpl hj hR hx⟩, trivial⟩)
        12 (by kernel_rfl) (by kernel_rfl) (by kernel_rfl) ((⟨hal, hown, Nat.le_refl _⟩ : RC W w p key wr live gone cols vc wr).ext (Ext.refl wr).drew) ?_
       refine relE_quiet rfl rfl rfl rfl ?_; intro K hK; go_big_quiet_op; (first | refine ⟨_, fun _ _ => rfl, hK _ ?_⟩ | refine hK _ ?_); clear hK K
       refine relE_val [] rfl rfl rfl (by kernel_rfl) (fun x hx hf => ?_) ?_
       ·have c7 := hx.al.box.cell 7
        simp [ro8] at c7
        go_simp
        exact ⟨hx, RE_ext (Ext.refl x), rfl⟩
       simp only [Act.put, List.setIfInBounds_toArray, List.set_cons_zero, List.set_cons_succ]
       refine relE_fact [] rfl rfl rfl (by kernel_rfl) (fun x hx hf => ?_) (fun v2 x2 hC2 hG2 h2 => ?_)
       ·go_simp
        exact (names_any x).mono fun e y ⟨he, hy⟩ => ⟨_, he, hx.ext (hy ▸ (Ext.refl x).alloc _), RE_ext (hy ▸ (Ext.refl x).alloc _), _, rfl, hx.size, hy ▸ BoxAt.made x _ _⟩
       obtain ⟨b2, rfl, hb2, _⟩ := h2
       have HB2 := Lib.hid hb2
       clear hC2 hG2 hb2
       simp only [Act.put, List.setIfInBounds_toArray, List.set_cons_zero, List.set_cons_succ]
       refine relE_quiet rfl rfl rfl rfl ?_; intro K hK; go_big_quiet_op; (first | refine ⟨_, fun _ _ => rfl, hK _ ?_⟩ | refine hK _ ?_); clear hK K
       refine relE_quiet rfl rfl rfl rfl ?_; intro K hK; go_big_quiet_op; (first | refine ⟨_, fun _ _ => rfl, hK _ ?_⟩ | refine hK _ ?_); clear hK K
       refine relE_val [2] rfl rfl rfl (by kernel_rfl) (fun x hx hf => ?_) ?_
       ·obtain ⟨b, e, _, hbox⟩ := (hf 2 (by simp)).2 rfl
        cases e
        have c7 := (hbox.cell k).trans (nm4_get k hlt)
        go_simp
        exact ⟨hx, RE_ext (Ext.refl x), rfl⟩
       simp only [Act.put, List.setIfInBounds_toArray, List.set_cons_zero, List.set_cons_succ]
       refine relE_quiet rfl rfl rfl rfl ?_; intro K hK; go_big_quiet_op; (first | refine ⟨_, fun _ _ => rfl, hK _ ?_⟩ | refine hK _ ?_); clear hK K
       refine relE_fact [] rfl rfl rfl (by kernel_rfl) (fun x hx hf => ?_) (fun v7 x7 hC7 hG7 h7 => ?_)
       ·go_simp
        exact (lcell_ex W p hp x (hW.grown hx.al.grown (fun q hq => by cases hq; exact hp)) hx.al.left).mono fun e y ⟨n, h0, he, hg, hl⟩ => ⟨_, he, ⟨⟨hx.al.box.grown hg (by simp; omega), hx.al.res.grown hg (by simp; omega), hl, grownBy_trans hx.al.grown hg⟩, RE_own (vc := vc) (j := 7) hpl (by decide) (by unfold RE; rw [if_neg (by decide)]; exact hg) hx.own, Nat.le_trans hx.size hg.size⟩, by unfold RE; rw [if_neg (by decide)]; exact hg, n, h0, rfl⟩
       obtain ⟨n7, hn7, rfl⟩ := h7
       clear hC7 hG7
       simp only [Act.put, List.setIfInBounds_toArray, List.set_cons_zero, List.set_cons_succ]
       refine relE_quiet rfl rfl rfl rfl ?_; intro K hK; go_big_quiet_op; (first | refine ⟨_, fun _ _ => rfl, hK _ ?_⟩ | refine hK _ ?_); clear hK K
       refine relE_fact [] rfl rfl rfl (by kernel_rfl) (fun x hx hf => ?_) (fun v9 x9 hC9 hG9 h9 => ?_)
       ·go_simp
        exact ⟨hx.ext ((Ext.refl x).alloc _), RE_ext ((Ext.refl x).alloc _), _, n7, hn7, rfl, hx.size, BoxAt.made x _ _⟩
       obtain ⟨b9, n9, hn9, rfl, hb9, _⟩ := h9
       have HB9 := Lib.hid hb9
       clear hC9 hG9 hb9
       simp only [Act.put, List.setIfInBounds_toArray, List.set_cons_zero, List.set_cons_succ]
       refine relE_fact [9] rfl rfl rfl (by kernel_rfl) (fun x hx hf => ?_) (fun v10 x10 hC10 hG10 h10 => ?_)
       ·obtain ⟨b, n, h0, e, _, hbox⟩ := (hf 9 (by simp)).2 rfl
        cases e
        refine yields_append info_Col und_Cols rfl (by decide) (.tmp 51) (.tmp 59) rfl (w.heap.size + 2) (by have := hx.al.box.lt; omega) vc cols.length (coCells cols) hx.own (by rfl) b9 1 1 (co5 ⟨nmK k, cellN n⟩).toList (by rfl) (by rfl) (fun j u hj => by rw [hbox.cell j]; simpa using hj) (by simp [co5, Value.oneCell']) (by unfold maxLen; omega) (by omega) ?_
        intro v' y hown' hg hkeep
        have hne : ∀ q, some q = vc.ownBlock → w.heap.size + 2 ≤ q := fun q hq => (hx.own.lt q hq.symm).1
        refine ⟨⟨⟨hx.al.box.grown hg (fun e => by have := hne _ e; omega), hx.al.res.grown hg (fun e => by have := hne _ e; omega), ?_, ?_⟩, ?_, Nat.le_trans hx.size hg.size⟩, by unfold RE; rw [if_pos rfl]; exact hg, n, h0, ?_⟩
        ·obtain ⟨vl, l, hv, hin⟩ := hx.al.left
         exact ⟨vl, l, hv.grown hg (fun e => by have := hne _ e; omega), hin⟩
        ·refine ⟨hg.os.trans hx.al.grown.os, hg.tape.trans hx.al.grown.tape, hg.output.trans hx.al.grown.output, Nat.le_trans hx.al.grown.size hg.size, fun q hq hqp => (hg.block q (Nat.lt_of_lt_of_le hq hx.al.grown.size) (fun e => by have := hne _ e; omega)).trans (hx.al.grown.block q hq hqp)⟩
        ·exact hkeep
        ·rw [coCells_append]
         exact hown'
       obtain ⟨n10, hn10, hown10⟩ := h10
       obtain ⟨a10, c10, rfl⟩ := ownsRow_shape hown10
       clear hC10 hG10 hown10
       simp only [Act.put, List.setIfInBounds_toArray, List.set_cons_zero, List.set_cons_succ]
       refine relE_quiet rfl rfl rfl rfl ?_; intro K hK; go_big_quiet_op; (first | refine ⟨_, fun _ _ => rfl, hK _ ?_⟩ | refine hK _ ?_); clear hK K
       refine relE_tail rfl rfl fun x hx hG => ?_
       obtain ⟨n, hn, hown'⟩ := (hG 10).2 rfl
       clear hG
       have c7 := hx.al.box.cell 7
       have f7 := hx.al.box.free 7
       simp [ro8] at c7
       go_wp2_with fail
       go_roundw
       case rel =>
        refine ⟨k + 1, live, gone, cols ++ [⟨nmK k, cellN n⟩], _, by omega, by go_num, hgl, hgo, hgc.put hn, ⟨hx.al.box.set 7 _, hx.al.res.other (by omega) 7 _, hx.al.left.other (by omega), grownBy_new hx.al.grown (Nat.le_succ _)⟩, ?_⟩
        rw [List.length_append]
        exact ownsRow_setCell_below hown' (a := ⟨w.heap.size + 1, 7, none⟩) (by show w.heap.size + 1 < w.heap.size + 2; omega) _
       case measure => simp [intOf] <;> omega
      ·go_roundw
       case rel => exact ⟨k + 1, live, gone, cols, vc, by omega, by go_num, hgl, hgo, hgc.skip, hal, hown⟩
       case measure => simp [intOf] <;> omega
     ·obtain rfl : k = 4 := by omega
      have y : ∀ i, wr.cell? ⟨w.heap.size + 1, i, none⟩ = (ro8 ⟨key, live, gone, 0, cols⟩ vc)[i]? := fun i => hal.box.cell i
      have hres := hal.res
      obtain ⟨av, cv, rfl⟩ := ownsRow_shape hown
      go_wp2_with ((guard_target =~ wpList _ _ _ (Oper.mk none (Op.store _ (Operand.tmp 4) (Operand.tmp 62)) _ _ _ _ :: _) _ _); go_must (refine storeBox rfl 47 (.tmp 4) (.tmp 62) rfl (w.heap.size) _ _ _ (by rfl) (by rfl) (hres) (by kernel_rfl) (by rfl) (by simp [Value.oneCell']) ?_); intro w3 c3 g3)
      have hoK : w3.ownsRow (w.heap.size + 2) 69 5 (.slice av cols.length cv) cols.length (coCells cols) := hown.kept g3 (by
       cases e : Value.ownBlock (.slice av cols.length cv) with
       | none => exact .inl rfl
       | some q => exact .inr (fun h => by have := (hown.lt q e).1; have := Option.some.inj h; omega))
      have hleft : LeftIn W w3 p := by
       obtain ⟨vl, l, hv, hin⟩ := hal.left
       exact ⟨vl, l, hv.grown g3 (fun e => by have := Option.some.inj e; omega), hin⟩
      have hgr : w.grownBy w3 (some p) := ⟨g3.os.trans hal.grown.os, g3.tape.trans hal.grown.tape, g3.output.trans hal.grown.output, Nat.le_trans hal.grown.size g3.size, fun q hq hqp => (g3.block q (Nat.lt_of_lt_of_le hq hal.grown.size) (fun e => by have := Option.some.inj e; omega)).trans (hal.grown.block q hq hqp)⟩
      clear y hres hal hown g3
      have z0 := c3.cell 0
      have z1 := c3.cell 1
      have z2 := c3.cell 2
      have z3 := c3.cell 3
      have z4 := c3.cell 4
      have z5 := c3.cell 5
      have z6 := c3.cell 6
      have z7 := c3.cell 7
      simp at z0 z1 z2 z3 z4 z5 z6 z7
      refine bodyPost_ret (v := .agg #[.string key, .string live.val, .bool live.dead, .int .i64 live.at_, .int .i64 live.fin, .int .i64 gone, .int .i64 0, .slice av cols.length cv]) ?_ rfl ⟨⟨key, live, gone, 0, cols⟩, _, rfl, rfl, ⟨hgl, hgo, rfl, hgc⟩, ownsRow_base hoK (by omega), hgr, hleft⟩
      simp [results, Tryz.results8, go_sem, Act.put, z0, z1, z2, z3, z4, z5, z6, z7]
   ·go_wp2_with fail
    clear x1 x2 x3 x4 x5 xf k1 k3
    go_loopw [7] (fun i wr => ∃ (k : Nat) (live : Cl) (gone : Int) (cols : List Co) (vc : Value), k ≤ 4 ∧ i = .int .i64 k ∧ GenLive live ∧ (0 ≤ gone ∧ gone ≤ 7) ∧ GenCols k cols ∧ RowAL W w p key wr live gone cols vc ∧ wr.ownsRow (w.heap.size + 2) 69 5 vc cols.length (coCells cols)) (fun i _ => 4 - (intOf i).toNat)
    case atStart => exact ⟨0, ⟨⟨#[]⟩, false, 1 + N / 3 % 7, 1 + N / 84 % 10⟩, 0, [], .slice none 0 0, Nat.zero_le _, rfl, HLV.out _ (.inr (.inr rfl)), ⟨Int.le_refl 0, by decide⟩, GenCols.nil, ((H.live4 (c := ⟨⟨#[]⟩, false, 1 + N / 3 % 7, 0⟩) hpl).fin hpl), World.ownsRow_nil _ _ _ _⟩
    case round =>
     obtain ⟨k, live, gone, cols, vc, hk, rfl, hgl, hgo, hgc, hal, hown⟩ := hrel
     by_cases hlt : k < 4
     ·have hw10 : IntKind.i64.wrap (10 + (k : Int)) = 10 + (k : Int) := by rw [IntKind.wrap_i64]; omega
      have hlen := hgc.len
      have hwsz : w.heap.size ≤ wr.heap.size := hal.grown.size
      go_wp2_with fail
      ·have hk4 : decide ((k : Int) < 4) = true := decide_eq_true (by omega)
       refine wp_region_relE (RC W w p key wr live gone cols vc) (RE p vc) (Tab.atE [(1, fun v _ => v = vc), (2, fun v x => ∃ b, v = .slice (some ⟨b, 0, none⟩) 4 4 ∧ wr.heap.size ≤ b ∧ BoxAt x b nm4 9), (5, fun v _ => v = .string (nmK k)), (7, fun v _ => ∃ n : Int, 0 ≤ n ∧ v = (.agg #[.string (cellN n).val, .bool (cellN n).dead, .int .i64 (cellN n).at_, .int .i64 (cellN n).fin])), (9, fun v x => ∃ (b : Nat) (n : Int), 0 ≤ n ∧ v = .slice (some ⟨b, 0, none⟩) 1 1 ∧ wr.heap.size ≤ b ∧ BoxAt x b (co5 ⟨nmK k, cellN n⟩) 69), (10, fun v x => ∃ n : Int, 0 ≤ n ∧ x.ownsRow (w.heap.size + 2) 69 5 v (cols.length + 1) (coCells (cols ++ [⟨nmK k, cellN n⟩])))])
        (Tab.staysE ⟨fun _ _ _ _ _ _ h => h, fun j _ v x y hR ⟨b, e, hb, hx⟩ => ⟨b, e, hb, RE_box hpl hwsz hown hR hb hx⟩, fun _ _ _ _ _ _ h => h, fun _ _ _ _ _ _ h => h, fun j _ v x y hR ⟨b, n, h0, e, hb, hx⟩ => ⟨b, n, h0, e, hb, RE_box hpl hwsz hown hR hb hx⟩, fun j hj v x y hR ⟨n, h0, hx⟩ => ⟨n, h0, RE_own hpl hj hR hx⟩, trivial⟩)
        12 (by kernel_rfl) (by kernel_rfl) (by kernel_rfl) ((⟨hal, hown, Nat.le_refl _⟩ : RC W w p key wr live gone cols vc wr).ext (Ext.refl wr).drew) ?_
       refine relE_quiet rfl rfl rfl rfl ?_; intro K hK; go_big_quiet_op; (first | refine ⟨_, fun _ _ => rfl, hK _ ?_⟩ | refine hK _ ?_); clear hK K
       refine relE_val [] rfl rfl rfl (by kernel_rfl) (fun x hx hf => ?_) ?_
       ·have c7 := hx.al.box.cell 7
        simp [ro8] at c7
        go_simp
        exact ⟨hx, RE_ext (Ext.refl x), rfl⟩
       simp only [Act.put, List.setIfInBounds_toArray, List.set_cons_zero, List.set_cons_succ]
       refine relE_fact [] rfl rfl rfl (by kernel_rfl) (fun x hx hf => ?_) (fun v2 x2 hC2 hG2 h2 => ?_)
       ·go_simp
        exact (names_any x).mono fun e y ⟨he, hy⟩ => ⟨_, he, hx.ext (hy ▸ (Ext.refl x).alloc _), RE_ext (hy ▸ (Ext.refl x).alloc _), _, rfl, hx.size, hy ▸ BoxAt.made x _ _⟩
       obtain ⟨b2, rfl, hb2, _⟩ := h2
       have HB2 := Lib.hid hb2
       clear hC2 hG2 hb2
       simp only [Act.put, List.setIfInBounds_toArray, List.set_cons_zero, List.set_cons_succ]
       refine relE_quiet rfl rfl rfl rfl ?_; intro K hK; go_big_quiet_op; (first | refine ⟨_, fun _ _ => rfl, hK _ ?_⟩ | refine hK _ ?_); clear hK K
       refine relE_quiet rfl rfl rfl rfl ?_; intro K hK; go_big_quiet_op; (first | refine ⟨_, fun _ _ => rfl, hK _ ?_⟩ | refine hK _ ?_); clear hK K
       refine relE_val [2] rfl rfl rfl (by kernel_rfl) (fun x hx hf => ?_) ?_
       ·obtain ⟨b, e, _, hbox⟩ := (hf 2 (by simp)).2 rfl
        cases e
        have c7 := (hbox.cell k).trans (nm4_get k hlt)
        go_simp
        exact ⟨hx, RE_ext (Ext.refl x), rfl⟩
       simp only [Act.put, List.setIfInBounds_toArray, List.set_cons_zero, List.set_cons_succ]
       refine relE_quiet rfl rfl rfl rfl ?_; intro K hK; go_big_quiet_op; (first | refine ⟨_, fun _ _ => rfl, hK _ ?_⟩ | refine hK _ ?_); clear hK K
       refine relE_fact [] rfl rfl rfl (by kernel_rfl) (fun x hx hf => ?_) (fun v7 x7 hC7 hG7 h7 => ?_)
       ·go_simp
        exact (lcell_ex W p hp x (hW.grown hx.al.grown (fun q hq => by cases hq; exact hp)) hx.al.left).mono fun e y ⟨n, h0, he, hg, hl⟩ => ⟨_, he, ⟨⟨hx.al.box.grown hg (by simp; omega), hx.al.res.grown hg (by simp; omega), hl, grownBy_trans hx.al.grown hg⟩, RE_own (vc := vc) (j := 7) hpl (by decide) (by unfold RE; rw [if_neg (by decide)]; exact hg) hx.own, Nat.le_trans hx.size hg.size⟩, by unfold RE; rw [if_neg (by decide)]; exact hg, n, h0, rfl⟩
       obtain ⟨n7, hn7, rfl⟩ := h7
       clear hC7 hG7
       simp only [Act.put, List.setIfInBounds_toArray, List.set_cons_zero, List.set_cons_succ]
       refine relE_quiet rfl rfl rfl rfl ?_; intro K hK; go_big_quiet_op; (first | refine ⟨_, fun _ _ => rfl, hK _ ?_⟩ | refine hK _ ?_); clear hK K
       refine relE_fact [] rfl rfl rfl (by kernel_rfl) (fun x hx hf => ?_) (fun v9 x9 hC9 hG9 h9 => ?_)
       ·go_simp
        exact ⟨hx.ext ((Ext.refl x).alloc _), RE_ext ((Ext.refl x).alloc _), _, n7, hn7, rfl, hx.size, BoxAt.made x _ _⟩
       obtain ⟨b9, n9, hn9, rfl, hb9, _⟩ := h9
       have HB9 := Lib.hid hb9
       clear hC9 hG9 hb9
       simp only [Act.put, List.setIfInBounds_toArray, List.set_cons_zero, List.set_cons_succ]
       refine relE_fact [9] rfl rfl rfl (by kernel_rfl) (fun x hx hf => ?_) (fun v10 x10 hC10 hG10 h10 => ?_)
       ·obtain ⟨b, n, h0, e, _, hbox⟩ := (hf 9 (by simp)).2 rfl
        cases e
        refine yields_append info_Col und_Cols rfl (by decide) (.tmp 51) (.tmp 59) rfl (w.heap.size + 2) (by have := hx.al.box.lt; omega) vc cols.length (coCells cols) hx.own (by rfl) b9 1 1 (co5 ⟨nmK k, cellN n⟩).toList (by rfl) (by rfl) (fun j u hj => by rw [hbox.cell j]; simpa using hj) (by simp [co5, Value.oneCell']) (by unfold maxLen; omega) (by omega) ?_
        intro v' y hown' hg hkeep
        have hne : ∀ q, some q = vc.ownBlock → w.heap.size + 2 ≤ q := fun q hq => (hx.own.lt q hq.symm).1
        refine ⟨⟨⟨hx.al.box.grown hg (fun e => by have := hne _ e; omega), hx.al.res.grown hg (fun e => by have := hne _ e; omega), ?_, ?_⟩, ?_, Nat.le_trans hx.size hg.size⟩, by unfold RE; rw [if_pos rfl]; exact hg, n, h0, ?_⟩
        ·obtain ⟨vl, l, hv, hin⟩ := hx.al.left
         exact ⟨vl, l, hv.grown hg (fun e => by have := hne _ e; omega), hin⟩
        ·refine ⟨hg.os.trans hx.al.grown.os, hg.tape.trans hx.al.grown.tape, hg.output.trans hx.al.grown.output, Nat.le_trans hx.al.grown.size hg.size, fun q hq hqp => (hg.block q (Nat.lt_of_lt_of_le hq hx.al.grown.size) (fun e => by have := hne _ e; omega)).trans (hx.al.grown.block q hq hqp)⟩
        ·exact hkeep
        ·rw [coCells_append]
         exact hown'
       obtain ⟨n10, hn10, hown10⟩ := h10
       obtain ⟨a10, c10, rfl⟩ := ownsRow_shape hown10
       clear hC10 hG10 hown10
       simp only [Act.put, List.setIfInBounds_toArray, List.set_cons_zero, List.set_cons_succ]
       refine relE_quiet rfl rfl rfl rfl ?_; intro K hK; go_big_quiet_op; (first | refine ⟨_, fun _ _ => rfl, hK _ ?_⟩ | refine hK _ ?_); clear hK K
       refine relE_tail rfl rfl fun x hx hG => ?_
       obtain ⟨n, hn, hown'⟩ := (hG 10).2 rfl
       clear hG
       have c7 := hx.al.box.cell 7
       have f7 := hx.al.box.free 7
       simp [ro8] at c7
       go_wp2_with fail
       go_roundw
       case rel =>
        refine ⟨k + 1, live, gone, cols ++ [⟨nmK k, cellN n⟩], _, by omega, by go_num, hgl, hgo, hgc.put hn, ⟨hx.al.box.set 7 _, hx.al.res.other (by omega) 7 _, hx.al.left.other (by omega), grownBy_new hx.al.grown (Nat.le_succ _)⟩, ?_⟩
        rw [List.length_append]
        exact ownsRow_setCell_below hown' (a := ⟨w.heap.size + 1, 7, none⟩) (by show w.heap.size + 1 < w.heap.size + 2; omega) _
       case measure => simp [intOf] <;> omega
      ·go_roundw
       case rel => exact ⟨k + 1, live, gone, cols, vc, by omega, by go_num, hgl, hgo, hgc.skip, hal, hown⟩
       case measure => simp [intOf] <;> omega
     ·obtain rfl : k = 4 := by omega
      have y : ∀ i, wr.cell? ⟨w.heap.size + 1, i, none⟩ = (ro8 ⟨key, live, gone, 0, cols⟩ vc)[i]? := fun i => hal.box.cell i
      have hres := hal.res
      obtain ⟨av, cv, rfl⟩ := ownsRow_shape hown
      go_wp2_with ((guard_target =~ wpList _ _ _ (Oper.mk none (Op.store _ (Operand.tmp 4) (Operand.tmp 62)) _ _ _ _ :: _) _ _); go_must (refine storeBox rfl 47 (.tmp 4) (.tmp 62) rfl (w.heap.size) _ _ _ (by rfl) (by rfl) (hres) (by kernel_rfl) (by rfl) (by simp [Value.oneCell']) ?_); intro w3 c3 g3)
      have hoK : w3.ownsRow (w.heap.size + 2) 69 5 (.slice av cols.length cv) cols.length (coCells cols) := hown.kept g3 (by
       cases e : Value.ownBlock (.slice av cols.length cv) with
       | none => exact .inl rfl
       | some q => exact .inr (fun h => by have := (hown.lt q e).1; have := Option.some.inj h; omega))
      have hleft : LeftIn W w3 p := by
       obtain ⟨vl, l, hv, hin⟩ := hal.left
       exact ⟨vl, l, hv.grown g3 (fun e => by have := Option.some.inj e; omega), hin⟩
      have hgr : w.grownBy w3 (some p) := ⟨g3.os.trans hal.grown.os, g3.tape.trans hal.grown.tape, g3.output.trans hal.grown.output, Nat.le_trans hal.grown.size g3.size, fun q hq hqp => (g3.block q (Nat.lt_of_lt_of_le hq hal.grown.size) (fun e => by have := Option.some.inj e; omega)).trans (hal.grown.block q hq hqp)⟩
      clear y hres hal hown g3
      have z0 := c3.cell 0
      have z1 := c3.cell 1
      have z2 := c3.cell 2
      have z3 := c3.cell 3
      have z4 := c3.cell 4
      have z5 := c3.cell 5
      have z6 := c3.cell 6
      have z7 := c3.cell 7
      simp at z0 z1 z2 z3 z4 z5 z6 z7
      refine bodyPost_ret (v := .agg #[.string key, .string live.val, .bool live.dead, .int .i64 live.at_, .int .i64 live.fin, .int .i64 gone, .int .i64 0, .slice av cols.length cv]) ?_ rfl ⟨⟨key, live, gone, 0, cols⟩, _, rfl, rfl, ⟨hgl, hgo, rfl, hgc⟩, ownsRow_base hoK (by omega), hgr, hleft⟩
      simp [results, Tryz.results8, go_sem, Act.put, z0, z1, z2, z3, z4, z5, z6, z7]
  ·by_cases k3 : N / 840 % 4 = 0
   ·go_wp2_with fail
    clear x1 x2 x3 x4 x5 xf k1 k3
    go_loopw [7] (fun i wr => ∃ (k : Nat) (live : Cl) (gone : Int) (cols : List Co) (vc : Value), k ≤ 4 ∧ i = .int .i64 k ∧ GenLive live ∧ (0 ≤ gone ∧ gone ≤ 7) ∧ GenCols k cols ∧ RowAL W w p key wr live gone cols vc ∧ wr.ownsRow (w.heap.size + 2) 69 5 vc cols.length (coCells cols)) (fun i _ => 4 - (intOf i).toNat)
    case atStart => exact ⟨0, ⟨⟨#[]⟩, false, 1 + N / 3 % 7, 0⟩, (N / 3360 % 8), [], .slice none 0 0, Nat.zero_le _, rfl, HLV.out _ (.inr (.inl rfl)), G3.out, GenCols.nil, ((H.live4 (c := ⟨⟨#[]⟩, false, 1 + N / 3 % 7, 0⟩) hpl).gone' hpl), World.ownsRow_nil _ _ _ _⟩
    case round =>
     obtain ⟨k, live, gone, cols, vc, hk, rfl, hgl, hgo, hgc, hal, hown⟩ := hrel
     by_cases hlt : k < 4
     ·have hw10 : IntKind.i64.wrap (10 + (k : Int)) = 10 + (k : Int) := by rw [IntKind.wrap_i64]; omega
      have hlen := hgc.len
      have hwsz : w.heap.size ≤ wr.heap.size := hal.grown.size
      go_wp2_with fail
      ·have hk4 : decide ((k : Int) < 4) = true := decide_eq_true (by omega)
       refine wp_region_relE (RC W w p key wr live gone cols vc) (RE p vc) (Tab.atE [(1, fun v _ => v = vc), (2, fun v x => ∃ b, v = .slice (some ⟨b, 0, none⟩) 4 4 ∧ wr.heap.size ≤ b ∧ BoxAt x b nm4 9), (5, fun v _ => v = .string (nmK k)), (7, fun v _ => ∃ n : Int, 0 ≤ n ∧ v = (.agg #[.string (cellN n).val, .bool (cellN n).dead, .int .i64 (cellN n).at_, .int .i64 (cellN n).fin])), (9, fun v x => ∃ (b : Nat) (n : Int), 0 ≤ n ∧ v = .slice (some ⟨b, 0, none⟩) 1 1 ∧ wr.heap.size ≤ b ∧ BoxAt x b (co5 ⟨nmK k, cellN n⟩) 69), (10, fun v x => ∃ n : Int, 0 ≤ n ∧ x.ownsRow (w.heap.size + 2) 69 5 v (cols.length + 1) (coCells (cols ++ [⟨nmK k, cellN n⟩])))])
        (Tab.staysE ⟨fun _ _ _ _ _ _ h => h, fun j _ v x y hR ⟨b, e, hb, hx⟩ => ⟨b, e, hb, RE_box hpl hwsz hown hR hb hx⟩, fun _ _ _ _ _ _ h => h, fun _ _ _ _ _ _ h => h, fun j _ v x y hR ⟨b, n, h0, e, hb, hx⟩ => ⟨b, n, h0, e, hb, RE_box hpl hwsz hown hR hb hx⟩, fun j hj v x y hR ⟨n, h0, hx⟩ => ⟨n, h0, RE_own hpl hj hR hx⟩, trivial⟩)
        12 (by kernel_rfl) (by kernel_rfl) (by kernel_rfl) ((⟨hal, hown, Nat.le_refl _⟩ : RC W w p key wr live gone cols vc wr).ext (Ext.refl wr).drew) ?_
       refine relE_quiet rfl rfl rfl rfl ?_; intro K hK; go_big_quiet_op; (first | refine ⟨_, fun _ _ => rfl, hK _ ?_⟩ | refine hK _ ?_); clear hK K
       refine relE_val [] rfl rfl rfl (by kernel_rfl) (fun x hx hf => ?_) ?_
       ·have c7 := hx.al.box.cell 7
        simp [ro8] at c7
        go_simp
        exact ⟨hx, RE_ext (Ext.refl x), rfl⟩
       simp only [Act.put, List.setIfInBounds_toArray, List.set_cons_zero, List.set_cons_succ]
       refine relE_fact [] rfl rfl rfl (by kernel_rfl) (fun x hx hf => ?_) (fun v2 x2 hC2 hG2 h2 => ?_)
       ·go_simp
        exact (names_any x).mono fun e y ⟨he, hy⟩ => ⟨_, he, hx.ext (hy ▸ (Ext.refl x).alloc _), RE_ext (hy ▸ (Ext.refl x).alloc _), _, rfl, hx.size, hy ▸ BoxAt.made x _ _⟩
       obtain ⟨b2, rfl, hb2, _⟩ := h2
       have HB2 := Lib.hid hb2
       clear hC2 hG2 hb2
       simp only [Act.put, List.setIfInBounds_toArray, List.set_cons_zero, List.set_cons_succ]
       refine relE_quiet rfl rfl rfl rfl ?_; intro K hK; go_big_quiet_op; (first | refine ⟨_, fun _ _ => rfl, hK _ ?_⟩ | refine hK _ ?_); clear hK K
       refine relE_quiet rfl rfl rfl rfl ?_; intro K hK; go_big_quiet_op; (first | refine ⟨_, fun _ _ => rfl, hK _ ?_⟩ | refine hK _ ?_); clear hK K
       refine relE_val [2] rfl rfl rfl (by kernel_rfl) (fun x hx hf => ?_) ?_
       ·obtain ⟨b, e, _, hbox⟩ := (hf 2 (by simp)).2 rfl
        cases e
        have c7 := (hbox.cell k).trans (nm4_get k hlt)
        go_simp
        exact ⟨hx, RE_ext (Ext.refl x), rfl⟩
       simp only [Act.put, List.setIfInBounds_toArray, List.set_cons_zero, List.set_cons_succ]
       refine relE_quiet rfl rfl rfl rfl ?_; intro K hK; go_big_quiet_op; (first | refine ⟨_, fun _ _ => rfl, hK _ ?_⟩ | refine hK _ ?_); clear hK K
       refine relE_fact [] rfl rfl rfl (by kernel_rfl) (fun x hx hf => ?_) (fun v7 x7 hC7 hG7 h7 => ?_)
       ·go_simp
        exact (lcell_ex W p hp x (hW.grown hx.al.grown (fun q hq => by cases hq; exact hp)) hx.al.left).mono fun e y ⟨n, h0, he, hg, hl⟩ => ⟨_, he, ⟨⟨hx.al.box.grown hg (by simp; omega), hx.al.res.grown hg (by simp; omega), hl, grownBy_trans hx.al.grown hg⟩, RE_own (vc := vc) (j := 7) hpl (by decide) (by unfold RE; rw [if_neg (by decide)]; exact hg) hx.own, Nat.le_trans hx.size hg.size⟩, by unfold RE; rw [if_neg (by decide)]; exact hg, n, h0, rfl⟩
       obtain ⟨n7, hn7, rfl⟩ := h7
       clear hC7 hG7
       simp only [Act.put, List.setIfInBounds_toArray, List.set_cons_zero, List.set_cons_succ]
       refine relE_quiet rfl rfl rfl rfl ?_; intro K hK; go_big_quiet_op; (first | refine ⟨_, fun _ _ => rfl, hK _ ?_⟩ | refine hK _ ?_); clear hK K
       refine relE_fact [] rfl rfl rfl (by kernel_rfl) (fun x hx hf => ?_) (fun v9 x9 hC9 hG9 h9 => ?_)
       ·go_simp
        exact ⟨hx.ext ((Ext.refl x).alloc _), RE_ext ((Ext.refl x).alloc _), _, n7, hn7, rfl, hx.size, BoxAt.made x _ _⟩
       obtain ⟨b9, n9, hn9, rfl, hb9, _⟩ := h9
       have HB9 := Lib.hid hb9
       clear hC9 hG9 hb9
       simp only [Act.put, List.setIfInBounds_toArray, List.set_cons_zero, List.set_cons_succ]
       refine relE_fact [9] rfl rfl rfl (by kernel_rfl) (fun x hx hf => ?_) (fun v10 x10 hC10 hG10 h10 => ?_)
       ·obtain ⟨b, n, h0, e, _, hbox⟩ := (hf 9 (by simp)).2 rfl
        cases e
        refine yields_append info_Col und_Cols rfl (by decide) (.tmp 51) (.tmp 59) rfl (w.heap.size + 2) (by have := hx.al.box.lt; omega) vc cols.length (coCells cols) hx.own (by rfl) b9 1 1 (co5 ⟨nmK k, cellN n⟩).toList (by rfl) (by rfl) (fun j u hj => by rw [hbox.cell j]; simpa using hj) (by simp [co5, Value.oneCell']) (by unfold maxLen; omega) (by omega) ?_
        intro v' y hown' hg hkeep
        have hne : ∀ q, some q = vc.ownBlock → w.heap.size + 2 ≤ q := fun q hq => (hx.own.lt q hq.symm).1
        refine ⟨⟨⟨hx.al.box.grown hg (fun e => by have := hne _ e; omega), hx.al.res.grown hg (fun e => by have := hne _ e; omega), ?_, ?_⟩, ?_, Nat.le_trans hx.size hg.size⟩, by unfold RE; rw [if_pos rfl]; exact hg, n, h0, ?_⟩
        ·obtain ⟨vl, l, hv, hin⟩ := hx.al.left
         exact ⟨vl, l, hv.grown hg (fun e => by have := hne _ e; omega), hin⟩
        ·refine ⟨hg.os.trans hx.al.grown.os, hg.tape.trans hx.al.grown.tape, hg.output.trans hx.al.grown.output, Nat.le_trans hx.al.grown.size hg.size, fun q hq hqp => (hg.block q (Nat.lt_of_lt_of_le hq hx.al.grown.size) (fun e => by have := hne _ e; omega)).trans (hx.al.grown.block q hq hqp)⟩
        ·exact hkeep
        ·rw [coCells_append]
         exact hown'
       obtain ⟨n10, hn10, hown10⟩ := h10
       obtain ⟨a10, c10, rfl⟩ := ownsRow_shape hown10
       clear hC10 hG10 hown10
       simp only [Act.put, List.setIfInBounds_toArray, List.set_cons_zero, List.set_cons_succ]
       refine relE_quiet rfl rfl rfl rfl ?_; intro K hK; go_big_quiet_op; (first | refine ⟨_, fun _ _ => rfl, hK _ ?_⟩ | refine hK _ ?_); clear hK K
       refine relE_tail rfl rfl fun x hx hG => ?_
       obtain ⟨n, hn, hown'⟩ := (hG 10).2 rfl
       clear hG
       have c7 := hx.al.box.cell 7
       have f7 := hx.al.box.free 7
       simp [ro8] at c7
       go_wp2_with fail
       go_roundw
       case rel =>
        refine ⟨k + 1, live, gone, cols ++ [⟨nmK k, cellN n⟩], _, by omega, by go_num, hgl, hgo, hgc.put hn, ⟨hx.al.box.set 7 _, hx.al.res.other (by omega) 7 _, hx.al.left.other (by omega), grownBy_new hx.al.grown (Nat.le_succ _)⟩, ?_⟩
        rw [List.length_append]
        exact ownsRow_setCell_below hown' (a := ⟨w.heap.size + 1, 7, none⟩) (by show w.heap.size + 1 < w.heap.size + 2; omega) _
       case measure => simp [intOf] <;> omega
      ·go_roundw
       case rel => exact ⟨k + 1, live, gone, cols, vc, by omega, by go_num, hgl, hgo, hgc.skip, hal, hown⟩
       case measure => simp [intOf] <;> omega
     ·obtain rfl : k = 4 := by omega
      have y : ∀ i, wr.cell? ⟨w.heap.size + 1, i, none⟩ = (ro8 ⟨key, live, gone, 0, cols⟩ vc)[i]? := fun i => hal.box.cell i
      have hres := hal.res
      obtain ⟨av, cv, rfl⟩ := ownsRow_shape hown
      go_wp2_with ((guard_target =~ wpList _ _ _ (Oper.mk none (Op.store _ (Operand.tmp 4) (Operand.tmp 62)) _ _ _ _ :: _) _ _); go_must (refine storeBox rfl 47 (.tmp 4) (.tmp 62) rfl (w.heap.size) _ _ _ (by rfl) (by rfl) (hres) (by kernel_rfl) (by rfl) (by simp [Value.oneCell']) ?_); intro w3 c3 g3)
      have hoK : w3.ownsRow (w.heap.size + 2) 69 5 (.slice av cols.length cv) cols.length (coCells cols) := hown.kept g3 (by
       cases e : Value.ownBlock (.slice av cols.length cv) with
       | none => exact .inl rfl
       | some q => exact .inr (fun h => by have := (hown.lt q e).1; have := Option.some.inj h; omega))
      have hleft : LeftIn W w3 p := by
       obtain ⟨vl, l, hv, hin⟩ := hal.left
       exact ⟨vl, l, hv.grown g3 (fun e => by have := Option.some.inj e; omega), hin⟩
      have hgr : w.grownBy w3 (some p) := ⟨g3.os.trans hal.grown.os, g3.tape.trans hal.grown.tape, g3.output.trans hal.grown.output, Nat.le_trans hal.grown.size g3.size, fun q hq hqp => (g3.block q (Nat.lt_of_lt_of_le hq hal.grown.size) (fun e => by have := Option.some.inj e; omega)).trans (hal.grown.block q hq hqp)⟩
      clear y hres hal hown g3
      have z0 := c3.cell 0
      have z1 := c3.cell 1
      have z2 := c3.cell 2
      have z3 := c3.cell 3
      have z4 := c3.cell 4
      have z5 := c3.cell 5
      have z6 := c3.cell 6
      have z7 := c3.cell 7
      simp at z0 z1 z2 z3 z4 z5 z6 z7
      refine bodyPost_ret (v := .agg #[.string key, .string live.val, .bool live.dead, .int .i64 live.at_, .int .i64 live.fin, .int .i64 gone, .int .i64 0, .slice av cols.length cv]) ?_ rfl ⟨⟨key, live, gone, 0, cols⟩, _, rfl, rfl, ⟨hgl, hgo, rfl, hgc⟩, ownsRow_base hoK (by omega), hgr, hleft⟩
      simp [results, Tryz.results8, go_sem, Act.put, z0, z1, z2, z3, z4, z5, z6, z7]
   ·go_wp2_with fail
    clear x1 x2 x3 x4 x5 xf k1 k3
    go_loopw [7] (fun i wr => ∃ (k : Nat) (live : Cl) (gone : Int) (cols : List Co) (vc : Value), k ≤ 4 ∧ i = .int .i64 k ∧ GenLive live ∧ (0 ≤ gone ∧ gone ≤ 7) ∧ GenCols k cols ∧ RowAL W w p key wr live gone cols vc ∧ wr.ownsRow (w.heap.size + 2) 69 5 vc cols.length (coCells cols)) (fun i _ => 4 - (intOf i).toNat)
    case atStart => exact ⟨0, ⟨⟨#[]⟩, false, 1 + N / 3 % 7, 0⟩, 0, [], .slice none 0 0, Nat.zero_le _, rfl, HLV.out _ (.inr (.inl rfl)), ⟨Int.le_refl 0, by decide⟩, GenCols.nil, (H.live4 (c := ⟨⟨#[]⟩, false, 1 + N / 3 % 7, 0⟩) hpl), World.ownsRow_nil _ _ _ _⟩
    case round =>
     obtain ⟨k, live, gone, cols, vc, hk, rfl, hgl, hgo, hgc, hal, hown⟩ := hrel
     by_cases hlt : k < 4
     ·have hw10 : IntKind.i64.wrap (10 + (k : Int)) = 10 + (k : Int) := by rw [IntKind.wrap_i64]; omega
      have hlen := hgc.len
      have hwsz : w.heap.size ≤ wr.heap.size := hal.grown.size
      go_wp2_with fail
      ·have hk4 : decide ((k : Int) < 4) = true := decide_eq_true (by omega)
       refine wp_region_relE (RC W w p key wr live gone cols vc) (RE p vc) (Tab.atE [(1, fun v _ => v = vc), (2, fun v x => ∃ b, v = .slice (some ⟨b, 0, none⟩) 4 4 ∧ wr.heap.size ≤ b ∧ BoxAt x b nm4 9), (5, fun v _ => v = .string (nmK k)), (7, fun v _ => ∃ n : Int, 0 ≤ n ∧ v = (.agg #[.string (cellN n).val, .bool (cellN n).dead, .int .i64 (cellN n).at_, .int .i64 (cellN n).fin])), (9, fun v x => ∃ (b : Nat) (n : Int), 0 ≤ n ∧ v = .slice (some ⟨b, 0, none⟩) 1 1 ∧ wr.heap.size ≤ b ∧ BoxAt x b (co5 ⟨nmK k, cellN n⟩) 69), (10, fun v x => ∃ n : Int, 0 ≤ n ∧ x.ownsRow (w.heap.size + 2) 69 5 v (cols.length + 1) (coCells (cols ++ [⟨nmK k, cellN n⟩])))])
        (Tab.staysE ⟨fun _ _ _ _ _ _ h => h, fun j _ v x y hR ⟨b, e, hb, hx⟩ => ⟨b, e, hb, RE_box hpl hwsz hown hR hb hx⟩, fun _ _ _ _ _ _ h => h, fun _ _ _ _ _ _ h => h, fun j _ v x y hR ⟨b, n, h0, e, hb, hx⟩ => ⟨b, n, h0, e, hb, RE_box hpl hwsz hown hR hb hx⟩, fun j hj v x y hR ⟨n, h0, hx⟩ => ⟨n, h0, RE_own hpl hj hR hx⟩, trivial⟩)
        12 (by kernel_rfl) (by kernel_rfl) (by kernel_rfl) ((⟨hal, hown, Nat.le_refl _⟩ : RC W w p key wr live gone cols vc wr).ext (Ext.refl wr).drew) ?_
       refine relE_quiet rfl rfl rfl rfl ?_; intro K hK; go_big_quiet_op; (first | refine ⟨_, fun _ _ => rfl, hK _ ?_⟩ | refine hK _ ?_); clear hK K
       refine relE_val [] rfl rfl rfl (by kernel_rfl) (fun x hx hf => ?_) ?_
       ·have c7 := hx.al.box.cell 7
        simp [ro8] at c7
        go_simp
        exact ⟨hx, RE_ext (Ext.refl x), rfl⟩
       simp only [Act.put, List.setIfInBounds_toArray, List.set_cons_zero, List.set_cons_succ]
       refine relE_fact [] rfl rfl rfl (by kernel_rfl) (fun x hx hf => ?_) (fun v2 x2 hC2 hG2 h2 => ?_)
       ·go_simp
        exact (names_any x).mono fun e y ⟨he, hy⟩ => ⟨_, he, hx.ext (hy ▸ (Ext.refl x).alloc _), RE_ext (hy ▸ (Ext.refl x).alloc _), _, rfl, hx.size, hy ▸ BoxAt.made x _ _⟩
       obtain ⟨b2, rfl, hb2, _⟩ := h2
       have HB2 := Lib.hid hb2
       clear hC2 hG2 hb2
       simp only [Act.put, List.setIfInBounds_toArray, List.set_cons_zero, List.set_cons_succ]
       refine relE_quiet rfl rfl rfl rfl ?_; intro K hK; go_big_quiet_op; (first | refine ⟨_, fun _ _ => rfl, hK _ ?_⟩ | refine hK _ ?_); clear hK K
       refine relE_quiet rfl rfl rfl rfl ?_; intro K hK; go_big_quiet_op; (first | refine ⟨_, fun _ _ => rfl, hK _ ?_⟩ | refine hK _ ?_); clear hK K
       refine relE_val [2] rfl rfl rfl (by kernel_rfl) (fun x hx hf => ?_) ?_
       ·obtain ⟨b, e, _, hbox⟩ := (hf 2 (by simp)).2 rfl
        cases e
        have c7 := (hbox.cell k).trans (nm4_get k hlt)
        go_simp
        exact ⟨hx, RE_ext (Ext.refl x), rfl⟩
       simp only [Act.put, List.setIfInBounds_toArray, List.set_cons_zero, List.set_cons_succ]
       refine relE_quiet rfl rfl rfl rfl ?_; intro K hK; go_big_quiet_op; (first | refine ⟨_, fun _ _ => rfl, hK _ ?_⟩ | refine hK _ ?_); clear hK K
       refine relE_fact [] rfl rfl rfl (by kernel_rfl) (fun x hx hf => ?_) (fun v7 x7 hC7 hG7 h7 => ?_)
       ·go_simp
        exact (lcell_ex W p hp x (hW.grown hx.al.grown (fun q hq => by cases hq; exact hp)) hx.al.left).mono fun e y ⟨n, h0, he, hg, hl⟩ => ⟨_, he, ⟨⟨hx.al.box.grown hg (by simp; omega), hx.al.res.grown hg (by simp; omega), hl, grownBy_trans hx.al.grown hg⟩, RE_own (vc := vc) (j := 7) hpl (by decide) (by unfold RE; rw [if_neg (by decide)]; exact hg) hx.own, Nat.le_trans hx.size hg.size⟩, by unfold RE; rw [if_neg (by decide)]; exact hg, n, h0, rfl⟩
       obtain ⟨n7, hn7, rfl⟩ := h7
       clear hC7 hG7
       simp only [Act.put, List.setIfInBounds_toArray, List.set_cons_zero, List.set_cons_succ]
       refine relE_quiet rfl rfl rfl rfl ?_; intro K hK; go_big_quiet_op; (first | refine ⟨_, fun _ _ => rfl, hK _ ?_⟩ | refine hK _ ?_); clear hK K
       refine relE_fact [] rfl rfl rfl (by kernel_rfl) (fun x hx hf => ?_) (fun v9 x9 hC9 hG9 h9 => ?_)
       ·go_simp
        exact ⟨hx.ext ((Ext.refl x).alloc _), RE_ext ((Ext.refl x).alloc _), _, n7, hn7, rfl, hx.size, BoxAt.made x _ _⟩
       obtain ⟨b9, n9, hn9, rfl, hb9, _⟩ := h9
       have HB9 := Lib.hid hb9
       clear hC9 hG9 hb9
       simp only [Act.put, List.setIfInBounds_toArray, List.set_cons_zero, List.set_cons_succ]
       refine relE_fact [9] rfl rfl rfl (by kernel_rfl) (fun x hx hf => ?_) (fun v10 x10 hC10 hG10 h10 => ?_)
       ·obtain ⟨b, n, h0, e, _, hbox⟩ := (hf 9 (by simp)).2 rfl
        cases e
        refine yields_append info_Col und_Cols rfl (by decide) (.tmp 51) (.tmp 59) rfl (w.heap.size + 2) (by have := hx.al.box.lt; omega) vc cols.length (coCells cols) hx.own (by rfl) b9 1 1 (co5 ⟨nmK k, cellN n⟩).toList (by rfl) (by rfl) (fun j u hj => by rw [hbox.cell j]; simpa using hj) (by simp [co5, Value.oneCell']) (by unfold maxLen; omega) (by omega) ?_
        intro v' y hown' hg hkeep
        have hne : ∀ q, some q = vc.ownBlock → w.heap.size + 2 ≤ q := fun q hq => (hx.own.lt q hq.symm).1
        refine ⟨⟨⟨hx.al.box.grown hg (fun e => by have := hne _ e; omega), hx.al.res.grown hg (fun e => by have := hne _ e; omega), ?_, ?_⟩, ?_, Nat.le_trans hx.size hg.size⟩, by unfold RE; rw [if_pos rfl]; exact hg, n, h0, ?_⟩
        ·obtain ⟨vl, l, hv, hin⟩ := hx.al.left
         exact ⟨vl, l, hv.grown hg (fun e => by have := hne _ e; omega), hin⟩
        ·refine ⟨hg.os.trans hx.al.grown.os, hg.tape.trans hx.al.grown.tape, hg.output.trans hx.al.grown.output, Nat.le_trans hx.al.grown.size hg.size, fun q hq hqp => (hg.block q (Nat.lt_of_lt_of_le hq hx.al.grown.size) (fun e => by have := hne _ e; omega)).trans (hx.al.grown.block q hq hqp)⟩
        ·exact hkeep
        ·rw [coCells_append]
         exact hown'
       obtain ⟨n10, hn10, hown10⟩ := h10
       obtain ⟨a10, c10, rfl⟩ := ownsRow_shape hown10
       clear hC10 hG10 hown10
       simp only [Act.put, List.setIfInBounds_toArray, List.set_cons_zero, List.set_cons_succ]
       refine relE_quiet rfl rfl rfl rfl ?_; intro K hK; go_big_quiet_op; (first | refine ⟨_, fun _ _ => rfl, hK _ ?_⟩ | refine hK _ ?_); clear hK K
       refine relE_tail rfl rfl fun x hx hG => ?_
       obtain ⟨n, hn, hown'⟩ := (hG 10).2 rfl
       clear hG
       have c7 := hx.al.box.cell 7
       have f7 := hx.al.box.free 7
       simp [ro8] at c7
       go_wp2_with fail
       go_roundw
       case rel =>
        refine ⟨k + 1, live, gone, cols ++ [⟨nmK k, cellN n⟩], _, by omega, by go_num, hgl, hgo, hgc.put hn, ⟨hx.al.box.set 7 _, hx.al.res.other (by omega) 7 _, hx.al.left.other (by omega), grownBy_new hx.al.grown (Nat.le_succ _)⟩, ?_⟩
        rw [List.length_append]
        exact ownsRow_setCell_below hown' (a := ⟨w.heap.size + 1, 7, none⟩) (by show w.heap.size + 1 < w.heap.size + 2; omega) _
       case measure => simp [intOf] <;> omega
      ·go_roundw
       case rel => exact ⟨k + 1, live, gone, cols, vc, by omega, by go_num, hgl, hgo, hgc.skip, hal, hown⟩
       case measure => simp [intOf] <;> omega
     ·obtain rfl : k = 4 := by omega
      have y : ∀ i, wr.cell? ⟨w.heap.size + 1, i, none⟩ = (ro8 ⟨key, live, gone, 0, cols⟩ vc)[i]? := fun i => hal.box.cell i
      have hres := hal.res
      obtain ⟨av, cv, rfl⟩ := ownsRow_shape hown
      go_wp2_with ((guard_target =~ wpList _ _ _ (Oper.mk none (Op.store _ (Operand.tmp 4) (Operand.tmp 62)) _ _ _ _ :: _) _ _); go_must (refine storeBox rfl 47 (.tmp 4) (.tmp 62) rfl (w.heap.size) _ _ _ (by rfl) (by rfl) (hres) (by kernel_rfl) (by rfl) (by simp [Value.oneCell']) ?_); intro w3 c3 g3)
      have hoK : w3.ownsRow (w.heap.size + 2) 69 5 (.slice av cols.length cv) cols.length (coCells cols) := hown.kept g3 (by
       cases e : Value.ownBlock (.slice av cols.length cv) with
       | none => exact .inl rfl
       | some q => exact .inr (fun h => by have := (hown.lt q e).1; have := Option.some.inj h; omega))
      have hleft : LeftIn W w3 p := by
       obtain ⟨vl, l, hv, hin⟩ := hal.left
       exact ⟨vl, l, hv.grown g3 (fun e => by have := Option.some.inj e; omega), hin⟩
      have hgr : w.grownBy w3 (some p) := ⟨g3.os.trans hal.grown.os, g3.tape.trans hal.grown.tape, g3.output.trans hal.grown.output, Nat.le_trans hal.grown.size g3.size, fun q hq hqp => (g3.block q (Nat.lt_of_lt_of_le hq hal.grown.size) (fun e => by have := Option.some.inj e; omega)).trans (hal.grown.block q hq hqp)⟩
      clear y hres hal hown g3
      have z0 := c3.cell 0
      have z1 := c3.cell 1
      have z2 := c3.cell 2
      have z3 := c3.cell 3
      have z4 := c3.cell 4
      have z5 := c3.cell 5
      have z6 := c3.cell 6
      have z7 := c3.cell 7
      simp at z0 z1 z2 z3 z4 z5 z6 z7
      refine bodyPost_ret (v := .agg #[.string key, .string live.val, .bool live.dead, .int .i64 live.at_, .int .i64 live.fin, .int .i64 gone, .int .i64 0, .slice av cols.length cv]) ?_ rfl ⟨⟨key, live, gone, 0, cols⟩, _, rfl, rfl, ⟨hgl, hgo, rfl, hgc⟩, ownsRow_base hoK (by omega), hgr, hleft⟩
      simp [results, Tryz.results8, go_sem, Act.put, z0, z1, z2, z3, z4, z5, z6, z7]
 ·by_cases k3 : N / 840 % 4 = 0
  ·go_wp2_with fail
   clear x1 x2 x3 x4 x5 xf k1 k3
   go_loopw [7] (fun i wr => ∃ (k : Nat) (live : Cl) (gone : Int) (cols : List Co) (vc : Value), k ≤ 4 ∧ i = .int .i64 k ∧ GenLive live ∧ (0 ≤ gone ∧ gone ≤ 7) ∧ GenCols k cols ∧ RowAL W w p key wr live gone cols vc ∧ wr.ownsRow (w.heap.size + 2) 69 5 vc cols.length (coCells cols)) (fun i _ => 4 - (intOf i).toNat)
   case atStart => exact ⟨0, zeroCl, (N / 3360 % 8), [], .slice none 0 0, Nat.zero_le _, rfl, HLV.out _ (.inl rfl), G3.out, GenCols.nil, (H.gone' hpl), World.ownsRow_nil _ _ _ _⟩
   case round =>
    obtain ⟨k, live, gone, cols, vc, hk, rfl, hgl, hgo, hgc, hal, hown⟩ := hrel
    by_cases hlt : k < 4
    ·have hw10 : IntKind.i64.wrap (10 + (k : Int)) = 10 + (k : Int) := by rw [IntKind.wrap_i64]; omega
     have hlen := hgc.len
     have hwsz : w.heap.size ≤ wr.heap.size := hal.grown.size
     go_wp2_with fail
     ·have hk4 : decide ((k : Int) < 4) = true := decide_eq_true (by omega)
      refine wp_region_relE (RC W w p key wr live gone cols vc) (RE p vc) (Tab.atE [(1, fun v _ => v = vc), (2, fun v x => ∃ b, v = .slice (some ⟨b, 0, none⟩) 4 4 ∧ wr.heap.size ≤ b ∧ BoxAt x b nm4 9), (5, fun v _ => v = .string (nmK k)), (7, fun v _ => ∃ n : Int, 0 ≤ n ∧ v = (.agg #[.string (cellN n).val, .bool (cellN n).dead, .int .i64 (cellN n).at_, .int .i64 (cellN n).fin])), (9, fun v x => ∃ (b : Nat) (n : Int), 0 ≤ n ∧ v = .slice (some ⟨b, 0, none⟩) 1 1 ∧ wr.heap.size ≤ b ∧ BoxAt x b (co5 ⟨nmK k, cellN n⟩) 69), (10, fun v x => ∃ n : Int, 0 ≤ n ∧ x.ownsRow (w.heap.size + 2) 69 5 v (cols.length + 1) (coCells (cols ++ [⟨nmK k, cellN n⟩])))])
       (Tab.staysE ⟨fun _ _ _ _ _ _ h => h, fun j _ v x y hR ⟨b, e, hb, hx⟩ => ⟨b, e, hb, RE_box hpl hwsz hown hR hb hx⟩, fun _ _ _ _ _ _ h => h, fun _ _ _ _ _ _ h => h, fun j _ v x y hR ⟨b, n, h0, e, hb, hx⟩ => ⟨b, n, h0, e, hb, RE_box hpl hwsz hown hR hb hx⟩, fun j hj v x y hR ⟨n, h0, hx⟩ => ⟨n, h0, RE_own hpl hj hR hx⟩, trivial⟩)
       12 (by kernel_rfl) (by kernel_rfl) (by kernel_rfl) ((⟨hal, hown, Nat.le_refl _⟩ : RC W w p key wr live gone cols vc wr).ext (Ext.refl wr).drew) ?_
      refine relE_quiet rfl rfl rfl rfl ?_; intro K hK; go_big_quiet_op; (first | refine ⟨_, fun _ _ => rfl, hK _ ?_⟩ | refine hK _ ?_); clear hK K
      refine relE_val [] rfl rfl rfl (by kernel_rfl) (fun x hx hf => ?_) ?_
      ·have c7 := hx.al.box.cell 7
       simp [ro8] at c7
       go_simp
       exact ⟨hx, RE_ext (Ext.refl x), rfl⟩
      simp only [Act.put, List.setIfInBounds_toArray, List.set_cons_zero, List.set_cons_succ]
      refine relE_fact [] rfl rfl rfl (by kernel_rfl) (fun x hx hf => ?_) (fun v2 x2 hC2 hG2 h2 => ?_)
      ·go_simp
       exact (names_any x).mono fun e y ⟨he, hy⟩ => ⟨_, he, hx.ext (hy ▸ (Ext.refl x).alloc _), RE_ext (hy ▸ (Ext.refl x).alloc _), _, rfl, hx.size, hy ▸ BoxAt.made x _ _⟩
      obtain ⟨b2, rfl, hb2, _⟩ := h2
      have HB2 := Lib.hid hb2
      clear hC2 hG2 hb2
      simp only [Act.put, List.setIfInBounds_toArray, List.set_cons_zero, List.set_cons_succ]
      refine relE_quiet rfl rfl rfl rfl ?_; intro K hK; go_big_quiet_op; (first | refine ⟨_, fun _ _ => rfl, hK _ ?_⟩ | refine hK _ ?_); clear hK K
      refine relE_quiet rfl rfl rfl rfl ?_; intro K hK; go_big_quiet_op; (first | refine ⟨_, fun _ _ => rfl, hK _ ?_⟩ | refine hK _ ?_); clear hK K
      refine relE_val [2] rfl rfl rfl (by kernel_rfl) (fun x hx hf => ?_) ?_
      ·obtain ⟨b, e, _, hbox⟩ := (hf 2 (by simp)).2 rfl
       cases e
       have c7 := (hbox.cell k).trans (nm4_get k hlt)
       go_simp
       exact ⟨hx, RE_ext (Ext.refl x), rfl⟩
      simp only [Act.put, List.setIfInBounds_toArray, List.set_cons_zero, List.set_cons_succ]
      refine relE_quiet rfl rfl rfl rfl ?_; intro K hK; go_big_quiet_op; (first | refine ⟨_, fun _ _ => rfl, hK _ ?_⟩ | refine hK _ ?_); clear hK K
      refine relE_fact [] rfl rfl rfl (by kernel_rfl) (fun x hx hf => ?_) (fun v7 x7 hC7 hG7 h7 => ?_)
      ·go_simp
       exact (lcell_ex W p hp x (hW.grown hx.al.grown (fun q hq => by cases hq; exact hp)) hx.al.left).mono fun e y ⟨n, h0, he, hg, hl⟩ => ⟨_, he, ⟨⟨hx.al.box.grown hg (by simp; omega), hx.al.res.grown hg (by simp; omega), hl, grownBy_trans hx.al.grown hg⟩, RE_own (vc := vc) (j := 7) hpl (by decide) (by unfold RE; rw [if_neg (by decide)]; exact hg) hx.own, Nat.le_trans hx.size hg.size⟩, by unfold RE; rw [if_neg (by decide)]; exact hg, n, h0, rfl⟩
      obtain ⟨n7, hn7, rfl⟩ := h7
      clear hC7 hG7
      simp only [Act.put, List.setIfInBounds_toArray, List.set_cons_zero, List.set_cons_succ]
      refine relE_quiet rfl rfl rfl rfl ?_; intro K hK; go_big_quiet_op; (first | refine ⟨_, fun _ _ => rfl, hK _ ?_⟩ | refine hK _ ?_); clear hK K
      refine relE_fact [] rfl rfl rfl (by kernel_rfl) (fun x hx hf => ?_) (fun v9 x9 hC9 hG9 h9 => ?_)
      ·go_simp
       exact ⟨hx.ext ((Ext.refl x).alloc _), RE_ext ((Ext.refl x).alloc _), _, n7, hn7, rfl, hx.size, BoxAt.made x _ _⟩
      obtain ⟨b9, n9, hn9, rfl, hb9, _⟩ := h9
      have HB9 := Lib.hid hb9
      clear hC9 hG9 hb9
      simp only [Act.put, List.setIfInBounds_toArray, List.set_cons_zero, List.set_cons_succ]
      refine relE_fact [9] rfl rfl rfl (by kernel_rfl) (fun x hx hf => ?_) (fun v10 x10 hC10 hG10 h10 => ?_)
      ·obtain ⟨b, n, h0, e, _, hbox⟩ := (hf 9 (by simp)).2 rfl
       cases e
       refine yields_append info_Col und_Cols rfl (by decide) (.tmp 51) (.tmp 59) rfl (w.heap.size + 2) (by have := hx.al.box.lt; omega) vc cols.length (coCells cols) hx.own (by rfl) b9 1 1 (co5 ⟨nmK k, cellN n⟩).toList (by rfl) (by rfl) (fun j u hj => by rw [hbox.cell j]; simpa using hj) (by simp [co5, Value.oneCell']) (by unfold maxLen; omega) (by omega) ?_
       intro v' y hown' hg hkeep
       have hne : ∀ q, some q = vc.ownBlock → w.heap.size + 2 ≤ q := fun q hq => (hx.own.lt q hq.symm).1
       refine ⟨⟨⟨hx.al.box.grown hg (fun e => by have := hne _ e; omega), hx.al.res.grown hg (fun e => by have := hne _ e; omega), ?_, ?_⟩, ?_, Nat.le_trans hx.size hg.size⟩, by unfold RE; rw [if_pos rfl]; exact hg, n, h0, ?_⟩
       ·obtain ⟨vl, l, hv, hin⟩ := hx.al.left
        exact ⟨vl, l, hv.grown hg (fun e => by have := hne _ e; omega), hin⟩
       ·refine ⟨hg.os.trans hx.al.grown.os, hg.tape.trans hx.al.grown.tape, hg.output.trans hx.al.grown.output, Nat.le_trans hx.al.grown.size hg.size, fun q hq hqp => (hg.block q (Nat.lt_of_lt_of_le hq hx.al.grown.size) (fun e => by have := hne _ e; omega)).trans (hx.al.grown.block q hq hqp)⟩
       ·exact hkeep
       ·rw [coCells_append]
        exact hown'
      obtain ⟨n10, hn10, hown10⟩ := h10
      obtain ⟨a10, c10, rfl⟩ := ownsRow_shape hown10
      clear hC10 hG10 hown10
      simp only [Act.put, List.setIfInBounds_toArray, List.set_cons_zero, List.set_cons_succ]
      refine relE_quiet rfl rfl rfl rfl ?_; intro K hK; go_big_quiet_op; (first | refine ⟨_, fun _ _ => rfl, hK _ ?_⟩ | refine hK _ ?_); clear hK K
      refine relE_tail rfl rfl fun x hx hG => ?_
      obtain ⟨n, hn, hown'⟩ := (hG 10).2 rfl
      clear hG
      have c7 := hx.al.box.cell 7
      have f7 := hx.al.box.free 7
      simp [ro8] at c7
      go_wp2_with fail
      go_roundw
      case rel =>
       refine ⟨k + 1, live, gone, cols ++ [⟨nmK k, cellN n⟩], _, by omega, by go_num, hgl, hgo, hgc.put hn, ⟨hx.al.box.set 7 _, hx.al.res.other (by omega) 7 _, hx.al.left.other (by omega), grownBy_new hx.al.grown (Nat.le_succ _)⟩, ?_⟩
       rw [List.length_append]
       exact ownsRow_setCell_below hown' (a := ⟨w.heap.size + 1, 7, none⟩) (by show w.heap.size + 1 < w.heap.size + 2; omega) _
      case measure => simp [intOf] <;> omega
     ·go_roundw
      case rel => exact ⟨k + 1, live, gone, cols, vc, by omega, by go_num, hgl, hgo, hgc.skip, hal, hown⟩
      case measure => simp [intOf] <;> omega
    ·obtain rfl : k = 4 := by omega
     have y : ∀ i, wr.cell? ⟨w.heap.size + 1, i, none⟩ = (ro8 ⟨key, live, gone, 0, cols⟩ vc)[i]? := fun i => hal.box.cell i
     have hres := hal.res
     obtain ⟨av, cv, rfl⟩ := ownsRow_shape hown
     go_wp2_with ((guard_target =~ wpList _ _ _ (Oper.mk none (Op.store _ (Operand.tmp 4) (Operand.tmp 62)) _ _ _ _ :: _) _ _); go_must (refine storeBox rfl 47 (.tmp 4) (.tmp 62) rfl (w.heap.size) _ _ _ (by rfl) (by rfl) (hres) (by kernel_rfl) (by rfl) (by simp [Value.oneCell']) ?_); intro w3 c3 g3)
     have hoK : w3.ownsRow (w.heap.size + 2) 69 5 (.slice av cols.length cv) cols.length (coCells cols) := hown.kept g3 (by
      cases e : Value.ownBlock (.slice av cols.length cv) with
      | none => exact .inl rfl
      | some q => exact .inr (fun h => by have := (hown.lt q e).1; have := Option.some.inj h; omega))
     have hleft : LeftIn W w3 p := by
      obtain ⟨vl, l, hv, hin⟩ := hal.left
      exact ⟨vl, l, hv.grown g3 (fun e => by have := Option.some.inj e; omega), hin⟩
     have hgr : w.grownBy w3 (some p) := ⟨g3.os.trans hal.grown.os, g3.tape.trans hal.grown.tape, g3.output.trans hal.grown.output, Nat.le_trans hal.grown.size g3.size, fun q hq hqp => (g3.block q (Nat.lt_of_lt_of_le hq hal.grown.size) (fun e => by have := Option.some.inj e; omega)).trans (hal.grown.block q hq hqp)⟩
     clear y hres hal hown g3
     have z0 := c3.cell 0
     have z1 := c3.cell 1
     have z2 := c3.cell 2
     have z3 := c3.cell 3
     have z4 := c3.cell 4
     have z5 := c3.cell 5
     have z6 := c3.cell 6
     have z7 := c3.cell 7
     simp at z0 z1 z2 z3 z4 z5 z6 z7
     refine bodyPost_ret (v := .agg #[.string key, .string live.val, .bool live.dead, .int .i64 live.at_, .int .i64 live.fin, .int .i64 gone, .int .i64 0, .slice av cols.length cv]) ?_ rfl ⟨⟨key, live, gone, 0, cols⟩, _, rfl, rfl, ⟨hgl, hgo, rfl, hgc⟩, ownsRow_base hoK (by omega), hgr, hleft⟩
     simp [results, Tryz.results8, go_sem, Act.put, z0, z1, z2, z3, z4, z5, z6, z7]
  ·go_wp2_with fail
   clear x1 x2 x3 x4 x5 xf k1 k3
   go_loopw [7] (fun i wr => ∃ (k : Nat) (live : Cl) (gone : Int) (cols : List Co) (vc : Value), k ≤ 4 ∧ i = .int .i64 k ∧ GenLive live ∧ (0 ≤ gone ∧ gone ≤ 7) ∧ GenCols k cols ∧ RowAL W w p key wr live gone cols vc ∧ wr.ownsRow (w.heap.size + 2) 69 5 vc cols.length (coCells cols)) (fun i _ => 4 - (intOf i).toNat)
   case atStart => exact ⟨0, zeroCl, 0, [], .slice none 0 0, Nat.zero_le _, rfl, HLV.out _ (.inl rfl), ⟨Int.le_refl 0, by decide⟩, GenCols.nil, H, World.ownsRow_nil _ _ _ _⟩
   case round =>
    obtain ⟨k, live, gone, cols, vc, hk, rfl, hgl, hgo, hgc, hal, hown⟩ := hrel
    by_cases hlt : k < 4
    ·have hw10 : IntKind.i64.wrap (10 + (k : Int)) = 10 + (k : Int) := by rw [IntKind.wrap_i64]; omega
     have hlen := hgc.len
     have hwsz : w.heap.size ≤ wr.heap.size := hal.grown.size
     go_wp2_with fail
     ·have hk4 : decide ((k : Int) < 4) = true := decide_eq_true (by omega)
      refine wp_region_relE (RC W w p key wr live gone cols vc) (RE p vc) (Tab.atE [(1, fun v _ => v = vc), (2, fun v x => ∃ b, v = .slice (some ⟨b, 0, none⟩) 4 4 ∧ wr.heap.size ≤ b ∧ BoxAt x b nm4 9), (5, fun v _ => v = .string (nmK k)), (7, fun v _ => ∃ n : Int, 0 ≤ n ∧ v = (.agg #[.string (cellN n).val, .bool (cellN n).dead, .int .i64 (cellN n).at_, .int .i64 (cellN n).fin])), (9, fun v x => ∃ (b : Nat) (n : Int), 0 ≤ n ∧ v = .slice (some ⟨b, 0, none⟩) 1 1 ∧ wr.heap.size ≤ b ∧ BoxAt x b (co5 ⟨nmK k, cellN n⟩) 69), (10, fun v x => ∃ n : Int, 0 ≤ n ∧ x.ownsRow (w.heap.size + 2) 69 5 v (cols.length + 1) (coCells (cols ++ [⟨nmK k, cellN n⟩])))])
       (Tab.staysE ⟨fun _ _ _ _ _ _ h => h, fun j _ v x y hR ⟨b, e, hb, hx⟩ => ⟨b, e, hb, RE_box hpl hwsz hown hR hb hx⟩, fun _ _ _ _ _ _ h => h, fun _ _ _ _ _ _ h => h, fun j _ v x y hR ⟨b, n, h0, e, hb, hx⟩ => ⟨b, n, h0, e, hb, RE_box hpl hwsz hown hR hb hx⟩, fun j hj v x y hR ⟨n, h0, hx⟩ => ⟨n, h0, RE_own hpl hj hR hx⟩, trivial⟩)
       12 (by kernel_rfl) (by kernel_rfl) (by kernel_rfl) ((⟨hal, hown, Nat.le_refl _⟩ : RC W w p key wr live gone cols vc wr).ext (Ext.refl wr).drew) ?_
      refine relE_quiet rfl rfl rfl rfl ?_; intro K hK; go_big_quiet_op; (first | refine ⟨_, fun _ _ => rfl, hK _ ?_⟩ | refine hK _ ?_); clear hK K
      refine relE_val [] rfl rfl rfl (by kernel_rfl) (fun x hx hf => ?_) ?_
      ·have c7 := hx.al.box.cell 7
       simp [ro8] at c7
       go_simp
       exact ⟨hx, RE_ext (Ext.refl x), rfl⟩
      simp only [Act.put, List.setIfInBounds_toArray, List.set_cons_zero, List.set_cons_succ]
      refine relE_fact [] rfl rfl rfl (by kernel_rfl) (fun x hx hf => ?_) (fun v2 x2 hC2 hG2 h2 => ?_)
      ·go_simp
       exact (names_any x).mono fun e y ⟨he, hy⟩ => ⟨_, he, hx.ext (hy ▸ (Ext.refl x).alloc _), RE_ext (hy ▸ (Ext.refl x).alloc _), _, rfl, hx.size, hy ▸ BoxAt.made x _ _⟩
      obtain ⟨b2, rfl, hb2, _⟩ := h2
      have HB2 := Lib.hid hb2
      clear hC2 hG2 hb2
      simp only [Act.put, List.setIfInBounds_toArray, List.set_cons_zero, List.set_cons_succ]
      refine relE_quiet rfl rfl rfl rfl ?_; intro K hK; go_big_quiet_op; (first | refine ⟨_, fun _ _ => rfl, hK _ ?_⟩ | refine hK _ ?_); clear hK K
      refine relE_quiet rfl rfl rfl rfl ?_; intro K hK; go_big_quiet_op; (first | refine ⟨_, fun _ _ => rfl, hK _ ?_⟩ | refine hK _ ?_); clear hK K
      refine relE_val [2] rfl rfl rfl (by kernel_rfl) (fun x hx hf => ?_) ?_
      ·obtain ⟨b, e, _, hbox⟩ := (hf 2 (by simp)).2 rfl
       cases e
       have c7 := (hbox.cell k).trans (nm4_get k hlt)
       go_simp
       exact ⟨hx, RE_ext (Ext.refl x), rfl⟩
      simp only [Act.put, List.setIfInBounds_toArray, List.set_cons_zero, List.set_cons_succ]
      refine relE_quiet rfl rfl rfl rfl ?_; intro K hK; go_big_quiet_op; (first | refine ⟨_, fun _ _ => rfl, hK _ ?_⟩ | refine hK _ ?_); clear hK K
      refine relE_fact [] rfl rfl rfl (by kernel_rfl) (fun x hx hf => ?_) (fun v7 x7 hC7 hG7 h7 => ?_)
      ·go_simp
       exact (lcell_ex W p hp x (hW.grown hx.al.grown (fun q hq => by cases hq; exact hp)) hx.al.left).mono fun e y ⟨n, h0, he, hg, hl⟩ => ⟨_, he, ⟨⟨hx.al.box.grown hg (by simp; omega), hx.al.res.grown hg (by simp; omega), hl, grownBy_trans hx.al.grown hg⟩, RE_own (vc := vc) (j := 7) hpl (by decide) (by unfold RE; rw [if_neg (by decide)]; exact hg) hx.own, Nat.le_trans hx.size hg.size⟩, by unfold RE; rw [if_neg (by decide)]; exact hg, n, h0, rfl⟩
      obtain ⟨n7, hn7, rfl⟩ := h7
      clear hC7 hG7
      simp only [Act.put, List.setIfInBounds_toArray, List.set_cons_zero, List.set_cons_succ]
      refine relE_quiet rfl rfl rfl rfl ?_; intro K hK; go_big_quiet_op; (first | refine ⟨_, fun _ _ => rfl, hK _ ?_⟩ | refine hK _ ?_); clear hK K
      refine relE_fact [] rfl rfl rfl (by kernel_rfl) (fun x hx hf => ?_) (fun v9 x9 hC9 hG9 h9 => ?_)
      ·go_simp
       exact ⟨hx.ext ((Ext.refl x).alloc _), RE_ext ((Ext.refl x).alloc _), _, n7, hn7, rfl, hx.size, BoxAt.made x _ _⟩
      obtain ⟨b9, n9, hn9, rfl, hb9, _⟩ := h9
      have HB9 := Lib.hid hb9
      clear hC9 hG9 hb9
      simp only [Act.put, List.setIfInBounds_toArray, List.set_cons_zero, List.set_cons_succ]
      refine relE_fact [9] rfl rfl rfl (by kernel_rfl) (fun x hx hf => ?_) (fun v10 x10 hC10 hG10 h10 => ?_)
      ·obtain ⟨b, n, h0, e, _, hbox⟩ := (hf 9 (by simp)).2 rfl
       cases e
       refine yields_append info_Col und_Cols rfl (by decide) (.tmp 51) (.tmp 59) rfl (w.heap.size + 2) (by have := hx.al.box.lt; omega) vc cols.length (coCells cols) hx.own (by rfl) b9 1 1 (co5 ⟨nmK k, cellN n⟩).toList (by rfl) (by rfl) (fun j u hj => by rw [hbox.cell j]; simpa using hj) (by simp [co5, Value.oneCell']) (by unfold maxLen; omega) (by omega) ?_
       intro v' y hown' hg hkeep
       have hne : ∀ q, some q = vc.ownBlock → w.heap.size + 2 ≤ q := fun q hq => (hx.own.lt q hq.symm).1
       refine ⟨⟨⟨hx.al.box.grown hg (fun e => by have := hne _ e; omega), hx.al.res.grown hg (fun e => by have := hne _ e; omega), ?_, ?_⟩, ?_, Nat.le_trans hx.size hg.size⟩, by unfold RE; rw [if_pos rfl]; exact hg, n, h0, ?_⟩
       ·obtain ⟨vl, l, hv, hin⟩ := hx.al.left
        exact ⟨vl, l, hv.grown hg (fun e => by have := hne _ e; omega), hin⟩
       ·refine ⟨hg.os.trans hx.al.grown.os, hg.tape.trans hx.al.grown.tape, hg.output.trans hx.al.grown.output, Nat.le_trans hx.al.grown.size hg.size, fun q hq hqp => (hg.block q (Nat.lt_of_lt_of_le hq hx.al.grown.size) (fun e => by have := hne _ e; omega)).trans (hx.al.grown.block q hq hqp)⟩
       ·exact hkeep
       ·rw [coCells_append]
        exact hown'
      obtain ⟨n10, hn10, hown10⟩ := h10
      obtain ⟨a10, c10, rfl⟩ := ownsRow_shape hown10
      clear hC10 hG10 hown10
      simp only [Act.put, List.setIfInBounds_toArray, List.set_cons_zero, List.set_cons_succ]
      refine relE_quiet rfl rfl rfl rfl ?_; intro K hK; go_big_quiet_op; (first | refine ⟨_, fun _ _ => rfl, hK _ ?_⟩ | refine hK _ ?_); clear hK K
      refine relE_tail rfl rfl fun x hx hG => ?_
      obtain ⟨n, hn, hown'⟩ := (hG 10).2 rfl
      clear hG
      have c7 := hx.al.box.cell 7
      have f7 := hx.al.box.free 7
      simp [ro8] at c7
      go_wp2_with fail
      go_roundw
      case rel =>
       refine ⟨k + 1, live, gone, cols ++ [⟨nmK k, cellN n⟩], _, by omega, by go_num, hgl, hgo, hgc.put hn, ⟨hx.al.box.set 7 _, hx.al.res.other (by omega) 7 _, hx.al.left.other (by omega), grownBy_new hx.al.grown (Nat.le_succ _)⟩, ?_⟩
       rw [List.length_append]
       exact ownsRow_setCell_below hown' (a := ⟨w.heap.size + 1, 7, none⟩) (by show w.heap.size + 1 < w.heap.size + 2; omega) _
      case measure => simp [intOf] <;> omega
     ·go_roundw
      case rel => exact ⟨k + 1, live, gone, cols, vc, by omega, by go_num, hgl, hgo, hgc.skip, hal, hown⟩
      case measure => simp [intOf] <;> omega
    ·obtain rfl : k = 4 := by omega
     have y : ∀ i, wr.cell? ⟨w.heap.size + 1, i, none⟩ = (ro8 ⟨key, live, gone, 0, cols⟩ vc)[i]? := fun i => hal.box.cell i
     have hres := hal.res
     obtain ⟨av, cv, rfl⟩ := ownsRow_shape hown
     go_wp2_with ((guard_target =~ wpList _ _ _ (Oper.mk none (Op.store _ (Operand.tmp 4) (Operand.tmp 62)) _ _ _ _ :: _) _ _); go_must (refine storeBox rfl 47 (.tmp 4) (.tmp 62) rfl (w.heap.size) _ _ _ (by rfl) (by rfl) (hres) (by kernel_rfl) (by rfl) (by simp [Value.oneCell']) ?_); intro w3 c3 g3)
     have hoK : w3.ownsRow (w.heap.size + 2) 69 5 (.slice av cols.length cv) cols.length (coCells cols) := hown.kept g3 (by
      cases e : Value.ownBlock (.slice av cols.length cv) with
      | none => exact .inl rfl
      | some q => exact .inr (fun h => by have := (hown.lt q e).1; have := Option.some.inj h; omega))
     have hleft : LeftIn W w3 p := by
      obtain ⟨vl, l, hv, hin⟩ := hal.left
      exact ⟨vl, l, hv.grown g3 (fun e => by have := Option.some.inj e; omega), hin⟩
     have hgr : w.grownBy w3 (some p) := ⟨g3.os.trans hal.grown.os, g3.tape.trans hal.grown.tape, g3.output.trans hal.grown.output, Nat.le_trans hal.grown.size g3.size, fun q hq hqp => (g3.block q (Nat.lt_of_lt_of_le hq hal.grown.size) (fun e => by have := Option.some.inj e; omega)).trans (hal.grown.block q hq hqp)⟩
     clear y hres hal hown g3
     have z0 := c3.cell 0
     have z1 := c3.cell 1
     have z2 := c3.cell 2
     have z3 := c3.cell 3
     have z4 := c3.cell 4
     have z5 := c3.cell 5
     have z6 := c3.cell 6
     have z7 := c3.cell 7
     simp at z0 z1 z2 z3 z4 z5 z6 z7
     refine bodyPost_ret (v := .agg #[.string key, .string live.val, .bool live.dead, .int .i64 live.at_, .int .i64 live.fin, .int .i64 gone, .int .i64 0, .slice av cols.length cv]) ?_ rfl ⟨⟨key, live, gone, 0, cols⟩, _, rfl, rfl, ⟨hgl, hgo, rfl, hgc⟩, ownsRow_base hoK (by omega), hgr, hleft⟩
     simp [results, Tryz.results8, go_sem, Act.put, z0, z1, z2, z3, z4, z5, z6, z7]
end Go.Proofs.YtolkhjdododdaaaGreatDoor
