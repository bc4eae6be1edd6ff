/- Plain laws on numbers and their bytes; no program. -/
import Derived.Test.YteamiiekpjoclaaDoorM1
import Derived.Test.YteamiiekpjoclaaDoorProg
import Derived.Test.YteamiiekpjoclaaDoorM2
import Derived.Test.YteamiiekpjoclaaDoorM3
namespace Go.Proofs.YteamiiekpjoclaaDoor

theorem tmod_pos {v n : Int} (h : 1 ≤ n) : 0 ≤ v.tmod n → v.tmod n = v % n := by
  intro h0
  rw [Int.tmod_eq_emod] at *
  split at h0 <;> split <;> try omega
  have := Int.emod_nonneg v (show n ≠ 0 by omega)
  have := Int.emod_lt_of_pos v (show 0 < n by omega)
  omega
theorem tmod_neg {v n : Int} (h : 1 ≤ n) : v.tmod n < 0 → v.tmod n + n = v % n := by
  intro h0
  rw [Int.tmod_eq_emod] at *
  split at h0 <;> split <;> try omega
  have := Int.emod_nonneg v (show n ≠ 0 by omega)
  omega
theorem tmod_lo {v n : Int} (h : 1 ≤ n) : -n < v.tmod n ∧ v.tmod n < n := by
  rw [Int.tmod_eq_emod]
  have := Int.emod_nonneg v (show n ≠ 0 by omega)
  have := Int.emod_lt_of_pos v (show 0 < n by omega)
  split <;> omega

/-- So many bytes of a number, the greatest first. -/
def beB : Nat → Nat → List UInt8
  | 0, _ => []
  | k + 1, x => UInt8.ofNat (x / 256 ^ k) :: beB k x

theorem beB_length (k x : Nat) : (beB k x).length = k := by
  induction k with
  | zero => rfl
  | succ k ih => simp [beB, ih]

theorem beB_get {k x j : Nat} (h : j < k) : (beB k x)[j]? = some (UInt8.ofNat (x / 256 ^ (k - 1 - j))) := by
  induction k generalizing j with
  | zero => omega
  | succ k ih =>
    cases j with
    | zero => simp [beB]
    | succ j =>
      simp only [beB, List.getElem?_cons_succ]
      rw [ih (by omega)]
      congr 4
      omega

theorem byte_shift (x k : Nat) : UInt8.ofNat (((x : Int) / 2 ^ (8 * k) % 256).toNat) = UInt8.ofNat (x / 256 ^ k) := by
  have e : ((x : Int) / 2 ^ (8 * k) % 256).toNat = x / 256 ^ k % 256 := by
    rw [show (2 : Int) ^ (8 * k) = ((256 ^ k : Nat) : Int) by rw [Int.pow_mul]; simp]
    omega
  rw [e]
  apply UInt8.toNat.inj
  simp

/-- How many bits, how many bytes a number takes. -/
def bitsOf (x : Nat) : Nat := if x = 0 then 0 else Nat.log2 x + 1
def nlen (x : Nat) : Nat := (bitsOf x + 7) / 8

theorem bitsOf_lt (x : Nat) : x < 2 ^ bitsOf x := by
  unfold bitsOf
  split
  · omega
  · exact Nat.lt_log2_self
theorem bitsOf_le (x : Nat) (h : x ≠ 0) : 2 ^ (bitsOf x - 1) ≤ x := by
  unfold bitsOf
  rw [if_neg h]
  exact Nat.log2_self_le h
theorem bitsOf_unique {x n : Nat} (h1 : x < 2 ^ n) (h2 : n = 0 ∨ 2 ^ (n - 1) ≤ x) : bitsOf x = n := by
  by_cases hx : x = 0
  · subst hx
    rcases h2 with rfl | h2
    · rfl
    · have : 0 < 2 ^ (n - 1) := Nat.two_pow_pos _
      omega
  · have a := bitsOf_lt x
    have b := bitsOf_le x hx
    have hn : n ≠ 0 := by rintro rfl; simp at h1; exact hx h1
    have h2 : 2 ^ (n - 1) ≤ x := h2.resolve_left hn
    have hb : bitsOf x ≠ 0 := by unfold bitsOf; rw [if_neg hx]; omega
    have c : bitsOf x - 1 < n := (Nat.pow_lt_pow_iff_right (a := 2) (by omega)).1 (Nat.lt_of_le_of_lt b h1)
    have d : n - 1 < bitsOf x := (Nat.pow_lt_pow_iff_right (a := 2) (by omega)).1 (Nat.lt_of_le_of_lt h2 a)
    omega

theorem bitsOf_le64 {x : Nat} (h : x < 18446744073709551616) : bitsOf x ≤ 64 := by
  by_cases hx : x = 0
  · subst hx; simp [bitsOf]
  · have b := bitsOf_le x hx
    have : 2 ^ (bitsOf x - 1) < 2 ^ 64 := Nat.lt_of_le_of_lt b (by simpa using h)
    have := (Nat.pow_lt_pow_iff_right (a := 2) (by omega)).1 this
    omega

/-- A number's bytes: how many they are, and they. -/
def num (x : Nat) : List UInt8 := UInt8.ofNat (nlen x) :: beB (nlen x) x

/-- A text's bytes. -/
def esc : List UInt8 → List UInt8
  | [] => []
  | b :: l => if b = 0 then 0 :: 255 :: esc l else b :: esc l
theorem esc_append (l m : List UInt8) : esc (l ++ m) = esc l ++ esc m := by
  induction l with
  | nil => rfl
  | cons b l ih =>
    simp only [List.cons_append, esc, ih]
    split <;> simp
theorem esc_snoc (l : List UInt8) (b : UInt8) : esc (l ++ [b]) = esc l ++ if b = 0 then [0, 255] else [b] := by
  rw [esc_append]
  congr 1
theorem esc_length_le (l : List UInt8) : (esc l).length ≤ 2 * l.length := by
  induction l with
  | nil => simp [esc]
  | cons b l ih =>
    simp only [esc]
    split <;> simp <;> omega
def txt (l : List UInt8) : List UInt8 := esc l ++ [0, 1]
theorem txt_length_le (l : List UInt8) : (txt l).length ≤ 2 * l.length + 2 := by
  have := esc_length_le l
  simp [txt]
  omega
/-- A whole number's eight bytes (v, as the 64 bits that it is, and 2^63). -/
def int8 (v : Int) : List UInt8 := beB 8 ((v + 9223372036854775808) % 18446744073709551616).toNat
end Go.Proofs.YteamiiekpjoclaaDoor

/- Place: any number as one below another. -/
namespace Go.Proofs.YteamiiekpjoclaaDoor
open Go Go.RowKit

set_option maxHeartbeats 400000 in
theorem place_any (v n : Int) (h : 1 ≤ n) (hn : n ≤ 9223372036854775807) (w : World) :
    Calls Tryd.prog 15 #[.int .i64 v, .int .i64 n] w fun e w' => e = .returned (.int .i64 (v % n)) ∧ w = w' := by
  have hlo := (tmod_lo (v := v) h).1
  have hhi := (tmod_lo (v := v) h).2
  by_cases h0 : v.tmod n < 0
  · have HE := Lib.hid (tmod_neg h h0)
    go_enter Tryd.func15, Tryd.ntmps15
    go_wp2
    go_ret
    exact ⟨ret_int HE.out, rfl⟩
  · have h0' : 0 ≤ v.tmod n := by omega
    have HE := Lib.hid (tmod_pos h h0')
    go_enter Tryd.func15, Tryd.ntmps15
    go_wp2
    go_ret
    exact ⟨ret_int HE.out, rfl⟩

end Go.Proofs.YteamiiekpjoclaaDoor

/- What makes things by numbers: L.Next, L.Cell. -/
namespace Go.Proofs.YteamiiekpjoclaaDoor
open Go Go.RowKit
attribute [local go_sem] yields yUpon

/-- The next number, the numbers behind it. -/
def nextN (l : List Int) (n : Int) : Int := match l with | [] => 0 | x :: _ => x % n
theorem IntsIn.block {w : World} {v : Value} {k : IntKind} {l : List Int} (h : IntsIn w v k l) : ∃ a c, v = .slice a l.length c ∧ l.length ≤ c ∧ c ≤ maxLen ∧ (a = none → c = 0) := by
  obtain ⟨a, c, h1, h2, h3, h4, _⟩ := h
  exact ⟨a, c, h1, h2, h3, h4⟩

theorem ints_tail {W : World} {b o c : Nat} {x : Int} {l : List Int} {k : IntKind} (hcm : c ≤ maxLen) (hcell : ∀ j u, (kcells k (x :: l))[j]? = some u → ∃ b' o', (some ⟨b, o, none⟩ : Option Addr) = some ⟨b', o', none⟩ ∧ W.cell? ⟨b', o' + j, none⟩ = some u) (hc : l.length + 1 ≤ c) :
    IntsIn W (.slice (some ⟨b, o + 1, none⟩) l.length (c - 1)) k l :=
  ⟨_, c - 1, rfl, by omega, by omega, nofun, fun j u hj => by
    obtain ⟨b', o', e, hc⟩ := hcell (j + 1) u (by simpa [kcells] using hj)
    cases e
    exact ⟨b, o + 1, rfl, by rw [show o + 1 + j = o + (j + 1) by omega]; exact hc⟩⟩

set_option maxHeartbeats 400000 in
theorem next_any (W : World) (p : Nat) (hp : W.heap.size ≤ p) (v : Value) (x : Int) (l : List Int) (hin : IntsIn W v .i64 (x :: l)) (n : Int) (h1 : 1 ≤ n) (h2 : n ≤ 9223372036854775807)
    (w : World) (hE : Ext W w) (hv : w.heap[p]? = some (.cells #[v] 62 (0, 0))) :
    Calls Tryd.prog 72 #[.pointer (some ⟨p, 0, none⟩), .int .i64 n] w fun e w' => e = .returned (.int .i64 (x % n)) ∧ ∃ v', w' = w.setCell ⟨p, 0, none⟩ v' ∧ IntsIn W v' .i64 l := by
  obtain ⟨a, c, rfl, hc, hcm, ha, hcell⟩ := hin
  obtain ⟨b, o, rfl, h0⟩ := hcell 0 (.int .i64 x) (by simp [kcells])
  have c0 := var_cell hv 0
  have f0 := var_free hv 0
  simp at c0
  have g0 := hE.cell h0
  simp at g0 hc
  unfold maxLen at hcm
  have HC := Lib.hid hcell
  clear hcell ha h0
  go_enter Tryd.func72, Tryd.ntmps72
  go_wp2_with fail
  refine (place_any _ _ h1 h2 _).mono ?_
  rintro e w1 ⟨rfl, rfl⟩
  go_wp2_with fail
  · subst h
    obtain rfl : l = [] := List.eq_nil_of_length_eq_zero (by omega)
    go_ret
    exact ⟨rfl, _, rfl, ⟨_, 0, rfl, Nat.le_refl _, Nat.zero_le _, nofun, fun j u hj => by simp [kcells] at hj⟩⟩
  · go_ret
    exact ⟨rfl, _, rfl, ints_tail (by unfold maxLen; omega) HC.out hc⟩

/-- A cell by a number. -/
def cellN (v : Int) : Cl := if v / 7 % 4 = 0 then ⟨⟨#[]⟩, true, 1 + v % 7, 0⟩ else ⟨(⟨#[120, 121, 122]⟩ : ByteArray).extract (v / 28 % 3).toNat (v / 28 % 3 + 1).toNat, false, 1 + v % 7, if v / 84 % 4 = 0 then 1 + v / 336 % 10 else 0⟩

set_option maxHeartbeats 1000000 in
theorem lcell_any (W : World) (p : Nat) (hp : W.heap.size ≤ p) (v : Value) (x : Int) (l : List Int) (hin : IntsIn W v .i64 (x :: l))
    (w : World) (hE : Ext W w) (hv : w.heap[p]? = some (.cells #[v] 62 (0, 0))) :
    Calls Tryd.prog 73 #[.pointer (some ⟨p, 0, none⟩)] w fun e w' => e = .returned (.agg #[.string (cellN (x % 1048576)).val, .bool (cellN (x % 1048576)).dead, .int .i64 (cellN (x % 1048576)).at_, .int .i64 (cellN (x % 1048576)).fin]) ∧ ∃ v', Ext (w.setCell ⟨p, 0, none⟩ v') w' ∧ IntsIn W v' .i64 l := by
  have hpl : p < w.heap.size := (Array.getElem?_eq_some_iff.1 hv).1
  obtain ⟨N, hN⟩ : ∃ N, N = x % 1048576 := ⟨_, rfl⟩
  have N0 : 0 ≤ N := by omega
  have N1 : N < 1048576 := by omega
  rw [← hN]
  have HN := Lib.hid hN
  clear hN
  go_enter Tryd.func73, Tryd.ntmps73
  go_wp2_with fail
  refine (next_any W p hp v x l hin _ (by omega) (by omega) _ (hE.alloc _) (by rw [((Ext.refl w).alloc _).block p hpl]; exact hv)).mono ?_
  rw [← HN.out]
  rintro e w1 ⟨rfl, v', rfl, hin'⟩
  by_cases k1 : N / 7 % 4 = 0
  · have h1 : (N / 7 % 4 == 0) = true := by simpa using k1
    go_wp2
    have e1 : cellN N = ⟨⟨#[]⟩, true, 1 + N % 7, 0⟩ := by unfold cellN; rw [if_pos k1]
    rw [e1]
    refine bodyPost_ret (v := (.agg #[.string (⟨⟨#[]⟩, true, 1 + N % 7, 0⟩ : Cl).val, .bool (⟨⟨#[]⟩, true, 1 + N % 7, 0⟩ : Cl).dead, .int .i64 (⟨⟨#[]⟩, true, 1 + N % 7, 0⟩ : Cl).at_, .int .i64 (⟨⟨#[]⟩, true, 1 + N % 7, 0⟩ : Cl).fin])) (by simp [results, Tryd.results73, go_sem]) rfl ⟨rfl, v', ((Ext.refl _).alloc _).alloc _, hin'⟩
  · have h1 : (N / 7 % 4 == 0) = false := by simpa using k1
    by_cases k2 : N / 84 % 4 = 0
    · have h2 : (N / 84 % 4 == 0) = true := by simpa using k2
      go_wp2
      have e1 : cellN N = ⟨(⟨#[120, 121, 122]⟩ : ByteArray).extract (N / 28 % 3).toNat (N / 28 % 3 + 1).toNat, false, 1 + N % 7, 1 + N / 336 % 10⟩ := by unfold cellN; rw [if_neg k1, if_pos k2]
      rw [e1]
      refine bodyPost_ret (v := (.agg #[.string (⟨(⟨#[120, 121, 122]⟩ : ByteArray).extract (N / 28 % 3).toNat (N / 28 % 3 + 1).toNat, false, 1 + N % 7, 1 + N / 336 % 10⟩ : Cl).val, .bool (⟨(⟨#[120, 121, 122]⟩ : ByteArray).extract (N / 28 % 3).toNat (N / 28 % 3 + 1).toNat, false, 1 + N % 7, 1 + N / 336 % 10⟩ : Cl).dead, .int .i64 (⟨(⟨#[120, 121, 122]⟩ : ByteArray).extract (N / 28 % 3).toNat (N / 28 % 3 + 1).toNat, false, 1 + N % 7, 1 + N / 336 % 10⟩ : Cl).at_, .int .i64 (⟨(⟨#[120, 121, 122]⟩ : ByteArray).extract (N / 28 % 3).toNat (N / 28 % 3 + 1).toNat, false, 1 + N % 7, 1 + N / 336 % 10⟩ : Cl).fin])) (by simp [results, Tryd.results73, go_sem]) rfl ⟨rfl, v', ((Ext.refl _).alloc _).alloc _, hin'⟩
    · have h2 : (N / 84 % 4 == 0) = false := by simpa using k2
      go_wp2
      have e1 : cellN N = ⟨(⟨#[120, 121, 122]⟩ : ByteArray).extract (N / 28 % 3).toNat (N / 28 % 3 + 1).toNat, false, 1 + N % 7, 0⟩ := by unfold cellN; rw [if_neg k1, if_neg k2]
      rw [e1]
      refine bodyPost_ret (v := (.agg #[.string (⟨(⟨#[120, 121, 122]⟩ : ByteArray).extract (N / 28 % 3).toNat (N / 28 % 3 + 1).toNat, false, 1 + N % 7, 0⟩ : Cl).val, .bool (⟨(⟨#[120, 121, 122]⟩ : ByteArray).extract (N / 28 % 3).toNat (N / 28 % 3 + 1).toNat, false, 1 + N % 7, 0⟩ : Cl).dead, .int .i64 (⟨(⟨#[120, 121, 122]⟩ : ByteArray).extract (N / 28 % 3).toNat (N / 28 % 3 + 1).toNat, false, 1 + N % 7, 0⟩ : Cl).at_, .int .i64 (⟨(⟨#[120, 121, 122]⟩ : ByteArray).extract (N / 28 % 3).toNat (N / 28 % 3 + 1).toNat, false, 1 + N % 7, 0⟩ : Cl).fin])) (by simp [results, Tryd.results73, go_sem]) rfl ⟨rfl, v', ((Ext.refl _).alloc _).alloc _, hin'⟩

/-! ### The same, whether or not numbers are left -/
theorem grownBy_set {w : World} (p : Nat) (v : Value) : w.grownBy (w.setCell ⟨p, 0, none⟩ v) (some p) :=
  ⟨rfl, rfl, rfl, by rw [Deep.nblk_setCell]; exact Nat.le_refl _, fun k _ hne => Deep.blk_setCell_other _ _ _ _ (fun e => hne (by rw [e]))⟩
theorem grownBy_refl (w : World) (r : Option Nat) : w.grownBy w r := ⟨rfl, rfl, rfl, Nat.le_refl _, fun _ _ _ => rfl⟩
theorem grownBy_ext {a b c : World} {r : Option Nat} (h : a.grownBy b r) (hE : Ext b c) : a.grownBy c r :=
  ⟨hE.os.trans h.os, hE.tape.trans h.tape, hE.output.trans h.output, Nat.le_trans h.size hE.size, fun k hk hne => (hE.block k (Nat.lt_of_lt_of_le hk h.size)).trans (h.block k hk hne)⟩
theorem ext_grownBy {a b c : World} {r : Option Nat} (hE : Ext a b) (h : b.grownBy c r) : a.grownBy c r :=
  ⟨h.os.trans hE.os, h.tape.trans hE.tape, h.output.trans hE.output, Nat.le_trans hE.size h.size, fun k hk hne => (h.block k (Nat.lt_of_lt_of_le hk hE.size) hne).trans (hE.block k hk)⟩
theorem grownBy_trans {a b c : World} {r : Option Nat} (h : a.grownBy b r) (k : b.grownBy c r) : a.grownBy c r :=
  ⟨k.os.trans h.os, k.tape.trans h.tape, k.output.trans h.output, Nat.le_trans h.size k.size, fun i hi hne => (k.block i (Nat.lt_of_lt_of_le hi h.size) hne).trans (h.block i hi hne)⟩

set_option maxHeartbeats 400000 in
theorem next_gen (W : World) (p : Nat) (hp : W.heap.size ≤ p) (v : Value) (l : List Int) (hin : IntsIn W v .i64 l) (n : Int) (h1 : 1 ≤ n) (h2 : n ≤ 9223372036854775807)
    (w : World) (hE : Ext W w) (hv : BoxAt w p #[v] 62) :
    Calls Tryd.prog 72 #[.pointer (some ⟨p, 0, none⟩), .int .i64 n] w fun e w' => e = .returned (.int .i64 (nextN l n)) ∧ w.grownBy w' (some p) ∧ ∃ v', BoxAt w' p #[v'] 62 ∧ IntsIn W v' .i64 l.tail := by
  cases l with
  | cons x l =>
    refine (next_any W p hp v x l hin n h1 h2 w hE hv).mono ?_
    rintro e w' ⟨rfl, v', rfl, hin'⟩
    exact ⟨rfl, grownBy_set p v', v', hv.set 0 v', hin'⟩
  | nil =>
    have hin0 := hin
    obtain ⟨a, c, rfl, hc, hcm, ha⟩ := hin.block
    have c0 := hv.cell 0
    simp at c0
    go_enter Tryd.func72, Tryd.ntmps72
    go_wp2
    go_ret
    exact ⟨rfl, grownBy_refl w _, _, hv, hin0⟩
end Go.Proofs.YteamiiekpjoclaaDoor
