/- The type of a list of partitions (not every seat has it). -/
import Derived.Test.YtdkkbglfipkmdaaDoorA12
import Derived.Test.YtdkkbglfipkmdaaDoorA1
import Derived.ProofKit
import Derived.ChangeSlices
import Derived.WideShapes
import Derived.Test.YtdkkbglfipkmdaaDoorA3
import Derived.Test.YtdkkbglfipkmdaaDoorA2
import Derived.Test.YtdkkbglfipkmdaaDoorA11
import Derived.Test.YtdkkbglfipkmdaaDoorA5
set_option linter.unusedSimpArgs false
set_option linter.unusedVariables false
namespace Go.Proofs.YtdkkbglfipkmdaaDoor
open Go Go.RowKit
theorem und_Parts : Tryd.prog.underlying 56 = some (.slice 30) := by kernel_rfl
end Go.Proofs.YtdkkbglfipkmdaaDoor

/- A slice of integers that comes in, read. -/
namespace Go.Proofs.YtdkkbglfipkmdaaDoor
open Go Go.RowKit Go.ChangeShapes Go.WideShapes Go.ChangeAt

/-- The cells of a list of integers. -/
def kcells (k : IntKind) (l : List Int) : List Value := l.map (Value.int k)
@[simp] theorem kcells_length (k : IntKind) (l : List Int) : (kcells k l).length = l.length := by simp [kcells]
theorem kcells_get (k : IntKind) (l : List Int) (i : Nat) : (kcells k l)[i]? = l[i]?.map (Value.int k) := by simp [kcells]
/-- v is a slice of integers that reads as l. -/
def IntsIn (w : World) (v : Value) (k : IntKind) (l : List Int) : Prop := SliceIn w v l.length (kcells k l)
theorem IntsIn.ext {w w' : World} (hE : Ext w w') {v : Value} {k : IntKind} {l : List Int} (h : IntsIn w v k l) : IntsIn w' v k l := SliceIn.ext hE h

theorem read_ints {P : Program} {H : Type} {enc : TypeId × Value → H} {W : World} {base : Nat} {t e : TypeId} {k : IntKind} {v : Value} {d : DataW H} {p : List MemPlace} (ht : P.underlying t = some (.slice e)) (he : P.underlying e = some (.int k)) (hc : P.cellsOf e = 1)
    (hv : Value.okWide P W .any base t v) (h : DataW.Trod enc P W 0 (fun _ => true) true t v d p) : ∃ l : List Int, IntsIn W v k l ∧ ∀ n ∈ l, (Lit.int k n).wf = true := by
  obtain ⟨a, len, cap, rfl⟩ := okWide_slice ht hv
  obtain ⟨fuel, hf⟩ := h
  rcases open_ints ht he hc hf with ⟨hcs, _⟩ | ⟨x, l, c, zs, hcs, _, hl, hm, hz, _, hcell, hwz⟩
  · simp [Value.cells] at hcs
    obtain ⟨rfl, rfl, rfl⟩ := hcs
    exact ⟨[], SliceIn.nil W, by simp⟩
  · simp [Value.cells] at hcs
    obtain ⟨rfl, rfl, rfl⟩ := hcs
    have hz' : zs.length = cap := by simpa using hz
    refine ⟨zs.take len, ?_, fun n hn => hwz n (List.mem_of_mem_take hn)⟩
    have hlen : (zs.take len).length = len := by simp; omega
    unfold IntsIn
    rw [hlen]
    refine ⟨some x, cap, rfl, hl, hm, nofun, fun j u hj => ?_⟩
    rw [kcells_get, List.getElem?_take] at hj
    split at hj
    · rename_i hlt
      have hjz : j < zs.length := by omega
      have hc := hcell j hjz
      have h0 := hcell 0 (by omega)
      obtain ⟨b, o, s⟩ := x
      have hs : s = none := by
        cases s with
        | none => rfl
        | some s =>
          simp only [Addr.add, if_pos] at h0
          unfold World.cell? at h0
          split at h0 <;> simp at h0
      subst hs
      refine ⟨b, o, rfl, ?_⟩
      rw [Addr.add_lit] at hc
      rw [hc, List.getD_eq_getElem?_getD]
      rw [List.getElem?_eq_getElem hjz] at hj ⊢
      simp at hj ⊢
      exact hj
    · cases hj
end Go.Proofs.YtdkkbglfipkmdaaDoor

/- What makes things by numbers: L.Next, L.Cell. -/
namespace Go.Proofs.YtdkkbglfipkmdaaDoor
open Go Go.RowKit
attribute [local go_sem] yields yUpon

/-- The next number, the numbers behind it. -/
def nextN (l : List Int) (n : Int) : Int := match l with | [] => 0 | x :: _ => x % n
theorem IntsIn.block {w : World} {v : Value} {k : IntKind} {l : List Int} (h : IntsIn w v k l) : ∃ a c, v = .slice a l.length c ∧ l.length ≤ c ∧ c ≤ maxLen ∧ (a = none → c = 0) := by
  obtain ⟨a, c, h1, h2, h3, h4, _⟩ := h
  exact ⟨a, c, h1, h2, h3, h4⟩

theorem ints_tail {W : World} {b o c : Nat} {x : Int} {l : List Int} {k : IntKind} (hcm : c ≤ maxLen) (hcell : ∀ j u, (kcells k (x :: l))[j]? = some u → ∃ b' o', (some ⟨b, o, none⟩ : Option Addr) = some ⟨b', o', none⟩ ∧ W.cell? ⟨b', o' + j, none⟩ = some u) (hc : l.length + 1 ≤ c) :
    IntsIn W (.slice (some ⟨b, o + 1, none⟩) l.length (c - 1)) k l :=
  ⟨_, c - 1, rfl, by omega, by omega, nofun, fun j u hj => by
    obtain ⟨b', o', e, hc⟩ := hcell (j + 1) u (by simpa [kcells] using hj)
    cases e
    exact ⟨b, o + 1, rfl, by rw [show o + 1 + j = o + (j + 1) by omega]; exact hc⟩⟩

set_option maxHeartbeats 400000 in
theorem next_any (W : World) (p : Nat) (hp : W.heap.size ≤ p) (v : Value) (x : Int) (l : List Int) (hin : IntsIn W v .i64 (x :: l)) (n : Int) (h1 : 1 ≤ n) (h2 : n ≤ 9223372036854775807)
    (w : World) (hE : Ext W w) (hv : w.heap[p]? = some (.cells #[v] 95 (0, 0))) :
    Calls Tryd.prog 115 #[.pointer (some ⟨p, 0, none⟩), .int .i64 n] w fun e w' => e = .returned (.int .i64 (x % n)) ∧ ∃ v', w' = w.setCell ⟨p, 0, none⟩ v' ∧ IntsIn W v' .i64 l := by
  obtain ⟨a, c, rfl, hc, hcm, ha, hcell⟩ := hin
  obtain ⟨b, o, rfl, h0⟩ := hcell 0 (.int .i64 x) (by simp [kcells])
  have c0 := var_cell hv 0
  have f0 := var_free hv 0
  simp at c0
  have g0 := hE.cell h0
  simp at g0 hc
  unfold maxLen at hcm
  have HC := Lib.hid hcell
  clear hcell ha h0
  go_enter Tryd.func115, Tryd.ntmps115
  go_wp2_with fail
  refine (place_any _ _ h1 h2 _).mono ?_
  rintro e w1 ⟨rfl, rfl⟩
  go_wp2_with fail
  · subst h
    obtain rfl : l = [] := List.eq_nil_of_length_eq_zero (by omega)
    go_ret
    exact ⟨rfl, _, rfl, ⟨_, 0, rfl, Nat.le_refl _, Nat.zero_le _, nofun, fun j u hj => by simp [kcells] at hj⟩⟩
  · go_ret
    exact ⟨rfl, _, rfl, ints_tail (by unfold maxLen; omega) HC.out hc⟩

/-- A cell by a number. -/
def cellN (v : Int) : Cl := if v / 7 % 4 = 0 then ⟨⟨#[]⟩, true, 1 + v % 7, 0⟩ else ⟨(⟨#[120, 121, 122]⟩ : ByteArray).extract (v / 28 % 3).toNat (v / 28 % 3 + 1).toNat, false, 1 + v % 7, if v / 84 % 4 = 0 then 1 + v / 336 % 10 else 0⟩

set_option maxHeartbeats 1000000 in
theorem lcell_any (W : World) (p : Nat) (hp : W.heap.size ≤ p) (v : Value) (x : Int) (l : List Int) (hin : IntsIn W v .i64 (x :: l))
    (w : World) (hE : Ext W w) (hv : w.heap[p]? = some (.cells #[v] 95 (0, 0))) :
    Calls Tryd.prog 149 #[.pointer (some ⟨p, 0, none⟩)] w fun e w' => e = .returned (.agg #[.string (cellN (x % 1048576)).val, .bool (cellN (x % 1048576)).dead, .int .i64 (cellN (x % 1048576)).at_, .int .i64 (cellN (x % 1048576)).fin]) ∧ ∃ v', Ext (w.setCell ⟨p, 0, none⟩ v') w' ∧ IntsIn W v' .i64 l := by
  have hpl : p < w.heap.size := (Array.getElem?_eq_some_iff.1 hv).1
  obtain ⟨N, hN⟩ : ∃ N, N = x % 1048576 := ⟨_, rfl⟩
  have N0 : 0 ≤ N := by omega
  have N1 : N < 1048576 := by omega
  rw [← hN]
  have HN := Lib.hid hN
  clear hN
  go_enter Tryd.func149, Tryd.ntmps149
  go_wp2_with fail
  refine (next_any W p hp v x l hin _ (by omega) (by omega) _ (hE.alloc _) (by rw [((Ext.refl w).alloc _).block p hpl]; exact hv)).mono ?_
  rw [← HN.out]
  rintro e w1 ⟨rfl, v', rfl, hin'⟩
  by_cases k1 : N / 7 % 4 = 0
  · have h1 : (N / 7 % 4 == 0) = true := by simpa using k1
    go_wp2
    have e1 : cellN N = ⟨⟨#[]⟩, true, 1 + N % 7, 0⟩ := by unfold cellN; rw [if_pos k1]
    rw [e1]
    refine bodyPost_ret (v := (.agg #[.string (⟨⟨#[]⟩, true, 1 + N % 7, 0⟩ : Cl).val, .bool (⟨⟨#[]⟩, true, 1 + N % 7, 0⟩ : Cl).dead, .int .i64 (⟨⟨#[]⟩, true, 1 + N % 7, 0⟩ : Cl).at_, .int .i64 (⟨⟨#[]⟩, true, 1 + N % 7, 0⟩ : Cl).fin])) (by simp [results, Tryd.results149, go_sem]) rfl ⟨rfl, v', ((Ext.refl _).alloc _).alloc _, hin'⟩
  · have h1 : (N / 7 % 4 == 0) = false := by simpa using k1
    by_cases k2 : N / 84 % 4 = 0
    · have h2 : (N / 84 % 4 == 0) = true := by simpa using k2
      go_wp2
      have e1 : cellN N = ⟨(⟨#[120, 121, 122]⟩ : ByteArray).extract (N / 28 % 3).toNat (N / 28 % 3 + 1).toNat, false, 1 + N % 7, 1 + N / 336 % 10⟩ := by unfold cellN; rw [if_neg k1, if_pos k2]
      rw [e1]
      refine bodyPost_ret (v := (.agg #[.string (⟨(⟨#[120, 121, 122]⟩ : ByteArray).extract (N / 28 % 3).toNat (N / 28 % 3 + 1).toNat, false, 1 + N % 7, 1 + N / 336 % 10⟩ : Cl).val, .bool (⟨(⟨#[120, 121, 122]⟩ : ByteArray).extract (N / 28 % 3).toNat (N / 28 % 3 + 1).toNat, false, 1 + N % 7, 1 + N / 336 % 10⟩ : Cl).dead, .int .i64 (⟨(⟨#[120, 121, 122]⟩ : ByteArray).extract (N / 28 % 3).toNat (N / 28 % 3 + 1).toNat, false, 1 + N % 7, 1 + N / 336 % 10⟩ : Cl).at_, .int .i64 (⟨(⟨#[120, 121, 122]⟩ : ByteArray).extract (N / 28 % 3).toNat (N / 28 % 3 + 1).toNat, false, 1 + N % 7, 1 + N / 336 % 10⟩ : Cl).fin])) (by simp [results, Tryd.results149, go_sem]) rfl ⟨rfl, v', ((Ext.refl _).alloc _).alloc _, hin'⟩
    · have h2 : (N / 84 % 4 == 0) = false := by simpa using k2
      go_wp2
      have e1 : cellN N = ⟨(⟨#[120, 121, 122]⟩ : ByteArray).extract (N / 28 % 3).toNat (N / 28 % 3 + 1).toNat, false, 1 + N % 7, 0⟩ := by unfold cellN; rw [if_neg k1, if_neg k2]
      rw [e1]
      refine bodyPost_ret (v := (.agg #[.string (⟨(⟨#[120, 121, 122]⟩ : ByteArray).extract (N / 28 % 3).toNat (N / 28 % 3 + 1).toNat, false, 1 + N % 7, 0⟩ : Cl).val, .bool (⟨(⟨#[120, 121, 122]⟩ : ByteArray).extract (N / 28 % 3).toNat (N / 28 % 3 + 1).toNat, false, 1 + N % 7, 0⟩ : Cl).dead, .int .i64 (⟨(⟨#[120, 121, 122]⟩ : ByteArray).extract (N / 28 % 3).toNat (N / 28 % 3 + 1).toNat, false, 1 + N % 7, 0⟩ : Cl).at_, .int .i64 (⟨(⟨#[120, 121, 122]⟩ : ByteArray).extract (N / 28 % 3).toNat (N / 28 % 3 + 1).toNat, false, 1 + N % 7, 0⟩ : Cl).fin])) (by simp [results, Tryd.results149, go_sem]) rfl ⟨rfl, v', ((Ext.refl _).alloc _).alloc _, hin'⟩

/-! ### The same, whether or not numbers are left -/
theorem grownBy_set {w : World} (p : Nat) (v : Value) : w.grownBy (w.setCell ⟨p, 0, none⟩ v) (some p) :=
  ⟨rfl, rfl, rfl, by rw [Deep.nblk_setCell]; exact Nat.le_refl _, fun k _ hne => Deep.blk_setCell_other _ _ _ _ (fun e => hne (by rw [e]))⟩
theorem grownBy_refl (w : World) (r : Option Nat) : w.grownBy w r := ⟨rfl, rfl, rfl, Nat.le_refl _, fun _ _ _ => rfl⟩
theorem grownBy_ext {a b c : World} {r : Option Nat} (h : a.grownBy b r) (hE : Ext b c) : a.grownBy c r :=
  ⟨hE.os.trans h.os, hE.tape.trans h.tape, hE.output.trans h.output, Nat.le_trans h.size hE.size, fun k hk hne => (hE.block k (Nat.lt_of_lt_of_le hk h.size)).trans (h.block k hk hne)⟩
theorem ext_grownBy {a b c : World} {r : Option Nat} (hE : Ext a b) (h : b.grownBy c r) : a.grownBy c r :=
  ⟨h.os.trans hE.os, h.tape.trans hE.tape, h.output.trans hE.output, Nat.le_trans hE.size h.size, fun k hk hne => (h.block k (Nat.lt_of_lt_of_le hk hE.size) hne).trans (hE.block k hk)⟩
theorem grownBy_trans {a b c : World} {r : Option Nat} (h : a.grownBy b r) (k : b.grownBy c r) : a.grownBy c r :=
  ⟨k.os.trans h.os, k.tape.trans h.tape, k.output.trans h.output, Nat.le_trans h.size k.size, fun i hi hne => (k.block i (Nat.lt_of_lt_of_le hi h.size) hne).trans (h.block i hi hne)⟩

set_option maxHeartbeats 400000 in
theorem next_gen (W : World) (p : Nat) (hp : W.heap.size ≤ p) (v : Value) (l : List Int) (hin : IntsIn W v .i64 l) (n : Int) (h1 : 1 ≤ n) (h2 : n ≤ 9223372036854775807)
    (w : World) (hE : Ext W w) (hv : BoxAt w p #[v] 95) :
    Calls Tryd.prog 115 #[.pointer (some ⟨p, 0, none⟩), .int .i64 n] w fun e w' => e = .returned (.int .i64 (nextN l n)) ∧ w.grownBy w' (some p) ∧ ∃ v', BoxAt w' p #[v'] 95 ∧ IntsIn W v' .i64 l.tail := by
  cases l with
  | cons x l =>
    refine (next_any W p hp v x l hin n h1 h2 w hE hv).mono ?_
    rintro e w' ⟨rfl, v', rfl, hin'⟩
    exact ⟨rfl, grownBy_set p v', v', hv.set 0 v', hin'⟩
  | nil =>
    have hin0 := hin
    obtain ⟨a, c, rfl, hc, hcm, ha⟩ := hin.block
    have c0 := hv.cell 0
    simp at c0
    go_enter Tryd.func115, Tryd.ntmps115
    go_wp2
    go_ret
    exact ⟨rfl, grownBy_refl w _, _, hv, hin0⟩
end Go.Proofs.YtdkkbglfipkmdaaDoor

/- Rows by numbers: L.Cell whatever numbers are left; Names. -/
namespace Go.Proofs.YtdkkbglfipkmdaaDoor
open Go Go.RowKit
attribute [local go_sem] yields yUpon

theorem next_nil (p : Nat) (w : World) (hv : BoxAt w p #[.slice none 0 0] 95) (n : Int) :
    Calls Tryd.prog 115 #[.pointer (some ⟨p, 0, none⟩), .int .i64 n] w fun e w' => e = .returned (.int .i64 0) ∧ w = w' := by
  have c0 := hv.cell 0
  simp at c0
  go_enter Tryd.func115, Tryd.ntmps115
  go_wp2
  go_ret
  exact ⟨rfl, rfl⟩
theorem next_nil' (W : World) (p : Nat) (v : Value) (hin : IntsIn W v .i64 []) (w : World) (hv : BoxAt w p #[v] 95) (n : Int) :
    Calls Tryd.prog 115 #[.pointer (some ⟨p, 0, none⟩), .int .i64 n] w fun e w' => e = .returned (.int .i64 0) ∧ w = w' := by
  obtain ⟨a, c, rfl, hc, hcm, ha⟩ := hin.block
  have c0 := hv.cell 0
  simp at c0
  go_enter Tryd.func115, Tryd.ntmps115
  go_wp2
  go_ret
  exact ⟨rfl, rfl⟩

set_option maxHeartbeats 1000000 in
theorem lcell_nil (W : World) (p : Nat) (v : Value) (hin : IntsIn W v .i64 []) (w : World) (hv : BoxAt w p #[v] 95) :
    Calls Tryd.prog 149 #[.pointer (some ⟨p, 0, none⟩)] w fun e w' => e = .returned (.agg #[.string (cellN 0).val, .bool (cellN 0).dead, .int .i64 (cellN 0).at_, .int .i64 (cellN 0).fin]) ∧ Ext w w' := by
  go_enter Tryd.func149, Tryd.ntmps149
  go_wp2_with fail
  refine (next_nil' W p v hin _ (hv.ext ((Ext.refl _).alloc _)) _).mono ?_
  rintro e w1 ⟨rfl, rfl⟩
  go_wp2
  refine bodyPost_ret (v := (.agg #[.string (cellN 0).val, .bool (cellN 0).dead, .int .i64 (cellN 0).at_, .int .i64 (cellN 0).fin])) (by simp [results, Tryd.results149, go_sem, cellN]) rfl ⟨rfl, ((Ext.refl _).alloc _).alloc _⟩

/-- The numbers that are left: any. -/
def LeftIn (W w : World) (p : Nat) : Prop := ∃ v l, BoxAt w p #[v] 95 ∧ IntsIn W v .i64 l

theorem lcell_ex (W : World) (p : Nat) (hp : W.heap.size ≤ p) (w : World) (hE : Ext W w) (hL : LeftIn W w p) :
    Calls Tryd.prog 149 #[.pointer (some ⟨p, 0, none⟩)] w fun e w' => ∃ n : Int, 0 ≤ n ∧ e = .returned (.agg #[.string (cellN n).val, .bool (cellN n).dead, .int .i64 (cellN n).at_, .int .i64 (cellN n).fin]) ∧ w.grownBy w' (some p) ∧ LeftIn W w' p := by
  obtain ⟨v, l, hv, hin⟩ := hL
  cases l with
  | nil =>
    refine (lcell_nil W p v hin w hv).mono ?_
    rintro e w' ⟨rfl, hX⟩
    exact ⟨0, Int.le_refl 0, rfl, grownBy_ext (grownBy_refl w _) hX, v, [], hv.ext hX, hin⟩
  | cons x l =>
    refine (lcell_any W p hp v x l hin w hE hv).mono ?_
    rintro e w' ⟨rfl, v', hX, hin'⟩
    exact ⟨x % 1048576, by omega, rfl, grownBy_ext (grownBy_set p v') hX, v', l, (hv.set 0 v').ext hX, hin'⟩
theorem next_ex (W : World) (p : Nat) (hp : W.heap.size ≤ p) (w : World) (hE : Ext W w) (hL : LeftIn W w p) :
    Calls Tryd.prog 115 #[.pointer (some ⟨p, 0, none⟩), .int .i64 1048576] w fun e w' => ∃ n : Int, 0 ≤ n ∧ n < 1048576 ∧ e = .returned (.int .i64 n) ∧ w.grownBy w' (some p) ∧ LeftIn W w' p := by
  obtain ⟨v, l, hv, hin⟩ := hL
  refine (next_gen W p hp v l hin 1048576 (by omega) (by omega) w hE hv).mono ?_
  rintro e w' ⟨rfl, hg, v', hb, hin'⟩
  refine ⟨nextN l 1048576, ?_, ?_, rfl, hg, v', l.tail, hb, hin'⟩
  · cases l with
    | nil => exact Int.le_refl 0
    | cons x l => show 0 ≤ x % 1048576; omega
  · cases l with
    | nil => show (0 : Int) < 1048576; omega
    | cons x l => show x % 1048576 < 1048576; omega

/-- The names of columns. -/
def nm4 : Array Value := #[.string ⟨#[97]⟩, .string ⟨#[98]⟩, .string ⟨#[99]⟩, .string ⟨#[100]⟩]
set_option maxHeartbeats 1000000 in
theorem names_any (w : World) :
    Calls Tryd.prog 148 #[] w fun e w' => e = .returned (.slice (some ⟨w.heap.size, 0, none⟩) 4 4) ∧ w' = w.alloc (.cells nm4 9) := by
  go_enter Tryd.func148, Tryd.ntmps148
  go_wp2
  go_ret
  exact ⟨rfl, rfl⟩

def nmK : Nat → ByteArray
  | 0 => ⟨#[97]⟩
  | 1 => ⟨#[98]⟩
  | 2 => ⟨#[99]⟩
  | _ => ⟨#[100]⟩
/-- Columns by numbers, of the first so many names. -/
inductive GenCols : Nat → List Co → Prop
  | nil : GenCols 0 []
  | skip {k l} : GenCols k l → GenCols (k + 1) l
  | put {k l} {n : Int} : GenCols k l → 0 ≤ n → GenCols (k + 1) (l ++ [⟨nmK k, cellN n⟩])
theorem GenCols.len {k : Nat} {l : List Co} (h : GenCols k l) : l.length ≤ k := by
  induction h with
  | nil => exact Nat.le_refl 0
  | skip _ ih => omega
  | put _ _ ih => simp; omega
end Go.Proofs.YtdkkbglfipkmdaaDoor
