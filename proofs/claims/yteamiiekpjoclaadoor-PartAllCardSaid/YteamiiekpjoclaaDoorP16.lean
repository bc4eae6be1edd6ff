/- Place: any number as one below another. -/
import Derived.Test.YteamiiekpjoclaaDoorP1
import Derived.Test.YteamiiekpjoclaaDoorP10
import Derived.Test.YteamiiekpjoclaaDoorProg
import Derived.Test.YteamiiekpjoclaaDoorP15
import Derived.Test.YteamiiekpjoclaaDoorP2
import Derived.Test.YteamiiekpjoclaaDoorP12
import Derived.Laws.MakeOwn
import Derived.OwnWalk
set_option linter.unusedSimpArgs false
set_option linter.unusedVariables false
namespace Go.Proofs.YteamiiekpjoclaaDoor
open Go Go.RowKit

set_option maxHeartbeats 400000 in
theorem place_any (v n : Int) (h : 1 ≤ n) (hn : n ≤ 9223372036854775807) (w : World) :
    Calls Tryd.prog 15 #[.int .i64 v, .int .i64 n] w fun e w' => e = .returned (.int .i64 (v % n)) ∧ w = w' := by
  have hlo := (tmod_lo (v := v) h).1
  have hhi := (tmod_lo (v := v) h).2
  by_cases h0 : v.tmod n < 0
  · have HE := Lib.hid (tmod_neg h h0)
    go_enter Tryd.func15, Tryd.ntmps15
    go_wp2
    go_ret
    exact ⟨ret_int HE.out, rfl⟩
  · have h0' : 0 ≤ v.tmod n := by omega
    have HE := Lib.hid (tmod_pos h h0')
    go_enter Tryd.func15, Tryd.ntmps15
    go_wp2
    go_ret
    exact ⟨ret_int HE.out, rfl⟩

end Go.Proofs.YteamiiekpjoclaaDoor

/- What makes things by numbers: L.Next, L.Cell. -/
namespace Go.Proofs.YteamiiekpjoclaaDoor
open Go Go.RowKit
attribute [local go_sem] yields yUpon

/-- The next number, the numbers behind it. -/
def nextN (l : List Int) (n : Int) : Int := match l with | [] => 0 | x :: _ => x % n
theorem IntsIn.block {w : World} {v : Value} {k : IntKind} {l : List Int} (h : IntsIn w v k l) : ∃ a c, v = .slice a l.length c ∧ l.length ≤ c ∧ c ≤ maxLen ∧ (a = none → c = 0) := by
  obtain ⟨a, c, h1, h2, h3, h4, _⟩ := h
  exact ⟨a, c, h1, h2, h3, h4⟩

theorem ints_tail {W : World} {b o c : Nat} {x : Int} {l : List Int} {k : IntKind} (hcm : c ≤ maxLen) (hcell : ∀ j u, (kcells k (x :: l))[j]? = some u → ∃ b' o', (some ⟨b, o, none⟩ : Option Addr) = some ⟨b', o', none⟩ ∧ W.cell? ⟨b', o' + j, none⟩ = some u) (hc : l.length + 1 ≤ c) :
    IntsIn W (.slice (some ⟨b, o + 1, none⟩) l.length (c - 1)) k l :=
  ⟨_, c - 1, rfl, by omega, by omega, nofun, fun j u hj => by
    obtain ⟨b', o', e, hc⟩ := hcell (j + 1) u (by simpa [kcells] using hj)
    cases e
    exact ⟨b, o + 1, rfl, by rw [show o + 1 + j = o + (j + 1) by omega]; exact hc⟩⟩

set_option maxHeartbeats 400000 in
theorem next_any (W : World) (p : Nat) (hp : W.heap.size ≤ p) (v : Value) (x : Int) (l : List Int) (hin : IntsIn W v .i64 (x :: l)) (n : Int) (h1 : 1 ≤ n) (h2 : n ≤ 9223372036854775807)
    (w : World) (hE : Ext W w) (hv : w.heap[p]? = some (.cells #[v] 62 (0, 0))) :
    Calls Tryd.prog 72 #[.pointer (some ⟨p, 0, none⟩), .int .i64 n] w fun e w' => e = .returned (.int .i64 (x % n)) ∧ ∃ v', w' = w.setCell ⟨p, 0, none⟩ v' ∧ IntsIn W v' .i64 l := by
  obtain ⟨a, c, rfl, hc, hcm, ha, hcell⟩ := hin
  obtain ⟨b, o, rfl, h0⟩ := hcell 0 (.int .i64 x) (by simp [kcells])
  have c0 := var_cell hv 0
  have f0 := var_free hv 0
  simp at c0
  have g0 := hE.cell h0
  simp at g0 hc
  unfold maxLen at hcm
  have HC := Lib.hid hcell
  clear hcell ha h0
  go_enter Tryd.func72, Tryd.ntmps72
  go_wp2_with fail
  refine (place_any _ _ h1 h2 _).mono ?_
  rintro e w1 ⟨rfl, rfl⟩
  go_wp2_with fail
  · subst h
    obtain rfl : l = [] := List.eq_nil_of_length_eq_zero (by omega)
    go_ret
    exact ⟨rfl, _, rfl, ⟨_, 0, rfl, Nat.le_refl _, Nat.zero_le _, nofun, fun j u hj => by simp [kcells] at hj⟩⟩
  · go_ret
    exact ⟨rfl, _, rfl, ints_tail (by unfold maxLen; omega) HC.out hc⟩

/-- A cell by a number. -/
def cellN (v : Int) : Cl := if v / 7 % 4 = 0 then ⟨⟨#[]⟩, true, 1 + v % 7, 0⟩ else ⟨(⟨#[120, 121, 122]⟩ : ByteArray).extract (v / 28 % 3).toNat (v / 28 % 3 + 1).toNat, false, 1 + v % 7, if v / 84 % 4 = 0 then 1 + v / 336 % 10 else 0⟩

set_option maxHeartbeats 1000000 in
theorem lcell_any (W : World) (p : Nat) (hp : W.heap.size ≤ p) (v : Value) (x : Int) (l : List Int) (hin : IntsIn W v .i64 (x :: l))
    (w : World) (hE : Ext W w) (hv : w.heap[p]? = some (.cells #[v] 62 (0, 0))) :
    Calls Tryd.prog 73 #[.pointer (some ⟨p, 0, none⟩)] w fun e w' => e = .returned (.agg #[.string (cellN (x % 1048576)).val, .bool (cellN (x % 1048576)).dead, .int .i64 (cellN (x % 1048576)).at_, .int .i64 (cellN (x % 1048576)).fin]) ∧ ∃ v', Ext (w.setCell ⟨p, 0, none⟩ v') w' ∧ IntsIn W v' .i64 l := by
  have hpl : p < w.heap.size := (Array.getElem?_eq_some_iff.1 hv).1
  obtain ⟨N, hN⟩ : ∃ N, N = x % 1048576 := ⟨_, rfl⟩
  have N0 : 0 ≤ N := by omega
  have N1 : N < 1048576 := by omega
  rw [← hN]
  have HN := Lib.hid hN
  clear hN
  go_enter Tryd.func73, Tryd.ntmps73
  go_wp2_with fail
  refine (next_any W p hp v x l hin _ (by omega) (by omega) _ (hE.alloc _) (by rw [((Ext.refl w).alloc _).block p hpl]; exact hv)).mono ?_
  rw [← HN.out]
  rintro e w1 ⟨rfl, v', rfl, hin'⟩
  by_cases k1 : N / 7 % 4 = 0
  · have h1 : (N / 7 % 4 == 0) = true := by simpa using k1
    go_wp2
    have e1 : cellN N = ⟨⟨#[]⟩, true, 1 + N % 7, 0⟩ := by unfold cellN; rw [if_pos k1]
    rw [e1]
    refine bodyPost_ret (v := (.agg #[.string (⟨⟨#[]⟩, true, 1 + N % 7, 0⟩ : Cl).val, .bool (⟨⟨#[]⟩, true, 1 + N % 7, 0⟩ : Cl).dead, .int .i64 (⟨⟨#[]⟩, true, 1 + N % 7, 0⟩ : Cl).at_, .int .i64 (⟨⟨#[]⟩, true, 1 + N % 7, 0⟩ : Cl).fin])) (by simp [results, Tryd.results73, go_sem]) rfl ⟨rfl, v', ((Ext.refl _).alloc _).alloc _, hin'⟩
  · have h1 : (N / 7 % 4 == 0) = false := by simpa using k1
    by_cases k2 : N / 84 % 4 = 0
    · have h2 : (N / 84 % 4 == 0) = true := by simpa using k2
      go_wp2
      have e1 : cellN N = ⟨(⟨#[120, 121, 122]⟩ : ByteArray).extract (N / 28 % 3).toNat (N / 28 % 3 + 1).toNat, false, 1 + N % 7, 1 + N / 336 % 10⟩ := by unfold cellN; rw [if_neg k1, if_pos k2]
      rw [e1]
      refine bodyPost_ret (v := (.agg #[.string (⟨(⟨#[120, 121, 122]⟩ : ByteArray).extract (N / 28 % 3).toNat (N / 28 % 3 + 1).toNat, false, 1 + N % 7, 1 + N / 336 % 10⟩ : Cl).val, .bool (⟨(⟨#[120, 121, 122]⟩ : ByteArray).extract (N / 28 % 3).toNat (N / 28 % 3 + 1).toNat, false, 1 + N % 7, 1 + N / 336 % 10⟩ : Cl).dead, .int .i64 (⟨(⟨#[120, 121, 122]⟩ : ByteArray).extract (N / 28 % 3).toNat (N / 28 % 3 + 1).toNat, false, 1 + N % 7, 1 + N / 336 % 10⟩ : Cl).at_, .int .i64 (⟨(⟨#[120, 121, 122]⟩ : ByteArray).extract (N / 28 % 3).toNat (N / 28 % 3 + 1).toNat, false, 1 + N % 7, 1 + N / 336 % 10⟩ : Cl).fin])) (by simp [results, Tryd.results73, go_sem]) rfl ⟨rfl, v', ((Ext.refl _).alloc _).alloc _, hin'⟩
    · have h2 : (N / 84 % 4 == 0) = false := by simpa using k2
      go_wp2
      have e1 : cellN N = ⟨(⟨#[120, 121, 122]⟩ : ByteArray).extract (N / 28 % 3).toNat (N / 28 % 3 + 1).toNat, false, 1 + N % 7, 0⟩ := by unfold cellN; rw [if_neg k1, if_neg k2]
      rw [e1]
      refine bodyPost_ret (v := (.agg #[.string (⟨(⟨#[120, 121, 122]⟩ : ByteArray).extract (N / 28 % 3).toNat (N / 28 % 3 + 1).toNat, false, 1 + N % 7, 0⟩ : Cl).val, .bool (⟨(⟨#[120, 121, 122]⟩ : ByteArray).extract (N / 28 % 3).toNat (N / 28 % 3 + 1).toNat, false, 1 + N % 7, 0⟩ : Cl).dead, .int .i64 (⟨(⟨#[120, 121, 122]⟩ : ByteArray).extract (N / 28 % 3).toNat (N / 28 % 3 + 1).toNat, false, 1 + N % 7, 0⟩ : Cl).at_, .int .i64 (⟨(⟨#[120, 121, 122]⟩ : ByteArray).extract (N / 28 % 3).toNat (N / 28 % 3 + 1).toNat, false, 1 + N % 7, 0⟩ : Cl).fin])) (by simp [results, Tryd.results73, go_sem]) rfl ⟨rfl, v', ((Ext.refl _).alloc _).alloc _, hin'⟩

/-! ### The same, whether or not numbers are left -/
theorem grownBy_set {w : World} (p : Nat) (v : Value) : w.grownBy (w.setCell ⟨p, 0, none⟩ v) (some p) :=
  ⟨rfl, rfl, rfl, by rw [Deep.nblk_setCell]; exact Nat.le_refl _, fun k _ hne => Deep.blk_setCell_other _ _ _ _ (fun e => hne (by rw [e]))⟩
theorem grownBy_refl (w : World) (r : Option Nat) : w.grownBy w r := ⟨rfl, rfl, rfl, Nat.le_refl _, fun _ _ _ => rfl⟩
theorem grownBy_ext {a b c : World} {r : Option Nat} (h : a.grownBy b r) (hE : Ext b c) : a.grownBy c r :=
  ⟨hE.os.trans h.os, hE.tape.trans h.tape, hE.output.trans h.output, Nat.le_trans h.size hE.size, fun k hk hne => (hE.block k (Nat.lt_of_lt_of_le hk h.size)).trans (h.block k hk hne)⟩
theorem ext_grownBy {a b c : World} {r : Option Nat} (hE : Ext a b) (h : b.grownBy c r) : a.grownBy c r :=
  ⟨h.os.trans hE.os, h.tape.trans hE.tape, h.output.trans hE.output, Nat.le_trans hE.size h.size, fun k hk hne => (h.block k (Nat.lt_of_lt_of_le hk hE.size) hne).trans (hE.block k hk)⟩
theorem grownBy_trans {a b c : World} {r : Option Nat} (h : a.grownBy b r) (k : b.grownBy c r) : a.grownBy c r :=
  ⟨k.os.trans h.os, k.tape.trans h.tape, k.output.trans h.output, Nat.le_trans h.size k.size, fun i hi hne => (k.block i (Nat.lt_of_lt_of_le hi h.size) hne).trans (h.block i hi hne)⟩

set_option maxHeartbeats 400000 in
theorem next_gen (W : World) (p : Nat) (hp : W.heap.size ≤ p) (v : Value) (l : List Int) (hin : IntsIn W v .i64 l) (n : Int) (h1 : 1 ≤ n) (h2 : n ≤ 9223372036854775807)
    (w : World) (hE : Ext W w) (hv : BoxAt w p #[v] 62) :
    Calls Tryd.prog 72 #[.pointer (some ⟨p, 0, none⟩), .int .i64 n] w fun e w' => e = .returned (.int .i64 (nextN l n)) ∧ w.grownBy w' (some p) ∧ ∃ v', BoxAt w' p #[v'] 62 ∧ IntsIn W v' .i64 l.tail := by
  cases l with
  | cons x l =>
    refine (next_any W p hp v x l hin n h1 h2 w hE hv).mono ?_
    rintro e w' ⟨rfl, v', rfl, hin'⟩
    exact ⟨rfl, grownBy_set p v', v', hv.set 0 v', hin'⟩
  | nil =>
    have hin0 := hin
    obtain ⟨a, c, rfl, hc, hcm, ha⟩ := hin.block
    have c0 := hv.cell 0
    simp at c0
    go_enter Tryd.func72, Tryd.ntmps72
    go_wp2
    go_ret
    exact ⟨rfl, grownBy_refl w _, _, hv, hin0⟩
end Go.Proofs.YteamiiekpjoclaaDoor

/- row.Merge over columns. -/
namespace Go.Proofs.YteamiiekpjoclaaDoor
open Go Go.RowKit
attribute [local go_sem] yields yUpon co5

theorem ColsIn.uncons {w : World} {v : Value} {l : List Co} (h : ColsIn w v l) (hl : 0 < l.length) : ∃ b o c A l', l = A :: l' ∧ v = .slice (some ⟨b, o, none⟩) l.length c ∧ l.length ≤ c ∧ c ≤ 9223372036854775807 ∧ CoAt w b o A ∧ ColsIn w (.slice (if c = 1 then some ⟨b, o, none⟩ else some ⟨b, o + 5, none⟩) (l.length - 1) (c - 1)) l' := by
  obtain ⟨a, c, rfl, hc, hcm, hg⟩ := h.get
  obtain ⟨b, o, rfl, h0⟩ := hg 0 hl
  cases l with
  | nil => cases hl
  | cons A l' =>
    refine ⟨b, o, c, A, l', rfl, rfl, hc, hcm, by simpa using h0, ?_⟩
    obtain ⟨a', c', e, hc', hcm', ha', hcell⟩ := h
    cases e
    refine ⟨if c = 1 then some ⟨b, o, none⟩ else some ⟨b, o + 5, none⟩, c - 1, by simp, by simp at hc' ⊢; omega, by unfold maxLen; omega, (by intro h; split at h <;> cases h), fun j u hj => ?_⟩
    obtain ⟨b', o', e, hx⟩ := hcell (j + 5) u (by simpa [coCells] using hj)
    cases e
    by_cases h1 : c = 1
    · have h2 : l' = [] := List.eq_nil_of_length_eq_zero (by simp at hc'; omega)
      subst h2
      cases hj
    · rw [if_neg h1]
      exact ⟨b, o + 5, rfl, by rw [Nat.add_assoc, Nat.add_comm 5 j]; exact hx⟩

/-- What stays true in a round's region: the row under way may be appended to. -/
structure MC (w wr : World) (vo : Value) (out : List Co) (x : World) : Prop where
  ext : Ext w x
  own : x.ownsRow w.heap.size 80 5 vo out.length (coCells out)
  size : wr.heap.size ≤ x.heap.size
theorem MC.ext' {w wr : World} {vo : Value} {out : List Co} {x y : World} (hE : Ext x y) (h : MC w wr vo out x) : MC w wr vo out y := ⟨h.ext.trans hE, ownsRow_ext h.own hE, Nat.le_trans h.size hE.le⟩
def ME (vo : Value) (n j : Nat) (x y : World) : Prop := if j = n then x.grownBy y vo.ownBlock else Ext x y
theorem ME_ext {vo : Value} {n j : Nat} {x y : World} (h : Ext x y) : ME vo n j x y := by
  unfold ME
  split
  · exact grownBy_ext (grownBy_refl x _) h
  · exact h
theorem ME_off {vo : Value} {n j : Nat} (hj : j ≠ n) {x y : World} (h : ME vo n j x y) : Ext x y := by
  unfold ME at h
  rwa [if_neg hj] at h
theorem ME_box {w wr : World} {vo : Value} {n j m s : Nat} {T : TypeId} {xs : List Value} (hown : wr.ownsRow w.heap.size T s vo m xs) {x y : World} (h : ME vo n j x y) {b : Nat} (hb : wr.heap.size ≤ b) {cs : Array Value} {e : TypeId} (hx : BoxAt x b cs e) : BoxAt y b cs e := by
  unfold ME at h
  split at h
  · exact hx.grown h (fun e => by have := (hown.lt _ e.symm).2; omega)
  · exact hx.ext h

set_option maxRecDepth 100000 in
set_option maxHeartbeats 4000000 in
theorem mergeCo_any (va vb : Value) (la lb : List Co) (w : World) (ha : ColsIn w va la) (hb : ColsIn w vb lb) (hlen : la.length + lb.length ≤ 1000000) :
    Calls Tryd.prog 59 #[va, vb, .func (.func 60) #[] #[], .func (.func 62) #[] #[]] w fun e w' => ∃ v', e = .returned v' ∧ w'.ownsRow w.heap.size 80 5 v' (mergeCo la lb).length (coCells (mergeCo la lb)) ∧ Ext w w' := by
  obtain ⟨i0, hi, hz0, hz1, hz2⟩ := info_parts info_Col
  obtain ⟨aa, ca, rfl, hca, hcma, _⟩ := ha.get
  obtain ⟨ab, cb, rfl, hcb, hcmb, _⟩ := hb.get
  go_enter Tryd.func59, Tryd.ntmps59
  go_wp2_with (at_make; go_must (refine wpList_make_own _ rfl _ _ 24 rfl w.heap.size 80 i0 _ 5 und_Cols hi hz0 hz1 _ _ _ (la.length + lb.length) rfl rfl (by omega) ?b2 ?b3 (Nat.le_refl _) ?_))
  case b2 => rw [hz2]; omega
  case b3 => unfold maxLen; omega
  intro w0 hown0 hgrow0
  go_wp2
  go_loopw [0, 1, 9] (fun sa sb so wr => ∃ (l m out : List Co), ColsIn w sa l ∧ ColsIn w sb m ∧ wr.ownsRow w.heap.size 80 5 so out.length (coCells out) ∧ Ext w wr ∧ Hid (mergeCo la lb = out ++ mergeCo l m) ∧ out.length + l.length + m.length ≤ la.length + lb.length) (fun sa sb _ _ => lenOf sa + lenOf sb)
  case atStart => exact ⟨la, lb, [], ha, hb, hown0, (Ext.refl w).grown hgrow0 (fun q hq => by cases hq), rfl, by simp⟩
  case round =>
    obtain ⟨l, m, out, hl, hm, hown, hE, HM, hsum⟩ := hrel
    by_cases h1 : 0 < l.length
    · by_cases h2 : 0 < m.length
      · obtain ⟨b1, o1, c1, A, l', hll, rfl, hc1, hcm1, hA, hl'⟩ := hl.uncons h1
        obtain ⟨b2, o2, c2, B, m', hmm, rfl, hc2, hcm2, hB, hm'⟩ := hm.uncons h2
        have h1' : decide ((0 : Int) < (l.length : Int)) = true := decide_eq_true (by omega)
        have h2' : decide ((0 : Int) < (m.length : Int)) = true := decide_eq_true (by omega)
        have HL := Lib.hid hll
        have HN := Lib.hid hmm
        clear hll hmm
        go_wp2_with fail
        refine wp_region_in 9 [(7, fun v _ => v = .int .i64 (keyC A B))] (fun x => Ext w x ∧ wr.heap.size ≤ x.heap.size ∧ x.ownsRow w.heap.size 80 5 u9 out.length (coCells out)) (by kernel_rfl) (by kernel_rfl) (by kernel_rfl) ⟨stays_eq _, trivial⟩ ⟨hE, Nat.le_refl _, hown⟩ ?_
        clear hE
        rintro w1 ⟨hE, hle, hown1⟩
        have FIN : Hid (∀ wx, Ext w1 wx → Ext w wx ∧ wr.heap.size ≤ wx.heap.size ∧ wx.ownsRow w.heap.size 80 5 u9 out.length (coCells out)) := fun wx h => ⟨hE.trans h, Nat.le_trans hle h.le, ownsRow_ext hown1 h⟩
        obtain ⟨x0, x1, x2, x3, x4⟩ := hA.ext hE
        obtain ⟨y0, y1, y2, y3, y4⟩ := hB.ext hE
        replace x0 := held x0
        replace x1 := held x1
        replace x2 := held x2
        replace x3 := held x3
        replace x4 := held x4
        replace y0 := held y0
        replace y1 := held y1
        replace y2 := held y2
        replace y3 := held y3
        replace y4 := held y4
        clear hE hle hown1
        refine rg_quiet rfl rfl rfl rfl ?_; intro K hK; go_big_quiet_op; go_big_quiet_on
        refine rg_quiet rfl rfl rfl rfl ?_; intro K hK; go_big_quiet_op; go_big_quiet_on
        refine rg_quiet rfl rfl rfl rfl ?_; intro K hK; go_big_quiet_op; go_big_quiet_on
        refine rg_quiet rfl rfl rfl rfl ?_; intro K hK; go_big_quiet_op; go_big_quiet_on
        refine rg_quiet rfl rfl rfl rfl ?_; intro K hK; go_big_quiet_op; go_big_quiet_on
        refine rg_quiet rfl rfl rfl rfl ?_; intro K hK; go_big_quiet_op; go_big_quiet_on
        refine rg_quiet rfl rfl rfl rfl ?_; intro K hK; go_big_quiet_op; go_big_quiet_on
        refine rg_val [] rfl rfl rfl (by kernel_rfl) (fun w1 hE hf => ?_) ?_
        · go_simp
          exact (rj1_any A B w1).mono fun e w' ⟨he, hw⟩ => ⟨_, he, rg_done hE hw (rfl)⟩
        simp only [Act.put, List.setIfInBounds_toArray, List.set_cons_zero, List.set_cons_succ]
        refine rg_quiet rfl rfl rfl rfl ?_; intro K hK; go_big_quiet_op; go_big_quiet_on
        refine rel_nil fun w2 hE2 _ => ?_
        obtain ⟨hE2', hle, hown2⟩ := FIN.out w2 hE2
        clear x0 x1 x2 x3 x4 y0 y1 y2 y3 y4 FIN hE2
        have hE2 := hE2'
        clear hE2'
        obtain ⟨kc, hkc⟩ : ∃ kc, kc = keyC A B := ⟨_, rfl⟩
        rw [← hkc]
        have HK := Lib.hid hkc
        clear hkc
        have hsz2 : wr.heap.size ≤ w2.heap.size := hle
        by_cases k1 : kc < 0
        · go_wp2_with fail
          refine wp_region_relE (MC w wr u9 out) (ME u9 5) (Tab.atE [(3, fun v _ => v = (.agg #[.string A.name, .string A.cell.val, .bool A.cell.dead, .int .i64 A.cell.at_, .int .i64 A.cell.fin])), (4, fun v x => ∃ b, v = .slice (some ⟨b, 0, none⟩) 1 1 ∧ wr.heap.size ≤ b ∧ BoxAt x b (co5 A) 80), (5, fun v x => x.ownsRow w.heap.size 80 5 v (out.length + 1) (coCells (out ++ [A])))])
            (Tab.staysE ⟨fun _ _ _ _ _ _ h => h, fun j _ v x y hR ⟨b, e, hb, hx⟩ => ⟨b, e, hb, ME_box hown hR hb hx⟩, fun j hj v x y hR h => ownsRow_ext h (ME_off hj hR), trivial⟩)
            12 (by kernel_rfl) (by kernel_rfl) (by kernel_rfl) ((⟨hE2, hown2, hsz2⟩ : MC w wr u9 out w2).ext' (Ext.refl w2).drew) ?_
          refine relE_quiet rfl rfl rfl rfl ?_; intro K hK; go_big_quiet_op; (first | refine ⟨_, fun _ _ => rfl, hK _ ?_⟩ | refine hK _ ?_); clear hK K
          refine relE_quiet rfl rfl rfl rfl ?_; intro K hK; go_big_quiet_op; (first | refine ⟨_, fun _ _ => rfl, hK _ ?_⟩ | refine hK _ ?_); clear hK K
          refine relE_quiet rfl rfl rfl rfl ?_; intro K hK; go_big_quiet_op; (first | refine ⟨_, fun _ _ => rfl, hK _ ?_⟩ | refine hK _ ?_); clear hK K
          refine relE_val [] rfl rfl rfl (by kernel_rfl) (fun z hz hf => ?_) ?_
          · obtain ⟨x0, x1, x2, x3, x4⟩ := hA.ext hz.ext
            go_simp
            exact ⟨hz, ME_ext (Ext.refl z), rfl⟩
          simp only [Act.put, List.setIfInBounds_toArray, List.set_cons_zero, List.set_cons_succ]
          refine relE_fact [] rfl rfl rfl (by kernel_rfl) (fun z hz hf => ?_) (fun v4 z4 hC4 hG4 h4 => ?_)
          · go_simp
            exact ⟨hz.ext' ((Ext.refl z).alloc _), ME_ext ((Ext.refl z).alloc _), _, rfl, hz.size, BoxAt.made z _ _⟩
          obtain ⟨b4, rfl, hb4, _⟩ := h4
          have HB4 := Lib.hid hb4
          clear hC4 hG4 hb4
          simp only [Act.put, List.setIfInBounds_toArray, List.set_cons_zero, List.set_cons_succ]
          refine relE_fact [4] rfl rfl rfl (by kernel_rfl) (fun z hz hf => ?_) (fun v5 z5 hC5 hG5 h5 => ?_)
          · obtain ⟨b, e, _, hbox⟩ := (hf 4 (by simp)).2 rfl
            cases e
            refine yields_append info_Col und_Cols rfl (by decide) (.tmp 51) (.tmp 55) rfl w.heap.size hz.ext.le u9 out.length (coCells out) hz.own (by rfl) b4 1 1 (co5 A).toList (by rfl) (by rfl) (fun j u hj => by rw [hbox.cell j]; simpa using hj) (by simp [co5, Value.oneCell']) (by unfold maxLen; omega) (by omega) ?_
            intro v' y hown' hg hkeep
            refine ⟨⟨hz.ext.grown hg (fun q hq => (hz.own.lt q hq).1), hkeep, Nat.le_trans hz.size hg.size⟩, by unfold ME; rw [if_pos rfl]; exact hg, ?_⟩
            rw [coCells_append]
            exact hown'
          obtain ⟨a5, c5, rfl⟩ := own_shape h5
          clear hC5 hG5 h5
          simp only [Act.put, List.setIfInBounds_toArray, List.set_cons_zero, List.set_cons_succ]
          refine relE_quiet rfl rfl rfl rfl ?_; intro K hK; go_big_quiet_op; (first | refine ⟨_, fun _ _ => rfl, hK _ ?_⟩ | refine hK _ ?_); clear hK K
          refine relE_quiet rfl rfl rfl rfl ?_; intro K hK; go_big_quiet_op; (first | refine ⟨_, fun _ _ => rfl, hK _ ?_⟩ | refine hK _ ?_); clear hK K
          refine relE_quiet rfl rfl rfl rfl ?_; intro K hK; go_big_quiet_op; (first | refine ⟨_, fun _ _ => rfl, hK _ ?_⟩ | refine hK _ ?_); clear hK K
          refine relE_quiet rfl rfl rfl rfl ?_; intro K hK; go_big_quiet_op; (first | refine ⟨_, fun _ _ => rfl, hK _ ?_⟩ | refine hK _ ?_); clear hK K
          refine relE_nil fun w9 hC hG => ?_
          have hown9 := (hG 5).2 rfl
          have hE9 := hC.ext
          clear hC hG HB4 hown hE2 hown2 hsz2
          go_wp2_with fail
          go_roundw
          case rel =>
            refine ⟨l', m, out ++ [A], hl', hm, by rw [List.length_append]; exact hown9, hE9, ?_, by have := congrArg List.length HL.out; simp at this ⊢; omega⟩
            show mergeCo la lb = _
            rw [HM.out, HL.out, HN.out, List.append_assoc]
            unfold mergeCo
            rw [mergeG_lt (by rw [← HK.out]; exact k1)]
            rfl
          case measure => simp [lenOf] <;> omega
        · by_cases k2 : 0 < kc
          · go_wp2_with fail
            refine wp_region_relE (MC w wr u9 out) (ME u9 5) (Tab.atE [(3, fun v _ => v = (.agg #[.string B.name, .string B.cell.val, .bool B.cell.dead, .int .i64 B.cell.at_, .int .i64 B.cell.fin])), (4, fun v x => ∃ b, v = .slice (some ⟨b, 0, none⟩) 1 1 ∧ wr.heap.size ≤ b ∧ BoxAt x b (co5 B) 80), (5, fun v x => x.ownsRow w.heap.size 80 5 v (out.length + 1) (coCells (out ++ [B])))])
              (Tab.staysE ⟨fun _ _ _ _ _ _ h => h, fun j _ v x y hR ⟨b, e, hb, hx⟩ => ⟨b, e, hb, ME_box hown hR hb hx⟩, fun j hj v x y hR h => ownsRow_ext h (ME_off hj hR), trivial⟩)
              12 (by kernel_rfl) (by kernel_rfl) (by kernel_rfl) ((⟨hE2, hown2, hsz2⟩ : MC w wr u9 out w2).ext' (Ext.refl w2).drew) ?_
            refine relE_quiet rfl rfl rfl rfl ?_; intro K hK; go_big_quiet_op; (first | refine ⟨_, fun _ _ => rfl, hK _ ?_⟩ | refine hK _ ?_); clear hK K
            refine relE_quiet rfl rfl rfl rfl ?_; intro K hK; go_big_quiet_op; (first | refine ⟨_, fun _ _ => rfl, hK _ ?_⟩ | refine hK _ ?_); clear hK K
            refine relE_quiet rfl rfl rfl rfl ?_; intro K hK; go_big_quiet_op; (first | refine ⟨_, fun _ _ => rfl, hK _ ?_⟩ | refine hK _ ?_); clear hK K
            refine relE_val [] rfl rfl rfl (by kernel_rfl) (fun z hz hf => ?_) ?_
            · obtain ⟨x0, x1, x2, x3, x4⟩ := hB.ext hz.ext
              go_simp
              exact ⟨hz, ME_ext (Ext.refl z), rfl⟩
            simp only [Act.put, List.setIfInBounds_toArray, List.set_cons_zero, List.set_cons_succ]
            refine relE_fact [] rfl rfl rfl (by kernel_rfl) (fun z hz hf => ?_) (fun v4 z4 hC4 hG4 h4 => ?_)
            · go_simp
              exact ⟨hz.ext' ((Ext.refl z).alloc _), ME_ext ((Ext.refl z).alloc _), _, rfl, hz.size, BoxAt.made z _ _⟩
            obtain ⟨b4, rfl, hb4, _⟩ := h4
            have HB4 := Lib.hid hb4
            clear hC4 hG4 hb4
            simp only [Act.put, List.setIfInBounds_toArray, List.set_cons_zero, List.set_cons_succ]
            refine relE_fact [4] rfl rfl rfl (by kernel_rfl) (fun z hz hf => ?_) (fun v5 z5 hC5 hG5 h5 => ?_)
            · obtain ⟨b, e, _, hbox⟩ := (hf 4 (by simp)).2 rfl
              cases e
              refine yields_append info_Col und_Cols rfl (by decide) (.tmp 62) (.tmp 66) rfl w.heap.size hz.ext.le u9 out.length (coCells out) hz.own (by rfl) b4 1 1 (co5 B).toList (by rfl) (by rfl) (fun j u hj => by rw [hbox.cell j]; simpa using hj) (by simp [co5, Value.oneCell']) (by unfold maxLen; omega) (by omega) ?_
              intro v' y hown' hg hkeep
              refine ⟨⟨hz.ext.grown hg (fun q hq => (hz.own.lt q hq).1), hkeep, Nat.le_trans hz.size hg.size⟩, by unfold ME; rw [if_pos rfl]; exact hg, ?_⟩
              rw [coCells_append]
              exact hown'
            obtain ⟨a5, c5, rfl⟩ := own_shape h5
            clear hC5 hG5 h5
            simp only [Act.put, List.setIfInBounds_toArray, List.set_cons_zero, List.set_cons_succ]
            refine relE_quiet rfl rfl rfl rfl ?_; intro K hK; go_big_quiet_op; (first | refine ⟨_, fun _ _ => rfl, hK _ ?_⟩ | refine hK _ ?_); clear hK K
            refine relE_quiet rfl rfl rfl rfl ?_; intro K hK; go_big_quiet_op; (first | refine ⟨_, fun _ _ => rfl, hK _ ?_⟩ | refine hK _ ?_); clear hK K
            refine relE_quiet rfl rfl rfl rfl ?_; intro K hK; go_big_quiet_op; (first | refine ⟨_, fun _ _ => rfl, hK _ ?_⟩ | refine hK _ ?_); clear hK K
            refine relE_quiet rfl rfl rfl rfl ?_; intro K hK; go_big_quiet_op; (first | refine ⟨_, fun _ _ => rfl, hK _ ?_⟩ | refine hK _ ?_); clear hK K
            refine relE_nil fun w9 hC hG => ?_
            have hown9 := (hG 5).2 rfl
            have hE9 := hC.ext
            clear hC hG HB4 hown hE2 hown2 hsz2
            go_wp2_with fail
            go_roundw
            case rel =>
              refine ⟨l, m', out ++ [B], hl, hm', by rw [List.length_append]; exact hown9, hE9, ?_, by have := congrArg List.length HN.out; simp at this ⊢; omega⟩
              show mergeCo la lb = _
              rw [HM.out, HL.out, HN.out, List.append_assoc]
              unfold mergeCo
              rw [mergeG_gt (by rw [← HK.out]; exact k2)]
              rfl
            case measure => simp [lenOf] <;> omega
          · obtain ⟨J, hJ⟩ : ∃ J, J = joinCo A B := ⟨_, rfl⟩
            have HJ := Lib.hid hJ
            clear hJ
            go_wp2_with fail
            refine wp_region_relE (MC w wr u9 out) (ME u9 10) (Tab.atE [(4, fun v _ => v = (.agg #[.string A.name, .string A.cell.val, .bool A.cell.dead, .int .i64 A.cell.at_, .int .i64 A.cell.fin])), (7, fun v _ => v = (.agg #[.string B.name, .string B.cell.val, .bool B.cell.dead, .int .i64 B.cell.at_, .int .i64 B.cell.fin])), (8, fun v _ => v = (.agg #[.string J.name, .string J.cell.val, .bool J.cell.dead, .int .i64 J.cell.at_, .int .i64 J.cell.fin])), (9, fun v x => ∃ b, v = .slice (some ⟨b, 0, none⟩) 1 1 ∧ wr.heap.size ≤ b ∧ BoxAt x b (co5 J) 80), (10, fun v x => x.ownsRow w.heap.size 80 5 v (out.length + 1) (coCells (out ++ [J])))])
              (Tab.staysE ⟨fun _ _ _ _ _ _ h => h, fun _ _ _ _ _ _ h => h, fun _ _ _ _ _ _ h => h, fun j _ v x y hR ⟨b, e, hb, hx⟩ => ⟨b, e, hb, ME_box hown hR hb hx⟩, fun j hj v x y hR h => ownsRow_ext h (ME_off hj hR), trivial⟩)
              20 (by kernel_rfl) (by kernel_rfl) (by kernel_rfl) ((⟨hE2, hown2, hsz2⟩ : MC w wr u9 out w2).ext' (Ext.refl w2).drew) ?_
            refine relE_quiet rfl rfl rfl rfl ?_; intro K hK; go_big_quiet_op; (first | refine ⟨_, fun _ _ => rfl, hK _ ?_⟩ | refine hK _ ?_); clear hK K
            refine relE_quiet rfl rfl rfl rfl ?_; intro K hK; go_big_quiet_op; (first | refine ⟨_, fun _ _ => rfl, hK _ ?_⟩ | refine hK _ ?_); clear hK K
            refine relE_quiet rfl rfl rfl rfl ?_; intro K hK; go_big_quiet_op; (first | refine ⟨_, fun _ _ => rfl, hK _ ?_⟩ | refine hK _ ?_); clear hK K
            refine relE_quiet rfl rfl rfl rfl ?_; intro K hK; go_big_quiet_op; (first | refine ⟨_, fun _ _ => rfl, hK _ ?_⟩ | refine hK _ ?_); clear hK K
            refine relE_val [] rfl rfl rfl (by kernel_rfl) (fun z hz hf => ?_) ?_
            · obtain ⟨x0, x1, x2, x3, x4⟩ := hA.ext hz.ext
              go_simp
              exact ⟨hz, ME_ext (Ext.refl z), rfl⟩
            simp only [Act.put, List.setIfInBounds_toArray, List.set_cons_zero, List.set_cons_succ]
            refine relE_quiet rfl rfl rfl rfl ?_; intro K hK; go_big_quiet_op; (first | refine ⟨_, fun _ _ => rfl, hK _ ?_⟩ | refine hK _ ?_); clear hK K
            refine relE_quiet rfl rfl rfl rfl ?_; intro K hK; go_big_quiet_op; (first | refine ⟨_, fun _ _ => rfl, hK _ ?_⟩ | refine hK _ ?_); clear hK K
            refine relE_val [] rfl rfl rfl (by kernel_rfl) (fun z hz hf => ?_) ?_
            · obtain ⟨x0, x1, x2, x3, x4⟩ := hB.ext hz.ext
              go_simp
              exact ⟨hz, ME_ext (Ext.refl z), rfl⟩
            simp only [Act.put, List.setIfInBounds_toArray, List.set_cons_zero, List.set_cons_succ]
            refine relE_val [] rfl rfl rfl (by kernel_rfl) (fun z hz hf => ?_) ?_
            · go_simp
              exact (rj2_any A B z).mono fun e y ⟨he, hy⟩ => ⟨_, he, hz.ext' hy, ME_ext hy, by rw [HJ.out]; rfl⟩
            simp only [Act.put, List.setIfInBounds_toArray, List.set_cons_zero, List.set_cons_succ]
            refine relE_fact [] rfl rfl rfl (by kernel_rfl) (fun z hz hf => ?_) (fun v4 z4 hC4 hG4 h4 => ?_)
            · go_simp
              exact ⟨hz.ext' ((Ext.refl z).alloc _), ME_ext ((Ext.refl z).alloc _), _, rfl, hz.size, BoxAt.made z _ _⟩
            obtain ⟨b4, rfl, hb4, _⟩ := h4
            have HB4 := Lib.hid hb4
            clear hC4 hG4 hb4
            simp only [Act.put, List.setIfInBounds_toArray, List.set_cons_zero, List.set_cons_succ]
            refine relE_fact [9] rfl rfl rfl (by kernel_rfl) (fun z hz hf => ?_) (fun v5 z5 hC5 hG5 h5 => ?_)
            · obtain ⟨b, e, _, hbox⟩ := (hf 9 (by simp)).2 rfl
              cases e
              refine yields_append info_Col und_Cols rfl (by decide) (.tmp 33) (.tmp 42) rfl w.heap.size hz.ext.le u9 out.length (coCells out) hz.own (by rfl) b4 1 1 (co5 J).toList (by rfl) (by rfl) (fun j u hj => by rw [hbox.cell j]; simpa using hj) (by simp [co5, Value.oneCell']) (by unfold maxLen; omega) (by omega) ?_
              intro v' y hown' hg hkeep
              refine ⟨⟨hz.ext.grown hg (fun q hq => (hz.own.lt q hq).1), hkeep, Nat.le_trans hz.size hg.size⟩, by unfold ME; rw [if_pos rfl]; exact hg, ?_⟩
              rw [coCells_append]
              exact hown'
            obtain ⟨a5, c5, rfl⟩ := own_shape h5
            clear hC5 hG5 h5
            simp only [Act.put, List.setIfInBounds_toArray, List.set_cons_zero, List.set_cons_succ]
            refine relE_quiet rfl rfl rfl rfl ?_; intro K hK; go_big_quiet_op; (first | refine ⟨_, fun _ _ => rfl, hK _ ?_⟩ | refine hK _ ?_); clear hK K
            refine relE_quiet rfl rfl rfl rfl ?_; intro K hK; go_big_quiet_op; (first | refine ⟨_, fun _ _ => rfl, hK _ ?_⟩ | refine hK _ ?_); clear hK K
            refine relE_quiet rfl rfl rfl rfl ?_; intro K hK; go_big_quiet_op; (first | refine ⟨_, fun _ _ => rfl, hK _ ?_⟩ | refine hK _ ?_); clear hK K
            refine relE_quiet rfl rfl rfl rfl ?_; intro K hK; go_big_quiet_op; (first | refine ⟨_, fun _ _ => rfl, hK _ ?_⟩ | refine hK _ ?_); clear hK K
            refine relE_quiet rfl rfl rfl rfl ?_; intro K hK; go_big_quiet_op; (first | refine ⟨_, fun _ _ => rfl, hK _ ?_⟩ | refine hK _ ?_); clear hK K
            refine relE_quiet rfl rfl rfl rfl ?_; intro K hK; go_big_quiet_op; (first | refine ⟨_, fun _ _ => rfl, hK _ ?_⟩ | refine hK _ ?_); clear hK K
            refine relE_quiet rfl rfl rfl rfl ?_; intro K hK; go_big_quiet_op; (first | refine ⟨_, fun _ _ => rfl, hK _ ?_⟩ | refine hK _ ?_); clear hK K
            refine relE_nil fun w9 hC hG => ?_
            have hown9 := (hG 10).2 rfl
            have hE9 := hC.ext
            clear hC hG HB4 hown hE2 hown2 hsz2
            go_wp2_with fail
            go_roundw
            case rel =>
              refine ⟨l', m', out ++ [J], hl', hm', by rw [List.length_append]; exact hown9, hE9, ?_, by have := congrArg List.length HL.out; have := congrArg List.length HN.out; simp at *; omega⟩
              show mergeCo la lb = _
              rw [HM.out, HL.out, HN.out, List.append_assoc, HJ.out]
              unfold mergeCo
              rw [mergeG_eq (by rw [← HK.out]; omega)]
              rfl
            case measure => simp [lenOf] <;> omega
      · obtain ⟨b1, o1, c1, A, l', hll, rfl, hc1, hcm1, hA, hl'⟩ := hl.uncons h1
        obtain ⟨am, cm, rfl, hcm, hcmm, hgm⟩ := hm.get
        have h1' : decide ((0 : Int) < (l.length : Int)) = true := decide_eq_true (by omega)
        have h2' : decide ((0 : Int) < (m.length : Int)) = false := decide_eq_false (by omega)
        clear hgm hA hl' hll
        have hM : mergeCo la lb = out ++ l ++ m := by
          rw [HM.out]
          have : m = [] := List.eq_nil_of_length_eq_zero (by omega)
          rw [this, List.append_nil]
          unfold mergeCo
          rw [mergeG_nil_right]
        obtain ⟨N, hN⟩ : ∃ N, N = out ++ l ++ m := ⟨_, rfl⟩
        rw [← hN] at hM
        have HN := Lib.hid hN
        have HMM := Lib.hid hM
        clear hN hM
        by_cases hz : N.length = 0
        · have hz' : ((N.length : Int) == 0) = true := by simp [hz]
          go_wp2_with (first
            | (at_builtin; refine appCols wr rfl (.tmp 70) (.tmp 71) rfl w.heap.size hE.le _ out hown (by rfl) _ l (hl.ext hE) (by rfl) (by omega) ?_; intro v3 w3 hown3 hg3; have hE3 := hE.grown hg3 (fun q hq => (hown.lt q hq).1))
            | (at_builtin; refine appCols w3 rfl (.tmp 72) (.tmp 73) rfl w.heap.size hE3.le v3 (out ++ l) hown3 (by rfl) _ m (hm.ext hE3) (by rfl) (by simp; omega) ?_; intro v4 w4 hown4 hg4; have hE4 := hE3.grown hg4 (fun q hq => (hown3.lt q hq).1); rw [← HN.out] at hown4; clear hg3 hg4 hown3 hE3; obtain ⟨a4, c4, rfl⟩ := own_shape hown4))
          go_ret
          rw [HMM.out]
          obtain rfl : N = [] := List.eq_nil_of_length_eq_zero hz
          exact ⟨_, rfl, World.ownsRow_nil _ _ _ _, hE4⟩
        · have hz' : ((N.length : Int) == 0) = false := by simp; intro h; exact hz (by simp [h])
          go_wp2_with (first
            | (at_builtin; refine appCols wr rfl (.tmp 70) (.tmp 71) rfl w.heap.size hE.le _ out hown (by rfl) _ l (hl.ext hE) (by rfl) (by omega) ?_; intro v3 w3 hown3 hg3; have hE3 := hE.grown hg3 (fun q hq => (hown.lt q hq).1))
            | (at_builtin; refine appCols w3 rfl (.tmp 72) (.tmp 73) rfl w.heap.size hE3.le v3 (out ++ l) hown3 (by rfl) _ m (hm.ext hE3) (by rfl) (by simp; omega) ?_; intro v4 w4 hown4 hg4; have hE4 := hE3.grown hg4 (fun q hq => (hown3.lt q hq).1); rw [← HN.out] at hown4; clear hg3 hg4 hown3 hE3; obtain ⟨a4, c4, rfl⟩ := own_shape hown4))
          go_ret
          rw [HMM.out]
          exact ⟨_, rfl, hown4, hE4⟩
    · obtain ⟨al, cl, rfl, hcl, hcml, hgl⟩ := hl.get
      obtain ⟨am, cm, rfl, hcm, hcmm, hgm⟩ := hm.get
      have h1' : decide ((0 : Int) < (l.length : Int)) = false := decide_eq_false (by omega)
      clear hgm hgl
      have hM : mergeCo la lb = out ++ l ++ m := by
        rw [HM.out]
        have : l = [] := List.eq_nil_of_length_eq_zero (by omega)
        rw [this, List.append_nil]
        unfold mergeCo
        rw [mergeG_nil_left]
      obtain ⟨N, hN⟩ : ∃ N, N = out ++ l ++ m := ⟨_, rfl⟩
      rw [← hN] at hM
      have HN := Lib.hid hN
      have HMM := Lib.hid hM
      clear hN hM
      by_cases hz : N.length = 0
      · have hz' : ((N.length : Int) == 0) = true := by simp [hz]
        go_wp2_with (first
          | (at_builtin; refine appCols wr rfl (.tmp 70) (.tmp 71) rfl w.heap.size hE.le _ out hown (by rfl) _ l (hl.ext hE) (by rfl) (by omega) ?_; intro v3 w3 hown3 hg3; have hE3 := hE.grown hg3 (fun q hq => (hown.lt q hq).1))
          | (at_builtin; refine appCols w3 rfl (.tmp 72) (.tmp 73) rfl w.heap.size hE3.le v3 (out ++ l) hown3 (by rfl) _ m (hm.ext hE3) (by rfl) (by simp; omega) ?_; intro v4 w4 hown4 hg4; have hE4 := hE3.grown hg4 (fun q hq => (hown3.lt q hq).1); rw [← HN.out] at hown4; clear hg3 hg4 hown3 hE3; obtain ⟨a4, c4, rfl⟩ := own_shape hown4))
        go_ret
        rw [HMM.out]
        obtain rfl : N = [] := List.eq_nil_of_length_eq_zero hz
        exact ⟨_, rfl, World.ownsRow_nil _ _ _ _, hE4⟩
      · have hz' : ((N.length : Int) == 0) = false := by simp; intro h; exact hz (by simp [h])
        go_wp2_with (first
          | (at_builtin; refine appCols wr rfl (.tmp 70) (.tmp 71) rfl w.heap.size hE.le _ out hown (by rfl) _ l (hl.ext hE) (by rfl) (by omega) ?_; intro v3 w3 hown3 hg3; have hE3 := hE.grown hg3 (fun q hq => (hown.lt q hq).1))
          | (at_builtin; refine appCols w3 rfl (.tmp 72) (.tmp 73) rfl w.heap.size hE3.le v3 (out ++ l) hown3 (by rfl) _ m (hm.ext hE3) (by rfl) (by simp; omega) ?_; intro v4 w4 hown4 hg4; have hE4 := hE3.grown hg4 (fun q hq => (hown3.lt q hq).1); rw [← HN.out] at hown4; clear hg3 hg4 hown3 hE3; obtain ⟨a4, c4, rfl⟩ := own_shape hown4))
        go_ret
        rw [HMM.out]
        exact ⟨_, rfl, hown4, hE4⟩
end Go.Proofs.YteamiiekpjoclaaDoor
