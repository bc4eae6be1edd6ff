/- 'append' to a list of columns of one's own. -/
import Derived.Test.YteamiiekpjoclaaM3
import Derived.Laws.AppendOwnNone
import Derived.Test.YteamiiekpjoclaaM1
import Derived.ProofKit
import Derived.ChangeSlices
import Derived.WideShapes
import Derived.Test.YteamiiekpjoclaaM6
import Derived.Test.YteamiiekpjoclaaM2
namespace Go.Proofs.Yteamiiekpjoclaa
open Go Go.RowKit

theorem coCells_one (l : List Co) : ∀ u ∈ coCells l, u.oneCell' = true := by
  induction l with
  | nil => intro u h; cases h
  | cons c l ih =>
    intro u h
    simp only [coCells, List.mem_cons] at h
    rcases h with rfl | rfl | rfl | rfl | rfl | h
    · rfl
    · rfl
    · rfl
    · rfl
    · rfl
    · exact ih u h
theorem appCols {ops : Array Oper} {rest : List Oper} {o : Oper} {a : Act} {Q : Exit → Act → World → Prop} (w : World) (hg : o.guard = none) (s x : Operand)
    (hop : o.op = Op.call { callee := Callee.builtin Builtin.append, args := #[s, x], argTypes := #[53, 53] })
    (B : Nat) (hB : B ≤ w.heap.size) (v : Value) (l : List Co) (hown : w.ownsRow B 58 5 v l.length (coCells l)) (hs : a.eval s = v) (u : Value) (m : List Co) (hin : ColsIn w u m) (hx : a.eval x = u) (hb : l.length + m.length ≤ 1000000)
    (hK : ∀ v' w', w'.ownsRow B 58 5 v' (l ++ m).length (coCells (l ++ m)) → w.grownBy w' v.ownBlock → wpList Try.prog ops Q rest (a.put o.dst v') w') : wpList Try.prog ops Q (o :: rest) a w := by
  obtain ⟨i0, hi, hz0, hz1, hz2⟩ := info_parts info_Col
  obtain ⟨ao, c, rfl, hc, hcm, ha, hcell⟩ := hin
  cases ao with
  | none =>
    have hc0 := ha rfl
    obtain rfl : m = [] := List.eq_nil_of_length_eq_zero (by omega)
    subst hc0
    refine wpList_append_own_none hg s x 53 hop B 58 i0 5 und_Cols hi v l.length (coCells l) hs hown hx (hK _ _ (by rw [List.append_nil]; exact hown) ⟨rfl, rfl, rfl, Nat.le_refl _, fun _ _ _ => rfl⟩)
  | some ad =>
    refine wpList_append_own _ hg s x 53 hop B 58 i0 _ 5 56 und_Cols hi hz0 hz1 hz2 rfl (by decide) v l.length (coCells l) hs hown ad m.length c (coCells m) hx (coCells_length m) ?_ (coCells_one m) (by unfold maxLen; omega) (by omega) hB ?_
    · intro j u hj
      obtain ⟨b, o, e, h⟩ := hcell j u hj
      cases e
      rw [Addr.add_lit]
      exact h
    · intro v' w' h2 h3 _
      refine hK v' w' ?_ h3
      rw [coCells_append, List.length_append]
      exact h2
theorem cols_own {w : World} {B : Nat} {v : Value} {l : List Co} (h : w.ownsRow B 58 5 v l.length (coCells l)) : ColsIn w v l := SliceIn.of_owns h
theorem cols_two (w : World) (c d : Co) (T : TypeId) : ColsIn (w.alloc (.cells (co5 c ++ co5 d) T)) (.slice (some ⟨w.heap.size, 0, none⟩) 2 2) [c, d] :=
  SliceIn.made w (co5 c ++ co5 d) T 2 (by unfold maxLen; decide)
theorem own_shape {w : World} {B : Nat} {e : TypeId} {size : Nat} {v : Value} {n : Nat} {xs : List Value} (h : w.ownsRow B e size v n xs) : ∃ a c, v = .slice a n c := by
  obtain ⟨a, c, h, _⟩ := SliceIn.of_owns h
  exact ⟨a, c, h⟩
theorem own_ne_box {w : World} {B : Nat} {e e' : TypeId} {size : Nat} {v : Value} {n b : Nat} {xs : List Value} {cs : Array Value} (h : w.ownsRow B e size v n xs) (hb : BoxAt w b cs e') (hne : e ≠ e') : v.ownBlock = none ∨ v.ownBlock ≠ some b := by
  rcases h.2 with ⟨rfl, _⟩ | ⟨g, cap, cur, rfl, _, hg, _⟩
  · exact .inl rfl
  · refine .inr (fun h => ?_)
    have hgb : g = b := Option.some.inj h
    subst hgb
    unfold BoxAt at hb
    rw [hg] at hb
    injection hb with hb
    injection hb with h1 h2
    exact hne h2
theorem own_setCell {w : World} {B : Nat} {e : TypeId} {size : Nat} {v : Value} {n : Nat} {xs : List Value} {q i : Nat} {u : Value} (h : w.ownsRow B e size v n xs) (hne : v.ownBlock = none ∨ v.ownBlock ≠ some q) : (w.setCell ⟨q, i, none⟩ u).ownsRow B e size v n xs :=
  h.kept (row := some q) ⟨rfl, rfl, rfl, by rw [Deep.nblk_setCell]; exact Nat.le_refl _, fun k _ hk => Deep.blk_setCell_other _ _ _ _ (fun e => hk (by rw [e]))⟩ hne
theorem own_ne_own {w : World} {B B' : Nat} {e e' : TypeId} {size size' : Nat} {v v' : Value} {n n' : Nat} {xs xs' : List Value} (h : w.ownsRow B e size v n xs) (h' : w.ownsRow B' e' size' v' n' xs') (hne : e ≠ e') : v.ownBlock = none ∨ v.ownBlock ≠ v'.ownBlock := by
  rcases h.2 with ⟨rfl, _⟩ | ⟨g, cap, cur, rfl, _, hg, _⟩
  · exact .inl rfl
  · refine .inr (fun h => ?_)
    rcases h'.2 with ⟨rfl, _⟩ | ⟨g', cap', cur', rfl, _, hg', _⟩
    · cases h
    · have hgb : g = g' := Option.some.inj h
      subst hgb
      rw [hg] at hg'
      injection hg' with hb
      injection hb with h1 h2
      exact hne h2
end Go.Proofs.Yteamiiekpjoclaa

/- A slice of integers that comes in, read. -/
namespace Go.Proofs.Yteamiiekpjoclaa
open Go Go.RowKit Go.ChangeShapes Go.WideShapes Go.ChangeAt

/-- The cells of a list of integers. -/
def kcells (k : IntKind) (l : List Int) : List Value := l.map (Value.int k)
@[simp] theorem kcells_length (k : IntKind) (l : List Int) : (kcells k l).length = l.length := by simp [kcells]
theorem kcells_get (k : IntKind) (l : List Int) (i : Nat) : (kcells k l)[i]? = l[i]?.map (Value.int k) := by simp [kcells]
/-- v is a slice of integers that reads as l. -/
def IntsIn (w : World) (v : Value) (k : IntKind) (l : List Int) : Prop := SliceIn w v l.length (kcells k l)
theorem IntsIn.ext {w w' : World} (hE : Ext w w') {v : Value} {k : IntKind} {l : List Int} (h : IntsIn w v k l) : IntsIn w' v k l := SliceIn.ext hE h

theorem read_ints {P : Program} {H : Type} {enc : TypeId × Value → H} {W : World} {base : Nat} {t e : TypeId} {k : IntKind} {v : Value} {d : DataW H} {p : List MemPlace} (ht : P.underlying t = some (.slice e)) (he : P.underlying e = some (.int k)) (hc : P.cellsOf e = 1)
    (hv : Value.okWide P W .any base t v) (h : DataW.Trod enc P W 0 (fun _ => true) true t v d p) : ∃ l : List Int, IntsIn W v k l ∧ ∀ n ∈ l, (Lit.int k n).wf = true := by
  obtain ⟨a, len, cap, rfl⟩ := okWide_slice ht hv
  obtain ⟨fuel, hf⟩ := h
  rcases open_ints ht he hc hf with ⟨hcs, _⟩ | ⟨x, l, c, zs, hcs, _, hl, hm, hz, _, hcell, hwz⟩
  · simp [Value.cells] at hcs
    obtain ⟨rfl, rfl, rfl⟩ := hcs
    exact ⟨[], SliceIn.nil W, by simp⟩
  · simp [Value.cells] at hcs
    obtain ⟨rfl, rfl, rfl⟩ := hcs
    have hz' : zs.length = cap := by simpa using hz
    refine ⟨zs.take len, ?_, fun n hn => hwz n (List.mem_of_mem_take hn)⟩
    have hlen : (zs.take len).length = len := by simp; omega
    unfold IntsIn
    rw [hlen]
    refine ⟨some x, cap, rfl, hl, hm, nofun, fun j u hj => ?_⟩
    rw [kcells_get, List.getElem?_take] at hj
    split at hj
    · rename_i hlt
      have hjz : j < zs.length := by omega
      have hc := hcell j hjz
      have h0 := hcell 0 (by omega)
      obtain ⟨b, o, s⟩ := x
      have hs : s = none := by
        cases s with
        | none => rfl
        | some s =>
          simp only [Addr.add, if_pos] at h0
          unfold World.cell? at h0
          split at h0 <;> simp at h0
      subst hs
      refine ⟨b, o, rfl, ?_⟩
      rw [Addr.add_lit] at hc
      rw [hc, List.getD_eq_getElem?_getD]
      rw [List.getElem?_eq_getElem hjz] at hj ⊢
      simp at hj ⊢
      exact hj
    · cases hj
end Go.Proofs.Yteamiiekpjoclaa

/- What makes things by numbers: L.Next, L.Cell. -/
namespace Go.Proofs.Yteamiiekpjoclaa
open Go Go.RowKit
attribute [local go_sem] yields yUpon

/-- The next number, the numbers behind it. -/
def nextN (l : List Int) (n : Int) : Int := match l with | [] => 0 | x :: _ => x % n
theorem IntsIn.block {w : World} {v : Value} {k : IntKind} {l : List Int} (h : IntsIn w v k l) : ∃ a c, v = .slice a l.length c ∧ l.length ≤ c ∧ c ≤ maxLen ∧ (a = none → c = 0) := by
  obtain ⟨a, c, h1, h2, h3, h4, _⟩ := h
  exact ⟨a, c, h1, h2, h3, h4⟩

theorem ints_tail {W : World} {b o c : Nat} {x : Int} {l : List Int} {k : IntKind} (hcm : c ≤ maxLen) (hcell : ∀ j u, (kcells k (x :: l))[j]? = some u → ∃ b' o', (some ⟨b, o, none⟩ : Option Addr) = some ⟨b', o', none⟩ ∧ W.cell? ⟨b', o' + j, none⟩ = some u) (hc : l.length + 1 ≤ c) :
    IntsIn W (.slice (some ⟨b, o + 1, none⟩) l.length (c - 1)) k l :=
  ⟨_, c - 1, rfl, by omega, by omega, nofun, fun j u hj => by
    obtain ⟨b', o', e, hc⟩ := hcell (j + 1) u (by simpa [kcells] using hj)
    cases e
    exact ⟨b, o + 1, rfl, by rw [show o + 1 + j = o + (j + 1) by omega]; exact hc⟩⟩

set_option maxHeartbeats 400000 in
theorem next_any (W : World) (p : Nat) (hp : W.heap.size ≤ p) (v : Value) (x : Int) (l : List Int) (hin : IntsIn W v .i64 (x :: l)) (n : Int) (h1 : 1 ≤ n) (h2 : n ≤ 9223372036854775807)
    (w : World) (hE : Ext W w) (hv : w.heap[p]? = some (.cells #[v] 83 (0, 0))) :
    Calls Try.prog 74 #[.pointer (some ⟨p, 0, none⟩), .int .i64 n] w fun e w' => e = .returned (.int .i64 (x % n)) ∧ ∃ v', w' = w.setCell ⟨p, 0, none⟩ v' ∧ IntsIn W v' .i64 l := by
  obtain ⟨a, c, rfl, hc, hcm, ha, hcell⟩ := hin
  obtain ⟨b, o, rfl, h0⟩ := hcell 0 (.int .i64 x) (by simp [kcells])
  have c0 := var_cell hv 0
  have f0 := var_free hv 0
  simp at c0
  have g0 := hE.cell h0
  simp at g0 hc
  unfold maxLen at hcm
  have HC := Lib.hid hcell
  clear hcell ha h0
  go_enter Try.func74, Try.ntmps74
  go_wp2_with fail
  refine (place_any _ _ h1 h2 _).mono ?_
  rintro e w1 ⟨rfl, rfl⟩
  go_wp2_with fail
  · subst h
    obtain rfl : l = [] := List.eq_nil_of_length_eq_zero (by omega)
    go_ret
    exact ⟨rfl, _, rfl, ⟨_, 0, rfl, Nat.le_refl _, Nat.zero_le _, nofun, fun j u hj => by simp [kcells] at hj⟩⟩
  · go_ret
    exact ⟨rfl, _, rfl, ints_tail (by unfold maxLen; omega) HC.out hc⟩

/-- A cell by a number. -/
def cellN (v : Int) : Cl := if v / 7 % 4 = 0 then ⟨⟨#[]⟩, true, 1 + v % 7, 0⟩ else ⟨(⟨#[120, 121, 122]⟩ : ByteArray).extract (v / 28 % 3).toNat (v / 28 % 3 + 1).toNat, false, 1 + v % 7, if v / 84 % 4 = 0 then 1 + v / 336 % 10 else 0⟩

set_option maxHeartbeats 1000000 in
theorem lcell_any (W : World) (p : Nat) (hp : W.heap.size ≤ p) (v : Value) (x : Int) (l : List Int) (hin : IntsIn W v .i64 (x :: l))
    (w : World) (hE : Ext W w) (hv : w.heap[p]? = some (.cells #[v] 83 (0, 0))) :
    Calls Try.prog 100 #[.pointer (some ⟨p, 0, none⟩)] w fun e w' => e = .returned (.agg #[.string (cellN (x % 1048576)).val, .bool (cellN (x % 1048576)).dead, .int .i64 (cellN (x % 1048576)).at_, .int .i64 (cellN (x % 1048576)).fin]) ∧ ∃ v', Ext (w.setCell ⟨p, 0, none⟩ v') w' ∧ IntsIn W v' .i64 l := by
  have hpl : p < w.heap.size := (Array.getElem?_eq_some_iff.1 hv).1
  obtain ⟨N, hN⟩ : ∃ N, N = x % 1048576 := ⟨_, rfl⟩
  have N0 : 0 ≤ N := by omega
  have N1 : N < 1048576 := by omega
  rw [← hN]
  have HN := Lib.hid hN
  clear hN
  go_enter Try.func100, Try.ntmps100
  go_wp2_with fail
  refine (next_any W p hp v x l hin _ (by omega) (by omega) _ (hE.alloc _) (by rw [((Ext.refl w).alloc _).block p hpl]; exact hv)).mono ?_
  rw [← HN.out]
  rintro e w1 ⟨rfl, v', rfl, hin'⟩
  by_cases k1 : N / 7 % 4 = 0
  · have h1 : (N / 7 % 4 == 0) = true := by simpa using k1
    go_wp2
    have e1 : cellN N = ⟨⟨#[]⟩, true, 1 + N % 7, 0⟩ := by unfold cellN; rw [if_pos k1]
    rw [e1]
    refine bodyPost_ret (v := (.agg #[.string (⟨⟨#[]⟩, true, 1 + N % 7, 0⟩ : Cl).val, .bool (⟨⟨#[]⟩, true, 1 + N % 7, 0⟩ : Cl).dead, .int .i64 (⟨⟨#[]⟩, true, 1 + N % 7, 0⟩ : Cl).at_, .int .i64 (⟨⟨#[]⟩, true, 1 + N % 7, 0⟩ : Cl).fin])) (by simp [results, Try.results100, go_sem]) rfl ⟨rfl, v', ((Ext.refl _).alloc _).alloc _, hin'⟩
  · have h1 : (N / 7 % 4 == 0) = false := by simpa using k1
    by_cases k2 : N / 84 % 4 = 0
    · have h2 : (N / 84 % 4 == 0) = true := by simpa using k2
      go_wp2
      have e1 : cellN N = ⟨(⟨#[120, 121, 122]⟩ : ByteArray).extract (N / 28 % 3).toNat (N / 28 % 3 + 1).toNat, false, 1 + N % 7, 1 + N / 336 % 10⟩ := by unfold cellN; rw [if_neg k1, if_pos k2]
      rw [e1]
      refine bodyPost_ret (v := (.agg #[.string (⟨(⟨#[120, 121, 122]⟩ : ByteArray).extract (N / 28 % 3).toNat (N / 28 % 3 + 1).toNat, false, 1 + N % 7, 1 + N / 336 % 10⟩ : Cl).val, .bool (⟨(⟨#[120, 121, 122]⟩ : ByteArray).extract (N / 28 % 3).toNat (N / 28 % 3 + 1).toNat, false, 1 + N % 7, 1 + N / 336 % 10⟩ : Cl).dead, .int .i64 (⟨(⟨#[120, 121, 122]⟩ : ByteArray).extract (N / 28 % 3).toNat (N / 28 % 3 + 1).toNat, false, 1 + N % 7, 1 + N / 336 % 10⟩ : Cl).at_, .int .i64 (⟨(⟨#[120, 121, 122]⟩ : ByteArray).extract (N / 28 % 3).toNat (N / 28 % 3 + 1).toNat, false, 1 + N % 7, 1 + N / 336 % 10⟩ : Cl).fin])) (by simp [results, Try.results100, go_sem]) rfl ⟨rfl, v', ((Ext.refl _).alloc _).alloc _, hin'⟩
    · have h2 : (N / 84 % 4 == 0) = false := by simpa using k2
      go_wp2
      have e1 : cellN N = ⟨(⟨#[120, 121, 122]⟩ : ByteArray).extract (N / 28 % 3).toNat (N / 28 % 3 + 1).toNat, false, 1 + N % 7, 0⟩ := by unfold cellN; rw [if_neg k1, if_neg k2]
      rw [e1]
      refine bodyPost_ret (v := (.agg #[.string (⟨(⟨#[120, 121, 122]⟩ : ByteArray).extract (N / 28 % 3).toNat (N / 28 % 3 + 1).toNat, false, 1 + N % 7, 0⟩ : Cl).val, .bool (⟨(⟨#[120, 121, 122]⟩ : ByteArray).extract (N / 28 % 3).toNat (N / 28 % 3 + 1).toNat, false, 1 + N % 7, 0⟩ : Cl).dead, .int .i64 (⟨(⟨#[120, 121, 122]⟩ : ByteArray).extract (N / 28 % 3).toNat (N / 28 % 3 + 1).toNat, false, 1 + N % 7, 0⟩ : Cl).at_, .int .i64 (⟨(⟨#[120, 121, 122]⟩ : ByteArray).extract (N / 28 % 3).toNat (N / 28 % 3 + 1).toNat, false, 1 + N % 7, 0⟩ : Cl).fin])) (by simp [results, Try.results100, go_sem]) rfl ⟨rfl, v', ((Ext.refl _).alloc _).alloc _, hin'⟩

/-! ### The same, whether or not numbers are left -/
theorem grownBy_set {w : World} (p : Nat) (v : Value) : w.grownBy (w.setCell ⟨p, 0, none⟩ v) (some p) :=
  ⟨rfl, rfl, rfl, by rw [Deep.nblk_setCell]; exact Nat.le_refl _, fun k _ hne => Deep.blk_setCell_other _ _ _ _ (fun e => hne (by rw [e]))⟩
theorem grownBy_refl (w : World) (r : Option Nat) : w.grownBy w r := ⟨rfl, rfl, rfl, Nat.le_refl _, fun _ _ _ => rfl⟩
theorem grownBy_ext {a b c : World} {r : Option Nat} (h : a.grownBy b r) (hE : Ext b c) : a.grownBy c r :=
  ⟨hE.os.trans h.os, hE.tape.trans h.tape, hE.output.trans h.output, Nat.le_trans h.size hE.size, fun k hk hne => (hE.block k (Nat.lt_of_lt_of_le hk h.size)).trans (h.block k hk hne)⟩
theorem ext_grownBy {a b c : World} {r : Option Nat} (hE : Ext a b) (h : b.grownBy c r) : a.grownBy c r :=
  ⟨h.os.trans hE.os, h.tape.trans hE.tape, h.output.trans hE.output, Nat.le_trans hE.size h.size, fun k hk hne => (h.block k (Nat.lt_of_lt_of_le hk hE.size) hne).trans (hE.block k hk)⟩
theorem grownBy_trans {a b c : World} {r : Option Nat} (h : a.grownBy b r) (k : b.grownBy c r) : a.grownBy c r :=
  ⟨k.os.trans h.os, k.tape.trans h.tape, k.output.trans h.output, Nat.le_trans h.size k.size, fun i hi hne => (k.block i (Nat.lt_of_lt_of_le hi h.size) hne).trans (h.block i hi hne)⟩

set_option maxHeartbeats 400000 in
theorem next_gen (W : World) (p : Nat) (hp : W.heap.size ≤ p) (v : Value) (l : List Int) (hin : IntsIn W v .i64 l) (n : Int) (h1 : 1 ≤ n) (h2 : n ≤ 9223372036854775807)
    (w : World) (hE : Ext W w) (hv : BoxAt w p #[v] 83) :
    Calls Try.prog 74 #[.pointer (some ⟨p, 0, none⟩), .int .i64 n] w fun e w' => e = .returned (.int .i64 (nextN l n)) ∧ w.grownBy w' (some p) ∧ ∃ v', BoxAt w' p #[v'] 83 ∧ IntsIn W v' .i64 l.tail := by
  cases l with
  | cons x l =>
    refine (next_any W p hp v x l hin n h1 h2 w hE hv).mono ?_
    rintro e w' ⟨rfl, v', rfl, hin'⟩
    exact ⟨rfl, grownBy_set p v', v', hv.set 0 v', hin'⟩
  | nil =>
    have hin0 := hin
    obtain ⟨a, c, rfl, hc, hcm, ha⟩ := hin.block
    have c0 := hv.cell 0
    simp at c0
    go_enter Try.func74, Try.ntmps74
    go_wp2
    go_ret
    exact ⟨rfl, grownBy_refl w _, _, hv, hin0⟩
end Go.Proofs.Yteamiiekpjoclaa
