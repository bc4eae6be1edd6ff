/- A batch under way in memory: its lists are rows of one's own. -/
import Derived.Test.YtdkkbglfipkmdaaDoorB14
import Derived.Test.YtdkkbglfipkmdaaDoorB15
import Derived.Test.YtdkkbglfipkmdaaDoorB17
import Derived.Test.YtdkkbglfipkmdaaDoorB12
import Derived.Test.YtdkkbglfipkmdaaDoorB11
import Derived.Test.YtdkkbglfipkmdaaDoorB2
set_option linter.unusedSimpArgs false
set_option linter.unusedVariables false
namespace Go.Proofs.YtdkkbglfipkmdaaDoor
open Go Go.RowKit

structure XAt (w wr : World) (X : Nat) (vL : Value) (L : List Pa) (v0 va vd : Value) (M : List Mt) (A : List Nt) (D : List Int) : Prop where
  box : BoxAt wr X #[v0, va, vd] 39
  om : wr.ownsRow w.heap.size 59 4 v0 M.length (mtCells M)
  on : wr.ownsRow w.heap.size 61 2 va A.length (A.flatMap Nt.cells)
  oi : wr.ownsRow w.heap.size 3 1 vd D.length (kcells .i64 D)
  parts : PartsT wr vL L
  rows : ∀ m ∈ M, RowsT wr m.pa.rv m.pa.ps
  ext : Ext w wr
  low : w.heap.size ≤ X
section
variable {w wr wx : World} {X : Nat} {vL v0 va vd : Value} {L : List Pa} {M : List Mt} {A : List Nt} {D : List Int}
theorem PartsT.keepOwn {x y : World} {v : Value} {l : List Pa} {B : Nat} {T : TypeId} {size m : Nat} {vo : Value} {ys : List Value} (hown : x.ownsRow B T size vo m ys) (hg : x.grownBy y vo.ownBlock) (h0 : 30 ≠ T) (h1 : 102 ≠ T) (h2 : 160 ≠ T) (h : PartsT x v l) : PartsT y v l :=
  ⟨TIn.keepOwn hown hg h0 h.tin, fun p hp => RowsT.keepOwn hown hg h1 h2 (h.rows p hp)⟩
theorem PartsT.set {x : World} {v : Value} {l : List Pa} {q : Nat} {Z : Array Value} {T : TypeId} (i : Nat) (u : Value) (hb : BoxAt x q Z T) (h0 : 30 ≠ T) (h1 : 102 ≠ T) (h2 : 160 ≠ T) (h : PartsT x v l) : PartsT (x.setCell ⟨q, i, none⟩ u) v l :=
  ⟨TIn.set i u hb h0 h.tin, fun p hp => RowsT.set i u hb h1 h2 (h.rows p hp)⟩
theorem XAt.more (h : XAt w wr X vL L v0 va vd M A D) (hE : Ext wr wx) : XAt w wx X vL L v0 va vd M A D :=
  ⟨h.box.ext hE, ownsRow_ext h.om hE, ownsRow_ext h.on hE, ownsRow_ext h.oi hE, h.parts.ext hE, fun m hm => (h.rows m hm).ext hE, h.ext.trans hE, h.low⟩
theorem XAt.appEM {N : List Value} (h : XAt w wr X vL L v0 va vd M A D) (hA : AppE 59 4 w.heap.size M.length (mtCells M) N wr wx) : XAt w wx X vL L v0 va vd M A D := by
  obtain ⟨vo, ho, hg, _⟩ := id hA
  exact ⟨hA.box h.box (fun e => absurd e (by decide)), hA.keep_short h.om (Nat.le_refl _), World.ownsRow.kept h.on hg (own_ne_own h.on ho (by decide)), World.ownsRow.kept h.oi hg (own_ne_own h.oi ho (by decide)), h.parts.keepOwn ho hg (by decide) (by decide) (by decide), fun x hx => RowsT.keepOwn ho hg (by decide) (by decide) (h.rows x hx), hA.to (Nat.le_refl _) h.ext, h.low⟩
theorem XAt.appEN {N : List Value} (h : XAt w wr X vL L v0 va vd M A D) (hA : AppE 61 2 w.heap.size A.length (A.flatMap Nt.cells) N wr wx) : XAt w wx X vL L v0 va vd M A D := by
  obtain ⟨vo, ho, hg, _⟩ := id hA
  exact ⟨hA.box h.box (fun e => absurd e (by decide)), World.ownsRow.kept h.om hg (own_ne_own h.om ho (by decide)), hA.keep_short h.on (Nat.le_refl _), World.ownsRow.kept h.oi hg (own_ne_own h.oi ho (by decide)), h.parts.keepOwn ho hg (by decide) (by decide) (by decide), fun x hx => RowsT.keepOwn ho hg (by decide) (by decide) (h.rows x hx), hA.to (Nat.le_refl _) h.ext, h.low⟩
theorem XAt.setM {v9 : Value} {m : Mt} (h : XAt w wr X vL L v0 va vd M A D) (ho : wr.ownsRow w.heap.size 59 4 v9 (M.length + 1) (mtCells M ++ (mt4 m).toList)) (hm : RowsT wr m.pa.rv m.pa.ps) : XAt w (wr.setCell ⟨X, 0, none⟩ v9) X vL L v9 va vd (M ++ [m]) A D := by
  have ho' : wr.ownsRow w.heap.size 59 4 v9 (M ++ [m]).length (mtCells (M ++ [m])) := by rw [List.length_append, mtCells_append]; simpa [mtCells] using ho
  have hbx := h.box
  refine ⟨hbx.set 0 v9, own_setCell ho' (own_ne_box ho' hbx (by decide)), own_setCell h.on (own_ne_box h.on hbx (by decide)), own_setCell h.oi (own_ne_box h.oi hbx (by decide)), h.parts.set 0 v9 hbx (by decide) (by decide) (by decide), fun x hx => RowsT.set 0 v9 hbx (by decide) (by decide) ?_, h.ext.setCell (p := ⟨X, 0, none⟩) h.low _, h.low⟩
  rcases List.mem_append.1 hx with hx | hx
  · exact h.rows x hx
  · rw [List.mem_singleton.1 hx]; exact hm
theorem XAt.setN {v9 : Value} {m : Nt} (h : XAt w wr X vL L v0 va vd M A D) (ho : wr.ownsRow w.heap.size 61 2 v9 (A.length + 1) (A.flatMap Nt.cells ++ (nt2 m).toList)) : XAt w (wr.setCell ⟨X, 1, none⟩ v9) X vL L v0 v9 vd M (A ++ [m]) D := by
  have ho' : wr.ownsRow w.heap.size 61 2 v9 (A ++ [m]).length ((A ++ [m]).flatMap Nt.cells) := by rw [List.length_append, List.flatMap_append]; simpa [Nt.cells, nt2] using ho
  have hbx := h.box
  exact ⟨hbx.set 1 v9, own_setCell h.om (own_ne_box h.om hbx (by decide)), own_setCell ho' (own_ne_box ho' hbx (by decide)), own_setCell h.oi (own_ne_box h.oi hbx (by decide)), h.parts.set 1 v9 hbx (by decide) (by decide) (by decide), fun x hx => RowsT.set 1 v9 hbx (by decide) (by decide) (h.rows x hx), h.ext.setCell (p := ⟨X, 1, none⟩) h.low _, h.low⟩
/-- One append in the region: operation i appends N to a row that holds Y (k elements). -/
def pX (i k : Nat) (Y N : List Value) (j : Nat) : Option (Nat × List Value × List Value) := if j = i then some (k, Y, N) else none
theorem pX_none {i k j : Nat} {Y N : List Value} (h : j ≠ i) : pX i k Y N j = none := by unfold pX; rw [if_neg h]
theorem pX_self {i k : Nat} {Y N : List Value} : pX i k Y N i = some (k, Y, N) := by unfold pX; rw [if_pos rfl]
theorem pX_some {i k j k' : Nat} {Y N Y' N' : List Value} (h : pX i k Y N j = some (k', Y', N')) : j = i ∧ k' = k ∧ Y' = Y ∧ N' = N := by
  unfold pX at h
  split at h
  · cases h; exact ⟨by assumption, rfl, rfl, rfl⟩
  · cases h
theorem NEx_one {T : TypeId} {size S i k j : Nat} {Y : List Value} {cs : Array Value} {x y : World} (hs : cs.size = size) (h : NE T size S (pX i k Y cs.toList) j x y) {b : Nat} (hb : BoxAt x b cs T) : BoxAt y b cs T :=
  NE_box h hb fun k' X' N' hp _ i' u' hu h1 h2 => by
    have hi : i' < size := by have := (Array.getElem?_eq_some_iff.1 hu).1; omega
    obtain ⟨_, rfl, rfl, rfl⟩ := pX_some hp
    have hk0 : k' = 0 := by
      rcases Nat.eq_zero_or_pos k' with h | h
      · exact h
      · have := Nat.mul_le_mul_right size h; omega
    subst hk0
    simpa using hu
theorem NEx_end {T : TypeId} {size S i k j : Nat} {Y N : List Value} {x y : World} (hj : j ≠ i) (h : NE T size S (pX i k Y N) j x y) : Ext x y := by
  rcases h with ⟨_, h⟩ | ⟨k', X', M', hp, hA⟩
  · exact h
  · exact absurd (pX_some hp).1 hj
theorem XAt.boxI (h : XAt w wr X vL L v0 va vd M A D) (hg : wr.grownBy wx vd.ownBlock) : BoxAt wx X #[v0, va, vd] 39 :=
  h.box.grown hg (fun e => by
    rcases own_ne_box h.oi h.box (by decide) with h2 | h2
    · rw [h2] at e; cases e
    · exact h2 e.symm)
theorem XAt.setI {v9 : Value} {m : Int} (h : XAt w wr X vL L v0 va vd M A D) (hg : wr.grownBy wx vd.ownBlock) (ho : wx.ownsRow w.heap.size 3 1 v9 (D.length + 1) (kcells .i64 D ++ [.int .i64 m])) : XAt w (wx.setCell ⟨X, 2, none⟩ v9) X vL L v0 va v9 M A (D ++ [m]) := by
  have hbx := h.boxI hg
  have om9 := World.ownsRow.kept h.om hg (own_ne_own h.om h.oi (by decide))
  have on9 := World.ownsRow.kept h.on hg (own_ne_own h.on h.oi (by decide))
  have hp9 := h.parts.keepOwn h.oi hg (by decide) (by decide) (by decide)
  have hm9 : ∀ x ∈ M, RowsT wx x.pa.rv x.pa.ps := fun x hx => RowsT.keepOwn h.oi hg (by decide) (by decide) (h.rows x hx)
  have ho' : wx.ownsRow w.heap.size 3 1 v9 (D ++ [m]).length (kcells .i64 (D ++ [m])) := by rw [List.length_append]; simpa [kcells] using ho
  exact ⟨hbx.set 2 v9, own_setCell om9 (own_ne_box om9 hbx (by decide)), own_setCell on9 (own_ne_box on9 hbx (by decide)), own_setCell ho' (own_ne_box ho' hbx (by decide)), hp9.set 2 v9 hbx (by decide) (by decide) (by decide), fun x hx => RowsT.set 2 v9 hbx (by decide) (by decide) (hm9 x hx), (h.ext.grownOwn h.oi (Nat.le_refl _) hg).setCell (p := ⟨X, 2, none⟩) h.low _, h.low⟩
theorem XAt.mts (h : XAt w wr X vL L v0 va vd M A D) : MtsIn wr v0 M := ⟨SliceIn.of_owns h.om, fun m hm => (h.rows m hm).rows⟩
theorem XAt.nts (h : XAt w wr X vL L v0 va vd M A D) : NtsIn wr va A := SliceIn.of_owns h.on
theorem XAt.its (h : XAt w wr X vL L v0 va vd M A D) : IntsIn wr vd .i64 D := SliceIn.of_owns h.oi
theorem XAt.same {v0' : Value} (h : XAt w wr X vL L v0 va vd M A D) (e : v0 = v0') : XAt w wr X vL L v0' va vd M A D := e ▸ h
end
end Go.Proofs.YtdkkbglfipkmdaaDoor

/- Made: a partition by numbers. -/
namespace Go.Proofs.YtdkkbglfipkmdaaDoor
open Go Go.RowKit
attribute [local go_sem] yields yUpon ro8 pa3

set_option maxRecDepth 100000 in
set_option maxHeartbeats 4000000 in
theorem made_any (v : Value) (l : List Int) (key : ByteArray) (w : World) (hin : IntsIn w v .i64 l) :
    Calls Tryd.prog 15 #[v, .string key] w fun e w' => ∃ p : Pa, e = .returned (.agg #[.string key, .int .i64 p.gone, p.rv]) ∧ GenPa key p ∧ RowsT w' p.rv p.ps ∧ Ext w w' := by
  obtain ⟨a0, a1, hE0⟩ := boxes2 w (pa3 ⟨#[]⟩ 0 (.slice none 0 0)) #[v] 30 95
  obtain ⟨av, cv, rfl, _⟩ := hin.block
  go_enter Tryd.func15, Tryd.ntmps15
  go_wp2_with fail
  refine (lpart_any w (w.heap.size + 1) (Nat.le_succ _) key _ hE0 ⟨_, l, a1, hin⟩).mono ?_
  rintro e w1 ⟨g, v1, qs, rfl, hg8, hgr, hrows, hg, _⟩
  have hX : Ext w w1 := hE0.grown hg (fun q hq => by cases hq; omega)
  obtain ⟨aq, cq, rfl⟩ := hrows.shape
  have a0' := a0.grown hg (by simp)
  go_wp2_with (((guard_target =~ wpList _ _ _ (Oper.mk none (Op.store _ (Operand.tmp 4) (Operand.tmp 11)) _ _ _ _ :: _) _ _); go_must (refine storeBox rfl 30 (.tmp 4) (.tmp 11) rfl (w.heap.size) _ _ _ (by rfl) (by rfl) (a0') (by kernel_rfl) (by rfl) (by simp [Value.oneCell']) ?_); intro w3 c3 g3))
  obtain ⟨z0, z1, z2⟩ := BoxAt.pa (k := key) (g := g) (u := .slice aq qs.length cq) c3
  refine bodyPost_ret (v := .agg #[.string key, .int .i64 g, .slice aq qs.length cq]) ?_ rfl ⟨⟨key, g, _, qs⟩, rfl, ⟨rfl, hg8, hgr⟩, hrows.keep g3 a0' (by decide) (by decide), hX.grown g3 (fun q hq => by cases hq; omega)⟩
  simp [results, Tryd.results15, go_sem, Act.put, z0, z1, z2]

end Go.Proofs.YtdkkbglfipkmdaaDoor

/- pack.Batch: of what may not be, of a small one; clerestorylaw09.awake. -/
namespace Go.Proofs.YtdkkbglfipkmdaaDoor
open Go Go.RowKit
attribute [local go_sem] yields yUpon

set_option maxRecDepth 100000 in
set_option maxHeartbeats 2000000 in
theorem batch_no (vm va vd : Value) (M : List Mu) (A : List Nt) (D : List Int) (w : World) (hT : TabU w) (hM : MusIn w vm M) (hA : NtsIn w va A) (hD : IntsIn w vd .i64 D) (hMb : ∀ x ∈ M, x.table.size ≤ 100 ∧ x.key.size ≤ 100 ∧ x.gone ≤ 1099511627776) (hAb : ∀ x ∈ A, x.body.size ≤ 1000000) (hc : cbB M A D = false) :
    Calls Tryd.prog 22 #[.agg #[vm, va, vd]] w fun e w' => e = .returned (.tuple #[.slice none 0 0, .int .i64 1]) ∧ Ext w w' := by
  have hE0 := (Ext.refl w).alloc (.cells #[vm, va, vd] 39)
  obtain ⟨am, cm, rfl, _⟩ := hM.get
  obtain ⟨aa, ca, rfl, _⟩ := hA.get
  have hD' := hD
  obtain ⟨ad, cd, rfl, _⟩ := hD'
  have HC := Lib.hid hc
  have HMb := Lib.hid hMb
  have HAb := Lib.hid hAb
  clear hc hMb hAb
  go_enter Tryd.func22, Tryd.ntmps22
  go_wp2_with (go_at_call 30; go_must (refine (cb_any _ _ _ M A D _ (hT.ext hE0) (hM.ext hE0) (hA.ext hE0) (hD.ext hE0) HMb.out HAb.out).mono ?_); rintro e w1 ⟨rfl, hE1⟩; rw [HC.out])
  go_ret2
  exact ⟨rfl, hE0.trans hE1⟩

set_option maxHeartbeats 2000000 in
theorem awake9_any (w : World) (hT : TabU w) : Calls Tryd.prog 13 #[] w fun e w' => e = .returned (.bool true) ∧ Ext w w' := by
  have hw0 : whole0 ⟨#[97]⟩ 0 = [1, 1, 97, 0, 0] := by decide
  go_enter Tryd.func13, Tryd.ntmps13
  go_wp2_with (first
    | (go_at_call 14; go_must (refine (part0_any ⟨#[97]⟩ (by decide) w).mono ?_); rintro e w1 ⟨v1, rfl, ho1, hE1⟩; rw [hw0] at ho1; have ho1' := ho1; obtain ⟨a1, n1, rfl⟩ := ownB_shape ho1')
    | ((guard_target =~ wpList _ _ _ (Oper.mk (some 12) _ _ _ _ _ :: _) _ _); go_must (refine wpList_convert_bytes rfl 24 9 5 (.tmp 11) rfl und_bytes und_u8 und_string (OwnB.bytes ho1) ?_))
    | (go_at_call 30; go_must (refine (cb_any _ _ _ [] [] [] _ (hT.ext hE1) (SliceIn.nil _) (SliceIn.nil _) (SliceIn.nil _) (by simp) (by simp)).mono ?_); rintro e w2 ⟨rfl, hE2⟩; rw [show cbB [] [] [] = true from by decide]))
  go_ret
  exact ⟨rfl, hE1.trans hE2⟩
end Go.Proofs.YtdkkbglfipkmdaaDoor

/- Numbers: what is put is got; cut it is none (plain law). -/
namespace Go.Proofs.YtdkkbglfipkmdaaDoor
open Go Go.RowKit

theorem valB_cons (b : UInt8) (l : List UInt8) : valB (b :: l) = b.toNat * 256 ^ l.length + valB l := by
  have key : ∀ (m : List UInt8) (v : Nat), m.foldl (fun v b => v * 256 + b.toNat) v = v * 256 ^ m.length + valB m := by
    intro m
    induction m with
    | nil => intro v; simp [valB]
    | cons c m ih =>
      intro v
      have h1 := ih (v * 256 + c.toNat)
      have h2 := ih (0 * 256 + c.toNat)
      unfold valB
      rw [List.foldl_cons, List.foldl_cons, h1, h2, List.length_cons, Nat.pow_succ]
      simp only [Nat.add_mul, Nat.zero_mul, Nat.zero_add, Nat.mul_assoc, Nat.mul_comm 256]
      omega
  have := key l (0 * 256 + b.toNat)
  unfold valB at *
  rw [List.foldl_cons, this]
  simp
theorem valB_beB (k x : Nat) : valB (beB k x) = x % 256 ^ k := by
  induction k with
  | zero => simp [beB, valB, Nat.mod_one]
  | succ k ih =>
    rw [beB, valB_cons, ih, beB_length, Nat.mod_pow_succ]
    have : (UInt8.ofNat (x / 256 ^ k)).toNat = x / 256 ^ k % 256 := by simp
    rw [this, Nat.mul_comm]
    omega

theorem num_len (x : Nat) : (num x).length = nlen x + 1 := by simp [num, beB_length]
theorem nlen_le (x : Nat) (hx : x < 18446744073709551616) : nlen x ≤ 8 := by have := bitsOf_le64 hx; unfold nlen; omega
theorem nlen_lt (x : Nat) : x < 256 ^ nlen x := by
  rw [show (256 : Nat) = 2 ^ 8 by decide, ← Nat.pow_mul]
  refine Nat.lt_of_lt_of_le (bitsOf_lt x) (Nat.pow_le_pow_right (by decide) ?_)
  unfold nlen; omega
theorem top_ne (x : Nat) (h : 0 < nlen x) : UInt8.ofNat (x / 256 ^ (nlen x - 1)) ≠ 0 := by
  have hx : x ≠ 0 := by rintro rfl; simp [nlen, bitsOf] at h
  have h1 : 256 ^ (nlen x - 1) ≤ x := by
    rw [show (256 : Nat) = 2 ^ 8 by decide, ← Nat.pow_mul]
    refine Nat.le_trans (Nat.pow_le_pow_right (by decide) ?_) (bitsOf_le x hx)
    unfold nlen; omega
  have h2 : x / 256 ^ (nlen x - 1) < 256 := by
    refine Nat.div_lt_of_lt_mul ?_
    rw [← Nat.pow_succ, show (nlen x - 1).succ = nlen x by omega]
    exact nlen_lt x
  have h3 : 0 < x / 256 ^ (nlen x - 1) := Nat.div_pos h1 (Nat.pow_pos (by decide))
  intro he
  have := congrArg UInt8.toNat he
  rw [UInt8.toNat_ofNat_of_lt' h2] at this
  simp at this
  omega

theorem getNum_back (H R : List UInt8) (x : Nat) (hx : x < 18446744073709551616) : getNum (H ++ num x ++ R) (H.length : Int) = (x, ((H ++ num x).length : Int), 0) := by
  have h8 := nlen_le x hx
  unfold getNum
  rw [if_neg (by omega), Int.toNat_natCast]
  unfold getNumN
  have hlen : (H ++ num x ++ R).length = H.length + (nlen x + 1) + R.length := by simp [num_len]; omega
  rw [if_neg (by omega), dif_pos (by omega)]
  have e0 : (H ++ num x ++ R)[H.length]'(by omega) = UInt8.ofNat (nlen x) := by simp [num]
  have e1 : (UInt8.ofNat (nlen x)).toNat = nlen x := UInt8.toNat_ofNat_of_lt' (by show nlen x < 256; omega)
  rw [e0, e1, if_neg (by omega)]
  have e2 : (H ++ num x ++ R)[H.length + 1]? = (beB (nlen x) x ++ R)[0]? := by
    rw [List.append_assoc, List.getElem?_append_right (by omega)]
    simp [num]
  rw [e2, if_neg, if_neg (by omega)]
  · have e3 : ((H ++ num x ++ R).drop (H.length + 1)).take (nlen x) = beB (nlen x) x := by
      rw [List.append_assoc, List.drop_append, List.drop_eq_nil_of_le (by omega), show H.length + 1 - H.length = 1 by omega]
      simp [num, beB_length]
    rw [e3, valB_beB, Nat.mod_eq_of_lt (nlen_lt x)]
    simp [num_len]
    omega
  · rintro ⟨h0, h⟩
    rw [List.getElem?_append_left (by rw [beB_length]; exact h0), beB_get h0] at h
    have := top_ne x h0
    simp at h
    exact this (by simpa using h)

theorem getNum_cut (H : List UInt8) (x j : Nat) (hx : x < 18446744073709551616) (hj : j < (num x).length) : (getNum ((H ++ num x).take (H.length + j)) (H.length : Int)).2.2 = 8 := by
  have h8 := nlen_le x hx
  rw [num_len] at hj
  unfold getNum
  rw [if_neg (by omega), Int.toNat_natCast]
  unfold getNumN
  have hlen : ((H ++ num x).take (H.length + j)).length = H.length + j := by simp [num_len]; omega
  rw [if_neg (by omega)]
  by_cases hj0 : j = 0
  · rw [dif_neg (by omega)]
  rw [dif_pos (by omega)]
  have e0 : ((H ++ num x).take (H.length + j))[H.length]'(by omega) = UInt8.ofNat (nlen x) := by simp [num]
  have e1 : (UInt8.ofNat (nlen x)).toNat = nlen x := UInt8.toNat_ofNat_of_lt' (by show nlen x < 256; omega)
  rw [e0, e1, if_neg (by omega), if_neg, if_pos (by omega)]
  rintro ⟨h0, h⟩
  rw [List.getElem?_take] at h
  split at h
  · rw [List.getElem?_append_right (by omega), show H.length + 1 - H.length = 1 by omega] at h
    simp only [num, List.getElem?_cons_succ] at h
    rw [beB_get h0] at h
    exact top_ne x h0 (by simpa using h)
  · cases h
end Go.Proofs.YtdkkbglfipkmdaaDoor
