/- DeltaNumbers: delta answers as its reference does: the law's walk. -/
import Derived.Test.YtolkhjdododdaaaGreatDoorP2
import Derived.Test.YtolkhjdododdaaaGreatDoorP6
import Derived.Test.YtolkhjdododdaaaGreatDoorP10
import Derived.Test.YtolkhjdododdaaaGreatDoorP21
import Derived.Test.YtolkhjdododdaaaGreatDoorP29
import Derived.Test.YtolkhjdododdaaaGreatDoorP33
import Derived.Test.YtolkhjdododdaaaGreatDoorP34
import Derived.Test.YtolkhjdododdaaaGreatDoorP4
import Derived.Test.YtolkhjdododdaaaGreatDoorP41
set_option linter.unusedSimpArgs false
set_option linter.unusedVariables false
namespace Go.Proofs.YtolkhjdododdaaaGreatDoor
open Go Go.RowKit
attribute [local go_sem] yields yUpon ro8 pa3 vw5 tabV viewV

/-- One of the law's partitions in memory. -/
theorem part_at {w : World} {b n c : Nat} {L : List Pa} (h : PartsT w (.slice (some ⟨b, 0, none⟩) n c) L) (hgen : ∀ p ∈ L, GenPa ⟨#[109]⟩ p) (j : Nat) (hj : j < L.length) :
  ∃ (g : Int) (a : Option Addr) (m cc : Nat) (ps : List (Ro × Value)), w.cell? ⟨b, j * 3, none⟩ = some (.string ⟨#[109]⟩) ∧ w.cell? ⟨b, j * 3 + 1, none⟩ = some (.int .i64 g) ∧ w.cell? ⟨b, j * 3 + 2, none⟩ = some (.slice a m cc) ∧
   RowsT w (.slice a m cc) ps ∧ m = ps.length ∧ 0 ≤ g ∧ GenRows 4 (ps.map (·.1)) := by
 obtain ⟨a', c', e, _, _, hget⟩ := h.get
 obtain ⟨b', e', hat⟩ := hget j hj
 injection e with e1 e2 e3
 rw [← e1] at e'
 cases e'
 have hr := h.rows _ (List.getElem_mem hj)
 obtain ⟨hk, hg, hgr⟩ := hgen _ (List.getElem_mem hj)
 obtain ⟨aa, cc, es⟩ := hr.shape
 refine ⟨L[j].gone, aa, _, cc, L[j].ps, ?_, hat.c1, ?_, by rw [← es]; exact hr, rfl, hg.1, hgr⟩
 ·rw [← hk]; exact hat.c0
 ·rw [← es]; exact hat.c2

/-- The law's memory while x's rows are made: the boxes of x and of the numbers left. -/
structure XL (w : World) (bx p : Nat) (key : ByteArray) (wr : World) (qs : List (Ro × Value)) (vo : Value) : Prop where
 box : BoxAt wr bx (pa3 key 0 vo) 39
 left : LeftIn w wr p
 ext : Ext w wr
 own : wr.ownsRow (p + 1) 47 8 vo qs.length (roCells qs)
 typed : ∀ q ∈ qs, ColsT wr q.2 q.1.cols
structure XC (w : World) (bx p : Nat) (key : ByteArray) (wr : World) (qs : List (Ro × Value)) (vo : Value) (x : World) : Prop where
 al : XL w bx p key x qs vo
 size : wr.heap.size ≤ x.heap.size
def RX (p : Nat) (vo : Value) (B j : Nat) (x y : World) : Prop :=
 if j = 14 then (∃ m xs, x.ownsRow B 47 8 vo m xs) ∧ x.grownBy y vo.ownBlock else (∃ v, BoxAt x p #[v] 42) ∧ x.grownBy y (some p)
theorem XL.upto {w : World} {bx p : Nat} {key : ByteArray} {wr wx : World} {qs : List (Ro × Value)} {vo : Value} (hE : Ext wr wx) (h : XL w bx p key wr qs vo) : XL w bx p key wx qs vo :=
 ⟨h.box.ext hE, h.left.ext hE, h.ext.trans hE, ownsRow_ext h.own hE, fun q hq => (h.typed q hq).ext hE⟩
theorem XC.upto {w : World} {bx p : Nat} {key : ByteArray} {wr x y : World} {qs : List (Ro × Value)} {vo : Value} (hE : Ext x y) (h : XC w bx p key wr qs vo x) : XC w bx p key wr qs vo y := ⟨h.al.upto hE, Nat.le_trans h.size hE.le⟩
theorem LeftIn.boxed {W w : World} {p : Nat} (h : LeftIn W w p) : ∃ v, BoxAt w p #[v] 42 := let ⟨v, _, h, _⟩ := h; ⟨v, h⟩
theorem RX_ext {W : World} {p : Nat} {vo : Value} {B j : Nat} {x y : World} (hj : j ≠ 14) (hL : LeftIn W x p) (h : Ext x y) : RX p vo B j x y := by
 unfold RX
 rw [if_neg hj]
 exact ⟨hL.boxed, grownBy_ext (grownBy_refl x _) h⟩
theorem RX_far {p B : Nat} {vo : Value} {wr x y : World} {n : Nat} {xs : List Value} (hown : wr.ownsRow B 47 8 vo n xs) (hpl : p < wr.heap.size) {j : Nat} (h : RX p vo B j x y) {b : Nat} (hb : wr.heap.size ≤ b) {cs : Array Value} {e : TypeId} (hx : BoxAt x b cs e) : BoxAt y b cs e := by
 unfold RX at h
 split at h
 ·exact hx.grown h.2 (fun e => by have := (hown.lt _ e.symm).2; omega)
 ·exact hx.grown h.2 (fun e => by have := Option.some.inj e; omega)
theorem RX_cols {p B : Nat} {vo : Value} {x y : World} {j : Nat} (h : RX p vo B j x y) {v : Value} {l : List Co} (hc : ColsT x v l) : ColsT y v l := by
 unfold RX at h
 split at h
 ·obtain ⟨⟨m, xs, hown⟩, hg⟩ := h
  exact TIn.keepOwn hown hg (by decide) hc
 ·obtain ⟨⟨v, hb⟩, hg⟩ := h
  exact ColsT.keep hg hb (by decide) hc
theorem RX_own {p : Nat} {vo : Value} {x y : World} {j : Nat} (hj : j ≠ 14) (h : RX p vo (p + 1) j x y) {v : Value} {m : Nat} {xs : List Value} (hx : x.ownsRow (p + 1) 47 8 v m xs) : y.ownsRow (p + 1) 47 8 v m xs := by
 unfold RX at h
 rw [if_neg hj] at h
 refine hx.kept h.2 ?_
 cases e : v.ownBlock with
 | none => exact .inl rfl
 | some g => exact .inr (fun h => by have := (hx.lt g e).1; have := Option.some.inj h; omega)
theorem XC.call {w : World} {bx p : Nat} {key : ByteArray} {wr x y : World} {qs : List (Ro × Value)} {vo : Value} (hne : bx < p) (hpw : w.heap.size ≤ p) (h : XC w bx p key wr qs vo x) (hg : x.grownBy y (some p)) (hl : LeftIn w y p) : XC w bx p key wr qs vo y := by
 obtain ⟨v0, hb0⟩ := h.al.left.boxed
 refine ⟨⟨h.al.box.grown hg (by simp; omega), hl, h.al.ext.grown hg (fun q hq => by cases hq; exact hpw), ?_, fun q hq => ColsT.keep hg hb0 (by decide) (h.al.typed q hq)⟩, Nat.le_trans h.size hg.size⟩
 refine h.al.own.kept hg ?_
 cases e : vo.ownBlock with
 | none => exact .inl rfl
 | some g => exact .inr (fun h' => by have := (h.al.own.lt g e).1; have := Option.some.inj h'; omega)

/-- The changes' lists. -/
structure PtF (D : List (ByteArray × Int × List Ro)) (v : Value) (z : World) : Prop where
 out : ∃ L, PartsIn z v L ∧ L.map Pa.data = D
structure MtF (D : List Mq) (v : Value) (z : World) : Prop where
 out : ∃ L, MtsIn z v L ∧ L.map Mt.q = D
theorem PtF.ext {D : List (ByteArray × Int × List Ro)} {v : Value} {x y : World} (hE : Ext x y) (h : PtF D v x) : PtF D v y := let ⟨L, h1, h2⟩ := h.out; ⟨⟨L, h1.ext hE, h2⟩⟩
theorem MtF.ext {D : List Mq} {v : Value} {x y : World} (hE : Ext x y) (h : MtF D v x) : MtF D v y := let ⟨L, h1, h2⟩ := h.out; ⟨⟨L, h1.ext hE, h2⟩⟩
/-- What the calls ask of the rows before and now. -/
theorem num_small {J : List Ro} (nJ : NumRs J) {ps : List (Ro × Value)} (hJ : ps.map (·.1) = J) : ps.length ≤ 4 ∧ (∀ p ∈ ps, p.1.cols.length ≤ 1000000) ∧ ∀ p ∈ ps, p.1.key.size ≤ 10000000 ∧ (vkey ⟨#[109]⟩ p.1.key).size ≤ 400 ∧ (vkey ⟨#[109]⟩ p.1.key).size ≤ 400 := by
 have mp : ∀ p ∈ ps, p.1 ∈ J := fun p h => by rw [← hJ]; exact List.mem_map_of_mem h
 refine ⟨by have := nJ.len; rw [← hJ, List.length_map] at this; exact this, fun p h => by have := (nJ.row _ (mp p h)).len; omega, fun p h => ?_⟩
 obtain ⟨i, hi, e⟩ := nJ.key _ (mp p h)
 have := ik_small5 i hi
 rw [← e] at this
 exact ⟨by omega, this.2, this.2⟩
section
variable (bs bu : Nat) (ga G : Int) (ou nu : Value) (pso psn : List (Ro × Value)) (O J : List Ro) (w : World) (ho : RowsT w ou pso) (hn : RowsT w nu psn) (hO : pso.map (·.1) = O) (hJ : psn.map (·.1) = J) (nO : NumRs O) (nJ : NumRs J)
noncomputable def dOf (ga G : Int) (O J : List Ro) : List (ByteArray × Int × List Ro) := outP (deltaRs dV dNs ⟨#[109]⟩ ga ⟨#[109]⟩ G O J)
include ho hn hO hJ nO nJ
set_option linter.unusedSectionVars false
theorem ofX_any (hns : StrsIn w (.slice (some ⟨bu, 0, none⟩) 2 2) dNs) :
  Calls Tryz.prog 15 #[tabV (.slice (some ⟨bs, 0, none⟩) 4 4), .agg #[.string dV.name, .int .i64 dV.id, .string dV.table, .string dV.on, .slice (some ⟨bu, 0, none⟩) 2 2], .agg #[.string ⟨#[109]⟩, .int .i64 ga, ou], .agg #[.string ⟨#[109]⟩, .int .i64 G, nu]] w fun e w' =>
   ∃ v, e = .returned v ∧ PtF (dOf ga G O J) v w' ∧ Ext w w' := by
 obtain ⟨_, o2, _⟩ := num_small nO hO
 obtain ⟨j1, j2, j3⟩ := num_small nJ hJ
 refine (deltaOf_any (.slice (some ⟨bs, 0, none⟩) 4 4) dV _ dNs ⟨#[109]⟩ ga ou pso ⟨#[109]⟩ G nu psn w ho.rows hn.rows hns o2 j2 (by omega) (by decide) (by decide) j3).mono ?_
 rintro e w' ⟨v, rfl, L, h1, h2, h3, hE⟩
 rw [hO, hJ] at h3
 exact ⟨v, rfl, ⟨L, ⟨SliceIn.of_owns h1, fun p hp => (h2 p hp).rows⟩, h3⟩, hE⟩
theorem of19X_any (hns : StrsIn w (.slice (some ⟨bu, 0, none⟩) 2 2) dNs) :
  Calls Tryz.prog 16 #[.agg #[.string dV.name, .int .i64 dV.id, .string dV.table, .string dV.on, .slice (some ⟨bu, 0, none⟩) 2 2], .agg #[.string ⟨#[109]⟩, .int .i64 ga, ou], .agg #[.string ⟨#[109]⟩, .int .i64 G, nu]] w fun e w' =>
   ∃ v, e = .returned v ∧ PtF (dOf ga G O J) v w' ∧ Ext w w' := by
 obtain ⟨_, o2, _⟩ := num_small nO hO
 obtain ⟨j1, j2, j3⟩ := num_small nJ hJ
 refine (of19_any dV _ dNs ⟨#[109]⟩ ga ou pso ⟨#[109]⟩ G nu psn w ho.rows hn.rows hns o2 j2 (by omega) (by decide) (by decide) j3).mono ?_
 rintro e w' ⟨v, rfl, L, h1, h2, h3, hE⟩
 rw [hO, hJ] at h3
 exact ⟨v, rfl, ⟨L, ⟨SliceIn.of_owns h1, fun p hp => (h2 p hp).rows⟩, h3⟩, hE⟩
theorem dOf_few : (outP (deltaRs dV dNs ⟨#[109]⟩ ga ⟨#[109]⟩ G (pso.map (·.1)) (psn.map (·.1)))).length ≤ 20000 := by
 obtain ⟨j1, _⟩ := num_small nJ hJ
 have := deltaRs_few (x := dV) (ns := dNs) (ok := ⟨#[109]⟩) (nk := ⟨#[109]⟩) (og := ga) (ng := G) (old := pso.map (·.1)) (psn.map (·.1))
 unfold outP
 rw [List.length_map] at this ⊢
 omega
theorem allX_any (bT bV bs' bu' : Nat) (h : SchIn w bT bV bs' bu') :
  Calls Tryz.prog 18 #[.agg #[.int .i64 2, .slice (some ⟨bT, 0, none⟩) 1 1, .slice (some ⟨bV, 0, none⟩) 1 1], .string ⟨#[116]⟩, .agg #[.string ⟨#[109]⟩, .int .i64 ga, ou], .agg #[.string ⟨#[109]⟩, .int .i64 G, nu]] w fun e w' =>
   ∃ v, e = .returned v ∧ MtF ((dOf ga G O J).map mqD) v w' ∧ Ext w w' := by
 obtain ⟨_, o2, _⟩ := num_small nO hO
 obtain ⟨j1, j2, j3⟩ := num_small nJ hJ
 refine (allD_any bT bV bs' bu' ⟨#[109]⟩ ga ou pso ⟨#[109]⟩ G nu psn w h ho.rows hn.rows o2 j2 (by omega) (by decide) (by decide) j3 (dOf_few ga G ou nu pso psn O J w ho hn hO hJ nO nJ)).mono ?_
 rintro e w' ⟨v, L, rfl, h1, h2, hE⟩
 rw [hO, hJ] at h2
 exact ⟨v, rfl, ⟨L, h1, h2⟩, hE⟩
theorem all19X_any (bT bV bs' bu' : Nat) (h : SchIn w bT bV bs' bu') :
  Calls Tryz.prog 19 #[.agg #[.int .i64 2, .slice (some ⟨bT, 0, none⟩) 1 1, .slice (some ⟨bV, 0, none⟩) 1 1], .string ⟨#[116]⟩, .agg #[.string ⟨#[109]⟩, .int .i64 ga, ou], .agg #[.string ⟨#[109]⟩, .int .i64 G, nu]] w fun e w' =>
   ∃ v, e = .returned v ∧ MtF ((dOf ga G O J).map mqD) v w' ∧ Ext w w' := by
 obtain ⟨_, o2, _⟩ := num_small nO hO
 obtain ⟨j1, j2, j3⟩ := num_small nJ hJ
 refine (all19_any bT bV bs' bu' ⟨#[109]⟩ ga ou pso ⟨#[109]⟩ G nu psn w h ho.rows hn.rows o2 j2 (by omega) (by decide) (by decide) j3 (dOf_few ga G ou nu pso psn O J w ho hn hO hJ nO nJ)).mono ?_
 rintro e w' ⟨v, L, rfl, h1, h2, hE⟩
 rw [hO, hJ] at h2
 exact ⟨v, rfl, ⟨L, h1, h2⟩, hE⟩
end
theorem sameX_parts {D : List (ByteArray × Int × List Ro)} {va vb : Value} {w : World} (ha : PtF D va w) (hb : PtF D vb w) :
  Calls Tryz.prog 14 #[va, vb] w fun e w' => e = .returned (.bool true) ∧ Ext w w' := by
 obtain ⟨A, a1, a2⟩ := ha.out
 obtain ⟨B, b1, b2⟩ := hb.out
 exact sameParts_any va vb A B (a2.trans b2.symm) w a1 b1
theorem sameX_muts {D : List Mq} {va vb : Value} {w : World} (ha : MtF D va w) (hb : MtF D vb w) :
  Calls Tryz.prog 17 #[va, vb] w fun e w' => e = .returned (.bool true) ∧ Ext w w' := by
 obtain ⟨A, a1, a2⟩ := ha.out
 obtain ⟨B, b1, b2⟩ := hb.out
 exact sameMts_any va vb A B (a2.trans b2.symm) w a1 b1
/-- What is shaded, what is brought back. -/
noncomputable def bkX (xk : ByteArray) (G : Int) (J X : List Ro) : List Ro := backRs dV xk 0 G J (cofK ⟨#[109]⟩) X
noncomputable def shX (xk : ByteArray) (G : Int) (J X : List Ro) : List Ro := shadeRs dV dNs xk 0 ⟨#[109]⟩ G (mergeRo J (bkX xk G J X)) (cofK ⟨#[109]⟩) X
/-- Both sides' answer. -/
structure OrX (J X : List Ro) (xk : ByteArray) (G : Int) (w : World) (v1 v2 : Value) (q1 q2 : List (Ro × Value)) : Prop where
 r1 : RowsT w v1 q1
 m1 : q1.map (·.1) = shX xk G J X
 r2 : RowsT w v2 q2
 m2 : q2.map (·.1) = bkX xk G J X
theorem OrX.ext {J X : List Ro} {xk : ByteArray} {G : Int} {w w' : World} {v1 v2 : Value} {q1 q2 : List (Ro × Value)} (hE : Ext w w') (h : OrX J X xk G w v1 v2 q1 q2) : OrX J X xk G w' v1 v2 q1 q2 := ⟨h.r1.ext hE, h.m1, h.r2.ext hE, h.m2⟩
theorem orphX_any (bs bu : Nat) (G : Int) (pu : Value) (ps : List (Ro × Value)) (xk : ByteArray) (xu : Value) (qs : List (Ro × Value)) (J X : List Ro) (w : World) (hp : RowsT w pu ps) (hq : RowsT w xu qs) (hns : StrsIn w (.slice (some ⟨bu, 0, none⟩) 2 2) dNs) (hJ : ps.map (·.1) = J) (hX : qs.map (·.1) = X) (nJ : NumRs J) (nX : XRs X) (hG : 0 ≤ G) :
  Calls Tryz.prog 11 #[tabV (.slice (some ⟨bs, 0, none⟩) 4 4), .agg #[.string dV.name, .int .i64 dV.id, .string dV.table, .string dV.on, .slice (some ⟨bu, 0, none⟩) 2 2], .agg #[.string ⟨#[109]⟩, .int .i64 G, pu], .agg #[.string xk, .int .i64 0, xu]] w fun e w' =>
   ∃ v1 v2 q1 q2, e = .returned (.tuple #[.agg #[.string xk, .int .i64 0, v1], .agg #[.string ⟨#[109]⟩, .int .i64 0, v2]]) ∧ OrX J X xk G w' v1 v2 q1 q2 ∧ Ext w w' := by
 have lp : ps.length ≤ 4 := by have := nJ.len; rw [← hJ, List.length_map] at this; exact this
 have lq : qs.length ≤ 4 := by have := nX.len; rw [← hX, List.length_map] at this; exact this
 have mp : ∀ p ∈ ps, p.1 ∈ J := fun p h => by rw [← hJ]; exact List.mem_map_of_mem h
 have mq : ∀ p ∈ qs, p.1 ∈ X := fun p h => by rw [← hX]; exact List.mem_map_of_mem h
 refine (orphan_any (.slice (some ⟨bs, 0, none⟩) 4 4) dV _ dNs ⟨#[109]⟩ G pu ps xk 0 xu qs (cofK ⟨#[109]⟩) w hp hq hns (fun p h => by have := (nJ.row _ (mp p h)).len; omega) (fun p h => by have := (nX.row _ (mq p h)).len; omega) hG (by omega) (by omega) (by decide) (fun p h => nX.cof (mq p h)) (fun l hl => ?_) (fun l hl => ?_)).mono ?_
 ·rw [hl, hJ, hX]; exact up_hup nX.backUp
 ·rw [hl, hX]; exact up_hup nX.shadeUp
 ·rintro e w' ⟨v1, v2, q1, q2, rfl, h1, h2, h3, h4, hE⟩
  rw [hJ, hX] at h2 h4
  exact ⟨v1, v2, q1, q2, rfl, ⟨h1, h2, h3, h4⟩, hE⟩
theorem orph19X_any (bu : Nat) (G : Int) (pu : Value) (ps : List (Ro × Value)) (xk : ByteArray) (xu : Value) (qs : List (Ro × Value)) (J X : List Ro) (w : World) (hp : RowsT w pu ps) (hq : RowsT w xu qs) (hns : StrsIn w (.slice (some ⟨bu, 0, none⟩) 2 2) dNs) (hJ : ps.map (·.1) = J) (hX : qs.map (·.1) = X) (nJ : NumRs J) (nX : XRs X) (hG : 0 ≤ G) :
  Calls Tryz.prog 12 #[.agg #[.string dV.name, .int .i64 dV.id, .string dV.table, .string dV.on, .slice (some ⟨bu, 0, none⟩) 2 2], .agg #[.string ⟨#[109]⟩, .int .i64 G, pu], .agg #[.string xk, .int .i64 0, xu]] w fun e w' =>
   ∃ v1 v2 q1 q2, e = .returned (.tuple #[.agg #[.string xk, .int .i64 0, v1], .agg #[.string ⟨#[109]⟩, .int .i64 0, v2]]) ∧ OrX J X xk G w' v1 v2 q1 q2 ∧ Ext w w' := by
 have lp : ps.length ≤ 4 := by have := nJ.len; rw [← hJ, List.length_map] at this; exact this
 have lq : qs.length ≤ 4 := by have := nX.len; rw [← hX, List.length_map] at this; exact this
 have mp : ∀ p ∈ ps, p.1 ∈ J := fun p h => by rw [← hJ]; exact List.mem_map_of_mem h
 have mq : ∀ p ∈ qs, p.1 ∈ X := fun p h => by rw [← hX]; exact List.mem_map_of_mem h
 refine (orph19_any dV _ dNs ⟨#[109]⟩ G pu ps xk 0 xu qs (cofK ⟨#[109]⟩) w hp.rows hq.rows hns (fun p h => by have := (nJ.row _ (mp p h)).len; omega) (fun p h => by have := (nX.row _ (mq p h)).len; omega) (by omega) (by omega) hG (by decide) (fun p h => nX.cof (mq p h)) (by rw [hX]; exact nX.ord) (by rw [hX, hJ]; exact nX.all nJ)).mono ?_
 rintro e w' ⟨v1, v2, q1, q2, rfl, h1, h2, h3, h4, hE⟩
 rw [hJ, hX, nX.fold nJ] at h2
 rw [hJ, hX, nX.is nJ] at h4
 exact ⟨v1, v2, q1, q2, rfl, ⟨h1, h2, h3, h4⟩, hE⟩

set_option maxRecDepth 100000 in
set_option maxHeartbeats 16000000 in
theorem law_deltaNumbers (v0 v1 : Value) (z y : List Int) (w : World) (hin : IntsIn w v0 .i64 z) (hiny : IntsIn w v1 .i64 y) (hz : z.length ≤ 60) (hy : y.length ≤ 60) :
  Calls Tryz.prog 3 #[v0, v1] w fun e w' => e = .returned (.bool true) ∧ Ext w w' := by
 obtain ⟨a, c, rfl, hc, hcm, ha⟩ := hin.block
 obtain ⟨ay, cy, rfl, hcy, hcmy, hay⟩ := hiny.block
 have t0 : decide ((60 : Int) < (z.length : Int)) = false := by simp; omega
 have t1 : decide ((60 : Int) < (y.length : Int)) = false := by simp; omega
 obtain ⟨yl, hyl⟩ : ∃ n, n = y.length := ⟨_, rfl⟩
 rw [← hyl] at hiny hcy t1 hy
 rw [← hyl]
 clear hyl
 go_enter Tryz.func3, Tryz.ntmps3
 go_wp2_with fail
 refine (view_any w).mono ?_
 rintro e w3 ⟨bs, bu, rfl, hns, hE3⟩
 go_wp2_with (first
  | (((guard_target =~ wpList _ _ _ (Oper.mk none (Op.store _ (Operand.tmp 5) (Operand.tmp 29)) _ _ _ _ :: _) _ _); go_must (refine storeBox rfl 28 (.tmp 5) (.tmp 29) rfl (w3.heap.size) _ _ _ (by rfl) (by rfl) (((BoxAt.made w3 #[.string ⟨#[]⟩, .int .i64 0, .string ⟨#[]⟩, .int .i64 0, .string ⟨#[]⟩, .int .i64 0, .slice none 0 0] 28).ext ((Ext.refl _).alloc _))) (by kernel_rfl) (by rfl) (by simp [Value.oneCell']) ?_); intro w4 c4 g4); have hX4 : Ext w3 w4 := (((Ext.refl w3).alloc _).alloc _).grown g4 (fun q hq => by cases hq; omega); have hv4 := (BoxAt.madeN #[.string ⟨#[]⟩, .int .i64 0, .string ⟨#[]⟩, .string ⟨#[]⟩, .slice none 0 0] 31 (show (w3.alloc (.cells #[.string ⟨#[]⟩, .int .i64 0, .string ⟨#[]⟩, .int .i64 0, .string ⟨#[]⟩, .int .i64 0, .slice none 0 0] 28)).heap.size = w3.heap.size + 1 by simp)).grown g4 (fun e => by have := Option.some.inj e; omega))
  | (((guard_target =~ wpList _ _ _ (Oper.mk none (Op.store _ (Operand.tmp 6) (Operand.tmp 30)) _ _ _ _ :: _) _ _); go_must (refine storeBox rfl 31 (.tmp 6) (.tmp 30) rfl (w3.heap.size + 1) _ _ _ (by rfl) (by rfl) (hv4) (by kernel_rfl) (by rfl) (by simp [Value.oneCell']) ?_); intro w5 c5 g5); have hX5 : Ext w3 w5 := hX4.grown g5 (fun q hq => by cases hq; omega); have b7 : BoxAt w5 w3.heap.size #[.string ⟨#[116]⟩, .int .i64 1, .string ⟨#[112]⟩, .int .i64 1, .string ⟨#[107]⟩, .int .i64 2, .slice (some ⟨bs, 0, none⟩) 4 4] 28 := c4.grown g5 (fun e => by have := Option.some.inj e; omega); have b8 : BoxAt w5 (w3.heap.size + 1) (vw5 dV (.slice (some ⟨bu, 0, none⟩) 2 2)) 31 := c5))
 have hE5 : Ext w w5 := hE3.trans hX5
 obtain ⟨bt, hbt⟩ : ∃ b, b = w3.heap.size := ⟨_, rfl⟩
 obtain ⟨bv, hbv⟩ : ∃ b, b = w3.heap.size + 1 := ⟨_, rfl⟩
 rw [← hbv] at b8
 rw [← hbt] at b7
 rw [← hbv, ← hbt]
 replace hns := hns.ext hX5
 have hin5 := hin.ext hE5
 clear hbt hbv c4 g4 hX4 hv4 c5 g5 hX5 hE3 hin
 refine (several_any _ z 3 (by omega) ⟨#[109]⟩ w5 hin5).mono ?_
 rintro e w6 ⟨v6, PL, rfl, hPLl, hPL, hgen, hE6⟩
 obtain ⟨a6, c6, rfl, hc6, hc6m, hget6⟩ := hPL.get
 obtain ⟨b6, rfl, hat0⟩ := hget6 0 (by omega)
 obtain ⟨ga, aa, _, ca, pa, p0, p1, p2, hra, rfl, hga, hgra⟩ := part_at hPL hgen 0 (by omega)
 obtain ⟨gb, ab, _, cb, pb, q0, q1, q2, hrb, rfl, hgb, hgrb⟩ := part_at hPL hgen 1 (by omega)
 obtain ⟨gc, ac, _, cc, pc, r0, r1, r2, hrc, rfl, hgc, hgrc⟩ := part_at hPL hgen 2 (by omega)
 rw [Nat.zero_mul] at p0 p1 p2
 rw [hPLl] at hc6 hPL ⊢
 have e7 := b7.ext hE6
 have e8 := b8.ext hE6
 have hns6 := hns.ext hE6
 have hE06 := hE5.trans hE6
 have hiny6 := hiny.ext hE06
 clear hat0 b7 b8 hns hE5 hE6 hPLl hgen hget6 hin5 hPL
 obtain ⟨T, hT⟩ : ∃ T : Nat, (T : Int) = (yl : Int) % 3 := ⟨((yl : Int) % 3).toNat, by omega⟩
 have hT3 : T < 3 := by omega
 have hw1 : IntKind.i64.wrap ((T : Int) + 1) = (T : Int) + 1 := by rw [IntKind.wrap_i64]; omega
 have s1 : decide ((T : Int) < 3) = true := by simp; omega
 obtain ⟨xk, hxk⟩ : ∃ vv : ByteArray, vv = (⟨#[120, 121, 122]⟩ : ByteArray).extract T (T + 1) := ⟨_, rfl⟩
 have HXK := Lib.hid hxk
 have HT := Lib.hid hT
 clear hxk hT
 go_wp2_with fail
 refine (place_any yl 3 (by decide) (by decide) w6).mono ?_
 rw [← HT.out]
 rintro e w7 ⟨rfl, rfl⟩
 go_wp2_with fail
 refine (place_any yl 3 (by decide) (by decide) w6).mono ?_
 rw [← HT.out]
 rintro e w7 ⟨rfl, rfl⟩
 go_wp2_with (((guard_target =~ wpList _ _ _ (Oper.mk none (Op.store _ (Operand.tmp 8) (Operand.tmp 41)) _ _ _ _ :: _) _ _); go_must (refine storeBox rfl 39 (.tmp 8) (.tmp 41) rfl (w6.heap.size) _ _ _ (by rfl) (by rfl) ((BoxAt.made w6 (pa3 ⟨#[]⟩ 0 (.slice none 0 0)) 39)) (by kernel_rfl) (by rfl) (by simp [Value.oneCell']) ?_); intro w7 c7 g7))
 have c8 : BoxAt (w7.alloc (.cells #[.slice ay yl cy] 42)) w7.heap.size #[.slice ay yl cy] 42 := BoxAt.made w7 _ _
 have d8 := c7.ext ((Ext.refl w7).alloc (.cells #[.slice ay yl cy] 42))
 have hX7 : Ext w6 w7 := ((Ext.refl w6).alloc _).grown g7 (fun q hq => by cases hq; omega)
 have hX8 : Ext w6 (w7.alloc (.cells #[.slice ay yl cy] 42)) := hX7.trans ((Ext.refl w7).alloc _)
 have hbxp := c7.lt
 have hbxw : w6.heap.size ≤ w6.heap.size := Nat.le_refl _
 generalize w7.alloc (.cells #[.slice ay yl cy] 42) = w8 at c8 d8 hX8 ⊢
 generalize w7.heap.size = p at c8 hbxp ⊢
 generalize hbx : w6.heap.size = bx at d8 hbxp ⊢
 have hpw : w6.heap.size ≤ p := by omega
 rw [← HXK.out] at d8 ⊢
 have hXL : XL w6 bx p xk w8 [] (.slice none 0 0) := ⟨d8, ⟨_, _, c8, hiny6⟩, hX8, World.ownsRow_nil _ _ _ _, nofun⟩
 have hK4 : pc.length ≤ 4 := by have := hgrc.len; simpa using this
 obtain ⟨a', c', ee, hcc, hccm, hgetc⟩ := hrc.rows.get
 injection ee with ee1 ee2 ee3
 subst ee1 ee3
 have HGET := Lib.hid hgetc
 obtain ⟨K, hK⟩ : ∃ K, K = pc.length := ⟨_, rfl⟩
 rw [← hK] at hcc r2
 have HK := Lib.hid hK
 clear c7 g7 hX7 d8 c8 hgetc hK ee2 t0 t1 s1 hw1
 go_loopw [10] (fun i wr => ∃ (k : Nat) (qs : List (Ro × Value)) (vo : Value), k ≤ K ∧ i = .int .i64 k ∧ Hid (qs.length = k) ∧ Hid ((qs.map (·.1)).map Ro.key = ((pc.map (·.1)).take k).map fun r => vkey ⟨#[109]⟩ r.key) ∧ Hid (∀ q ∈ qs, GenRow q.1) ∧ XL w6 bx p xk wr qs vo) (fun i _ => K - (intOf i).toNat)
 case atStart => exact ⟨0, [], _, Nat.zero_le _, rfl, rfl, rfl, nofun, hXL⟩
 case round =>
  obtain ⟨k, qs, vo, hk, rfl, HQL, HQK, HQG, hal⟩ := hrel
  have hql4 : qs.length ≤ 4 := by have := HQL.out; have := HK.out; omega
  have z2 := hal.ext.cell r2
  by_cases hlt : k < K
  ·have t2 : decide ((k : Int) < (K : Int)) = true := by simp; omega
   have hkp : k < pc.length := by rw [← HK.out]; exact hlt
   obtain ⟨bo, oo, eo, hat⟩ := HGET.out k hkp
   subst eo
   obtain ⟨key, hkey⟩ : ∃ k', k' = pc[k].1.key := ⟨_, rfl⟩
   have k0 := hat.c0
   rw [← hkey] at k0
   have HKEY := Lib.hid hkey
   have hks : key.size ≤ 10 := by
    obtain ⟨i, hi, e⟩ := hgrc.key pc[k].1 (List.mem_map_of_mem (List.getElem_mem hkp))
    rw [hkey, e]
    exact (ik_small5 i hi).1
   have HKS := Lib.hid hks
   have hpl : p < wr.heap.size := by obtain ⟨v, l, hv, _⟩ := hal.left; exact hv.lt
   clear hkey hat hks z2
   have z2 := hal.ext.cell r2
   go_wp2_with fail
   refine wp_region_relE (XC w6 bx p xk wr qs vo) (RX p vo (p + 1)) (Tab.atE [(1, fun v _ => v = vo), (6, fun v _ => v = .slice (some ⟨bo, oo, none⟩) K cc), (10, fun v _ => v = .string key), (11, fun v _ => v = .string (vkey ⟨#[109]⟩ key)), (12, fun v x => ∃ (r : Ro) (vc : Value), v = (.agg #[.string r.key, .string r.live.val, .bool r.live.dead, .int .i64 r.live.at_, .int .i64 r.live.fin, .int .i64 r.gone, .int .i64 r.shade, vc]) ∧ r.key = vkey ⟨#[109]⟩ key ∧ GenRow r ∧ ColsT x vc r.cols), (13, fun v x => ∃ (r : Ro) (vc : Value) (b : Nat), v = .slice (some ⟨b, 0, none⟩) 1 1 ∧ wr.heap.size ≤ b ∧ BoxAt x b (ro8 r vc) 47 ∧ r.key = vkey ⟨#[109]⟩ key ∧ GenRow r ∧ ColsT x vc r.cols), (14, fun v x => ∃ (r : Ro) (vc : Value), r.key = vkey ⟨#[109]⟩ key ∧ GenRow r ∧ ColsT x vc r.cols ∧ x.ownsRow (p + 1) 47 8 v (qs.length + 1) (roCells (qs ++ [(r, vc)])))])
    (Tab.staysE ⟨fun _ _ _ _ _ _ h => h, fun _ _ _ _ _ _ h => h, fun _ _ _ _ _ _ h => h, fun _ _ _ _ _ _ h => h, fun _ _ _ _ _ hR ⟨r, vc, e, h1, h2, h3⟩ => ⟨r, vc, e, h1, h2, RX_cols hR h3⟩, fun _ _ _ _ _ hR ⟨r, vc, b, e, hb, hx, h1, h2, h3⟩ => ⟨r, vc, b, e, hb, RX_far hal.own hpl hR hb hx, h1, h2, RX_cols hR h3⟩, fun _ hj _ _ _ hR ⟨r, vc, h1, h2, h3, h4⟩ => ⟨r, vc, h1, h2, RX_cols hR h3, RX_own hj hR h4⟩, trivial⟩)
    16 (by kernel_rfl) (by kernel_rfl) (by kernel_rfl) ((⟨hal, Nat.le_refl _⟩ : XC w6 bx p xk wr qs vo wr).upto (Ext.refl wr).drew) ?_
   refine relE_quiet rfl rfl rfl rfl ?_; intro K hK; go_big_quiet_op; (first | refine ⟨_, fun _ _ => rfl, hK _ ?_⟩ | refine hK _ ?_); clear hK K
   refine relE_val [] rfl rfl rfl (by kernel_rfl) (fun x hx hf => ?_) ?_
   ·obtain ⟨q0, q1, q2⟩ := hx.al.box.pa
    go_simp
    exact ⟨hx, RX_ext (W := w6) (by decide) hx.al.left (Ext.refl x), rfl⟩
   simp only [Act.put, List.setIfInBounds_toArray, List.set_cons_zero, List.set_cons_succ]
   refine relE_quiet rfl rfl rfl rfl ?_; intro K hK; go_big_quiet_op; (first | refine ⟨_, fun _ _ => rfl, hK _ ?_⟩ | refine hK _ ?_); clear hK K
   refine relE_quiet rfl rfl rfl rfl ?_; intro K hK; go_big_quiet_op; (first | refine ⟨_, fun _ _ => rfl, hK _ ?_⟩ | refine hK _ ?_); clear hK K
   refine relE_quiet rfl rfl rfl rfl ?_; intro K hK; go_big_quiet_op; (first | refine ⟨_, fun _ _ => rfl, hK _ ?_⟩ | refine hK _ ?_); clear hK K
   refine relE_quiet rfl rfl rfl rfl ?_; intro K hK; go_big_quiet_op; (first | refine ⟨_, fun _ _ => rfl, hK _ ?_⟩ | refine hK _ ?_); clear hK K
   refine relE_val [] rfl rfl rfl (by kernel_rfl) (fun x hx hf => ?_) ?_
   ·have q2 := hx.al.ext.cell r2
    go_simp
    exact ⟨hx, RX_ext (W := w6) (by decide) hx.al.left (Ext.refl x), rfl⟩
   simp only [Act.put, List.setIfInBounds_toArray, List.set_cons_zero, List.set_cons_succ]
   refine relE_quiet rfl rfl rfl rfl ?_; intro K hK; go_big_quiet_op; (first | refine ⟨_, fun _ _ => rfl, hK _ ?_⟩ | refine hK _ ?_); clear hK K
   refine relE_quiet rfl rfl rfl rfl ?_; intro K hK; go_big_quiet_op; (first | refine ⟨_, fun _ _ => rfl, hK _ ?_⟩ | refine hK _ ?_); clear hK K
   refine relE_quiet rfl rfl rfl rfl ?_; intro K hK; go_big_quiet_op; (first | refine ⟨_, fun _ _ => rfl, hK _ ?_⟩ | refine hK _ ?_); clear hK K
   refine relE_val [] rfl rfl rfl (by kernel_rfl) (fun x hx hf => ?_) ?_
   ·have q2 := hx.al.ext.cell k0
    go_simp
    exact ⟨hx, RX_ext (W := w6) (by decide) hx.al.left (Ext.refl x), rfl⟩
   simp only [Act.put, List.setIfInBounds_toArray, List.set_cons_zero, List.set_cons_succ]
   refine relE_val [] rfl rfl rfl (by kernel_rfl) (fun x hx hf => ?_) ?_
   ·go_simp
    exact (key18_any ⟨#[109]⟩ key x (by decide) (by have := HKS.out; omega)).mono fun e y ⟨he, hy⟩ => ⟨_, he, hx.upto (Ext.of_eq hy), RX_ext (W := w6) (by decide) hx.al.left (Ext.of_eq hy), rfl⟩
   simp only [Act.put, List.setIfInBounds_toArray, List.set_cons_zero, List.set_cons_succ]
   refine relE_fact [] rfl rfl rfl (by kernel_rfl) (fun x hx hf => ?_) (fun v5 x5 hC5 hG5 h5 => ?_)
   ·go_simp
    exact (lrow_any w6 p hpw (vkey ⟨#[109]⟩ key) x hx.al.ext hx.al.left).mono fun e y ⟨r, vc, he, hk', hr, ho, hg, hl⟩ => ⟨_, he, hx.call hbxp hpw hg hl, by unfold RX; rw [if_neg (by decide)]; exact ⟨hx.al.left.boxed, hg⟩, r, vc, rfl, hk', hr, TIn.own ho⟩
   obtain ⟨r5, vc5, rfl, hk5, hr5, hc5⟩ := h5
   clear hC5 hG5 hk5 hr5 hc5
   simp only [Act.put, List.setIfInBounds_toArray, List.set_cons_zero, List.set_cons_succ]
   refine relE_fact [12] rfl rfl rfl (by kernel_rfl) (fun x hx hf => ?_) (fun v6 x6 hC6 hG6 h6 => ?_)
   ·obtain ⟨r, vc, e, h1, h2, h3⟩ := (hf 12 (by simp)).2 rfl
    go_simp
    refine ⟨hx.upto ((Ext.refl x).alloc _), RX_ext (W := w6) (by decide) hx.al.left ((Ext.refl x).alloc _), r, vc, _, rfl, hx.size, ?_, h1, h2, h3.ext ((Ext.refl x).alloc _)⟩
    rw [h1]
    exact BoxAt.made x _ _
   obtain ⟨r6, vc6, b6', rfl, hb6, _⟩ := h6
   clear hC6 hG6
   simp only [Act.put, List.setIfInBounds_toArray, List.set_cons_zero, List.set_cons_succ]
   refine relE_fact [13] rfl rfl rfl (by kernel_rfl) (fun x hx hf => ?_) (fun v7 x7 hC7 hG7 h7 => ?_)
   ·obtain ⟨r, vc, b, e, _, hbox, h1, h2, h3⟩ := (hf 13 (by simp)).2 rfl
    cases e
    obtain ⟨av, cv, rfl⟩ := TIn.shape h3
    refine yields_append info_Row und_Rows rfl (by decide) (.tmp 55) (.tmp 67) rfl (p + 1) (by have := hx.al.left.boxed; obtain ⟨_, hb⟩ := this; exact hb.lt) vo qs.length (roCells qs) hx.al.own (by rfl) b6' 1 1 (ro8 r (.slice av r.cols.length cv)).toList (by rfl) (by rfl) (fun j u hj => by rw [hbox.cell j]; simpa using hj) (by simp [ro8, Value.oneCell']) (by unfold maxLen; omega) (by omega) ?_
    intro v' y hown' hg hkeep
    have hne : ∀ q, some q = vo.ownBlock → p + 1 ≤ q := fun q hq => (hx.al.own.lt q hq.symm).1
    have HR : RX p vo (p + 1) 14 x y := by unfold RX; rw [if_pos rfl]; exact ⟨⟨_, _, hx.al.own⟩, hg⟩
    refine ⟨⟨⟨hx.al.box.grown hg (fun e => by have := hne _ e; omega), ?_, ?_, hkeep, fun q hq => RX_cols HR (hx.al.typed q hq)⟩, Nat.le_trans hx.size hg.size⟩, HR, r, _, h1, h2, RX_cols HR h3, ?_⟩
    ·obtain ⟨vl, l, hv, hin⟩ := hx.al.left
     exact ⟨vl, l, hv.grown hg (fun e => by have := hne _ e; omega), hin⟩
    ·exact hx.al.ext.grown hg (fun q hq => by have := hne q hq.symm; omega)
    ·rw [roCells_append]
     exact hown'
   obtain ⟨r7, vc7, _, _, _, hown7⟩ := h7
   obtain ⟨a7, c7, rfl⟩ := ownsRow_shape hown7
   clear hC7 hG7 hown7
   simp only [Act.put, List.setIfInBounds_toArray, List.set_cons_zero, List.set_cons_succ]
   refine relE_quiet rfl rfl rfl rfl ?_; intro K hK; go_big_quiet_op; (first | refine ⟨_, fun _ _ => rfl, hK _ ?_⟩ | refine hK _ ?_); clear hK K
   refine relE_tail rfl rfl fun x hx hG => ?_
   obtain ⟨r, vc, h1, h2, h3, hown'⟩ := (hG 14).2 rfl
   clear hG
   obtain ⟨q0, q1, q2⟩ := hx.al.box.pa
   have qf := hx.al.box.free 2
   go_wp2_with fail
   go_roundw
   case rel =>
    refine ⟨k + 1, qs ++ [(r, vc)], _, by omega, by go_num, ?_, ?_, ?_, ⟨hx.al.box.set 2 _, hx.al.left.other (by omega), hx.al.ext.setCell (by show _ ≤ bx; omega) _, ?_, ?_⟩⟩
    ·show (qs ++ [(r, vc)]).length = k + 1
     have := HQL.out
     simp; omega
    ·show ((qs ++ [(r, vc)]).map (·.1)).map Ro.key = ((pc.map (·.1)).take (k + 1)).map fun r => vkey ⟨#[109]⟩ r.key
     rw [List.take_succ_eq_append_getElem (by rw [List.length_map]; exact hkp), List.map_append, List.map_append, List.map_append, HQK.out]
     simp only [List.map_cons, List.map_nil, List.getElem_map, h1, HKEY.out]
    ·show ∀ q ∈ qs ++ [(r, vc)], GenRow q.1
     intro q hq
     rcases List.mem_append.1 hq with hq | hq
     ·exact HQG.out q hq
     ·rw [List.mem_singleton.1 hq]; exact h2
    ·rw [List.length_append]
     exact ownsRow_setCell_below hown' (a := ⟨bx, 2, none⟩) (by show bx < p + 1; omega) _
    ·intro q hq
     rcases List.mem_append.1 hq with hq | hq
     ·exact TIn.set 2 _ hx.al.box (by decide) (hx.al.typed q hq)
     ·rw [List.mem_singleton.1 hq]
      exact TIn.set 2 _ hx.al.box (by decide) h3
   case measure => simp [intOf] <;> omega
  ·obtain rfl : k = K := by omega
   have hXR : XRs (qs.map (·.1)) := XRs.of hgrc (by rw [HQK.out, List.take_of_length_le (by rw [List.length_map, HK.out]; exact Nat.le_refl _)]) fun r hr => by obtain ⟨q, hq, rfl⟩ := List.mem_map.1 hr; exact HQG.out q hq
   have hrx : RowsT wr vo qs := ⟨TIn.own hal.own, hal.typed⟩
   have hrw := hal.ext
   have f7 := e7.ext hrw
   have f8 := e8.ext hrw
   have hb8 := hal.box
   have hnsw := hns6.ext hrw
   have hraw := hra.ext hrw
   have hrbw := hrb.ext hrw
   replace p0 := hrw.cell p0
   replace p1 := hrw.cell p1
   replace p2 := hrw.cell p2
   replace q0 := hrw.cell q0
   replace q1 := hrw.cell q1
   replace q2 := hrw.cell q2
   have hEw := hE06.trans hrw
   have hlbt := e7.lt
   have hlbv := e8.lt
   have hnA := hgra.num
   have hnB := hgrb.num
   have t2 : ¬ k < k := Nat.lt_irrefl _
   clear hlt HQK HQG hal hrc r0 r1 e7 e8 hns6 hra hrb hrw HGET hgc HK hK4 hXL hX8 hE06 hiny6 hiny
   go_wp2_with fail
   obtain ⟨J, hJ⟩ : ∃ J, J = mergeRo (pa.map (·.1)) (pb.map (·.1)) := ⟨_, rfl⟩
   obtain ⟨G, hG⟩ : ∃ G, G = max ga gb := ⟨_, rfl⟩
   have hnJ : NumRs J := by rw [hJ]; exact hnA.merge hnB
   have hJL : J.length ≤ 4 := hnJ.len
   have hG0 : 0 ≤ G := by omega
   have hfJ : foldG keyR foldRo (pa.map (·.1)) (pb.map (·.1)) = J := by rw [hJ]; exact fold_merge hnA.good hnB.good
   have HFJ := Lib.hid hfJ
   have HG := Lib.hid hG
   have la4 : pa.length ≤ 4 := by have := hnA.len; simpa using this
   have lb4 : pb.length ≤ 4 := by have := hnB.len; simpa using this
   have HFA := Lib.hid (show ∀ p ∈ pa, p.1.cols.length ≤ 900 from fun p hp => by have := (hnA.row p.1 (List.mem_map_of_mem hp)).len; omega)
   have HFB := Lib.hid (show ∀ p ∈ pb, p.1.cols.length ≤ 900 from fun p hp => by have := (hnB.row p.1 (List.mem_map_of_mem hp)).len; omega)
   have HP := Lib.hid (show _ ∧ _ ∧ _ ∧ _ ∧ _ ∧ _ from ⟨p0, p1, p2, q0, q1, q2⟩)
   obtain ⟨X, hX⟩ : ∃ X, qs.map (·.1) = X := ⟨_, rfl⟩
   rw [hX] at hXR
   have HX := Lib.hid hX
   clear hX
   clear hJ hG hfJ
   go_wp2_with fail
   refine wp_region_late_in 11 9 11 [(6, fun v x => ∃ v' qs, v = .tuple #[.agg #[.string ⟨#[109]⟩, .int .i64 G, v'], .bool true] ∧ RowsT x v' qs ∧ Hid (qs.map (·.1) = J)), (10, fun v x => ∃ b, v = .pointer (some ⟨b, 0, none⟩) ∧ wr.heap.size ≤ b ∧ BoxAt x b (pa3 ⟨#[]⟩ 0 (.slice none 0 0)) 39)] (by kernel_rfl) (by kernel_rfl) (by kernel_rfl) (by kernel_rfl) (fun c a d v w h => by cases d <;> exact h) ⟨fun _ _ _ hE ⟨v', qs, e, hr, hm⟩ => ⟨v', qs, e, hr.ext hE, hm⟩, fun _ _ _ hE ⟨b, e, h1, h2⟩ => ⟨b, e, h1, h2.ext hE⟩, trivial⟩ ?_
   simp only [late, List.modify_succ_cons, List.modify_zero_cons, List.push_toArray, List.cons_append, List.nil_append]
   replace p0 := held p0
   replace p1 := held p1
   replace p2 := held p2
   replace q0 := held q0
   replace q1 := held q1
   replace q2 := held q2
   refine rg_quiet rfl rfl rfl rfl ?_; intro K hK; go_big_quiet_op; go_big_quiet_on
   refine rg_quiet rfl rfl rfl rfl ?_; intro K hK; go_big_quiet_op; go_big_quiet_on
   refine rg_quiet rfl rfl rfl rfl ?_; intro K hK; go_big_quiet_op; go_big_quiet_on
   refine rg_quiet rfl rfl rfl rfl ?_; intro K hK; go_big_quiet_op; go_big_quiet_on
   refine rg_quiet rfl rfl rfl rfl ?_; intro K hK; go_big_quiet_op; go_big_quiet_on
   refine rg_quiet rfl rfl rfl rfl ?_; intro K hK; go_big_quiet_op; go_big_quiet_on
   refine rg_fact [] rfl rfl rfl (by kernel_rfl) (fun y hE hf => ?_) (fun v5 y hE5 hG5 h5 => ?_)
   ·go_simp
    refine (join8_any ⟨#[109]⟩ ⟨#[109]⟩ ga gb _ _ pa pb y (hraw.ext hE).rows (hrbw.ext hE).rows (by omega) (by omega) (fun p hp => by have := HFA.out p hp; omega) (fun p hp => by have := HFB.out p hp; omega)).mono ?_
    rw [HFJ.out, ← HG.out]
    rintro e y' ⟨hE', ⟨_, v', rfl, qs, hqs, hqm⟩ | ⟨hbad, _⟩⟩
    ·exact ⟨_, rfl, rg_doneR hE hE' ⟨v', rfl, qs, hqs, hqm⟩⟩
    ·omega
   obtain ⟨v9, qs9, rfl, _⟩ := h5
   clear hE5 hG5
   simp only [Act.put, List.setIfInBounds_toArray, List.set_cons_zero, List.set_cons_succ]
   refine rg_quiet rfl rfl rfl rfl ?_; intro K hK; go_big_quiet_op; go_big_quiet_on
   refine rg_quiet rfl rfl rfl rfl ?_; intro K hK; go_big_quiet_op; go_big_quiet_on
   refine rg_quiet rfl rfl rfl rfl ?_; intro K hK; go_big_quiet_op; go_big_quiet_on
   refine rg_fact [] rfl rfl rfl (by kernel_rfl) (fun y hE hf => ?_) (fun v5 y hE5 hG5 h5 => ?_)
   ·go_simp
    exact rg_doneR hE ((Ext.refl y).alloc _) ⟨_, rfl, hE.le, BoxAt.made y _ _⟩
   obtain ⟨b9, rfl, _⟩ := h5
   clear hE5 hG5
   simp only [Act.put, List.setIfInBounds_toArray, List.set_cons_zero, List.set_cons_succ]
   refine rel_tail rfl rfl fun w9 hE9 hG => ?_
   obtain ⟨v5, pj, e5, hrj, HJ⟩ := (hG 6).1.2 rfl
   obtain ⟨b9', e5', hb9, hbx9⟩ := (hG 10).2 rfl
   cases e5
   cases e5'
   obtain ⟨aj, cj, rfl⟩ := hrj.shape
   obtain ⟨nj, hnj⟩ : ∃ n, n = pj.length := ⟨_, rfl⟩
   rw [← hnj] at hrj
   rw [← hnj]
   obtain ⟨ax, cx, rfl⟩ := hrx.shape
   obtain ⟨nx, hnx⟩ : ∃ n, n = qs.length := ⟨_, rfl⟩
   rw [← hnx] at hrx hb8
   clear hnj hnx hG hql4 p0 p1 p2 q0 q1 q2 HQL
   go_wp2_with (((guard_target =~ wpList _ _ _ (Oper.mk none (Op.store _ (Operand.tmp 11) (Operand.tmp 78)) _ _ _ _ :: _) _ _); go_must (refine storeBox rfl 39 (.tmp 11) (.tmp 78) rfl (b9) _ _ _ (by rfl) (by rfl) (hbx9) (by kernel_rfl) (by rfl) (by simp [Value.oneCell']) ?_); intro w10 c10 g10); have hX10 : Ext wr w10 := hE9.grown g10 (fun q hq => by cases hq; omega); have t10 := f7.ext hX10; have v10 := f8.ext hX10; have x10 := hb8.ext hX10; have hrj10 := hrj.keep g10 hbx9 (by decide) (by decide); have z0 : w10.cell? ⟨bv, 0, none⟩ = some (.string dV.name) := v10.cell 0; have z1 : w10.cell? ⟨bv, 1, none⟩ = some (.int .i64 dV.id) := v10.cell 1; have z2 : w10.cell? ⟨bv, 2, none⟩ = some (.string dV.table) := v10.cell 2; have z3 : w10.cell? ⟨bv, 3, none⟩ = some (.string dV.on) := v10.cell 3; have z4 : w10.cell? ⟨bv, 4, none⟩ = some (.slice (some ⟨bu, 0, none⟩) 2 2) := v10.cell 4; have y0 : w10.cell? ⟨bt, 0, none⟩ = some (.string ⟨#[116]⟩) := t10.cell 0; have y1 : w10.cell? ⟨bt, 1, none⟩ = some (.int .i64 1) := t10.cell 1; have y2 : w10.cell? ⟨bt, 2, none⟩ = some (.string ⟨#[112]⟩) := t10.cell 2; have y3 : w10.cell? ⟨bt, 3, none⟩ = some (.int .i64 1) := t10.cell 3; have y4 : w10.cell? ⟨bt, 4, none⟩ = some (.string ⟨#[107]⟩) := t10.cell 4; have y5 : w10.cell? ⟨bt, 5, none⟩ = some (.int .i64 2) := t10.cell 5; have y6 : w10.cell? ⟨bt, 6, none⟩ = some (.slice (some ⟨bs, 0, none⟩) 4 4) := t10.cell 6; have m0 : w10.cell? ⟨bx, 0, none⟩ = some (.string xk) := x10.cell 0; have m1 : w10.cell? ⟨bx, 1, none⟩ = some (.int .i64 0) := x10.cell 1; have m2 : w10.cell? ⟨bx, 2, none⟩ = some (.slice ax nx cx) := x10.cell 2; have j0 : w10.cell? ⟨b9, 0, none⟩ = some (.string ⟨#[109]⟩) := c10.cell 0; have j1 : w10.cell? ⟨b9, 1, none⟩ = some (.int .i64 G) := c10.cell 1; have j2 : w10.cell? ⟨b9, 2, none⟩ = some (.slice aj nj cj) := c10.cell 2)
   have HZ := Lib.hid (show ∀ y, Ext w10 y → _ ∧ _ ∧ _ ∧ _ ∧ _ from fun y hE => ⟨hE.cell z0, hE.cell z1, hE.cell z2, hE.cell z3, hE.cell z4⟩)
   have HY := Lib.hid (show ∀ y, Ext w10 y → _ ∧ _ ∧ _ ∧ _ ∧ _ ∧ _ ∧ _ from fun y hE => ⟨hE.cell y0, hE.cell y1, hE.cell y2, hE.cell y3, hE.cell y4, hE.cell y5, hE.cell y6⟩)
   have HM := Lib.hid (show ∀ y, Ext w10 y → _ ∧ _ ∧ _ ∧ _ ∧ _ ∧ _ from fun y hE => ⟨hE.cell m0, hE.cell m1, hE.cell m2, hE.cell j0, hE.cell j1, hE.cell j2⟩)
   have hns10 := hnsw.ext hX10
   have hrx10 := hrx.ext hX10
   have hra10 := hraw.ext hX10
   have hE010 := hEw.trans hX10
   have hP := HP.out
   have HPP := Lib.hid (show ∀ y, Ext w10 y → _ ∧ _ ∧ _ from fun y hE => ⟨(hX10.trans hE).cell hP.1, (hX10.trans hE).cell hP.2.1, (hX10.trans hE).cell hP.2.2.1⟩)
   refine (orphX_any bs bu G _ pj xk _ qs J X w10 hrj10 hrx10 hns10 HJ.out HX.out hnJ hXR hG0).mono ?_
   rintro e w11 ⟨v1, v2, q1, q2, rfl, hor1, hE11⟩
   obtain ⟨a1, c1, rfl⟩ := hor1.r1.shape
   obtain ⟨a2, c2, rfl⟩ := hor1.r2.shape
   obtain ⟨n1, hn1⟩ : ∃ n, n = q1.length := ⟨_, rfl⟩
   obtain ⟨n2, hn2⟩ : ∃ n, n = q2.length := ⟨_, rfl⟩
   rw [← hn1, ← hn2] at hor1 ⊢
   clear hP HP hn1 hn2 z0 z1 z2 z3 z4 y0 y1 y2 y3 y4 y5 y6 m0 m1 m2 j0 j1 j2 f7 f8 hb8 hnsw hrx hraw hrbw hEw t10 v10 x10 c10 g10 hrj hE9 hbx9
   go_wp2_with (first
    | (((guard_target =~ wpList _ _ _ (Oper.mk none (Op.store _ (Operand.tmp 13) (Operand.tmp 86)) _ _ _ _ :: _) _ _); go_must (refine storeBox rfl 39 (.tmp 13) (.tmp 86) rfl (w11.heap.size) _ _ _ (by rfl) (by rfl) (((BoxAt.made w11 (pa3 ⟨#[]⟩ 0 (.slice none 0 0)) 39).ext ((Ext.refl _).alloc _))) (by kernel_rfl) (by rfl) (by simp [Value.oneCell']) ?_); intro w12 c12 g12); have hXw12 : Ext w11 w12 := (((Ext.refl w11).alloc _).alloc _).grown g12 (fun q hq => by cases hq; omega); have hv12 := (BoxAt.madeN (pa3 ⟨#[]⟩ 0 (.slice none 0 0)) 39 (show (w11.alloc (.cells (pa3 ⟨#[]⟩ 0 (.slice none 0 0)) 39)).heap.size = w11.heap.size + 1 by simp)).grown g12 (fun e => by have := Option.some.inj e; omega))
    | (((guard_target =~ wpList _ _ _ (Oper.mk none (Op.store _ (Operand.tmp 14) (Operand.tmp 87)) _ _ _ _ :: _) _ _); go_must (refine storeBox rfl 39 (.tmp 14) (.tmp 87) rfl (w11.heap.size + 1) _ _ _ (by rfl) (by rfl) (hv12) (by kernel_rfl) (by rfl) (by simp [Value.oneCell']) ?_); intro w13 c13 g13); have hX13 : Ext w11 w13 := hXw12.grown g13 (fun q hq => by cases hq; omega); have c12' := c12.grown g13 (fun e => by have := Option.some.inj e; omega); obtain ⟨z0, z1, z2, z3, z4⟩ := HZ.out w13 (hE11.trans hX13); obtain ⟨m0, m1, m2, j0, j1, j2⟩ := HM.out w13 (hE11.trans hX13)))
   have hE13 := hE11.trans hX13
   have hor13 := hor1.ext hX13
   have b13 : BoxAt w13 w11.heap.size (pa3 xk 0 (.slice a1 n1 c1)) 39 := c12'
   have b14 : BoxAt w13 (w11.heap.size + 1) (pa3 ⟨#[109]⟩ 0 (.slice a2 n2 c2)) 39 := c13
   refine (orph19X_any bu G _ pj xk _ qs J X w13 (hrj10.ext hE13) (hrx10.ext hE13) (hns10.ext hE13) HJ.out HX.out hnJ hXR hG0).mono ?_
   rintro e w14 ⟨v3, v4, q3, q4, rfl, hor3, hE14⟩
   obtain ⟨a3, c3, rfl⟩ := hor3.r1.shape
   obtain ⟨a4, c4, rfl⟩ := hor3.r2.shape
   obtain ⟨n3, hn3⟩ : ∃ n, n = q3.length := ⟨_, rfl⟩
   obtain ⟨n4, hn4⟩ : ∃ n, n = q4.length := ⟨_, rfl⟩
   rw [← hn3, ← hn4] at hor3 ⊢
   obtain ⟨B13, hB13⟩ : ∃ b, b = w11.heap.size := ⟨_, rfl⟩
   rw [← hB13] at b13 b14 ⊢
   have b13' := b13.ext hE14
   have b14' := b14.ext hE14
   have hor14 := hor13.ext hE14
   have hE1014 := hE13.trans hE14
   clear hn3 hn4 hB13 z0 z1 z2 z3 z4 m0 m1 m2 j0 j1 j2 c12 c13 g12 g13 c12' hv12 hXw12 hX13 hE11 hor1 hor13 b13 b14 hE13 hE14
   go_wp2_with (first
    | (((guard_target =~ wpList _ _ _ (Oper.mk none (Op.store _ (Operand.tmp 15) (Operand.tmp 93)) _ _ _ _ :: _) _ _); go_must (refine storeBox rfl 39 (.tmp 15) (.tmp 93) rfl (w14.heap.size) _ _ _ (by rfl) (by rfl) (((BoxAt.made w14 (pa3 ⟨#[]⟩ 0 (.slice none 0 0)) 39).ext ((Ext.refl _).alloc _))) (by kernel_rfl) (by rfl) (by simp [Value.oneCell']) ?_); intro w15 c15 g15); have hXw15 : Ext w14 w15 := (((Ext.refl w14).alloc _).alloc _).grown g15 (fun q hq => by cases hq; omega); have hv15 := (BoxAt.madeN (pa3 ⟨#[]⟩ 0 (.slice none 0 0)) 39 (show (w14.alloc (.cells (pa3 ⟨#[]⟩ 0 (.slice none 0 0)) 39)).heap.size = w14.heap.size + 1 by simp)).grown g15 (fun e => by have := Option.some.inj e; omega))
    | (((guard_target =~ wpList _ _ _ (Oper.mk none (Op.store _ (Operand.tmp 16) (Operand.tmp 94)) _ _ _ _ :: _) _ _); go_must (refine storeBox rfl 39 (.tmp 16) (.tmp 94) rfl (w14.heap.size + 1) _ _ _ (by rfl) (by rfl) (hv15) (by kernel_rfl) (by rfl) (by simp [Value.oneCell']) ?_); intro w16 c16 g16); have hX16 : Ext w14 w16 := hXw15.grown g16 (fun q hq => by cases hq; omega); have c15' := c15.grown g16 (fun e => by have := Option.some.inj e; omega)))
   have b13 := b13'.ext hX16
   have b14 := b14'.ext hX16
   have b15 : BoxAt w16 w14.heap.size (pa3 xk 0 (.slice a3 n3 c3)) 39 := c15'
   have b16 : BoxAt w16 (w14.heap.size + 1) (pa3 ⟨#[109]⟩ 0 (.slice a4 n4 c4)) 39 := c16
   have hor16 := hor14.ext hX16
   have hor36 := hor3.ext hX16
   have hE1016 := hE1014.trans hX16
   clear c15 c16 g15 g16 c15' hv15 hXw15 hX16 hor14 hor3 hE1014 b13' b14'
   obtain ⟨B15, hB15⟩ : ∃ b, b = w14.heap.size := ⟨_, rfl⟩
   rw [← hB15] at b15 b16 ⊢
   clear hB15
   refine (schema00_any w16).mono ?_
   rintro e w17 ⟨bT, bV, bs', bu', rfl, hSch, hE17⟩
   simp only [schV]
   go_wp2_with (((guard_target =~ wpList _ _ _ (Oper.mk none (Op.store _ (Operand.tmp 17) (Operand.tmp 95)) _ _ _ _ :: _) _ _); go_must (refine storeBox rfl 58 (.tmp 17) (.tmp 95) rfl (w17.heap.size) _ _ _ (by rfl) (by rfl) ((BoxAt.made w17 #[.int .i64 0, .slice none 0 0, .slice none 0 0] 58)) (by kernel_rfl) (by rfl) (by simp [Value.oneCell']) ?_); intro w18 c18 g18))
   have hX18 : Ext w17 w18 := ((Ext.refl w17).alloc _).grown g18 (fun q hq => by cases hq; omega)
   have b17 : BoxAt w18 w17.heap.size #[.int .i64 2, .slice (some ⟨bT, 0, none⟩) 1 1, .slice (some ⟨bV, 0, none⟩) 1 1] 58 := c18
   obtain ⟨B17, hB17⟩ : ∃ b, b = w17.heap.size := ⟨_, rfl⟩
   rw [← hB17] at b17 ⊢
   have hE1618 := hE17.trans hX18
   have hE1018 := hE1016.trans hE1618
   have hSch18 := hSch.ext hX18
   have hor1 := hor16.ext hE1618
   have hor3 := hor36.ext hE1618
   obtain ⟨z0, z1, z2, z3, z4⟩ := HZ.out w18 hE1018
   obtain ⟨y0, y1, y2, y3, y4, y5, y6⟩ := HY.out w18 hE1018
   obtain ⟨m0, m1, m2, j0, j1, j2⟩ := HM.out w18 hE1018
   obtain ⟨p0, p1, p2⟩ := HPP.out w18 hE1018
   replace z0 := held z0
   replace z1 := held z1
   replace z2 := held z2
   replace z3 := held z3
   replace z4 := held z4
   replace y0 := held y0
   replace y1 := held y1
   replace y2 := held y2
   replace y3 := held y3
   replace y4 := held y4
   replace y5 := held y5
   replace y6 := held y6
   replace j0 := held j0
   replace j1 := held j1
   replace j2 := held j2
   replace p0 := held p0
   replace p1 := held p1
   replace p2 := held p2
   have x0 := held (show w18.cell? ⟨B17, 0, none⟩ = some (.int .i64 2) from b17.cell 0)
   have x1 := held (show w18.cell? ⟨B17, 1, none⟩ = some (.slice (some ⟨bT, 0, none⟩) 1 1) from b17.cell 1)
   have x2 := held (show w18.cell? ⟨B17, 2, none⟩ = some (.slice (some ⟨bV, 0, none⟩) 1 1) from b17.cell 2)
   replace b13 := b13.ext hE1618
   replace b14 := b14.ext hE1618
   replace b15 := b15.ext hE1618
   replace b16 := b16.ext hE1618
   have k0 := held (show w18.cell? ⟨B13, 0, none⟩ = some (.string xk) from b13.cell 0)
   have k1 := held (show w18.cell? ⟨B13, 1, none⟩ = some (.int .i64 0) from b13.cell 1)
   have k2 := held (show w18.cell? ⟨B13, 2, none⟩ = some (.slice a1 n1 c1) from b13.cell 2)
   have l0 := held (show w18.cell? ⟨B13 + 1, 0, none⟩ = some (.string ⟨#[109]⟩) from b14.cell 0)
   have l1 := held (show w18.cell? ⟨B13 + 1, 1, none⟩ = some (.int .i64 0) from b14.cell 1)
   have l2 := held (show w18.cell? ⟨B13 + 1, 2, none⟩ = some (.slice a2 n2 c2) from b14.cell 2)
   have r0 := held (show w18.cell? ⟨B15, 0, none⟩ = some (.string xk) from b15.cell 0)
   have r1 := held (show w18.cell? ⟨B15, 1, none⟩ = some (.int .i64 0) from b15.cell 1)
   have r2 := held (show w18.cell? ⟨B15, 2, none⟩ = some (.slice a3 n3 c3) from b15.cell 2)
   have s0 := held (show w18.cell? ⟨B15 + 1, 0, none⟩ = some (.string ⟨#[109]⟩) from b16.cell 0)
   have s1 := held (show w18.cell? ⟨B15 + 1, 1, none⟩ = some (.int .i64 0) from b16.cell 1)
   have s2 := held (show w18.cell? ⟨B15 + 1, 2, none⟩ = some (.slice a4 n4 c4) from b16.cell 2)
   have hM1 := hor1.m1.trans hor3.m1.symm
   have hM2 := hor1.m2.trans hor3.m2.symm
   have HM1 := Lib.hid hM1
   have HM2 := Lib.hid hM2
   have hrj18 := hrj10.ext hE1018
   have hra18 := hra10.ext hE1018
   have hns18 := hns10.ext hE1018
   have hE018 := hE010.trans hE1018
   have HN := Lib.hid (show _ ∧ _ from ⟨hnA, hnJ⟩)
   have HO := Lib.hid (rfl : pa.map (·.1) = pa.map (·.1))
   obtain ⟨O, hO⟩ : ∃ O, pa.map (·.1) = O := ⟨_, rfl⟩
   rw [hO] at HN
   have HPO := Lib.hid hO
   obtain ⟨D, hD⟩ : ∃ D, D = dOf ga G O J := ⟨_, rfl⟩
   have HD := Lib.hid hD
   clear HO hO hD hM1 hM2 hnA hnB hnJ m0 m1 m2 hX18 b17 b13 b14 b15 b16 c18 g18 hSch hE17 hE1016 hE1618 hE010 hrj10 hra10 hns10 hrx10 hor16 hor36 HZ HY HM HPP hXR HX HFA HFB HG HFJ hB17 hE1018 hX10
   simp only [Act.put]
   refine wp_region_tab 46 [(8, fun v z => PtF D v z), (14, fun v z => PtF D v z), (15, fun v _ => v = .bool true), (23, fun v z => MtF (D.map mqD) v z), (29, fun v z => MtF (D.map mqD) v z), (30, fun v _ => v = .bool true), (35, fun v _ => v = .bool true), (40, fun v _ => v = .bool true), (43, fun v _ => v = .bool true)] (by kernel_rfl) (by kernel_rfl) (by kernel_rfl) ⟨fun _ _ _ hE h => h.ext hE, fun _ _ _ hE h => h.ext hE, stays_eq _, fun _ _ _ hE h => h.ext hE, fun _ _ _ hE h => h.ext hE, stays_eq _, stays_eq _, stays_eq _, stays_eq _, trivial⟩ ?_
   refine rg_quiet rfl rfl rfl rfl ?_; intro K hK; go_big_quiet_op; go_big_quiet_on
   refine rg_quiet rfl rfl rfl rfl ?_; intro K hK; go_big_quiet_op; go_big_quiet_on
   refine rg_quiet rfl rfl rfl rfl ?_; intro K hK; go_big_quiet_op; go_big_quiet_on
   refine rg_quiet rfl rfl rfl rfl ?_; intro K hK; go_big_quiet_op; go_big_quiet_on
   refine rg_quiet rfl rfl rfl rfl ?_; intro K hK; go_big_quiet_op; go_big_quiet_on
   refine rg_quiet rfl rfl rfl rfl ?_; intro K hK; go_big_quiet_op; go_big_quiet_on
   refine rg_quiet rfl rfl rfl rfl ?_; intro K hK; go_big_quiet_op; go_big_quiet_on
   refine rg_quiet rfl rfl rfl rfl ?_; intro K hK; go_big_quiet_op; go_big_quiet_on
   refine rg_fact [] rfl rfl rfl (by kernel_rfl) (fun u hE hf => ?_) (fun v8 u8 hE8 hG8 h8 => ?_)
   ·go_simp
    refine (ofX_any bs bu ga G _ _ pa pj O J u (hra18.ext hE) (hrj18.ext hE) HPO.out HJ.out HN.out.1 HN.out.2 (hns18.ext hE)).mono ?_
    rw [← HD.out]
    rintro e w' ⟨v', rfl, hi, hw⟩
    exact ⟨_, rfl, rg_doneR hE hw hi⟩
   clear hE8 hG8 h8
   simp only [Act.put, List.setIfInBounds_toArray, List.set_cons_zero, List.set_cons_succ]
   refine rg_quiet rfl rfl rfl rfl ?_; intro K hK; go_big_quiet_op; go_big_quiet_on
   refine rg_quiet rfl rfl rfl rfl ?_; intro K hK; go_big_quiet_op; go_big_quiet_on
   refine rg_quiet rfl rfl rfl rfl ?_; intro K hK; go_big_quiet_op; go_big_quiet_on
   refine rg_quiet rfl rfl rfl rfl ?_; intro K hK; go_big_quiet_op; go_big_quiet_on
   refine rg_quiet rfl rfl rfl rfl ?_; intro K hK; go_big_quiet_op; go_big_quiet_on
   refine rg_fact [] rfl rfl rfl (by kernel_rfl) (fun u hE hf => ?_) (fun v14 u14 hE14 hG14 h14 => ?_)
   ·go_simp
    refine (of19X_any bu ga G _ _ pa pj O J u (hra18.ext hE) (hrj18.ext hE) HPO.out HJ.out HN.out.1 HN.out.2 (hns18.ext hE)).mono ?_
    rw [← HD.out]
    rintro e w' ⟨v', rfl, hi, hw⟩
    exact ⟨_, rfl, rg_doneR hE hw hi⟩
   clear hE14 hG14 h14
   simp only [Act.put, List.setIfInBounds_toArray, List.set_cons_zero, List.set_cons_succ]
   refine rg_val [8, 14] rfl rfl rfl (by kernel_rfl) (fun w1 hE hf => ?_) ?_
   ·go_simp
    exact (sameX_parts ((hf 8 (by simp)).1.2 rfl) ((hf 14 (by simp)).2 rfl)).mono fun e w' ⟨he, hw⟩ => ⟨_, he, rg_done hE hw (rfl)⟩
   simp only [Act.put, List.setIfInBounds_toArray, List.set_cons_zero, List.set_cons_succ]
   refine rg_quiet rfl rfl rfl rfl ?_; intro K hK; go_big_quiet_op; go_big_quiet_on
   refine rg_quiet rfl rfl rfl rfl ?_; intro K hK; go_big_quiet_op; go_big_quiet_on
   refine rg_quiet rfl rfl rfl rfl ?_; intro K hK; go_big_quiet_op; go_big_quiet_on
   refine rg_quiet rfl rfl rfl rfl ?_; intro K hK; go_big_quiet_op; go_big_quiet_on
   refine rg_quiet rfl rfl rfl rfl ?_; intro K hK; go_big_quiet_op; go_big_quiet_on
   refine rg_quiet rfl rfl rfl rfl ?_; intro K hK; go_big_quiet_op; go_big_quiet_on
   refine rg_quiet rfl rfl rfl rfl ?_; intro K hK; go_big_quiet_op; go_big_quiet_on
   refine rg_fact [] rfl rfl rfl (by kernel_rfl) (fun u hE hf => ?_) (fun v23 u23 hE23 hG23 h23 => ?_)
   ·go_simp
    refine (allX_any ga G _ _ pa pj O J u (hra18.ext hE) (hrj18.ext hE) HPO.out HJ.out HN.out.1 HN.out.2 bT bV bs' bu' (hSch18.ext hE)).mono ?_
    rw [← HD.out]
    rintro e w' ⟨v', rfl, hi, hw⟩
    exact ⟨_, rfl, rg_doneR hE hw hi⟩
   clear hE23 hG23 h23
   simp only [Act.put, List.setIfInBounds_toArray, List.set_cons_zero, List.set_cons_succ]
   refine rg_quiet rfl rfl rfl rfl ?_; intro K hK; go_big_quiet_op; go_big_quiet_on
   refine rg_quiet rfl rfl rfl rfl ?_; intro K hK; go_big_quiet_op; go_big_quiet_on
   refine rg_quiet rfl rfl rfl rfl ?_; intro K hK; go_big_quiet_op; go_big_quiet_on
   refine rg_quiet rfl rfl rfl rfl ?_; intro K hK; go_big_quiet_op; go_big_quiet_on
   refine rg_quiet rfl rfl rfl rfl ?_; intro K hK; go_big_quiet_op; go_big_quiet_on
   refine rg_fact [] rfl rfl rfl (by kernel_rfl) (fun u hE hf => ?_) (fun v29 u29 hE29 hG29 h29 => ?_)
   ·go_simp
    refine (all19X_any ga G _ _ pa pj O J u (hra18.ext hE) (hrj18.ext hE) HPO.out HJ.out HN.out.1 HN.out.2 bT bV bs' bu' (hSch18.ext hE)).mono ?_
    rw [← HD.out]
    rintro e w' ⟨v', rfl, hi, hw⟩
    exact ⟨_, rfl, rg_doneR hE hw hi⟩
   clear hE29 hG29 h29
   simp only [Act.put, List.setIfInBounds_toArray, List.set_cons_zero, List.set_cons_succ]
   refine rg_val [23, 29] rfl rfl rfl (by kernel_rfl) (fun w1 hE hf => ?_) ?_
   ·go_simp
    exact (sameX_muts ((hf 23 (by simp)).1.2 rfl) ((hf 29 (by simp)).2 rfl)).mono fun e w' ⟨he, hw⟩ => ⟨_, he, rg_done hE hw (rfl)⟩
   simp only [Act.put, List.setIfInBounds_toArray, List.set_cons_zero, List.set_cons_succ]
   refine rg_quiet rfl rfl rfl rfl ?_; intro K hK; go_big_quiet_op; go_big_quiet_on
   refine rg_quiet rfl rfl rfl rfl ?_; intro K hK; go_big_quiet_op; go_big_quiet_on
   refine rg_quiet rfl rfl rfl rfl ?_; intro K hK; go_big_quiet_op; go_big_quiet_on
   refine rg_quiet rfl rfl rfl rfl ?_; intro K hK; go_big_quiet_op; go_big_quiet_on
   refine rg_val [] rfl rfl rfl (by kernel_rfl) (fun w1 hE hf => ?_) ?_
   ·go_simp
    exact ((same8_alike xk 0 _ _ q1 q3 _ (hor1.r1.ext hE).rows (hor3.r1.ext hE).rows HM1.out)).mono fun e w' ⟨he, hw⟩ => ⟨_, he, rg_done hE hw (rfl)⟩
   simp only [Act.put, List.setIfInBounds_toArray, List.set_cons_zero, List.set_cons_succ]
   refine rg_quiet rfl rfl rfl rfl ?_; intro K hK; go_big_quiet_op; go_big_quiet_on
   refine rg_quiet rfl rfl rfl rfl ?_; intro K hK; go_big_quiet_op; go_big_quiet_on
   refine rg_quiet rfl rfl rfl rfl ?_; intro K hK; go_big_quiet_op; go_big_quiet_on
   refine rg_quiet rfl rfl rfl rfl ?_; intro K hK; go_big_quiet_op; go_big_quiet_on
   refine rg_val [] rfl rfl rfl (by kernel_rfl) (fun w1 hE hf => ?_) ?_
   ·go_simp
    exact ((same8_alike ⟨#[109]⟩ 0 _ _ q2 q4 _ (hor1.r2.ext hE).rows (hor3.r2.ext hE).rows HM2.out)).mono fun e w' ⟨he, hw⟩ => ⟨_, he, rg_done hE hw (rfl)⟩
   simp only [Act.put, List.setIfInBounds_toArray, List.set_cons_zero, List.set_cons_succ]
   refine rg_quiet rfl rfl rfl rfl ?_; intro K hK; go_big_quiet_op; go_big_quiet_on
   refine rg_quiet rfl rfl rfl rfl ?_; intro K hK; go_big_quiet_op; go_big_quiet_on
   refine rg_val [] rfl rfl rfl (by kernel_rfl) (fun w1 hE hf => ?_) ?_
   ·go_simp
    exact ((awake19_any _)).mono fun e w' ⟨he, hw⟩ => ⟨_, he, rg_done hE hw (rfl)⟩
   simp only [Act.put, List.setIfInBounds_toArray, List.set_cons_zero, List.set_cons_succ]
   refine rg_quiet rfl rfl rfl rfl ?_; intro K hK; go_big_quiet_op; go_big_quiet_on
   refine rg_quiet rfl rfl rfl rfl ?_; intro K hK; go_big_quiet_op; go_big_quiet_on
   refine rel_nil fun w19 hE19 _ => ?_
   go_wp2_with fail
   go_ret
   exact ⟨rfl, hE018.trans hE19⟩
theorem law_deltaNumbers_long (v0 v1 : Value) (z y : List Int) (w : World) (hin : IntsIn w v0 .i64 z) (hiny : IntsIn w v1 .i64 y) (hz : 60 < z.length) :
  Calls Tryz.prog 3 #[v0, v1] w fun e w' => e = .returned (.bool true) ∧ Ext w w' := by
 obtain ⟨a, c, rfl, hc, hcm, ha⟩ := hin.block
 obtain ⟨ay, cy, rfl, hcy, hcmy, hay⟩ := hiny.block
 have t0 : decide ((60 : Int) < (z.length : Int)) = true := by simp; omega
 go_enter Tryz.func3, Tryz.ntmps3
 go_wp2_with fail
 refine (awake19_any w).mono ?_
 rintro e w10 ⟨rfl, hE10⟩
 go_wp2_with fail
 go_ret
 exact ⟨rfl, hE10⟩
theorem law_deltaNumbers_long2 (v0 v1 : Value) (z y : List Int) (w : World) (hin : IntsIn w v0 .i64 z) (hiny : IntsIn w v1 .i64 y) (hz : z.length ≤ 60) (hy : 60 < y.length) :
  Calls Tryz.prog 3 #[v0, v1] w fun e w' => e = .returned (.bool true) ∧ Ext w w' := by
 obtain ⟨a, c, rfl, hc, hcm, ha⟩ := hin.block
 obtain ⟨ay, cy, rfl, hcy, hcmy, hay⟩ := hiny.block
 have t0 : decide ((60 : Int) < (z.length : Int)) = false := by simp; omega
 have t1 : decide ((60 : Int) < (y.length : Int)) = true := by simp; omega
 go_enter Tryz.func3, Tryz.ntmps3
 go_wp2_with fail
 refine (awake19_any w).mono ?_
 rintro e w10 ⟨rfl, hE10⟩
 go_wp2_with fail
 go_ret
 exact ⟨rfl, hE10⟩
theorem walk_deltaNumbers (v0 v1 : Value) (W : World) (w0 : ∃ l : List Int, IntsIn W v0 .i64 l ∧ ∀ n ∈ l, (Lit.int .i64 n).wf = true) (w1 : ∃ l : List Int, IntsIn W v1 .i64 l ∧ ∀ n ∈ l, (Lit.int .i64 n).wf = true) :
  Calls Tryz.prog 3 #[v0, v1] W fun e w' => e = .returned (.bool true) ∧ Ext W w' := by
 obtain ⟨z, hin, _⟩ := w0
 obtain ⟨y, hiny, _⟩ := w1
 by_cases hz : z.length ≤ 60
 ·by_cases hy : y.length ≤ 60
  ·exact law_deltaNumbers v0 v1 z y W hin hiny hz hy
  ·exact law_deltaNumbers_long2 v0 v1 z y W hin hiny hz (by omega)
 ·exact law_deltaNumbers_long v0 v1 z y W hin hiny (by omega)
end Go.Proofs.YtolkhjdododdaaaGreatDoor
