/- delta.Of's answer as plain data. -/
import Derived.Test.YtolkhjdododdaaaGreatDoorP16
import Derived.Test.YtolkhjdododdaaaGreatDoorP19
import Derived.Test.YtolkhjdododdaaaGreatDoorP20
import Derived.Test.YtolkhjdododdaaaGreatDoorP17
import Derived.Test.YtolkhjdododdaaaGreatDoorP8
set_option linter.unusedSimpArgs false
set_option linter.unusedVariables false
namespace Go.Proofs.YtolkhjdododdaaaGreatDoor
open Go Go.RowKit

/-- What a change of a row turns in a view. -/
noncomputable def stepD (x : Vw) (ng : Int) (r : Ro) : Option (ByteArray × Ro) → Option (ByteArray × Ro) → List (ByteArray × Ro)
 | none, none => []
 | none, some q => [q]
 | some p, none => [(p.1, leftRo x p.2 r ng)]
 | some p, some q => if eqB p.1 q.1 then (if eqB p q then [] else [q]) else [(p.1, leftRo x p.2 r ng), q]
noncomputable def deltaRs (x : Vw) (ns : List ByteArray) (ok : ByteArray) (og : Int) (nk : ByteArray) (ng : Int) (old : List Ro) : List Ro → List (ByteArray × Ro)
 | [] => []
 | r :: l => stepD x ng r (mirOf x ns ok og (rowOf old r.key)) (mirOf x ns nk ng r) ++ deltaRs x ns ok og nk ng old l
theorem deltaRs_snoc (x : Vw) (ns : List ByteArray) (ok : ByteArray) (og : Int) (nk : ByteArray) (ng : Int) (old : List Ro) (l : List Ro) (r : Ro) : deltaRs x ns ok og nk ng old (l ++ [r]) = deltaRs x ns ok og nk ng old l ++ stepD x ng r (mirOf x ns ok og (rowOf old r.key)) (mirOf x ns nk ng r) := by
 induction l with
 | nil => simp [deltaRs]
 | cons a l ih => simp only [List.cons_append, deltaRs, ih, List.append_assoc]
def outP (l : List (ByteArray × Ro)) : List (ByteArray × Int × List Ro) := l.map fun p => (p.1, 0, [p.2])
theorem rowOf_is (l : List Ro) (key : ByteArray) : (rowOf l key).key = key := by
 induction l with
 | nil => rfl
 | cons r l ih =>
  unfold rowOf
  split
  ·rename_i h; exact bytes_ext (by simpa using h)
  ·exact ih
theorem rowOf_or (l : List Ro) (key : ByteArray) : rowOf l key ∈ l ∨ (rowOf l key).cols = [] := by
 induction l with
 | nil => exact .inr rfl
 | cons r l ih =>
  unfold rowOf
  split
  ·exact .inl (List.mem_cons_self ..)
  ·exact ih.imp_left (List.mem_cons_of_mem _)
end Go.Proofs.YtolkhjdododdaaaGreatDoor

/- delta.Orphan: what it computes as plain functions; what stays true while its loops run. -/
namespace Go.Proofs.YtolkhjdododdaaaGreatDoor
open Go Go.RowKit

def zeroRo : Ro := ⟨⟨#[]⟩, zeroCl, 0, 0, []⟩
/-- What a view's row brings back to its base. -/
noncomputable def backL (x : Vw) (xk : ByteArray) (xg g : Int) (r b : Ro) : List Ro := if eqB (joinRo b (knownRo x xk xg r b g)) b then [] else [joinRo (knownRo x xk xg r b g) zeroRo]
noncomputable def backRs (x : Vw) (xk : ByteArray) (xg g : Int) (base : List Ro) (cof : Ro → ByteArray) (l : List Ro) : List Ro := l.flatMap fun r => backL x xk xg g r (rowOf base (cof r))
theorem backRs_snoc (x : Vw) (xk : ByteArray) (xg g : Int) (base : List Ro) (cof : Ro → ByteArray) (l : List Ro) (r : Ro) : backRs x xk xg g base cof (l ++ [r]) = backRs x xk xg g base cof l ++ backL x xk xg g r (rowOf base (cof r)) := by
 unfold backRs; rw [List.flatMap_append]; simp
/-- What of a view's rows is to be shaded. -/
def idleB (xg : Int) (r : Ro) : Bool := decide (r.live.at_ < 1) || decide (r.live.at_ ≤ r.shade) || decide (r.live.at_ ≤ max r.gone xg)
def strayB (m : Option (ByteArray × Ro)) (xk : ByteArray) : Bool := !m.isSome || !((mirK m).toList == xk.toList)
def shadeL (x : Vw) (ns : List ByteArray) (xk : ByteArray) (xg : Int) (pk : ByteArray) (pg : Int) (r b : Ro) : List Ro := if idleB xg r then [] else if strayB (mirOf x ns pk pg b) xk then [leftRo x r b pg] else []
def shadeRs (x : Vw) (ns : List ByteArray) (xk : ByteArray) (xg : Int) (pk : ByteArray) (pg : Int) (base : List Ro) (cof : Ro → ByteArray) (l : List Ro) : List Ro := l.flatMap fun r => shadeL x ns xk xg pk pg r (rowOf base (cof r))
theorem shadeRs_snoc (x : Vw) (ns : List ByteArray) (xk : ByteArray) (xg : Int) (pk : ByteArray) (pg : Int) (base : List Ro) (cof : Ro → ByteArray) (l : List Ro) (r : Ro) : shadeRs x ns xk xg pk pg base cof (l ++ [r]) = shadeRs x ns xk xg pk pg base cof l ++ shadeL x ns xk xg pk pg r (rowOf base (cof r)) := by
 unfold shadeRs; rw [List.flatMap_append]; simp

theorem joinRo_len (a b : Ro) : (joinRo a b).cols.length ≤ a.cols.length + b.cols.length := mergeCo_len _ _
theorem known_len (x : Vw) (xk : ByteArray) (xg : Int) (r b : Ro) (g : Int) : (knownRo x xk xg r b g).cols.length ≤ r.cols.length + 1 := by
 unfold knownRo
 split
 ·exact joinRo_len _ _
 ·exact Nat.le_succ _
theorem rowOf_cols {l : List Ro} {m : Nat} (h : ∀ r ∈ l, r.cols.length ≤ m) (key : ByteArray) : (rowOf l key).cols.length ≤ m := by
 rcases rowOf_or l key with h1 | h1
 ·exact h _ h1
 ·rw [h1]; exact Nat.zero_le _
theorem backL_cols {x : Vw} {xk : ByteArray} {xg g : Int} {r b q : Ro} (h : q ∈ backL x xk xg g r b) : q.cols.length ≤ r.cols.length + 1 := by
 unfold backL at h
 split at h
 ·simp at h
 ·rw [List.mem_singleton.1 h]
  have h1 := joinRo_len (knownRo x xk xg r b g) zeroRo
  have h2 := known_len x xk xg r b g
  have h3 : zeroRo.cols.length = 0 := rfl
  omega
theorem backL_len (x : Vw) (xk : ByteArray) (xg g : Int) (r b : Ro) : (backL x xk xg g r b).length ≤ 1 := by unfold backL; split <;> simp
theorem shadeL_len (x : Vw) (ns : List ByteArray) (xk : ByteArray) (xg : Int) (pk : ByteArray) (pg : Int) (r b : Ro) : (shadeL x ns xk xg pk pg r b).length ≤ 1 := by unfold shadeL; split <;> (try split) <;> simp
theorem flat_len {α β : Type} {f : α → List β} (h : ∀ a, (f a).length ≤ 1) (l : List α) : (l.flatMap f).length ≤ l.length := by
 induction l with
 | nil => simp
 | cons a l ih => rw [List.flatMap_cons, List.length_append, List.length_cons]; have := h a; omega
theorem backRs_cols {x : Vw} {xk : ByteArray} {xg g : Int} {base : List Ro} {cof : Ro → ByteArray} {l : List Ro} {m : Nat} (h : ∀ r ∈ l, r.cols.length ≤ m) : ∀ q ∈ backRs x xk xg g base cof l, q.cols.length ≤ m + 1 := by
 intro q hq
 obtain ⟨r, hr, hq⟩ := List.mem_flatMap.1 hq
 have := backL_cols hq
 have := h r hr
 omega
theorem merge_cols {l m : List Ro} {a b : Nat} (hl : ∀ r ∈ l, r.cols.length ≤ a) (hm : ∀ r ∈ m, r.cols.length ≤ b) : ∀ r ∈ mergeRo l m, r.cols.length ≤ a + b := by
 intro r hr
 rcases mem_mergeG hr with h | h | ⟨p, hp, q, hq, _, rfl⟩
 ·exact Nat.le_trans (hl r h) (by omega)
 ·exact Nat.le_trans (hm r h) (by omega)
 ·have h1 := joinRo_len p q
  have := hl p hp
  have := hm q hq
  omega

/-- What stays true from round to round: w is where the function began, w0 where the loop did. -/
structure OP (w : World) (X B : Nat) (k : ByteArray) (w0 : World) (vl : Value) (L : List (Ro × Value)) (y : World) : Prop where
 ext : Ext w y
 keep : ∀ q cs T, BoxAt w0 q cs T → q ≠ X → BoxAt y q cs T
 box : BoxAt y X (pa3 k 0 vl) 39
 own : y.ownsRow B 47 8 vl L.length (roCells L)
 rows : ∀ p ∈ L, ColsT y p.2 p.1.cols
 size : B ≤ y.heap.size
section
variable {w w0 : World} {X B : Nat} {k : ByteArray} {vl : Value} {L : List (Ro × Value)}
theorem OP.ext' {y z : World} (hE : Ext y z) (h : OP w X B k w0 vl L y) : OP w X B k w0 vl L z :=
 ⟨h.ext.trans hE, fun q cs T h1 h2 => (h.keep q cs T h1 h2).ext hE, h.box.ext hE, ownsRow_ext h.own hE, fun p hp => (h.rows p hp).ext hE, Nat.le_trans h.size hE.le⟩
theorem OP.tin {y : World} (h : OP w X B k w0 vl L y) {cs : Array Value} (hx : BoxAt w0 X cs 39) {e : TypeId} (he : e ≠ 39) {v : Value} {n : Nat} {xs : List Value} (ht : TIn w0 e v n xs) : TIn y e v n xs :=
 ht.imp_right fun ⟨b, c, Z, e1, hb, h1⟩ => ⟨b, c, Z, e1, h.keep _ _ _ hb (box_ne hb hx he), h1⟩
theorem OP.rowsT {y : World} (h : OP w X B k w0 vl L y) {cs : Array Value} (hx : BoxAt w0 X cs 39) {v : Value} {qs : List (Ro × Value)} (hr : RowsT w0 v qs) : RowsT y v qs :=
 ⟨h.tin hx (by decide) hr.tin, fun p hp => h.tin hx (by decide) (hr.typed p hp)⟩
theorem OP.grow {y z : World} (h : OP w X B k w0 vl L y) (hw : w.heap.size ≤ B) (hX : X < B) (hB : w0.heap.size ≤ B) (hg : y.grownBy z vl.ownBlock) (hk : z.ownsRow B 47 8 vl L.length (roCells L)) : OP w X B k w0 vl L z := by
 have ne : ∀ b, b < B → some b ≠ vl.ownBlock := fun b hb e => by have := (h.own.lt _ e.symm).1; omega
 exact ⟨h.ext.grown hg (fun q hq => Nat.le_trans hw (h.own.lt q hq).1), fun q cs T h1 h2 => (h.keep q cs T h1 h2).grown hg (ne _ (Nat.lt_of_lt_of_le h1.lt hB)), h.box.grown hg (ne _ hX), hk, fun p hp => TIn.keepOwn h.own hg (by decide) (h.rows p hp), Nat.le_trans h.size hg.size⟩
theorem OP.put {z : World} {v' : Value} {p : Ro × Value} (h : OP w X B k w0 vl L z) (hwX : w.heap.size ≤ X) (hown : z.ownsRow B 47 8 v' (L.length + 1) (roCells (L ++ [p]))) (hp : ColsT z p.2 p.1.cols) : OP w X B k w0 v' (L ++ [p]) (z.setCell ⟨X, 2, none⟩ v') := by
 refine ⟨h.ext.setCell hwX _, fun q cs T h1 h2 => (h.keep q cs T h1 h2).other h2 2 _, h.box.set 2 v', ?_, ?_, ?_⟩
 ·rw [List.length_append]; exact own_setCell hown (own_ne_box hown h.box (by decide))
 ·intro q hq
  rcases List.mem_append.1 hq with hq | hq
  ·exact TIn.set 2 v' h.box (by decide) (h.rows q hq)
  ·rw [List.mem_singleton.1 hq]; exact TIn.set 2 v' h.box (by decide) hp
 ·rw [Deep.nblk_setCell]; exact h.size
end

/-- Operation n appends to a list of rows of one's own; the others let memory grow. -/
def OrE (vl : Value) (B n j : Nat) (x y : World) : Prop := if j = n then (∃ m xs, x.ownsRow B 47 8 vl m xs) ∧ x.grownBy y vl.ownBlock else Ext x y
theorem OrE_ext {vl : Value} {B n j : Nat} {x y : World} (hj : j ≠ n) (h : Ext x y) : OrE vl B n j x y := by unfold OrE; rw [if_neg hj]; exact h
theorem OrE_off {vl : Value} {B n j : Nat} {x y : World} (hj : j ≠ n) (h : OrE vl B n j x y) : Ext x y := by unfold OrE at h; rwa [if_neg hj] at h
theorem OrE_tin {vl : Value} {B n j : Nat} {x y : World} (h : OrE vl B n j x y) {e : TypeId} (he : e ≠ 47) {v : Value} {m : Nat} {xs : List Value} (ht : TIn x e v m xs) : TIn y e v m xs := by
 unfold OrE at h
 split at h
 ·obtain ⟨⟨m, xs, hown⟩, hg⟩ := h
  exact ht.keepOwn hown hg he
 ·exact ht.ext h
theorem OrE_far {wr : World} {vl : Value} {B n j m : Nat} {xs : List Value} (hown : wr.ownsRow B 47 8 vl m xs) {x y : World} (h : OrE vl B n j x y) {b : Nat} (hb : wr.heap.size ≤ b) {cs : Array Value} {e : TypeId} (hx : BoxAt x b cs e) : BoxAt y b cs e := by
 unfold OrE at h
 split at h
 ·exact hx.grown h.2 (fun e => by have := (hown.lt _ e.symm).2; omega)
 ·exact hx.ext h
/-- What stays true while a row is put behind a list. -/
structure OQ (P : World → Prop) (q : Nat) (r : Ro) (v : Value) (y : World) : Prop where
 op : P y
 box : BoxAt y q (ro8 r v) 47
 cols : ColsT y v r.cols
/-- The same, of two rows. -/
structure OQ2 (P : World → Prop) (q : Nat) (r : Ro) (v : Value) (q2 : Nat) (r2 : Ro) (v2 : Value) (S : Nat) (y : World) : Prop where
 op : P y
 box : BoxAt y q (ro8 r v) 47
 box2 : BoxAt y q2 (ro8 r2 v2) 47
 cols : ColsT y v r.cols
 cols2 : ColsT y v2 r2.cols
 size : S ≤ y.heap.size
theorem OQ2.ext' {P : World → Prop} {q : Nat} {r : Ro} {v : Value} {q2 : Nat} {r2 : Ro} {v2 : Value} {S : Nat} {y z : World} (hE : Ext y z) (h : OQ2 P q r v q2 r2 v2 S y) (hP : P z) : OQ2 P q r v q2 r2 v2 S z :=
 ⟨hP, h.box.ext hE, h.box2.ext hE, h.cols.ext hE, h.cols2.ext hE, Nat.le_trans h.size hE.le⟩
end Go.Proofs.YtolkhjdododdaaaGreatDoor

/- delta.Orphan. -/
namespace Go.Proofs.YtolkhjdododdaaaGreatDoor
open Go Go.RowKit
attribute [local go_sem] yields yUpon ro8 pa3 vw5 tabV

set_option maxRecDepth 100000 in
set_option maxHeartbeats 16000000 in
theorem orphan_any (s : Value) (x : Vw) (u : Value) (ns : List ByteArray) (pk : ByteArray) (pg : Int) (pu : Value) (ps : List (Ro × Value)) (xk : ByteArray) (xg : Int) (xu : Value) (qs : List (Ro × Value)) (cof : Ro → ByteArray) (w : World)
  (hp : RowsT w pu ps) (hq : RowsT w xu qs) (hns : StrsIn w u ns) (hcp : ∀ p ∈ ps, p.1.cols.length ≤ 50000) (hcq : ∀ p ∈ qs, p.1.cols.length ≤ 50000) (hpg : 0 ≤ pg) (hlq : qs.length ≤ 19) (hlp : ps.length + qs.length ≤ 100)
  (hpk : pk.size ≤ 1000000) (hkey : ∀ p ∈ qs, p.1.key = vkey pk (cof p.1) ∧ (cof p.1).size ≤ 1000000 ∧ (vkey pk (cof p.1)).size ≤ 400)
  (hupB : ∀ l : List Ro, l = backRs x xk xg pg (ps.map (·.1)) cof (qs.map (·.1)) → ∀ (k : Nat) (h : k + 1 < l.length), ¬ keyR l[k + 1] l[k] < 0)
  (hupS : ∀ l : List Ro, l = shadeRs x ns xk xg pk pg (mergeRo (ps.map (·.1)) (backRs x xk xg pg (ps.map (·.1)) cof (qs.map (·.1)))) cof (qs.map (·.1)) → ∀ (k : Nat) (h : k + 1 < l.length), ¬ keyR l[k + 1] l[k] < 0) :
  Calls Tryz.prog 11 #[tabV s, .agg #[.string x.name, .int .i64 x.id, .string x.table, .string x.on, u], .agg #[.string pk, .int .i64 pg, pu], .agg #[.string xk, .int .i64 xg, xu]] w fun e w' =>
   ∃ v1 v2 ps1 ps2, e = .returned (.tuple #[.agg #[.string xk, .int .i64 0, v1], .agg #[.string pk, .int .i64 0, v2]]) ∧ RowsT w' v1 ps1 ∧ ps1.map (·.1) = shadeRs x ns xk xg pk pg (mergeRo (ps.map (·.1)) (backRs x xk xg pg (ps.map (·.1)) cof (qs.map (·.1)))) cof (qs.map (·.1)) ∧
    RowsT w' v2 ps2 ∧ ps2.map (·.1) = backRs x xk xg pg (ps.map (·.1)) cof (qs.map (·.1)) ∧ Ext w w' := by
 obtain ⟨a0, a1, a2, a3, a4, hE⟩ := boxes5 w #[.string ⟨#[116]⟩, .int .i64 1, .string ⟨#[112]⟩, .int .i64 1, .string ⟨#[107]⟩, .int .i64 2, s] (vw5 x u) (pa3 pk pg pu) (pa3 xk xg xu) (pa3 ⟨#[]⟩ 0 (.slice none 0 0)) 28 31 39 39 39
 obtain ⟨au, cu, rfl, hcu, hcmu, hget⟩ := hq.rows.get
 obtain ⟨n, hnn⟩ : ∃ n, n = qs.length := ⟨_, rfl⟩
 rw [← hnn] at hlq hlp hcu a0 a1 a2 a3 a4 hE ⊢
 have HN := Lib.hid hnn
 have HGET := Lib.hid hget
 have HKEY := Lib.hid hkey
 have HQT := Lib.hid hq.typed
 obtain ⟨BK, hBK⟩ : ∃ BK, BK = backRs x xk xg pg (ps.map (·.1)) cof (qs.map (·.1)) := ⟨_, rfl⟩
 rw [← hBK] at hupB hupS ⊢
 have HBK := Lib.hid hBK
 have HUB := Lib.hid hupB
 have HUS := Lib.hid hupS
 have HQ := Lib.hid hq
 have HP := Lib.hid hp
 have HNS := Lib.hid hns
 have HCP := Lib.hid hcp
 have HCQ := Lib.hid hcq
 clear hnn hget hkey hupB hupS hBK hq hp hns hcp hcq
 unfold tabV
 go_enter Tryz.func11, Tryz.ntmps11
 go_wp2_with fail
 have b0 := a0.ext ((Ext.refl _).alloc (.cells (pa3 ⟨#[]⟩ 0 (.slice none 0 0)) 39))
 have b1 := a1.ext ((Ext.refl _).alloc (.cells (pa3 ⟨#[]⟩ 0 (.slice none 0 0)) 39))
 have b2 := a2.ext ((Ext.refl _).alloc (.cells (pa3 ⟨#[]⟩ 0 (.slice none 0 0)) 39))
 have b3 := a3.ext ((Ext.refl _).alloc (.cells (pa3 ⟨#[]⟩ 0 (.slice none 0 0)) 39))
 have b4 := a4.ext ((Ext.refl _).alloc (.cells (pa3 ⟨#[]⟩ 0 (.slice none 0 0)) 39))
 have b5 := BoxAt.madeN (n := w.heap.size + 1 + 1 + 1 + 1 + 1) (pa3 ⟨#[]⟩ 0 (.slice none 0 0)) 39 (show (((((w.alloc (.cells #[.string ⟨#[116]⟩, .int .i64 1, .string ⟨#[112]⟩, .int .i64 1, .string ⟨#[107]⟩, .int .i64 2, s] 28)).alloc (.cells (vw5 x u) 31)).alloc (.cells (pa3 pk pg pu) 39)).alloc (.cells (pa3 xk xg (.slice au n cu)) 39)).alloc (.cells (pa3 ⟨#[]⟩ 0 (.slice none 0 0)) 39)).heap.size = w.heap.size + 1 + 1 + 1 + 1 + 1 by rw [Deep.nblk_alloc, Deep.nblk_alloc, Deep.nblk_alloc, Deep.nblk_alloc, Deep.nblk_alloc])
 have hE6 := hE.alloc (.cells (pa3 ⟨#[]⟩ 0 (.slice none 0 0)) 39)
 simp only [pa3, vw5] at b0 b1 b2 b3 b4 b5 hE6
 clear a0 a1 a2 a3 a4 hE
 generalize World.alloc (World.alloc (World.alloc (World.alloc (World.alloc (World.alloc w _) _) _) _) _) _ = w0 at b0 b1 b2 b3 b4 b5 hE6 ⊢
 have y0 : w0.cell? ⟨w.heap.size + 1 + 1 + 1, 0, none⟩ = some (.string xk) := b3.cell 0
 have y1 : w0.cell? ⟨w.heap.size + 1 + 1, 0, none⟩ = some (.string pk) := b2.cell 0
 have y2 : w0.cell? ⟨w.heap.size + 1 + 1 + 1 + 1, 0, none⟩ = some (.string ⟨#[]⟩) := b4.cell 0
 have y3 : w0.cell? ⟨w.heap.size + 1 + 1 + 1 + 1 + 1, 0, none⟩ = some (.string ⟨#[]⟩) := b5.cell 0
 have f4 := b4.free 0
 have f5 := b5.free 0
 go_region
 have c0 := ((b0.other (q := w.heap.size + 1 + 1 + 1 + 1) (by omega) 0 (.string xk)).other (q := w.heap.size + 1 + 1 + 1 + 1 + 1) (by omega) 0 (.string pk)).ext (Ext.refl _).drew
 have c1 := ((b1.other (q := w.heap.size + 1 + 1 + 1 + 1) (by omega) 0 (.string xk)).other (q := w.heap.size + 1 + 1 + 1 + 1 + 1) (by omega) 0 (.string pk)).ext (Ext.refl _).drew
 have c2 := ((b2.other (q := w.heap.size + 1 + 1 + 1 + 1) (by omega) 0 (.string xk)).other (q := w.heap.size + 1 + 1 + 1 + 1 + 1) (by omega) 0 (.string pk)).ext (Ext.refl _).drew
 have c3 := ((b3.other (q := w.heap.size + 1 + 1 + 1 + 1) (by omega) 0 (.string xk)).other (q := w.heap.size + 1 + 1 + 1 + 1 + 1) (by omega) 0 (.string pk)).ext (Ext.refl _).drew
 have c4 := ((b4.set 0 (.string xk)).other (q := w.heap.size + 1 + 1 + 1 + 1 + 1) (by omega) 0 (.string pk)).ext (Ext.refl _).drew
 have c5 := ((b5.other (q := w.heap.size + 1 + 1 + 1 + 1) (by omega) 0 (.string xk)).set 0 (.string pk)).ext (Ext.refl _).drew
 have hEA := ((hE6.setCell (p := ⟨w.heap.size + 1 + 1 + 1 + 1, 0, none⟩) (show w.heap.size ≤ w.heap.size + 1 + 1 + 1 + 1 by omega) (.string xk)).setCell (p := ⟨w.heap.size + 1 + 1 + 1 + 1 + 1, 0, none⟩) (show w.heap.size ≤ w.heap.size + 1 + 1 + 1 + 1 + 1 by omega) (.string pk)).drew
 clear b0 b1 b2 b3 b4 b5 hE6 y0 y1 y2 y3 f4 f5
 generalize World.drew (World.setCell (World.setCell w0 _ _) _ _) = wA at c0 c1 c2 c3 c4 c5 hEA ⊢
 clear w0
 replace c0 : BoxAt wA w.heap.size #[.string ⟨#[116]⟩, .int .i64 1, .string ⟨#[112]⟩, .int .i64 1, .string ⟨#[107]⟩, .int .i64 2, s] 28 := c0
 replace c1 : BoxAt wA (w.heap.size + 1) (vw5 x u) 31 := c1
 replace c2 : BoxAt wA (w.heap.size + 1 + 1) (pa3 pk pg pu) 39 := c2
 replace c3 : BoxAt wA (w.heap.size + 1 + 1 + 1) (pa3 xk xg (.slice au n cu)) 39 := c3
 replace c4 : BoxAt wA (w.heap.size + 1 + 1 + 1 + 1) (pa3 xk 0 (.slice none 0 0)) 39 := c4
 replace c5 : BoxAt wA (w.heap.size + 1 + 1 + 1 + 1 + 1) (pa3 pk 0 (.slice none 0 0)) 39 := c5
 have hl5 := c5.lt
 have hwA : w.heap.size ≤ wA.heap.size := hEA.le
 have hop : OP w (w.heap.size + 1 + 1 + 1 + 1 + 1) wA.heap.size pk wA (.slice none 0 0) [] wA := ⟨hEA, fun _ _ _ h _ => h, c5, World.ownsRow_nil _ _ _ _, nofun, Nat.le_refl _⟩
 obtain ⟨x0, x1, x2⟩ := c3.pa
 have HC0 := Lib.hid c0
 have HC1 := Lib.hid c1
 have HC2 := Lib.hid c2
 have HC3 := Lib.hid c3
 have HC4 := Lib.hid c4
 clear c0 c1 c2 c3 c4 c5
 go_wp2_with fail
 go_loopw [34] (fun i wr => ∃ (k : Nat) (vl : Value) (L : List (Ro × Value)), k ≤ n ∧ i = .int .i64 k ∧ OP w (w.heap.size + 1 + 1 + 1 + 1 + 1) wA.heap.size pk wA vl L wr ∧ L.length ≤ k ∧ Hid (L.map (·.1) = backRs x xk xg pg (ps.map (·.1)) cof ((qs.map (·.1)).take k))) (fun i _ => n - (intOf i).toNat)
 case atStart => exact ⟨0, _, [], Nat.zero_le _, rfl, hop, by simp, rfl⟩
 case round =>
  obtain ⟨k, vl, L, hk, rfl, hop, hLk, HD⟩ := hrel
  obtain ⟨al, cl, rfl⟩ := own_shape hop.own
  by_cases hlt : k < n
  ·have hkp : k < qs.length := by rw [← HN.out]; exact hlt
   have hmem := List.getElem_mem hkp
   have hcM := HQT.out _ hmem
   have hlM := HCQ.out _ hmem
   obtain ⟨hk1, hk2, hk3⟩ := HKEY.out _ hmem
   obtain ⟨b, o, rfl, hat⟩ := HGET.out k hkp
   have hsnoc : (qs.map (·.1)).take (k + 1) = (qs.map (·.1)).take k ++ [qs[k].1] := by
    rw [List.take_succ_eq_append_getElem (by simpa using hkp)]
    simp
   obtain ⟨M, hM⟩ : ∃ M, M = qs[k].1 := ⟨_, rfl⟩
   obtain ⟨um, cm, hu⟩ := TIn.shape hcM
   rw [← hM] at hlM hcM hu hsnoc hat hk1 hk2 hk3
   rw [hu] at hcM hat
   have HSN := Lib.hid hsnoc
   have HK1 := Lib.hid hk1
   have HK2 := Lib.hid hk2
   clear hM hu hsnoc hmem hk1 hk2 hk3
   obtain ⟨x0, x1, x2, x3, x4, x5, x6, x7⟩ := hat.ext hop.ext
   obtain ⟨R, hR⟩ : ∃ R, R = rowOf (ps.map (·.1)) (cof M) := ⟨_, rfl⟩
   have HR := Lib.hid hR
   have hRc : R.cols.length ≤ 50000 := by
    rw [hR]
    refine rowOf_cols (fun r hr => ?_) _
    obtain ⟨p, hp, rfl⟩ := List.mem_map.1 hr
    exact HCP.out p hp
   clear hR
   go_wp2_with (((guard_target =~ wpList _ _ _ (Oper.mk none (Op.store _ (Operand.tmp 12) (Operand.tmp 37)) _ _ _ _ :: _) _ _); go_must (refine storeBox rfl 47 (.tmp 12) (.tmp 37) rfl (wr.heap.size) _ _ _ (by rfl) (by rfl) ((BoxAt.made wr (ro8 ⟨⟨#[]⟩, zeroCl, 0, 0, []⟩ (.slice none 0 0)) 47)) (by kernel_rfl) (by rfl) (by simp [Value.oneCell']) ?_); intro w1 d1 g1); have hX1 : Ext wr w1 := ((Ext.refl wr).alloc _).grown g1 (fun q hq => by cases hq; omega); have e1 := d1.ro (r := ⟨M.key, M.live, M.gone, M.shade, M.cols⟩) (v := .slice um M.cols.length cm))
   have op1 := hop.ext' hX1
   have r1 : BoxAt w1 wr.heap.size (ro8 M (.slice um M.cols.length cm)) 47 := d1
   refine (ownRow_any (w.heap.size + 1 + 1) pk pg pu ps M _ (cof M) w1 (op1.keep _ _ _ HC2.out (by omega)) (HP.out.rows.ext op1.ext) (fun p hp => Nat.le_trans (HCP.out p hp) (by omega)) HK1.out hpk HK2.out).mono ?_
   rw [← HR.out]
   rintro e w2 ⟨v2, rfl, hc2, hE2⟩
   obtain ⟨a2, cc2, rfl⟩ := TIn.shape hc2
   have op2 := op1.ext' hE2
   have r2 := r1.ext hE2
   clear d1 g1 e1 x0 x1 x2 x3 x4 x5 x6 x7 r1
   go_wp2_with (((guard_target =~ wpList _ _ _ (Oper.mk none (Op.store _ (Operand.tmp 13) (Operand.tmp 42)) _ _ _ _ :: _) _ _); go_must (refine storeBox rfl 47 (.tmp 13) (.tmp 42) rfl (w2.heap.size) _ _ _ (by rfl) (by rfl) ((BoxAt.made w2 (ro8 ⟨⟨#[]⟩, zeroCl, 0, 0, []⟩ (.slice none 0 0)) 47)) (by kernel_rfl) (by rfl) (by simp [Value.oneCell']) ?_); intro w3 d3 g3); have hX3 : Ext w2 w3 := ((Ext.refl w2).alloc _).grown g3 (fun q hq => by cases hq; omega); have op3 := op2.ext' hX3; have r3 := r2.ext hX3; have m3 := r3.ro; have e3 := d3.ro (r := R) (v := .slice a2 R.cols.length cc2); have v3 := (op3.keep _ _ _ HC1.out (by omega)).vw; have p3 := (op3.keep _ _ _ HC2.out (by omega)).pa; have q3 := (op3.keep _ _ _ HC3.out (by omega)).pa)
   have b3 : BoxAt w3 w2.heap.size (ro8 R (.slice a2 R.cols.length cc2)) 47 := d3
   have hcR3 : ColsT w3 (.slice a2 R.cols.length cc2) R.cols := TIn.ext hX3 hc2
   have hcM3 : ColsT w3 (.slice um M.cols.length cm) M.cols := TIn.ext op3.ext hcM
   refine (known_any x u xk xg _ M R _ _ pg w3 hcM3 (by omega)).mono ?_
   obtain ⟨K, hK⟩ : ∃ K, K = knownRo x xk xg M R pg := ⟨_, rfl⟩
   have hKc : K.cols.length ≤ 50001 := by have := known_len x xk xg M R pg; rw [← hK] at this; omega
   rw [← hK]
   have HK := Lib.hid hK
   clear hK
   rintro e w4 ⟨v4, rfl, hc4, hE4⟩
   obtain ⟨a4, cc4, rfl⟩ := TIn.shape hc4
   have op4 := op3.ext' hE4
   have r4 := r3.ext hE4
   have b4 := b3.ext hE4
   have hcR4 : ColsT w4 (.slice a2 R.cols.length cc2) R.cols := TIn.ext hE4 hcR3
   clear d3 g3 m3 e3 v3 p3 q3 r3 b3 hcR3 hcM3 r2 op1 op2 op3 hc2
   go_wp2_with (((guard_target =~ wpList _ _ _ (Oper.mk none (Op.store _ (Operand.tmp 15) (Operand.tmp 51)) _ _ _ _ :: _) _ _); go_must (refine storeBox rfl 47 (.tmp 15) (.tmp 51) rfl (w4.heap.size) _ _ _ (by rfl) (by rfl) ((BoxAt.made w4 (ro8 ⟨⟨#[]⟩, zeroCl, 0, 0, []⟩ (.slice none 0 0)) 47)) (by kernel_rfl) (by rfl) (by simp [Value.oneCell']) ?_); intro w5 d5 g5); have hX5 : Ext w4 w5 := ((Ext.refl w4).alloc _).grown g5 (fun q hq => by cases hq; omega))
   have op5 := op4.ext' hX5
   have b5 := b4.ext hX5
   have k5 : BoxAt w5 w4.heap.size (ro8 K (.slice a4 K.cols.length cc4)) 47 := d5
   have hcR5 : ColsT w5 (.slice a2 R.cols.length cc2) R.cols := TIn.ext hX5 hcR4
   have hcK5 : ColsT w5 (.slice a4 K.cols.length cc4) K.cols := TIn.ext hX5 hc4
   have hlt4 := b4.lt
   have own4 := op4.own
   clear d5 g5 r4 b4 hcR4 hc4 op4
   obtain ⟨x0, x1, x2, x3, x4, x5, x6, x7⟩ := b5.ro
   obtain ⟨y0, y1, y2, y3, y4, y5, y6, y7⟩ := k5.ro
   obtain ⟨J1, hJ1⟩ : ∃ J, J = joinRo R K := ⟨_, rfl⟩
   obtain ⟨E, hEE⟩ : ∃ E, E = eqB J1 R := ⟨_, rfl⟩
   have HJ1 := Lib.hid hJ1
   have HEE := Lib.hid hEE
   clear hJ1 hEE
   simp only [Act.put]
   refine wp_region_tab 6 [(2, fun v y => ∃ v', v = (.agg #[.string J1.key, .string J1.live.val, .bool J1.live.dead, .int .i64 J1.live.at_, .int .i64 J1.live.fin, .int .i64 J1.gone, .int .i64 J1.shade, v']) ∧ ColsT y v' J1.cols), (4, fun v _ => v = .bool E)] (by kernel_rfl) (by kernel_rfl) (by kernel_rfl) ⟨fun _ _ _ hE ⟨v', e, h⟩ => ⟨v', e, TIn.ext hE h⟩, stays_eq _, trivial⟩ ?_
   replace x0 := held x0
   replace x1 := held x1
   replace x2 := held x2
   replace x3 := held x3
   replace x4 := held x4
   replace x5 := held x5
   replace x6 := held x6
   replace x7 := held x7
   replace y0 := held y0
   replace y1 := held y1
   replace y2 := held y2
   replace y3 := held y3
   replace y4 := held y4
   replace y5 := held y5
   replace y6 := held y6
   replace y7 := held y7
   refine rg_quiet rfl rfl rfl rfl ?_; intro K hK; go_big_quiet_op; go_big_quiet_on
   refine rg_quiet rfl rfl rfl rfl ?_; intro K hK; go_big_quiet_op; go_big_quiet_on
   refine rg_fact [] rfl rfl rfl (by kernel_rfl) (fun y hY hf => ?_) (fun v2 y2 hE2 hG2 h2 => ?_)
   ·go_simp
    refine (rowJoin_any R K _ _ y (ColsT.cols (TIn.ext hY hcR5)) (ColsT.cols (TIn.ext hY hcK5)) (by omega)).mono ?_
    rw [← HJ1.out]
    rintro e y' ⟨v', rfl, hown', hy⟩
    exact ⟨_, rfl, rg_doneR hY hy ⟨v', rfl, TIn.own hown'⟩⟩
   obtain ⟨v2, rfl, h2⟩ := h2
   obtain ⟨aj, cj, rfl⟩ := TIn.shape h2
   clear hE2 hG2 h2
   simp only [Act.put, List.setIfInBounds_toArray, List.set_cons_zero, List.set_cons_succ]
   refine rg_quiet rfl rfl rfl rfl ?_; intro K hK; go_big_quiet_op; go_big_quiet_on
   refine rg_val [2] rfl rfl rfl (by kernel_rfl) (fun y hY hf => ?_) ?_
   ·obtain ⟨u2, e2, h2⟩ := (hf 2 (by simp)).2 rfl
    cases e2
    go_simp
    exact (rowSame_any J1 R _ _ y (ColsT.cols h2) (ColsT.cols (TIn.ext hY hcR5))).mono fun e w' ⟨he, hw⟩ => ⟨_, he, rg_done hY hw (by rw [HEE.out])⟩
   simp only [Act.put, List.setIfInBounds_toArray, List.set_cons_zero, List.set_cons_succ]
   refine rg_quiet rfl rfl rfl rfl ?_; intro K hK; go_big_quiet_op; go_big_quiet_on
   refine rel_nil fun w6 hE6 _ => ?_
   obtain ⟨J2, hJ2⟩ : ∃ J, J = joinRo K zeroRo := ⟨_, rfl⟩
   have HJ2 := Lib.hid hJ2
   clear hJ2
   have HSTEP : Hid (backRs x xk xg pg (ps.map (·.1)) cof ((qs.map (·.1)).take (k + 1)) = L.map (·.1) ++ if E then [] else [J2]) := by
    show _ = _
    rw [HSN.out, backRs_snoc, ← HR.out, HD.out]
    unfold backL
    rw [← HK.out, ← HJ1.out, ← HEE.out, ← HJ2.out]
   have op6 := op5.ext' hE6
   have k6 := k5.ext hE6
   have hcK6 : ColsT w6 (.slice a4 K.cols.length cc4) K.cols := TIn.ext hE6 hcK5
   have hle6 : w4.heap.size ≤ w6.heap.size := Nat.le_of_lt k6.lt
   clear x0 x1 x2 x3 x4 x5 x6 x7 y0 y1 y3 y4 y5 y6 y7 b5 k5 hcR5 hcK5 op5 hE6
   cases E with
   | true =>
    go_wp2_with fail
    go_roundw
    case rel =>
     refine ⟨k + 1, _, L, hlt, rfl, op6, by omega, ?_⟩
     show _ = _
     rw [HSTEP.out]
     simp
    case measure => simp [intOf]; omega
   | false =>
    go_wp2_with fail
    refine wp_region_relE (OQ (OP w (w.heap.size + 1 + 1 + 1 + 1 + 1) wA.heap.size pk wA (.slice al L.length cl) L) w4.heap.size K (.slice a4 K.cols.length cc4)) (OrE (.slice al L.length cl) wA.heap.size 6) (Tab.atE [(1, fun v _ => v = .slice al L.length cl), (2, fun v _ => v = (.agg #[.string K.key, .string K.live.val, .bool K.live.dead, .int .i64 K.live.at_, .int .i64 K.live.fin, .int .i64 K.gone, .int .i64 K.shade, (.slice a4 K.cols.length cc4)])), (4, fun v y => ∃ v', v = (.agg #[.string J2.key, .string J2.live.val, .bool J2.live.dead, .int .i64 J2.live.at_, .int .i64 J2.live.fin, .int .i64 J2.gone, .int .i64 J2.shade, v']) ∧ ColsT y v' J2.cols), (5, fun v y => ∃ b v', v = .slice (some ⟨b, 0, none⟩) 1 1 ∧ w4.heap.size ≤ b ∧ BoxAt y b (ro8 J2 v') 47 ∧ ColsT y v' J2.cols), (6, fun v y => ∃ v', y.ownsRow wA.heap.size 47 8 v (L.length + 1) (roCells (L ++ [(J2, v')])) ∧ ColsT y v' J2.cols)])
     (Tab.staysE ⟨fun _ _ _ _ _ _ h => h, fun _ _ _ _ _ _ h => h, fun _ _ _ _ _ hR ⟨v', e, h⟩ => ⟨v', e, OrE_tin hR (by decide) h⟩, fun _ _ _ _ _ hR ⟨b, v', e, hb, hx, h⟩ => ⟨b, v', e, hb, OrE_far own4 hR hb hx, OrE_tin hR (by decide) h⟩, fun _ hj _ _ _ hR ⟨v', h, hc⟩ => ⟨v', ownsRow_ext h (OrE_off hj hR), OrE_tin hR (by decide) hc⟩, trivial⟩)
     8 (by kernel_rfl) (by kernel_rfl) (by kernel_rfl) (OQ.mk (op6.ext' (Ext.refl _).drew) (k6.ext (Ext.refl _).drew) (TIn.ext (Ext.refl _).drew hcK6)) ?_
    refine relE_quiet rfl rfl rfl rfl ?_; intro K hK; go_big_quiet_op; (first | refine ⟨_, fun _ _ => rfl, hK _ ?_⟩ | refine hK _ ?_); clear hK K
    refine relE_val [] rfl rfl rfl (by kernel_rfl) (fun z hz hf => ?_) ?_
    ·obtain ⟨q0, q1, q2⟩ := hz.op.box.pa
     go_simp
     exact ⟨hz, OrE_ext (by decide) (Ext.refl z), rfl⟩
    simp only [Act.put, List.setIfInBounds_toArray, List.set_cons_zero, List.set_cons_succ]
    refine relE_val [] rfl rfl rfl (by kernel_rfl) (fun z hz hf => ?_) ?_
    ·obtain ⟨q0, q1, q2, q3, q4, q5, q6, q7⟩ := hz.box.ro
     go_simp
     exact ⟨hz, OrE_ext (by decide) (Ext.refl z), rfl⟩
    simp only [Act.put, List.setIfInBounds_toArray, List.set_cons_zero, List.set_cons_succ]
    refine relE_quiet rfl rfl rfl rfl ?_; intro K hK; go_big_quiet_op; (first | refine ⟨_, fun _ _ => rfl, hK _ ?_⟩ | refine hK _ ?_); clear hK K
    refine relE_fact [] rfl rfl rfl (by kernel_rfl) (fun z hz hf => ?_) (fun v8 z8 hC8 hG8 h8 => ?_)
    ·go_simp
     refine (rowJoin_any K zeroRo (.slice a4 K.cols.length cc4) (.slice none 0 0) z (ColsT.cols hz.cols) (ColsT.cols (ColsT.nil z)) (by show K.cols.length + 0 ≤ _; omega)).mono ?_
     rw [← HJ2.out]
     rintro e y ⟨v', he, hown', hy⟩
     exact ⟨_, he, ⟨hz.op.ext' hy, hz.box.ext hy, TIn.ext hy hz.cols⟩, OrE_ext (by decide) hy, v', rfl, TIn.own hown'⟩
    obtain ⟨v11, rfl, h11⟩ := h8
    obtain ⟨a11, c11, rfl⟩ := TIn.shape h11
    clear hC8 hG8 h11
    simp only [Act.put, List.setIfInBounds_toArray, List.set_cons_zero, List.set_cons_succ]
    refine relE_fact [4] rfl rfl rfl (by kernel_rfl) (fun z hz hf => ?_) (fun v4 z4 hC4 hG4 h4 => ?_)
    ·obtain ⟨v', e, hc⟩ := (hf 4 (by simp)).2 rfl
     cases e
     have hy : Ext z (z.alloc (.cells (ro8 J2 (.slice a11 J2.cols.length c11)) 47)) := (Ext.refl z).alloc _
     go_simp
     exact ⟨⟨hz.op.ext' hy, hz.box.ext hy, TIn.ext hy hz.cols⟩, OrE_ext (by decide) hy, _, rfl, Nat.le_of_lt hz.box.lt, _, BoxAt.made z _ _, TIn.ext hy hc⟩
    obtain ⟨b14, v14, rfl, _, _, _⟩ := h4
    clear hC4 hG4
    simp only [Act.put, List.setIfInBounds_toArray, List.set_cons_zero, List.set_cons_succ]
    refine relE_fact [5] rfl rfl rfl (by kernel_rfl) (fun z hz hf => ?_) (fun v5 z5 hC5 hG5 h5 => ?_)
    ·obtain ⟨b, v', e, hb, hbox, hr⟩ := (hf 5 (by simp)).2 rfl
     cases e
     obtain ⟨aq, cq, rfl⟩ := TIn.shape hr
     refine yields_append info_Row und_Rows rfl (by decide) (.tmp 59) (.tmp 63) rfl wA.heap.size hz.op.size (.slice al L.length cl) L.length (roCells L) hz.op.own (by rfl) b14 1 1 (ro8 J2 (.slice aq J2.cols.length cq)).toList (by rfl) (by rfl) (fun j u hj => by rw [hbox.cell j]; simpa using hj) (by simp [ro8, Value.oneCell']) (by unfold maxLen; omega) (by omega) ?_
     intro v'' y hown' hg hkeep
     have hR : OrE (.slice al L.length cl) wA.heap.size 6 6 z y := by unfold OrE; rw [if_pos rfl]; exact ⟨⟨_, _, hz.op.own⟩, hg⟩
     refine ⟨⟨hz.op.grow hwA (by omega) (Nat.le_refl _) hg hkeep, OrE_far own4 hR (Nat.le_refl _) hz.box, OrE_tin hR (by decide) hz.cols⟩, hR, _, ?_, OrE_tin hR (by decide) hr⟩
     rw [roCells_append]
     exact hown'
    obtain ⟨v15, h5, _⟩ := h5
    obtain ⟨a5, c5, rfl⟩ := own_shape h5
    clear hC5 hG5 h5
    simp only [Act.put, List.setIfInBounds_toArray, List.set_cons_zero, List.set_cons_succ]
    refine relE_quiet rfl rfl rfl rfl ?_; intro K hK; go_big_quiet_op; (first | refine ⟨_, fun _ _ => rfl, hK _ ?_⟩ | refine hK _ ?_); clear hK K
    refine relE_tail rfl rfl fun w9 hC hG => ?_
    obtain ⟨v9, hown9, hr9⟩ := (hG 6).2 rfl
    have q0 : w9.cell? ⟨w.heap.size + 1 + 1 + 1 + 1 + 1, 2, none⟩ = some (.slice al L.length cl) := hC.op.box.cell 2
    have qf := hC.op.box.free 2
    go_wp2_with fail
    go_roundw
    case rel =>
     refine ⟨k + 1, _, L ++ [(J2, v9)], hlt, rfl, hC.op.put (by omega) hown9 hr9, by simp; omega, ?_⟩
     show _ = _
     rw [HSTEP.out]
     simp
    case measure => simp [intOf]; omega
  ·obtain rfl : k = n := by omega
   have HLB : Hid (L.map (·.1) = BK) := by
    show _ = _
    rw [HD.out, HBK.out, List.take_of_length_le (by simp; rw [← HN.out]; exact Nat.le_refl _)]
   have hLR : RowsT wr (.slice al L.length cl) L := ⟨TIn.own hop.own, hop.rows⟩
   have hLc : ∀ r ∈ L.map (·.1), r.cols.length ≤ 50001 := by
    rw [HLB.out, HBK.out]
    refine backRs_cols (m := 50000) (fun r hr => ?_)
    obtain ⟨p, hp, rfl⟩ := List.mem_map.1 hr
    exact HCQ.out p hp
   have hPc : ∀ r ∈ ps.map (·.1), r.cols.length ≤ 50000 := fun r hr => by
    obtain ⟨p, hp, rfl⟩ := List.mem_map.1 hr
    exact HCP.out p hp
   clear hlt
   obtain ⟨q0, q1, q2⟩ := hop.box.pa
   obtain ⟨p0, p1, p2⟩ := (hop.keep _ _ _ HC2.out (by omega)).pa
   go_wp2_with fail
   refine (rise_any _ L wr hLR.rows (by omega) (fun j h => by
    have := HUB.out (L.map (·.1)) HLB.out j (by simpa using h)
    simpa using this)).mono ?_
   rintro e w1 ⟨rfl, hE1⟩
   have op1 := hop.ext' hE1
   obtain ⟨q0, q1, q2⟩ := op1.box.pa
   obtain ⟨p0, p1, p2⟩ := (op1.keep _ _ _ HC2.out (by omega)).pa
   clear hop
   go_wp2_with fail
   refine (pjoin_walk pk pk pg 0 pu (.slice al L.length cl) ps L w1 (HP.out.rows.ext op1.ext) (hLR.rows.ext hE1) (by omega) (fun r hr => Nat.le_trans (hPc r hr) (by omega)) (fun r hr => Nat.le_trans (hLc r hr) (by omega))).mono ?_
   rintro e w2 ⟨hE2, hJ⟩
   obtain ⟨ALL, hALL⟩ : ∃ A, A = mergeRo (ps.map (·.1)) BK := ⟨_, rfl⟩
   have hAc : ∀ r ∈ ALL, r.cols.length ≤ 100001 := by
    rw [hALL, ← HLB.out]
    exact merge_cols hPc hLc
   rw [HLB.out, ← hALL] at hJ
   have HALL := Lib.hid hALL
   rcases hJ with ⟨_, v2, rfl, all, hall, hallm⟩ | ⟨hbad, _⟩
   rotate_left
   ·exfalso
    have h1 := mergeG_len keyR joinRo (ps.map (·.1)) BK
    have h2 : BK.length = L.length := by rw [← HLB.out]; simp
    rw [hALL] at hbad
    unfold mergeRo at hbad
    simp only [List.length_map] at h1
    omega
   rw [show max pg 0 = pg from by omega] at *
   have op2 := op1.ext' hE2
   obtain ⟨a2, c2, rfl⟩ := hall.shape
   have hLR2 : RowsT w2 (.slice al L.length cl) L := ⟨TIn.own op2.own, op2.rows⟩
   clear q0 q1 q2 p0 p1 p2 hLR op1 hE1
   go_wp2_with (first
    | (((guard_target =~ wpList _ _ _ (Oper.mk none (Op.store _ (Operand.tmp 16) (Operand.tmp 74)) _ _ _ _ :: _) _ _); go_must (refine storeBox rfl 39 (.tmp 16) (.tmp 74) rfl (w2.heap.size) _ _ _ (by rfl) (by rfl) ((BoxAt.made w2 (pa3 ⟨#[]⟩ 0 (.slice none 0 0)) 39)) (by kernel_rfl) (by rfl) (by simp [Value.oneCell']) ?_); intro w3 d3 g3); have hX3 : Ext w2 w3 := ((Ext.refl w2).alloc _).grown g3 (fun q hq => by cases hq; omega); have op3 := op2.ext' hX3; have p3 := d3.pa (k := pk) (g := pg) (u := .slice a2 all.length c2); have bs3 := op3.keep _ _ _ HC2.out (by omega))
    | (((guard_target =~ wpList _ _ _ (Oper.mk none (Op.store _ (Operand.tmp 6) (Operand.tmp 77)) _ _ _ _ :: _) _ _); go_must (refine storeBox rfl 39 (.tmp 6) (.tmp 77) rfl (w.heap.size + 1 + 1) _ _ _ (by rfl) (by rfl) (bs3) (by kernel_rfl) (by rfl) (by simp [Value.oneCell']) ?_); intro w4 d4 g4); have x4 := ((op3.keep _ _ _ HC3.out (by omega)).grown g4 (fun e => by have := Option.some.inj e; omega)).pa))
   have hEB : Ext w w4 := op3.ext.grown g4 (fun q hq => by cases hq; omega)
   have hk0 := Lib.hid ((op3.keep _ _ _ HC0.out (by omega)).grown g4 (fun e => by have := Option.some.inj e; omega))
   have hk1 := Lib.hid ((op3.keep _ _ _ HC1.out (by omega)).grown g4 (fun e => by have := Option.some.inj e; omega))
   have hk2 : Hid (BoxAt w4 (w.heap.size + 1 + 1) (pa3 pk pg (.slice a2 all.length c2)) 39) := Lib.hid d4
   have hk3 := Lib.hid ((op3.keep _ _ _ HC3.out (by omega)).grown g4 (fun e => by have := Option.some.inj e; omega))
   have c4 := (op3.keep _ _ _ HC4.out (by omega)).grown g4 (fun e => by have := Option.some.inj e; omega)
   have hk5 := Lib.hid (op3.box.grown g4 (fun e => by have := Option.some.inj e; omega))
   have hRA := Lib.hid (((hall.ext hX3).keep g4 bs3 (by decide) (by decide)))
   have hRL := Lib.hid (((hLR2.ext hX3).keep g4 bs3 (by decide) (by decide)))
   have hl4 := c4.lt
   have hl5 := (hk5.out).lt
   have hw4 : w.heap.size ≤ w4.heap.size := hEB.le
   have hop4 : OP w (w.heap.size + 1 + 1 + 1 + 1) w4.heap.size xk w4 (.slice none 0 0) [] w4 := ⟨hEB, fun _ _ _ h _ => h, c4, World.ownsRow_nil _ _ _ _, nofun, Nat.le_refl _⟩
   have hrA : ∀ r ∈ ALL, r.cols.length ≤ 100001 := hAc
   have hallA : Hid (all.map (·.1) = ALL) := hallm
   clear p3 d3 g3 d4 g4 bs3 op3 hX3 op2 hall hLR2 hallm c4 hE2 hAc hLc hPc hLk HD hALL
   clear HC0 HC1 HC2 HC3 HC4
   go_wp2_with fail
   go_loopw [81] (fun i wr => ∃ (j : Nat) (vl : Value) (L2 : List (Ro × Value)), j ≤ k ∧ i = .int .i64 j ∧ OP w (w.heap.size + 1 + 1 + 1 + 1) w4.heap.size xk w4 vl L2 wr ∧ L2.length ≤ j ∧ Hid (L2.map (·.1) = shadeRs x ns xk xg pk pg ALL cof ((qs.map (·.1)).take j))) (fun i _ => k - (intOf i).toNat)
   case atStart => exact ⟨0, _, [], Nat.zero_le _, rfl, hop4, by simp, rfl⟩
   case round =>
    obtain ⟨j, vl2, L2, hjk, rfl, hoq, hLj, HDj⟩ := hrel
    obtain ⟨al2, cl2, rfl⟩ := own_shape hoq.own
    by_cases hlt : j < k
    ·have hkp : j < qs.length := by rw [← HN.out]; exact hlt
     have hmem := List.getElem_mem hkp
     have hcM := HQT.out _ hmem
     have hlM := HCQ.out _ hmem
     obtain ⟨hk1', hk2', hk3'⟩ := HKEY.out _ hmem
     obtain ⟨b, o, rfl, hat⟩ := HGET.out j hkp
     have hsnoc : (qs.map (·.1)).take (j + 1) = (qs.map (·.1)).take j ++ [qs[j].1] := by
      rw [List.take_succ_eq_append_getElem (by simpa using hkp)]
      simp
     obtain ⟨M, hM⟩ : ∃ M, M = qs[j].1 := ⟨_, rfl⟩
     obtain ⟨um, cm, hu⟩ := TIn.shape hcM
     rw [← hM] at hlM hcM hu hsnoc hat hk1' hk2' hk3'
     rw [hu] at hcM hat
     have HSN := Lib.hid hsnoc
     have HK1 := Lib.hid hk1'
     have HK2 := Lib.hid hk2'
     have HK3 := Lib.hid hk3'
     clear hM hu hsnoc hmem hk1' hk2' hk3'
     obtain ⟨x0, x1, x2, x3, x4, x5, x6, x7⟩ := hat.ext hoq.ext
     obtain ⟨R, hR⟩ : ∃ R, R = rowOf ALL (cof M) := ⟨_, rfl⟩
     have HR := Lib.hid hR
     have hRc : R.cols.length ≤ 100001 := by rw [hR]; exact rowOf_cols hrA _
     have hRk : R.key = cof M := by rw [hR]; exact rowOf_is _ _
     have HRK := Lib.hid hRk
     clear hR hRk
     go_wp2_with (((guard_target =~ wpList _ _ _ (Oper.mk none (Op.store _ (Operand.tmp 19) (Operand.tmp 84)) _ _ _ _ :: _) _ _); go_must (refine storeBox rfl 47 (.tmp 19) (.tmp 84) rfl (wr.heap.size) _ _ _ (by rfl) (by rfl) ((BoxAt.made wr (ro8 ⟨⟨#[]⟩, zeroCl, 0, 0, []⟩ (.slice none 0 0)) 47)) (by kernel_rfl) (by rfl) (by simp [Value.oneCell']) ?_); intro w5 d5 g5); have hX5 : Ext wr w5 := ((Ext.refl wr).alloc _).grown g5 (fun q hq => by cases hq; omega); have e5 := d5.ro (r := ⟨M.key, M.live, M.gone, M.shade, M.cols⟩) (v := .slice um M.cols.length cm))
     have oq5 := hoq.ext' hX5
     have r5 : BoxAt w5 wr.heap.size (ro8 M (.slice um M.cols.length cm)) 47 := d5
     have hallr : RowsT w5 (.slice a2 all.length c2) all := oq5.rowsT hop4.box hRA.out
     refine (ownRow_any (w.heap.size + 1 + 1) pk pg (.slice a2 all.length c2) all M _ (cof M) w5 (oq5.keep _ _ _ hk2.out (by omega)) hallr.rows (fun p hp => Nat.le_trans (hrA p.1 (by rw [← hallA.out]; exact List.mem_map_of_mem hp)) (by omega)) HK1.out hpk HK2.out).mono ?_
     rw [hallA.out, ← HR.out]
     rintro e w6 ⟨v6, rfl, hc6, hE6⟩
     obtain ⟨a6, cc6, rfl⟩ := TIn.shape hc6
     have oq6 := oq5.ext' hE6
     have r6 := r5.ext hE6
     clear d5 g5 e5 x0 x1 x2 x3 x4 x5 x6 x7 r5 hallr
     go_wp2_with (((guard_target =~ wpList _ _ _ (Oper.mk none (Op.store _ (Operand.tmp 20) (Operand.tmp 89)) _ _ _ _ :: _) _ _); go_must (refine storeBox rfl 47 (.tmp 20) (.tmp 89) rfl (w6.heap.size) _ _ _ (by rfl) (by rfl) ((BoxAt.made w6 (ro8 ⟨⟨#[]⟩, zeroCl, 0, 0, []⟩ (.slice none 0 0)) 47)) (by kernel_rfl) (by rfl) (by simp [Value.oneCell']) ?_); intro w7 d7 g7); have hX7 : Ext w6 w7 := ((Ext.refl w6).alloc _).grown g7 (fun q hq => by cases hq; omega))
     have oq7 := oq6.ext' hX7
     have r7 := r6.ext hX7
     have b7 : BoxAt w7 w6.heap.size (ro8 R (.slice a6 R.cols.length cc6)) 47 := d7
     have hcR7 : ColsT w7 (.slice a6 R.cols.length cc6) R.cols := TIn.ext hX7 hc6
     have hcM7 : ColsT w7 (.slice um M.cols.length cm) M.cols := TIn.ext oq7.ext hcM
     have hlt6 := r6.lt
     have own7 := oq7.own
     have hwrown := hoq.own
     clear d7 g7 hc6 oq5 oq6 r6 hX5 hX7 hE6
     obtain ⟨x0, x1, x2, x3, x4, x5, x6, x7⟩ := r7.ro
     obtain ⟨z0, z1, z2⟩ := (oq7.keep _ _ _ hk3.out (by omega)).pa
     obtain ⟨G, hG⟩ : ∃ G, G = max M.gone xg := ⟨_, rfl⟩
     have HG := Lib.hid hG
     obtain ⟨mi, hmi⟩ : ∃ m, m = mirOf x ns pk pg R := ⟨_, rfl⟩
     have HMI := Lib.hid hmi
     obtain ⟨JL, hJL⟩ : ∃ J, J = leftRo x M R pg := ⟨_, rfl⟩
     have HJL := Lib.hid hJL
     have HSTEP : Hid (shadeRs x ns xk xg pk pg ALL cof ((qs.map (·.1)).take (j + 1)) = L2.map (·.1) ++ if idleB xg M then [] else if strayB mi xk then [JL] else []) := by
      show _ = _
      rw [HSN.out, shadeRs_snoc, ← HR.out, HDj.out]
      unfold shadeL
      rw [← hmi, ← hJL]
     have HID : Hid (idleB xg M = (decide (M.live.at_ < 1) || decide (M.live.at_ ≤ M.shade) || decide (M.live.at_ ≤ G))) := Lib.hid (by rw [hG]; rfl)
     clear hG hmi hJL
     try simp only [Act.put]
     by_cases i1 : M.live.at_ < 1
     ·have t1 : decide (M.live.at_ < 1) = true := by simpa using i1

      refine wp_region_tab 26 [(23, fun v _ => v = .int .i64 G)] (by kernel_rfl) (by kernel_rfl) (by kernel_rfl) ⟨stays_eq _, trivial⟩ ?_
      replace x0 := held x0
      replace x1 := held x1
      replace x2 := held x2
      replace x3 := held x3
      replace x4 := held x4
      replace x5 := held x5
      replace x6 := held x6
      replace x7 := held x7
      replace z1 := held z1
      refine rg_quiet rfl rfl rfl rfl ?_; intro K hK; go_big_quiet_op; go_big_quiet_on
      refine rg_quiet rfl rfl rfl rfl ?_; intro K hK; go_big_quiet_op; go_big_quiet_on
      refine rg_quiet rfl rfl rfl rfl ?_; intro K hK; go_big_quiet_op; go_big_quiet_on
      refine rg_quiet rfl rfl rfl rfl ?_; intro K hK; go_big_quiet_op; go_big_quiet_on
      refine rg_quiet rfl rfl rfl rfl ?_; intro K hK; go_big_quiet_op; go_big_quiet_on
      refine rg_quiet rfl rfl rfl rfl ?_; intro K hK; go_big_quiet_op; go_big_quiet_on
      refine rg_quiet rfl rfl rfl rfl ?_; intro K hK; go_big_quiet_op; go_big_quiet_on
      refine rg_quiet rfl rfl rfl rfl ?_; intro K hK; go_big_quiet_op; go_big_quiet_on
      refine rg_quiet rfl rfl rfl rfl ?_; intro K hK; go_big_quiet_op; go_big_quiet_on
      refine rel_skip rfl rfl ?_
      simp only [Act.put, List.setIfInBounds_toArray, List.set_cons_zero, List.set_cons_succ]
      refine rel_skip rfl rfl ?_
      simp only [Act.put, List.setIfInBounds_toArray, List.set_cons_zero, List.set_cons_succ]
      refine rel_skip rfl rfl ?_
      simp only [Act.put, List.setIfInBounds_toArray, List.set_cons_zero, List.set_cons_succ]
      refine rel_skip rfl rfl ?_
      simp only [Act.put, List.setIfInBounds_toArray, List.set_cons_zero, List.set_cons_succ]
      refine rel_skip rfl rfl ?_
      simp only [Act.put, List.setIfInBounds_toArray, List.set_cons_zero, List.set_cons_succ]
      refine rel_skip rfl rfl ?_
      simp only [Act.put, List.setIfInBounds_toArray, List.set_cons_zero, List.set_cons_succ]
      refine rg_quiet rfl rfl rfl rfl ?_; intro K hK; go_big_quiet_op; go_big_quiet_on
      refine rg_quiet rfl rfl rfl rfl ?_; intro K hK; go_big_quiet_op; go_big_quiet_on
      refine rel_skip rfl rfl ?_
      simp only [Act.put, List.setIfInBounds_toArray, List.set_cons_zero, List.set_cons_succ]
      refine rel_skip rfl rfl ?_
      simp only [Act.put, List.setIfInBounds_toArray, List.set_cons_zero, List.set_cons_succ]
      refine rel_skip rfl rfl ?_
      simp only [Act.put, List.setIfInBounds_toArray, List.set_cons_zero, List.set_cons_succ]
      refine rel_skip rfl rfl ?_
      simp only [Act.put, List.setIfInBounds_toArray, List.set_cons_zero, List.set_cons_succ]
      refine rel_skip rfl rfl ?_
      simp only [Act.put, List.setIfInBounds_toArray, List.set_cons_zero, List.set_cons_succ]
      refine rel_skip rfl rfl ?_
      simp only [Act.put, List.setIfInBounds_toArray, List.set_cons_zero, List.set_cons_succ]
      refine rel_skip rfl rfl ?_
      simp only [Act.put, List.setIfInBounds_toArray, List.set_cons_zero, List.set_cons_succ]
      refine rel_skip rfl rfl ?_
      simp only [Act.put, List.setIfInBounds_toArray, List.set_cons_zero, List.set_cons_succ]
      refine rg_quiet rfl rfl rfl rfl ?_; intro K hK; go_big_quiet_op; go_big_quiet_on
      refine rel_nil fun w8 hE8 _ => ?_
      have oq8 := oq7.ext' hE8
      clear x0 x1 x2 x3 x4 x5 x6 x7 z0 z1 z2 hE8
      go_wp2_with fail
      go_roundw
      case rel =>
       refine ⟨j + 1, _, L2, hlt, rfl, oq8, by omega, ?_⟩
       show _ = _
       rw [HSTEP.out, HID.out]
       simp [t1]
      case measure => simp [intOf]; omega
     ·have t1 : decide (M.live.at_ < 1) = false := by simpa using i1
      by_cases i2 : M.live.at_ ≤ M.shade
      ·have t2 : decide (M.live.at_ ≤ M.shade) = true := by simpa using i2

       refine wp_region_tab 26 [(23, fun v _ => v = .int .i64 G)] (by kernel_rfl) (by kernel_rfl) (by kernel_rfl) ⟨stays_eq _, trivial⟩ ?_
       replace x0 := held x0
       replace x1 := held x1
       replace x2 := held x2
       replace x3 := held x3
       replace x4 := held x4
       replace x5 := held x5
       replace x6 := held x6
       replace x7 := held x7
       replace z1 := held z1
       refine rg_quiet rfl rfl rfl rfl ?_; intro K hK; go_big_quiet_op; go_big_quiet_on
       refine rg_quiet rfl rfl rfl rfl ?_; intro K hK; go_big_quiet_op; go_big_quiet_on
       refine rg_quiet rfl rfl rfl rfl ?_; intro K hK; go_big_quiet_op; go_big_quiet_on
       refine rg_quiet rfl rfl rfl rfl ?_; intro K hK; go_big_quiet_op; go_big_quiet_on
       refine rg_quiet rfl rfl rfl rfl ?_; intro K hK; go_big_quiet_op; go_big_quiet_on
       refine rg_quiet rfl rfl rfl rfl ?_; intro K hK; go_big_quiet_op; go_big_quiet_on
       refine rg_quiet rfl rfl rfl rfl ?_; intro K hK; go_big_quiet_op; go_big_quiet_on
       refine rg_quiet rfl rfl rfl rfl ?_; intro K hK; go_big_quiet_op; go_big_quiet_on
       refine rg_quiet rfl rfl rfl rfl ?_; intro K hK; go_big_quiet_op; go_big_quiet_on
       refine rg_quiet rfl rfl rfl rfl ?_; intro K hK; go_big_quiet_op; go_big_quiet_on
       refine rg_quiet rfl rfl rfl rfl ?_; intro K hK; go_big_quiet_op; go_big_quiet_on
       refine rg_quiet rfl rfl rfl rfl ?_; intro K hK; go_big_quiet_op; go_big_quiet_on
       refine rg_quiet rfl rfl rfl rfl ?_; intro K hK; go_big_quiet_op; go_big_quiet_on
       refine rg_quiet rfl rfl rfl rfl ?_; intro K hK; go_big_quiet_op; go_big_quiet_on
       refine rg_quiet rfl rfl rfl rfl ?_; intro K hK; go_big_quiet_op; go_big_quiet_on
       refine rg_quiet rfl rfl rfl rfl ?_; intro K hK; go_big_quiet_op; go_big_quiet_on
       refine rg_quiet rfl rfl rfl rfl ?_; intro K hK; go_big_quiet_op; go_big_quiet_on
       refine rel_skip rfl rfl ?_
       simp only [Act.put, List.setIfInBounds_toArray, List.set_cons_zero, List.set_cons_succ]
       refine rel_skip rfl rfl ?_
       simp only [Act.put, List.setIfInBounds_toArray, List.set_cons_zero, List.set_cons_succ]
       refine rel_skip rfl rfl ?_
       simp only [Act.put, List.setIfInBounds_toArray, List.set_cons_zero, List.set_cons_succ]
       refine rel_skip rfl rfl ?_
       simp only [Act.put, List.setIfInBounds_toArray, List.set_cons_zero, List.set_cons_succ]
       refine rel_skip rfl rfl ?_
       simp only [Act.put, List.setIfInBounds_toArray, List.set_cons_zero, List.set_cons_succ]
       refine rel_skip rfl rfl ?_
       simp only [Act.put, List.setIfInBounds_toArray, List.set_cons_zero, List.set_cons_succ]
       refine rel_skip rfl rfl ?_
       simp only [Act.put, List.setIfInBounds_toArray, List.set_cons_zero, List.set_cons_succ]
       refine rel_skip rfl rfl ?_
       simp only [Act.put, List.setIfInBounds_toArray, List.set_cons_zero, List.set_cons_succ]
       refine rg_quiet rfl rfl rfl rfl ?_; intro K hK; go_big_quiet_op; go_big_quiet_on
       refine rel_nil fun w8 hE8 _ => ?_
       have oq8 := oq7.ext' hE8
       clear x0 x1 x2 x3 x4 x5 x6 x7 z0 z1 z2 hE8
       go_wp2_with fail
       go_roundw
       case rel =>
        refine ⟨j + 1, _, L2, hlt, rfl, oq8, by omega, ?_⟩
        show _ = _
        rw [HSTEP.out, HID.out]
        simp [t1, t2]
       case measure => simp [intOf]; omega
      ·have t2 : decide (M.live.at_ ≤ M.shade) = false := by simpa using i2
       by_cases i3 : M.live.at_ ≤ G
       ·have t3 : decide (M.live.at_ ≤ G) = true := by simpa using i3

        refine wp_region_tab 26 [(23, fun v _ => v = .int .i64 G)] (by kernel_rfl) (by kernel_rfl) (by kernel_rfl) ⟨stays_eq _, trivial⟩ ?_
        replace x0 := held x0
        replace x1 := held x1
        replace x2 := held x2
        replace x3 := held x3
        replace x4 := held x4
        replace x5 := held x5
        replace x6 := held x6
        replace x7 := held x7
        replace z1 := held z1
        refine rg_quiet rfl rfl rfl rfl ?_; intro K hK; go_big_quiet_op; go_big_quiet_on
        refine rg_quiet rfl rfl rfl rfl ?_; intro K hK; go_big_quiet_op; go_big_quiet_on
        refine rg_quiet rfl rfl rfl rfl ?_; intro K hK; go_big_quiet_op; go_big_quiet_on
        refine rg_quiet rfl rfl rfl rfl ?_; intro K hK; go_big_quiet_op; go_big_quiet_on
        refine rg_quiet rfl rfl rfl rfl ?_; intro K hK; go_big_quiet_op; go_big_quiet_on
        refine rg_quiet rfl rfl rfl rfl ?_; intro K hK; go_big_quiet_op; go_big_quiet_on
        refine rg_quiet rfl rfl rfl rfl ?_; intro K hK; go_big_quiet_op; go_big_quiet_on
        refine rg_quiet rfl rfl rfl rfl ?_; intro K hK; go_big_quiet_op; go_big_quiet_on
        refine rg_quiet rfl rfl rfl rfl ?_; intro K hK; go_big_quiet_op; go_big_quiet_on
        refine rg_quiet rfl rfl rfl rfl ?_; intro K hK; go_big_quiet_op; go_big_quiet_on
        refine rg_quiet rfl rfl rfl rfl ?_; intro K hK; go_big_quiet_op; go_big_quiet_on
        refine rg_quiet rfl rfl rfl rfl ?_; intro K hK; go_big_quiet_op; go_big_quiet_on
        refine rg_quiet rfl rfl rfl rfl ?_; intro K hK; go_big_quiet_op; go_big_quiet_on
        refine rg_quiet rfl rfl rfl rfl ?_; intro K hK; go_big_quiet_op; go_big_quiet_on
        refine rg_quiet rfl rfl rfl rfl ?_; intro K hK; go_big_quiet_op; go_big_quiet_on
        refine rg_quiet rfl rfl rfl rfl ?_; intro K hK; go_big_quiet_op; go_big_quiet_on
        refine rg_quiet rfl rfl rfl rfl ?_; intro K hK; go_big_quiet_op; go_big_quiet_on
        refine rg_quiet rfl rfl rfl rfl ?_; intro K hK; go_big_quiet_op; go_big_quiet_on
        refine rg_quiet rfl rfl rfl rfl ?_; intro K hK; go_big_quiet_op; go_big_quiet_on
        refine rg_quiet rfl rfl rfl rfl ?_; intro K hK; go_big_quiet_op; go_big_quiet_on
        refine rg_quiet rfl rfl rfl rfl ?_; intro K hK; go_big_quiet_op; go_big_quiet_on
        refine rg_quiet rfl rfl rfl rfl ?_; intro K hK; go_big_quiet_op; go_big_quiet_on
        refine rg_quiet rfl rfl rfl rfl ?_; intro K hK; go_big_quiet_op; go_big_quiet_on
        refine rg_val [] rfl rfl rfl (by kernel_rfl) (fun w1 hE hf => ?_) ?_
        ·go_simp
         exact (rgone_any M (.slice um M.cols.length cm) xg w1).mono fun e w' ⟨he, hw⟩ => ⟨_, he, rg_done hE hw (by rw [HG.out])⟩
        simp only [Act.put, List.setIfInBounds_toArray, List.set_cons_zero, List.set_cons_succ]
        refine rg_quiet rfl rfl rfl rfl ?_; intro K hK; go_big_quiet_op; go_big_quiet_on
        refine rg_quiet rfl rfl rfl rfl ?_; intro K hK; go_big_quiet_op; go_big_quiet_on
        refine rel_nil fun w8 hE8 _ => ?_
        have oq8 := oq7.ext' hE8
        clear x0 x1 x2 x3 x4 x5 x6 x7 z0 z1 z2 hE8
        go_wp2_with fail
        go_roundw
        case rel =>
         refine ⟨j + 1, _, L2, hlt, rfl, oq8, by omega, ?_⟩
         show _ = _
         rw [HSTEP.out, HID.out]
         simp [t1, t2, t3]
        case measure => simp [intOf]; omega
       ·have t3 : decide (M.live.at_ ≤ G) = false := by simpa using i3
        refine wp_region_tab 26 [(23, fun v _ => v = .int .i64 G)] (by kernel_rfl) (by kernel_rfl) (by kernel_rfl) ⟨stays_eq _, trivial⟩ ?_
        replace x0 := held x0
        replace x1 := held x1
        replace x2 := held x2
        replace x3 := held x3
        replace x4 := held x4
        replace x5 := held x5
        replace x6 := held x6
        replace x7 := held x7
        replace z1 := held z1
        refine rg_quiet rfl rfl rfl rfl ?_; intro K hK; go_big_quiet_op; go_big_quiet_on
        refine rg_quiet rfl rfl rfl rfl ?_; intro K hK; go_big_quiet_op; go_big_quiet_on
        refine rg_quiet rfl rfl rfl rfl ?_; intro K hK; go_big_quiet_op; go_big_quiet_on
        refine rg_quiet rfl rfl rfl rfl ?_; intro K hK; go_big_quiet_op; go_big_quiet_on
        refine rg_quiet rfl rfl rfl rfl ?_; intro K hK; go_big_quiet_op; go_big_quiet_on
        refine rg_quiet rfl rfl rfl rfl ?_; intro K hK; go_big_quiet_op; go_big_quiet_on
        refine rg_quiet rfl rfl rfl rfl ?_; intro K hK; go_big_quiet_op; go_big_quiet_on
        refine rg_quiet rfl rfl rfl rfl ?_; intro K hK; go_big_quiet_op; go_big_quiet_on
        refine rg_quiet rfl rfl rfl rfl ?_; intro K hK; go_big_quiet_op; go_big_quiet_on
        refine rg_quiet rfl rfl rfl rfl ?_; intro K hK; go_big_quiet_op; go_big_quiet_on
        refine rg_quiet rfl rfl rfl rfl ?_; intro K hK; go_big_quiet_op; go_big_quiet_on
        refine rg_quiet rfl rfl rfl rfl ?_; intro K hK; go_big_quiet_op; go_big_quiet_on
        refine rg_quiet rfl rfl rfl rfl ?_; intro K hK; go_big_quiet_op; go_big_quiet_on
        refine rg_quiet rfl rfl rfl rfl ?_; intro K hK; go_big_quiet_op; go_big_quiet_on
        refine rg_quiet rfl rfl rfl rfl ?_; intro K hK; go_big_quiet_op; go_big_quiet_on
        refine rg_quiet rfl rfl rfl rfl ?_; intro K hK; go_big_quiet_op; go_big_quiet_on
        refine rg_quiet rfl rfl rfl rfl ?_; intro K hK; go_big_quiet_op; go_big_quiet_on
        refine rg_quiet rfl rfl rfl rfl ?_; intro K hK; go_big_quiet_op; go_big_quiet_on
        refine rg_quiet rfl rfl rfl rfl ?_; intro K hK; go_big_quiet_op; go_big_quiet_on
        refine rg_quiet rfl rfl rfl rfl ?_; intro K hK; go_big_quiet_op; go_big_quiet_on
        refine rg_quiet rfl rfl rfl rfl ?_; intro K hK; go_big_quiet_op; go_big_quiet_on
        refine rg_quiet rfl rfl rfl rfl ?_; intro K hK; go_big_quiet_op; go_big_quiet_on
        refine rg_quiet rfl rfl rfl rfl ?_; intro K hK; go_big_quiet_op; go_big_quiet_on
        refine rg_val [] rfl rfl rfl (by kernel_rfl) (fun w1 hE hf => ?_) ?_
        ·go_simp
         exact (rgone_any M (.slice um M.cols.length cm) xg w1).mono fun e w' ⟨he, hw⟩ => ⟨_, he, rg_done hE hw (by rw [HG.out])⟩
        simp only [Act.put, List.setIfInBounds_toArray, List.set_cons_zero, List.set_cons_succ]
        refine rg_quiet rfl rfl rfl rfl ?_; intro K hK; go_big_quiet_op; go_big_quiet_on
        refine rg_quiet rfl rfl rfl rfl ?_; intro K hK; go_big_quiet_op; go_big_quiet_on
        refine rel_nil fun w8 hE8 _ => ?_
        have oq8 := oq7.ext' hE8
        have r8 := r7.ext hE8
        have b8 := b7.ext hE8
        have hcR8 : ColsT w8 (.slice a6 R.cols.length cc6) R.cols := TIn.ext hE8 hcR7
        have hcM8 : ColsT w8 (.slice um M.cols.length cm) M.cols := TIn.ext hE8 hcM7
        have HIDF : Hid (idleB xg M = false) := Lib.hid (by rw [HID.out]; simp [t1, t2, t3])
        have hE78 := hE8.le
        clear x0 x1 x2 x3 x4 x5 x6 x7 z0 z1 z2 hE8 oq7 r7 b7 hcR7 hcM7 t1 t2 t3 i1 i2 i3
        obtain ⟨y0, y1, y2, y3, y4, y5, y6, y7⟩ := b8.ro
        obtain ⟨v0, v1, v2, v3, v4⟩ := (oq8.keep _ _ _ hk1.out (by omega)).vw
        obtain ⟨p0, p1, p2⟩ := (oq8.keep _ _ _ hk2.out (by omega)).pa
        have tb8 := oq8.keep _ _ _ hk0.out (by omega)
        have s0 : w8.cell? ⟨w.heap.size, 0, none⟩ = some (.string ⟨#[116]⟩) := tb8.cell 0
        have s1 : w8.cell? ⟨w.heap.size, 1, none⟩ = some (.int .i64 1) := tb8.cell 1
        have s2 : w8.cell? ⟨w.heap.size, 2, none⟩ = some (.string ⟨#[112]⟩) := tb8.cell 2
        have s3 : w8.cell? ⟨w.heap.size, 3, none⟩ = some (.int .i64 1) := tb8.cell 3
        have s4 : w8.cell? ⟨w.heap.size, 4, none⟩ = some (.string ⟨#[107]⟩) := tb8.cell 4
        have s5 : w8.cell? ⟨w.heap.size, 5, none⟩ = some (.int .i64 2) := tb8.cell 5
        have s6 : w8.cell? ⟨w.heap.size, 6, none⟩ = some s := tb8.cell 6
        go_wp2_with fail
        refine (mirror_any s x u ns pk pg _ R _ w8 (ColsT.cols hcR8) (by omega) (HNS.out.ext oq8.ext) (by omega) (by rw [HRK.out]; have := HK2.out; omega) (by rw [HRK.out]; exact HK3.out)).mono ?_
        rw [← HMI.out]
        rintro e w9 ⟨rv9, rfl, ps9, hr9, hpm9, hE9⟩
        obtain ⟨ar9, cr9, rfl⟩ := hr9.shape
        have oq9 := oq8.ext' hE9
        have r9 := r8.ext hE9
        have b9 := b8.ext hE9
        have hcR9 : ColsT w9 (.slice a6 R.cols.length cc6) R.cols := TIn.ext hE9 hcR8
        have hcM9 : ColsT w9 (.slice um M.cols.length cm) M.cols := TIn.ext hE9 hcM8
        have hE79 : w7.heap.size ≤ w9.heap.size := Nat.le_trans hE78 hE9.le
        clear y0 y1 y2 y3 y4 y5 y6 y7 v0 v1 v2 v3 v4 p0 p1 p2 tb8 s0 s1 s2 s3 s4 s5 s6 oq8 r8 b8 hcR8 hcM8 hE9 hr9 hpm9
        have hle9 : w7.heap.size ≤ w9.heap.size := hE79
        obtain ⟨n9, hn9⟩ : ∃ n, n = ps9.length := ⟨_, rfl⟩
        rw [← hn9]
        clear hn9
        cases mi with
        | none =>
         go_wp2_with (((guard_target =~ wpList _ _ _ (Oper.mk none (Op.store _ (Operand.tmp 22) (Operand.tmp 123)) _ _ _ _ :: _) _ _); go_must (refine storeBox rfl 39 (.tmp 22) (.tmp 123) rfl (w9.heap.size) _ _ _ (by rfl) (by rfl) ((BoxAt.made w9 (pa3 ⟨#[]⟩ 0 (.slice none 0 0)) 39)) (by kernel_rfl) (by rfl) (by simp [Value.oneCell']) ?_); intro w10 d10 g10); have hX10 : Ext w9 w10 := ((Ext.refl w9).alloc _).grown g10 (fun q hq => by cases hq; omega); have oq10 := oq9.ext' hX10; have m10 := d10.pa (k := mirK none) (g := 0) (u := .slice ar9 n9 cr9); have z10 := (oq10.keep _ _ _ hk3.out (by omega)).pa)
         have hle10 : w7.heap.size ≤ w10.heap.size := Nat.le_trans hle9 hX10.le
         have r10 := r9.ext hX10
         have b10 := b9.ext hX10
         have hcR10 : ColsT w10 (.slice a6 R.cols.length cc6) R.cols := TIn.ext hX10 hcR9
         have hcM10 : ColsT w10 (.slice um M.cols.length cm) M.cols := TIn.ext hX10 hcM9
         clear m10 z10 d10 g10
         refine wp_region_relE (OQ2 (OP w (w.heap.size + 1 + 1 + 1 + 1) w4.heap.size xk w4 (.slice al2 L2.length cl2) L2) wr.heap.size M (.slice um M.cols.length cm) w6.heap.size R (.slice a6 R.cols.length cc6) w7.heap.size) (OrE (.slice al2 L2.length cl2) w4.heap.size 9) (Tab.atE [(1, fun v _ => v = .slice al2 L2.length cl2), (2, fun v _ => v = .agg (vw5 x u)), (3, fun v _ => v = (.agg #[.string M.key, .string M.live.val, .bool M.live.dead, .int .i64 M.live.at_, .int .i64 M.live.fin, .int .i64 M.gone, .int .i64 M.shade, (.slice um M.cols.length cm)])), (4, fun v _ => v = (.agg #[.string R.key, .string R.live.val, .bool R.live.dead, .int .i64 R.live.at_, .int .i64 R.live.fin, .int .i64 R.gone, .int .i64 R.shade, (.slice a6 R.cols.length cc6)])), (6, fun v _ => v = .int .i64 pg), (7, fun v y => ∃ v', v = (.agg #[.string JL.key, .string JL.live.val, .bool JL.live.dead, .int .i64 JL.live.at_, .int .i64 JL.live.fin, .int .i64 JL.gone, .int .i64 JL.shade, v']) ∧ ColsT y v' JL.cols), (8, fun v y => ∃ b v', v = .slice (some ⟨b, 0, none⟩) 1 1 ∧ w7.heap.size ≤ b ∧ BoxAt y b (ro8 JL v') 47 ∧ ColsT y v' JL.cols), (9, fun v y => ∃ v', y.ownsRow w4.heap.size 47 8 v (L2.length + 1) (roCells (L2 ++ [(JL, v')])) ∧ ColsT y v' JL.cols)])
          (Tab.staysE ⟨fun _ _ _ _ _ _ h => h, fun _ _ _ _ _ _ h => h, fun _ _ _ _ _ _ h => h, fun _ _ _ _ _ _ h => h, fun _ _ _ _ _ _ h => h, fun _ _ _ _ _ hR ⟨v', e, h⟩ => ⟨v', e, OrE_tin hR (by decide) h⟩, fun _ _ _ _ _ hR ⟨b, v', e, hb, hx, h⟩ => ⟨b, v', e, hb, OrE_far own7 hR hb hx, OrE_tin hR (by decide) h⟩, fun _ hj _ _ _ hR ⟨v', h, hc⟩ => ⟨v', ownsRow_ext h (OrE_off hj hR), OrE_tin hR (by decide) hc⟩, trivial⟩)
          11 (by kernel_rfl) (by kernel_rfl) (by kernel_rfl) (OQ2.mk (oq10.ext' (Ext.refl _).drew) (r10.ext (Ext.refl _).drew) (b10.ext (Ext.refl _).drew) (TIn.ext (Ext.refl _).drew hcM10) (TIn.ext (Ext.refl _).drew hcR10) hle10) ?_
         refine relE_quiet rfl rfl rfl rfl ?_; intro K hK; go_big_quiet_op; (first | refine ⟨_, fun _ _ => rfl, hK _ ?_⟩ | refine hK _ ?_); clear hK K
         refine relE_val [] rfl rfl rfl (by kernel_rfl) (fun z hz hf => ?_) ?_
         ·obtain ⟨q0, q1, q2⟩ := hz.op.box.pa
          go_simp
          exact ⟨hz, OrE_ext (by decide) (Ext.refl z), rfl⟩
         simp only [Act.put, List.setIfInBounds_toArray, List.set_cons_zero, List.set_cons_succ]
         refine relE_val [] rfl rfl rfl (by kernel_rfl) (fun z hz hf => ?_) ?_
         ·obtain ⟨q0, q1, q2, q3, q4⟩ := (hz.op.keep _ _ _ hk1.out (by omega)).vw
          go_simp
          exact ⟨hz, OrE_ext (by decide) (Ext.refl z), rfl⟩
         simp only [Act.put, List.setIfInBounds_toArray, List.set_cons_zero, List.set_cons_succ]
         refine relE_val [] rfl rfl rfl (by kernel_rfl) (fun z hz hf => ?_) ?_
         ·obtain ⟨q0, q1, q2, q3, q4, q5, q6, q7⟩ := hz.box.ro
          go_simp
          exact ⟨hz, OrE_ext (by decide) (Ext.refl z), rfl⟩
         simp only [Act.put, List.setIfInBounds_toArray, List.set_cons_zero, List.set_cons_succ]
         refine relE_val [] rfl rfl rfl (by kernel_rfl) (fun z hz hf => ?_) ?_
         ·obtain ⟨q0, q1, q2, q3, q4, q5, q6, q7⟩ := hz.box2.ro
          go_simp
          exact ⟨hz, OrE_ext (by decide) (Ext.refl z), rfl⟩
         simp only [Act.put, List.setIfInBounds_toArray, List.set_cons_zero, List.set_cons_succ]
         refine relE_quiet rfl rfl rfl rfl ?_; intro K hK; go_big_quiet_op; (first | refine ⟨_, fun _ _ => rfl, hK _ ?_⟩ | refine hK _ ?_); clear hK K
         refine relE_val [] rfl rfl rfl (by kernel_rfl) (fun z hz hf => ?_) ?_
         ·obtain ⟨q0, q1, q2⟩ := (hz.op.keep _ _ _ hk2.out (by omega)).pa
          go_simp
          exact ⟨hz, OrE_ext (by decide) (Ext.refl z), rfl⟩
         simp only [Act.put, List.setIfInBounds_toArray, List.set_cons_zero, List.set_cons_succ]
         refine relE_fact [] rfl rfl rfl (by kernel_rfl) (fun z hz hf => ?_) (fun v8 z8 hC8 hG8 h8 => ?_)
         ·go_simp
          refine (left_any x u M R (.slice um M.cols.length cm) (.slice a6 R.cols.length cc6) pg z (ColsT.cols hz.cols2)).mono ?_
          rw [← HJL.out]
          rintro e y ⟨v', he, hc, hy⟩
          exact ⟨_, he, OQ2.ext' hy hz (hz.op.ext' hy), OrE_ext (by decide) hy, v', rfl, hc⟩
         obtain ⟨v11, rfl, h11⟩ := h8
         obtain ⟨a11, c11, rfl⟩ := TIn.shape h11
         clear hC8 hG8 h11
         simp only [Act.put, List.setIfInBounds_toArray, List.set_cons_zero, List.set_cons_succ]
         refine relE_fact [7] rfl rfl rfl (by kernel_rfl) (fun z hz hf => ?_) (fun v4 z4 hC4 hG4 h4 => ?_)
         ·obtain ⟨v', e, hc⟩ := (hf 7 (by simp)).2 rfl
          cases e
          have hy : Ext z (z.alloc (.cells (ro8 JL (.slice a11 JL.cols.length c11)) 47)) := (Ext.refl z).alloc _
          go_simp
          exact ⟨OQ2.ext' hy hz (hz.op.ext' hy), OrE_ext (by decide) hy, _, rfl, hz.size, _, BoxAt.made z _ _, TIn.ext hy hc⟩
         obtain ⟨b14, v14, rfl, _, _, _⟩ := h4
         clear hC4 hG4
         simp only [Act.put, List.setIfInBounds_toArray, List.set_cons_zero, List.set_cons_succ]
         refine relE_fact [8] rfl rfl rfl (by kernel_rfl) (fun z hz hf => ?_) (fun v5 z5 hC5 hG5 h5 => ?_)
         ·obtain ⟨b, v', e, hb, hbox, hr⟩ := (hf 8 (by simp)).2 rfl
          cases e
          obtain ⟨aq, cq, rfl⟩ := TIn.shape hr
          refine yields_append info_Row und_Rows rfl (by decide) (.tmp 135) (.tmp 142) rfl w4.heap.size hz.op.size (.slice al2 L2.length cl2) L2.length (roCells L2) hz.op.own (by rfl) b14 1 1 (ro8 JL (.slice aq JL.cols.length cq)).toList (by rfl) (by rfl) (fun j u hj => by rw [hbox.cell j]; simpa using hj) (by simp [ro8, Value.oneCell']) (by unfold maxLen; omega) (by omega) ?_
          intro v'' y hown' hg hkeep
          have hR : OrE (.slice al2 L2.length cl2) w4.heap.size 9 9 z y := by unfold OrE; rw [if_pos rfl]; exact ⟨⟨_, _, hz.op.own⟩, hg⟩
          refine ⟨OQ2.mk (hz.op.grow hw4 (by omega) (Nat.le_refl _) hg hkeep) (hz.box.grown hg (fun e => by have := (hwrown.lt _ e.symm).2; omega)) (hz.box2.grown hg (fun e => by have := (hwrown.lt _ e.symm).2; omega)) (OrE_tin hR (by decide) hz.cols) (OrE_tin hR (by decide) hz.cols2) (Nat.le_trans hz.size hg.size), hR, _, ?_, OrE_tin hR (by decide) hr⟩
          rw [roCells_append]
          exact hown'
         obtain ⟨v15, h5, _⟩ := h5
         obtain ⟨a5, c5, rfl⟩ := own_shape h5
         clear hC5 hG5 h5
         simp only [Act.put, List.setIfInBounds_toArray, List.set_cons_zero, List.set_cons_succ]
         refine relE_quiet rfl rfl rfl rfl ?_; intro K hK; go_big_quiet_op; (first | refine ⟨_, fun _ _ => rfl, hK _ ?_⟩ | refine hK _ ?_); clear hK K
         refine relE_tail rfl rfl fun w11 hC hG => ?_
         obtain ⟨v12, hown12, hr12⟩ := (hG 9).2 rfl
         have q0 : w11.cell? ⟨w.heap.size + 1 + 1 + 1 + 1, 2, none⟩ = some (.slice al2 L2.length cl2) := hC.op.box.cell 2
         have qf := hC.op.box.free 2
         go_wp2_with fail
         go_roundw
         case rel =>
          refine ⟨j + 1, _, L2 ++ [(JL, v12)], hlt, rfl, hC.op.put (by omega) hown12 hr12, by simp; omega, ?_⟩
          show _ = _
          rw [HSTEP.out, HIDF.out, if_neg (by decide), if_pos (show strayB none xk = true from rfl)]
          simp
         case measure => simp [intOf]; omega
        | some p =>
         by_cases hpx : p.1 = xk
         ·have hkb : ((mirK (some p)).toList == xk.toList) = true := by simpa [mirK] using congrArg ByteArray.toList hpx
          go_wp2_with (((guard_target =~ wpList _ _ _ (Oper.mk none (Op.store _ (Operand.tmp 22) (Operand.tmp 123)) _ _ _ _ :: _) _ _); go_must (refine storeBox rfl 39 (.tmp 22) (.tmp 123) rfl (w9.heap.size) _ _ _ (by rfl) (by rfl) ((BoxAt.made w9 (pa3 ⟨#[]⟩ 0 (.slice none 0 0)) 39)) (by kernel_rfl) (by rfl) (by simp [Value.oneCell']) ?_); intro w10 d10 g10); have hX10 : Ext w9 w10 := ((Ext.refl w9).alloc _).grown g10 (fun q hq => by cases hq; omega); have oq10 := oq9.ext' hX10; have m10 := d10.pa (k := mirK (some p)) (g := 0) (u := .slice ar9 n9 cr9); have z10 := (oq10.keep _ _ _ hk3.out (by omega)).pa)
          go_roundw
          case rel =>
           refine ⟨j + 1, _, L2, hlt, rfl, oq10, by omega, ?_⟩
           show _ = _
           rw [HSTEP.out, HIDF.out]
           simp [strayB, hkb]
          case measure => simp [intOf]; omega
         ·have hkb : ((mirK (some p)).toList == xk.toList) = false := by simp [mirK]; exact fun e => hpx (bytes_ext e)
          go_wp2_with (((guard_target =~ wpList _ _ _ (Oper.mk none (Op.store _ (Operand.tmp 22) (Operand.tmp 123)) _ _ _ _ :: _) _ _); go_must (refine storeBox rfl 39 (.tmp 22) (.tmp 123) rfl (w9.heap.size) _ _ _ (by rfl) (by rfl) ((BoxAt.made w9 (pa3 ⟨#[]⟩ 0 (.slice none 0 0)) 39)) (by kernel_rfl) (by rfl) (by simp [Value.oneCell']) ?_); intro w10 d10 g10); have hX10 : Ext w9 w10 := ((Ext.refl w9).alloc _).grown g10 (fun q hq => by cases hq; omega); have oq10 := oq9.ext' hX10; have m10 := d10.pa (k := mirK (some p)) (g := 0) (u := .slice ar9 n9 cr9); have z10 := (oq10.keep _ _ _ hk3.out (by omega)).pa)
          have hle10 : w7.heap.size ≤ w10.heap.size := Nat.le_trans hle9 hX10.le
          have r10 := r9.ext hX10
          have b10 := b9.ext hX10
          have hcR10 : ColsT w10 (.slice a6 R.cols.length cc6) R.cols := TIn.ext hX10 hcR9
          have hcM10 : ColsT w10 (.slice um M.cols.length cm) M.cols := TIn.ext hX10 hcM9
          clear m10 z10 d10 g10
          refine wp_region_relE (OQ2 (OP w (w.heap.size + 1 + 1 + 1 + 1) w4.heap.size xk w4 (.slice al2 L2.length cl2) L2) wr.heap.size M (.slice um M.cols.length cm) w6.heap.size R (.slice a6 R.cols.length cc6) w7.heap.size) (OrE (.slice al2 L2.length cl2) w4.heap.size 9) (Tab.atE [(1, fun v _ => v = .slice al2 L2.length cl2), (2, fun v _ => v = .agg (vw5 x u)), (3, fun v _ => v = (.agg #[.string M.key, .string M.live.val, .bool M.live.dead, .int .i64 M.live.at_, .int .i64 M.live.fin, .int .i64 M.gone, .int .i64 M.shade, (.slice um M.cols.length cm)])), (4, fun v _ => v = (.agg #[.string R.key, .string R.live.val, .bool R.live.dead, .int .i64 R.live.at_, .int .i64 R.live.fin, .int .i64 R.gone, .int .i64 R.shade, (.slice a6 R.cols.length cc6)])), (6, fun v _ => v = .int .i64 pg), (7, fun v y => ∃ v', v = (.agg #[.string JL.key, .string JL.live.val, .bool JL.live.dead, .int .i64 JL.live.at_, .int .i64 JL.live.fin, .int .i64 JL.gone, .int .i64 JL.shade, v']) ∧ ColsT y v' JL.cols), (8, fun v y => ∃ b v', v = .slice (some ⟨b, 0, none⟩) 1 1 ∧ w7.heap.size ≤ b ∧ BoxAt y b (ro8 JL v') 47 ∧ ColsT y v' JL.cols), (9, fun v y => ∃ v', y.ownsRow w4.heap.size 47 8 v (L2.length + 1) (roCells (L2 ++ [(JL, v')])) ∧ ColsT y v' JL.cols)])
           (Tab.staysE ⟨fun _ _ _ _ _ _ h => h, fun _ _ _ _ _ _ h => h, fun _ _ _ _ _ _ h => h, fun _ _ _ _ _ _ h => h, fun _ _ _ _ _ _ h => h, fun _ _ _ _ _ hR ⟨v', e, h⟩ => ⟨v', e, OrE_tin hR (by decide) h⟩, fun _ _ _ _ _ hR ⟨b, v', e, hb, hx, h⟩ => ⟨b, v', e, hb, OrE_far own7 hR hb hx, OrE_tin hR (by decide) h⟩, fun _ hj _ _ _ hR ⟨v', h, hc⟩ => ⟨v', ownsRow_ext h (OrE_off hj hR), OrE_tin hR (by decide) hc⟩, trivial⟩)
           11 (by kernel_rfl) (by kernel_rfl) (by kernel_rfl) (OQ2.mk (oq10.ext' (Ext.refl _).drew) (r10.ext (Ext.refl _).drew) (b10.ext (Ext.refl _).drew) (TIn.ext (Ext.refl _).drew hcM10) (TIn.ext (Ext.refl _).drew hcR10) hle10) ?_
          refine relE_quiet rfl rfl rfl rfl ?_; intro K hK; go_big_quiet_op; (first | refine ⟨_, fun _ _ => rfl, hK _ ?_⟩ | refine hK _ ?_); clear hK K
          refine relE_val [] rfl rfl rfl (by kernel_rfl) (fun z hz hf => ?_) ?_
          ·obtain ⟨q0, q1, q2⟩ := hz.op.box.pa
           go_simp
           exact ⟨hz, OrE_ext (by decide) (Ext.refl z), rfl⟩
          simp only [Act.put, List.setIfInBounds_toArray, List.set_cons_zero, List.set_cons_succ]
          refine relE_val [] rfl rfl rfl (by kernel_rfl) (fun z hz hf => ?_) ?_
          ·obtain ⟨q0, q1, q2, q3, q4⟩ := (hz.op.keep _ _ _ hk1.out (by omega)).vw
           go_simp
           exact ⟨hz, OrE_ext (by decide) (Ext.refl z), rfl⟩
          simp only [Act.put, List.setIfInBounds_toArray, List.set_cons_zero, List.set_cons_succ]
          refine relE_val [] rfl rfl rfl (by kernel_rfl) (fun z hz hf => ?_) ?_
          ·obtain ⟨q0, q1, q2, q3, q4, q5, q6, q7⟩ := hz.box.ro
           go_simp
           exact ⟨hz, OrE_ext (by decide) (Ext.refl z), rfl⟩
          simp only [Act.put, List.setIfInBounds_toArray, List.set_cons_zero, List.set_cons_succ]
          refine relE_val [] rfl rfl rfl (by kernel_rfl) (fun z hz hf => ?_) ?_
          ·obtain ⟨q0, q1, q2, q3, q4, q5, q6, q7⟩ := hz.box2.ro
           go_simp
           exact ⟨hz, OrE_ext (by decide) (Ext.refl z), rfl⟩
          simp only [Act.put, List.setIfInBounds_toArray, List.set_cons_zero, List.set_cons_succ]
          refine relE_quiet rfl rfl rfl rfl ?_; intro K hK; go_big_quiet_op; (first | refine ⟨_, fun _ _ => rfl, hK _ ?_⟩ | refine hK _ ?_); clear hK K
          refine relE_val [] rfl rfl rfl (by kernel_rfl) (fun z hz hf => ?_) ?_
          ·obtain ⟨q0, q1, q2⟩ := (hz.op.keep _ _ _ hk2.out (by omega)).pa
           go_simp
           exact ⟨hz, OrE_ext (by decide) (Ext.refl z), rfl⟩
          simp only [Act.put, List.setIfInBounds_toArray, List.set_cons_zero, List.set_cons_succ]
          refine relE_fact [] rfl rfl rfl (by kernel_rfl) (fun z hz hf => ?_) (fun v8 z8 hC8 hG8 h8 => ?_)
          ·go_simp
           refine (left_any x u M R (.slice um M.cols.length cm) (.slice a6 R.cols.length cc6) pg z (ColsT.cols hz.cols2)).mono ?_
           rw [← HJL.out]
           rintro e y ⟨v', he, hc, hy⟩
           exact ⟨_, he, OQ2.ext' hy hz (hz.op.ext' hy), OrE_ext (by decide) hy, v', rfl, hc⟩
          obtain ⟨v11, rfl, h11⟩ := h8
          obtain ⟨a11, c11, rfl⟩ := TIn.shape h11
          clear hC8 hG8 h11
          simp only [Act.put, List.setIfInBounds_toArray, List.set_cons_zero, List.set_cons_succ]
          refine relE_fact [7] rfl rfl rfl (by kernel_rfl) (fun z hz hf => ?_) (fun v4 z4 hC4 hG4 h4 => ?_)
          ·obtain ⟨v', e, hc⟩ := (hf 7 (by simp)).2 rfl
           cases e
           have hy : Ext z (z.alloc (.cells (ro8 JL (.slice a11 JL.cols.length c11)) 47)) := (Ext.refl z).alloc _
           go_simp
           exact ⟨OQ2.ext' hy hz (hz.op.ext' hy), OrE_ext (by decide) hy, _, rfl, hz.size, _, BoxAt.made z _ _, TIn.ext hy hc⟩
          obtain ⟨b14, v14, rfl, _, _, _⟩ := h4
          clear hC4 hG4
          simp only [Act.put, List.setIfInBounds_toArray, List.set_cons_zero, List.set_cons_succ]
          refine relE_fact [8] rfl rfl rfl (by kernel_rfl) (fun z hz hf => ?_) (fun v5 z5 hC5 hG5 h5 => ?_)
          ·obtain ⟨b, v', e, hb, hbox, hr⟩ := (hf 8 (by simp)).2 rfl
           cases e
           obtain ⟨aq, cq, rfl⟩ := TIn.shape hr
           refine yields_append info_Row und_Rows rfl (by decide) (.tmp 135) (.tmp 142) rfl w4.heap.size hz.op.size (.slice al2 L2.length cl2) L2.length (roCells L2) hz.op.own (by rfl) b14 1 1 (ro8 JL (.slice aq JL.cols.length cq)).toList (by rfl) (by rfl) (fun j u hj => by rw [hbox.cell j]; simpa using hj) (by simp [ro8, Value.oneCell']) (by unfold maxLen; omega) (by omega) ?_
           intro v'' y hown' hg hkeep
           have hR : OrE (.slice al2 L2.length cl2) w4.heap.size 9 9 z y := by unfold OrE; rw [if_pos rfl]; exact ⟨⟨_, _, hz.op.own⟩, hg⟩
           refine ⟨OQ2.mk (hz.op.grow hw4 (by omega) (Nat.le_refl _) hg hkeep) (hz.box.grown hg (fun e => by have := (hwrown.lt _ e.symm).2; omega)) (hz.box2.grown hg (fun e => by have := (hwrown.lt _ e.symm).2; omega)) (OrE_tin hR (by decide) hz.cols) (OrE_tin hR (by decide) hz.cols2) (Nat.le_trans hz.size hg.size), hR, _, ?_, OrE_tin hR (by decide) hr⟩
           rw [roCells_append]
           exact hown'
          obtain ⟨v15, h5, _⟩ := h5
          obtain ⟨a5, c5, rfl⟩ := own_shape h5
          clear hC5 hG5 h5
          simp only [Act.put, List.setIfInBounds_toArray, List.set_cons_zero, List.set_cons_succ]
          refine relE_quiet rfl rfl rfl rfl ?_; intro K hK; go_big_quiet_op; (first | refine ⟨_, fun _ _ => rfl, hK _ ?_⟩ | refine hK _ ?_); clear hK K
          refine relE_tail rfl rfl fun w11 hC hG => ?_
          obtain ⟨v12, hown12, hr12⟩ := (hG 9).2 rfl
          have q0 : w11.cell? ⟨w.heap.size + 1 + 1 + 1 + 1, 2, none⟩ = some (.slice al2 L2.length cl2) := hC.op.box.cell 2
          have qf := hC.op.box.free 2
          go_wp2_with fail
          go_roundw
          case rel =>
           refine ⟨j + 1, _, L2 ++ [(JL, v12)], hlt, rfl, hC.op.put (by omega) hown12 hr12, by simp; omega, ?_⟩
           show _ = _
           rw [HSTEP.out, HIDF.out, if_neg (by decide), if_pos (show strayB (some p) xk = true by simp [strayB, hkb])]
           simp
          case measure => simp [intOf]; omega
    ·obtain rfl : j = k := by omega
     have HLS : Hid (L2.map (·.1) = shadeRs x ns xk xg pk pg ALL cof (qs.map (·.1))) := by
      show _ = _
      rw [HDj.out, List.take_of_length_le (by simp; rw [← HN.out]; exact Nat.le_refl _)]
     obtain ⟨q0, q1, q2⟩ := hoq.box.pa
     clear hlt
     go_wp2_with fail
     refine (rise_any _ L2 wr (RowsT.mk (TIn.own hoq.own) hoq.rows).rows (by omega) (fun i h => by
      have := HUS.out (L2.map (·.1)) (by rw [HLS.out, HALL.out]) i (by simpa using h)
      simpa using this)).mono ?_
     rintro e w5 ⟨rfl, hE5⟩
     have op5 := hoq.ext' hE5
     have b4 := op5.box
     have b5 := op5.keep _ _ _ hk5.out (by omega)
     obtain ⟨q0, q1, q2⟩ := b4.pa
     obtain ⟨p0, p1, p2⟩ := b5.pa
     have f4 := b4.free
     have f5 := b5.free
     have hRS : RowsT w5 (.slice al2 L2.length cl2) L2 := ⟨TIn.own op5.own, op5.rows⟩
     have hRB : RowsT w5 (.slice al L.length cl) L := op5.rowsT hop4.box hRL.out
     have hEF := op5.ext
     go_wp2_with fail
     go_region
     have s_0 := hRS.set 0 (.string xk) b4 (by decide) (by decide)
     have r_0 := hRB.set 0 (.string xk) b4 (by decide) (by decide)
     have bs_0 := b4.set 0 (.string xk)
     have bb_0 := b5.other (q := w.heap.size + 1 + 1 + 1 + 1) (by omega) 0 (.string xk)
     have ee_0 := hEF.setCell (p := ⟨w.heap.size + 1 + 1 + 1 + 1, 0, none⟩) (show w.heap.size ≤ w.heap.size + 1 + 1 + 1 + 1 by omega) (.string xk)
     have s_1 := s_0.set 1 (.int .i64 0) bs_0 (by decide) (by decide)
     have r_1 := r_0.set 1 (.int .i64 0) bs_0 (by decide) (by decide)
     have bs_1 := bs_0.set 1 (.int .i64 0)
     have bb_1 := bb_0.other (q := w.heap.size + 1 + 1 + 1 + 1) (by omega) 1 (.int .i64 0)
     have ee_1 := ee_0.setCell (p := ⟨w.heap.size + 1 + 1 + 1 + 1, 1, none⟩) (show w.heap.size ≤ w.heap.size + 1 + 1 + 1 + 1 by omega) (.int .i64 0)
     have s_2 := s_1.set 2 (.slice al2 L2.length cl2) bs_1 (by decide) (by decide)
     have r_2 := r_1.set 2 (.slice al2 L2.length cl2) bs_1 (by decide) (by decide)
     have bs_2 := bs_1.set 2 (.slice al2 L2.length cl2)
     have bb_2 := bb_1.other (q := w.heap.size + 1 + 1 + 1 + 1) (by omega) 2 (.slice al2 L2.length cl2)
     have ee_2 := ee_1.setCell (p := ⟨w.heap.size + 1 + 1 + 1 + 1, 2, none⟩) (show w.heap.size ≤ w.heap.size + 1 + 1 + 1 + 1 by omega) (.slice al2 L2.length cl2)
     have s_3 := s_2.set 0 (.string pk) bb_2 (by decide) (by decide)
     have r_3 := r_2.set 0 (.string pk) bb_2 (by decide) (by decide)
     have bs_3 := bs_2.other (q := w.heap.size + 1 + 1 + 1 + 1 + 1) (by omega) 0 (.string pk)
     have bb_3 := bb_2.set 0 (.string pk)
     have ee_3 := ee_2.setCell (p := ⟨w.heap.size + 1 + 1 + 1 + 1 + 1, 0, none⟩) (show w.heap.size ≤ w.heap.size + 1 + 1 + 1 + 1 + 1 by omega) (.string pk)
     have s_4 := s_3.set 1 (.int .i64 0) bb_3 (by decide) (by decide)
     have r_4 := r_3.set 1 (.int .i64 0) bb_3 (by decide) (by decide)
     have bs_4 := bs_3.other (q := w.heap.size + 1 + 1 + 1 + 1 + 1) (by omega) 1 (.int .i64 0)
     have bb_4 := bb_3.set 1 (.int .i64 0)
     have ee_4 := ee_3.setCell (p := ⟨w.heap.size + 1 + 1 + 1 + 1 + 1, 1, none⟩) (show w.heap.size ≤ w.heap.size + 1 + 1 + 1 + 1 + 1 by omega) (.int .i64 0)
     have s_5 := s_4.set 2 (.slice al L.length cl) bb_4 (by decide) (by decide)
     have r_5 := r_4.set 2 (.slice al L.length cl) bb_4 (by decide) (by decide)
     have bs_5 := bs_4.other (q := w.heap.size + 1 + 1 + 1 + 1 + 1) (by omega) 2 (.slice al L.length cl)
     have bb_5 := bb_4.set 2 (.slice al L.length cl)
     have ee_5 := ee_4.setCell (p := ⟨w.heap.size + 1 + 1 + 1 + 1 + 1, 2, none⟩) (show w.heap.size ≤ w.heap.size + 1 + 1 + 1 + 1 + 1 by omega) (.slice al L.length cl)
     clear s_0 r_0 bs_0 bb_0 ee_0 s_1 r_1 bs_1 bb_1 ee_1 s_2 r_2 bs_2 bb_2 ee_2 s_3 r_3 bs_3 bb_3 ee_3 s_4 r_4 bs_4 bb_4 ee_4
     generalize World.setCell (World.setCell (World.setCell (World.setCell (World.setCell (World.setCell w5 _ _) _ _) _ _) _ _) _ _) _ _ = w6 at s_5 r_5 bs_5 bb_5 ee_5 ⊢
     replace bs_5 : BoxAt w6 (w.heap.size + 1 + 1 + 1 + 1) (pa3 xk 0 (.slice al2 L2.length cl2)) 39 := bs_5
     replace bb_5 : BoxAt w6 (w.heap.size + 1 + 1 + 1 + 1 + 1) (pa3 pk 0 (.slice al L.length cl)) 39 := bb_5
     obtain ⟨q0, q1, q2⟩ := (bs_5.ext (Ext.refl w6).drew).pa
     obtain ⟨p0, p1, p2⟩ := (bb_5.ext (Ext.refl w6).drew).pa
     go_wp2
     refine bodyPost_ret (v := .tuple #[.agg #[.string xk, .int .i64 0, .slice al2 L2.length cl2], .agg #[.string pk, .int .i64 0, .slice al L.length cl]]) ?_ rfl ⟨_, _, L2, L, rfl, s_5.ext (Ext.refl w6).drew, by rw [HLS.out, HALL.out], r_5.ext (Ext.refl w6).drew, HLB.out, ee_5.drew⟩
     simp [results, Tryz.results11, go_sem, q0, q1, q2, p0, p1, p2]
end Go.Proofs.YtolkhjdododdaaaGreatDoor

/- What clerestoryref19.known makes (plain). -/
namespace Go.Proofs.YtolkhjdododdaaaGreatDoor
open Go Go.RowKit

/-- The columns but for one. -/
def offL (n : ByteArray) (l : List Co) : List Co := l.filter fun c => c.name.toList != n.toList
theorem offL_take (n : ByteArray) (l : List Co) (k : Nat) (hk : k < l.length) : offL n (l.take (k + 1)) = offL n (l.take k) ++ if (l[k].name.toList == n.toList) then [] else [l[k]] := by
 unfold offL
 rw [List.take_succ_eq_append_getElem hk, List.filter_append]
 congr 1
 cases h : l[k].name.toList == n.toList <;> simp [bne, h]
theorem offL_ne {n : ByteArray} {l : List Co} : ∀ d ∈ offL n l, (d.name.toList == n.toList) = false := fun d hd => by
 have := (List.mem_filter.1 hd).2
 simpa [bne] using this
theorem offL_len (n : ByteArray) (l : List Co) : (offL n l).length ≤ l.length := List.length_filter_le ..
/-- The cell of the view's column as the reference joins it. -/
def on19 (x : Vw) (xk : ByteArray) (r : Ro) : Cl := if 0 < r.live.at_ then joinCl (cellOf r.cols x.on) ⟨xk, false, r.live.at_, r.live.fin⟩ else cellOf r.cols x.on
/-- What the reference's 'known' makes. -/
def kn19 (x : Vw) (xk : ByteArray) (xg : Int) (r b : Ro) (g : Int) : Ro :=
 ⟨b.key, zeroCl, if max b.gone g < max r.gone xg then max r.gone xg else 0, 0, if 0 < (on19 x xk r).at_ then mergeCo (offL x.on r.cols) [⟨x.on, on19 x xk r⟩] else offL x.on r.cols⟩
end Go.Proofs.YtolkhjdododdaaaGreatDoor
