/- part.Seen. (what a smaller cut has) -/
import Derived.Test.YtolkhjdododdaaaGreatDoorP17
import Derived.Test.YtolkhjdododdaaaGreatDoorP24
import Derived.Test.YtolkhjdododdaaaGreatDoorP20
import Derived.Test.YtolkhjdododdaaaGreatDoorP21
import Derived.Test.YtolkhjdododdaaaGreatDoorP35
set_option linter.unusedSimpArgs false
set_option linter.unusedVariables false
namespace Go.Proofs.YtolkhjdododdaaaGreatDoor
open Go Go.RowKit
attribute [local go_sem] yields yUpon ro8 pa3

/-- A row as it is seen. -/
def seenRo (r : Ro) (g now : Int) : Ro := ⟨r.key, r.live, 0, 0, seenCos r.cols (max r.gone g) now⟩
/-- The rows that are there at a time, with what is seen of them. -/
def seenRs (l : List Ro) (g now : Int) (strict : Bool) : List Ro := (l.filter fun r => isB r (max r.gone g) now strict).map fun r => seenRo r g now
/-- What stays true in the region: the list under way may be appended to; the row and the partition stay. -/
structure SR (w wr : World) (vo : Value) (out : List (Ro × Value)) (k : ByteArray) (g : Int) (pu : Value) (M : Ro) (u : Value) (x : World) : Prop where
 mr : MR w wr vo out x
 part : BoxAt x w.heap.size (pa3 k g pu) 39
 row : BoxAt x wr.heap.size (ro8 M u) 47
theorem SR.ext' {w wr : World} {vo : Value} {out : List (Ro × Value)} {k : ByteArray} {g : Int} {pu : Value} {M : Ro} {u : Value} {x y : World} (hE : Ext x y) (h : SR w wr vo out k g pu M u x) : SR w wr vo out k g pu M u y := ⟨h.mr.ext' hE, h.part.ext hE, h.row.ext hE⟩
end Go.Proofs.YtolkhjdododdaaaGreatDoor

/- ProjectMirrors: the plain law: what is seen of a mirror is what the view has of the row. -/
namespace Go.Proofs.YtolkhjdododdaaaGreatDoor
open Go Go.RowKit

/-- What a view has of a row at a time. -/
def ofSeen (x : Vw) (ns : List ByteArray) (pk : ByteArray) (pg now : Int) (r : Ro) : Option (ByteArray × Ro) :=
 if bestB (cellOf r.cols x.on) (max r.gone pg) then if seenB false (cellOf r.cols x.on).at_ (cellOf r.cols x.on).fin now then some ((cellOf r.cols x.on).val, ⟨vkey pk r.key, ⟨⟨#[]⟩, false, (cellOf r.cols x.on).at_, (cellOf r.cols x.on).fin⟩, 0, 0, (seenCos r.cols (max r.gone pg) now).filter (keeps ns)⟩) else none else none
/-- What a view has of rows at a time. -/
def viewRs (x : Vw) (ns : List ByteArray) (pk : ByteArray) (pg now : Int) (l : List Ro) : List (ByteArray × Ro) := l.filterMap (ofSeen x ns pk pg now)
/-- All mirrors of rows. -/
def fullRs (x : Vw) (ns : List ByteArray) (pk : ByteArray) (pg : Int) (l : List Ro) : List (ByteArray × Ro) := l.filterMap (mirOf x ns pk pg)
/-- Partitions of one row each. -/
def outQ (l : List (ByteArray × Ro)) : List (ByteArray × Int × List Ro) := l.map fun p => (p.1, 0, [p.2])
/-- What is seen of a mirror. -/
def selP (now : Int) (p : ByteArray × Ro) : Option (ByteArray × Ro) := if isB p.2 (max p.2.gone 0) now true then some (p.1, seenRo p.2 0 now) else none
theorem seenCo_max (c : Co) (g now : Int) : seenCo c (max g 0) now = seenCo c g now := by
 unfold seenCo seenB
 by_cases h : 0 < c.cell.at_
 ·rw [show decide (max g 0 < c.cell.at_) = decide (g < c.cell.at_) from decide_eq_decide.2 (by omega)]
 ·rw [show decide (0 < c.cell.at_) = false by simpa using h]
  simp
theorem seenCos_max (l : List Co) (g now : Int) : seenCos l (max g 0) now = seenCos l g now := by
 unfold seenCos
 congr 1
 funext c
 exact seenCo_max c g now
theorem seenCos_keeps (l : List Co) (ns : List ByteArray) (g now : Int) : seenCos (l.filter (keeps ns)) g now = (seenCos l g now).filter (keeps ns) := by
 unfold seenCos
 rw [List.filter_filter, List.filter_filter]
 congr 1
 funext c
 exact Bool.and_comm ..
theorem bestB_at {c : Cl} {g : Int} (h : bestB c g = true) : c.dead = false ∧ 1 ≤ c.at_ ∧ g < c.at_ := by
 unfold bestB at h
 simp only [Bool.not_eq_true', Bool.or_eq_false_iff, decide_eq_false_iff_not] at h
 exact ⟨h.1.1, by omega, by omega⟩
theorem sel_mir (x : Vw) (ns : List ByteArray) (pk : ByteArray) (pg now : Int) (r : Ro) : (mirOf x ns pk pg r).bind (selP now) = ofSeen x ns pk pg now r := by
 unfold mirOf ofSeen
 cases hb : bestB (cellOf r.cols x.on) (max r.gone pg) with
 | false => rfl
 | true =>
  obtain ⟨_, h1, h2⟩ := bestB_at hb
  rw [if_pos rfl, if_pos rfl]
  show selP now _ = _
  unfold selP isB liveB
  simp only
  rw [show decide (max (max r.gone pg) 0 < (cellOf r.cols x.on).at_) = true by simp; omega, show decide (0 < (cellOf r.cols x.on).at_) = true by simp; omega]
  cases hs : seenB false (cellOf r.cols x.on).at_ (cellOf r.cols x.on).fin now with
  | false => rfl
  | true =>
   rw [if_pos rfl, if_pos (by rfl)]
   unfold seenRo
   simp only
   rw [seenCos_keeps, seenCos_max]
theorem view_full (x : Vw) (ns : List ByteArray) (pk : ByteArray) (pg now : Int) (l : List Ro) : (fullRs x ns pk pg l).filterMap (selP now) = viewRs x ns pk pg now l := by
 unfold fullRs viewRs
 rw [List.filterMap_filterMap]
 congr 1
 funext r
 exact sel_mir x ns pk pg now r
section
variable {α β : Type} {f : α → Option β} {F : List α} {i : Nat}
end
end Go.Proofs.YtolkhjdododdaaaGreatDoor

/- Columns under one another: plain laws of rising columns, of which some are left out. -/
namespace Go.Proofs.YtolkhjdododdaaaGreatDoor
open Go Go.RowKit

/-- Columns of names that are let through. -/
def flt (f : List UInt8 → Bool) (l : List Co) : List Co := l.filter fun c => f (kCo c)
def fK (ns : List ByteArray) (k : List UInt8) : Bool := ns.any fun s => k == s.data.toList
theorem keeps_flt (ns : List ByteArray) (l : List Co) : l.filter (keeps ns) = flt (fK ns) l := by
 unfold flt
 congr 1
 funext c
 unfold keeps strikes hasS fK kCo
 rw [Bool.not_not]
 congr 1
 funext s
 rw [ByteArray.toList_eq, ByteArray.toList_eq]
theorem flt_up {f : List UInt8 → Bool} {l : List Co} (h : Up kCo l) : Up kCo (flt f l) := List.Pairwise.filter _ h
theorem flt_mem {f : List UInt8 → Bool} {l : List Co} {c : Co} (h : c ∈ flt f l) : c ∈ l := (List.mem_filter.1 h).1
theorem flt_flt (f g : List UInt8 → Bool) (l : List Co) : flt f (flt g l) = flt (fun k => f k && g k) l := by
 unfold flt
 rw [List.filter_filter]
theorem getK_flt (f : List UInt8 → Bool) (l : List Co) (k : List UInt8) : getK kCo (flt f l) k = if f k then getK kCo l k else none := by
 induction l with
 | nil => cases f k <;> rfl
 | cons a l ih =>
  unfold flt at ih ⊢
  by_cases ha : f (kCo a) = true
  ·rw [List.filter_cons_of_pos (by simpa using ha)]
   unfold getK
   by_cases hk : kCo a = k
   ·rw [if_pos hk, if_pos hk, ← hk, if_pos ha]
   ·rw [if_neg hk, if_neg hk]; exact ih
  ·rw [List.filter_cons_of_neg (by simpa using ha), ih]
   conv => rhs; unfold getK
   by_cases hk : kCo a = k
   ·rw [if_pos hk, ← hk, if_neg ha, if_neg ha]
   ·rw [if_neg hk]
/-- Columns that are under others. -/
def LeC (l m : List Co) : Prop := mergeCo m l = m
theorem leC_get {l m : List Co} (hl : Up kCo l) (hm : Up kCo m) : LeC l m ↔ ∀ k, optJ joinCo (getK kCo m k) (getK kCo l k) = getK kCo m k := by
 constructor
 ·intro h k
  have := getK_merge kCo_join hm hl k
  rw [← mergeCo_K, show mergeCo m l = m from h] at this
  exact this.symm
 ·intro h
  refine Up.ext (mergeCo_up hm hl) hm fun k => ?_
  rw [mergeCo_K, getK_merge kCo_join hm hl]
  exact h k
theorem leC_refl {l : List Co} (hl : Up kCo l) : LeC l l := mergeCo_self hl
theorem leC_nil (m : List Co) : LeC [] m := by unfold LeC mergeCo; exact mergeG_nil_right _ _ _
theorem leC_trans {l m n : List Co} (hl : Up kCo l) (hm : Up kCo m) (hn : Up kCo n) (h1 : LeC l m) (h2 : LeC m n) : LeC l n := by
 unfold LeC at *
 rw [← h2, mergeCo_assoc hn hm hl, h1]
theorem leC_anti {l m : List Co} (hl : Up kCo l) (hm : Up kCo m) (h1 : LeC l m) (h2 : LeC m l) : l = m := by
 unfold LeC at *
 rw [← h1, mergeCo_comm hm hl, h2]
theorem leC_merge {l m n : List Co} (hl : Up kCo l) (hm : Up kCo m) (hn : Up kCo n) (h1 : LeC l n) (h2 : LeC m n) : LeC (mergeCo l m) n := by
 unfold LeC at *
 rw [← mergeCo_assoc hn hl hm, h1, h2]
theorem leC_left {l m : List Co} (hl : Up kCo l) (hm : Up kCo m) : LeC l (mergeCo l m) := by
 unfold LeC
 rw [mergeCo_comm hl hm, mergeCo_assoc hm hl hl, mergeCo_self hl]
theorem leC_right {l m : List Co} (hl : Up kCo l) (hm : Up kCo m) : LeC m (mergeCo l m) := by
 unfold LeC
 rw [mergeCo_assoc hl hm hm, mergeCo_self hm]
theorem leC_flt {f g : List UInt8 → Bool} {l m : List Co} (hl : Up kCo l) (hm : Up kCo m) (hfg : ∀ k, f k = true → g k = true) (h : LeC l m) : LeC (flt f l) (flt g m) := by
 rw [leC_get (flt_up hl) (flt_up hm)]
 rw [leC_get hl hm] at h
 intro k
 rw [getK_flt, getK_flt]
 by_cases hf : f k = true
 ·rw [if_pos hf, if_pos (hfg k hf)]; exact h k
 ·rw [if_neg hf]
  cases (if g k = true then getK kCo m k else none) <;> rfl
theorem zLe {c : Cl} (h : 0 < c.at_) : cmpCl zeroCl c ≤ 0 := by
 unfold cmpCl cmpC
 rw [or4_le]
 left
 unfold cmpI zeroCl
 rw [if_pos h]
 omega
theorem le_cell {l m : List Co} (hl : Up kCo l) (hm : Up kCo m) (pm : ∀ c ∈ m, 0 < c.cell.at_) (h : LeC l m) (n : ByteArray) : cmpCl (cellOf l n) (cellOf m n) ≤ 0 := by
 rw [leC_get hl hm] at h
 have h := h n.data.toList
 rw [cellOf_get, cellOf_get]
 cases h1 : getK kCo l n.data.toList with
 | none =>
  cases h2 : getK kCo m n.data.toList with
  | none => simp only [Option.map_none, Option.getD_none]; rw [cmpCl_self]; exact Int.le_refl _
  | some y => exact zLe (pm y (getK_mem h2).1)
 | some x =>
  cases h2 : getK kCo m n.data.toList with
  | none => rw [h1, h2] at h; cases h
  | some y =>
   rw [h1, h2] at h
   have e : joinCo y x = y := Option.some.inj h
   have e' : joinCl y.cell x.cell = y.cell := congrArg Co.cell e
   show cmpCl x.cell y.cell ≤ 0
   have := le_joinCl_right y.cell x.cell
   rw [e'] at this
   exact ge_le this
/-- Between two cells that are alive, of one stamp and value, there is nothing else. -/
theorem between {c d e : Cl} (h1 : cmpCl c d ≤ 0) (h2 : cmpCl d e ≤ 0) (ha : e.at_ ≤ c.at_) (hc : c.dead = false) (he : e.dead = false) (hv : c.val = e.val) : d.at_ = c.at_ ∧ e.at_ = c.at_ ∧ d.dead = false ∧ d.val = c.val := by
 have a1 := le_at h1
 have a2 := le_at h2
 have e1 : d.at_ = c.at_ := by omega
 have e2 : e.at_ = d.at_ := by omega
 unfold cmpCl cmpC at h1 h2
 rw [e1, cmpI_self] at h1
 rw [e2, cmpI_self] at h2
 rw [or4_le] at h1 h2
 have h1 := (h1.resolve_left (by omega)).2
 have h2 := (h2.resolve_left (by omega)).2
 rw [hc] at h1
 rw [he] at h2
 have hd : d.dead = false := by
  cases hd : d.dead with
  | false => rfl
  | true =>
   rw [hd] at h2
   have : cmpI (bit true) (bit false) = 1 := by decide
   rw [this] at h2
   omega
 refine ⟨e1, by omega, hd, ?_⟩
 rw [hd, cmpI_self] at h1 h2
 have h1 := (h1.resolve_left (by omega)).2
 have h2 := (h2.resolve_left (by omega)).2
 rw [← hv] at h2
 have k1 : cmpB c.val.data.toList d.val.data.toList ≤ 0 := by omega
 have k2 : cmpB d.val.data.toList c.val.data.toList ≤ 0 := by omega
 have k3 := cmpB_anti c.val.data.toList d.val.data.toList
 apply ByteArray.ext
 exact (Array.toList_inj.1 (cmpB_zero (show cmpB c.val.data.toList d.val.data.toList = 0 by omega))).symm
/-- Without their value, cells of one value stay in their order. -/
theorem le_noval {a a' e e' : Int} {v : ByteArray} (h : cmpCl ⟨v, false, a, e⟩ ⟨v, false, a', e'⟩ ≤ 0) : cmpCl ⟨⟨#[]⟩, false, a, e⟩ ⟨⟨#[]⟩, false, a', e'⟩ ≤ 0 := by
 unfold cmpCl cmpC at *
 simp only at *
 rw [cmpB_self] at *
 exact h
theorem le_of_join {x y : Cl} (h : joinCl y x = y) : cmpCl x y ≤ 0 := by
 have := le_joinCl_right y x
 rw [h] at this
 exact ge_le this

/-! ### Rows by their key -/
theorem rowOf_get (l : List Ro) (k : ByteArray) : rowOf l k = (getK kRo l k.data.toList).getD ⟨k, zeroCl, 0, 0, []⟩ := by
 induction l with
 | nil => rfl
 | cons r l ih =>
  unfold rowOf getK
  by_cases h : kRo r = k.data.toList
  ·rw [if_pos h, if_pos (by unfold kRo at h; rw [ByteArray.toList_eq, ByteArray.toList_eq]; simpa using h)]
   rfl
  ·rw [if_neg h, if_neg (by unfold kRo at h; rw [ByteArray.toList_eq, ByteArray.toList_eq]; simpa using h)]
   exact ih
theorem rowOf_in {l : List Ro} {r : Ro} (h : Up kRo l) (hr : r ∈ l) : rowOf l r.key = r := by
 rw [rowOf_get, show r.key.data.toList = kRo r from rfl, getK_of_mem h hr]
 rfl
theorem vkey_lst (a b : ByteArray) : (vkey a b).data.toList = txt a.data.toList ++ b.data.toList := by
 unfold vkey
 rw [ByteArray.data_append]
 simp [str]
theorem vkey_same {pk a b : ByteArray} (h : vkey pk a = vkey pk b) : a = b := by
 have : (vkey pk a).data.toList = (vkey pk b).data.toList := by rw [h]
 rw [vkey_lst, vkey_lst] at this
 apply ByteArray.ext
 exact Array.toList_inj.1 (List.append_cancel_left this)
end Go.Proofs.YtolkhjdododdaaaGreatDoor

/- Deltas mirror: what holds of all deltas so far against the base: plain law of one more step. -/
namespace Go.Proofs.YtolkhjdododdaaaGreatDoor
open Go Go.RowKit

/-- A base that may be: rising rows of rising columns, stamps above nought. -/
structure OkD (p : Dp) : Prop where
 good : GoodD p
 pos : ∀ r ∈ p.2, ∀ c ∈ r.cols, 0 < c.cell.at_
 gone : 0 ≤ p.1
section
variable (x : Vw) (ns : List ByteArray) (pk : ByteArray)
def gOf (p : Dp) (k : ByteArray) : Int := max (rowOf p.2 k).gone p.1
def cOf (p : Dp) (k : ByteArray) : Cl := cellOf (rowOf p.2 k).cols x.on
def mOf (p : Dp) (k : ByteArray) : Option (ByteArray × Ro) := mirOf x ns pk p.1 (rowOf p.2 k)
/-- A view's columns and the one that says where. -/
def fOn (k : List UInt8) : Bool := fK ns k || k == x.on.data.toList
noncomputable def stepL (p p' : Dp) : List (ByteArray × Ro) := deltaRs x ns pk p.1 pk p'.1 p.2 p'.2
/-- A delta of a key. -/
structure Dl (p : Dp) (k a : ByteArray) (s : Ro) : Prop where
 key : s.key = vkey pk k
 gone : s.gone ≤ gOf p k
 up : Up kCo s.cols
 cols : LeC s.cols (flt (fOn x ns) (rowOf p.2 k).cols)
 kind : (s.shade = 0 ∧ 0 < s.live.at_ ∧ s.live = ⟨⟨#[]⟩, false, s.live.at_, s.live.fin⟩ ∧ cmpCl ⟨a, false, s.live.at_, s.live.fin⟩ (cOf x p k) ≤ 0) ∨
  (s.live = zeroCl ∧ ∀ C : Cl, C.dead = false → C.val = a → cmpCl (cOf x p k) C ≤ 0 → gOf p k < C.at_ → s.shade < C.at_)
/-- All deltas of a key. -/
structure KInv (p : Dp) (D : List (ByteArray × Ro)) (k : ByteArray) : Prop where
 each : ∀ a s, (a, s) ∈ D → s.key = vkey pk k → Dl x ns pk p k a s
 mir : ∀ a R, mOf x ns pk p k = some (a, R) → (a, R) ∈ D
 live : ∀ a s, (a, s) ∈ D → s.key = vkey pk k → s.live.at_ ≤ 0 ∨ (∃ P, mOf x ns pk p k = some (a, P) ∧ s.live.at_ ≤ P.live.at_) ∨ ∃ s', (a, s') ∈ D ∧ s'.key = vkey pk k ∧ s.live.at_ ≤ s'.shade
end
/-- A base that has grown. -/
structure LeD (p p' : Dp) : Prop where
 cols : ∀ k, LeC (rowOf p.2 k).cols (rowOf p'.2 k).cols
 gone : ∀ k, gOf p k ≤ gOf p' k
 has : ∀ r ∈ p.2, ∃ r' ∈ p'.2, r'.key = r.key
section
variable {x : Vw} {ns : List ByteArray} {pk : ByteArray}
theorem OkD.up {p : Dp} (h : OkD p) (k : ByteArray) : Up kCo (rowOf p.2 k).cols := by
 rcases rowOf_or p.2 k with hm | hn
 ·exact h.good.2 _ hm
 ·rw [hn]; exact List.Pairwise.nil
theorem OkD.cpos {p : Dp} (h : OkD p) (k : ByteArray) : ∀ c ∈ (rowOf p.2 k).cols, 0 < c.cell.at_ := by
 rcases rowOf_or p.2 k with hm | hn
 ·exact h.pos _ hm
 ·rw [hn]; exact nofun
theorem OkD.le {p p' : Dp} (h : OkD p) (h' : OkD p') (hl : LeD p p') (k : ByteArray) : cmpCl (cOf x p k) (cOf x p' k) ≤ 0 := le_cell (h.up k) (h'.up k) (h'.cpos k) (hl.cols k) x.on
theorem joinD_le {p q : Dp} (h : OkD p) (h' : OkD q) : OkD (joinD p q) ∧ LeD p (joinD p q) := by
 have hr : ∀ k, rowOf (joinD p q).2 k = (optJ joinRo (getK kRo p.2 k.data.toList) (getK kRo q.2 k.data.toList)).getD ⟨k, zeroCl, 0, 0, []⟩ := fun k => by
  rw [rowOf_get]
  show (getK kRo (mergeRo p.2 q.2) _).getD _ = _
  rw [mergeRo_K, getK_merge kRo_join h.good.1 h'.good.1]
 refine ⟨⟨h.good.join h'.good, fun r hr c hc => ?_, ?_⟩, fun k => ?_, fun k => ?_, fun r hr => ?_⟩
 ·rcases mem_mergeRs hr with (hm | hm) | ⟨a, ha, b, hb, _, rfl⟩
  ·exact h.pos r hm c hc
  ·exact h'.pos r hm c hc
  ·rcases mem_mergeCo hc with (hm | hm) | ⟨u, hu, v, hv, _, rfl⟩
   ·exact h.pos a ha c hm
   ·exact h'.pos b hb c hm
   ·have := (joinCl_at u.cell v.cell).1
    have := h.pos a ha u hu
    show 0 < (joinCl u.cell v.cell).at_
    omega
 ·have := h.gone
  show 0 ≤ max p.1 q.1
  omega
 ·rw [hr, rowOf_get]
  cases h1 : getK kRo p.2 k.data.toList with
  | none => exact leC_nil _
  | some a =>
   have ua := h.good.2 a (getK_mem h1).1
   cases h2 : getK kRo q.2 k.data.toList with
   | none => exact leC_refl ua
   | some b => exact leC_left ua (h'.good.2 b (getK_mem h2).1)
 ·unfold gOf
  rw [hr, rowOf_get]
  show _ ≤ max _ (max p.1 q.1)
  have := h.gone
  cases h1 : getK kRo p.2 k.data.toList with
  | none =>
   simp only [Option.getD_none]
   omega
  | some a =>
   cases h2 : getK kRo q.2 k.data.toList with
   | none => simp only [optJ, Option.getD_some]; omega
   | some b =>
    show max a.gone p.1 ≤ max (max a.gone b.gone) (max p.1 q.1)
    omega
 ·have h1 : getK kRo p.2 (kRo r) = some r := getK_of_mem h.good.1 hr
  have h2 := getK_merge (join := joinRo) kRo_join h.good.1 h'.good.1 (kRo r)
  rw [h1] at h2
  cases h3 : getK kRo q.2 (kRo r) with
  | none =>
   rw [h3] at h2
   exact ⟨r, (getK_mem h2).1, rfl⟩
  | some b =>
   rw [h3] at h2
   exact ⟨_, (getK_mem h2).1, rfl⟩
theorem mir_some {p : Dp} {k a : ByteArray} {R : Ro} (h : mOf x ns pk p k = some (a, R)) : bestB (cOf x p k) (gOf p k) = true ∧ a = (cOf x p k).val ∧ R = ⟨vkey pk k, ⟨⟨#[]⟩, false, (cOf x p k).at_, (cOf x p k).fin⟩, gOf p k, 0, flt (fK ns) (rowOf p.2 k).cols⟩ := by
 unfold mOf mirOf at h
 rw [rowOf_is, keeps_flt] at h
 by_cases hb : bestB (cellOf (rowOf p.2 k).cols x.on) (max (rowOf p.2 k).gone p.1) = true
 ·rw [if_pos hb] at h
  cases h
  exact ⟨hb, rfl, rfl⟩
 ·rw [if_neg hb] at h
  cases h
theorem mir_of {p : Dp} {k : ByteArray} (h : bestB (cOf x p k) (gOf p k) = true) : ∃ R, mOf x ns pk p k = some ((cOf x p k).val, R) := by
 unfold mOf mirOf
 exact ⟨_, if_pos (show bestB (cellOf (rowOf p.2 k).cols x.on) (max (rowOf p.2 k).gone p.1) = true from h)⟩
theorem mir_row {p : Dp} {k a : ByteArray} {R : Ro} (h : mOf x ns pk p k = some (a, R)) : rowOf p.2 k ∈ p.2 := by
 obtain ⟨hb, _⟩ := mir_some h
 rcases rowOf_or p.2 k with hm | hn
 ·exact hm
 ·unfold cOf at hb
  rw [hn] at hb
  have := (bestB_at hb).2.1
  cases this
theorem mem_step {p p' : Dp} {d : ByteArray × Ro} (ho : OkD p') : d ∈ stepL x ns pk p p' ↔ ∃ r' ∈ p'.2, d ∈ stepD x p'.1 (rowOf p'.2 r'.key) (mOf x ns pk p r'.key) (mOf x ns pk p' r'.key) := by
 unfold stepL
 have key : ∀ l : List Ro, (∀ r ∈ l, r ∈ p'.2) → (d ∈ deltaRs x ns pk p.1 pk p'.1 p.2 l ↔ ∃ r' ∈ l, d ∈ stepD x p'.1 (rowOf p'.2 r'.key) (mOf x ns pk p r'.key) (mOf x ns pk p' r'.key)) := by
  intro l
  induction l with
  | nil => intro _; simp [deltaRs]
  | cons r l ih =>
   intro hl
   have e : rowOf p'.2 r.key = r := rowOf_in ho.good.1 (hl r (List.mem_cons_self ..))
   unfold deltaRs
   rw [List.mem_append, ih fun r hr => hl r (List.mem_cons_of_mem _ hr)]
   unfold mOf
   constructor
   ·rintro (h | ⟨r', hr', h⟩)
    ·exact ⟨r, List.mem_cons_self .., by rw [e]; exact h⟩
    ·exact ⟨r', List.mem_cons_of_mem _ hr', h⟩
   ·rintro ⟨r', hr', h⟩
    rcases List.mem_cons.1 hr' with rfl | hr'
    ·rw [e] at h; exact .inl h
    ·exact .inr ⟨r', hr', h⟩
 exact key p'.2 fun r hr => hr
theorem stepD_some (g : Int) (r : Ro) (p q : ByteArray × Ro) : stepD x g r (some p) (some q) = if eqB p.1 q.1 = true then (if eqB p q = true then [] else [q]) else [(p.1, leftRo x p.2 r g), q] := rfl
/-- What a step adds of a row: its mirror, or what it left. -/
theorem mem_stepD {g : Int} {r : Ro} {m m' : Option (ByteArray × Ro)} {a : ByteArray} {s : Ro} (h : (a, s) ∈ stepD x g r m m') : m' = some (a, s) ∨ ∃ P, m = some (a, P) ∧ s = leftRo x P r g ∧ ∀ q, m' = some q → a ≠ q.1 := by
 cases m with
 | none =>
  cases m' with
  | none => cases h
  | some q => exact .inl (by rw [List.mem_singleton.1 h])
 | some p =>
  cases m' with
  | none =>
   have e := List.mem_singleton.1 h
   cases e
   exact .inr ⟨p.2, rfl, rfl, nofun⟩
  | some q =>
   rw [stepD_some] at h
   by_cases hk : p.1 = q.1
   ·rw [if_pos (eqB_true hk)] at h
    split at h
    ·cases h
    ·exact .inl (by rw [List.mem_singleton.1 h])
   ·rw [if_neg (by rw [eqB_false hk]; decide)] at h
    rcases List.mem_cons.1 h with e | h
    ·cases e
     exact .inr ⟨p.2, rfl, rfl, fun q' e => by cases e; exact hk⟩
    ·exact .inl (by rw [List.mem_singleton.1 h])
theorem step_mir {g : Int} {r : Ro} {m : Option (ByteArray × Ro)} {q : ByteArray × Ro} : m = some q ∨ q ∈ stepD x g r m (some q) := by
 cases m with
 | none => exact .inr (List.mem_cons_self ..)
 | some p =>
  rw [stepD_some]
  by_cases hk : p.1 = q.1
  ·rw [if_pos (eqB_true hk)]
   by_cases he : p = q
   ·exact .inl (by rw [he])
   ·rw [if_neg (by rw [eqB_false he]; decide)]
    exact .inr (List.mem_cons_self ..)
  ·rw [if_neg (by rw [eqB_false hk]; decide)]
   exact .inr (List.mem_cons_of_mem _ (List.mem_cons_self ..))
theorem step_left {g : Int} {r : Ro} {p : ByteArray × Ro} {m' : Option (ByteArray × Ro)} (h : ∀ q, m' = some q → p.1 ≠ q.1) : (p.1, leftRo x p.2 r g) ∈ stepD x g r (some p) m' := by
 cases m' with
 | none => exact List.mem_cons_self ..
 | some q =>
  rw [stepD_some, if_neg (by rw [eqB_false (h q rfl)]; decide)]
  exact List.mem_cons_self ..
theorem Dl.mono {p p' : Dp} {k a : ByteArray} {s : Ro} (ho : OkD p) (ho' : OkD p') (hl : LeD p p') (h : Dl x ns pk p k a s) : Dl x ns pk p' k a s := by
 have hc := ho.le ho' (x := x) hl k
 refine ⟨h.key, Int.le_trans h.gone (hl.gone k), h.up, leC_trans h.up (flt_up (ho.up k)) (flt_up (ho'.up k)) h.cols (leC_flt (ho.up k) (ho'.up k) (fun _ h => h) (hl.cols k)), ?_⟩
 rcases h.kind with ⟨h1, h2, h3, h4⟩ | ⟨h1, h2⟩
 ·exact .inl ⟨h1, h2, h3, cmpCl_trans h4 hc⟩
 ·exact .inr ⟨h1, fun C c1 c2 c3 c4 => h2 C c1 c2 (cmpCl_trans hc c3) (by have := hl.gone k; omega)⟩
theorem Dl.mirror {p : Dp} {k a : ByteArray} {s : Ro} (ho : OkD p) (h : mOf x ns pk p k = some (a, s)) : Dl x ns pk p k a s := by
 obtain ⟨hb, rfl, rfl⟩ := mir_some h
 obtain ⟨b1, b2, b3⟩ := bestB_at hb
 refine ⟨rfl, Int.le_refl _, flt_up (ho.up k), leC_flt (ho.up k) (ho.up k) (fun j hj => by unfold fOn; rw [hj]; rfl) (leC_refl (ho.up k)), .inl ⟨rfl, by show 0 < (cOf x p k).at_; omega, rfl, ?_⟩⟩
 have e : (⟨(cOf x p k).val, false, (cOf x p k).at_, (cOf x p k).fin⟩ : Cl) = cOf x p k := by rw [← b1]
 show cmpCl ⟨(cOf x p k).val, false, (cOf x p k).at_, (cOf x p k).fin⟩ (cOf x p k) ≤ 0
 rw [e, cmpCl_self]
 exact Int.le_refl _
theorem getK_one (c : Co) (k : List UInt8) : getK kCo [c] k = if kCo c = k then some c else none := rfl
theorem cellL_le {r : Ro} (hr : Up kCo r.cols) : Up kCo (cellL x r) ∧ LeC (cellL x r) (flt (fOn x ns) r.cols) := by
 unfold cellL
 split
 ·exact ⟨List.Pairwise.nil, leC_nil _⟩
 ·rename_i h
  refine ⟨List.pairwise_singleton _ _, ?_⟩
  rw [leC_get (List.pairwise_singleton _ _) (flt_up hr)]
  intro k
  rw [getK_flt, getK_one]
  by_cases hk : kCo ⟨x.on, cellOf r.cols x.on⟩ = k
  ·rw [if_pos hk, ← hk]
   have hf : fOn x ns (kCo ⟨x.on, cellOf r.cols x.on⟩) = true := by unfold fOn kCo; simp
   rw [if_pos hf]
   show optJ joinCo (getK kCo r.cols x.on.data.toList) (some ⟨x.on, cellOf r.cols x.on⟩) = getK kCo r.cols x.on.data.toList
   cases h1 : getK kCo r.cols x.on.data.toList with
   | none =>
    exfalso
    apply h
    rw [cellOf_get, h1]
    decide
   | some y =>
    have e : cellOf r.cols x.on = y.cell := by rw [cellOf_get, h1]; rfl
    rw [e]
    show some (joinCo y ⟨x.on, y.cell⟩) = some y
    unfold joinCo
    simp only
    rw [joinCl_self]
  ·rw [if_neg hk]
   cases (if fOn x ns k = true then getK kCo r.cols k else none) <;> rfl
theorem Dl.left {p p' : Dp} {k a : ByteArray} {P : Ro} (ho : OkD p) (ho' : OkD p') (hl : LeD p p') (h : mOf x ns pk p k = some (a, P)) (hne : ∀ q, mOf x ns pk p' k = some q → a ≠ q.1) : Dl x ns pk p' k a (leftRo x P (rowOf p'.2 k) p'.1) := by
 obtain ⟨hb, rfl, rfl⟩ := mir_some h
 obtain ⟨b1, b2, b3⟩ := bestB_at hb
 obtain ⟨u1, u2⟩ := cellL_le (x := x) (ns := ns) (ho'.up k)
 refine ⟨rfl, Int.le_refl _, u1, u2, .inr ⟨rfl, fun C c1 c2 c3 c4 => ?_⟩⟩
 show (cOf x p k).at_ < C.at_
 by_cases hlt : (cOf x p k).at_ < C.at_
 ·exact hlt
 ·exfalso
  have hc := ho.le ho' (x := x) hl k
  obtain ⟨e1, e2, e3, e4⟩ := between hc c3 (by omega) b1 c1 c2.symm
  have hb' : bestB (cOf x p' k) (gOf p' k) = true := by
   unfold bestB
   rw [e3, show decide ((cOf x p' k).at_ < 1) = false by simp; omega, show decide ((cOf x p' k).at_ ≤ gOf p' k) = false by simp; omega]
   rfl
  obtain ⟨R, hR⟩ := mir_of (ns := ns) (pk := pk) hb'
  exact hne _ hR e4.symm
/-- One more step. -/
theorem KInv.step {p p' : Dp} {D : List (ByteArray × Ro)} {k : ByteArray} (ho : OkD p) (ho' : OkD p') (hl : LeD p p') (h : KInv x ns pk p D k) : KInv x ns pk p' (D ++ stepL x ns pk p p') k := by
 have new : ∀ a s, (a, s) ∈ stepL x ns pk p p' → s.key = vkey pk k → mOf x ns pk p' k = some (a, s) ∨ ∃ P, mOf x ns pk p k = some (a, P) ∧ s = leftRo x P (rowOf p'.2 k) p'.1 ∧ ∀ q, mOf x ns pk p' k = some q → a ≠ q.1 := by
  intro a s hm hk
  obtain ⟨r', hr', hd⟩ := (mem_step ho').1 hm
  have hkk : r'.key = k := by
   rcases mem_stepD hd with e | ⟨P, e, rfl, _⟩
   ·obtain ⟨_, _, rfl⟩ := mir_some e
    exact vkey_same hk
   ·obtain ⟨_, _, rfl⟩ := mir_some e
    exact vkey_same hk
  rw [hkk] at hd
  exact mem_stepD hd
 have row : ∀ {d}, rowOf p'.2 k ∈ p'.2 → d ∈ stepD x p'.1 (rowOf p'.2 k) (mOf x ns pk p k) (mOf x ns pk p' k) → d ∈ stepL x ns pk p p' := by
  intro d hr hd
  exact (mem_step ho').2 ⟨_, hr, by rw [rowOf_is]; exact hd⟩
 refine ⟨fun a s hm hk => ?_, fun a R hm => ?_, fun a s hm hk => ?_⟩
 ·rcases List.mem_append.1 hm with hm | hm
  ·exact (h.each a s hm hk).mono ho ho' hl
  ·rcases new a s hm hk with e | ⟨P, e, rfl, hne⟩
   ·exact Dl.mirror ho' e
   ·exact Dl.left ho ho' hl e hne
 ·rcases step_mir (x := x) (g := p'.1) (r := rowOf p'.2 k) (m := mOf x ns pk p k) (q := (a, R)) with e | e
  ·exact List.mem_append_left _ (h.mir a R e)
  ·rw [← hm] at e
   exact List.mem_append_right _ (row (mir_row hm) e)
 ·rcases List.mem_append.1 hm with hm | hm
  ·rcases h.live a s hm hk with h1 | ⟨P, e, h1⟩ | ⟨s', hs', hk', h1⟩
   ·exact .inl h1
   ·right
    have leave : (∀ q, mOf x ns pk p' k = some q → a ≠ q.1) → ∃ s', (a, s') ∈ D ++ stepL x ns pk p p' ∧ s'.key = vkey pk k ∧ s.live.at_ ≤ s'.shade := by
     intro hne
     have hr := mir_row e
     obtain ⟨r', hr', hk'⟩ := hl.has _ hr
     rw [rowOf_is] at hk'
     have hin : rowOf p'.2 k ∈ p'.2 := by rw [← hk', rowOf_in ho'.good.1 hr']; exact hr'
     have hd := step_left (x := x) (g := p'.1) (r := rowOf p'.2 k) (p := (a, P)) (m' := mOf x ns pk p' k) hne
     rw [← e] at hd
     obtain ⟨_, _, hP⟩ := mir_some e
     exact ⟨_, List.mem_append_right _ (row hin hd), by rw [hP]; rfl, h1⟩
    cases hm' : mOf x ns pk p' k with
    | none => exact .inr (leave (by rw [hm']; exact nofun))
    | some q =>
     by_cases hq : a = q.1
     ·obtain ⟨b, P'⟩ := q
      cases hq
      left
      refine ⟨P', rfl, ?_⟩
      obtain ⟨_, _, hP⟩ := mir_some e
      obtain ⟨_, _, hP'⟩ := mir_some hm'
      have := le_at (ho.le ho' (x := x) hl k)
      rw [hP'] 
      rw [hP] at h1
      exact Int.le_trans h1 this
     ·exact .inr (leave fun q' e' => by rw [hm'] at e'; cases e'; exact hq)
   ·exact .inr (.inr ⟨s', List.mem_append_left _ hs', hk', h1⟩)
  ·rcases new a s hm hk with e | ⟨P, e, rfl, hne⟩
   ·exact .inr (.inl ⟨s, e, Int.le_refl _⟩)
   ·left
    show zeroCl.at_ ≤ 0
    decide
theorem KInv.start (k : ByteArray) : KInv x ns pk (0, []) [] k := ⟨nofun, (fun a R h => absurd (bestB_at (mir_some h).1).2.1 (by show ¬ (1 : Int) ≤ 0; decide)), nofun⟩
/-- Where keys of deltas come from. -/
theorem step_keys {p p' : Dp} (ho' : OkD p') {d : ByteArray × Ro} (h : d ∈ stepL x ns pk p p') : ∃ r ∈ p'.2, d.2.key = vkey pk r.key := by
 obtain ⟨r', hr', hd⟩ := (mem_step ho').1 h
 obtain ⟨a, s⟩ := d
 rcases mem_stepD hd with e | ⟨P, e, rfl, _⟩
 ·obtain ⟨_, _, rfl⟩ := mir_some e
  exact ⟨r', hr', rfl⟩
 ·obtain ⟨_, _, rfl⟩ := mir_some e
  exact ⟨r', hr', rfl⟩
end
end Go.Proofs.YtolkhjdododdaaaGreatDoor
