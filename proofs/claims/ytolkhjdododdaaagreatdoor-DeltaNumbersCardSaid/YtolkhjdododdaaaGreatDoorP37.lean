/- The reference's joins are the merges, of rows whose names and keys rise. -/
import Derived.Test.YtolkhjdododdaaaGreatDoorP22
import Derived.Test.YtolkhjdododdaaaGreatDoorP35
import Derived.Test.YtolkhjdododdaaaGreatDoorP36
import Derived.Test.YtolkhjdododdaaaGreatDoorP1
import Derived.Test.YtolkhjdododdaaaGreatDoorProg
import Derived.Lib.DecodeN
import Derived.Lib.Hide
import Derived.Laws.BitsLemmas
set_option linter.unusedSimpArgs false
set_option linter.unusedVariables false
namespace Go.Proofs.YtolkhjdododdaaaGreatDoor
open Go Go.RowKit

theorem mergeG_congr {α : Type} {cmp : α → α → Int} {j j' : α → α → α} {l m : List α} (h : ∀ a ∈ l, ∀ b ∈ m, j a b = j' a b) : mergeG cmp j l m = mergeG cmp j' l m := by
 fun_induction mergeG cmp j l m with
 | case1 m => rw [mergeG_nil_left]
 | case2 a l => rw [mergeG_nil_right]
 | case3 a l b m hc ih => rw [mergeG_lt hc, ih fun x hx y hy => h x (List.mem_cons_of_mem _ hx) y hy]
 | case4 a l b m hc hd ih => rw [mergeG_gt hd, ih fun x hx y hy => h x hx y (List.mem_cons_of_mem _ hy)]
 | case5 a l b m hc hd ih =>
  rw [mergeG_eq (by omega), ih fun x hx y hy => h x (List.mem_cons_of_mem _ hx) y (List.mem_cons_of_mem _ hy), h a (List.mem_cons_self ..) b (List.mem_cons_self ..)]
theorem foldRo_join {a b : Ro} (ha : Up kCo a.cols) (hb : Up kCo b.cols) : foldRo a b = joinRo a b := by
 unfold foldRo joinRo
 rw [show foldG keyC joinCo a.cols b.cols = mergeCo a.cols b.cols from foldK (κ := kCo) (fun _ => True) kCo_join (fun _ _ _ _ => trivial) (fun a b c _ _ _ _ _ => joinCo_assoc a b c) ha hb (fun _ _ => trivial) (fun _ _ => trivial)]
theorem up_joinRo {a b : Ro} (ha : Up kCo a.cols) (hb : Up kCo b.cols) : Up kCo (joinRo a b).cols := mergeCo_up ha hb
theorem fold_step : ∀ {m l : List Ro}, (∀ r ∈ l, Up kCo r.cols) → (∀ r ∈ m, Up kCo r.cols) → foldG keyR foldRo l m = foldG keyR joinRo l m
 | [], _, _, _ => rfl
 | c :: m, l, hl, hm => by
  have hc := hm c (List.mem_cons_self ..)
  have e : mergeG keyR foldRo l [c] = mergeG keyR joinRo l [c] := mergeG_congr fun a ha b hb => foldRo_join (hl a ha) (by rw [List.mem_singleton.1 hb]; exact hc)
  show foldG keyR foldRo (mergeG keyR foldRo l [c]) m = foldG keyR joinRo (mergeG keyR joinRo l [c]) m
  rw [e]
  refine fold_step (fun r hr => ?_) (fun r hr => hm r (List.mem_cons_of_mem _ hr))
  rcases mem_mergeI hr with h | h | ⟨a, ha, b, hb, _, rfl⟩
  ·exact hl r h
  ·rw [List.mem_singleton.1 h]; exact hc
  ·rw [List.mem_singleton.1 hb]; exact up_joinRo (hl a ha) hc
theorem fold_merge {l m : List Ro} (hl : GoodRs l) (hm : GoodRs m) : foldG keyR foldRo l m = mergeRo l m := by
 rw [fold_step hl.2 hm.2]
 exact foldK (κ := kRo) (fun r => Up kCo r.cols) kRo_join (fun _ _ ha hb => up_joinRo ha hb) (fun a b c ha hb hc _ _ => joinRo_assoc ha hb hc) hl.1 hm.1 hl.2 hm.2
end Go.Proofs.YtolkhjdododdaaaGreatDoor

/- A view that deltas are put into: what its rows are (plain law). -/
namespace Go.Proofs.YtolkhjdododdaaaGreatDoor
open Go Go.RowKit

/-- A view: its partitions' keys and rows. -/
abbrev Vi := List (ByteArray × List Ro)
/-- A delta joined to a view. -/
def putV : Vi → ByteArray × Ro → Vi
 | [], d => [(d.1, [d.2])]
 | q :: V, d => if q.1.toList == d.1.toList then (q.1, mergeRo q.2 [d.2]) :: V else q :: putV V d
/-- Joins of some rows. -/
inductive Jd (S : Ro → Prop) : Ro → Prop
 | one {s : Ro} : S s → Jd S s
 | join {x s : Ro} : Jd S x → S s → x.key = s.key → Jd S (joinRo x s)
theorem Jd.mono {S T : Ro → Prop} (h : ∀ s, S s → T s) {x : Ro} (hx : Jd S x) : Jd T x := by
 induction hx with
 | one hs => exact .one (h _ hs)
 | join _ hs hk ih => exact .join ih (h _ hs) hk
theorem Jd.up {S : Ro → Prop} (h : ∀ s, S s → Up kCo s.cols) {x : Ro} (hx : Jd S x) : Up kCo x.cols := by
 induction hx with
 | one hs => exact h _ hs
 | join _ hs _ ih => exact mergeCo_up ih (h _ hs)
theorem Jd.under {S : Ro → Prop} {U : Ro} (hU : Up kCo U.cols) (h : ∀ s, S s → Up kCo s.cols) (hle : ∀ s, S s → joinRo U s = U) {x : Ro} (hx : Jd S x) : joinRo U x = U := by
 induction hx with
 | one hs => exact hle _ hs
 | join hx hs _ ih => rw [← joinRo_assoc hU (hx.up h) (h _ hs), ih, hle _ hs]
theorem Jd.at_le {S : Ro → Prop} {x : Ro} (hx : Jd S x) : ∃ s, S s ∧ x.live.at_ ≤ s.live.at_ := by
 induction hx with
 | one hs => exact ⟨_, hs, Int.le_refl _⟩
 | @join x s _ hs _ ih =>
  rcases joinCl_or x.live s.live with e | e
  ·obtain ⟨t, ht, h⟩ := ih
   exact ⟨t, ht, by show (joinCl x.live s.live).at_ ≤ _; rw [e]; exact h⟩
  ·exact ⟨s, hs, by show (joinCl x.live s.live).at_ ≤ _; rw [e]; exact Int.le_refl _⟩
/-- The view of the deltas P, all of D. -/
structure VInv (D P : List (ByteArray × Ro)) (V : Vi) : Prop where
 keys : (V.map (·.1)).Nodup
 good : ∀ q ∈ V, GoodRs q.2
 rows : ∀ q ∈ V, ∀ x ∈ q.2, Jd (fun s => (q.1, s) ∈ D ∧ s.key = x.key) x
 has : ∀ d ∈ P, ∃ q ∈ V, q.1 = d.1 ∧ ∃ x ∈ q.2, x.key = d.2.key ∧ joinRo x d.2 = x
theorem VInv.start (D : List (ByteArray × Ro)) : VInv D [] [] := ⟨List.nodup_nil, nofun, nofun, nofun⟩
theorem VInv.mono {D D' P : List (ByteArray × Ro)} {V : Vi} (h : ∀ d ∈ D, d ∈ D') (hv : VInv D P V) : VInv D' P V := ⟨hv.keys, hv.good, fun q hq x hx => (hv.rows q hq x hx).mono fun s hs => ⟨h _ hs.1, hs.2⟩, hv.has⟩
theorem VInv.few {D P P' : List (ByteArray × Ro)} {V : Vi} (h : ∀ d ∈ P', d ∈ P) (hv : VInv D P V) : VInv D P' V := ⟨hv.keys, hv.good, hv.rows, fun d hd => hv.has d (h d hd)⟩
theorem good_one {s : Ro} (h : Up kCo s.cols) : GoodRs [s] := ⟨List.pairwise_singleton _ _, fun r hr => by rw [List.mem_singleton.1 hr]; exact h⟩
theorem keyT {a b : ByteArray} : (a.toList == b.toList) = true ↔ a = b := by
 constructor
 ·intro h
  exact bytes_ext (by simpa using h)
 ·rintro rfl
  simp
theorem putV_keys (V : Vi) (d : ByteArray × Ro) : (∃ k, (putV V d).map (·.1) = V.map (·.1) ∧ k = d.1 ∧ d.1 ∈ V.map (·.1)) ∨ ((putV V d).map (·.1) = V.map (·.1) ++ [d.1] ∧ d.1 ∉ V.map (·.1)) := by
 induction V with
 | nil => exact .inr ⟨rfl, by simp⟩
 | cons q V ih =>
  unfold putV
  by_cases hk : (q.1.toList == d.1.toList) = true
  ·rw [if_pos hk]
   exact .inl ⟨_, rfl, rfl, by rw [← keyT.1 hk]; exact List.mem_cons_self ..⟩
  ·rw [if_neg hk]
   have hne : d.1 ≠ q.1 := fun e => hk (keyT.2 e.symm)
   rcases ih with ⟨k, h1, h2, h3⟩ | ⟨h1, h2⟩
   ·exact .inl ⟨k, by rw [List.map_cons, h1]; rfl, h2, List.mem_cons_of_mem _ h3⟩
   ·refine .inr ⟨by rw [List.map_cons, h1]; rfl, fun h => ?_⟩
    rcases List.mem_cons.1 h with h | h
    ·exact hne h
    ·exact h2 h
/-- What stands in a view that a delta was put into. -/
theorem mem_putV {V : Vi} {d : ByteArray × Ro} {q : ByteArray × List Ro} (h : q ∈ putV V d) : (q ∈ V ∧ (q.1 = d.1 → d.1 ∈ V.map (·.1))) ∨ q = (d.1, [d.2]) ∨ ∃ rs, (d.1, rs) ∈ V ∧ q = (d.1, mergeRo rs [d.2]) := by
 induction V with
 | nil => exact .inr (.inl (List.mem_singleton.1 h))
 | cons p V ih =>
  unfold putV at h
  by_cases hk : (p.1.toList == d.1.toList) = true
  ·rw [if_pos hk] at h
   rcases List.mem_cons.1 h with e | h
   ·obtain ⟨pk, pr⟩ := p
    have e2 := keyT.1 hk
    subst e2
    exact .inr (.inr ⟨pr, List.mem_cons_self .., e⟩)
   ·exact .inl ⟨List.mem_cons_of_mem _ h, fun _ => by rw [← keyT.1 hk]; exact List.mem_cons_self ..⟩
  ·rw [if_neg hk] at h
   rcases List.mem_cons.1 h with rfl | h
   ·exact .inl ⟨List.mem_cons_self .., fun e => absurd (keyT.2 e) hk⟩
   ·rcases ih h with ⟨h1, h2⟩ | h1 | ⟨rs, h1, h2⟩
    ·exact .inl ⟨List.mem_cons_of_mem _ h1, fun e => List.mem_cons_of_mem _ (h2 e)⟩
    ·exact .inr (.inl h1)
    ·exact .inr (.inr ⟨rs, List.mem_cons_of_mem _ h1, h2⟩)
theorem putV_old {V : Vi} {d : ByteArray × Ro} (hn : (V.map (·.1)).Nodup) {q : ByteArray × List Ro} (h : q ∈ V) : if q.1 = d.1 then (q.1, mergeRo q.2 [d.2]) ∈ putV V d else q ∈ putV V d := by
 induction V with
 | nil => cases h
 | cons p V ih =>
  have hn' := List.nodup_cons.1 hn
  unfold putV
  by_cases hk : (p.1.toList == d.1.toList) = true
  ·rw [if_pos hk]
   have e := keyT.1 hk
   rcases List.mem_cons.1 h with rfl | h
   ·rw [if_pos e]; exact List.mem_cons_self ..
   ·have hne : ¬ q.1 = d.1 := fun e' => hn'.1 (List.mem_map.2 ⟨q, h, e'.trans e.symm⟩)
    rw [if_neg hne]; exact List.mem_cons_of_mem _ h
  ·rw [if_neg hk]
   rcases List.mem_cons.1 h with rfl | h
   ·rw [if_neg fun e => hk (keyT.2 e)]; exact List.mem_cons_self ..
   ·have := ih hn'.2 h
    split at this
    ·rename_i e; rw [if_pos e]; exact List.mem_cons_of_mem _ this
    ·rename_i e; rw [if_neg e]; exact List.mem_cons_of_mem _ this
theorem putV_new {V : Vi} {d : ByteArray × Ro} (h : d.1 ∉ V.map (·.1)) : (d.1, [d.2]) ∈ putV V d := by
 induction V with
 | nil => exact List.mem_cons_self ..
 | cons p V ih =>
  unfold putV
  have hne : ¬ (p.1.toList == d.1.toList) = true := fun e => h (List.mem_map.2 ⟨p, List.mem_cons_self .., keyT.1 e⟩)
  rw [if_neg hne]
  exact List.mem_cons_of_mem _ (ih fun h' => h (List.mem_cons_of_mem _ h'))
/-- The joined row in a merge. -/
theorem merge_has {rs : List Ro} {s : Ro} (hg : GoodRs rs) (hs : Up kCo s.cols) : ∃ y ∈ mergeRo rs [s], y.key = s.key ∧ joinRo y s = y := by
 have hgs := good_one hs
 have hk : getK kRo [s] (kRo s) = some s := getK_head _ _
 have h2 := getK_merge (join := joinRo) kRo_join hg.1 hgs.1 (kRo s)
 rw [hk, ← mergeRo_K] at h2
 cases h1 : getK kRo rs (kRo s) with
 | none =>
  rw [h1] at h2
  exact ⟨s, (getK_mem h2).1, rfl, joinRo_self hs⟩
 | some x =>
  rw [h1] at h2
  exact ⟨_, (getK_mem h2).1, key_of_k (getK_mem h2).2, joinRo_again (hg.2 x (getK_mem h1).1) hs⟩
theorem merge_keeps {rs : List Ro} {s x : Ro} (hg : GoodRs rs) (hs : Up kCo s.cols) (hx : x ∈ rs) : ∃ y ∈ mergeRo rs [s], y.key = x.key ∧ ∀ t : Ro, Up kCo t.cols → t.key = x.key → joinRo x t = x → joinRo y t = y := by
 have hgs := good_one hs
 have h1 : getK kRo rs (kRo x) = some x := getK_of_mem hg.1 hx
 have h2 := getK_merge (join := joinRo) kRo_join hg.1 hgs.1 (kRo x)
 rw [h1, ← mergeRo_K] at h2
 have ux := hg.2 x hx
 cases h3 : getK kRo [s] (kRo x) with
 | none =>
  rw [h3] at h2
  exact ⟨x, (getK_mem h2).1, rfl, fun t _ _ h => h⟩
 | some s' =>
  rw [h3] at h2
  have hs' : s' = s := List.mem_singleton.1 (getK_mem h3).1
  have hk := (getK_mem h3).2
  subst hs'
  refine ⟨_, (getK_mem h2).1, rfl, fun t ht hkt h => ?_⟩
  rw [joinRo_assoc ux hs ht, joinRo_comm (a := s') (b := t) (by rw [hkt]; exact key_of_k hk) hs ht, ← joinRo_assoc ux ht hs, h]
theorem VInv.put {D P : List (ByteArray × Ro)} {V : Vi} {d : ByteArray × Ro} (hD : ∀ e ∈ D, Up kCo e.2.cols) (hP : ∀ e ∈ P, e ∈ D) (hd : d ∈ D) (h : VInv D P V) : VInv D (P ++ [d]) (putV V d) := by
 have ud := hD d hd
 refine ⟨?_, fun q hq => ?_, fun q hq x hx => ?_, fun e he => ?_⟩
 ·rcases putV_keys V d with ⟨_, h1, _, _⟩ | ⟨h1, h2⟩
  ·rw [h1]; exact h.keys
  ·rw [h1]
   exact List.nodup_append.2 ⟨h.keys, by simp, fun a ha b hb e => h2 (by rw [List.mem_singleton.1 hb] at e; rw [← e]; exact ha)⟩
 ·rcases mem_putV hq with ⟨h1, _⟩ | rfl | ⟨rs, h1, rfl⟩
  ·exact h.good q h1
  ·exact good_one ud
  ·exact (h.good _ h1).merge (good_one ud)
 ·rcases mem_putV hq with ⟨h1, _⟩ | rfl | ⟨rs, h1, rfl⟩
  ·exact h.rows q h1 x hx
  ·rw [List.mem_singleton.1 hx]; exact .one ⟨hd, rfl⟩
  ·rcases mem_mergeRs hx with (hm | hm) | ⟨a, ha, b, hb, hk, rfl⟩
   ·exact h.rows _ h1 x hm
   ·rw [List.mem_singleton.1 hm]; exact .one ⟨hd, rfl⟩
   ·rw [List.mem_singleton.1 hb] at hk ⊢
    exact .join (h.rows _ h1 a ha) ⟨hd, hk.symm⟩ hk
 ·rcases List.mem_append.1 he with he | he
  ·obtain ⟨q, hq, hqk, x, hx, hxk, hj⟩ := h.has e he
   have old := putV_old (d := d) h.keys hq
   by_cases hqd : q.1 = d.1
   ·rw [if_pos hqd] at old
    obtain ⟨y, hy, hyk, hyt⟩ := merge_keeps (h.good q hq) ud hx
    exact ⟨_, old, hqk, y, hy, by rw [hyk, hxk], hyt e.2 (hD e (hP e he)) hxk.symm hj⟩
   ·rw [if_neg hqd] at old
    exact ⟨q, old, hqk, x, hx, hxk, hj⟩
  ·rw [List.mem_singleton.1 he]
   by_cases hm : d.1 ∈ V.map (·.1)
   ·obtain ⟨q, hq, hqk⟩ := List.mem_map.1 hm
    have old := putV_old (d := d) h.keys hq
    rw [if_pos hqk] at old
    obtain ⟨y, hy, hyk, hyt⟩ := merge_has (h.good q hq) ud
    exact ⟨_, old, hqk, y, hy, hyk, hyt⟩
   ·exact ⟨_, putV_new hm, rfl, d.2, List.mem_cons_self .., rfl, joinRo_self ud⟩
end Go.Proofs.YtolkhjdododdaaaGreatDoor

/- What is seen of a view that all deltas were put into is what the base has there (plain law). -/
namespace Go.Proofs.YtolkhjdododdaaaGreatDoor
open Go Go.RowKit

def fOff (x : Vw) (k : List UInt8) : Bool := !(k == x.on.data.toList)
/-- A row without the column that says where. -/
def offR (x : Vw) (r : Ro) : Ro := ⟨r.key, r.live, r.gone, r.shade, flt (fOff x) r.cols⟩
/-- What is seen of a view. -/
def seenV (x : Vw) (V : Vi) (t : Int) : List (ByteArray × Ro) := V.flatMap fun q => (seenRs q.2 0 t true).map fun r => (q.1, offR x r)
section
variable {x : Vw} {ns : List ByteArray} {pk : ByteArray}
theorem ro_parts {a b : Ro} (h : joinRo a b = a) : joinCl a.live b.live = a.live ∧ max a.gone b.gone = a.gone ∧ max a.shade b.shade = a.shade ∧ mergeCo a.cols b.cols = a.cols :=
 ⟨congrArg Ro.live h, congrArg Ro.gone h, congrArg Ro.shade h, congrArg Ro.cols h⟩
theorem seenCos_flt (f : List UInt8 → Bool) (l : List Co) (g t : Int) : seenCos (flt f l) g t = flt f (seenCos l g t) := by
 unfold seenCos flt
 rw [List.filter_filter, List.filter_filter]
 congr 1
 funext c
 exact Bool.and_comm ..
theorem seen_same {a : ByteArray} {R y : Ro} (t : Int) (h0 : y.key = R.key) (h1 : y.live = R.live) (h2 : y.gone = R.gone) (h3 : y.shade < R.live.at_) (h4 : flt (fOff x) y.cols = flt (fOff x) R.cols) (h5 : flt (fOff x) R.cols = R.cols) (h6 : R.shade < R.live.at_) :
  (if isB y (max y.gone 0) t true then some (a, offR x (seenRo y 0 t)) else none) = selP t (a, R) := by
 unfold selP
 have e : isB y (max y.gone 0) t true = isB R (max R.gone 0) t true := by
  unfold isB liveB
  rw [h1, h2, show decide (y.shade < R.live.at_) = true by simpa using h3, show decide (R.shade < R.live.at_) = true by simpa using h6]
  rfl
 rw [e]
 show (if isB R (max R.gone 0) t true = true then some (a, offR x (seenRo y 0 t)) else none) = if isB R (max R.gone 0) t true = true then some (a, seenRo R 0 t) else none
 congr 2
 unfold offR seenRo
 simp only
 rw [← seenCos_flt, h4, h5, h0, h1, h2]
theorem off_mir {p : Dp} {k a : ByteArray} {R : Ro} (hon : fK ns x.on.data.toList = false) (hm : mOf x ns pk p k = some (a, R)) : flt (fOff x) R.cols = R.cols ∧ R.shade < R.live.at_ := by
 obtain ⟨hb, _, e⟩ := mir_some hm
 obtain ⟨b1, b2, b3⟩ := bestB_at hb
 constructor
 ·rw [e]
  show flt (fOff x) (flt (fK ns) _) = flt (fK ns) _
  rw [flt_flt]
  congr 1
  funext j
  unfold fOff
  by_cases hj : j = x.on.data.toList
  ·rw [hj, hon]; simp
  ·rw [show (j == x.on.data.toList) = false by simpa using hj]; simp
 ·rw [e]
  show 0 < (cOf x p k).at_
  omega
theorem nodup_key {V : Vi} (h : (V.map (·.1)).Nodup) {q q' : ByteArray × List Ro} (hq : q ∈ V) (hq' : q' ∈ V) (e : q.1 = q'.1) : q = q' := by
 induction V with
 | nil => cases hq
 | cons v V ih =>
  have hn := List.nodup_cons.1 h
  rcases List.mem_cons.1 hq with h1 | h1 <;> rcases List.mem_cons.1 hq' with h2 | h2
  ·rw [h1, h2]
  ·exact absurd (List.mem_map.2 ⟨q', h2, e.symm.trans (congrArg Prod.fst h1)⟩) hn.1
  ·exact absurd (List.mem_map.2 ⟨q, h1, e.trans (congrArg Prod.fst h2)⟩) hn.1
  ·exact ih hn.2 h1 h2
theorem VInv.one {D P : List (ByteArray × Ro)} {V : Vi} (h : VInv D P V) {q : ByteArray × List Ro} {y : Ro} {d : ByteArray × Ro} (hq : q ∈ V) (hy : y ∈ q.2) (hd : d ∈ P) (h1 : d.1 = q.1) (h2 : d.2.key = y.key) : joinRo y d.2 = y := by
 obtain ⟨q', hq', hk, y', hy', hyk, hj⟩ := h.has d hd
 have e := nodup_key h.keys hq' hq (by rw [hk, h1])
 subst e
 have e1 := getK_of_mem (h.good q' hq').1 hy
 have e2 := getK_of_mem (h.good q' hq').1 hy'
 have e3 : kRo y' = kRo y := by unfold kRo; rw [hyk, h2]
 rw [e3, e1] at e2
 rw [Option.some.inj e2]
 exact hj
theorem nodup_len {α : Type} : ∀ {l m : List α}, l.Nodup → (∀ a ∈ l, a ∈ m) → l.length ≤ m.length
 | [], _, _, _ => Nat.zero_le _
 | a :: l, m, hn, h => by
  obtain ⟨m1, m2, rfl⟩ := List.append_of_mem (h a (List.mem_cons_self ..))
  have hn := List.nodup_cons.1 hn
  have := nodup_len (l := l) (m := m1 ++ m2) hn.2 fun b hb => by
   have := h b (List.mem_cons_of_mem _ hb)
   rcases List.mem_append.1 this with h1 | h1
   ·exact List.mem_append_left _ h1
   ·rcases List.mem_cons.1 h1 with rfl | h1
    ·exact absurd hb hn.1
    ·exact List.mem_append_right _ h1
  simp only [List.length_append, List.length_cons] at *
  omega
theorem seenV_nodup {V : Vi} (t : Int) (h : (V.map (·.1)).Nodup) (hg : ∀ q ∈ V, GoodRs q.2) : (seenV x V t).Nodup := by
 induction V with
 | nil => exact List.nodup_nil
 | cons q V ih =>
  have hn := List.nodup_cons.1 h
  unfold seenV
  rw [List.flatMap_cons]
  refine List.nodup_append.2 ⟨?_, ih hn.2 fun q hq => hg q (List.mem_cons_of_mem _ hq), ?_⟩
  ·unfold seenRs
   rw [List.map_map]
   refine List.pairwise_map.2 (List.Pairwise.imp ?_ (List.Pairwise.filter _ (hg q (List.mem_cons_self ..)).1))
   intro a b hab e
   exact ne_of_lt hab (congrArg (fun z : ByteArray × Ro => kRo z.2) e)
  ·intro a ha b hb e
   obtain ⟨r, _, rfl⟩ := List.mem_map.1 ha
   obtain ⟨q', hq', hb⟩ := List.mem_flatMap.1 hb
   obtain ⟨r', _, rfl⟩ := List.mem_map.1 hb
   exact hn.1 (List.mem_map.2 ⟨q', hq', (congrArg Prod.fst e).symm⟩)
theorem ofSeen_key {g t : Int} {r : Ro} {e : ByteArray × Ro} (h : ofSeen x ns pk g t r = some e) : e.2.key = vkey pk r.key := by
 unfold ofSeen at h
 split at h
 ·split at h
  ·cases h; rfl
  ·cases h
 ·cases h
theorem viewRs_nodup {l : List Ro} (g t : Int) (h : Up kRo l) : (viewRs x ns pk g t l).Nodup := by
 unfold viewRs
 refine List.pairwise_filterMap.2 (List.Pairwise.imp ?_ h)
 intro a b hab e he e' he' h
 have h1 := ofSeen_key he
 have h2 := ofSeen_key he'
 rw [h, h2] at h1
 exact ne_of_lt hab (by unfold kRo; rw [vkey_same h1])
theorem len_seen {p : Dp} {V : Vi} (ho : OkD p) (hn : (V.map (·.1)).Nodup) (hg : ∀ q ∈ V, GoodRs q.2) (t : Int) (hm : ∀ e, e ∈ seenV x V t ↔ e ∈ viewRs x ns pk p.1 t p.2) : (seenV x V t).length = (viewRs x ns pk p.1 t p.2).length :=
 Nat.le_antisymm (nodup_len (seenV_nodup t hn hg) fun e he => (hm e).1 he) (nodup_len (viewRs_nodup _ t ho.good.1) fun e he => (hm e).2 he)
end
end Go.Proofs.YtolkhjdododdaaaGreatDoor

/- The reference's code points: cont, one. (what a smaller cut has) -/
namespace Go.Proofs.YtolkhjdododdaaaGreatDoor
open Go Go.RowKit
attribute [local go_sem] yields yUpon

/-- Does a byte go on? -/
def goesOn (b : UInt8) : Bool := decide (b.toNat / 64 = 2)
def contB (s : ByteArray) (at_ n : Nat) : Bool := decide (at_ + n ≤ s.size) && (List.range n).all fun i => goesOn (s.get! (at_ + i))
/-- What is put together behind a first byte. -/
def accR (s : ByteArray) (at_ r0 : Nat) : Nat → Nat
 | 0 => r0
 | k + 1 => accR s at_ r0 k * 64 + (s.get! (at_ + (k + 1))).toNat % 64
def rC (r : Int) (at_ n : Nat) (ok : Bool) : Array Value := #[.int .i32 r, .int .i64 at_, .int .i64 n, .bool ok]
/-- The code point at a place, as the reference has it. -/
def moreR (s : ByteArray) (at_ n r0 : Nat) : Nat × Nat × Bool :=
 if contB s (at_ + 1) n = true then
  if (n = 2 ∧ (accR s at_ r0 n < 2048 ∨ 55296 ≤ accR s at_ r0 n ∧ accR s at_ r0 n < 57344)) ∨ (n = 3 ∧ (accR s at_ r0 n < 65536 ∨ 1114111 < accR s at_ r0 n)) then (65533, 1, false) else (accR s at_ r0 n, n + 1, true)
 else (65533, 1, false)
def roneC (s : ByteArray) (at_ c : Nat) : Nat × Nat × Bool :=
 if c < 128 then (c, 1, true) else if 194 ≤ c ∧ c < 224 then moreR s at_ 1 (c % 32) else if 224 ≤ c ∧ c < 240 then moreR s at_ 2 (c % 16) else if 240 ≤ c ∧ c < 245 then moreR s at_ 3 (c % 8) else (65533, 1, false)
def roneR (s : ByteArray) (at_ : Nat) : Nat × Nat × Bool := roneC s at_ (s.get! at_).toNat
end Go.Proofs.YtolkhjdododdaaaGreatDoor
