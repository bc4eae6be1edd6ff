/- Many steps, put into a view in any order, some twice (plain). -/
import Derived.Test.YtolkhjdododdaaaGreatDoorP39
import Derived.Test.YtolkhjdododdaaaGreatDoorP21
set_option linter.unusedSimpArgs false
set_option linter.unusedVariables false
namespace Go.Proofs.YtolkhjdododdaaaGreatDoor
open Go Go.RowKit

section
variable {x : Vw} {ns : List ByteArray} {pk : ByteArray}
/-- The names that a view's rows may have. -/
def nsK (x : Vw) : List (List UInt8) := [x.on.data.toList, (nmK 0).data.toList, (nmK 1).data.toList, (nmK 2).data.toList, (nmK 3).data.toList]
def NmL (x : Vw) (l : List Co) : Prop := ∀ c ∈ l, kCo c ∈ nsK x
theorem NmL.num {l : List Co} (h : ∀ c ∈ l, NumCo c) : NmL x l := fun c hc => by
 obtain ⟨⟨j, hj, e⟩, _⟩ := h c hc
 unfold kCo nsK
 rw [e]
 obtain rfl | rfl | rfl | rfl : j = 0 ∨ j = 1 ∨ j = 2 ∨ j = 3 := by omega
 all_goals simp
theorem NmL.merge {l m : List Co} (hl : NmL x l) (hm : NmL x m) : NmL x (mergeCo l m) := fun c hc => by
 rcases mem_mergeCo hc with (h | h) | ⟨a, ha, b, hb, _, rfl⟩
 ·exact hl c h
 ·exact hm c h
 ·exact hl a ha
theorem NmL.len {l : List Co} (h : NmL x l) (hu : Up kCo l) : l.length ≤ 5 := hu.len (K := nsK x) h
theorem Jd.names {S : Ro → Prop} (h : ∀ s, S s → NmL x s.cols) {r : Ro} (hr : Jd S r) : NmL x r.cols := by
 induction hr with
 | one hs => exact h _ hs
 | join _ hs _ ih => exact ih.merge (h _ hs)
/-- What holds of a base by numbers, and of all its deltas so far. -/
structure Ch (x : Vw) (ns : List ByteArray) (pk : ByteArray) (p : Dp) (D : List (ByteArray × Ro)) : Prop where
 num : NumRs p.2
 gone : 0 ≤ p.1
 inv : ∀ k, KInv x ns pk p D k
 keys : ∀ d ∈ D, ∃ r ∈ p.2, d.2.key = vkey pk r.key
 nm : ∀ d ∈ D, NmL x d.2.cols
theorem Ch.start : Ch x ns pk (0, []) [] := ⟨NumRs.nil, Int.le_refl _, fun k => KInv.start k, nofun, nofun⟩
theorem step_names {p p' : Dp} (ho' : OkD p') (hn : ∀ r ∈ p'.2, NmL x r.cols) {d : ByteArray × Ro} (h : d ∈ stepL x ns pk p p') : NmL x d.2.cols := by
 obtain ⟨r', hr', hd⟩ := (mem_step ho').1 h
 obtain ⟨a, s⟩ := d
 rcases mem_stepD hd with e | ⟨P, e, rfl, _⟩
 ·obtain ⟨_, _, rfl⟩ := mir_some e
  intro c hc
  have hc : c ∈ flt (fK ns) (rowOf p'.2 r'.key).cols := hc
  rw [rowOf_in ho'.good.1 hr'] at hc
  exact hn r' hr' c (flt_mem hc)
 ·intro c hc
  have hc : c ∈ cellL x _ := hc
  unfold cellL at hc
  split at hc
  ·cases hc
  ·rw [List.mem_singleton.1 hc]
   exact List.mem_cons_self ..
theorem Ch.ok {p : Dp} {D : List (ByteArray × Ro)} (h : Ch x ns pk p D) : OkD p := num_ok h.gone h.num
theorem Ch.step {p q : Dp} {D : List (ByteArray × Ro)} (h : Ch x ns pk p D) (hg : 0 ≤ q.1) (hq : NumRs q.2) : Ch x ns pk (joinD p q) (D ++ stepL x ns pk p (joinD p q)) ∧ (stepL x ns pk p (joinD p q)).length ≤ 8 := by
 obtain ⟨hn, hle⟩ := joinD_le h.ok (num_ok hg hq : OkD (q.1, q.2))
 have hm : NumRs (joinD p q).2 := h.num.merge hq
 refine ⟨⟨hm, hn.gone, fun k => (h.inv k).step h.ok hn hle, fun d hd => ?_, fun d hd => ?_⟩, ?_⟩
 ·rcases List.mem_append.1 hd with hd | hd
  ·obtain ⟨r, hr, e⟩ := h.keys d hd
   obtain ⟨r', hr', e'⟩ := hle.has r hr
   exact ⟨r', hr', by rw [e', e]⟩
  ·exact step_keys hn hd
 ·rcases List.mem_append.1 hd with hd | hd
  ·exact h.nm d hd
  ·exact step_names hn (fun r hr => NmL.num (hm.row r hr).cols) hd
 ·have h1 := step_len (x := x) (ns := ns) (pk := pk) p (joinD p q)
  have h2 := hm.len
  omega
theorem Ch.up {p : Dp} {D : List (ByteArray × Ro)} (h : Ch x ns pk p D) : ∀ d ∈ D, Up kCo d.2.cols ∧ d.2.cols.length ≤ 5 := fun d hd =>
 ⟨inv_up h.inv h.keys d hd, (h.nm d hd).len (inv_up h.inv h.keys d hd)⟩
/-- A view that some of the deltas were put into is small. -/
theorem Ch.view {p : Dp} {D P : List (ByteArray × Ro)} {V : Vi} (h : Ch x ns pk p D) (hv : VInv D P V) : ∀ q ∈ V, GoodRs q.2 ∧ q.2.length ≤ 4 ∧ ∀ r ∈ q.2, r.cols.length ≤ 5 := fun q hq => by
 have hg := hv.good q hq
 refine ⟨hg, ?_, fun r hr => ?_⟩
 ·refine hg.1.len (K := [(vkey pk (ik 0)).data.toList, (vkey pk (ik 1)).data.toList, (vkey pk (ik 2)).data.toList, (vkey pk (ik 3)).data.toList]) fun r hr => ?_
  obtain ⟨s, ⟨hs, hk⟩, _⟩ := (hv.rows q hq r hr).at_le
  obtain ⟨t, ht, e⟩ := h.keys _ hs
  obtain ⟨j, hj, ej⟩ := h.num.key t ht
  unfold kRo
  rw [← hk, show s.key = vkey pk t.key from e, ej]
  obtain rfl | rfl | rfl | rfl : j = 0 ∨ j = 1 ∨ j = 2 ∨ j = 3 := by omega
  all_goals simp
 ·exact (Jd.names (fun s hs => h.nm _ hs.1) (hv.rows q hq r hr)).len (hg.2 r hr)
/-- One more delta put. -/
theorem Ch.put {p : Dp} {D P : List (ByteArray × Ro)} {V : Vi} (h : Ch x ns pk p D) (hP : ∀ e ∈ P, e ∈ D) (hv : VInv D P V) {d : ByteArray × Ro} (hd : d ∈ D) : VInv D (P ++ [d]) (putV V d) ∧ (∀ e ∈ P ++ [d], e ∈ D) ∧ (putV V d).length ≤ V.length + 1 := by
 refine ⟨VInv.put (fun e he => (h.up e he).1) hP hd hv, fun e he => ?_, ?_⟩
 ·rcases List.mem_append.1 he with he | he
  ·exact hP e he
  ·rw [List.mem_singleton.1 he]; exact hd
 ·rcases putV_keys V d with ⟨k, h1, _, _⟩ | ⟨h1, _⟩
  ·have := congrArg List.length h1
   simp only [List.length_map] at this
   omega
  ·have := congrArg List.length h1
   simp only [List.length_map, List.length_append, List.length_cons, List.length_nil] at this
   omega
end
end Go.Proofs.YtolkhjdododdaaaGreatDoor

/- A view's rows as deltas; rows by themselves; rows under a base (plain laws for delta.Orphan). -/
namespace Go.Proofs.YtolkhjdododdaaaGreatDoor
open Go Go.RowKit

/-- A view's rows as deltas. -/
def flatV (V : Vi) : List (ByteArray × Ro) := V.flatMap fun q => q.2.map fun r => (q.1, r)
theorem mem_flatV {V : Vi} {a : ByteArray} {s : Ro} : (a, s) ∈ flatV V ↔ ∃ q ∈ V, q.1 = a ∧ s ∈ q.2 := by
 unfold flatV
 rw [List.mem_flatMap]
 constructor
 ·rintro ⟨q, hq, h⟩
  obtain ⟨r, hr, e⟩ := List.mem_map.1 h
  cases e
  exact ⟨q, hq, rfl, hr⟩
 ·rintro ⟨q, hq, rfl, hs⟩
  exact ⟨q, hq, List.mem_map.2 ⟨s, hs, rfl⟩⟩
theorem VInv.flat {V : Vi} (hn : (V.map (·.1)).Nodup) (hg : ∀ q ∈ V, GoodRs q.2) : VInv (flatV V) (flatV V) V := by
 refine ⟨hn, hg, fun q hq y hy => .one ⟨mem_flatV.2 ⟨q, hq, rfl, hy⟩, rfl⟩, fun d hd => ?_⟩
 obtain ⟨a, s⟩ := d
 obtain ⟨q, hq, e, hs⟩ := mem_flatV.1 hd
 exact ⟨q, hq, e, s, hs, rfl, joinRo_self ((hg q hq).2 s hs)⟩
theorem Jd.all {S P : Ro → Prop} (h1 : ∀ s, S s → P s) (h2 : ∀ x s, P x → P s → x.key = s.key → P (joinRo x s)) {y : Ro} (h : Jd S y) : P y := by
 induction h with
 | one hs => exact h1 _ hs
 | join _ hs hk ih => exact h2 _ _ ih (h1 _ hs) hk
/-- A partition put into a view. -/
def putP : Vi → ByteArray × List Ro → Vi
 | [], d => [(d.1, d.2)]
 | q :: V, d => if q.1.toList == d.1.toList then (q.1, mergeRo q.2 d.2) :: V else q :: putP V d
theorem putP_keys {V : Vi} {d : ByteArray × List Ro} (h : d.1 ∈ V.map (·.1)) : (putP V d).map (·.1) = V.map (·.1) := by
 induction V with
 | nil => cases h
 | cons q V ih =>
  unfold putP
  by_cases hk : (q.1.toList == d.1.toList) = true
  ·rw [if_pos hk]; rfl
  ·rw [if_neg hk, List.map_cons, List.map_cons]
   rcases List.mem_cons.1 h with e | h
   ·exact absurd (keyT.2 e.symm) hk
   ·rw [ih h]
theorem mem_putP {V : Vi} {d : ByteArray × List Ro} (hm : d.1 ∈ V.map (·.1)) {q : ByteArray × List Ro} (h : q ∈ putP V d) : q ∈ V ∨ ∃ rs, (d.1, rs) ∈ V ∧ q = (d.1, mergeRo rs d.2) := by
 induction V with
 | nil => cases hm
 | cons p V ih =>
  unfold putP at h
  by_cases hk : (p.1.toList == d.1.toList) = true
  ·rw [if_pos hk] at h
   rcases List.mem_cons.1 h with e | h
   ·obtain ⟨pk, pr⟩ := p
    have e2 := keyT.1 hk
    subst e2
    exact .inr ⟨pr, List.mem_cons_self .., e⟩
   ·exact .inl (List.mem_cons_of_mem _ h)
  ·rw [if_neg hk] at h
   rcases List.mem_cons.1 h with rfl | h
   ·exact .inl (List.mem_cons_self ..)
   ·rcases List.mem_cons.1 hm with e | hm
    ·exact absurd (keyT.2 e.symm) hk
    ·rcases ih hm h with h1 | ⟨rs, h1, h2⟩
     ·exact .inl (List.mem_cons_of_mem _ h1)
     ·exact .inr ⟨rs, List.mem_cons_of_mem _ h1, h2⟩
theorem putP_old {V : Vi} {d : ByteArray × List Ro} (hn : (V.map (·.1)).Nodup) {q : ByteArray × List Ro} (h : q ∈ V) : if q.1 = d.1 then (q.1, mergeRo q.2 d.2) ∈ putP V d else q ∈ putP V d := by
 induction V with
 | nil => cases h
 | cons p V ih =>
  have hn' := List.nodup_cons.1 hn
  unfold putP
  by_cases hk : (p.1.toList == d.1.toList) = true
  ·rw [if_pos hk]
   have e := keyT.1 hk
   rcases List.mem_cons.1 h with rfl | h
   ·rw [if_pos e]; exact List.mem_cons_self ..
   ·have hne : ¬ q.1 = d.1 := fun e' => hn'.1 (List.mem_map.2 ⟨q, h, e'.trans e.symm⟩)
    rw [if_neg hne]; exact List.mem_cons_of_mem _ h
  ·rw [if_neg hk]
   rcases List.mem_cons.1 h with rfl | h
   ·rw [if_neg fun e => hk (keyT.2 e)]; exact List.mem_cons_self ..
   ·have := ih hn'.2 h
    split at this
    ·rename_i e; rw [if_pos e]; exact List.mem_cons_of_mem _ this
    ·rename_i e; rw [if_neg e]; exact List.mem_cons_of_mem _ this
/-- What is behind a merge: each of the two's rows. -/
theorem mergeL_has {rs ss : List Ro} {s : Ro} (hg : GoodRs rs) (hs : GoodRs ss) (hm : s ∈ ss) : ∃ y ∈ mergeRo rs ss, y.key = s.key ∧ joinRo y s = y := by
 have us := hs.2 s hm
 have hk := getK_of_mem hs.1 hm
 have h2 := getK_merge (join := joinRo) kRo_join hg.1 hs.1 (kRo s)
 rw [hk, ← mergeRo_K] at h2
 cases h1 : getK kRo rs (kRo s) with
 | none =>
  rw [h1] at h2
  exact ⟨s, (getK_mem h2).1, rfl, joinRo_self us⟩
 | some x =>
  rw [h1] at h2
  exact ⟨_, (getK_mem h2).1, key_of_k (getK_mem h2).2, joinRo_again (hg.2 x (getK_mem h1).1) us⟩
theorem mergeL_keeps {rs ss : List Ro} {x : Ro} (hg : GoodRs rs) (hs : GoodRs ss) (hx : x ∈ rs) : ∃ y ∈ mergeRo rs ss, y.key = x.key ∧ ∀ t : Ro, Up kCo t.cols → t.key = x.key → joinRo x t = x → joinRo y t = y := by
 have h1 := getK_of_mem hg.1 hx
 have h2 := getK_merge (join := joinRo) kRo_join hg.1 hs.1 (kRo x)
 rw [h1, ← mergeRo_K] at h2
 have ux := hg.2 x hx
 cases h3 : getK kRo ss (kRo x) with
 | none =>
  rw [h3] at h2
  exact ⟨x, (getK_mem h2).1, rfl, fun t _ _ h => h⟩
 | some s' =>
  rw [h3] at h2
  have hs' := hs.2 s' (getK_mem h3).1
  have hk := (getK_mem h3).2
  refine ⟨_, (getK_mem h2).1, rfl, fun t ht hkt h => ?_⟩
  rw [joinRo_assoc ux hs' ht, joinRo_comm (a := s') (b := t) (by rw [hkt]; exact key_of_k hk) hs' ht, ← joinRo_assoc ux ht hs', h]
theorem VInv.putPart {D P : List (ByteArray × Ro)} {V : Vi} {a : ByteArray} {ss : List Ro} (hD : ∀ e ∈ D, Up kCo e.2.cols) (hP : ∀ e ∈ P, e ∈ D) (ha : a ∈ V.map (·.1)) (hs : GoodRs ss) (hd : ∀ s ∈ ss, (a, s) ∈ D) (h : VInv D P V) : VInv D (P ++ ss.map fun s => (a, s)) (putP V (a, ss)) := by
 refine ⟨by rw [putP_keys ha]; exact h.keys, fun q hq => ?_, fun q hq x hx => ?_, fun e he => ?_⟩
 ·rcases mem_putP ha hq with h1 | ⟨rs, h1, rfl⟩
  ·exact h.good q h1
  ·exact (h.good _ h1).merge hs
 ·rcases mem_putP ha hq with h1 | ⟨rs, h1, rfl⟩
  ·exact h.rows q h1 x hx
  ·rcases mem_mergeRs hx with (hm | hm) | ⟨u, hu, b, hb, hk, rfl⟩
   ·exact h.rows _ h1 x hm
   ·exact .one ⟨hd x hm, rfl⟩
   ·exact .join (h.rows _ h1 u hu) ⟨hd b hb, hk.symm⟩ hk
 ·rcases List.mem_append.1 he with he | he
  ·obtain ⟨q, hq, hqk, x, hx, hxk, hj⟩ := h.has e he
   have old := putP_old (d := (a, ss)) h.keys hq
   by_cases hqd : q.1 = a
   ·rw [if_pos hqd] at old
    obtain ⟨y, hy, hyk, hyt⟩ := mergeL_keeps (h.good q hq) hs hx
    exact ⟨_, old, hqk, y, hy, by rw [hyk, hxk], hyt e.2 (hD e (hP e he)) hxk.symm hj⟩
   ·rw [if_neg hqd] at old
    exact ⟨q, old, hqk, x, hx, hxk, hj⟩
  ·obtain ⟨s, hs', rfl⟩ := List.mem_map.1 he
   obtain ⟨q, hq, hqk⟩ := List.mem_map.1 ha
   have old := putP_old (d := (a, ss)) h.keys hq
   rw [if_pos hqk] at old
   obtain ⟨y, hy, hyk, hyt⟩ := mergeL_has (h.good q hq) hs hs'
   exact ⟨_, old, hqk, y, hy, hyk, hyt⟩

/-- The values that cells by numbers have. -/
def valK : List ByteArray := [⟨#[]⟩, ⟨#[120]⟩, ⟨#[121]⟩, ⟨#[122]⟩]
section
variable (x : Vw) (ns : List ByteArray) (pk : ByteArray)
/-- A view's row by itself. -/
structure Ir (a : ByteArray) (y : Ro) : Prop where
 val : a ∈ valK
 key : ∃ i, i < 4 ∧ y.key = vkey pk (ik i)
 up : Up kCo y.cols
 cols : ∀ c ∈ y.cols, kCo c ∈ nsK x ∧ 0 < c.cell.at_ ∧ c.cell.val ∈ valK
 on : ∀ c ∈ y.cols, fOn x ns (kCo c) = true
 live : y.live = zeroCl ∨ (0 < y.live.at_ ∧ y.live = ⟨⟨#[]⟩, false, y.live.at_, y.live.fin⟩)
 gone : 0 ≤ y.gone
 shade : ∀ C : Cl, C.dead = false → C.val = a → cmpCl (cellOf y.cols x.on) C ≤ 0 → y.gone < C.at_ → y.shade < C.at_
/-- A view's row under a base. -/
structure Un (p : Dp) (k a : ByteArray) (y : Ro) : Prop where
 gone : y.gone ≤ gOf p k
 cols : LeC y.cols (rowOf p.2 k).cols
 live : y.live.at_ ≤ 0 ∨ cmpCl ⟨a, false, y.live.at_, y.live.fin⟩ (cOf x p k) ≤ 0
/-- A row that is nothing where its key's mirror is not. -/
def Idle (p : Dp) (k a : ByteArray) (y : Ro) : Prop := (∀ R, mOf x ns pk p k ≠ some (a, R)) → y.live.at_ ≤ 0 ∨ y.live.at_ ≤ y.shade ∨ y.live.at_ ≤ y.gone
/-- A base that may be, by numbers. -/
structure BsOk (p : Dp) : Prop where
 ok : OkD p
 keys : ∀ r ∈ p.2, ∃ i, i < 4 ∧ r.key = ik i
 cols : ∀ r ∈ p.2, ∀ c ∈ r.cols, kCo c ∈ nsK x ∧ c.cell.val ∈ valK
end
section
variable {x : Vw} {ns : List ByteArray} {pk : ByteArray}
theorem cell_merge_left {l m : List Co} (hl : Up kCo l) (hm : Up kCo m) (pl : ∀ c ∈ l, 0 < c.cell.at_) (pm : ∀ c ∈ m, 0 < c.cell.at_) (n : ByteArray) : cmpCl (cellOf l n) (cellOf (mergeCo l m) n) ≤ 0 ∧ cmpCl (cellOf m n) (cellOf (mergeCo l m) n) ≤ 0 := by
 have pos : ∀ c ∈ mergeCo l m, 0 < c.cell.at_ := fun c hc => by
  rcases mem_mergeCo hc with (h | h) | ⟨u, hu, v, hv, _, rfl⟩
  ·exact pl c h
  ·exact pm c h
  ·have := (joinCl_at u.cell v.cell).1
   have := pl u hu
   show 0 < (joinCl u.cell v.cell).at_
   omega
 exact ⟨le_cell hl (mergeCo_up hl hm) pos (leC_left hl hm) n, le_cell hm (mergeCo_up hl hm) pos (leC_right hl hm) n⟩
theorem Ir.join {a : ByteArray} {y s : Ro} (h : Ir x ns pk a y) (h' : Ir x ns pk a s) : Ir x ns pk a (joinRo y s) := by
 obtain ⟨c1, c2⟩ := cell_merge_left h.up h'.up (fun c hc => (h.cols c hc).2.1) (fun c hc => (h'.cols c hc).2.1) x.on
 refine ⟨h.val, h.key, mergeCo_up h.up h'.up, fun c hc => ?_, fun c hc => ?_, ?_, ?_, fun C d1 d2 d3 d4 => ?_⟩
 ·rcases mem_mergeCo hc with (hm | hm) | ⟨u, hu, v, hv, _, rfl⟩
  ·exact h.cols c hm
  ·exact h'.cols c hm
  ·obtain ⟨u1, u2, u3⟩ := h.cols u hu
   obtain ⟨v1, v2, v3⟩ := h'.cols v hv
   rcases joinCl_or u.cell v.cell with e | e
   ·exact ⟨u1, by show 0 < (joinCl u.cell v.cell).at_; rw [e]; exact u2, by show (joinCl u.cell v.cell).val ∈ _; rw [e]; exact u3⟩
   ·exact ⟨u1, by show 0 < (joinCl u.cell v.cell).at_; rw [e]; exact v2, by show (joinCl u.cell v.cell).val ∈ _; rw [e]; exact v3⟩
 ·rcases mem_mergeCo hc with (hm | hm) | ⟨u, hu, v, hv, _, rfl⟩
  ·exact h.on c hm
  ·exact h'.on c hm
  ·exact h.on u hu
 ·show joinCl y.live s.live = _ ∨ 0 < (joinCl y.live s.live).at_ ∧ joinCl y.live s.live = ⟨⟨#[]⟩, false, (joinCl y.live s.live).at_, (joinCl y.live s.live).fin⟩
  rcases joinCl_or y.live s.live with e | e
  ·rw [e]; exact h.live
  ·rw [e]; exact h'.live
 ·show 0 ≤ max y.gone s.gone
  have := h.gone
  omega
 ·have e1 := h.shade C d1 d2 (cmpCl_trans c1 d3) (by have d4 : max y.gone s.gone < C.at_ := d4; omega)
  have e2 := h'.shade C d1 d2 (cmpCl_trans c2 d3) (by have d4 : max y.gone s.gone < C.at_ := d4; omega)
  show max y.shade s.shade < C.at_
  omega
theorem Un.join {p : Dp} (ho : OkD p) {k a : ByteArray} {y s : Ro} (uy : Up kCo y.cols) (us : Up kCo s.cols) (h : Un x p k a y) (h' : Un x p k a s) : Un x p k a (joinRo y s) := by
 refine ⟨?_, leC_merge uy us (ho.up k) h.cols h'.cols, ?_⟩
 ·have := h.gone
  have := h'.gone
  show max y.gone s.gone ≤ _
  omega
 ·show (joinCl y.live s.live).at_ ≤ 0 ∨ cmpCl ⟨a, false, (joinCl y.live s.live).at_, (joinCl y.live s.live).fin⟩ _ ≤ 0
  rcases joinCl_or y.live s.live with e | e
  ·rw [e]; exact h.live
  ·rw [e]; exact h'.live
theorem Un.mono {p p' : Dp} (ho : OkD p) (ho' : OkD p') (hl : LeD p p') {k a : ByteArray} {y : Ro} (uy : Up kCo y.cols) (h : Un x p k a y) : Un x p' k a y :=
 ⟨Int.le_trans h.gone (hl.gone k), leC_trans uy (ho.up k) (ho'.up k) h.cols (hl.cols k), h.live.imp_right fun h1 => cmpCl_trans h1 (ho.le ho' hl k)⟩
theorem flt_le (f : List UInt8 → Bool) {l : List Co} (h : Up kCo l) : LeC (flt f l) l := by
 rw [leC_get (flt_up h) h]
 intro k
 rw [getK_flt]
 cases h1 : getK kCo l k with
 | none => split <;> rfl
 | some c =>
  split
  ·show some (⟨c.name, joinCl c.cell c.cell⟩ : Co) = some c
   rw [joinCl_self]
  ·rfl
theorem Dl.un {p : Dp} (ho : OkD p) {k a : ByteArray} {s : Ro} (h : Dl x ns pk p k a s) : Un x p k a s := by
 refine ⟨h.gone, leC_trans h.up (flt_up (ho.up k)) (ho.up k) h.cols (flt_le _ (ho.up k)), ?_⟩
 rcases h.kind with ⟨_, _, _, h4⟩ | ⟨h1, _⟩
 ·exact .inr h4
 ·left
  rw [h1]
  decide
theorem cOf_val {p : Dp} (h : BsOk x p) (k : ByteArray) : (cOf x p k).val ∈ valK := by
 unfold cOf
 rw [cellOf_get]
 cases h1 : getK kCo (rowOf p.2 k).cols x.on.data.toList with
 | none => exact List.mem_cons_self ..
 | some c =>
  have hc := (getK_mem h1).1
  rcases rowOf_or p.2 k with hm | hn
  ·exact (h.cols _ hm c hc).2
  ·rw [hn] at hc; cases hc
theorem gOf_pos {p : Dp} (h : OkD p) (k : ByteArray) : 0 ≤ gOf p k := by
 have := h.gone
 unfold gOf
 omega
theorem row_cols {p : Dp} (h : BsOk x p) (k : ByteArray) : ∀ c ∈ (rowOf p.2 k).cols, kCo c ∈ nsK x ∧ 0 < c.cell.at_ ∧ c.cell.val ∈ valK := by
 intro c hc
 rcases rowOf_or p.2 k with hm | hn
 ·exact ⟨(h.cols _ hm c hc).1, h.ok.pos _ hm c hc, (h.cols _ hm c hc).2⟩
 ·rw [hn] at hc; cases hc
/-- The on-cell of what a row left for is the row's own. -/
theorem cell_cellL {l : List Co} {r : Ro} (e : r.cols = l) (hp : ∀ c ∈ l, 0 < c.cell.at_) : cellOf (cellL x r) x.on = cellOf l x.on := by
 subst e
 unfold cellL
 split
 ·rename_i h
  rw [cellOf_get r.cols]
  cases h1 : getK kCo r.cols x.on.data.toList with
  | none => rfl
  | some c =>
   exfalso
   have := hp c (getK_mem h1).1
   rw [cellOf_get, h1] at h
   simp only [Option.map_some, Option.getD_some] at h
   omega
 ·rw [cellOf_get]
  unfold getK
  rw [if_pos (show kCo ⟨x.on, cellOf r.cols x.on⟩ = x.on.data.toList from rfl)]
  rfl
theorem cellL_cols {p : Dp} (h : BsOk x p) (k : ByteArray) {r : Ro} (e : r.cols = (rowOf p.2 k).cols) : ∀ c ∈ cellL x r, kCo c ∈ nsK x ∧ 0 < c.cell.at_ ∧ c.cell.val ∈ valK := by
 intro c hc
 unfold cellL at hc
 split at hc
 ·cases hc
 ·rename_i h1
  rw [List.mem_singleton.1 hc]
  refine ⟨List.mem_cons_self .., ?_, ?_⟩
  ·show 0 < (cellOf r.cols x.on).at_
   omega
  ·show (cellOf r.cols x.on).val ∈ valK
   rw [e]
   exact cOf_val h k
theorem cellL_on (r : Ro) : ∀ c ∈ cellL x r, fOn x ns (kCo c) = true := by
 intro c hc
 unfold cellL at hc
 split at hc
 ·cases hc
 ·rw [List.mem_singleton.1 hc]
  unfold fOn kCo
  simp
theorem Ir.mirror {p : Dp} (h : BsOk x p) {i : Nat} (hi : i < 4) {a : ByteArray} {s : Ro} (hm : mOf x ns pk p (ik i) = some (a, s)) : Ir x ns pk a s := by
 obtain ⟨hb, rfl, rfl⟩ := mir_some hm
 obtain ⟨b1, b2, b3⟩ := bestB_at hb
 refine ⟨cOf_val h _, ⟨i, hi, rfl⟩, flt_up (h.ok.up _), fun c hc => row_cols h _ c (flt_mem hc), fun c hc => ?_, .inr ⟨by show 0 < (cOf x p (ik i)).at_; omega, rfl⟩, gOf_pos h.ok _, fun C _ _ _ d4 => ?_⟩
 ·have := (List.mem_filter.1 hc).2
  unfold fOn
  rw [this]
  rfl
 ·have := gOf_pos h.ok (ik i)
  have d4 : gOf p (ik i) < C.at_ := d4
  show 0 < C.at_
  omega
theorem Ir.left {p p' : Dp} (h : BsOk x p) (h' : BsOk x p') (hl : LeD p p') {i : Nat} (hi : i < 4) {a : ByteArray} {P : Ro} (hm : mOf x ns pk p (ik i) = some (a, P)) (hne : ∀ q, mOf x ns pk p' (ik i) = some q → a ≠ q.1) : Ir x ns pk a (leftRo x P (rowOf p'.2 (ik i)) p'.1) := by
 have d := Dl.left h.ok h'.ok hl hm hne
 obtain ⟨hb, ea, eP⟩ := mir_some hm
 refine ⟨by rw [ea]; exact cOf_val h _, ⟨i, hi, d.key⟩, d.up, cellL_cols h' (ik i) rfl, cellL_on _, .inl rfl, gOf_pos h'.ok (ik i), fun C d1 d2 d3 d4 => ?_⟩
 have hk := d.kind
 rcases hk with ⟨_, k2, _, _⟩ | ⟨_, k2⟩
 ·exact absurd k2 (by show ¬ (0 : Int) < zeroCl.at_; decide)
 ·refine k2 C d1 d2 ?_ d4
  have e : cellOf (cellL x (rowOf p'.2 (ik i))) x.on = cOf x p' (ik i) := cell_cellL rfl (h'.ok.cpos _)
  rw [← e]
  exact d3
end
end Go.Proofs.YtolkhjdododdaaaGreatDoor

/- What delta.Orphan answers, put into a view and joined to the base (plain laws). -/
namespace Go.Proofs.YtolkhjdododdaaaGreatDoor
open Go Go.RowKit

section
variable (x : Vw) (ns : List ByteArray) (pk : ByteArray)
/-- A view by itself. -/
structure VwS (V : Vi) : Prop where
 keys : (V.map (·.1)).Nodup
 good : ∀ q ∈ V, GoodRs q.2
 ir : ∀ q ∈ V, ∀ y ∈ q.2, Ir x ns pk q.1 y
/-- Each mirror is in the view. -/
def HasM (p : Dp) (V : Vi) : Prop := ∀ k a R, mOf x ns pk p k = some (a, R) → ∃ q ∈ V, q.1 = a ∧ ∃ y ∈ q.2, y.key = vkey pk k ∧ joinRo y R = y
/-- Of some partitions all rows are under the base, and nothing where they are not. -/
def Fine (p : Dp) (V : Vi) (A : ByteArray → Prop) : Prop := ∀ q ∈ V, A q.1 → ∀ y ∈ q.2, ∀ k, y.key = vkey pk k → Un x p k q.1 y ∧ Idle x ns pk p k q.1 y
end
section
variable {x : Vw} {ns : List ByteArray} {pk : ByteArray}
theorem VwS.of {D P : List (ByteArray × Ro)} {V : Vi} (h : VInv D P V) (hD : ∀ d ∈ D, Ir x ns pk d.1 d.2) : VwS x ns pk V :=
 ⟨h.keys, h.good, fun q hq y hy => (h.rows q hq y hy).all (fun s hs => hD (q.1, s) hs.1) fun _ _ ha hb _ => ha.join hb⟩
theorem VwS.flat {V : Vi} (h : VwS x ns pk V) : ∀ d ∈ flatV V, Ir x ns pk d.1 d.2 := fun d hd => by
 obtain ⟨a, s⟩ := d
 obtain ⟨q, hq, rfl, hs⟩ := mem_flatV.1 hd
 exact h.ir q hq s hs
theorem VwS.nil : VwS x ns pk [] := ⟨List.nodup_nil, nofun, nofun⟩
theorem HasM.nil : HasM x ns pk (0, []) [] := fun k a R h => absurd (bestB_at (mir_some h).1).2.1 (by show ¬ (1 : Int) ≤ 0; decide)
theorem HasM.empty (V : Vi) : HasM x ns pk (0, []) V := fun k a R h => absurd (bestB_at (mir_some h).1).2.1 (by show ¬ (1 : Int) ≤ 0; decide)
/-- What a step adds. -/
theorem mem_stepK {p p' : Dp} (h' : BsOk x p') {a : ByteArray} {s : Ro} (hd : (a, s) ∈ stepL x ns pk p p') : ∃ i, i < 4 ∧ s.key = vkey pk (ik i) ∧ (mOf x ns pk p' (ik i) = some (a, s) ∨ ∃ P, mOf x ns pk p (ik i) = some (a, P) ∧ s = leftRo x P (rowOf p'.2 (ik i)) p'.1 ∧ ∀ q, mOf x ns pk p' (ik i) = some q → a ≠ q.1) := by
 obtain ⟨r', hr', hm⟩ := (mem_step h'.ok).1 hd
 obtain ⟨i, hi, e⟩ := h'.keys r' hr'
 rw [e] at hm
 refine ⟨i, hi, ?_, mem_stepD hm⟩
 rcases mem_stepD hm with e | ⟨P, e, rfl, _⟩
 ·obtain ⟨_, _, rfl⟩ := mir_some e; rfl
 ·obtain ⟨_, _, rfl⟩ := mir_some e; rfl
theorem step_ir {p p' : Dp} (h : BsOk x p) (h' : BsOk x p') (hl : LeD p p') : ∀ d ∈ stepL x ns pk p p', Ir x ns pk d.1 d.2 := fun d hd => by
 obtain ⟨a, s⟩ := d
 obtain ⟨i, hi, _, e | ⟨P, e, rfl, hne⟩⟩ := mem_stepK h' hd
 ·exact Ir.mirror h' hi e
 ·exact Ir.left h h' hl hi e hne
/-- A row's law of what all that it was joined of says. -/
theorem fine_of {p' : Dp} {D : List (ByteArray × Ro)} {V' : Vi} {A : ByteArray → Prop} (ho : OkD p') (hv : VInv D D V') (hD : ∀ d ∈ D, Ir x ns pk d.1 d.2)
  (hc : ∀ a s k, A a → (a, s) ∈ D → s.key = vkey pk k → Un x p' k a s ∧ ((∀ R, mOf x ns pk p' k ≠ some (a, R)) → s.live.at_ ≤ 0 ∨ s.live.at_ ≤ s.shade ∨ s.live.at_ ≤ s.gone ∨ ∃ s', (a, s') ∈ D ∧ s'.key = vkey pk k ∧ s.live.at_ ≤ s'.shade)) : Fine x ns pk p' V' A := by
 intro q hq ha y hy k hk
 have hJ := hv.rows q hq y hy
 constructor
 ·have h1 : Up kCo y.cols ∧ Un x p' k q.1 y := hJ.all (P := fun s => Up kCo s.cols ∧ Un x p' k q.1 s) (fun s hs => ⟨(hD _ hs.1).up, (hc q.1 s k ha hs.1 (by rw [hs.2, hk])).1⟩) fun u v hu hv _ => ⟨mergeCo_up hu.1 hv.1, Un.join ho hu.1 hv.1 hu.2 hv.2⟩
  exact h1.2
 ·intro hm
  obtain ⟨s, ⟨hs, hsk⟩, hle⟩ := hJ.at_le
  have hj : joinRo y s = y := hv.one hq hy hs rfl hsk
  obtain ⟨_, j2, j3, _⟩ := ro_parts hj
  rcases (hc q.1 s k ha hs (by rw [hsk, hk])).2 hm with h1 | h1 | h1 | ⟨s', hs', hk', h1⟩
  ·exact .inl (by omega)
  ·exact .inr (.inl (by omega))
  ·exact .inr (.inr (by omega))
  ·have hj' : joinRo y s' = y := hv.one (d := (q.1, s')) hq hy hs' rfl (show s'.key = y.key by rw [hk', hk])
   obtain ⟨_, _, j3', _⟩ := ro_parts hj'
   exact .inr (.inl (by omega))
theorem has_of {p p' : Dp} {D : List (ByteArray × Ro)} {V V' : Vi} (h' : BsOk x p') (hv : VInv D D V') (hD : ∀ d ∈ D, Ir x ns pk d.1 d.2) (hV : ∀ d ∈ flatV V, d ∈ D) (hS : ∀ d ∈ stepL x ns pk p p', d ∈ D) (hm : HasM x ns pk p V) : HasM x ns pk p' V' := by
 intro k a R e
 have uR : Up kCo R.cols := (Dl.mirror h'.ok e).up
 have eR : R.key = vkey pk k := by obtain ⟨_, _, rfl⟩ := mir_some e; rfl
 rcases step_mir (x := x) (g := p'.1) (r := rowOf p'.2 k) (m := mOf x ns pk p k) (q := (a, R)) with h1 | h1
 ·obtain ⟨q, hq, rfl, y, hy, hyk, hj⟩ := hm k a R h1
  have hd := hV _ (mem_flatV.2 ⟨q, hq, rfl, hy⟩)
  obtain ⟨q', hq', hqk, y', hy', hyk', hj'⟩ := hv.has _ hd
  refine ⟨q', hq', hqk, y', hy', by rw [hyk']; exact hyk, ?_⟩
  have uy := (hD _ hd).up
  have uy' := (hv.good q' hq').2 y' hy'
  rw [← hj', joinRo_assoc uy' uy uR, hj]
 ·rw [← e] at h1
  have hd : (a, R) ∈ stepL x ns pk p p' := (mem_step h'.ok).2 ⟨_, mir_row e, by rw [rowOf_is]; exact h1⟩
  obtain ⟨q', hq', hqk, y', hy', hyk', hj'⟩ := hv.has _ (hS _ hd)
  exact ⟨q', hq', hqk, y', hy', by rw [hyk']; exact eR, hj'⟩
/-- What a step keeps of an old row in a partition gone through. -/
theorem step_old {p p' : Dp} {D : List (ByteArray × Ro)} {V : Vi} {A : ByteArray → Prop} (h : BsOk x p) (h' : BsOk x p') (hl : LeD p p') (hV : VwS x ns pk V) (hS : ∀ d ∈ stepL x ns pk p p', d ∈ D) (hf : Fine x ns pk p V A) {a : ByteArray} {s : Ro} {k : ByteArray} (ha : A a) (hs : (a, s) ∈ flatV V) (hk : s.key = vkey pk k) :
  Un x p' k a s ∧ ((∀ R, mOf x ns pk p' k ≠ some (a, R)) → s.live.at_ ≤ 0 ∨ s.live.at_ ≤ s.shade ∨ s.live.at_ ≤ s.gone ∨ ∃ s', (a, s') ∈ D ∧ s'.key = vkey pk k ∧ s.live.at_ ≤ s'.shade) := by
 obtain ⟨q, hq, rfl, hs2⟩ := mem_flatV.1 hs
 obtain ⟨hu, hi⟩ := hf q hq ha s hs2 k hk
 refine ⟨hu.mono h.ok h'.ok hl ((hV.good q hq).2 s hs2), fun hm => ?_⟩
 by_cases hm0 : ∃ P, mOf x ns pk p k = some (q.1, P)
 ·obtain ⟨P, e⟩ := hm0
  obtain ⟨_, _, hP⟩ := mir_some e
  have hr := mir_row e
  obtain ⟨r', hr', hk'⟩ := hl.has _ hr
  rw [rowOf_is] at hk'
  have hin : rowOf p'.2 k ∈ p'.2 := by rw [← hk', rowOf_in h'.ok.good.1 hr']; exact hr'
  have hd := step_left (x := x) (g := p'.1) (r := rowOf p'.2 k) (p := (q.1, P)) (m' := mOf x ns pk p' k) (fun q' e' hq' => hm q'.2 (by rw [e', hq']))
  rw [← e] at hd
  have hd' : (q.1, leftRo x P (rowOf p'.2 k) p'.1) ∈ stepL x ns pk p p' := (mem_step h'.ok).2 ⟨_, hin, by rw [rowOf_is]; exact hd⟩
  rcases hu.live with h1 | h1
  ·exact .inl h1
  ·refine .inr (.inr (.inr ⟨_, hS _ hd', by rw [hP]; rfl, ?_⟩))
   have := le_at h1
   rw [hP]
   exact this
 ·rcases hi fun R e => hm0 ⟨R, e⟩ with h1 | h1 | h1
  ·exact .inl h1
  ·exact .inr (.inl h1)
  ·exact .inr (.inr (.inl h1))
theorem step_new {p p' : Dp} {D : List (ByteArray × Ro)} (h : BsOk x p) (h' : BsOk x p') (hl : LeD p p') {a : ByteArray} {s : Ro} {k : ByteArray} (hs : (a, s) ∈ stepL x ns pk p p') (hk : s.key = vkey pk k) :
  Un x p' k a s ∧ ((∀ R, mOf x ns pk p' k ≠ some (a, R)) → s.live.at_ ≤ 0 ∨ s.live.at_ ≤ s.shade ∨ s.live.at_ ≤ s.gone ∨ ∃ s', (a, s') ∈ D ∧ s'.key = vkey pk k ∧ s.live.at_ ≤ s'.shade) := by
 obtain ⟨i, hi, ek, hm⟩ := mem_stepK h' hs
 obtain rfl : k = ik i := vkey_same (hk.symm.trans ek)
 rcases hm with e | ⟨P, e, rfl, hne⟩
 ·exact ⟨(Dl.mirror h'.ok e).un h'.ok, fun hm => absurd e (hm s)⟩
 ·exact ⟨(Dl.left h.ok h'.ok hl e hne).un h'.ok, fun _ => .inl (by show zeroCl.at_ ≤ 0; decide)⟩
/-- One step of a base, its deltas put into a view. -/
theorem VwS.step {p p' : Dp} {V : Vi} (h : BsOk x p) (h' : BsOk x p') (hl : LeD p p') (hV : VwS x ns pk V) (hm : HasM x ns pk p V) :
  (∀ j, VwS x ns pk (((stepL x ns pk p p').take j).foldl putV V)) ∧ HasM x ns pk p' ((stepL x ns pk p p').foldl putV V) ∧ ∀ A, Fine x ns pk p V A → Fine x ns pk p' ((stepL x ns pk p p').foldl putV V) A := by
 have hD : ∀ d ∈ flatV V ++ stepL x ns pk p p', Ir x ns pk d.1 d.2 := fun d hd => by
  rcases List.mem_append.1 hd with hd | hd
  ·exact hV.flat d hd
  ·exact step_ir h h' hl d hd
 have hup : ∀ d ∈ flatV V ++ stepL x ns pk p p', Up kCo d.2.cols := fun d hd => (hD d hd).up
 have h0 : VInv (flatV V ++ stepL x ns pk p p') (flatV V) V := (VInv.flat hV.keys hV.good).mono fun d hd => List.mem_append_left _ hd
 have hall := VInv.puts (P := flatV V) (V := V) hup (stepL x ns pk p p') (flatV V) V (fun e he => List.mem_append_left _ he) (fun d hd => List.mem_append_right _ hd) h0
 refine ⟨fun j => VwS.of (VInv.puts (P := flatV V) (V := V) hup ((stepL x ns pk p p').take j) (flatV V) V (fun e he => List.mem_append_left _ he) (fun d hd => List.mem_append_right _ (List.mem_of_mem_take hd)) h0) hD, ?_, fun A hA => ?_⟩
 ·exact has_of h' hall hD (fun d hd => List.mem_append_left _ hd) (fun d hd => List.mem_append_right _ hd) hm
 ·refine fine_of h'.ok hall hD fun a s k ha hs hk => ?_
  rcases List.mem_append.1 hs with hs | hs
  ·exact step_old h h' hl hV (fun d hd => List.mem_append_right _ hd) hA ha hs hk
  ·exact step_new h h' hl hs hk
/-- A partition gone through: the shade put into it, the base's step, its deltas put. -/
theorem VwS.orph {p p' : Dp} {V : Vi} {a0 : ByteArray} {sh : List Ro} (h : BsOk x p) (h' : BsOk x p') (hl : LeD p p') (hV : VwS x ns pk V) (hm : HasM x ns pk p V) (ha : a0 ∈ V.map (·.1)) (hg : GoodRs sh) (hsh : ∀ s ∈ sh, Ir x ns pk a0 s)
  (hU : ∀ q ∈ V, q.1 = a0 → ∀ y ∈ q.2, ∀ k, y.key = vkey pk k → Un x p' k a0 y) (hSu : ∀ s ∈ sh, ∀ k, s.key = vkey pk k → Un x p' k a0 s ∧ s.live.at_ ≤ 0)
  (hI : ∀ q ∈ V, q.1 = a0 → ∀ y ∈ q.2, ∀ k, y.key = vkey pk k → (∀ R, mOf x ns pk p' k ≠ some (a0, R)) → y.live.at_ ≤ 0 ∨ y.live.at_ ≤ y.shade ∨ y.live.at_ ≤ y.gone ∨ ∃ s' ∈ sh, s'.key = vkey pk k ∧ y.live.at_ ≤ s'.shade) :
  VwS x ns pk (putP V (a0, sh)) ∧ (∀ j, VwS x ns pk (((stepL x ns pk p p').take j).foldl putV (putP V (a0, sh)))) ∧ HasM x ns pk p' ((stepL x ns pk p p').foldl putV (putP V (a0, sh))) ∧ ∀ A, Fine x ns pk p V A → Fine x ns pk p' ((stepL x ns pk p p').foldl putV (putP V (a0, sh))) fun a => A a ∨ a = a0 := by
 obtain ⟨E, hE⟩ : ∃ E, E = sh.map fun s => (a0, s) := ⟨_, rfl⟩
 have mE : ∀ {a s}, (a, s) ∈ E ↔ a = a0 ∧ s ∈ sh := by
  intro a s
  rw [hE, List.mem_map]
  constructor
  ·rintro ⟨t, ht, e⟩; cases e; exact ⟨rfl, ht⟩
  ·rintro ⟨rfl, hs⟩; exact ⟨s, hs, rfl⟩
 have hD : ∀ d ∈ (flatV V ++ E) ++ stepL x ns pk p p', Ir x ns pk d.1 d.2 := fun d hd => by
  rcases List.mem_append.1 hd with hd | hd
  ·rcases List.mem_append.1 hd with hd | hd
   ·exact hV.flat d hd
   ·obtain ⟨a, s⟩ := d
    obtain ⟨rfl, hs⟩ := mE.1 hd
    exact hsh s hs
  ·exact step_ir h h' hl d hd
 have hup : ∀ d ∈ (flatV V ++ E) ++ stepL x ns pk p p', Up kCo d.2.cols := fun d hd => (hD d hd).up
 have h0 : VInv ((flatV V ++ E) ++ stepL x ns pk p p') (flatV V) V := (VInv.flat hV.keys hV.good).mono fun d hd => List.mem_append_left _ (List.mem_append_left _ hd)
 have h1 := VInv.putPart (a := a0) (ss := sh) hup (fun e he => List.mem_append_left _ (List.mem_append_left _ he)) ha hg (fun s hs => List.mem_append_left _ (List.mem_append_right _ (mE.2 ⟨rfl, hs⟩))) h0
 rw [← hE] at h1
 have hall := VInv.puts (P := flatV V ++ E) (V := putP V (a0, sh)) hup (stepL x ns pk p p') _ _ (fun e he => List.mem_append_left _ he) (fun d hd => List.mem_append_right _ hd) h1
 refine ⟨VwS.of h1 hD, fun j => VwS.of (VInv.puts (P := flatV V ++ E) (V := putP V (a0, sh)) hup ((stepL x ns pk p p').take j) _ _ (fun e he => List.mem_append_left _ he) (fun d hd => List.mem_append_right _ (List.mem_of_mem_take hd)) h1) hD, ?_, fun A hA => ?_⟩
 ·exact has_of h' hall hD (fun d hd => List.mem_append_left _ (List.mem_append_left _ hd)) (fun d hd => List.mem_append_right _ hd) hm
 ·refine fine_of h'.ok hall hD fun a s k ha hs hk => ?_
  rcases List.mem_append.1 hs with hs | hs
  ·rcases List.mem_append.1 hs with hs | hs
   ·rcases ha with ha | rfl
    ·exact step_old h h' hl hV (fun d hd => List.mem_append_right _ hd) hA ha hs hk
    ·obtain ⟨q, hq, e, hs⟩ := mem_flatV.1 hs
     refine ⟨hU q hq e s hs k hk, fun hm => ?_⟩
     rcases hI q hq e s hs k hk hm with h1 | h1 | h1 | ⟨s', hs', hk', h1⟩
     ·exact .inl h1
     ·exact .inr (.inl h1)
     ·exact .inr (.inr (.inl h1))
     ·exact .inr (.inr (.inr ⟨s', List.mem_append_left _ (List.mem_append_right _ (mE.2 ⟨rfl, hs'⟩)), hk', h1⟩))
   ·obtain ⟨rfl, hs⟩ := mE.1 hs
    obtain ⟨u1, u2⟩ := hSu s hs k hk
    exact ⟨u1, fun _ => .inl u2⟩
  ·exact step_new h h' hl hs hk
/-- When all partitions are gone through, what is seen is what the base has. -/
theorem fine_end {p : Dp} {V : Vi} (h : BsOk x p) (hon : fK ns x.on.data.toList = false) (hV : VwS x ns pk V) (hm : HasM x ns pk p V) (hf : Fine x ns pk p V fun _ => True) (t : Int) :
  (∀ e, e ∈ seenV x V t ↔ e ∈ viewRs x ns pk p.1 t p.2) ∧ (seenV x V t).length = (viewRs x ns pk p.1 t p.2).length := by
 have same : ∀ {q : ByteArray × List Ro} {y R : Ro} {k : ByteArray}, q ∈ V → y ∈ q.2 → y.key = vkey pk k → mOf x ns pk p k = some (q.1, R) → (if isB y (max y.gone 0) t true then some (q.1, offR x (seenRo y 0 t)) else none) = selP t (q.1, R) := by
  intro q y R k hq hy hyk e
  obtain ⟨hb, ha, eR⟩ := mir_some e
  obtain ⟨b1, b2, b3⟩ := bestB_at hb
  have uR : Up kCo R.cols := (Dl.mirror h.ok e).up
  have hi := hV.ir q hq y hy
  obtain ⟨hu, _⟩ := hf q hq trivial y hy k hyk
  obtain ⟨q', hq', hqk, y', hy', hyk', hj⟩ := hm k q.1 R e
  have e1 := nodup_key hV.keys hq' hq hqk
  subst e1
  have g1 := getK_of_mem (hV.good q' hq').1 hy
  have g2 := getK_of_mem (hV.good q' hq').1 hy'
  rw [show kRo y' = kRo y by unfold kRo; rw [hyk', hyk], g1] at g2
  obtain rfl := Option.some.inj g2
  obtain ⟨j1, j2, _, j4⟩ := ro_parts hj
  have uy := hi.up
  have hRk : R.key = vkey pk k := by rw [eR]
  have ec : cOf x p k = ⟨q'.1, false, (cOf x p k).at_, (cOf x p k).fin⟩ := by rw [ha, ← b1]
  have hlive : y.live = R.live := by
   refine le_antisymm ?_ (le_of_join j1)
   rw [eR]
   rcases hi.live with e0 | ⟨p0, e0⟩
   ·rw [e0]; exact zLe (by show 0 < (cOf x p k).at_; omega)
   ·rcases hu.live with l0 | l0
    ·omega
    ·rw [e0]
     rw [ec] at l0
     exact le_noval l0
  have hgone : y.gone = R.gone := by
   have := hu.gone
   rw [show R.gone = gOf p k by rw [eR]] at j2 ⊢
   omega
  have hshade : y.shade < R.live.at_ := by
   rw [show R.live.at_ = (cOf x p k).at_ by rw [eR]]
   refine hi.shade (cOf x p k) b1 ha.symm (le_cell uy (h.ok.up k) (h.ok.cpos k) hu.cols x.on) ?_
   have := hu.gone
   omega
  have hcols : flt (fOff x) y.cols = flt (fOff x) R.cols := by
   refine leC_anti (flt_up uy) (flt_up uR) ?_ (leC_flt uR uy (fun _ h => h) j4)
   have e0 : flt (fOff x) y.cols = flt (fun j => fOff x j && fOn x ns j) y.cols := by
    unfold flt
    refine List.filter_congr fun c hc => ?_
    show fOff x (kCo c) = (fOff x (kCo c) && fOn x ns (kCo c))
    rw [hi.on c hc, Bool.and_true]
   have e2 : flt (fun j => fOff x j && fOn x ns j) (rowOf p.2 k).cols = flt (fOff x) R.cols := by
    rw [eR]
    show _ = flt (fOff x) (flt (fK ns) _)
    rw [flt_flt]
    congr 1
    funext j
    unfold fOff fOn
    cases fK ns j <;> cases (j == x.on.data.toList) <;> rfl
   rw [e0, ← e2]
   exact leC_flt uy (h.ok.up k) (fun _ h => h) hu.cols
  obtain ⟨e5, e6⟩ := off_mir hon e
  exact seen_same t (by rw [hRk, hyk]) hlive hgone hshade hcols e5 e6
 have hmem : ∀ e, e ∈ seenV x V t ↔ e ∈ viewRs x ns pk p.1 t p.2 := by
  intro e
  rw [← view_full]
  constructor
  ·intro he
   obtain ⟨q, hq, he⟩ := List.mem_flatMap.1 he
   obtain ⟨r, hr, rfl⟩ := List.mem_map.1 he
   obtain ⟨y, hy, rfl⟩ := List.mem_map.1 hr
   obtain ⟨hy, hb⟩ := List.mem_filter.1 hy
   obtain ⟨i, hi, hyk⟩ := (hV.ir q hq y hy).key
   by_cases hmm : ∃ R, mOf x ns pk p (ik i) = some (q.1, R)
   ·obtain ⟨R, hmm⟩ := hmm
    have h1 := same hq hy hyk hmm
    rw [if_pos hb] at h1
    refine List.mem_filterMap.2 ⟨(q.1, R), List.mem_filterMap.2 ⟨rowOf p.2 (ik i), mir_row hmm, hmm⟩, h1.symm⟩
   ·exfalso
    have h1 := (hf q hq trivial y hy (ik i) hyk).2 fun R hR => hmm ⟨R, hR⟩
    unfold isB liveB at hb
    simp only [Bool.not_true, Bool.false_and, Bool.or_false, Bool.and_eq_true, decide_eq_true_eq] at hb
    have := (hV.ir q hq y hy).gone
    omega
  ·intro he
   obtain ⟨⟨a, R⟩, hmm, he⟩ := List.mem_filterMap.1 he
   obtain ⟨r, hr, hmm⟩ := List.mem_filterMap.1 hmm
   have hm' : mOf x ns pk p r.key = some (a, R) := by unfold mOf; rw [rowOf_in h.ok.good.1 hr]; exact hmm
   obtain ⟨q, hq, hqk, y, hy, hyk, _⟩ := hm r.key a R hm'
   subst hqk
   have h1 := same hq hy hyk hm'
   rw [he] at h1
   by_cases hb : isB y (max y.gone 0) t true = true
   ·rw [if_pos hb] at h1
    have e1 := Option.some.inj h1
    rw [← e1]
    exact List.mem_flatMap.2 ⟨q, hq, List.mem_map.2 ⟨_, List.mem_map.2 ⟨y, List.mem_filter.2 ⟨hy, hb⟩, rfl⟩, rfl⟩⟩
   ·rw [if_neg hb] at h1; cases h1
 exact ⟨hmem, len_seen h.ok hV.keys hV.good t hmem⟩
end
end Go.Proofs.YtolkhjdododdaaaGreatDoor

/- What of a view's partition is brought back and shaded: what it is (plain laws). -/
namespace Go.Proofs.YtolkhjdododdaaaGreatDoor
open Go Go.RowKit

theorem cmp_vkey (pk a b : ByteArray) : cmpB (vkey pk a).data.toList (vkey pk b).data.toList = cmpB a.data.toList b.data.toList := by
 rw [vkey_lst, vkey_lst, cmpB_less, cmpB_less, less_txt, less_txt, if_pos rfl, if_pos rfl]
/-- A view's row's key in its base. -/
noncomputable def cofK (pk : ByteArray) (r : Ro) : ByteArray := @dite _ (∃ i, i < 4 ∧ r.key = vkey pk (ik i)) (Classical.propDecidable _) (fun h => ik (Classical.choose h)) fun _ => ⟨#[]⟩
theorem cofK_spec {pk : ByteArray} {r : Ro} (h : ∃ i, i < 4 ∧ r.key = vkey pk (ik i)) : r.key = vkey pk (cofK pk r) ∧ ∃ i, i < 4 ∧ cofK pk r = ik i := by
 have e : cofK pk r = ik (Classical.choose h) := by unfold cofK; exact dif_pos h
 have hs := Classical.choose_spec h
 exact ⟨by rw [e]; exact hs.2, _, hs.1, e⟩
/-- Lists of at most one each, of the same order. -/
theorem flat_up {f : Ro → List Ro} {g : Ro → List UInt8} : ∀ {l : List Ro}, l.Pairwise (fun a b => cmpB (g a) (g b) < 0) → (∀ a ∈ l, ∀ b ∈ f a, kRo b = g a) → (∀ a, (f a).length ≤ 1) → Up kRo (l.flatMap f)
 | [], _, _, _ => List.Pairwise.nil
 | a :: l, hp, hk, h1 => by
  have hp' := List.pairwise_cons.1 hp
  rw [List.flatMap_cons]
  refine List.pairwise_append.2 ⟨?_, flat_up hp'.2 (fun b hb => hk b (List.mem_cons_of_mem _ hb)) h1, fun u hu v hv => ?_⟩
  ·have := h1 a
   cases hf : f a with
   | nil => exact List.Pairwise.nil
   | cons u t =>
    rw [hf] at this
    have ht : t = [] := by simpa using this
    rw [ht]
    exact List.pairwise_singleton _ _
  ·obtain ⟨b, hb, hv⟩ := List.mem_flatMap.1 hv
   rw [hk a (List.mem_cons_self ..) u hu, hk b (List.mem_cons_of_mem _ hb) v hv]
   exact hp'.1 b hb
theorem up_hup {l : List Ro} (h : Up kRo l) : ∀ (k : Nat) (h : k + 1 < l.length), ¬ keyR l[k + 1] l[k] < 0 := by
 intro k hk
 have h1 := List.pairwise_iff_getElem.1 h k (k + 1) (by omega) hk (by omega)
 have h2 := cmpB_anti (kRo l[k]) (kRo l[k + 1])
 unfold keyR
 unfold kRo at h1 h2
 omega
section
variable {x : Vw} {ns : List ByteArray} {pk : ByteArray}
theorem known_parts (a : ByteArray) (r b : Ro) (g : Int) (hr : 0 ≤ r.gone) : (knownRo x a 0 r b g).key = b.key ∧ (knownRo x a 0 r b g).live = zeroCl ∧ (knownRo x a 0 r b g).shade = 0 ∧ 0 ≤ (knownRo x a 0 r b g).gone ∧ (r.gone ≤ max b.gone g ∨ r.gone ≤ (knownRo x a 0 r b g).gone) ∧
  (knownRo x a 0 r b g).cols = if 0 < r.live.at_ then mergeCo r.cols [⟨x.on, ⟨a, false, r.live.at_, r.live.fin⟩⟩] else r.cols := by
 have hz : joinCl zeroCl zeroCl = zeroCl := joinCl_self _
 have hg : 0 ≤ (known0 0 r b g).gone ∧ (r.gone ≤ max b.gone g ∨ r.gone ≤ (known0 0 r b g).gone) := by
  unfold known0
  dsimp only
  split
  ·exact ⟨Int.le_refl _, .inl (by omega)⟩
  ·exact ⟨by omega, .inr (by omega)⟩
 unfold knownRo
 split
 ·refine ⟨rfl, hz, rfl, ?_, ?_, rfl⟩
  ·show 0 ≤ max (known0 0 r b g).gone 0
   omega
  ·show _ ∨ _ ≤ max (known0 0 r b g).gone 0
   omega
 ·exact ⟨rfl, rfl, rfl, hg.1, hg.2, rfl⟩
theorem one_up (c : Co) : Up kCo [c] := List.pairwise_singleton _ _
theorem known_up {a : ByteArray} {r b : Ro} {g : Int} (hr : 0 ≤ r.gone) (hu : Up kCo r.cols) : Up kCo (knownRo x a 0 r b g).cols ∧ LeC r.cols (knownRo x a 0 r b g).cols ∧ (0 < r.live.at_ → LeC [⟨x.on, ⟨a, false, r.live.at_, r.live.fin⟩⟩] (knownRo x a 0 r b g).cols) := by
 rw [(known_parts (x := x) a r b g hr).2.2.2.2.2]
 split
 ·exact ⟨mergeCo_up hu (one_up _), leC_left hu (one_up _), fun _ => leC_right hu (one_up _)⟩
 ·rename_i h
  exact ⟨hu, leC_refl hu, fun h' => absurd h' h⟩
theorem known_cols {a : ByteArray} {r b : Ro} {g : Int} (hi : Ir x ns pk a r) : ∀ c ∈ (knownRo x a 0 r b g).cols, kCo c ∈ nsK x ∧ 0 < c.cell.at_ ∧ c.cell.val ∈ valK := by
 rw [(known_parts (x := x) a r b g hi.gone).2.2.2.2.2]
 split
 ·rename_i h
  intro c hc
  rcases mem_mergeCo hc with (hm | hm) | ⟨u, hu, v, hv, hn, rfl⟩
  ·exact hi.cols c hm
  ·rw [List.mem_singleton.1 hm]
   exact ⟨List.mem_cons_self .., h, hi.val⟩
  ·obtain ⟨u1, u2, u3⟩ := hi.cols u hu
   rw [List.mem_singleton.1 hv]
   rcases joinCl_or u.cell ⟨a, false, r.live.at_, r.live.fin⟩ with e | e
   ·exact ⟨u1, by show 0 < (joinCl u.cell _).at_; rw [e]; exact u2, by show (joinCl u.cell _).val ∈ _; rw [e]; exact u3⟩
   ·exact ⟨u1, by show 0 < (joinCl u.cell _).at_; rw [e]; exact h, by show (joinCl u.cell _).val ∈ _; rw [e]; exact hi.val⟩
 ·exact hi.cols
theorem join_zero (K : Ro) (hl : K.live = zeroCl) (hs : K.shade = 0) (hg : 0 ≤ K.gone) : joinRo K zeroRo = K := by
 obtain ⟨k, l, g, s, c⟩ := K
 simp only at hl hs hg
 subst hl
 subst hs
 unfold joinRo zeroRo
 simp only
 rw [joinCl_self, show max g 0 = g by omega, show mergeCo c [] = c from mergeG_nil_right _ _ _]
 rfl
/-- One partition of a view and a base. -/
structure PB (x : Vw) (ns : List ByteArray) (pk : ByteArray) (p : Dp) (a : ByteArray) (rs : List Ro) : Prop where
 base : BsOk x p
 good : GoodRs rs
 ir : ∀ r ∈ rs, Ir x ns pk a r
variable {p : Dp} {a : ByteArray} {rs : List Ro}
theorem PB.order (h : PB x ns pk p a rs) : rs.Pairwise fun r s => cmpB (cofK pk r).data.toList (cofK pk s).data.toList < 0 := by
 refine List.Pairwise.imp_of_mem (fun {r s} hr hs hlt => ?_) h.good.1
 have e1 := (cofK_spec (h.ir r hr).key).1
 have e2 := (cofK_spec (h.ir s hs).key).1
 unfold kRo at hlt
 rw [e1, e2, cmp_vkey] at hlt
 exact hlt
theorem back_one (h : PB x ns pk p a rs) {r : Ro} (hr : r ∈ rs) {q : Ro} (hq : q ∈ backL x a 0 p.1 r (rowOf p.2 (cofK pk r))) : q = knownRo x a 0 r (rowOf p.2 (cofK pk r)) p.1 := by
 unfold backL at hq
 split at hq
 ·cases hq
 ·rw [List.mem_singleton.1 hq]
  obtain ⟨_, k2, k3, k4, _⟩ := known_parts (x := x) a r (rowOf p.2 (cofK pk r)) p.1 (h.ir r hr).gone
  exact join_zero _ k2 k3 k4
theorem PB.backUp (h : PB x ns pk p a rs) : Up kRo (backRs x a 0 p.1 p.2 (cofK pk) rs) := by
 refine flat_up (g := fun r => (cofK pk r).data.toList) h.order (fun r hr q hq => ?_) fun _ => backL_len ..
 rw [back_one h hr hq]
 unfold kRo
 rw [(known_parts (x := x) a r _ _ (h.ir r hr).gone).1, rowOf_is]
theorem mem_back (h : PB x ns pk p a rs) {q : Ro} (hq : q ∈ backRs x a 0 p.1 p.2 (cofK pk) rs) : ∃ r ∈ rs, q = knownRo x a 0 r (rowOf p.2 (cofK pk r)) p.1 := by
 obtain ⟨r, hr, hq⟩ := List.mem_flatMap.1 hq
 exact ⟨r, hr, back_one h hr hq⟩
theorem PB.backOk (h : PB x ns pk p a rs) : OkD (0, backRs x a 0 p.1 p.2 (cofK pk) rs) := by
 refine ⟨⟨h.backUp, fun q hq => ?_⟩, fun q hq c hc => ?_, Int.le_refl _⟩
 ·obtain ⟨r, hr, rfl⟩ := mem_back h hq
  exact (known_up (h.ir r hr).gone (h.ir r hr).up).1
 ·obtain ⟨r, hr, rfl⟩ := mem_back h hq
  exact (known_cols (h.ir r hr) c hc).2.1
/-- The base with what is brought back. -/
noncomputable def nextD (x : Vw) (pk : ByteArray) (p : Dp) (a : ByteArray) (rs : List Ro) : Dp := joinD p (0, backRs x a 0 p.1 p.2 (cofK pk) rs)
theorem PB.next (h : PB x ns pk p a rs) : BsOk x (nextD x pk p a rs) ∧ LeD p (nextD x pk p a rs) := by
 obtain ⟨h1, h2⟩ := joinD_le h.base.ok h.backOk
 have hb : ∀ q ∈ backRs x a 0 p.1 p.2 (cofK pk) rs, (∃ i, i < 4 ∧ q.key = ik i) ∧ ∀ c ∈ q.cols, kCo c ∈ nsK x ∧ c.cell.val ∈ valK := fun q hq => by
  obtain ⟨r, hr, rfl⟩ := mem_back h hq
  refine ⟨?_, fun c hc => ?_⟩
  ·rw [(known_parts (x := x) a r _ _ (h.ir r hr).gone).1, rowOf_is]
   exact (cofK_spec (h.ir r hr).key).2
  ·obtain ⟨c1, _, c3⟩ := known_cols (h.ir r hr) c hc
   exact ⟨c1, c3⟩
 refine ⟨⟨h1, fun q hq => ?_, fun q hq c hc => ?_⟩, h2⟩
 ·rcases mem_mergeRs hq with (hm | hm) | ⟨u, hu, v, hv, _, rfl⟩
  ·exact h.base.keys q hm
  ·exact (hb q hm).1
  ·exact h.base.keys u hu
 ·rcases mem_mergeRs hq with (hm | hm) | ⟨u, hu, v, hv, _, rfl⟩
  ·exact h.base.cols q hm c hc
  ·exact (hb q hm).2 c hc
  ·rcases mem_mergeCo hc with (hm | hm) | ⟨c1, h1, c2, h2, _, rfl⟩
   ·exact h.base.cols u hu c hm
   ·exact (hb v hv).2 c hm
   ·obtain ⟨n1, v1⟩ := h.base.cols u hu c1 h1
    obtain ⟨n2, v2⟩ := (hb v hv).2 c2 h2
    rcases joinCl_or c1.cell c2.cell with e | e
    ·exact ⟨n1, by show (joinCl c1.cell c2.cell).val ∈ _; rw [e]; exact v1⟩
    ·exact ⟨n1, by show (joinCl c1.cell c2.cell).val ∈ _; rw [e]; exact v2⟩
/-- What is brought back is in the next base. -/
theorem PB.brought (h : PB x ns pk p a rs) {r : Ro} (hr : r ∈ rs) : LeC (knownRo x a 0 r (rowOf p.2 (cofK pk r)) p.1).cols (rowOf (nextD x pk p a rs).2 (cofK pk r)).cols ∧ (knownRo x a 0 r (rowOf p.2 (cofK pk r)) p.1).gone ≤ gOf (nextD x pk p a rs) (cofK pk r) := by
 obtain ⟨K, hK⟩ : ∃ K, K = knownRo x a 0 r (rowOf p.2 (cofK pk r)) p.1 := ⟨_, rfl⟩
 rw [← hK]
 have hp := known_parts (x := x) a r (rowOf p.2 (cofK pk r)) p.1 (h.ir r hr).gone
 have hu := (known_up (x := x) (a := a) (b := rowOf p.2 (cofK pk r)) (g := p.1) (h.ir r hr).gone (h.ir r hr).up).1
 rw [← hK] at hp hu
 obtain ⟨hn, hle⟩ := h.next
 by_cases he : joinRo (rowOf p.2 (cofK pk r)) K = rowOf p.2 (cofK pk r)
 ·obtain ⟨_, j2, _, j4⟩ := ro_parts he
  refine ⟨leC_trans hu (h.base.ok.up _) (hn.ok.up _) j4 (hle.cols _), Int.le_trans ?_ (hle.gone _)⟩
  unfold gOf
  omega
 ·have hm : K ∈ backRs x a 0 p.1 p.2 (cofK pk) rs := by
   refine List.mem_flatMap.2 ⟨r, hr, ?_⟩
   unfold backL
   rw [← hK, if_neg (by rw [eqB_false he]; decide), join_zero K hp.2.1 hp.2.2.1 hp.2.2.2.1]
   exact List.mem_cons_self ..
  have hkK : kRo K = (cofK pk r).data.toList := by unfold kRo; rw [hp.1, rowOf_is]
  have h1 := getK_of_mem h.backUp hm
  rw [hkK] at h1
  have h2 := getK_merge (join := joinRo) kRo_join h.base.ok.good.1 h.backUp (cofK pk r).data.toList
  rw [h1, ← mergeRo_K] at h2
  have h3 : rowOf (nextD x pk p a rs).2 (cofK pk r) = (getK kRo (mergeRo p.2 (backRs x a 0 p.1 p.2 (cofK pk) rs)) (cofK pk r).data.toList).getD ⟨cofK pk r, zeroCl, 0, 0, []⟩ := rowOf_get _ _
  rw [h2] at h3
  unfold gOf
  rw [h3]
  cases h4 : getK kRo p.2 (cofK pk r).data.toList with
  | none =>
   refine ⟨leC_refl hu, ?_⟩
   show K.gone ≤ max K.gone _
   omega
  | some b =>
   refine ⟨leC_right (h.base.ok.good.2 b (getK_mem h4).1) hu, ?_⟩
   show K.gone ≤ max (max b.gone K.gone) _
   omega
/-- Each row of the partition is under the next base. -/
theorem PB.under (h : PB x ns pk p a rs) {r : Ro} (hr : r ∈ rs) {k : ByteArray} (hk : r.key = vkey pk k) : Un x (nextD x pk p a rs) k a r := by
 obtain rfl : k = cofK pk r := vkey_same (hk.symm.trans (cofK_spec (h.ir r hr).key).1)
 obtain ⟨b1, b2⟩ := h.brought hr
 obtain ⟨hn, hle⟩ := h.next
 have hi := h.ir r hr
 obtain ⟨u1, u2, u3⟩ := known_up (x := x) (a := a) (b := rowOf p.2 (cofK pk r)) (g := p.1) hi.gone hi.up
 obtain ⟨_, _, _, _, k5, _⟩ := known_parts (x := x) a r (rowOf p.2 (cofK pk r)) p.1 hi.gone
 refine ⟨?_, leC_trans hi.up u1 (hn.ok.up _) u2 b1, ?_⟩
 ·rcases k5 with h1 | h1
  ·refine Int.le_trans h1 (Int.le_trans ?_ (hle.gone _))
   exact Int.le_refl _
  ·exact Int.le_trans h1 b2
 ·by_cases hl : 0 < r.live.at_
  ·right
   have h1 := leC_trans (one_up _) u1 (hn.ok.up _) (u3 hl) b1
   have h2 := le_cell (one_up _) (hn.ok.up _) (hn.ok.cpos _) h1 x.on
   have e : cellOf [⟨x.on, ⟨a, false, r.live.at_, r.live.fin⟩⟩] x.on = ⟨a, false, r.live.at_, r.live.fin⟩ := by
    rw [cellOf_get]
    unfold getK
    rw [if_pos (show kCo ⟨x.on, _⟩ = x.on.data.toList from rfl)]
    rfl
   rw [e] at h2
   exact h2
  ·left; omega
noncomputable def shadeD (x : Vw) (ns : List ByteArray) (pk : ByteArray) (p : Dp) (a : ByteArray) (rs : List Ro) : List Ro := shadeRs x ns a 0 pk p.1 (nextD x pk p a rs).2 (cofK pk) rs
theorem next_gone (h : PB x ns pk p a rs) : (nextD x pk p a rs).1 = p.1 := by
 have := h.base.ok.gone
 show max p.1 0 = p.1
 omega
theorem mirOf_next (h : PB x ns pk p a rs) (k : ByteArray) : mOf x ns pk (nextD x pk p a rs) k = mirOf x ns pk p.1 (rowOf (nextD x pk p a rs).2 k) := by
 unfold mOf
 rw [next_gone h]
theorem mem_shade (h : PB x ns pk p a rs) {s : Ro} : s ∈ shadeD x ns pk p a rs ↔ ∃ r ∈ rs, idleB 0 r = false ∧ strayB (mOf x ns pk (nextD x pk p a rs) (cofK pk r)) a = true ∧ s = leftRo x r (rowOf (nextD x pk p a rs).2 (cofK pk r)) p.1 := by
 unfold shadeD shadeRs
 rw [List.mem_flatMap]
 constructor
 ·rintro ⟨r, hr, hs⟩
  unfold shadeL at hs
  split at hs
  ·cases hs
  ·rename_i h1
   split at hs
   ·rename_i h2
    exact ⟨r, hr, by simpa using h1, by rw [mirOf_next h]; exact h2, List.mem_singleton.1 hs⟩
   ·cases hs
 ·rintro ⟨r, hr, h1, h2, rfl⟩
  refine ⟨r, hr, ?_⟩
  unfold shadeL
  rw [mirOf_next h] at h2
  rw [h1, if_neg (by decide), if_pos h2]
  exact List.mem_cons_self ..
theorem PB.shadeUp (h : PB x ns pk p a rs) : Up kRo (shadeD x ns pk p a rs) := by
 refine flat_up (g := kRo) h.good.1 (fun r hr q hq => ?_) fun _ => shadeL_len ..
 unfold shadeL at hq
 split at hq
 ·cases hq
 ·split at hq
  ·rw [List.mem_singleton.1 hq]; rfl
  ·cases hq
theorem stray_iff {m : Option (ByteArray × Ro)} : strayB m a = true ↔ ∀ R, m ≠ some (a, R) := by
 unfold strayB
 cases m with
 | none => simp
 | some q =>
  obtain ⟨c, R⟩ := q
  simp only [Option.isSome_some, Bool.not_true, Bool.false_or]
  constructor
  ·intro h R' e
   cases e
   simp [mirK] at h
  ·intro h
   have hne : c ≠ a := fun e => h R (by rw [e])
   have : ((mirK (some (c, R))).toList == a.toList) = false := by
    simp [mirK]
    exact fun e => hne (bytes_ext e)
   rw [this]
   rfl
theorem PB.shadeIr (h : PB x ns pk p a rs) : GoodRs (shadeD x ns pk p a rs) ∧ ∀ s ∈ shadeD x ns pk p a rs, Ir x ns pk a s ∧ s.live.at_ ≤ 0 ∧ ∀ k, s.key = vkey pk k → Un x (nextD x pk p a rs) k a s := by
 obtain ⟨hn, _⟩ := h.next
 have hs : ∀ s ∈ shadeD x ns pk p a rs, Ir x ns pk a s ∧ s.live.at_ ≤ 0 ∧ ∀ k, s.key = vkey pk k → Un x (nextD x pk p a rs) k a s := by
  intro s hs
  obtain ⟨r, hr, hi, hst, rfl⟩ := (mem_shade h).1 hs
  have hir := h.ir r hr
  obtain ⟨e1, i, hi4, e2⟩ := cofK_spec hir.key
  obtain ⟨K, hK⟩ : ∃ K, K = cofK pk r := ⟨_, rfl⟩
  have hu := h.under hr e1
  rw [← hK] at e1 e2 hu hst ⊢
  obtain ⟨c1, c2⟩ := cellL_le (x := x) (ns := ns) (r := rowOf (nextD x pk p a rs).2 K) (hn.ok.up K)
  have hg : max (rowOf (nextD x pk p a rs).2 K).gone p.1 = gOf (nextD x pk p a rs) K := by unfold gOf; rw [next_gone h]
  refine ⟨⟨hir.val, hir.key, c1, cellL_cols hn K rfl, cellL_on _, .inl rfl, ?_, fun C d1 d2 d3 d4 => ?_⟩, ?_, fun k hk => ?_⟩
  ·show 0 ≤ max _ p.1
   rw [hg]
   exact gOf_pos hn.ok K
  ·show r.live.at_ < C.at_
   have d4 : max (rowOf (nextD x pk p a rs).2 K).gone p.1 < C.at_ := d4
   rw [hg] at d4
   have d3 : cmpCl (cellOf (cellL x (rowOf (nextD x pk p a rs).2 K)) x.on) C ≤ 0 := d3
   rw [cell_cellL rfl (hn.ok.cpos K)] at d3
   by_cases hlt : r.live.at_ < C.at_
   ·exact hlt
   ·exfalso
    rcases hu.live with h1 | h1
    ·have := gOf_pos hn.ok K
     omega
    ·obtain ⟨f1, f2, f3, f4⟩ := between h1 d3 (by show C.at_ ≤ r.live.at_; omega) rfl d1 d2.symm
     have f1 : (cOf x (nextD x pk p a rs) K).at_ = r.live.at_ := f1
     have f2 : C.at_ = r.live.at_ := f2
     have hb' : bestB (cOf x (nextD x pk p a rs) K) (gOf (nextD x pk p a rs) K) = true := by
      have := gOf_pos hn.ok K
      unfold bestB
      rw [f3, show decide ((cOf x (nextD x pk p a rs) K).at_ < 1) = false by simp; omega, show decide ((cOf x (nextD x pk p a rs) K).at_ ≤ gOf (nextD x pk p a rs) K) = false by simp; omega]
      rfl
     obtain ⟨R, hR⟩ := mir_of (ns := ns) (pk := pk) hb'
     rw [show (cOf x (nextD x pk p a rs) K).val = a from f4] at hR
     exact stray_iff.1 hst R hR
  ·show zeroCl.at_ ≤ 0
   decide
  ·have hk' : r.key = vkey pk k := hk
   obtain rfl : k = K := vkey_same (hk'.symm.trans e1)
   refine ⟨?_, leC_trans c1 (flt_up (hn.ok.up k)) (hn.ok.up k) c2 (flt_le _ (hn.ok.up k)), .inl (by show zeroCl.at_ ≤ 0; decide)⟩
   show max _ p.1 ≤ _
   rw [hg]
   exact Int.le_refl _
 exact ⟨⟨h.shadeUp, fun s h1 => (hs s h1).1.up⟩, hs⟩
theorem PB.idle (h : PB x ns pk p a rs) {r : Ro} (hr : r ∈ rs) {k : ByteArray} (hk : r.key = vkey pk k) (hm : ∀ R, mOf x ns pk (nextD x pk p a rs) k ≠ some (a, R)) :
  r.live.at_ ≤ 0 ∨ r.live.at_ ≤ r.shade ∨ r.live.at_ ≤ r.gone ∨ ∃ s' ∈ shadeD x ns pk p a rs, s'.key = vkey pk k ∧ r.live.at_ ≤ s'.shade := by
 obtain rfl : k = cofK pk r := vkey_same (hk.symm.trans (cofK_spec (h.ir r hr).key).1)
 have hg := (h.ir r hr).gone
 cases hi : idleB 0 r with
 | true =>
  unfold idleB at hi
  simp only [Bool.or_eq_true, decide_eq_true_eq] at hi
  omega
 | false => exact .inr (.inr (.inr ⟨_, (mem_shade h).2 ⟨r, hr, hi, stray_iff.2 hm, rfl⟩, hk, Int.le_refl _⟩))
end
end Go.Proofs.YtolkhjdododdaaaGreatDoor
