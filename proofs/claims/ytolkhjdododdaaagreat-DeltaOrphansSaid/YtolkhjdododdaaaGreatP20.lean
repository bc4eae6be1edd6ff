/- Putting one into a list that rises is the merge with a list of one (plain laws). -/
import Derived.Test.YtolkhjdododdaaaGreatP17
import Derived.Test.YtolkhjdododdaaaGreatP18
import Derived.Test.YtolkhjdododdaaaGreatP19
import Derived.Shelf.Small.Strs
import Derived.Shelf.Small.Wraps
import Derived.Shelf.Strconv.Itoa0
import Derived.Test.YtolkhjdododdaaaGreatProg
set_option linter.unusedSimpArgs false
set_option linter.unusedVariables false
namespace Go.Proofs.YtolkhjdododdaaaGreat
open Go Go.RowKit

theorem mem_mergeI {α : Type} {cmp : α → α → Int} {join : α → α → α} {l m : List α} {x : α} (h : x ∈ mergeG cmp join l m) : x ∈ l ∨ x ∈ m ∨ ∃ a ∈ l, ∃ b ∈ m, cmp a b = 0 ∧ x = join a b := by
  fun_induction mergeG cmp join l m with
  | case1 m => exact .inr (.inl h)
  | case2 a l => exact .inl h
  | case3 a l b m hc ih =>
    rcases List.mem_cons.1 h with rfl | h
    · exact .inl (List.mem_cons_self ..)
    · rcases ih h with h | h | ⟨y, hy, z, hz, hyz, e⟩
      · exact .inl (List.mem_cons_of_mem _ h)
      · exact .inr (.inl h)
      · exact .inr (.inr ⟨y, List.mem_cons_of_mem _ hy, z, hz, hyz, e⟩)
  | case4 a l b m hc hc' ih =>
    rcases List.mem_cons.1 h with rfl | h
    · exact .inr (.inl (List.mem_cons_self ..))
    · rcases ih h with h | h | ⟨y, hy, z, hz, hyz, e⟩
      · exact .inl h
      · exact .inr (.inl (List.mem_cons_of_mem _ h))
      · exact .inr (.inr ⟨y, hy, z, List.mem_cons_of_mem _ hz, hyz, e⟩)
  | case5 a l b m hc hc' ih =>
    rcases List.mem_cons.1 h with rfl | h
    · exact .inr (.inr ⟨a, List.mem_cons_self .., b, List.mem_cons_self .., by omega, rfl⟩)
    · rcases ih h with h | h | ⟨y, hy, z, hz, hyz, e⟩
      · exact .inl (List.mem_cons_of_mem _ h)
      · exact .inr (.inl (List.mem_cons_of_mem _ h))
      · exact .inr (.inr ⟨y, List.mem_cons_of_mem _ hy, z, List.mem_cons_of_mem _ hz, hyz, e⟩)
section
variable {α : Type} {cmp : α → α → Int} {join : α → α → α}
theorem mergeG_ins (c : α) : ∀ (l : List α) (k : Nat), k ≤ l.length → (∀ j (h : j < k) (hl : j < l.length), cmp (l[j]'hl) c < 0) → mergeG cmp join l [c] = l.take k ++ mergeG cmp join (l.drop k) [c]
  | l, 0, _, _ => by simp
  | [], k + 1, h, _ => by simp at h
  | a :: l, k + 1, hk, hlt => by
    have ha : cmp a c < 0 := hlt 0 (by omega) (by simp)
    rw [mergeG_lt ha, mergeG_ins c l k (by simpa using hk) fun j hj hl => hlt (j + 1) (by omega) (by simpa using hl)]
    rfl
theorem mergeG_end (c : α) (l : List α) (hlt : ∀ j (hl : j < l.length), cmp (l[j]'hl) c < 0) : mergeG cmp join l [c] = l ++ [c] := by
  rw [mergeG_ins c l l.length (Nat.le_refl _) fun j _ hl => hlt j hl, List.take_length, List.drop_length, mergeG_nil_left]
theorem mergeG_hit (c : α) (l : List α) (k : Nat) (hk : k < l.length) (hlt : ∀ j (h : j < k) (hl : j < l.length), cmp (l[j]'hl) c < 0) (he : cmp l[k] c = 0) : mergeG cmp join l [c] = l.take k ++ join l[k] c :: l.drop (k + 1) := by
  rw [mergeG_ins c l k (by omega) hlt, List.drop_eq_getElem_cons hk, mergeG_eq he, mergeG_nil_right]
theorem mergeG_new (c : α) (l : List α) (k : Nat) (hk : k < l.length) (hlt : ∀ j (h : j < k) (hl : j < l.length), cmp (l[j]'hl) c < 0) (he : 0 < cmp l[k] c) : mergeG cmp join l [c] = l.take k ++ c :: l.drop k := by
  rw [mergeG_ins c l k (by omega) hlt, List.drop_eq_getElem_cons hk, mergeG_gt he, mergeG_nil_right]
end
/-- One by one. -/
def foldG {α : Type} (cmp : α → α → Int) (join : α → α → α) (l m : List α) : List α := m.foldl (fun l c => mergeG cmp join l [c]) l
theorem foldG_snoc {α : Type} (cmp : α → α → Int) (join : α → α → α) (l m : List α) (c : α) : foldG cmp join l (m ++ [c]) = mergeG cmp join (foldG cmp join l m) [c] := by
  unfold foldG; rw [List.foldl_append]; rfl
theorem foldG_len {α : Type} (cmp : α → α → Int) (join : α → α → α) (l m : List α) : (foldG cmp join l m).length ≤ l.length + m.length := by
  induction m generalizing l with
  | nil => exact Nat.le_refl _
  | cons c m ih =>
    have h1 := ih (mergeG cmp join l [c])
    have h2 := mergeG_len cmp join l [c]
    simp only [List.length_cons, List.length_nil] at h2 ⊢
    show (foldG cmp join (mergeG cmp join l [c]) m).length ≤ _
    omega
section
variable {α : Type} {κ : α → List UInt8} {join : α → α → α}
theorem mergeK_cons {c : α} {m : List α} (h : Up κ (c :: m)) : mergeK κ join [c] m = c :: m := by
  cases m with
  | nil => unfold mergeK; rw [mergeG_nil_right]
  | cons d m =>
    unfold mergeK
    rw [mergeG_lt (cmp := fun a b => cmpB (κ a) (κ b)) (show _ from h.head d (List.mem_cons_self ..)), mergeG_nil_left]
theorem foldK (p : α → Prop) (hκ : ∀ a b, κ (join a b) = κ a) (hp : ∀ a b, p a → p b → p (join a b)) (ja : ∀ a b c, p a → p b → p c → κ a = κ b → κ b = κ c → join (join a b) c = join a (join b c)) : ∀ {m l : List α}, Up κ l → Up κ m → (∀ a ∈ l, p a) → (∀ a ∈ m, p a) → foldG (fun a b => cmpB (κ a) (κ b)) join l m = mergeK κ join l m
  | [], l, _, _, _, _ => by unfold mergeK; rw [mergeG_nil_right]; rfl
  | c :: m, l, hl, hm, pl, pm => by
    have h1 : Up κ [c] := List.pairwise_singleton ..
    have pc := pm c (List.mem_cons_self ..)
    have pl' : ∀ a ∈ mergeK κ join l [c], p a := fun a ha => by
      rcases mem_mergeI ha with h | h | ⟨x, hx, y, hy, _, rfl⟩
      · exact pl a h
      · rw [List.mem_singleton.1 h]; exact pc
      · rw [List.mem_singleton.1 hy]; exact hp _ _ (pl x hx) pc
    have ih := foldK p hκ hp ja (m := m) (l := mergeK κ join l [c]) (hl.merge hκ h1) hm.tail pl' (fun a ha => pm a (List.mem_cons_of_mem _ ha))
    show foldG _ join (mergeK κ join l [c]) m = _
    rw [ih, mergeK_assoc hκ hl h1 hm.tail (fun a ha b hb d hd e1 e2 => ja a b d (pl a ha) (by rw [List.mem_singleton.1 hb]; exact pc) (pm d (List.mem_cons_of_mem _ hd)) e1 e2), mergeK_cons hm]
end
/-- The reference's join of rows. -/
def foldRo (a b : Ro) : Ro := ⟨a.key, joinCl a.live b.live, max a.gone b.gone, max a.shade b.shade, foldG keyC joinCo a.cols b.cols⟩
end Go.Proofs.YtolkhjdododdaaaGreat

/- The reference's joins are the merges, of rows whose names and keys rise. -/
namespace Go.Proofs.YtolkhjdododdaaaGreat
open Go Go.RowKit

theorem mergeG_congr {α : Type} {cmp : α → α → Int} {j j' : α → α → α} {l m : List α} (h : ∀ a ∈ l, ∀ b ∈ m, j a b = j' a b) : mergeG cmp j l m = mergeG cmp j' l m := by
  fun_induction mergeG cmp j l m with
  | case1 m => rw [mergeG_nil_left]
  | case2 a l => rw [mergeG_nil_right]
  | case3 a l b m hc ih => rw [mergeG_lt hc, ih fun x hx y hy => h x (List.mem_cons_of_mem _ hx) y hy]
  | case4 a l b m hc hd ih => rw [mergeG_gt hd, ih fun x hx y hy => h x hx y (List.mem_cons_of_mem _ hy)]
  | case5 a l b m hc hd ih =>
    rw [mergeG_eq (by omega), ih fun x hx y hy => h x (List.mem_cons_of_mem _ hx) y (List.mem_cons_of_mem _ hy), h a (List.mem_cons_self ..) b (List.mem_cons_self ..)]
theorem foldRo_join {a b : Ro} (ha : Up kCo a.cols) (hb : Up kCo b.cols) : foldRo a b = joinRo a b := by
  unfold foldRo joinRo
  rw [show foldG keyC joinCo a.cols b.cols = mergeCo a.cols b.cols from foldK (κ := kCo) (fun _ => True) kCo_join (fun _ _ _ _ => trivial) (fun a b c _ _ _ _ _ => joinCo_assoc a b c) ha hb (fun _ _ => trivial) (fun _ _ => trivial)]
theorem up_joinRo {a b : Ro} (ha : Up kCo a.cols) (hb : Up kCo b.cols) : Up kCo (joinRo a b).cols := mergeCo_up ha hb
theorem fold_step : ∀ {m l : List Ro}, (∀ r ∈ l, Up kCo r.cols) → (∀ r ∈ m, Up kCo r.cols) → foldG keyR foldRo l m = foldG keyR joinRo l m
  | [], _, _, _ => rfl
  | c :: m, l, hl, hm => by
    have hc := hm c (List.mem_cons_self ..)
    have e : mergeG keyR foldRo l [c] = mergeG keyR joinRo l [c] := mergeG_congr fun a ha b hb => foldRo_join (hl a ha) (by rw [List.mem_singleton.1 hb]; exact hc)
    show foldG keyR foldRo (mergeG keyR foldRo l [c]) m = foldG keyR joinRo (mergeG keyR joinRo l [c]) m
    rw [e]
    refine fold_step (fun r hr => ?_) (fun r hr => hm r (List.mem_cons_of_mem _ hr))
    rcases mem_mergeI hr with h | h | ⟨a, ha, b, hb, _, rfl⟩
    · exact hl r h
    · rw [List.mem_singleton.1 h]; exact hc
    · rw [List.mem_singleton.1 hb]; exact up_joinRo (hl a ha) hc
theorem fold_merge {l m : List Ro} (hl : GoodRs l) (hm : GoodRs m) : foldG keyR foldRo l m = mergeRo l m := by
  rw [fold_step hl.2 hm.2]
  exact foldK (κ := kRo) (fun r => Up kCo r.cols) kRo_join (fun _ _ ha hb => up_joinRo ha hb) (fun a b c ha hb hc _ _ => joinRo_assoc ha hb hc) hl.1 hm.1 hl.2 hm.2
end Go.Proofs.YtolkhjdododdaaaGreat

/- A view that deltas are put into: what its rows are (plain law). -/
namespace Go.Proofs.YtolkhjdododdaaaGreat
open Go Go.RowKit

/-- A view: its partitions' keys and rows. -/
abbrev Vi := List (ByteArray × List Ro)
/-- A delta joined to a view. -/
def putV : Vi → ByteArray × Ro → Vi
  | [], d => [(d.1, [d.2])]
  | q :: V, d => if q.1.toList == d.1.toList then (q.1, mergeRo q.2 [d.2]) :: V else q :: putV V d
/-- Joins of some rows. -/
inductive Jd (S : Ro → Prop) : Ro → Prop
  | one {s : Ro} : S s → Jd S s
  | join {x s : Ro} : Jd S x → S s → x.key = s.key → Jd S (joinRo x s)
theorem Jd.mono {S T : Ro → Prop} (h : ∀ s, S s → T s) {x : Ro} (hx : Jd S x) : Jd T x := by
  induction hx with
  | one hs => exact .one (h _ hs)
  | join _ hs hk ih => exact .join ih (h _ hs) hk
theorem Jd.up {S : Ro → Prop} (h : ∀ s, S s → Up kCo s.cols) {x : Ro} (hx : Jd S x) : Up kCo x.cols := by
  induction hx with
  | one hs => exact h _ hs
  | join _ hs _ ih => exact mergeCo_up ih (h _ hs)
theorem Jd.under {S : Ro → Prop} {U : Ro} (hU : Up kCo U.cols) (h : ∀ s, S s → Up kCo s.cols) (hle : ∀ s, S s → joinRo U s = U) {x : Ro} (hx : Jd S x) : joinRo U x = U := by
  induction hx with
  | one hs => exact hle _ hs
  | join hx hs _ ih => rw [← joinRo_assoc hU (hx.up h) (h _ hs), ih, hle _ hs]
theorem Jd.at_le {S : Ro → Prop} {x : Ro} (hx : Jd S x) : ∃ s, S s ∧ x.live.at_ ≤ s.live.at_ := by
  induction hx with
  | one hs => exact ⟨_, hs, Int.le_refl _⟩
  | @join x s _ hs _ ih =>
    rcases joinCl_or x.live s.live with e | e
    · obtain ⟨t, ht, h⟩ := ih
      exact ⟨t, ht, by show (joinCl x.live s.live).at_ ≤ _; rw [e]; exact h⟩
    · exact ⟨s, hs, by show (joinCl x.live s.live).at_ ≤ _; rw [e]; exact Int.le_refl _⟩
/-- The view of the deltas P, all of D. -/
structure VInv (D P : List (ByteArray × Ro)) (V : Vi) : Prop where
  keys : (V.map (·.1)).Nodup
  good : ∀ q ∈ V, GoodRs q.2
  rows : ∀ q ∈ V, ∀ x ∈ q.2, Jd (fun s => (q.1, s) ∈ D ∧ s.key = x.key) x
  has : ∀ d ∈ P, ∃ q ∈ V, q.1 = d.1 ∧ ∃ x ∈ q.2, x.key = d.2.key ∧ joinRo x d.2 = x
theorem VInv.start (D : List (ByteArray × Ro)) : VInv D [] [] := ⟨List.nodup_nil, nofun, nofun, nofun⟩
theorem VInv.mono {D D' P : List (ByteArray × Ro)} {V : Vi} (h : ∀ d ∈ D, d ∈ D') (hv : VInv D P V) : VInv D' P V := ⟨hv.keys, hv.good, fun q hq x hx => (hv.rows q hq x hx).mono fun s hs => ⟨h _ hs.1, hs.2⟩, hv.has⟩
theorem VInv.few {D P P' : List (ByteArray × Ro)} {V : Vi} (h : ∀ d ∈ P', d ∈ P) (hv : VInv D P V) : VInv D P' V := ⟨hv.keys, hv.good, hv.rows, fun d hd => hv.has d (h d hd)⟩
theorem good_one {s : Ro} (h : Up kCo s.cols) : GoodRs [s] := ⟨List.pairwise_singleton _ _, fun r hr => by rw [List.mem_singleton.1 hr]; exact h⟩
theorem keyT {a b : ByteArray} : (a.toList == b.toList) = true ↔ a = b := by
  constructor
  · intro h
    exact bytes_ext (by simpa using h)
  · rintro rfl
    simp
theorem putV_keys (V : Vi) (d : ByteArray × Ro) : (∃ k, (putV V d).map (·.1) = V.map (·.1) ∧ k = d.1 ∧ d.1 ∈ V.map (·.1)) ∨ ((putV V d).map (·.1) = V.map (·.1) ++ [d.1] ∧ d.1 ∉ V.map (·.1)) := by
  induction V with
  | nil => exact .inr ⟨rfl, by simp⟩
  | cons q V ih =>
    unfold putV
    by_cases hk : (q.1.toList == d.1.toList) = true
    · rw [if_pos hk]
      exact .inl ⟨_, rfl, rfl, by rw [← keyT.1 hk]; exact List.mem_cons_self ..⟩
    · rw [if_neg hk]
      have hne : d.1 ≠ q.1 := fun e => hk (keyT.2 e.symm)
      rcases ih with ⟨k, h1, h2, h3⟩ | ⟨h1, h2⟩
      · exact .inl ⟨k, by rw [List.map_cons, h1]; rfl, h2, List.mem_cons_of_mem _ h3⟩
      · refine .inr ⟨by rw [List.map_cons, h1]; rfl, fun h => ?_⟩
        rcases List.mem_cons.1 h with h | h
        · exact hne h
        · exact h2 h
/-- What stands in a view that a delta was put into. -/
theorem mem_putV {V : Vi} {d : ByteArray × Ro} {q : ByteArray × List Ro} (h : q ∈ putV V d) : (q ∈ V ∧ (q.1 = d.1 → d.1 ∈ V.map (·.1))) ∨ q = (d.1, [d.2]) ∨ ∃ rs, (d.1, rs) ∈ V ∧ q = (d.1, mergeRo rs [d.2]) := by
  induction V with
  | nil => exact .inr (.inl (List.mem_singleton.1 h))
  | cons p V ih =>
    unfold putV at h
    by_cases hk : (p.1.toList == d.1.toList) = true
    · rw [if_pos hk] at h
      rcases List.mem_cons.1 h with e | h
      · obtain ⟨pk, pr⟩ := p
        have e2 := keyT.1 hk
        subst e2
        exact .inr (.inr ⟨pr, List.mem_cons_self .., e⟩)
      · exact .inl ⟨List.mem_cons_of_mem _ h, fun _ => by rw [← keyT.1 hk]; exact List.mem_cons_self ..⟩
    · rw [if_neg hk] at h
      rcases List.mem_cons.1 h with rfl | h
      · exact .inl ⟨List.mem_cons_self .., fun e => absurd (keyT.2 e) hk⟩
      · rcases ih h with ⟨h1, h2⟩ | h1 | ⟨rs, h1, h2⟩
        · exact .inl ⟨List.mem_cons_of_mem _ h1, fun e => List.mem_cons_of_mem _ (h2 e)⟩
        · exact .inr (.inl h1)
        · exact .inr (.inr ⟨rs, List.mem_cons_of_mem _ h1, h2⟩)
theorem putV_old {V : Vi} {d : ByteArray × Ro} (hn : (V.map (·.1)).Nodup) {q : ByteArray × List Ro} (h : q ∈ V) : if q.1 = d.1 then (q.1, mergeRo q.2 [d.2]) ∈ putV V d else q ∈ putV V d := by
  induction V with
  | nil => cases h
  | cons p V ih =>
    have hn' := List.nodup_cons.1 hn
    unfold putV
    by_cases hk : (p.1.toList == d.1.toList) = true
    · rw [if_pos hk]
      have e := keyT.1 hk
      rcases List.mem_cons.1 h with rfl | h
      · rw [if_pos e]; exact List.mem_cons_self ..
      · have hne : ¬ q.1 = d.1 := fun e' => hn'.1 (List.mem_map.2 ⟨q, h, e'.trans e.symm⟩)
        rw [if_neg hne]; exact List.mem_cons_of_mem _ h
    · rw [if_neg hk]
      rcases List.mem_cons.1 h with rfl | h
      · rw [if_neg fun e => hk (keyT.2 e)]; exact List.mem_cons_self ..
      · have := ih hn'.2 h
        split at this
        · rename_i e; rw [if_pos e]; exact List.mem_cons_of_mem _ this
        · rename_i e; rw [if_neg e]; exact List.mem_cons_of_mem _ this
theorem putV_new {V : Vi} {d : ByteArray × Ro} (h : d.1 ∉ V.map (·.1)) : (d.1, [d.2]) ∈ putV V d := by
  induction V with
  | nil => exact List.mem_cons_self ..
  | cons p V ih =>
    unfold putV
    have hne : ¬ (p.1.toList == d.1.toList) = true := fun e => h (List.mem_map.2 ⟨p, List.mem_cons_self .., keyT.1 e⟩)
    rw [if_neg hne]
    exact List.mem_cons_of_mem _ (ih fun h' => h (List.mem_cons_of_mem _ h'))
/-- The joined row in a merge. -/
theorem merge_has {rs : List Ro} {s : Ro} (hg : GoodRs rs) (hs : Up kCo s.cols) : ∃ y ∈ mergeRo rs [s], y.key = s.key ∧ joinRo y s = y := by
  have hgs := good_one hs
  have hk : getK kRo [s] (kRo s) = some s := getK_head _ _
  have h2 := getK_merge (join := joinRo) kRo_join hg.1 hgs.1 (kRo s)
  rw [hk, ← mergeRo_K] at h2
  cases h1 : getK kRo rs (kRo s) with
  | none =>
    rw [h1] at h2
    exact ⟨s, (getK_mem h2).1, rfl, joinRo_self hs⟩
  | some x =>
    rw [h1] at h2
    exact ⟨_, (getK_mem h2).1, key_of_k (getK_mem h2).2, joinRo_again (hg.2 x (getK_mem h1).1) hs⟩
theorem merge_keeps {rs : List Ro} {s x : Ro} (hg : GoodRs rs) (hs : Up kCo s.cols) (hx : x ∈ rs) : ∃ y ∈ mergeRo rs [s], y.key = x.key ∧ ∀ t : Ro, Up kCo t.cols → t.key = x.key → joinRo x t = x → joinRo y t = y := by
  have hgs := good_one hs
  have h1 : getK kRo rs (kRo x) = some x := getK_of_mem hg.1 hx
  have h2 := getK_merge (join := joinRo) kRo_join hg.1 hgs.1 (kRo x)
  rw [h1, ← mergeRo_K] at h2
  have ux := hg.2 x hx
  cases h3 : getK kRo [s] (kRo x) with
  | none =>
    rw [h3] at h2
    exact ⟨x, (getK_mem h2).1, rfl, fun t _ _ h => h⟩
  | some s' =>
    rw [h3] at h2
    have hs' : s' = s := List.mem_singleton.1 (getK_mem h3).1
    have hk := (getK_mem h3).2
    subst hs'
    refine ⟨_, (getK_mem h2).1, rfl, fun t ht hkt h => ?_⟩
    rw [joinRo_assoc ux hs ht, joinRo_comm (a := s') (b := t) (by rw [hkt]; exact key_of_k hk) hs ht, ← joinRo_assoc ux ht hs, h]
theorem VInv.put {D P : List (ByteArray × Ro)} {V : Vi} {d : ByteArray × Ro} (hD : ∀ e ∈ D, Up kCo e.2.cols) (hP : ∀ e ∈ P, e ∈ D) (hd : d ∈ D) (h : VInv D P V) : VInv D (P ++ [d]) (putV V d) := by
  have ud := hD d hd
  refine ⟨?_, fun q hq => ?_, fun q hq x hx => ?_, fun e he => ?_⟩
  · rcases putV_keys V d with ⟨_, h1, _, _⟩ | ⟨h1, h2⟩
    · rw [h1]; exact h.keys
    · rw [h1]
      exact List.nodup_append.2 ⟨h.keys, by simp, fun a ha b hb e => h2 (by rw [List.mem_singleton.1 hb] at e; rw [← e]; exact ha)⟩
  · rcases mem_putV hq with ⟨h1, _⟩ | rfl | ⟨rs, h1, rfl⟩
    · exact h.good q h1
    · exact good_one ud
    · exact (h.good _ h1).merge (good_one ud)
  · rcases mem_putV hq with ⟨h1, _⟩ | rfl | ⟨rs, h1, rfl⟩
    · exact h.rows q h1 x hx
    · rw [List.mem_singleton.1 hx]; exact .one ⟨hd, rfl⟩
    · rcases mem_mergeRs hx with (hm | hm) | ⟨a, ha, b, hb, hk, rfl⟩
      · exact h.rows _ h1 x hm
      · rw [List.mem_singleton.1 hm]; exact .one ⟨hd, rfl⟩
      · rw [List.mem_singleton.1 hb] at hk ⊢
        exact .join (h.rows _ h1 a ha) ⟨hd, hk.symm⟩ hk
  · rcases List.mem_append.1 he with he | he
    · obtain ⟨q, hq, hqk, x, hx, hxk, hj⟩ := h.has e he
      have old := putV_old (d := d) h.keys hq
      by_cases hqd : q.1 = d.1
      · rw [if_pos hqd] at old
        obtain ⟨y, hy, hyk, hyt⟩ := merge_keeps (h.good q hq) ud hx
        exact ⟨_, old, hqk, y, hy, by rw [hyk, hxk], hyt e.2 (hD e (hP e he)) hxk.symm hj⟩
      · rw [if_neg hqd] at old
        exact ⟨q, old, hqk, x, hx, hxk, hj⟩
    · rw [List.mem_singleton.1 he]
      by_cases hm : d.1 ∈ V.map (·.1)
      · obtain ⟨q, hq, hqk⟩ := List.mem_map.1 hm
        have old := putV_old (d := d) h.keys hq
        rw [if_pos hqk] at old
        obtain ⟨y, hy, hyk, hyt⟩ := merge_has (h.good q hq) ud
        exact ⟨_, old, hqk, y, hy, hyk, hyt⟩
      · exact ⟨_, putV_new hm, rfl, d.2, List.mem_cons_self .., rfl, joinRo_self ud⟩
end Go.Proofs.YtolkhjdododdaaaGreat

/- Contracts of the library, laid at this program: strings.Compare, cmp.Compare: each is one application of a theorem of the shelf (the text is the tool's, its numbers by name). -/
namespace Go.Proofs
open Go.Shelf
def Tryz.lays106_ren : Go.Shelf.Ren := ⟨fun | 106 => 50 | 213 => 75 | 265 => 88 | n => n, fun | 9 => 9 | 3 => 3 | n => n, fun | n => n⟩
theorem Tryz.lays106 : Go.Proofs.Lays.n106 Tryz.prog Tryz.lays106_ren := {
  mixed := by kernel_rfl
  f106 := Tryz.func50.trans (congrArg some (by kernel_rfl))
  f213 := Tryz.func75.trans (congrArg some (by kernel_rfl))
  f265 := Tryz.func88.trans (congrArg some (by kernel_rfl))
  t3 := Tryz.underlying3
  a3 := Tryz.isAgg3
  z3 := Tryz.sizeOf3
  v3 := Tryz.zeroValue3
  t9 := Tryz.underlying9
  a9 := Tryz.isAgg9
  z9 := Tryz.sizeOf9
  v9 := Tryz.zeroValue9 }
open Go.RowKit in
theorem Tryz.strings_Compare (a b : ByteArray) (w : World) :
    Calls Tryz.prog 50 #[.string a, .string b] w fun e w' => e = .returned (.int .i64 (Lib.compareBytes a.data.toList b.data.toList)) ∧ w' = w := Any.strings_Compare Tryz.lays106 a b w
def Tryz.lays122_ren : Go.Shelf.Ren := ⟨fun | 122 => 89 | 215 => 102 | n => n, fun | 3 => 3 | 4 => 4 | n => n, fun | n => n⟩
theorem Tryz.lays122 : Go.Proofs.Lays.n122 Tryz.prog Tryz.lays122_ren := {
  mixed := by kernel_rfl
  f122 := Tryz.func89.trans (congrArg some (by kernel_rfl))
  f215 := Tryz.func102.trans (congrArg some (by kernel_rfl))
  t3 := Tryz.underlying3
  a3 := Tryz.isAgg3
  z3 := Tryz.sizeOf3
  v3 := Tryz.zeroValue3
  t4 := Tryz.underlying4
  a4 := Tryz.isAgg4
  z4 := Tryz.sizeOf4
  v4 := Tryz.zeroValue4 }
open Go.RowKit in
theorem Tryz.cmp_Compare_int (x y : Int) (w : World) :
    Calls Tryz.prog 89 #[.int .i64 x, .int .i64 y] w fun e w' => e = .returned (.int .i64 (Lib.compareInt x y)) ∧ w' = w := Any.cmp_Compare_int Tryz.lays122 x y w
end Go.Proofs
