/- Partitions by numbers: keys rise; what joins make of them is such a partition. -/
import Derived.Test.YtolkhjdododdaaaGreatP9
import Derived.Test.YtolkhjdododdaaaGreatP18
import Derived.Test.YtolkhjdododdaaaGreatP25
import Derived.Test.YtolkhjdododdaaaGreatP27
import Derived.Test.YtolkhjdododdaaaGreatP29
set_option linter.unusedSimpArgs false
set_option linter.unusedVariables false
namespace Go.Proofs.YtolkhjdododdaaaGreat
open Go Go.RowKit

theorem ik_lt {i j : Nat} (h : i < j) (hj : j < 1000) : cmpB (ik i).data.toList (ik j).data.toList < 0 := by
  show cmpB (int8 i) (int8 j) < 0
  rw [cmpB_less, less_int8 _ _ (by omega) (by omega) (by omega) (by omega), if_pos (by simp; omega)]
  decide
theorem GenRows.key {k : Nat} {l : List Ro} (h : GenRows k l) : ∀ r ∈ l, ∃ i, i < k ∧ r.key = ik i := by
  induction h with
  | nil => nofun
  | skip _ ih => exact fun r hr => let ⟨i, hi, e⟩ := ih r hr; ⟨i, by omega, e⟩
  | put _ _ e ih =>
    intro r hr
    rcases List.mem_append.1 hr with hr | hr
    · obtain ⟨i, hi, e⟩ := ih r hr
      exact ⟨i, by omega, e⟩
    · rw [List.mem_singleton.1 hr]
      exact ⟨_, by omega, e⟩
theorem GenRows.row {k : Nat} {l : List Ro} (h : GenRows k l) : ∀ r ∈ l, GenRow r := by
  induction h with
  | nil => nofun
  | skip _ ih => exact ih
  | put _ hr _ ih =>
    intro r h
    rcases List.mem_append.1 h with h | h
    · exact ih r h
    · rw [List.mem_singleton.1 h]; exact hr
theorem GenRows.up {k : Nat} {l : List Ro} (h : GenRows k l) (hk : k ≤ 1000) : Up kRo l := by
  induction h with
  | nil => exact List.Pairwise.nil
  | skip _ ih => exact ih (by omega)
  | put hl _ e ih =>
    refine List.pairwise_append.2 ⟨ih (by omega), List.pairwise_singleton .., fun a ha b hb => ?_⟩
    obtain ⟨i, hi, e'⟩ := hl.key a ha
    rw [List.mem_singleton.1 hb]
    unfold kRo
    rw [e, e']
    exact ik_lt hi (by omega)
/-- A partition's rows by numbers, or of joins of such. -/
structure NumRs (l : List Ro) : Prop where
  up : Up kRo l
  row : ∀ r ∈ l, NumRow r
  key : ∀ r ∈ l, ∃ i, i < 4 ∧ r.key = ik i
theorem GenRows.num {l : List Ro} (h : GenRows 4 l) : NumRs l := ⟨h.up (by decide), fun r hr => (h.row r hr).num, h.key⟩
theorem NumRs.good {l : List Ro} (h : NumRs l) : GoodRs l := ⟨h.up, fun r hr => (h.row r hr).up⟩
theorem NumRs.merge {l m : List Ro} (hl : NumRs l) (hm : NumRs m) : NumRs (mergeRo l m) := by
  refine ⟨hl.up.merge kRo_join hm.up, fun r hr => ?_, fun r hr => ?_⟩
  · rcases mem_mergeRs hr with (h | h) | ⟨a, ha, b, hb, _, rfl⟩
    · exact hl.row r h
    · exact hm.row r h
    · exact (hl.row a ha).join (hm.row b hb)
  · rcases mem_mergeRs hr with (h | h) | ⟨a, ha, b, hb, _, rfl⟩
    · exact hl.key r h
    · exact hm.key r h
    · exact hl.key a ha
theorem NumRs.len {l : List Ro} (h : NumRs l) : l.length ≤ 4 :=
  h.up.len (K := [(ik 0).data.toList, (ik 1).data.toList, (ik 2).data.toList, (ik 3).data.toList]) fun c hc => by
    obtain ⟨j, hj, e⟩ := h.key c hc
    unfold kRo
    rw [e]
    obtain rfl | rfl | rfl | rfl : j = 0 ∨ j = 1 ∨ j = 2 ∨ j = 3 := by omega
    all_goals simp
theorem NumRs.few {l : List Ro} (h : NumRs l) : FewCols l := fun r hr => by have := (h.row r hr).len; omega
theorem NumRs.nil : NumRs [] := ⟨List.Pairwise.nil, nofun, nofun⟩
end Go.Proofs.YtolkhjdododdaaaGreat

/- Steps put into a view: bounds, and the law of them all (plain). -/
namespace Go.Proofs.YtolkhjdododdaaaGreat
open Go Go.RowKit

theorem ptB_ok {k : ByteArray} {g : Int} {l : List Ro} (h : ptB k g l = true) : OkD (g, l) ∧ ∀ r ∈ l, r.key.size ≤ 400 ∧ r.cols.length ≤ 8 := by
  obtain ⟨_, h2, _, h4⟩ := ptB_parts h
  obtain ⟨i1, i2, _⟩ := rsB_up h4
  have hr : ∀ r ∈ l, Up kCo r.cols ∧ ∀ c ∈ r.cols, 0 < c.cell.at_ := fun r hr => by
    obtain ⟨j1, j2, _⟩ := csB_up (rwB_parts (i2 r hr)).2
    exact ⟨j1, j2⟩
  exact ⟨⟨⟨i1, fun r h => (hr r h).1⟩, fun r h c hc => (hr r h).2 c hc, h2⟩, fun r hr => hdB_key (rwB_parts (i2 r hr)).1⟩
theorem num_ok {g : Int} {l : List Ro} (hg : 0 ≤ g) (h : NumRs l) : OkD (g, l) := ⟨h.good, fun r hr c hc => ((h.row r hr).cols c hc).2.2, hg⟩
theorem nil_ok : OkD (0, []) := ⟨⟨List.Pairwise.nil, nofun⟩, nofun, Int.le_refl _⟩
theorem nil_le {p : Dp} (h : OkD p) : LeD (0, []) p := ⟨fun k => leC_nil _, fun k => by
  unfold gOf
  have := h.gone
  show max (0 : Int) 0 ≤ _
  omega, nofun⟩

/-- How much a view is that N deltas were put into. -/
structure BndV (V : Vi) (N : Nat) : Prop where
  len : V.length ≤ N
  rows : ∀ q ∈ V, q.2.length ≤ N
  cols : ∀ q ∈ V, ∀ r ∈ q.2, r.cols.length ≤ 20 * N
theorem BndV.put {V : Vi} {N : Nat} {d : ByteArray × Ro} (h : BndV V N) (hd : d.2.cols.length ≤ 20) : BndV (putV V d) (N + 1) := by
  refine ⟨?_, fun q hq => ?_, fun q hq r hr => ?_⟩
  · rcases putV_keys V d with ⟨k, h1, _, _⟩ | ⟨h1, _⟩
    · have := congrArg List.length h1
      simp only [List.length_map] at this
      have := h.len
      omega
    · have := congrArg List.length h1
      simp only [List.length_map, List.length_append, List.length_cons, List.length_nil] at this
      have := h.len
      omega
  · rcases mem_putV hq with ⟨h1, _⟩ | rfl | ⟨rs, h1, rfl⟩
    · exact Nat.le_succ_of_le (h.rows q h1)
    · show 1 ≤ N + 1
      omega
    · have := mergeG_len keyR joinRo rs [d.2]
      have h2 := h.rows _ h1
      show (mergeRo rs [d.2]).length ≤ _
      unfold mergeRo
      simp only [List.length_cons, List.length_nil] at this h2
      omega
  · rcases mem_putV hq with ⟨h1, _⟩ | rfl | ⟨rs, h1, rfl⟩
    · have := h.cols q h1 r hr; omega
    · rw [List.mem_singleton.1 hr]; omega
    · rcases mem_mergeRs hr with (hm | hm) | ⟨a, ha, b, hb, _, rfl⟩
      · have := h.cols _ h1 r hm; omega
      · rw [List.mem_singleton.1 hm]; omega
      · have h2 := h.cols _ h1 a ha
        rw [List.mem_singleton.1 hb]
        have := mergeG_len keyC joinCo a.cols d.2.cols
        show (mergeCo a.cols d.2.cols).length ≤ _
        unfold mergeCo
        omega
theorem foldl_take {α β : Type} (f : β → α → β) (b : β) (l : List α) (k : Nat) (h : k < l.length) : (l.take (k + 1)).foldl f b = f ((l.take k).foldl f b) l[k] := by
  rw [List.take_succ_eq_append_getElem h, List.foldl_append]
  rfl
theorem VInv.puts {D P : List (ByteArray × Ro)} {V : Vi} (hD : ∀ e ∈ D, Up kCo e.2.cols) : ∀ (l : List (ByteArray × Ro)) (P : List (ByteArray × Ro)) (V : Vi), (∀ e ∈ P, e ∈ D) → (∀ d ∈ l, d ∈ D) → VInv D P V → VInv D (P ++ l) (l.foldl putV V)
  | [], P, V, _, _, h => by rw [List.append_nil]; exact h
  | d :: l, P, V, hP, hl, h => by
    have h1 := VInv.put hD hP (hl d (List.mem_cons_self ..)) h
    have h2 := VInv.puts (P := P) (V := V) hD l (P ++ [d]) (putV V d) (fun e he => by
      rcases List.mem_append.1 he with h | h
      · exact hP e h
      · rw [List.mem_singleton.1 h]; exact hl d (List.mem_cons_self ..)) (fun e he => hl e (List.mem_cons_of_mem _ he)) h1
    rw [List.append_assoc] at h2
    exact h2
section
variable {x : Vw} {ns : List ByteArray} {pk : ByteArray}
theorem stepD_len (g : Int) (r : Ro) (m m' : Option (ByteArray × Ro)) : (stepD x g r m m').length ≤ 2 := by
  cases m with
  | none => cases m' <;> simp [stepD]
  | some p =>
    cases m' with
    | none => simp [stepD]
    | some q =>
      rw [stepD_some]
      split
      · split <;> simp
      · simp
theorem step_len (p p' : Dp) : (stepL x ns pk p p').length ≤ 2 * p'.2.length := by
  unfold stepL
  obtain ⟨g, l⟩ := p'
  show (deltaRs x ns pk p.1 pk g p.2 l).length ≤ 2 * l.length
  induction l with
  | nil => simp [deltaRs]
  | cons r l ih =>
    have := stepD_len (x := x) g r (mirOf x ns pk p.1 (rowOf p.2 r.key)) (mirOf x ns pk g r)
    unfold deltaRs
    simp only [List.length_append, List.length_cons]
    omega
theorem step_few {p p' : Dp} (ho' : OkD p') (hf : ∀ r ∈ p'.2, r.cols.length ≤ 20) {d : ByteArray × Ro} (h : d ∈ stepL x ns pk p p') : d.2.cols.length ≤ 20 := by
  obtain ⟨r', hr', hd⟩ := (mem_step ho').1 h
  obtain ⟨a, s⟩ := d
  rcases mem_stepD hd with e | ⟨P, e, rfl, _⟩
  · obtain ⟨_, _, rfl⟩ := mir_some e
    show (flt _ _).length ≤ _
    rw [rowOf_in ho'.good.1 hr']
    exact Nat.le_trans (List.length_filter_le _ _) (hf r' hr')
  · show (cellL x _).length ≤ _
    unfold cellL
    split <;> simp
theorem inv_up {p : Dp} {D : List (ByteArray × Ro)} (hk : ∀ k, KInv x ns pk p D k) (hkeys : ∀ d ∈ D, ∃ r ∈ p.2, d.2.key = vkey pk r.key) : ∀ e ∈ D, Up kCo e.2.cols := fun e he => by
  obtain ⟨r, _, hr⟩ := hkeys e he
  obtain ⟨a, s⟩ := e
  exact ((hk r.key).each a s he hr).up
/-- What holds of a view on its way. -/
structure OnWay (V : Vi) (N : Nat) : Prop where
  good : ∀ q ∈ V, GoodRs q.2
  bnd : BndV V N
theorem way_take {D P : List (ByteArray × Ro)} {V : Vi} {N : Nat} (hD : ∀ e ∈ D, Up kCo e.2.cols) (hf : ∀ e ∈ D, e.2.cols.length ≤ 20) (l : List (ByteArray × Ro)) (hP : ∀ e ∈ P, e ∈ D) (hl : ∀ d ∈ l, d ∈ D) (hv : VInv D P V) (hb : BndV V N) : ∀ k, k ≤ l.length → OnWay ((l.take k).foldl putV V) (N + k) := fun k hk => by
  refine ⟨(VInv.puts (P := P) (V := V) hD (l.take k) P V hP (fun d hd => hl d (List.mem_of_mem_take hd)) hv).good, ?_⟩
  induction k with
  | zero => exact hb
  | succ k ih =>
    rw [foldl_take _ _ _ _ (by omega)]
    exact (ih (by omega)).put (hf _ (hl _ (List.getElem_mem _)))
/-- One step behind a base, put into a view: all of it. -/
theorem two_steps {p q : Dp} (hp : OkD p) (hq : OkD q) (fp : ∀ r ∈ p.2, r.cols.length ≤ 4) (fq : ∀ r ∈ q.2, r.cols.length ≤ 8) (lp : p.2.length ≤ 4) (lq : q.2.length ≤ 12) (hon : fK ns x.on.data.toList = false) :
    ∃ D1 D2 : List (ByteArray × Ro), D1 = stepL x ns pk (0, []) p ∧ D2 = stepL x ns pk p (joinD p q) ∧ (∀ d ∈ D1 ++ D2, Up kCo d.2.cols ∧ d.2.cols.length ≤ 20) ∧ D1.length ≤ 8 ∧ D2.length ≤ 32 ∧
      (∀ k, k ≤ D1.length → OnWay ((D1.take k).foldl putV []) (0 + k)) ∧ (∀ k, k ≤ D2.length → OnWay ((D2.take k).foldl putV (D1.foldl putV [])) (D1.length + k)) ∧
      ∀ t, (∀ e, e ∈ seenV x (D2.foldl putV (D1.foldl putV [])) t ↔ e ∈ viewRs x ns pk (joinD p q).1 t (joinD p q).2) ∧ (seenV x (D2.foldl putV (D1.foldl putV [])) t).length = (viewRs x ns pk (joinD p q).1 t (joinD p q).2).length := by
  obtain ⟨hn, hle⟩ := joinD_le hp hq
  have hl0 := nil_le hp
  have k1 : ∀ k, KInv x ns pk p (stepL x ns pk (0, []) p) k := fun k => (KInv.start k).step nil_ok hp hl0
  have k2 : ∀ k, KInv x ns pk (joinD p q) (stepL x ns pk (0, []) p ++ stepL x ns pk p (joinD p q)) k := fun k => (k1 k).step hp hn hle
  have y1 : ∀ d ∈ stepL x ns pk (0, []) p, ∃ r ∈ p.2, d.2.key = vkey pk r.key := fun d hd => step_keys hp hd
  have y2 : ∀ d ∈ stepL x ns pk (0, []) p ++ stepL x ns pk p (joinD p q), ∃ r ∈ (joinD p q).2, d.2.key = vkey pk r.key := fun d hd => by
    rcases List.mem_append.1 hd with h | h
    · obtain ⟨r, hr, e⟩ := y1 d h
      obtain ⟨r', hr', e'⟩ := hle.has r hr
      exact ⟨r', hr', by rw [e', e]⟩
    · exact step_keys hn h
  have fn : ∀ r ∈ (joinD p q).2, r.cols.length ≤ 20 := fun r hr => by
    rcases mem_mergeRs hr with (hm | hm) | ⟨a, ha, b, hb, _, rfl⟩
    · have := fp r hm; omega
    · have := fq r hm; omega
    · have h1 := fp a ha
      have h2 := fq b hb
      have := mergeG_len keyC joinCo a.cols b.cols
      show (mergeCo a.cols b.cols).length ≤ _
      unfold mergeCo
      omega
  have u1 := inv_up k1 y1
  have u2 := inv_up k2 y2
  have f1 : ∀ e ∈ stepL x ns pk (0, []) p, e.2.cols.length ≤ 20 := fun e he => step_few hp (fun r hr => by have := fp r hr; omega) he
  have f2 : ∀ e ∈ stepL x ns pk (0, []) p ++ stepL x ns pk p (joinD p q), e.2.cols.length ≤ 20 := fun e he => by
    rcases List.mem_append.1 he with h | h
    · exact f1 e h
    · exact step_few hn fn h
  have len1 : (stepL x ns pk (0, []) p).length ≤ 8 := by have := step_len (x := x) (ns := ns) (pk := pk) (0, []) p; omega
  have len2 : (stepL x ns pk p (joinD p q)).length ≤ 32 := by
    have := step_len (x := x) (ns := ns) (pk := pk) p (joinD p q)
    have h2 := mergeG_len keyR joinRo p.2 q.2
    have h3 : (joinD p q).2.length = (mergeG keyR joinRo p.2 q.2).length := rfl
    omega
  have b0 : BndV [] 0 := ⟨Nat.le_refl _, nofun, nofun⟩
  have w1 := way_take u1 f1 (stepL x ns pk (0, []) p) (P := []) nofun (fun d h => h) (VInv.start _) b0
  have v1 := VInv.puts (P := []) (V := []) u1 (stepL x ns pk (0, []) p) [] [] nofun (fun d h => h) (VInv.start _)
  have v1' : VInv (stepL x ns pk (0, []) p ++ stepL x ns pk p (joinD p q)) (stepL x ns pk (0, []) p) ((stepL x ns pk (0, []) p).foldl putV []) := v1.mono fun d hd => List.mem_append_left _ hd
  have b1 := (w1 _ (Nat.le_refl _)).bnd
  rw [List.take_length, Nat.zero_add] at b1
  have w2 := way_take u2 f2 (stepL x ns pk p (joinD p q)) (P := stepL x ns pk (0, []) p) (fun d h => List.mem_append_left _ h) (fun d h => List.mem_append_right _ h) v1' b1
  have v2 := VInv.puts (P := stepL x ns pk (0, []) p) (V := (stepL x ns pk (0, []) p).foldl putV []) u2 (stepL x ns pk p (joinD p q)) _ _ (fun d h => List.mem_append_left _ h) (fun d h => List.mem_append_right _ h) v1'
  refine ⟨_, _, rfl, rfl, fun d hd => ⟨u2 d hd, f2 d hd⟩, len1, len2, w1, w2, fun t => ?_⟩
  have hm := mem_seen hn hon k2 y2 v2 (fun d h => h) t
  exact ⟨hm, len_seen hn v2.keys v2.good t hm⟩
end
end Go.Proofs.YtolkhjdododdaaaGreat

/- Many steps, put into a view in any order, some twice (plain). -/
namespace Go.Proofs.YtolkhjdododdaaaGreat
open Go Go.RowKit

section
variable {x : Vw} {ns : List ByteArray} {pk : ByteArray}
/-- The names that a view's rows may have. -/
def nsK (x : Vw) : List (List UInt8) := [x.on.data.toList, (nmK 0).data.toList, (nmK 1).data.toList, (nmK 2).data.toList, (nmK 3).data.toList]
def NmL (x : Vw) (l : List Co) : Prop := ∀ c ∈ l, kCo c ∈ nsK x
theorem NmL.num {l : List Co} (h : ∀ c ∈ l, NumCo c) : NmL x l := fun c hc => by
  obtain ⟨⟨j, hj, e⟩, _⟩ := h c hc
  unfold kCo nsK
  rw [e]
  obtain rfl | rfl | rfl | rfl : j = 0 ∨ j = 1 ∨ j = 2 ∨ j = 3 := by omega
  all_goals simp
theorem NmL.merge {l m : List Co} (hl : NmL x l) (hm : NmL x m) : NmL x (mergeCo l m) := fun c hc => by
  rcases mem_mergeCo hc with (h | h) | ⟨a, ha, b, hb, _, rfl⟩
  · exact hl c h
  · exact hm c h
  · exact hl a ha
theorem NmL.len {l : List Co} (h : NmL x l) (hu : Up kCo l) : l.length ≤ 5 := hu.len (K := nsK x) h
theorem Jd.names {S : Ro → Prop} (h : ∀ s, S s → NmL x s.cols) {r : Ro} (hr : Jd S r) : NmL x r.cols := by
  induction hr with
  | one hs => exact h _ hs
  | join _ hs _ ih => exact ih.merge (h _ hs)
/-- What holds of a base by numbers, and of all its deltas so far. -/
structure Ch (x : Vw) (ns : List ByteArray) (pk : ByteArray) (p : Dp) (D : List (ByteArray × Ro)) : Prop where
  num : NumRs p.2
  gone : 0 ≤ p.1
  inv : ∀ k, KInv x ns pk p D k
  keys : ∀ d ∈ D, ∃ r ∈ p.2, d.2.key = vkey pk r.key
  nm : ∀ d ∈ D, NmL x d.2.cols
theorem Ch.start : Ch x ns pk (0, []) [] := ⟨NumRs.nil, Int.le_refl _, fun k => KInv.start k, nofun, nofun⟩
theorem step_names {p p' : Dp} (ho' : OkD p') (hn : ∀ r ∈ p'.2, NmL x r.cols) {d : ByteArray × Ro} (h : d ∈ stepL x ns pk p p') : NmL x d.2.cols := by
  obtain ⟨r', hr', hd⟩ := (mem_step ho').1 h
  obtain ⟨a, s⟩ := d
  rcases mem_stepD hd with e | ⟨P, e, rfl, _⟩
  · obtain ⟨_, _, rfl⟩ := mir_some e
    intro c hc
    have hc : c ∈ flt (fK ns) (rowOf p'.2 r'.key).cols := hc
    rw [rowOf_in ho'.good.1 hr'] at hc
    exact hn r' hr' c (flt_mem hc)
  · intro c hc
    have hc : c ∈ cellL x _ := hc
    unfold cellL at hc
    split at hc
    · cases hc
    · rw [List.mem_singleton.1 hc]
      exact List.mem_cons_self ..
theorem Ch.ok {p : Dp} {D : List (ByteArray × Ro)} (h : Ch x ns pk p D) : OkD p := num_ok h.gone h.num
theorem Ch.step {p q : Dp} {D : List (ByteArray × Ro)} (h : Ch x ns pk p D) (hg : 0 ≤ q.1) (hq : NumRs q.2) : Ch x ns pk (joinD p q) (D ++ stepL x ns pk p (joinD p q)) ∧ (stepL x ns pk p (joinD p q)).length ≤ 8 := by
  obtain ⟨hn, hle⟩ := joinD_le h.ok (num_ok hg hq : OkD (q.1, q.2))
  have hm : NumRs (joinD p q).2 := h.num.merge hq
  refine ⟨⟨hm, hn.gone, fun k => (h.inv k).step h.ok hn hle, fun d hd => ?_, fun d hd => ?_⟩, ?_⟩
  · rcases List.mem_append.1 hd with hd | hd
    · obtain ⟨r, hr, e⟩ := h.keys d hd
      obtain ⟨r', hr', e'⟩ := hle.has r hr
      exact ⟨r', hr', by rw [e', e]⟩
    · exact step_keys hn hd
  · rcases List.mem_append.1 hd with hd | hd
    · exact h.nm d hd
    · exact step_names hn (fun r hr => NmL.num (hm.row r hr).cols) hd
  · have h1 := step_len (x := x) (ns := ns) (pk := pk) p (joinD p q)
    have h2 := hm.len
    omega
theorem Ch.up {p : Dp} {D : List (ByteArray × Ro)} (h : Ch x ns pk p D) : ∀ d ∈ D, Up kCo d.2.cols ∧ d.2.cols.length ≤ 5 := fun d hd =>
  ⟨inv_up h.inv h.keys d hd, (h.nm d hd).len (inv_up h.inv h.keys d hd)⟩
/-- A view that some of the deltas were put into is small. -/
theorem Ch.view {p : Dp} {D P : List (ByteArray × Ro)} {V : Vi} (h : Ch x ns pk p D) (hv : VInv D P V) : ∀ q ∈ V, GoodRs q.2 ∧ q.2.length ≤ 4 ∧ ∀ r ∈ q.2, r.cols.length ≤ 5 := fun q hq => by
  have hg := hv.good q hq
  refine ⟨hg, ?_, fun r hr => ?_⟩
  · refine hg.1.len (K := [(vkey pk (ik 0)).data.toList, (vkey pk (ik 1)).data.toList, (vkey pk (ik 2)).data.toList, (vkey pk (ik 3)).data.toList]) fun r hr => ?_
    obtain ⟨s, ⟨hs, hk⟩, _⟩ := (hv.rows q hq r hr).at_le
    obtain ⟨t, ht, e⟩ := h.keys _ hs
    obtain ⟨j, hj, ej⟩ := h.num.key t ht
    unfold kRo
    rw [← hk, show s.key = vkey pk t.key from e, ej]
    obtain rfl | rfl | rfl | rfl : j = 0 ∨ j = 1 ∨ j = 2 ∨ j = 3 := by omega
    all_goals simp
  · exact (Jd.names (fun s hs => h.nm _ hs.1) (hv.rows q hq r hr)).len (hg.2 r hr)
/-- One more delta put. -/
theorem Ch.put {p : Dp} {D P : List (ByteArray × Ro)} {V : Vi} (h : Ch x ns pk p D) (hP : ∀ e ∈ P, e ∈ D) (hv : VInv D P V) {d : ByteArray × Ro} (hd : d ∈ D) : VInv D (P ++ [d]) (putV V d) ∧ (∀ e ∈ P ++ [d], e ∈ D) ∧ (putV V d).length ≤ V.length + 1 := by
  refine ⟨VInv.put (fun e he => (h.up e he).1) hP hd hv, fun e he => ?_, ?_⟩
  · rcases List.mem_append.1 he with he | he
    · exact hP e he
    · rw [List.mem_singleton.1 he]; exact hd
  · rcases putV_keys V d with ⟨k, h1, _, _⟩ | ⟨h1, _⟩
    · have := congrArg List.length h1
      simp only [List.length_map] at this
      omega
    · have := congrArg List.length h1
      simp only [List.length_map, List.length_append, List.length_cons, List.length_nil] at this
      omega
/-- All deltas put, in any order, some twice: what is seen is what the base has. -/
theorem Ch.end_ {p : Dp} {D P : List (ByteArray × Ro)} {V : Vi} (h : Ch x ns pk p D) (hon : fK ns x.on.data.toList = false) (hv : VInv D P V) (hP : ∀ d ∈ D, d ∈ P) (t : Int) :
    (∀ e, e ∈ seenV x V t ↔ e ∈ viewRs x ns pk p.1 t p.2) ∧ (seenV x V t).length = (viewRs x ns pk p.1 t p.2).length := by
  have hm := mem_seen h.ok hon h.inv h.keys hv hP t
  exact ⟨hm, len_seen h.ok hv.keys hv.good t hm⟩
end
/-- The order in which they are put reaches each of them. -/
theorem inv7 : ∀ n, n < 60 → n % 7 ≠ 0 → ∃ u, u < 60 ∧ (u * 7) % n = 1 % n := by decide +kernel
theorem reach_off {n c j : Nat} (hj : j < n) (hc : c ≤ n) : ∃ i, i < n ∧ (i + c) % n = j := by
  by_cases h : c ≤ j
  · exact ⟨j - c, by omega, by rw [Nat.sub_add_cancel h]; exact Nat.mod_eq_of_lt hj⟩
  · by_cases hcn : c = n
    · exact ⟨j, hj, by rw [hcn, Nat.add_mod_right]; exact Nat.mod_eq_of_lt hj⟩
    · exact ⟨j + n - c, by omega, by rw [show j + n - c + c = j + n by omega, Nat.add_mod_right]; exact Nat.mod_eq_of_lt hj⟩
theorem reach_seven {n c j : Nat} (hn : n < 60) (h7 : n % 7 ≠ 0) (hj : j < n) (hc : c ≤ n) : ∃ i, i < n ∧ (i * 7 + c) % n = j := by
  obtain ⟨m, hm, e⟩ := reach_off hj hc
  obtain ⟨u, _, hu⟩ := inv7 n hn h7
  refine ⟨u * m % n, Nat.mod_lt _ (by omega), ?_⟩
  have h1 : (u * m % n * 7) % n = m % n := by
    rw [Nat.mod_mul_mod, Nat.mul_assoc, Nat.mul_comm m 7, ← Nat.mul_assoc, Nat.mul_mod, hu, ← Nat.mul_mod, Nat.one_mul]
  rw [Nat.add_mod, h1, ← Nat.add_mod, e]
end Go.Proofs.YtolkhjdododdaaaGreat

/- A view's rows as deltas; rows by themselves; rows under a base (plain laws for delta.Orphan). -/
namespace Go.Proofs.YtolkhjdododdaaaGreat
open Go Go.RowKit

/-- A view's rows as deltas. -/
def flatV (V : Vi) : List (ByteArray × Ro) := V.flatMap fun q => q.2.map fun r => (q.1, r)
theorem mem_flatV {V : Vi} {a : ByteArray} {s : Ro} : (a, s) ∈ flatV V ↔ ∃ q ∈ V, q.1 = a ∧ s ∈ q.2 := by
  unfold flatV
  rw [List.mem_flatMap]
  constructor
  · rintro ⟨q, hq, h⟩
    obtain ⟨r, hr, e⟩ := List.mem_map.1 h
    cases e
    exact ⟨q, hq, rfl, hr⟩
  · rintro ⟨q, hq, rfl, hs⟩
    exact ⟨q, hq, List.mem_map.2 ⟨s, hs, rfl⟩⟩
theorem VInv.flat {V : Vi} (hn : (V.map (·.1)).Nodup) (hg : ∀ q ∈ V, GoodRs q.2) : VInv (flatV V) (flatV V) V := by
  refine ⟨hn, hg, fun q hq y hy => .one ⟨mem_flatV.2 ⟨q, hq, rfl, hy⟩, rfl⟩, fun d hd => ?_⟩
  obtain ⟨a, s⟩ := d
  obtain ⟨q, hq, e, hs⟩ := mem_flatV.1 hd
  exact ⟨q, hq, e, s, hs, rfl, joinRo_self ((hg q hq).2 s hs)⟩
theorem Jd.all {S P : Ro → Prop} (h1 : ∀ s, S s → P s) (h2 : ∀ x s, P x → P s → x.key = s.key → P (joinRo x s)) {y : Ro} (h : Jd S y) : P y := by
  induction h with
  | one hs => exact h1 _ hs
  | join _ hs hk ih => exact h2 _ _ ih (h1 _ hs) hk
/-- A partition put into a view. -/
def putP : Vi → ByteArray × List Ro → Vi
  | [], d => [(d.1, d.2)]
  | q :: V, d => if q.1.toList == d.1.toList then (q.1, mergeRo q.2 d.2) :: V else q :: putP V d
theorem putP_keys {V : Vi} {d : ByteArray × List Ro} (h : d.1 ∈ V.map (·.1)) : (putP V d).map (·.1) = V.map (·.1) := by
  induction V with
  | nil => cases h
  | cons q V ih =>
    unfold putP
    by_cases hk : (q.1.toList == d.1.toList) = true
    · rw [if_pos hk]; rfl
    · rw [if_neg hk, List.map_cons, List.map_cons]
      rcases List.mem_cons.1 h with e | h
      · exact absurd (keyT.2 e.symm) hk
      · rw [ih h]
theorem mem_putP {V : Vi} {d : ByteArray × List Ro} (hm : d.1 ∈ V.map (·.1)) {q : ByteArray × List Ro} (h : q ∈ putP V d) : q ∈ V ∨ ∃ rs, (d.1, rs) ∈ V ∧ q = (d.1, mergeRo rs d.2) := by
  induction V with
  | nil => cases hm
  | cons p V ih =>
    unfold putP at h
    by_cases hk : (p.1.toList == d.1.toList) = true
    · rw [if_pos hk] at h
      rcases List.mem_cons.1 h with e | h
      · obtain ⟨pk, pr⟩ := p
        have e2 := keyT.1 hk
        subst e2
        exact .inr ⟨pr, List.mem_cons_self .., e⟩
      · exact .inl (List.mem_cons_of_mem _ h)
    · rw [if_neg hk] at h
      rcases List.mem_cons.1 h with rfl | h
      · exact .inl (List.mem_cons_self ..)
      · rcases List.mem_cons.1 hm with e | hm
        · exact absurd (keyT.2 e.symm) hk
        · rcases ih hm h with h1 | ⟨rs, h1, h2⟩
          · exact .inl (List.mem_cons_of_mem _ h1)
          · exact .inr ⟨rs, List.mem_cons_of_mem _ h1, h2⟩
theorem putP_old {V : Vi} {d : ByteArray × List Ro} (hn : (V.map (·.1)).Nodup) {q : ByteArray × List Ro} (h : q ∈ V) : if q.1 = d.1 then (q.1, mergeRo q.2 d.2) ∈ putP V d else q ∈ putP V d := by
  induction V with
  | nil => cases h
  | cons p V ih =>
    have hn' := List.nodup_cons.1 hn
    unfold putP
    by_cases hk : (p.1.toList == d.1.toList) = true
    · rw [if_pos hk]
      have e := keyT.1 hk
      rcases List.mem_cons.1 h with rfl | h
      · rw [if_pos e]; exact List.mem_cons_self ..
      · have hne : ¬ q.1 = d.1 := fun e' => hn'.1 (List.mem_map.2 ⟨q, h, e'.trans e.symm⟩)
        rw [if_neg hne]; exact List.mem_cons_of_mem _ h
    · rw [if_neg hk]
      rcases List.mem_cons.1 h with rfl | h
      · rw [if_neg fun e => hk (keyT.2 e)]; exact List.mem_cons_self ..
      · have := ih hn'.2 h
        split at this
        · rename_i e; rw [if_pos e]; exact List.mem_cons_of_mem _ this
        · rename_i e; rw [if_neg e]; exact List.mem_cons_of_mem _ this
/-- What is behind a merge: each of the two's rows. -/
theorem mergeL_has {rs ss : List Ro} {s : Ro} (hg : GoodRs rs) (hs : GoodRs ss) (hm : s ∈ ss) : ∃ y ∈ mergeRo rs ss, y.key = s.key ∧ joinRo y s = y := by
  have us := hs.2 s hm
  have hk := getK_of_mem hs.1 hm
  have h2 := getK_merge (join := joinRo) kRo_join hg.1 hs.1 (kRo s)
  rw [hk, ← mergeRo_K] at h2
  cases h1 : getK kRo rs (kRo s) with
  | none =>
    rw [h1] at h2
    exact ⟨s, (getK_mem h2).1, rfl, joinRo_self us⟩
  | some x =>
    rw [h1] at h2
    exact ⟨_, (getK_mem h2).1, key_of_k (getK_mem h2).2, joinRo_again (hg.2 x (getK_mem h1).1) us⟩
theorem mergeL_keeps {rs ss : List Ro} {x : Ro} (hg : GoodRs rs) (hs : GoodRs ss) (hx : x ∈ rs) : ∃ y ∈ mergeRo rs ss, y.key = x.key ∧ ∀ t : Ro, Up kCo t.cols → t.key = x.key → joinRo x t = x → joinRo y t = y := by
  have h1 := getK_of_mem hg.1 hx
  have h2 := getK_merge (join := joinRo) kRo_join hg.1 hs.1 (kRo x)
  rw [h1, ← mergeRo_K] at h2
  have ux := hg.2 x hx
  cases h3 : getK kRo ss (kRo x) with
  | none =>
    rw [h3] at h2
    exact ⟨x, (getK_mem h2).1, rfl, fun t _ _ h => h⟩
  | some s' =>
    rw [h3] at h2
    have hs' := hs.2 s' (getK_mem h3).1
    have hk := (getK_mem h3).2
    refine ⟨_, (getK_mem h2).1, rfl, fun t ht hkt h => ?_⟩
    rw [joinRo_assoc ux hs' ht, joinRo_comm (a := s') (b := t) (by rw [hkt]; exact key_of_k hk) hs' ht, ← joinRo_assoc ux ht hs', h]
theorem VInv.putPart {D P : List (ByteArray × Ro)} {V : Vi} {a : ByteArray} {ss : List Ro} (hD : ∀ e ∈ D, Up kCo e.2.cols) (hP : ∀ e ∈ P, e ∈ D) (ha : a ∈ V.map (·.1)) (hs : GoodRs ss) (hd : ∀ s ∈ ss, (a, s) ∈ D) (h : VInv D P V) : VInv D (P ++ ss.map fun s => (a, s)) (putP V (a, ss)) := by
  refine ⟨by rw [putP_keys ha]; exact h.keys, fun q hq => ?_, fun q hq x hx => ?_, fun e he => ?_⟩
  · rcases mem_putP ha hq with h1 | ⟨rs, h1, rfl⟩
    · exact h.good q h1
    · exact (h.good _ h1).merge hs
  · rcases mem_putP ha hq with h1 | ⟨rs, h1, rfl⟩
    · exact h.rows q h1 x hx
    · rcases mem_mergeRs hx with (hm | hm) | ⟨u, hu, b, hb, hk, rfl⟩
      · exact h.rows _ h1 x hm
      · exact .one ⟨hd x hm, rfl⟩
      · exact .join (h.rows _ h1 u hu) ⟨hd b hb, hk.symm⟩ hk
  · rcases List.mem_append.1 he with he | he
    · obtain ⟨q, hq, hqk, x, hx, hxk, hj⟩ := h.has e he
      have old := putP_old (d := (a, ss)) h.keys hq
      by_cases hqd : q.1 = a
      · rw [if_pos hqd] at old
        obtain ⟨y, hy, hyk, hyt⟩ := mergeL_keeps (h.good q hq) hs hx
        exact ⟨_, old, hqk, y, hy, by rw [hyk, hxk], hyt e.2 (hD e (hP e he)) hxk.symm hj⟩
      · rw [if_neg hqd] at old
        exact ⟨q, old, hqk, x, hx, hxk, hj⟩
    · obtain ⟨s, hs', rfl⟩ := List.mem_map.1 he
      obtain ⟨q, hq, hqk⟩ := List.mem_map.1 ha
      have old := putP_old (d := (a, ss)) h.keys hq
      rw [if_pos hqk] at old
      obtain ⟨y, hy, hyk, hyt⟩ := mergeL_has (h.good q hq) hs hs'
      exact ⟨_, old, hqk, y, hy, hyk, hyt⟩

/-- The values that cells by numbers have. -/
def valK : List ByteArray := [⟨#[]⟩, ⟨#[120]⟩, ⟨#[121]⟩, ⟨#[122]⟩]
section
variable (x : Vw) (ns : List ByteArray) (pk : ByteArray)
/-- A view's row by itself. -/
structure Ir (a : ByteArray) (y : Ro) : Prop where
  val : a ∈ valK
  key : ∃ i, i < 4 ∧ y.key = vkey pk (ik i)
  up : Up kCo y.cols
  cols : ∀ c ∈ y.cols, kCo c ∈ nsK x ∧ 0 < c.cell.at_ ∧ c.cell.val ∈ valK
  on : ∀ c ∈ y.cols, fOn x ns (kCo c) = true
  live : y.live = zeroCl ∨ (0 < y.live.at_ ∧ y.live = ⟨⟨#[]⟩, false, y.live.at_, y.live.fin⟩)
  gone : 0 ≤ y.gone
  shade : ∀ C : Cl, C.dead = false → C.val = a → cmpCl (cellOf y.cols x.on) C ≤ 0 → y.gone < C.at_ → y.shade < C.at_
/-- A view's row under a base. -/
structure Un (p : Dp) (k a : ByteArray) (y : Ro) : Prop where
  gone : y.gone ≤ gOf p k
  cols : LeC y.cols (rowOf p.2 k).cols
  live : y.live.at_ ≤ 0 ∨ cmpCl ⟨a, false, y.live.at_, y.live.fin⟩ (cOf x p k) ≤ 0
/-- A row that is nothing where its key's mirror is not. -/
def Idle (p : Dp) (k a : ByteArray) (y : Ro) : Prop := (∀ R, mOf x ns pk p k ≠ some (a, R)) → y.live.at_ ≤ 0 ∨ y.live.at_ ≤ y.shade ∨ y.live.at_ ≤ y.gone
/-- A base that may be, by numbers. -/
structure BsOk (p : Dp) : Prop where
  ok : OkD p
  keys : ∀ r ∈ p.2, ∃ i, i < 4 ∧ r.key = ik i
  cols : ∀ r ∈ p.2, ∀ c ∈ r.cols, kCo c ∈ nsK x ∧ c.cell.val ∈ valK
end
section
variable {x : Vw} {ns : List ByteArray} {pk : ByteArray}
theorem cell_merge_left {l m : List Co} (hl : Up kCo l) (hm : Up kCo m) (pl : ∀ c ∈ l, 0 < c.cell.at_) (pm : ∀ c ∈ m, 0 < c.cell.at_) (n : ByteArray) : cmpCl (cellOf l n) (cellOf (mergeCo l m) n) ≤ 0 ∧ cmpCl (cellOf m n) (cellOf (mergeCo l m) n) ≤ 0 := by
  have pos : ∀ c ∈ mergeCo l m, 0 < c.cell.at_ := fun c hc => by
    rcases mem_mergeCo hc with (h | h) | ⟨u, hu, v, hv, _, rfl⟩
    · exact pl c h
    · exact pm c h
    · have := (joinCl_at u.cell v.cell).1
      have := pl u hu
      show 0 < (joinCl u.cell v.cell).at_
      omega
  exact ⟨le_cell hl (mergeCo_up hl hm) pos (leC_left hl hm) n, le_cell hm (mergeCo_up hl hm) pos (leC_right hl hm) n⟩
theorem Ir.join {a : ByteArray} {y s : Ro} (h : Ir x ns pk a y) (h' : Ir x ns pk a s) : Ir x ns pk a (joinRo y s) := by
  obtain ⟨c1, c2⟩ := cell_merge_left h.up h'.up (fun c hc => (h.cols c hc).2.1) (fun c hc => (h'.cols c hc).2.1) x.on
  refine ⟨h.val, h.key, mergeCo_up h.up h'.up, fun c hc => ?_, fun c hc => ?_, ?_, ?_, fun C d1 d2 d3 d4 => ?_⟩
  · rcases mem_mergeCo hc with (hm | hm) | ⟨u, hu, v, hv, _, rfl⟩
    · exact h.cols c hm
    · exact h'.cols c hm
    · obtain ⟨u1, u2, u3⟩ := h.cols u hu
      obtain ⟨v1, v2, v3⟩ := h'.cols v hv
      rcases joinCl_or u.cell v.cell with e | e
      · exact ⟨u1, by show 0 < (joinCl u.cell v.cell).at_; rw [e]; exact u2, by show (joinCl u.cell v.cell).val ∈ _; rw [e]; exact u3⟩
      · exact ⟨u1, by show 0 < (joinCl u.cell v.cell).at_; rw [e]; exact v2, by show (joinCl u.cell v.cell).val ∈ _; rw [e]; exact v3⟩
  · rcases mem_mergeCo hc with (hm | hm) | ⟨u, hu, v, hv, _, rfl⟩
    · exact h.on c hm
    · exact h'.on c hm
    · exact h.on u hu
  · show joinCl y.live s.live = _ ∨ 0 < (joinCl y.live s.live).at_ ∧ joinCl y.live s.live = ⟨⟨#[]⟩, false, (joinCl y.live s.live).at_, (joinCl y.live s.live).fin⟩
    rcases joinCl_or y.live s.live with e | e
    · rw [e]; exact h.live
    · rw [e]; exact h'.live
  · show 0 ≤ max y.gone s.gone
    have := h.gone
    omega
  · have e1 := h.shade C d1 d2 (cmpCl_trans c1 d3) (by have d4 : max y.gone s.gone < C.at_ := d4; omega)
    have e2 := h'.shade C d1 d2 (cmpCl_trans c2 d3) (by have d4 : max y.gone s.gone < C.at_ := d4; omega)
    show max y.shade s.shade < C.at_
    omega
theorem Un.join {p : Dp} (ho : OkD p) {k a : ByteArray} {y s : Ro} (uy : Up kCo y.cols) (us : Up kCo s.cols) (h : Un x p k a y) (h' : Un x p k a s) : Un x p k a (joinRo y s) := by
  refine ⟨?_, leC_merge uy us (ho.up k) h.cols h'.cols, ?_⟩
  · have := h.gone
    have := h'.gone
    show max y.gone s.gone ≤ _
    omega
  · show (joinCl y.live s.live).at_ ≤ 0 ∨ cmpCl ⟨a, false, (joinCl y.live s.live).at_, (joinCl y.live s.live).fin⟩ _ ≤ 0
    rcases joinCl_or y.live s.live with e | e
    · rw [e]; exact h.live
    · rw [e]; exact h'.live
theorem Un.mono {p p' : Dp} (ho : OkD p) (ho' : OkD p') (hl : LeD p p') {k a : ByteArray} {y : Ro} (uy : Up kCo y.cols) (h : Un x p k a y) : Un x p' k a y :=
  ⟨Int.le_trans h.gone (hl.gone k), leC_trans uy (ho.up k) (ho'.up k) h.cols (hl.cols k), h.live.imp_right fun h1 => cmpCl_trans h1 (ho.le ho' hl k)⟩
theorem flt_le (f : List UInt8 → Bool) {l : List Co} (h : Up kCo l) : LeC (flt f l) l := by
  rw [leC_get (flt_up h) h]
  intro k
  rw [getK_flt]
  cases h1 : getK kCo l k with
  | none => split <;> rfl
  | some c =>
    split
    · show some (⟨c.name, joinCl c.cell c.cell⟩ : Co) = some c
      rw [joinCl_self]
    · rfl
theorem Dl.un {p : Dp} (ho : OkD p) {k a : ByteArray} {s : Ro} (h : Dl x ns pk p k a s) : Un x p k a s := by
  refine ⟨h.gone, leC_trans h.up (flt_up (ho.up k)) (ho.up k) h.cols (flt_le _ (ho.up k)), ?_⟩
  rcases h.kind with ⟨_, _, _, h4⟩ | ⟨h1, _⟩
  · exact .inr h4
  · left
    rw [h1]
    decide
theorem cOf_val {p : Dp} (h : BsOk x p) (k : ByteArray) : (cOf x p k).val ∈ valK := by
  unfold cOf
  rw [cellOf_get]
  cases h1 : getK kCo (rowOf p.2 k).cols x.on.data.toList with
  | none => exact List.mem_cons_self ..
  | some c =>
    have hc := (getK_mem h1).1
    rcases rowOf_or p.2 k with hm | hn
    · exact (h.cols _ hm c hc).2
    · rw [hn] at hc; cases hc
theorem gOf_pos {p : Dp} (h : OkD p) (k : ByteArray) : 0 ≤ gOf p k := by
  have := h.gone
  unfold gOf
  omega
theorem row_cols {p : Dp} (h : BsOk x p) (k : ByteArray) : ∀ c ∈ (rowOf p.2 k).cols, kCo c ∈ nsK x ∧ 0 < c.cell.at_ ∧ c.cell.val ∈ valK := by
  intro c hc
  rcases rowOf_or p.2 k with hm | hn
  · exact ⟨(h.cols _ hm c hc).1, h.ok.pos _ hm c hc, (h.cols _ hm c hc).2⟩
  · rw [hn] at hc; cases hc
/-- The on-cell of what a row left for is the row's own. -/
theorem cell_cellL {l : List Co} {r : Ro} (e : r.cols = l) (hp : ∀ c ∈ l, 0 < c.cell.at_) : cellOf (cellL x r) x.on = cellOf l x.on := by
  subst e
  unfold cellL
  split
  · rename_i h
    rw [cellOf_get r.cols]
    cases h1 : getK kCo r.cols x.on.data.toList with
    | none => rfl
    | some c =>
      exfalso
      have := hp c (getK_mem h1).1
      rw [cellOf_get, h1] at h
      simp only [Option.map_some, Option.getD_some] at h
      omega
  · rw [cellOf_get]
    unfold getK
    rw [if_pos (show kCo ⟨x.on, cellOf r.cols x.on⟩ = x.on.data.toList from rfl)]
    rfl
theorem cellL_cols {p : Dp} (h : BsOk x p) (k : ByteArray) {r : Ro} (e : r.cols = (rowOf p.2 k).cols) : ∀ c ∈ cellL x r, kCo c ∈ nsK x ∧ 0 < c.cell.at_ ∧ c.cell.val ∈ valK := by
  intro c hc
  unfold cellL at hc
  split at hc
  · cases hc
  · rename_i h1
    rw [List.mem_singleton.1 hc]
    refine ⟨List.mem_cons_self .., ?_, ?_⟩
    · show 0 < (cellOf r.cols x.on).at_
      omega
    · show (cellOf r.cols x.on).val ∈ valK
      rw [e]
      exact cOf_val h k
theorem cellL_on (r : Ro) : ∀ c ∈ cellL x r, fOn x ns (kCo c) = true := by
  intro c hc
  unfold cellL at hc
  split at hc
  · cases hc
  · rw [List.mem_singleton.1 hc]
    unfold fOn kCo
    simp
theorem Ir.mirror {p : Dp} (h : BsOk x p) {i : Nat} (hi : i < 4) {a : ByteArray} {s : Ro} (hm : mOf x ns pk p (ik i) = some (a, s)) : Ir x ns pk a s := by
  obtain ⟨hb, rfl, rfl⟩ := mir_some hm
  obtain ⟨b1, b2, b3⟩ := bestB_at hb
  refine ⟨cOf_val h _, ⟨i, hi, rfl⟩, flt_up (h.ok.up _), fun c hc => row_cols h _ c (flt_mem hc), fun c hc => ?_, .inr ⟨by show 0 < (cOf x p (ik i)).at_; omega, rfl⟩, gOf_pos h.ok _, fun C _ _ _ d4 => ?_⟩
  · have := (List.mem_filter.1 hc).2
    unfold fOn
    rw [this]
    rfl
  · have := gOf_pos h.ok (ik i)
    have d4 : gOf p (ik i) < C.at_ := d4
    show 0 < C.at_
    omega
theorem Ir.left {p p' : Dp} (h : BsOk x p) (h' : BsOk x p') (hl : LeD p p') {i : Nat} (hi : i < 4) {a : ByteArray} {P : Ro} (hm : mOf x ns pk p (ik i) = some (a, P)) (hne : ∀ q, mOf x ns pk p' (ik i) = some q → a ≠ q.1) : Ir x ns pk a (leftRo x P (rowOf p'.2 (ik i)) p'.1) := by
  have d := Dl.left h.ok h'.ok hl hm hne
  obtain ⟨hb, ea, eP⟩ := mir_some hm
  refine ⟨by rw [ea]; exact cOf_val h _, ⟨i, hi, d.key⟩, d.up, cellL_cols h' (ik i) rfl, cellL_on _, .inl rfl, gOf_pos h'.ok (ik i), fun C d1 d2 d3 d4 => ?_⟩
  have hk := d.kind
  rcases hk with ⟨_, k2, _, _⟩ | ⟨_, k2⟩
  · exact absurd k2 (by show ¬ (0 : Int) < zeroCl.at_; decide)
  · refine k2 C d1 d2 ?_ d4
    have e : cellOf (cellL x (rowOf p'.2 (ik i))) x.on = cOf x p' (ik i) := cell_cellL rfl (h'.ok.cpos _)
    rw [← e]
    exact d3
end
end Go.Proofs.YtolkhjdododdaaaGreat
