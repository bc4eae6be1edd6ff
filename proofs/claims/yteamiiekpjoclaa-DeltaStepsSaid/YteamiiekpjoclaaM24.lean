/- Deltas mirror: what holds of all deltas so far against the base: plain law of one more step. -/
import Derived.Test.YteamiiekpjoclaaM23
import Derived.Test.YteamiiekpjoclaaM14
import Derived.Test.YteamiiekpjoclaaM22
namespace Go.Proofs.Yteamiiekpjoclaa
open Go Go.RowKit

/-- A base that may be: rising rows of rising columns, stamps above nought. -/
structure OkD (p : Dp) : Prop where
  good : GoodD p
  pos : ∀ r ∈ p.2, ∀ c ∈ r.cols, 0 < c.cell.at_
  gone : 0 ≤ p.1
section
variable (x : Vw) (ns : List ByteArray) (pk : ByteArray)
def gOf (p : Dp) (k : ByteArray) : Int := max (rowOf p.2 k).gone p.1
def cOf (p : Dp) (k : ByteArray) : Cl := cellOf (rowOf p.2 k).cols x.on
def mOf (p : Dp) (k : ByteArray) : Option (ByteArray × Ro) := mirOf x ns pk p.1 (rowOf p.2 k)
/-- A view's columns and the one that says where. -/
def fOn (k : List UInt8) : Bool := fK ns k || k == x.on.data.toList
noncomputable def stepL (p p' : Dp) : List (ByteArray × Ro) := deltaRs x ns pk p.1 pk p'.1 p.2 p'.2
/-- A delta of a key. -/
structure Dl (p : Dp) (k a : ByteArray) (s : Ro) : Prop where
  key : s.key = vkey pk k
  gone : s.gone ≤ gOf p k
  up : Up kCo s.cols
  cols : LeC s.cols (flt (fOn x ns) (rowOf p.2 k).cols)
  kind : (s.shade = 0 ∧ 0 < s.live.at_ ∧ s.live = ⟨⟨#[]⟩, false, s.live.at_, s.live.fin⟩ ∧ cmpCl ⟨a, false, s.live.at_, s.live.fin⟩ (cOf x p k) ≤ 0) ∨
    (s.live = zeroCl ∧ ∀ C : Cl, C.dead = false → C.val = a → cmpCl (cOf x p k) C ≤ 0 → gOf p k < C.at_ → s.shade < C.at_)
/-- All deltas of a key. -/
structure KInv (p : Dp) (D : List (ByteArray × Ro)) (k : ByteArray) : Prop where
  each : ∀ a s, (a, s) ∈ D → s.key = vkey pk k → Dl x ns pk p k a s
  mir : ∀ a R, mOf x ns pk p k = some (a, R) → (a, R) ∈ D
  live : ∀ a s, (a, s) ∈ D → s.key = vkey pk k → s.live.at_ ≤ 0 ∨ (∃ P, mOf x ns pk p k = some (a, P) ∧ s.live.at_ ≤ P.live.at_) ∨ ∃ s', (a, s') ∈ D ∧ s'.key = vkey pk k ∧ s.live.at_ ≤ s'.shade
end
/-- A base that has grown. -/
structure LeD (p p' : Dp) : Prop where
  cols : ∀ k, LeC (rowOf p.2 k).cols (rowOf p'.2 k).cols
  gone : ∀ k, gOf p k ≤ gOf p' k
  has : ∀ r ∈ p.2, ∃ r' ∈ p'.2, r'.key = r.key
section
variable {x : Vw} {ns : List ByteArray} {pk : ByteArray}
theorem OkD.up {p : Dp} (h : OkD p) (k : ByteArray) : Up kCo (rowOf p.2 k).cols := by
  rcases rowOf_or p.2 k with hm | hn
  · exact h.good.2 _ hm
  · rw [hn]; exact List.Pairwise.nil
theorem OkD.cpos {p : Dp} (h : OkD p) (k : ByteArray) : ∀ c ∈ (rowOf p.2 k).cols, 0 < c.cell.at_ := by
  rcases rowOf_or p.2 k with hm | hn
  · exact h.pos _ hm
  · rw [hn]; exact nofun
theorem OkD.le {p p' : Dp} (h : OkD p) (h' : OkD p') (hl : LeD p p') (k : ByteArray) : cmpCl (cOf x p k) (cOf x p' k) ≤ 0 := le_cell (h.up k) (h'.up k) (h'.cpos k) (hl.cols k) x.on
theorem joinD_le {p q : Dp} (h : OkD p) (h' : OkD q) : OkD (joinD p q) ∧ LeD p (joinD p q) := by
  have hr : ∀ k, rowOf (joinD p q).2 k = (optJ joinRo (getK kRo p.2 k.data.toList) (getK kRo q.2 k.data.toList)).getD ⟨k, zeroCl, 0, 0, []⟩ := fun k => by
    rw [rowOf_get]
    show (getK kRo (mergeRo p.2 q.2) _).getD _ = _
    rw [mergeRo_K, getK_merge kRo_join h.good.1 h'.good.1]
  refine ⟨⟨h.good.join h'.good, fun r hr c hc => ?_, ?_⟩, fun k => ?_, fun k => ?_, fun r hr => ?_⟩
  · rcases mem_mergeRs hr with (hm | hm) | ⟨a, ha, b, hb, _, rfl⟩
    · exact h.pos r hm c hc
    · exact h'.pos r hm c hc
    · rcases mem_mergeCo hc with (hm | hm) | ⟨u, hu, v, hv, _, rfl⟩
      · exact h.pos a ha c hm
      · exact h'.pos b hb c hm
      · have := (joinCl_at u.cell v.cell).1
        have := h.pos a ha u hu
        show 0 < (joinCl u.cell v.cell).at_
        omega
  · have := h.gone
    show 0 ≤ max p.1 q.1
    omega
  · rw [hr, rowOf_get]
    cases h1 : getK kRo p.2 k.data.toList with
    | none => exact leC_nil _
    | some a =>
      have ua := h.good.2 a (getK_mem h1).1
      cases h2 : getK kRo q.2 k.data.toList with
      | none => exact leC_refl ua
      | some b => exact leC_left ua (h'.good.2 b (getK_mem h2).1)
  · unfold gOf
    rw [hr, rowOf_get]
    show _ ≤ max _ (max p.1 q.1)
    have := h.gone
    cases h1 : getK kRo p.2 k.data.toList with
    | none =>
      simp only [Option.getD_none]
      omega
    | some a =>
      cases h2 : getK kRo q.2 k.data.toList with
      | none => simp only [optJ, Option.getD_some]; omega
      | some b =>
        show max a.gone p.1 ≤ max (max a.gone b.gone) (max p.1 q.1)
        omega
  · have h1 : getK kRo p.2 (kRo r) = some r := getK_of_mem h.good.1 hr
    have h2 := getK_merge (join := joinRo) kRo_join h.good.1 h'.good.1 (kRo r)
    rw [h1] at h2
    cases h3 : getK kRo q.2 (kRo r) with
    | none =>
      rw [h3] at h2
      exact ⟨r, (getK_mem h2).1, rfl⟩
    | some b =>
      rw [h3] at h2
      exact ⟨_, (getK_mem h2).1, rfl⟩
theorem mir_some {p : Dp} {k a : ByteArray} {R : Ro} (h : mOf x ns pk p k = some (a, R)) : bestB (cOf x p k) (gOf p k) = true ∧ a = (cOf x p k).val ∧ R = ⟨vkey pk k, ⟨⟨#[]⟩, false, (cOf x p k).at_, (cOf x p k).fin⟩, gOf p k, 0, flt (fK ns) (rowOf p.2 k).cols⟩ := by
  unfold mOf mirOf at h
  rw [rowOf_is, keeps_flt] at h
  by_cases hb : bestB (cellOf (rowOf p.2 k).cols x.on) (max (rowOf p.2 k).gone p.1) = true
  · rw [if_pos hb] at h
    cases h
    exact ⟨hb, rfl, rfl⟩
  · rw [if_neg hb] at h
    cases h
theorem mir_of {p : Dp} {k : ByteArray} (h : bestB (cOf x p k) (gOf p k) = true) : ∃ R, mOf x ns pk p k = some ((cOf x p k).val, R) := by
  unfold mOf mirOf
  exact ⟨_, if_pos (show bestB (cellOf (rowOf p.2 k).cols x.on) (max (rowOf p.2 k).gone p.1) = true from h)⟩
theorem mir_row {p : Dp} {k a : ByteArray} {R : Ro} (h : mOf x ns pk p k = some (a, R)) : rowOf p.2 k ∈ p.2 := by
  obtain ⟨hb, _⟩ := mir_some h
  rcases rowOf_or p.2 k with hm | hn
  · exact hm
  · unfold cOf at hb
    rw [hn] at hb
    have := (bestB_at hb).2.1
    cases this
theorem mem_step {p p' : Dp} {d : ByteArray × Ro} (ho : OkD p') : d ∈ stepL x ns pk p p' ↔ ∃ r' ∈ p'.2, d ∈ stepD x p'.1 (rowOf p'.2 r'.key) (mOf x ns pk p r'.key) (mOf x ns pk p' r'.key) := by
  unfold stepL
  have key : ∀ l : List Ro, (∀ r ∈ l, r ∈ p'.2) → (d ∈ deltaRs x ns pk p.1 pk p'.1 p.2 l ↔ ∃ r' ∈ l, d ∈ stepD x p'.1 (rowOf p'.2 r'.key) (mOf x ns pk p r'.key) (mOf x ns pk p' r'.key)) := by
    intro l
    induction l with
    | nil => intro _; simp [deltaRs]
    | cons r l ih =>
      intro hl
      have e : rowOf p'.2 r.key = r := rowOf_in ho.good.1 (hl r (List.mem_cons_self ..))
      unfold deltaRs
      rw [List.mem_append, ih fun r hr => hl r (List.mem_cons_of_mem _ hr)]
      unfold mOf
      constructor
      · rintro (h | ⟨r', hr', h⟩)
        · exact ⟨r, List.mem_cons_self .., by rw [e]; exact h⟩
        · exact ⟨r', List.mem_cons_of_mem _ hr', h⟩
      · rintro ⟨r', hr', h⟩
        rcases List.mem_cons.1 hr' with rfl | hr'
        · rw [e] at h; exact .inl h
        · exact .inr ⟨r', hr', h⟩
  exact key p'.2 fun r hr => hr
theorem stepD_some (g : Int) (r : Ro) (p q : ByteArray × Ro) : stepD x g r (some p) (some q) = if eqB p.1 q.1 = true then (if eqB p q = true then [] else [q]) else [(p.1, leftRo x p.2 r g), q] := rfl
/-- What a step adds of a row: its mirror, or what it left. -/
theorem mem_stepD {g : Int} {r : Ro} {m m' : Option (ByteArray × Ro)} {a : ByteArray} {s : Ro} (h : (a, s) ∈ stepD x g r m m') : m' = some (a, s) ∨ ∃ P, m = some (a, P) ∧ s = leftRo x P r g ∧ ∀ q, m' = some q → a ≠ q.1 := by
  cases m with
  | none =>
    cases m' with
    | none => cases h
    | some q => exact .inl (by rw [List.mem_singleton.1 h])
  | some p =>
    cases m' with
    | none =>
      have e := List.mem_singleton.1 h
      cases e
      exact .inr ⟨p.2, rfl, rfl, nofun⟩
    | some q =>
      rw [stepD_some] at h
      by_cases hk : p.1 = q.1
      · rw [if_pos (eqB_true hk)] at h
        split at h
        · cases h
        · exact .inl (by rw [List.mem_singleton.1 h])
      · rw [if_neg (by rw [eqB_false hk]; decide)] at h
        rcases List.mem_cons.1 h with e | h
        · cases e
          exact .inr ⟨p.2, rfl, rfl, fun q' e => by cases e; exact hk⟩
        · exact .inl (by rw [List.mem_singleton.1 h])
theorem step_mir {g : Int} {r : Ro} {m : Option (ByteArray × Ro)} {q : ByteArray × Ro} : m = some q ∨ q ∈ stepD x g r m (some q) := by
  cases m with
  | none => exact .inr (List.mem_cons_self ..)
  | some p =>
    rw [stepD_some]
    by_cases hk : p.1 = q.1
    · rw [if_pos (eqB_true hk)]
      by_cases he : p = q
      · exact .inl (by rw [he])
      · rw [if_neg (by rw [eqB_false he]; decide)]
        exact .inr (List.mem_cons_self ..)
    · rw [if_neg (by rw [eqB_false hk]; decide)]
      exact .inr (List.mem_cons_of_mem _ (List.mem_cons_self ..))
theorem step_left {g : Int} {r : Ro} {p : ByteArray × Ro} {m' : Option (ByteArray × Ro)} (h : ∀ q, m' = some q → p.1 ≠ q.1) : (p.1, leftRo x p.2 r g) ∈ stepD x g r (some p) m' := by
  cases m' with
  | none => exact List.mem_cons_self ..
  | some q =>
    rw [stepD_some, if_neg (by rw [eqB_false (h q rfl)]; decide)]
    exact List.mem_cons_self ..
theorem Dl.mono {p p' : Dp} {k a : ByteArray} {s : Ro} (ho : OkD p) (ho' : OkD p') (hl : LeD p p') (h : Dl x ns pk p k a s) : Dl x ns pk p' k a s := by
  have hc := ho.le ho' (x := x) hl k
  refine ⟨h.key, Int.le_trans h.gone (hl.gone k), h.up, leC_trans h.up (flt_up (ho.up k)) (flt_up (ho'.up k)) h.cols (leC_flt (ho.up k) (ho'.up k) (fun _ h => h) (hl.cols k)), ?_⟩
  rcases h.kind with ⟨h1, h2, h3, h4⟩ | ⟨h1, h2⟩
  · exact .inl ⟨h1, h2, h3, cmpCl_trans h4 hc⟩
  · exact .inr ⟨h1, fun C c1 c2 c3 c4 => h2 C c1 c2 (cmpCl_trans hc c3) (by have := hl.gone k; omega)⟩
theorem Dl.mirror {p : Dp} {k a : ByteArray} {s : Ro} (ho : OkD p) (h : mOf x ns pk p k = some (a, s)) : Dl x ns pk p k a s := by
  obtain ⟨hb, rfl, rfl⟩ := mir_some h
  obtain ⟨b1, b2, b3⟩ := bestB_at hb
  refine ⟨rfl, Int.le_refl _, flt_up (ho.up k), leC_flt (ho.up k) (ho.up k) (fun j hj => by unfold fOn; rw [hj]; rfl) (leC_refl (ho.up k)), .inl ⟨rfl, by show 0 < (cOf x p k).at_; omega, rfl, ?_⟩⟩
  have e : (⟨(cOf x p k).val, false, (cOf x p k).at_, (cOf x p k).fin⟩ : Cl) = cOf x p k := by rw [← b1]
  show cmpCl ⟨(cOf x p k).val, false, (cOf x p k).at_, (cOf x p k).fin⟩ (cOf x p k) ≤ 0
  rw [e, cmpCl_self]
  exact Int.le_refl _
theorem getK_one (c : Co) (k : List UInt8) : getK kCo [c] k = if kCo c = k then some c else none := rfl
theorem cellL_le {r : Ro} (hr : Up kCo r.cols) : Up kCo (cellL x r) ∧ LeC (cellL x r) (flt (fOn x ns) r.cols) := by
  unfold cellL
  split
  · exact ⟨List.Pairwise.nil, leC_nil _⟩
  · rename_i h
    refine ⟨List.pairwise_singleton _ _, ?_⟩
    rw [leC_get (List.pairwise_singleton _ _) (flt_up hr)]
    intro k
    rw [getK_flt, getK_one]
    by_cases hk : kCo ⟨x.on, cellOf r.cols x.on⟩ = k
    · rw [if_pos hk, ← hk]
      have hf : fOn x ns (kCo ⟨x.on, cellOf r.cols x.on⟩) = true := by unfold fOn kCo; simp
      rw [if_pos hf]
      show optJ joinCo (getK kCo r.cols x.on.data.toList) (some ⟨x.on, cellOf r.cols x.on⟩) = getK kCo r.cols x.on.data.toList
      cases h1 : getK kCo r.cols x.on.data.toList with
      | none =>
        exfalso
        apply h
        rw [cellOf_get, h1]
        decide
      | some y =>
        have e : cellOf r.cols x.on = y.cell := by rw [cellOf_get, h1]; rfl
        rw [e]
        show some (joinCo y ⟨x.on, y.cell⟩) = some y
        unfold joinCo
        simp only
        rw [joinCl_self]
    · rw [if_neg hk]
      cases (if fOn x ns k = true then getK kCo r.cols k else none) <;> rfl
theorem Dl.left {p p' : Dp} {k a : ByteArray} {P : Ro} (ho : OkD p) (ho' : OkD p') (hl : LeD p p') (h : mOf x ns pk p k = some (a, P)) (hne : ∀ q, mOf x ns pk p' k = some q → a ≠ q.1) : Dl x ns pk p' k a (leftRo x P (rowOf p'.2 k) p'.1) := by
  obtain ⟨hb, rfl, rfl⟩ := mir_some h
  obtain ⟨b1, b2, b3⟩ := bestB_at hb
  obtain ⟨u1, u2⟩ := cellL_le (x := x) (ns := ns) (ho'.up k)
  refine ⟨rfl, Int.le_refl _, u1, u2, .inr ⟨rfl, fun C c1 c2 c3 c4 => ?_⟩⟩
  show (cOf x p k).at_ < C.at_
  by_cases hlt : (cOf x p k).at_ < C.at_
  · exact hlt
  · exfalso
    have hc := ho.le ho' (x := x) hl k
    obtain ⟨e1, e2, e3, e4⟩ := between hc c3 (by omega) b1 c1 c2.symm
    have hb' : bestB (cOf x p' k) (gOf p' k) = true := by
      unfold bestB
      rw [e3, show decide ((cOf x p' k).at_ < 1) = false by simp; omega, show decide ((cOf x p' k).at_ ≤ gOf p' k) = false by simp; omega]
      rfl
    obtain ⟨R, hR⟩ := mir_of (ns := ns) (pk := pk) hb'
    exact hne _ hR e4.symm
/-- One more step. -/
theorem KInv.step {p p' : Dp} {D : List (ByteArray × Ro)} {k : ByteArray} (ho : OkD p) (ho' : OkD p') (hl : LeD p p') (h : KInv x ns pk p D k) : KInv x ns pk p' (D ++ stepL x ns pk p p') k := by
  have new : ∀ a s, (a, s) ∈ stepL x ns pk p p' → s.key = vkey pk k → mOf x ns pk p' k = some (a, s) ∨ ∃ P, mOf x ns pk p k = some (a, P) ∧ s = leftRo x P (rowOf p'.2 k) p'.1 ∧ ∀ q, mOf x ns pk p' k = some q → a ≠ q.1 := by
    intro a s hm hk
    obtain ⟨r', hr', hd⟩ := (mem_step ho').1 hm
    have hkk : r'.key = k := by
      rcases mem_stepD hd with e | ⟨P, e, rfl, _⟩
      · obtain ⟨_, _, rfl⟩ := mir_some e
        exact vkey_same hk
      · obtain ⟨_, _, rfl⟩ := mir_some e
        exact vkey_same hk
    rw [hkk] at hd
    exact mem_stepD hd
  have row : ∀ {d}, rowOf p'.2 k ∈ p'.2 → d ∈ stepD x p'.1 (rowOf p'.2 k) (mOf x ns pk p k) (mOf x ns pk p' k) → d ∈ stepL x ns pk p p' := by
    intro d hr hd
    exact (mem_step ho').2 ⟨_, hr, by rw [rowOf_is]; exact hd⟩
  refine ⟨fun a s hm hk => ?_, fun a R hm => ?_, fun a s hm hk => ?_⟩
  · rcases List.mem_append.1 hm with hm | hm
    · exact (h.each a s hm hk).mono ho ho' hl
    · rcases new a s hm hk with e | ⟨P, e, rfl, hne⟩
      · exact Dl.mirror ho' e
      · exact Dl.left ho ho' hl e hne
  · rcases step_mir (x := x) (g := p'.1) (r := rowOf p'.2 k) (m := mOf x ns pk p k) (q := (a, R)) with e | e
    · exact List.mem_append_left _ (h.mir a R e)
    · rw [← hm] at e
      exact List.mem_append_right _ (row (mir_row hm) e)
  · rcases List.mem_append.1 hm with hm | hm
    · rcases h.live a s hm hk with h1 | ⟨P, e, h1⟩ | ⟨s', hs', hk', h1⟩
      · exact .inl h1
      · right
        have leave : (∀ q, mOf x ns pk p' k = some q → a ≠ q.1) → ∃ s', (a, s') ∈ D ++ stepL x ns pk p p' ∧ s'.key = vkey pk k ∧ s.live.at_ ≤ s'.shade := by
          intro hne
          have hr := mir_row e
          obtain ⟨r', hr', hk'⟩ := hl.has _ hr
          rw [rowOf_is] at hk'
          have hin : rowOf p'.2 k ∈ p'.2 := by rw [← hk', rowOf_in ho'.good.1 hr']; exact hr'
          have hd := step_left (x := x) (g := p'.1) (r := rowOf p'.2 k) (p := (a, P)) (m' := mOf x ns pk p' k) hne
          rw [← e] at hd
          obtain ⟨_, _, hP⟩ := mir_some e
          exact ⟨_, List.mem_append_right _ (row hin hd), by rw [hP]; rfl, h1⟩
        cases hm' : mOf x ns pk p' k with
        | none => exact .inr (leave (by rw [hm']; exact nofun))
        | some q =>
          by_cases hq : a = q.1
          · obtain ⟨b, P'⟩ := q
            cases hq
            left
            refine ⟨P', rfl, ?_⟩
            obtain ⟨_, _, hP⟩ := mir_some e
            obtain ⟨_, _, hP'⟩ := mir_some hm'
            have := le_at (ho.le ho' (x := x) hl k)
            rw [hP'] 
            rw [hP] at h1
            exact Int.le_trans h1 this
          · exact .inr (leave fun q' e' => by rw [hm'] at e'; cases e'; exact hq)
      · exact .inr (.inr ⟨s', List.mem_append_left _ hs', hk', h1⟩)
    · rcases new a s hm hk with e | ⟨P, e, rfl, hne⟩
      · exact .inr (.inl ⟨s, e, Int.le_refl _⟩)
      · left
        show zeroCl.at_ ≤ 0
        decide
theorem KInv.start (k : ByteArray) : KInv x ns pk (0, []) [] k := ⟨nofun, (fun a R h => absurd (bestB_at (mir_some h).1).2.1 (by show ¬ (1 : Int) ≤ 0; decide)), nofun⟩
/-- Where keys of deltas come from. -/
theorem step_keys {p p' : Dp} (ho' : OkD p') {d : ByteArray × Ro} (h : d ∈ stepL x ns pk p p') : ∃ r ∈ p'.2, d.2.key = vkey pk r.key := by
  obtain ⟨r', hr', hd⟩ := (mem_step ho').1 h
  obtain ⟨a, s⟩ := d
  rcases mem_stepD hd with e | ⟨P, e, rfl, _⟩
  · obtain ⟨_, _, rfl⟩ := mir_some e
    exact ⟨r', hr', rfl⟩
  · obtain ⟨_, _, rfl⟩ := mir_some e
    exact ⟨r', hr', rfl⟩
end
end Go.Proofs.Yteamiiekpjoclaa

/- The reference's joins are the merges, of rows whose names and keys rise. -/
namespace Go.Proofs.Yteamiiekpjoclaa
open Go Go.RowKit

theorem mergeG_congr {α : Type} {cmp : α → α → Int} {j j' : α → α → α} {l m : List α} (h : ∀ a ∈ l, ∀ b ∈ m, j a b = j' a b) : mergeG cmp j l m = mergeG cmp j' l m := by
  fun_induction mergeG cmp j l m with
  | case1 m => rw [mergeG_nil_left]
  | case2 a l => rw [mergeG_nil_right]
  | case3 a l b m hc ih => rw [mergeG_lt hc, ih fun x hx y hy => h x (List.mem_cons_of_mem _ hx) y hy]
  | case4 a l b m hc hd ih => rw [mergeG_gt hd, ih fun x hx y hy => h x hx y (List.mem_cons_of_mem _ hy)]
  | case5 a l b m hc hd ih =>
    rw [mergeG_eq (by omega), ih fun x hx y hy => h x (List.mem_cons_of_mem _ hx) y (List.mem_cons_of_mem _ hy), h a (List.mem_cons_self ..) b (List.mem_cons_self ..)]
theorem foldRo_join {a b : Ro} (ha : Up kCo a.cols) (hb : Up kCo b.cols) : foldRo a b = joinRo a b := by
  unfold foldRo joinRo
  rw [show foldG keyC joinCo a.cols b.cols = mergeCo a.cols b.cols from foldK (κ := kCo) (fun _ => True) kCo_join (fun _ _ _ _ => trivial) (fun a b c _ _ _ _ _ => joinCo_assoc a b c) ha hb (fun _ _ => trivial) (fun _ _ => trivial)]
theorem up_joinRo {a b : Ro} (ha : Up kCo a.cols) (hb : Up kCo b.cols) : Up kCo (joinRo a b).cols := mergeCo_up ha hb
theorem fold_step : ∀ {m l : List Ro}, (∀ r ∈ l, Up kCo r.cols) → (∀ r ∈ m, Up kCo r.cols) → foldG keyR foldRo l m = foldG keyR joinRo l m
  | [], _, _, _ => rfl
  | c :: m, l, hl, hm => by
    have hc := hm c (List.mem_cons_self ..)
    have e : mergeG keyR foldRo l [c] = mergeG keyR joinRo l [c] := mergeG_congr fun a ha b hb => foldRo_join (hl a ha) (by rw [List.mem_singleton.1 hb]; exact hc)
    show foldG keyR foldRo (mergeG keyR foldRo l [c]) m = foldG keyR joinRo (mergeG keyR joinRo l [c]) m
    rw [e]
    refine fold_step (fun r hr => ?_) (fun r hr => hm r (List.mem_cons_of_mem _ hr))
    rcases mem_mergeI hr with h | h | ⟨a, ha, b, hb, _, rfl⟩
    · exact hl r h
    · rw [List.mem_singleton.1 h]; exact hc
    · rw [List.mem_singleton.1 hb]; exact up_joinRo (hl a ha) hc
theorem fold_merge {l m : List Ro} (hl : GoodRs l) (hm : GoodRs m) : foldG keyR foldRo l m = mergeRo l m := by
  rw [fold_step hl.2 hm.2]
  exact foldK (κ := kRo) (fun r => Up kCo r.cols) kRo_join (fun _ _ ha hb => up_joinRo ha hb) (fun a b c ha hb hc _ _ => joinRo_assoc ha hb hc) hl.1 hm.1 hl.2 hm.2
end Go.Proofs.Yteamiiekpjoclaa

/- A view that deltas are put into: what its rows are (plain law). -/
namespace Go.Proofs.Yteamiiekpjoclaa
open Go Go.RowKit

/-- A view: its partitions' keys and rows. -/
abbrev Vi := List (ByteArray × List Ro)
/-- A delta joined to a view. -/
def putV : Vi → ByteArray × Ro → Vi
  | [], d => [(d.1, [d.2])]
  | q :: V, d => if q.1.toList == d.1.toList then (q.1, mergeRo q.2 [d.2]) :: V else q :: putV V d
/-- Joins of some rows. -/
inductive Jd (S : Ro → Prop) : Ro → Prop
  | one {s : Ro} : S s → Jd S s
  | join {x s : Ro} : Jd S x → S s → x.key = s.key → Jd S (joinRo x s)
theorem Jd.mono {S T : Ro → Prop} (h : ∀ s, S s → T s) {x : Ro} (hx : Jd S x) : Jd T x := by
  induction hx with
  | one hs => exact .one (h _ hs)
  | join _ hs hk ih => exact .join ih (h _ hs) hk
theorem Jd.up {S : Ro → Prop} (h : ∀ s, S s → Up kCo s.cols) {x : Ro} (hx : Jd S x) : Up kCo x.cols := by
  induction hx with
  | one hs => exact h _ hs
  | join _ hs _ ih => exact mergeCo_up ih (h _ hs)
theorem Jd.under {S : Ro → Prop} {U : Ro} (hU : Up kCo U.cols) (h : ∀ s, S s → Up kCo s.cols) (hle : ∀ s, S s → joinRo U s = U) {x : Ro} (hx : Jd S x) : joinRo U x = U := by
  induction hx with
  | one hs => exact hle _ hs
  | join hx hs _ ih => rw [← joinRo_assoc hU (hx.up h) (h _ hs), ih, hle _ hs]
theorem Jd.at_le {S : Ro → Prop} {x : Ro} (hx : Jd S x) : ∃ s, S s ∧ x.live.at_ ≤ s.live.at_ := by
  induction hx with
  | one hs => exact ⟨_, hs, Int.le_refl _⟩
  | @join x s _ hs _ ih =>
    rcases joinCl_or x.live s.live with e | e
    · obtain ⟨t, ht, h⟩ := ih
      exact ⟨t, ht, by show (joinCl x.live s.live).at_ ≤ _; rw [e]; exact h⟩
    · exact ⟨s, hs, by show (joinCl x.live s.live).at_ ≤ _; rw [e]; exact Int.le_refl _⟩
/-- The view of the deltas P, all of D. -/
structure VInv (D P : List (ByteArray × Ro)) (V : Vi) : Prop where
  keys : (V.map (·.1)).Nodup
  good : ∀ q ∈ V, GoodRs q.2
  rows : ∀ q ∈ V, ∀ x ∈ q.2, Jd (fun s => (q.1, s) ∈ D ∧ s.key = x.key) x
  has : ∀ d ∈ P, ∃ q ∈ V, q.1 = d.1 ∧ ∃ x ∈ q.2, x.key = d.2.key ∧ joinRo x d.2 = x
theorem VInv.start (D : List (ByteArray × Ro)) : VInv D [] [] := ⟨List.nodup_nil, nofun, nofun, nofun⟩
theorem VInv.mono {D D' P : List (ByteArray × Ro)} {V : Vi} (h : ∀ d ∈ D, d ∈ D') (hv : VInv D P V) : VInv D' P V := ⟨hv.keys, hv.good, fun q hq x hx => (hv.rows q hq x hx).mono fun s hs => ⟨h _ hs.1, hs.2⟩, hv.has⟩
theorem VInv.few {D P P' : List (ByteArray × Ro)} {V : Vi} (h : ∀ d ∈ P', d ∈ P) (hv : VInv D P V) : VInv D P' V := ⟨hv.keys, hv.good, hv.rows, fun d hd => hv.has d (h d hd)⟩
theorem good_one {s : Ro} (h : Up kCo s.cols) : GoodRs [s] := ⟨List.pairwise_singleton _ _, fun r hr => by rw [List.mem_singleton.1 hr]; exact h⟩
theorem keyT {a b : ByteArray} : (a.toList == b.toList) = true ↔ a = b := by
  constructor
  · intro h
    exact bytes_ext (by simpa using h)
  · rintro rfl
    simp
theorem putV_keys (V : Vi) (d : ByteArray × Ro) : (∃ k, (putV V d).map (·.1) = V.map (·.1) ∧ k = d.1 ∧ d.1 ∈ V.map (·.1)) ∨ ((putV V d).map (·.1) = V.map (·.1) ++ [d.1] ∧ d.1 ∉ V.map (·.1)) := by
  induction V with
  | nil => exact .inr ⟨rfl, by simp⟩
  | cons q V ih =>
    unfold putV
    by_cases hk : (q.1.toList == d.1.toList) = true
    · rw [if_pos hk]
      exact .inl ⟨_, rfl, rfl, by rw [← keyT.1 hk]; exact List.mem_cons_self ..⟩
    · rw [if_neg hk]
      have hne : d.1 ≠ q.1 := fun e => hk (keyT.2 e.symm)
      rcases ih with ⟨k, h1, h2, h3⟩ | ⟨h1, h2⟩
      · exact .inl ⟨k, by rw [List.map_cons, h1]; rfl, h2, List.mem_cons_of_mem _ h3⟩
      · refine .inr ⟨by rw [List.map_cons, h1]; rfl, fun h => ?_⟩
        rcases List.mem_cons.1 h with h | h
        · exact hne h
        · exact h2 h
/-- What stands in a view that a delta was put into. -/
theorem mem_putV {V : Vi} {d : ByteArray × Ro} {q : ByteArray × List Ro} (h : q ∈ putV V d) : (q ∈ V ∧ (q.1 = d.1 → d.1 ∈ V.map (·.1))) ∨ q = (d.1, [d.2]) ∨ ∃ rs, (d.1, rs) ∈ V ∧ q = (d.1, mergeRo rs [d.2]) := by
  induction V with
  | nil => exact .inr (.inl (List.mem_singleton.1 h))
  | cons p V ih =>
    unfold putV at h
    by_cases hk : (p.1.toList == d.1.toList) = true
    · rw [if_pos hk] at h
      rcases List.mem_cons.1 h with e | h
      · obtain ⟨pk, pr⟩ := p
        have e2 := keyT.1 hk
        subst e2
        exact .inr (.inr ⟨pr, List.mem_cons_self .., e⟩)
      · exact .inl ⟨List.mem_cons_of_mem _ h, fun _ => by rw [← keyT.1 hk]; exact List.mem_cons_self ..⟩
    · rw [if_neg hk] at h
      rcases List.mem_cons.1 h with rfl | h
      · exact .inl ⟨List.mem_cons_self .., fun e => absurd (keyT.2 e) hk⟩
      · rcases ih h with ⟨h1, h2⟩ | h1 | ⟨rs, h1, h2⟩
        · exact .inl ⟨List.mem_cons_of_mem _ h1, fun e => List.mem_cons_of_mem _ (h2 e)⟩
        · exact .inr (.inl h1)
        · exact .inr (.inr ⟨rs, List.mem_cons_of_mem _ h1, h2⟩)
theorem putV_old {V : Vi} {d : ByteArray × Ro} (hn : (V.map (·.1)).Nodup) {q : ByteArray × List Ro} (h : q ∈ V) : if q.1 = d.1 then (q.1, mergeRo q.2 [d.2]) ∈ putV V d else q ∈ putV V d := by
  induction V with
  | nil => cases h
  | cons p V ih =>
    have hn' := List.nodup_cons.1 hn
    unfold putV
    by_cases hk : (p.1.toList == d.1.toList) = true
    · rw [if_pos hk]
      have e := keyT.1 hk
      rcases List.mem_cons.1 h with rfl | h
      · rw [if_pos e]; exact List.mem_cons_self ..
      · have hne : ¬ q.1 = d.1 := fun e' => hn'.1 (List.mem_map.2 ⟨q, h, e'.trans e.symm⟩)
        rw [if_neg hne]; exact List.mem_cons_of_mem _ h
    · rw [if_neg hk]
      rcases List.mem_cons.1 h with rfl | h
      · rw [if_neg fun e => hk (keyT.2 e)]; exact List.mem_cons_self ..
      · have := ih hn'.2 h
        split at this
        · rename_i e; rw [if_pos e]; exact List.mem_cons_of_mem _ this
        · rename_i e; rw [if_neg e]; exact List.mem_cons_of_mem _ this
theorem putV_new {V : Vi} {d : ByteArray × Ro} (h : d.1 ∉ V.map (·.1)) : (d.1, [d.2]) ∈ putV V d := by
  induction V with
  | nil => exact List.mem_cons_self ..
  | cons p V ih =>
    unfold putV
    have hne : ¬ (p.1.toList == d.1.toList) = true := fun e => h (List.mem_map.2 ⟨p, List.mem_cons_self .., keyT.1 e⟩)
    rw [if_neg hne]
    exact List.mem_cons_of_mem _ (ih fun h' => h (List.mem_cons_of_mem _ h'))
/-- The joined row in a merge. -/
theorem merge_has {rs : List Ro} {s : Ro} (hg : GoodRs rs) (hs : Up kCo s.cols) : ∃ y ∈ mergeRo rs [s], y.key = s.key ∧ joinRo y s = y := by
  have hgs := good_one hs
  have hk : getK kRo [s] (kRo s) = some s := getK_head _ _
  have h2 := getK_merge (join := joinRo) kRo_join hg.1 hgs.1 (kRo s)
  rw [hk, ← mergeRo_K] at h2
  cases h1 : getK kRo rs (kRo s) with
  | none =>
    rw [h1] at h2
    exact ⟨s, (getK_mem h2).1, rfl, joinRo_self hs⟩
  | some x =>
    rw [h1] at h2
    exact ⟨_, (getK_mem h2).1, key_of_k (getK_mem h2).2, joinRo_again (hg.2 x (getK_mem h1).1) hs⟩
theorem merge_keeps {rs : List Ro} {s x : Ro} (hg : GoodRs rs) (hs : Up kCo s.cols) (hx : x ∈ rs) : ∃ y ∈ mergeRo rs [s], y.key = x.key ∧ ∀ t : Ro, Up kCo t.cols → t.key = x.key → joinRo x t = x → joinRo y t = y := by
  have hgs := good_one hs
  have h1 : getK kRo rs (kRo x) = some x := getK_of_mem hg.1 hx
  have h2 := getK_merge (join := joinRo) kRo_join hg.1 hgs.1 (kRo x)
  rw [h1, ← mergeRo_K] at h2
  have ux := hg.2 x hx
  cases h3 : getK kRo [s] (kRo x) with
  | none =>
    rw [h3] at h2
    exact ⟨x, (getK_mem h2).1, rfl, fun t _ _ h => h⟩
  | some s' =>
    rw [h3] at h2
    have hs' : s' = s := List.mem_singleton.1 (getK_mem h3).1
    have hk := (getK_mem h3).2
    subst hs'
    refine ⟨_, (getK_mem h2).1, rfl, fun t ht hkt h => ?_⟩
    rw [joinRo_assoc ux hs ht, joinRo_comm (a := s') (b := t) (by rw [hkt]; exact key_of_k hk) hs ht, ← joinRo_assoc ux ht hs, h]
theorem VInv.put {D P : List (ByteArray × Ro)} {V : Vi} {d : ByteArray × Ro} (hD : ∀ e ∈ D, Up kCo e.2.cols) (hP : ∀ e ∈ P, e ∈ D) (hd : d ∈ D) (h : VInv D P V) : VInv D (P ++ [d]) (putV V d) := by
  have ud := hD d hd
  refine ⟨?_, fun q hq => ?_, fun q hq x hx => ?_, fun e he => ?_⟩
  · rcases putV_keys V d with ⟨_, h1, _, _⟩ | ⟨h1, h2⟩
    · rw [h1]; exact h.keys
    · rw [h1]
      exact List.nodup_append.2 ⟨h.keys, by simp, fun a ha b hb e => h2 (by rw [List.mem_singleton.1 hb] at e; rw [← e]; exact ha)⟩
  · rcases mem_putV hq with ⟨h1, _⟩ | rfl | ⟨rs, h1, rfl⟩
    · exact h.good q h1
    · exact good_one ud
    · exact (h.good _ h1).merge (good_one ud)
  · rcases mem_putV hq with ⟨h1, _⟩ | rfl | ⟨rs, h1, rfl⟩
    · exact h.rows q h1 x hx
    · rw [List.mem_singleton.1 hx]; exact .one ⟨hd, rfl⟩
    · rcases mem_mergeRs hx with (hm | hm) | ⟨a, ha, b, hb, hk, rfl⟩
      · exact h.rows _ h1 x hm
      · rw [List.mem_singleton.1 hm]; exact .one ⟨hd, rfl⟩
      · rw [List.mem_singleton.1 hb] at hk ⊢
        exact .join (h.rows _ h1 a ha) ⟨hd, hk.symm⟩ hk
  · rcases List.mem_append.1 he with he | he
    · obtain ⟨q, hq, hqk, x, hx, hxk, hj⟩ := h.has e he
      have old := putV_old (d := d) h.keys hq
      by_cases hqd : q.1 = d.1
      · rw [if_pos hqd] at old
        obtain ⟨y, hy, hyk, hyt⟩ := merge_keeps (h.good q hq) ud hx
        exact ⟨_, old, hqk, y, hy, by rw [hyk, hxk], hyt e.2 (hD e (hP e he)) hxk.symm hj⟩
      · rw [if_neg hqd] at old
        exact ⟨q, old, hqk, x, hx, hxk, hj⟩
    · rw [List.mem_singleton.1 he]
      by_cases hm : d.1 ∈ V.map (·.1)
      · obtain ⟨q, hq, hqk⟩ := List.mem_map.1 hm
        have old := putV_old (d := d) h.keys hq
        rw [if_pos hqk] at old
        obtain ⟨y, hy, hyk, hyt⟩ := merge_has (h.good q hq) ud
        exact ⟨_, old, hqk, y, hy, hyk, hyt⟩
      · exact ⟨_, putV_new hm, rfl, d.2, List.mem_cons_self .., rfl, joinRo_self ud⟩
end Go.Proofs.Yteamiiekpjoclaa
