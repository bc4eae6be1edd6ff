/- What the reference's Orphan brings back and shades is what delta's does (plain). -/
import Derived.Test.YtolkhjdododdaaaGreatDoorP40
import Derived.Test.YtolkhjdododdaaaGreatDoorP23
import Derived.Test.YtolkhjdododdaaaGreatDoorP37
set_option linter.unusedSimpArgs false
set_option linter.unusedVariables false
namespace Go.Proofs.YtolkhjdododdaaaGreatDoor
open Go Go.RowKit

theorem zero_joinC {c : Cl} (h : 0 < c.at_) : joinCl zeroCl c = c := by
 obtain ⟨v, d, a, f⟩ := c
 simp only at h
 unfold joinCl
 rw [if_pos]
 show or4 (cmpI 0 a) _ _ _ < 0
 have e : cmpI 0 a = -1 := by unfold cmpI; rw [if_pos (by omega)]
 rw [e]
 unfold or4
 simp
theorem offL_all {n : ByteArray} {l : List Co} (h : ∀ c ∈ l, (c.name.toList == n.toList) = false) : offL n l = l := by
 unfold offL
 exact List.filter_eq_self.2 fun c hc => by simp [bne, h c hc]
theorem cellOf_no {n : ByteArray} : ∀ {l : List Co}, (∀ c ∈ l, (c.name.toList == n.toList) = false) → cellOf l n = zeroCl
 | [], _ => rfl
 | c :: l, h => by
  unfold cellOf
  rw [h c (List.mem_cons_self ..), if_neg (by decide)]
  exact cellOf_no fun d hd => h d (List.mem_cons_of_mem _ hd)
theorem keyC_ne {a b : Co} (h : keyC a b ≠ 0) : (a.name.toList == b.name.toList) = false := by
 cases e : a.name.toList == b.name.toList with
 | false => rfl
 | true =>
  rw [ByteArray.toList_eq, ByteArray.toList_eq, beq_iff_eq] at e
  exact absurd (by unfold keyC; rw [e]; exact cmpB_self _) h
theorem keyC_same {a b : Co} (h : keyC a b = 0) : a.name = b.name := name_of (cmpB_zero h)
theorem merge_on {n : ByteArray} {c : Cl} (hc : 0 < c.at_) : ∀ {l : List Co}, Up kCo l → mergeCo l [⟨n, c⟩] = mergeCo (offL n l) [⟨n, joinCl (cellOf l n) c⟩]
 | [], _ => by
  show mergeG keyC joinCo [] [_] = mergeG keyC joinCo [] [_]
  rw [mergeG_nil_left, mergeG_nil_left]
  show _ = [(⟨n, joinCl zeroCl c⟩ : Co)]
  rw [zero_joinC hc]
 | a :: l, hu => by
  obtain ⟨h1, h2⟩ := List.pairwise_cons.1 hu
  rcases Int.lt_trichotomy (keyC a ⟨n, c⟩) 0 with hk | hk | hk
  ·have e : (a.name.toList == n.toList) = false := keyC_ne (b := ⟨n, c⟩) (by omega)
   have e1 : offL n (a :: l) = a :: offL n l := by
    unfold offL
    rw [List.filter_cons_of_pos (by simp [bne, e])]
   have e2 : cellOf (a :: l) n = cellOf l n := by
    conv => lhs; unfold cellOf
    rw [e, if_neg (by decide)]
   rw [e1, e2]
   show mergeG keyC joinCo (a :: l) [_] = mergeG keyC joinCo (a :: offL n l) [_]
   rw [mergeG_lt hk, mergeG_lt (show keyC a ⟨n, joinCl (cellOf l n) c⟩ < 0 from hk)]
   exact congrArg _ (merge_on hc h2)
  ·have en : a.name = n := keyC_same (b := ⟨n, c⟩) hk
   have hgt : ∀ d ∈ l, (d.name.toList == n.toList) = false := fun d hd => by
    have := h1 d hd
    refine keyC_ne (b := ⟨n, c⟩) fun h0 => ?_
    have e0 : d.name = n := keyC_same (b := ⟨n, c⟩) h0
    have : cmpB (kCo a) (kCo d) = 0 := by unfold kCo; rw [en, e0]; exact cmpB_self _
    omega
   have e1 : offL n (a :: l) = l := by
    unfold offL
    rw [List.filter_cons_of_neg (by simp [bne, en])]
    exact offL_all hgt
   have e2 : cellOf (a :: l) n = a.cell := by
    unfold cellOf
    rw [en]
    simp
   rw [e1, e2]
   show mergeG keyC joinCo (a :: l) [_] = mergeG keyC joinCo l [_]
   rw [mergeG_eq hk, mergeG_nil_right]
   have hl : (⟨n, joinCl a.cell c⟩ : Co) = joinCo a ⟨n, c⟩ := by unfold joinCo; rw [en]
   rw [hl]
   cases l with
   | nil => rw [mergeG_nil_left]
   | cons b l =>
    have hb := h1 b (List.mem_cons_self ..)
    rw [mergeG_gt (show 0 < keyC b (joinCo a ⟨n, c⟩) by
     have := cmpB_anti (kCo a) (kCo b)
     show 0 < cmpB (kCo b) (kCo a)
     omega), mergeG_nil_right]
  ·have hgt : ∀ d ∈ a :: l, (d.name.toList == n.toList) = false := fun d hd => by
    rcases List.mem_cons.1 hd with rfl | hd
    ·exact keyC_ne (b := ⟨n, c⟩) (by omega)
    ·have := h1 d hd
     refine keyC_ne (b := ⟨n, c⟩) fun h0 => ?_
     have e0 : d.name = n := keyC_same (b := ⟨n, c⟩) h0
     have h3 : cmpB (kCo a) (kCo d) = keyC a ⟨n, c⟩ := by unfold kCo keyC; rw [e0]
     omega
   rw [offL_all hgt, cellOf_no hgt, zero_joinC hc]
theorem merge_self {n : ByteArray} : ∀ {l : List Co}, Up kCo l → (∃ c ∈ l, c.name = n) → mergeCo (offL n l) [⟨n, cellOf l n⟩] = l
 | [], _, ⟨_, h, _⟩ => absurd h List.not_mem_nil
 | a :: l, hu, ⟨d, hd, hn⟩ => by
  obtain ⟨h1, h2⟩ := List.pairwise_cons.1 hu
  by_cases en : a.name = n
  ·have hgt : ∀ d ∈ l, (d.name.toList == n.toList) = false := fun d hd => by
    have := h1 d hd
    refine keyC_ne (b := ⟨n, zeroCl⟩) fun h0 => ?_
    have e0 : d.name = n := keyC_same (b := ⟨n, zeroCl⟩) h0
    have : cmpB (kCo a) (kCo d) = 0 := by unfold kCo; rw [en, e0]; exact cmpB_self _
    omega
   have e1 : offL n (a :: l) = l := by
    unfold offL
    rw [List.filter_cons_of_neg (by simp [bne, en])]
    exact offL_all hgt
   have e2 : (⟨n, cellOf (a :: l) n⟩ : Co) = a := by
    unfold cellOf
    rw [← en]
    simp
   rw [e1, e2]
   show mergeG keyC joinCo l [a] = a :: l
   cases l with
   | nil => rw [mergeG_nil_left]
   | cons b l =>
    have hb := h1 b (List.mem_cons_self ..)
    rw [mergeG_gt (show 0 < keyC b a by
     have := cmpB_anti (kCo a) (kCo b)
     show 0 < cmpB (kCo b) (kCo a)
     omega), mergeG_nil_right]
  ·have e : (a.name.toList == n.toList) = false := by
    cases e : a.name.toList == n.toList with
    | false => rfl
    | true =>
     rw [ByteArray.toList_eq, ByteArray.toList_eq, beq_iff_eq] at e
     exact absurd (ByteArray.ext (Array.toList_inj.1 e)) en
   have hdl : d ∈ l := by
    rcases List.mem_cons.1 hd with rfl | h
    ·exact absurd hn en
    ·exact h
   have e1 : offL n (a :: l) = a :: offL n l := by
    unfold offL
    rw [List.filter_cons_of_pos (by simp [bne, e])]
   have e2 : cellOf (a :: l) n = cellOf l n := by
    conv => lhs; unfold cellOf
    rw [e, if_neg (by decide)]
   rw [e1, e2]
   show mergeG keyC joinCo (a :: offL n l) [_] = a :: l
   have hk : keyC a ⟨n, cellOf l n⟩ < 0 := by
    have := h1 d hdl
    have h3 : keyC a ⟨n, cellOf l n⟩ = cmpB (kCo a) (kCo d) := by unfold kCo keyC; rw [hn]
    omega
   rw [mergeG_lt hk]
   exact congrArg _ (merge_self h2 ⟨d, hdl, hn⟩)
theorem cellOf_mem {n : ByteArray} : ∀ {l : List Co}, (∃ c ∈ l, c.name = n) → ∃ c ∈ l, cellOf l n = c.cell
 | [], ⟨_, h, _⟩ => absurd h List.not_mem_nil
 | a :: l, ⟨d, hd, hn⟩ => by
  unfold cellOf
  split
  ·exact ⟨a, List.mem_cons_self .., rfl⟩
  ·rename_i e
   rcases List.mem_cons.1 hd with rfl | h
   ·rw [hn] at e; simp at e
   ·obtain ⟨c, h1, h2⟩ := cellOf_mem ⟨d, h, hn⟩
    exact ⟨c, List.mem_cons_of_mem _ h1, h2⟩
theorem joinCl_at2 (x y : Cl) : x.at_ ≤ (joinCl x y).at_ ∧ y.at_ ≤ (joinCl x y).at_ := by
 have h : ∀ p q : Cl, 0 ≤ cmpCl p q → q.at_ ≤ p.at_ := fun p q h => by
  unfold cmpCl cmpC or4 cmpI at h
  split at h <;> (try split at h) <;> omega
 exact ⟨h _ _ (le_joinCl_left x y), h _ _ (le_joinCl_right x y)⟩
theorem kn19_is {x : Vw} {xk : ByteArray} {xg : Int} {r b : Ro} {g : Int} (hu : Up kCo r.cols) (hat : ∀ c ∈ r.cols, 0 < c.cell.at_) (hg : 0 ≤ max r.gone xg) : kn19 x xk xg r b g = knownRo x xk xg r b g := by
 have eg : (if max b.gone g < max r.gone xg then max r.gone xg else 0) = if max r.gone xg ≤ max b.gone g then 0 else max r.gone xg := by
  split <;> split <;> omega
 unfold kn19
 rw [eg]
 by_cases hl : 0 < r.live.at_
 ·have ho : on19 x xk r = joinCl (cellOf r.cols x.on) ⟨xk, false, r.live.at_, r.live.fin⟩ := by unfold on19; rw [if_pos hl]
  have h2 := (joinCl_at2 (cellOf r.cols x.on) ⟨xk, false, r.live.at_, r.live.fin⟩).2
  have h3 : 0 < (on19 x xk r).at_ := by rw [ho]; simp only at h2; omega
  rw [if_pos h3, ho, ← merge_on (c := ⟨xk, false, r.live.at_, r.live.fin⟩) hl hu]
  unfold knownRo
  rw [if_pos hl]
  unfold joinRo known0 onR
  simp only [joinCl_self]
  rw [show ∀ h : Int, 0 ≤ h → max h 0 = h from fun h hh => by omega, show max (0 : Int) 0 = 0 from rfl]
  split <;> omega
 ·have ho : on19 x xk r = cellOf r.cols x.on := by unfold on19; rw [if_neg hl]
  unfold knownRo known0
  rw [if_neg hl, ho]
  by_cases hx : ∃ c ∈ r.cols, c.name = x.on
  ·obtain ⟨c, hc, e⟩ := cellOf_mem hx
   have h0 : 0 < (cellOf r.cols x.on).at_ := by rw [e]; exact hat c hc
   simp only [h0, if_true, merge_self hu hx]
  ·have hno : ∀ c ∈ r.cols, (c.name.toList == x.on.toList) = false := fun c hc => by
    cases e : c.name.toList == x.on.toList with
    | false => rfl
    | true =>
     rw [ByteArray.toList_eq, ByteArray.toList_eq, beq_iff_eq] at e
     exact absurd ⟨c, hc, ByteArray.ext (Array.toList_inj.1 e)⟩ hx
   have h0 : ¬ 0 < zeroCl.at_ := by decide
   simp only [cellOf_no hno, offL_all hno, h0, if_false]
theorem backL19_is {x : Vw} {xk : ByteArray} {xg : Int} {r b : Ro} {g : Int} (hu : Up kCo r.cols) (hat : ∀ c ∈ r.cols, 0 < c.cell.at_) (hg : 0 ≤ r.gone) (hb : Up kCo b.cols) (hxg : xg = 0) : backL19 x xk xg g r b = backL x xk xg g r b := by
 subst hxg
 have hk := kn19_is (x := x) (xk := xk) (b := b) (g := g) hu hat (show 0 ≤ max r.gone 0 by omega)
 unfold backL19 backL
 rw [hk]
 obtain ⟨_, h2, h3, h4, _⟩ := known_parts (x := x) xk r b g hg
 have hku : Up kCo (knownRo x xk 0 r b g).cols := (known_up hg hu).1
 rw [foldRo_join hb hku, join_zero _ h2 h3 h4]
theorem rowOf_cup {l : List Ro} (h : ∀ r ∈ l, Up kCo r.cols) (key : ByteArray) : Up kCo (rowOf l key).cols := by
 induction l with
 | nil => exact List.Pairwise.nil
 | cons r l ih =>
  unfold rowOf
  split
  ·exact h r (List.mem_cons_self ..)
  ·exact ih fun s hs => h s (List.mem_cons_of_mem _ hs)
theorem back19_is {x : Vw} {xk : ByteArray} {g : Int} {base : List Ro} {cof : Ro → ByteArray} {l : List Ro} (hl : ∀ r ∈ l, Up kCo r.cols ∧ (∀ c ∈ r.cols, 0 < c.cell.at_) ∧ 0 ≤ r.gone) (hb : ∀ r ∈ base, Up kCo r.cols) : back19 x xk 0 g base cof l = backRs x xk 0 g base cof l := by
 unfold back19 backRs
 induction l with
 | nil => rfl
 | cons r l ih =>
  rw [List.flatMap_cons, List.flatMap_cons, ih fun s hs => hl s (List.mem_cons_of_mem _ hs)]
  obtain ⟨h1, h2, h3⟩ := hl r (List.mem_cons_self ..)
  rw [backL19_is h1 h2 h3 (rowOf_cup hb _) rfl]
end Go.Proofs.YtolkhjdododdaaaGreatDoor

/- The state of the law of Orphan, from step to step (plain). -/
namespace Go.Proofs.YtolkhjdododdaaaGreatDoor
open Go Go.RowKit

theorem xyz_val (i : Nat) (h : i < 3) : (⟨#[120, 121, 122]⟩ : ByteArray).extract i (i + 1) ∈ valK := by
 have e0 : (⟨#[120, 121, 122]⟩ : ByteArray).extract 0 1 = ⟨#[120]⟩ := ByteArray.ext (by decide)
 have e1 : (⟨#[120, 121, 122]⟩ : ByteArray).extract 1 2 = ⟨#[121]⟩ := ByteArray.ext (by decide)
 have e2 : (⟨#[120, 121, 122]⟩ : ByteArray).extract 2 3 = ⟨#[122]⟩ := ByteArray.ext (by decide)
 obtain rfl | rfl | rfl : i = 0 ∨ i = 1 ∨ i = 2 := by omega
 ·rw [e0]; simp [valK]
 ·rw [e1]; simp [valK]
 ·rw [e2]; simp [valK]
theorem cellN_val (n : Int) (h0 : 0 ≤ n) : (cellN n).val ∈ valK := by
 unfold cellN
 split
 ·exact List.mem_cons_self ..
 ·have e1 : (n / 28 % 3 + 1).toNat = (n / 28 % 3).toNat + 1 := by omega
  have := xyz_val (n / 28 % 3).toNat (by omega)
  rw [← e1] at this
  exact this
theorem GenCols.vals {k : Nat} {l : List Co} (h : GenCols k l) : ∀ c ∈ l, c.cell.val ∈ valK := by
 induction h with
 | nil => nofun
 | skip _ ih => exact ih
 | put _ hn ih =>
  intro c hc
  rcases List.mem_append.1 hc with hc | hc
  ·exact ih c hc
  ·rw [List.mem_singleton.1 hc]
   exact cellN_val _ hn
section
variable {x : Vw} {ns : List ByteArray} {pk : ByteArray}
theorem BsOk.nil : BsOk x (0, []) := ⟨nil_ok, nofun, nofun⟩
theorem BsOk.join {p q : Dp} (h : BsOk x p) (h' : BsOk x q) : BsOk x (joinD p q) ∧ LeD p (joinD p q) := by
 obtain ⟨h1, h2⟩ := joinD_le h.ok h'.ok
 refine ⟨⟨h1, fun r hr => ?_, fun r hr c hc => ?_⟩, h2⟩
 ·rcases mem_mergeRs hr with (hm | hm) | ⟨u, hu, v, hv, _, rfl⟩
  ·exact h.keys r hm
  ·exact h'.keys r hm
  ·exact h.keys u hu
 ·rcases mem_mergeRs hr with (hm | hm) | ⟨u, hu, v, hv, _, rfl⟩
  ·exact h.cols r hm c hc
  ·exact h'.cols r hm c hc
  ·rcases mem_mergeCo hc with (hm | hm) | ⟨c1, h1, c2, h2, _, rfl⟩
   ·exact h.cols u hu c hm
   ·exact h'.cols v hv c hm
   ·obtain ⟨n1, v1⟩ := h.cols u hu c1 h1
    obtain ⟨n2, v2⟩ := h'.cols v hv c2 h2
    rcases joinCl_or c1.cell c2.cell with e | e
    ·exact ⟨n1, by show (joinCl c1.cell c2.cell).val ∈ _; rw [e]; exact v1⟩
    ·exact ⟨n1, by show (joinCl c1.cell c2.cell).val ∈ _; rw [e]; exact v2⟩
theorem BsOk.small {p : Dp} (h : BsOk x p) : p.2.length ≤ 4 ∧ ∀ r ∈ p.2, r.cols.length ≤ 5 := by
 refine ⟨h.ok.good.1.len (K := [(ik 0).data.toList, (ik 1).data.toList, (ik 2).data.toList, (ik 3).data.toList]) fun r hr => ?_, fun r hr => ?_⟩
 ·obtain ⟨j, hj, e⟩ := h.keys r hr
  unfold kRo
  rw [e]
  obtain rfl | rfl | rfl | rfl : j = 0 ∨ j = 1 ∨ j = 2 ∨ j = 3 := by omega
  all_goals simp
 ·exact NmL.len (x := x) (fun c hc => (h.cols r hr c hc).1) (h.ok.good.2 r hr)
/-- A view has few partitions. -/
theorem VwS.few {V : Vi} (h : VwS x ns pk V) (hne : ∀ q ∈ V, q.2 ≠ []) : V.length ≤ 4 := by
 have h1 := nodup_len (m := valK) h.keys fun a ha => by
  obtain ⟨q, hq, rfl⟩ := List.mem_map.1 ha
  obtain ⟨y, hy⟩ := List.exists_mem_of_ne_nil _ (hne q hq)
  exact (h.ir q hq y hy).val
 simpa [valK] using h1
theorem merge_ne {l m : List Ro} (h : l ≠ []) : mergeRo l m ≠ [] := by
 intro e
 unfold mergeRo at e
 cases l with
 | nil => exact h rfl
 | cons a l =>
  cases m with
  | nil => unfold mergeG at e; cases e
  | cons b m =>
   unfold mergeG at e
   split at e
   ·cases e
   ·split at e
    ·cases e
    ·cases e
theorem putV_ne {V : Vi} {d : ByteArray × Ro} (h : ∀ q ∈ V, q.2 ≠ []) : ∀ q ∈ putV V d, q.2 ≠ [] := fun q hq => by
 rcases mem_putV hq with ⟨h1, _⟩ | rfl | ⟨rs, h1, rfl⟩
 ·exact h q h1
 ·exact List.cons_ne_nil _ _
 ·exact merge_ne (h _ h1)
theorem puts_ne : ∀ {l : List (ByteArray × Ro)} {V : Vi}, (∀ q ∈ V, q.2 ≠ []) → ∀ q ∈ l.foldl putV V, q.2 ≠ []
 | [], _, h => h
 | d :: l, V, h => puts_ne (l := l) (V := putV V d) (putV_ne h)
theorem putP_ne {V : Vi} {d : ByteArray × List Ro} (hm : d.1 ∈ V.map (·.1)) (h : ∀ q ∈ V, q.2 ≠ []) : ∀ q ∈ putP V d, q.2 ≠ [] := fun q hq => by
 rcases mem_putP hm hq with h1 | ⟨rs, h1, rfl⟩
 ·exact h q h1
 ·exact merge_ne (h _ h1)
/-- Keys stay where they are. -/
theorem puts_keys : ∀ {l : List (ByteArray × Ro)} {V : Vi}, V.map (·.1) <+: (l.foldl putV V).map (·.1)
 | [], V => List.prefix_refl _
 | d :: l, V => by
  refine List.IsPrefix.trans ?_ (puts_keys (l := l) (V := putV V d))
  rcases putV_keys V d with ⟨_, h1, _, _⟩ | ⟨h1, _⟩
  ·rw [h1]; exact List.prefix_refl _
  ·rw [h1]; exact List.prefix_append _ _
/-- A base and its view. -/
structure St (x : Vw) (ns : List ByteArray) (pk : ByteArray) (p : Dp) (V : Vi) : Prop where
 base : BsOk x p
 view : VwS x ns pk V
 has : HasM x ns pk p V
 ne : ∀ q ∈ V, q.2 ≠ []
theorem St.start : St x ns pk (0, []) [] := ⟨BsOk.nil, VwS.nil, HasM.nil, nofun⟩
/-- The view on its way: what a put needs to know. -/
structure OnW (x : Vw) (ns : List ByteArray) (pk : ByteArray) (V : Vi) : Prop where
 view : VwS x ns pk V
 ne : ∀ q ∈ V, q.2 ≠ []
theorem OnW.len {V : Vi} (h : OnW x ns pk V) : V.length ≤ 4 := h.view.few h.ne
theorem St.way {p : Dp} {V : Vi} (h : St x ns pk p V) : OnW x ns pk V := ⟨h.view, h.ne⟩
theorem St.step {p q : Dp} {V : Vi} (h : St x ns pk p V) (hq : BsOk x q) :
  (∀ j, OnW x ns pk (((stepL x ns pk p (joinD p q)).take j).foldl putV V)) ∧ St x ns pk (joinD p q) ((stepL x ns pk p (joinD p q)).foldl putV V) ∧ ∀ A, Fine x ns pk p V A → Fine x ns pk (joinD p q) ((stepL x ns pk p (joinD p q)).foldl putV V) A := by
 obtain ⟨hn, hle⟩ := h.base.join hq
 obtain ⟨h1, h2, h3⟩ := VwS.step h.base hn hle h.view h.has
 refine ⟨fun j => ⟨h1 j, puts_ne h.ne⟩, ⟨hn, ?_, h2, puts_ne h.ne⟩, h3⟩
 have := h1 (stepL x ns pk p (joinD p q)).length
 rw [List.take_length] at this
 exact this
/-- The first i partitions are gone through. -/
def Done (x : Vw) (ns : List ByteArray) (pk : ByteArray) (p : Dp) (V : Vi) (i : Nat) : Prop := Fine x ns pk p V fun a => a ∈ (V.map (·.1)).take i
theorem Done.zero (p : Dp) (V : Vi) : Done x ns pk p V 0 := fun q _ h => by rw [List.take_zero] at h; cases h
theorem Done.all {p : Dp} {V : Vi} {i : Nat} (hi : V.length ≤ i) (h : Done x ns pk p V i) : Fine x ns pk p V fun _ => True := fun q hq _ => h q hq (by
 rw [List.take_of_length_le (by simpa using hi)]
 exact List.mem_map.2 ⟨q, hq, rfl⟩)
theorem St.orph {p : Dp} {V : Vi} {i : Nat} (h : St x ns pk p V) (hd : Done x ns pk p V i) (hi : i < V.length) {p' : Dp} {sh : List Ro} (ep : p' = nextD x pk p V[i].1 V[i].2) (es : sh = shadeD x ns pk p V[i].1 V[i].2) :
  PB x ns pk p V[i].1 V[i].2 ∧ GoodRs sh ∧ OnW x ns pk (putP V (V[i].1, sh)) ∧ (∀ j, OnW x ns pk (((stepL x ns pk p p').take j).foldl putV (putP V (V[i].1, sh)))) ∧ St x ns pk p' ((stepL x ns pk p p').foldl putV (putP V (V[i].1, sh))) ∧ Done x ns pk p' ((stepL x ns pk p p').foldl putV (putP V (V[i].1, sh))) (i + 1) := by
 subst ep
 subst es
 have hmem : V[i] ∈ V := List.getElem_mem hi
 have hb : PB x ns pk p V[i].1 V[i].2 := ⟨h.base, h.view.good _ hmem, h.view.ir _ hmem⟩
 have ha : V[i].1 ∈ V.map (·.1) := List.mem_map.2 ⟨_, hmem, rfl⟩
 obtain ⟨hn, hle⟩ := hb.next
 obtain ⟨s1, s2⟩ := hb.shadeIr
 have same : ∀ q ∈ V, q.1 = V[i].1 → q = V[i] := fun q hq e => nodup_key h.view.keys hq hmem e
 obtain ⟨o1, o2, o3, o4⟩ := VwS.orph h.base hn hle h.view h.has ha s1 (fun s hs => (s2 s hs).1) (fun q hq e y hy k hk => hb.under (by rw [← same q hq e]; exact hy) hk) (fun s hs k hk => ⟨(s2 s hs).2.2 k hk, (s2 s hs).2.1⟩)
  (fun q hq e y hy k hk hm => hb.idle (by rw [← same q hq e]; exact hy) hk hm)
 have hne := putP_ne (d := (V[i].1, shadeD x ns pk p V[i].1 V[i].2)) ha h.ne
 refine ⟨hb, s1, ⟨o1, hne⟩, fun j => ⟨o2 j, puts_ne hne⟩, ⟨hn, ?_, o3, puts_ne hne⟩, ?_⟩
 ·have := o2 (stepL x ns pk p (nextD x pk p V[i].1 V[i].2)).length
  rw [List.take_length] at this
  exact this
 ·intro q hq hqa
  refine o4 _ hd q hq ?_
  have hpre := puts_keys (l := stepL x ns pk p (nextD x pk p V[i].1 V[i].2)) (V := putP V (V[i].1, shadeD x ns pk p V[i].1 V[i].2))
  rw [putP_keys (d := (V[i].1, shadeD x ns pk p V[i].1 V[i].2)) ha] at hpre
  obtain ⟨t, ht⟩ := hpre
  rw [← ht, List.take_append_of_le_length (by simp; omega), List.take_succ_eq_append_getElem (by simpa using hi)] at hqa
  rcases List.mem_append.1 hqa with h1 | h1
  ·exact .inl h1
  ·right
   have := List.mem_singleton.1 h1
   simpa using this
theorem St.seen {p : Dp} {V : Vi} (h : St x ns pk p V) (hon : fK ns x.on.data.toList = false) (hf : Fine x ns pk p V fun _ => True) (t : Int) :
  (∀ e, e ∈ seenV x V t ↔ e ∈ viewRs x ns pk p.1 t p.2) ∧ (seenV x V t).length = (viewRs x ns pk p.1 t p.2).length := fine_end h.base hon h.view h.has hf t
end
end Go.Proofs.YtolkhjdododdaaaGreatDoor

/- A view's rows by numbers: what is brought back and shaded rises, and is few (plain). -/
namespace Go.Proofs.YtolkhjdododdaaaGreatDoor
open Go Go.RowKit

theorem ik_small5 (i : Nat) (h : i < 4) : (ik i).size ≤ 10 ∧ (vkey ⟨#[109]⟩ (ik i)).size ≤ 400 := by
 obtain rfl | rfl | rfl | rfl : i = 0 ∨ i = 1 ∨ i = 2 ∨ i = 3 := by omega
 all_goals decide
/-- Rows of a view by numbers. -/
structure XRs (l : List Ro) : Prop where
 up : Up kRo l
 key : ∀ r ∈ l, ∃ i, i < 4 ∧ r.key = vkey ⟨#[109]⟩ (ik i)
 row : ∀ r ∈ l, NumRow r
 len : l.length ≤ 4
theorem XRs.of {m l : List Ro} (hm : GenRows 4 m) (hk : l.map Ro.key = m.map fun r => vkey ⟨#[109]⟩ r.key) (hr : ∀ r ∈ l, GenRow r) : XRs l := by
 have hmu : (m.map fun r => vkey ⟨#[109]⟩ r.key).Pairwise fun a b => cmpB a.data.toList b.data.toList < 0 := by
  refine List.pairwise_map.2 (List.Pairwise.imp (fun {a b} h => ?_) (hm.up (by decide)))
  rw [cmp_vkey]
  exact h
 rw [← hk] at hmu
 have hl : l.length = m.length := by have := congrArg List.length hk; simpa using this
 refine ⟨List.pairwise_map.1 hmu, fun r hr' => ?_, fun r h => (hr r h).num, by rw [hl]; exact hm.len⟩
 have h1 : r.key ∈ l.map Ro.key := List.mem_map_of_mem hr'
 rw [hk] at h1
 obtain ⟨q, hq, e⟩ := List.mem_map.1 h1
 obtain ⟨i, hi, e'⟩ := hm.key q hq
 exact ⟨i, hi, by rw [← e, e']⟩
section
variable {l : List Ro}
theorem XRs.cof (h : XRs l) {r : Ro} (hr : r ∈ l) : r.key = vkey ⟨#[109]⟩ (cofK ⟨#[109]⟩ r) ∧ (cofK ⟨#[109]⟩ r).size ≤ 1000000 ∧ (vkey ⟨#[109]⟩ (cofK ⟨#[109]⟩ r)).size ≤ 400 := by
 obtain ⟨h1, i, hi, e⟩ := cofK_spec (h.key r hr)
 have := ik_small5 i hi
 rw [← e] at this
 exact ⟨h1, by omega, this.2⟩
theorem XRs.ord (h : XRs l) : l.Pairwise fun r s => cmpB (cofK ⟨#[109]⟩ r).data.toList (cofK ⟨#[109]⟩ s).data.toList < 0 := by
 refine List.Pairwise.imp_of_mem (fun {r s} hr hs hlt => ?_) h.up
 have e1 := (h.cof hr).1
 have e2 := (h.cof hs).1
 unfold kRo at hlt
 rw [e1, e2, cmp_vkey] at hlt
 exact hlt
variable {x : Vw} {a : ByteArray} {g : Int} {base : List Ro}
theorem XRs.one (h : XRs l) {r : Ro} (hr : r ∈ l) {b : Ro} {q : Ro} (hq : q ∈ backL x a 0 g r b) : q = knownRo x a 0 r b g := by
 unfold backL at hq
 split at hq
 ·cases hq
 ·rw [List.mem_singleton.1 hq]
  obtain ⟨_, k2, k3, k4, _⟩ := known_parts (x := x) a r b g (h.row r hr).gone.1
  exact join_zero _ k2 k3 k4
theorem XRs.backUp (h : XRs l) : Up kRo (backRs x a 0 g base (cofK ⟨#[109]⟩) l) := by
 refine flat_up (g := fun r => (cofK ⟨#[109]⟩ r).data.toList) h.ord (fun r hr q hq => ?_) fun _ => backL_len ..
 rw [h.one hr hq]
 unfold kRo
 rw [(known_parts (x := x) a r _ _ (h.row r hr).gone.1).1, rowOf_is]
theorem XRs.mem_back (h : XRs l) {q : Ro} (hq : q ∈ backRs x a 0 g base (cofK ⟨#[109]⟩) l) : ∃ r ∈ l, q = knownRo x a 0 r (rowOf base (cofK ⟨#[109]⟩ r)) g := by
 obtain ⟨r, hr, hq⟩ := List.mem_flatMap.1 hq
 exact ⟨r, hr, h.one hr hq⟩
theorem XRs.backGood (h : XRs l) : GoodRs (backRs x a 0 g base (cofK ⟨#[109]⟩) l) :=
 ⟨h.backUp, fun q hq => by obtain ⟨r, hr, rfl⟩ := h.mem_back hq; exact (known_up (h.row r hr).gone.1 (h.row r hr).up).1⟩
theorem XRs.shadeUp (h : XRs l) {ns : List ByteArray} {B : List Ro} : Up kRo (shadeRs x ns a 0 ⟨#[109]⟩ g B (cofK ⟨#[109]⟩) l) := by
 refine flat_up (g := kRo) h.up (fun r hr q hq => ?_) fun _ => shadeL_len ..
 unfold shadeL at hq
 split at hq
 ·cases hq
 ·split at hq
  ·rw [List.mem_singleton.1 hq]; rfl
  ·cases hq
theorem XRs.is (h : XRs l) (hb : NumRs base) : back19 x a 0 g base (cofK ⟨#[109]⟩) l = backRs x a 0 g base (cofK ⟨#[109]⟩) l :=
 back19_is (fun r hr => ⟨(h.row r hr).up, fun c hc => ((h.row r hr).cols c hc).2.2, (h.row r hr).gone.1⟩) hb.good.2
theorem XRs.fold (h : XRs l) (hb : NumRs base) : foldG keyR foldRo base (back19 x a 0 g base (cofK ⟨#[109]⟩) l) = mergeRo base (backRs x a 0 g base (cofK ⟨#[109]⟩) l) := by
 rw [h.is hb, fold_merge hb.good h.backGood]
theorem XRs.all (h : XRs l) (hb : NumRs base) : ∀ L, L = foldG keyR foldRo base (back19 x a 0 g base (cofK ⟨#[109]⟩) l) → L.length ≤ 100 ∧ ∀ r ∈ L, r.cols.length ≤ 1000000 := by
 rintro L rfl
 have hc : ∀ q ∈ back19 x a 0 g base (cofK ⟨#[109]⟩) l, q.cols.length ≤ 9 := back19_cols fun r hr => by have := (h.row r hr).len; omega
 have hl := back19_len x a 0 g base (cofK ⟨#[109]⟩) l
 have h4 := h.len
 have hb4 := hb.len
 have hm := foldG_len keyR foldRo base (back19 x a 0 g base (cofK ⟨#[109]⟩) l)
 refine ⟨by omega, ?_⟩
 rw [h.fold hb]
 rw [h.is hb] at hc
 intro r hr
 rcases mem_mergeRs hr with (hm | hm) | ⟨u, hu, v, hv, _, rfl⟩
 ·have := (hb.row r hm).len; omega
 ·have := hc r hm; omega
 ·have h1 := (hb.row u hu).len
  have h2 := hc v hv
  have h3 := mergeCo_len u.cols v.cols
  show (mergeCo u.cols v.cols).length ≤ _
  omega
end
theorem deltaRs_few {x : Vw} {ns : List ByteArray} {ok nk : ByteArray} {og ng : Int} {old : List Ro} : ∀ (l : List Ro), (deltaRs x ns ok og nk ng old l).length ≤ 2 * l.length
 | [] => by simp [deltaRs]
 | r :: l => by
  have ih := deltaRs_few (x := x) (ns := ns) (ok := ok) (nk := nk) (og := og) (ng := ng) (old := old) l
  unfold deltaRs
  have h1 : ∀ m m', (stepD x ng r m m').length ≤ 2 := fun m m' => by
   unfold stepD
   repeat' split
   all_goals simp
  rw [List.length_append, List.length_cons]
  have := h1 (mirOf x ns ok og (rowOf old r.key)) (mirOf x ns nk ng r)
  omega
end Go.Proofs.YtolkhjdododdaaaGreatDoor
