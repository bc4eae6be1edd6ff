/- pack.cell, pack.row: cells and rows as bytes. -/
import Derived.Test.YtfagnbofnaoncaaGreatDoorP3
import Derived.Test.YtfagnbofnaoncaaGreatDoorP13
import Derived.Test.YtfagnbofnaoncaaGreatDoorP7
import Derived.Test.YtfagnbofnaoncaaGreatDoorP10
set_option linter.unusedSimpArgs false
set_option linter.unusedVariables false
namespace Go.Proofs.YtfagnbofnaoncaaGreatDoor
open Go Go.RowKit
attribute [local go_sem] yields yUpon

theorem ownB_shapeP {w : World} {B : Nat} {v : Value} {l : List UInt8} (h : OwnB w B v l) : ∃ a c, v = .slice a l.length c := by
  rcases h.2 with ⟨rfl, h0⟩ | ⟨g, cap, cur, rfl, _⟩
  · exact ⟨none, 0, by rw [h0]⟩
  · exact ⟨_, cap, rfl⟩
theorem dat_size (s : ByteArray) : s.data.toList.length = s.size := by rw [Array.length_toList]; rfl
/-- A cell's bytes. -/
def cellP (c : Cl) : List UInt8 := num c.at_.toNat ++ (if c.at_ = 0 then [] else if c.dead = true then [1] else [0] ++ num c.val.size ++ c.val.data.toList ++ num c.fin.toNat)
/-- No number below nought, no text too long. -/
structure OkC (c : Cl) : Prop where
  at0 : 0 ≤ c.at_
  at1 : c.at_ ≤ 1099511627776
  fin0 : 0 ≤ c.fin
  fin1 : c.fin ≤ 1099511627776
  val : c.val.size ≤ 1000
theorem cellP_le {c : Cl} (h : OkC c) : (cellP c).length ≤ 1028 := by
  obtain ⟨h0, h1, h2, h3, h4⟩ := h
  have l1 := num_length (x := c.at_.toNat) (by omega)
  have l2 := num_length (x := c.val.size) (by omega)
  have l3 := num_length (x := c.fin.toNat) (by omega)
  unfold cellP
  split
  · simp only [List.append_nil]; omega
  · split
    · simp only [List.length_append, List.length_cons, List.length_nil]; omega
    · simp only [List.length_append, List.length_cons, List.length_nil, dat_size]; omega

/-- One append of bytes N to bytes l of one's own. -/
def pB (l N : List UInt8) (i j : Nat) : Option (Nat × List Value × List Value) := if j = i then some (l.length, bcells l, bcells N) else none
theorem pB_none {l N : List UInt8} {i j : Nat} (h : j ≠ i) : pB l N i j = none := by unfold pB; rw [if_neg h]
theorem pB_self {l N : List UInt8} {i : Nat} : pB l N i i = some (l.length, bcells l, bcells N) := by unfold pB; rw [if_pos rfl]
theorem pB_some {l N : List UInt8} {i j k : Nat} {X M : List Value} (h : pB l N i j = some (k, X, M)) : j = i ∧ k = l.length ∧ X = bcells l ∧ M = bcells N := by
  unfold pB at h
  split at h
  · cases h; exact ⟨by assumption, rfl, rfl, rfl⟩
  · cases h
theorem NEb_long {S i j : Nat} {l N : List UInt8} {x y : World} (h : NE 5 1 S (pB l N i) j x y) {B : Nat} {v : Value} {L : List UInt8} (ho : OwnB x B v L) (hL : ∃ R, L = l ++ N ++ R) : OwnB y B v L := by
  obtain ⟨R, rfl⟩ := hL
  rcases h with ⟨_, h⟩ | ⟨k, X, M, hp, hA⟩
  · exact ho.ext h
  · obtain ⟨_, rfl, rfl, rfl⟩ := pB_some hp
    unfold OwnB at ho ⊢
    rw [bcells_append, bcells_append] at ho ⊢
    exact hA.keep_long (by rw [bcells_length, Nat.mul_one]) ho
theorem NEb_end {S i j : Nat} {l N : List UInt8} {x y : World} (hj : j ≠ i) (h : NE 5 1 S (pB l N i) j x y) {B : Nat} {v : Value} {L : List UInt8} (ho : OwnB x B v L) : OwnB y B v L := by
  rcases h with ⟨_, h⟩ | ⟨k, X, M, hp, hA⟩
  · exact ho.ext h
  · exact absurd (pB_some hp).1 hj
theorem NEb_box {S i j : Nat} {l N : List UInt8} {x y : World} (h : NE 5 1 S (pB l N i) j x y) {b : Nat} {cs : Array Value} {U : TypeId} (hU : U ≠ 5) (hb : BoxAt x b cs U) : BoxAt y b cs U :=
  NE_box h hb fun _ _ _ _ e => absurd e hU
theorem NEb_one {S i j : Nat} {l : List UInt8} {u : UInt8} {x y : World} (h : NE 5 1 S (pB l [u] i) j x y) {b : Nat} (hb : BoxAt x b #[.int .u8 (u.toNat : Int)] 5) : BoxAt y b #[.int .u8 (u.toNat : Int)] 5 :=
  NE_box h hb fun k' X' N' hp _ i' u' hu h1 h2 => by
    have hi : i' < 1 := by have := (Array.getElem?_eq_some_iff.1 hu).1; simpa using this
    obtain ⟨_, rfl, rfl, rfl⟩ := pB_some hp
    have hk0 : i' - l.length * 1 = 0 := by omega
    have hi0 : i' = 0 := by omega
    subst hi0
    rw [hk0]
    simpa [bcells] using hu

structure CelC (w : World) (q : Nat) (cs : Array Value) (v : Value) (l : List UInt8) (x : World) : Prop where
  ext : Ext w x
  box : BoxAt x q cs 55
  own : OwnB x w.heap.size v l
theorem CelC.grow {w : World} {q : Nat} {cs : Array Value} {v : Value} {l : List UInt8} {x y : World} (h : CelC w q cs v l x) (hE : Ext x y) : CelC w q cs v l y := ⟨h.ext.trans hE, h.box.ext hE, h.own.ext hE⟩
theorem CelC.app {w : World} {q : Nat} {cs : Array Value} {v : Value} {l : List UInt8} {M : List Value} {x y : World} (h : CelC w q cs v l x) (hA : AppE 5 1 w.heap.size l.length (bcells l) M x y) : CelC w q cs v l y :=
  ⟨hA.to (Nat.le_refl _) h.ext, hA.box h.box (fun e => absurd e (by decide)), hA.keep_short h.own (Nat.le_refl _)⟩

set_option maxRecDepth 100000 in
set_option maxHeartbeats 4000000 in
theorem pk_cell (v : Value) (l : List UInt8) (c : Cl) (hc : OkC c) (w : World) (hv : BytesIn w v l) (hl : l.length ≤ 900000000) :
    Calls Tryz.prog 236 #[v, .agg (cl4 c)] w fun e w' => ∃ v', e = .returned v' ∧ OwnB w' w.heap.size v' (l ++ cellP c) ∧ Ext w w' := by
  have hE0 := (Ext.refl w).alloc (.cells (cl4 c) 55)
  have hbx := BoxAt.made w (cl4 c) 55
  obtain ⟨val, dead, at_, fin⟩ := c
  obtain ⟨h0, h1, h2, h3, h4⟩ := hc
  simp only at h0 h1 h2 h3 h4
  unfold cl4 at *
  simp only at hbx hE0 ⊢
  have c2 : (w.alloc (.cells #[.string val, .bool dead, .int .i64 at_, .int .i64 fin] 55)).cell? ⟨w.heap.size, 2, none⟩ = some (.int .i64 at_) := hbx.cell 2
  have l1 := num_length (x := at_.toNat) (by omega)
  have l2 := num_length (x := val.size) (by omega)
  obtain ⟨M, hM⟩ : ∃ M, M = l ++ num at_.toNat := ⟨_, rfl⟩
  have hMl : M.length ≤ 900000009 := by rw [hM, List.length_append]; omega
  have HM := Lib.hid hM
  clear hM
  by_cases e0 : at_ = 0
  · subst e0
    have HP : Hid (l ++ cellP ⟨val, dead, 0, fin⟩ = M) := Lib.hid (by rw [HM.out]; unfold cellP; rw [if_pos rfl, List.append_nil])
    rw [HP.out]
    go_enter Tryz.func236, Tryz.ntmps236
    go_wp2_with (go_at_call 227; go_must (refine (pk_number v l 0 h0 (by omega) _ (hv.ext hE0) (by omega)).mono ?_); rintro e w1 ⟨v1, rfl, ho1, hE1⟩; rw [← HM.out] at ho1; have ho1' := ho1; obtain ⟨a1, n1, rfl⟩ := ownB_shapeP ho1'; have hb1 := hbx.ext hE1; have d2 : w1.cell? ⟨w.heap.size, 2, none⟩ = some (.int .i64 0) := hb1.cell 2)
    go_ret
    exact ⟨_, rfl, ho1.base hE0.le, hE0.trans hE1⟩
  · by_cases ed : dead = true
    · subst ed
      have HP : Hid (l ++ cellP ⟨val, true, at_, fin⟩ = M ++ [1]) := Lib.hid (by rw [HM.out]; unfold cellP; rw [if_neg e0, if_pos rfl, List.append_assoc])
      rw [HP.out]
      go_enter Tryz.func236, Tryz.ntmps236
      go_wp2_with (first
        | (go_at_call 227; go_must (refine (pk_number v l at_ h0 (by omega) _ (hv.ext hE0) (by omega)).mono ?_); rintro e w1 ⟨v1, rfl, ho1, hE1⟩; rw [← HM.out] at ho1; have ho1' := ho1; obtain ⟨a1, n1, rfl⟩ := ownB_shapeP ho1'; have hb1 := hbx.ext hE1; have d1 : w1.cell? ⟨w.heap.size, 1, none⟩ = some (.bool true) := hb1.cell 1; have d2 : w1.cell? ⟨w.heap.size, 2, none⟩ = some (.int .i64 at_) := hb1.cell 2)
        | (at_builtin; go_must (refine appB w1 rfl (.tmp 17) (.tmp 18) rfl w (hE0.trans hE1) _ M _ [1] (csb 1) (by simp) rfl (Tip.own (ho1.base hE0.le)) _ rfl rfl (by simp; omega) ?_); intro v2 w2 ho2 hE2))
      go_ret
      exact ⟨_, rfl, ho2, hE2⟩
    · obtain rfl : dead = false := by simpa using ed
      have HP : Hid (l ++ cellP ⟨val, false, at_, fin⟩ = M ++ [0] ++ num val.size ++ val.data.toList ++ num fin.toNat) := Lib.hid (by rw [HM.out]; unfold cellP; rw [if_neg e0, if_neg (by simp)]; simp only [List.append_assoc])
      obtain ⟨M2, hM2⟩ : ∃ X, X = M ++ [0] ++ num val.size ++ val.data.toList := ⟨_, rfl⟩
      have hM2l : M2.length ≤ 900002009 := by rw [hM2]; simp only [List.length_append, List.length_cons, List.length_nil, dat_size]; omega
      have hM2R : ∃ R, M2 = M ++ [0] ++ R := ⟨num val.size ++ val.data.toList, by rw [hM2]; simp only [List.append_assoc]⟩
      have hM3R : ∃ R, M2 ++ num fin.toNat = M ++ [0] ++ R := ⟨num val.size ++ val.data.toList ++ num fin.toNat, by rw [hM2]; simp only [List.append_assoc]⟩
      have HM2 := Lib.hid hM2
      obtain ⟨M1, hM1⟩ : ∃ X, X = M ++ [0] := ⟨_, rfl⟩
      have hM1l : M1.length ≤ 900000010 := by rw [hM1]; simp only [List.length_append, List.length_cons, List.length_nil]; omega
      have HM1 := Lib.hid hM1
      clear hM1
      obtain ⟨M3, hM3⟩ : ∃ X, X = M2 ++ num fin.toNat := ⟨_, rfl⟩
      have HM3 := Lib.hid hM3
      rw [← hM2, ← hM3] at HP
      rw [← hM3] at hM3R
      clear hM2 hM3
      rw [HP.out]
      go_enter Tryz.func236, Tryz.ntmps236
      go_wp2_with (go_at_call 227; go_must (refine (pk_number v l at_ h0 (by omega) _ (hv.ext hE0) (by omega)).mono ?_); rintro e w1 ⟨v1, rfl, ho1, hE1⟩; rw [← HM.out] at ho1; have ho1' := ho1; obtain ⟨a1, n1, rfl⟩ := ownB_shapeP ho1'; have hb1 := hbx.ext hE1; have d1 : w1.cell? ⟨w.heap.size, 1, none⟩ = some (.bool false) := hb1.cell 1; have d2 : w1.cell? ⟨w.heap.size, 2, none⟩ = some (.int .i64 at_) := hb1.cell 2)
      have hC0 : CelC w w.heap.size #[.string val, .bool false, .int .i64 at_, .int .i64 fin] (.slice a1 M.length n1) M w1.drew := CelC.grow ⟨hE0.trans hE1, hb1, ho1.base hE0.le⟩ (Ext.refl w1).drew
      refine wp_region_relE (CelC w w.heap.size #[.string val, .bool false, .int .i64 at_, .int .i64 fin] (.slice a1 M.length n1) M) (NE 5 1 w.heap.size (pB M [0] 2))
        (Tab.atE [(0, fun v _ => v = .slice a1 M.length n1), (1, fun v x => ∃ bb, v = .slice (some ⟨bb, 0, none⟩) 1 1 ∧ BoxAt x bb #[.int .u8 ((0 : UInt8).toNat : Int)] 5), (2, fun v x => OwnB x w.heap.size v M1), (3, fun v _ => v = .pointer (some ⟨w.heap.size, 0, none⟩)), (4, fun v _ => v = .string val), (5, fun v x => OwnB x w.heap.size v M2), (6, fun v _ => v = .pointer (some ⟨w.heap.size, 3, none⟩)), (7, fun v _ => v = .int .i64 fin), (8, fun v x => OwnB x w.heap.size v M3)])
        (Tab.staysE ⟨fun _ _ _ _ _ _ h => h, fun j hj v x y hR ⟨bb, e, hx⟩ => ⟨bb, e, NEb_one hR hx⟩, fun j hj v x y hR hx => NEb_end hj hR hx, fun _ _ _ _ _ _ h => h, fun _ _ _ _ _ _ h => h, fun j hj v x y hR hx => NEb_long hR hx hM2R, fun _ _ _ _ _ _ h => h, fun _ _ _ _ _ _ h => h, fun j hj v x y hR hx => NEb_long hR hx hM3R, trivial⟩)
        9 (by kernel_rfl) (by kernel_rfl) (by kernel_rfl) hC0 ?_
      refine relE_val [] rfl rfl rfl (by kernel_rfl) (fun y hy hf => ?_) ?_
      · go_simp
        exact ⟨hy, NE_ext rfl (Ext.refl y), rfl⟩
      simp only [Act.put, List.setIfInBounds_toArray, List.set_cons_zero, List.set_cons_succ]
      refine relE_fact [] rfl rfl rfl (by kernel_rfl) (fun y hy hf => ?_) (fun v3 y3 hC3 hG3 h3 => ?_)
      · go_simp
        exact ⟨hy.grow ((Ext.refl y).alloc _), NE_ext rfl ((Ext.refl y).alloc _), _, rfl, BoxAt.made y _ _⟩
      obtain ⟨b3, rfl, _⟩ := h3
      clear hC3 hG3
      simp only [Act.put, List.setIfInBounds_toArray, List.set_cons_zero, List.set_cons_succ]
      refine relE_fact [1] rfl rfl rfl (by kernel_rfl) (fun y hy hf => ?_) (fun v4 y4 hC4 hG4 h4 => ?_)
      · obtain ⟨bb, e, hx⟩ := (hf 1 (by simp)).2 rfl
        cases e
        have hin : SliceIn y (.slice (some ⟨b3, 0, none⟩) 1 1) 1 (bcells [0]) := ⟨_, _, rfl, Nat.le_refl _, by unfold maxLen; omega, nofun, fun j u hj => ⟨b3, 0, rfl, by rw [Nat.zero_add, hx.cell j]; simpa [bcells] using hj⟩⟩
        refine yields_app info_u8 und_bytes rfl (by decide) (.tmp 20) (.tmp 21) rfl w.heap.size hy.ext.le _ M.length (bcells M) hy.own (by rfl) hin (by rfl) rfl (by simp [bcells, Value.oneCell']) (by unfold maxLen; omega) (by omega) ?_
        intro v' y' ho' hA' _
        refine ⟨hy.app hA', NE_app pB_self hA', ?_⟩
        unfold OwnB
        rw [HM1.out, bcells_append, List.length_append]
        exact ho'
      have h4' := h4
      obtain ⟨a4, c4, rfl⟩ := ownB_shapeP h4'
      clear hC4 hG4 h4 h4'
      simp only [Act.put, List.setIfInBounds_toArray, List.set_cons_zero, List.set_cons_succ]
      refine relE_val [] rfl rfl rfl (by kernel_rfl) (fun y hy hf => ?_) ?_
      · go_simp
        exact ⟨hy, NE_ext rfl (Ext.refl y), rfl⟩
      simp only [Act.put, List.setIfInBounds_toArray, List.set_cons_zero, List.set_cons_succ]
      refine relE_val [] rfl rfl rfl (by kernel_rfl) (fun y hy hf => ?_) ?_
      · have z0 : y.cell? ⟨w.heap.size, 0, none⟩ = some (.string val) := hy.box.cell 0
        go_simp
        exact ⟨hy, NE_ext rfl (Ext.refl y), rfl⟩
      simp only [Act.put, List.setIfInBounds_toArray, List.set_cons_zero, List.set_cons_succ]
      refine relE_fact [2] rfl rfl rfl (by kernel_rfl) (fun y hy hf => ?_) (fun v5 y5 hC5 hG5 h5 => ?_)
      · have h2 := (hf 2 (by simp)).2 rfl
        go_simp
        refine (pk_text _ M1 val (by omega) y (OwnB.bytes h2) (by omega)).mono ?_
        rintro e w' ⟨v', rfl, ho, hw⟩
        exact ⟨_, rfl, hy.grow hw, NE_ext rfl hw, by rw [HM2.out, ← HM1.out]; exact ho.base hy.ext.le⟩
      have h5' := h5
      obtain ⟨a5, c5, rfl⟩ := ownB_shapeP h5'
      clear hC5 hG5 h5 h5'
      simp only [Act.put, List.setIfInBounds_toArray, List.set_cons_zero, List.set_cons_succ]
      refine relE_val [] rfl rfl rfl (by kernel_rfl) (fun y hy hf => ?_) ?_
      · go_simp
        exact ⟨hy, NE_ext rfl (Ext.refl y), rfl⟩
      simp only [Act.put, List.setIfInBounds_toArray, List.set_cons_zero, List.set_cons_succ]
      refine relE_val [] rfl rfl rfl (by kernel_rfl) (fun y hy hf => ?_) ?_
      · have z3 : y.cell? ⟨w.heap.size, 3, none⟩ = some (.int .i64 fin) := hy.box.cell 3
        go_simp
        exact ⟨hy, NE_ext rfl (Ext.refl y), rfl⟩
      simp only [Act.put, List.setIfInBounds_toArray, List.set_cons_zero, List.set_cons_succ]
      refine relE_fact [5] rfl rfl rfl (by kernel_rfl) (fun y hy hf => ?_) (fun v8 y8 hC8 hG8 h8 => ?_)
      · have h5 := (hf 5 (by simp)).2 rfl
        go_simp
        refine (pk_number _ M2 fin (by omega) (by omega) y (OwnB.bytes h5) (by omega)).mono ?_
        rintro e w' ⟨v', rfl, ho, hw⟩
        exact ⟨_, rfl, hy.grow hw, NE_ext rfl hw, by rw [HM3.out]; exact ho.base hy.ext.le⟩
      have h8' := h8
      obtain ⟨a8, c8, rfl⟩ := ownB_shapeP h8'
      clear hC8 hG8 h8 h8'
      simp only [Act.put, List.setIfInBounds_toArray, List.set_cons_zero, List.set_cons_succ]
      refine relE_tail rfl rfl fun w9 hC9 hG => ?_
      have h15 := (hG 8).2 rfl
      clear hG
      go_wp2
      go_ret
      exact ⟨_, rfl, h15, hC9.ext⟩
/-- A column's bytes; a row's. -/
def colP (c : Co) : List UInt8 := num c.name.size ++ c.name.data.toList ++ cellP c.cell
def rowP (r : Ro) : List UInt8 := num r.key.size ++ r.key.data.toList ++ cellP r.live ++ num r.gone.toNat ++ num r.shade.toNat ++ num r.cols.length ++ r.cols.flatMap colP
structure OkCo (c : Co) : Prop where
  name : c.name.size ≤ 1000
  cell : OkC c.cell
structure OkR (r : Ro) : Prop where
  key : r.key.size ≤ 1000
  live : OkC r.live
  gone0 : 0 ≤ r.gone
  gone1 : r.gone ≤ 1099511627776
  shade0 : 0 ≤ r.shade
  shade1 : r.shade ≤ 1099511627776
  many : r.cols.length ≤ 100
  cols : ∀ c ∈ r.cols, OkCo c
theorem colP_le {c : Co} (h : OkCo c) : (colP c).length ≤ 2037 := by
  have l1 := num_length (x := c.name.size) (by have := h.name; omega)
  have l2 := cellP_le h.cell
  have := h.name
  unfold colP
  simp only [List.length_append, dat_size]
  omega
theorem flat_le {α : Type} {f : α → List UInt8} {n : Nat} : ∀ {l : List α}, (∀ c ∈ l, (f c).length ≤ n) → (l.flatMap f).length ≤ l.length * n
  | [], _ => by simp
  | c :: l, h => by
    have h1 := h c (List.mem_cons_self ..)
    have h2 := flat_le (f := f) (n := n) (l := l) (fun d hd => h d (List.mem_cons_of_mem _ hd))
    rw [List.flatMap_cons, List.length_append, List.length_cons, Nat.succ_mul]
    omega
theorem rowP_le {r : Ro} (h : OkR r) : (rowP r).length ≤ 300000 := by
  obtain ⟨h1, h2, h3, h4, h5, h6, h7, h8⟩ := h
  have l1 := num_length (x := r.key.size) (by omega)
  have l2 := cellP_le h2
  have l3 := num_length (x := r.gone.toNat) (by omega)
  have l4 := num_length (x := r.shade.toNat) (by omega)
  have l5 := num_length (x := r.cols.length) (by omega)
  have l6 := flat_le (f := colP) (fun c hc => colP_le (h8 c hc))
  unfold rowP
  simp only [List.length_append, dat_size]
  omega
theorem flat_take {α : Type} {f : α → List UInt8} {l : List α} {k : Nat} {M : α} {R : List α} (hd : l.drop k = M :: R) : (l.take (k + 1)).flatMap f = (l.take k).flatMap f ++ f M := by
  have hk : k < l.length := by
    rcases Nat.lt_or_ge k l.length with h | h
    · exact h
    · rw [List.drop_eq_nil_of_le h] at hd; cases hd
  have e : l[k] = M := by rw [List.drop_eq_getElem_cons hk] at hd; exact (List.cons.inj hd).1
  rw [List.take_succ_eq_append_getElem hk, e, List.flatMap_append, List.flatMap_cons, List.flatMap_nil, List.append_nil]

set_option maxRecDepth 100000 in
set_option maxHeartbeats 8000000 in
theorem pk_row (v : Value) (l : List UInt8) (r : Ro) (u : Value) (hr : OkR r) (w : World) (hin : ColsIn w u r.cols) (hv : BytesIn w v l) (hl : l.length ≤ 500000000) :
    Calls Tryz.prog 229 #[v, (.agg #[.string r.key, .string r.live.val, .bool r.live.dead, .int .i64 r.live.at_, .int .i64 r.live.fin, .int .i64 r.gone, .int .i64 r.shade, u])] w fun e w' => ∃ v', e = .returned v' ∧ OwnB w' w.heap.size v' (l ++ rowP r) ∧ Ext w w' := by
  have hE0 := (Ext.refl w).alloc (.cells (ro8 r u) 58)
  have hbx := BoxAt.made w (ro8 r u) 58
  obtain ⟨au, cu, rfl, hcu, hcum, hget⟩ := hin.get
  obtain ⟨k1, k2, k3, k4, k5, k6, k7, k8⟩ := hr
  obtain ⟨key, live, gone, shade, cols⟩ := r
  obtain ⟨val, dead, at_, fin⟩ := live
  simp only at k1 k2 k3 k4 k5 k6 k7 k8 hget hcu
  have l1 := num_length (x := key.size) (by omega)
  have l2 := cellP_le k2
  have l3 := num_length (x := gone.toNat) (by omega)
  have l4 := num_length (x := shade.toNat) (by omega)
  have l5 := num_length (x := cols.length) (by omega)
  obtain ⟨B1, hB1⟩ : ∃ B, B = l ++ num key.size ++ key.data.toList := ⟨_, rfl⟩
  obtain ⟨B2, hB2⟩ : ∃ B, B = B1 ++ cellP ⟨val, dead, at_, fin⟩ := ⟨_, rfl⟩
  obtain ⟨B3, hB3⟩ : ∃ B, B = B2 ++ num gone.toNat := ⟨_, rfl⟩
  obtain ⟨B4, hB4⟩ : ∃ B, B = B3 ++ num shade.toNat := ⟨_, rfl⟩
  obtain ⟨B5, hB5⟩ : ∃ B, B = B4 ++ num cols.length := ⟨_, rfl⟩
  have m1 : B1.length ≤ 500001009 := by rw [hB1]; simp only [List.length_append, dat_size]; omega
  have m2 : B2.length ≤ 500002037 := by rw [hB2, List.length_append]; omega
  have m3 : B3.length ≤ 500002046 := by rw [hB3, List.length_append]; omega
  have m4 : B4.length ≤ 500002055 := by rw [hB4, List.length_append]; omega
  have m5 : B5.length ≤ 500002064 := by rw [hB5, List.length_append]; omega
  have HW : Hid (l ++ rowP ⟨key, ⟨val, dead, at_, fin⟩, gone, shade, cols⟩ = B5 ++ cols.flatMap colP) := Lib.hid (by rw [hB5, hB4, hB3, hB2, hB1]; unfold rowP; simp only [List.append_assoc])
  have H1 := Lib.hid hB1
  have H2 := Lib.hid hB2
  have H3 := Lib.hid hB3
  have H4 := Lib.hid hB4
  have H5 := Lib.hid hB5
  have HG := Lib.hid hget
  have HK := Lib.hid k8
  rw [HW.out]
  obtain ⟨n, hn⟩ : ∃ n, n = cols.length := ⟨_, rfl⟩
  unfold ro8 at *
  simp only at hbx hE0
  rw [← hn] at hbx hE0 hcu k7 l5 ⊢
  have HN := Lib.hid hn
  clear hB1 hB2 hB3 hB4 hB5 l1 l2 l3 l4 l5 hget k8 hn hin
  go_enter Tryz.func229, Tryz.ntmps229
  go_wp2
  refine wp_region_tab 14 [(3, fun v x => OwnB x w.heap.size v B1), (6, fun v x => OwnB x w.heap.size v B2), (9, fun v x => OwnB x w.heap.size v B3), (12, fun v x => OwnB x w.heap.size v B4)] (by kernel_rfl) (by kernel_rfl) (by kernel_rfl) ⟨fun _ _ _ hE h => h.ext hE, fun _ _ _ hE h => h.ext hE, fun _ _ _ hE h => h.ext hE, fun _ _ _ hE h => h.ext hE, trivial⟩ ?_
  have c0 := held (show (w.alloc (.cells #[.string key, .string val, .bool dead, .int .i64 at_, .int .i64 fin, .int .i64 gone, .int .i64 shade, .slice au n cu] 58)).cell? ⟨w.heap.size, 0, none⟩ = some (.string key) from hbx.cell 0)
  have c1 := held (show (w.alloc (.cells #[.string key, .string val, .bool dead, .int .i64 at_, .int .i64 fin, .int .i64 gone, .int .i64 shade, .slice au n cu] 58)).cell? ⟨w.heap.size, 1, none⟩ = some (.string val) from hbx.cell 1)
  have c2 := held (show (w.alloc (.cells #[.string key, .string val, .bool dead, .int .i64 at_, .int .i64 fin, .int .i64 gone, .int .i64 shade, .slice au n cu] 58)).cell? ⟨w.heap.size, 2, none⟩ = some (.bool dead) from hbx.cell 2)
  have c3 := held (show (w.alloc (.cells #[.string key, .string val, .bool dead, .int .i64 at_, .int .i64 fin, .int .i64 gone, .int .i64 shade, .slice au n cu] 58)).cell? ⟨w.heap.size, 3, none⟩ = some (.int .i64 at_) from hbx.cell 3)
  have c4 := held (show (w.alloc (.cells #[.string key, .string val, .bool dead, .int .i64 at_, .int .i64 fin, .int .i64 gone, .int .i64 shade, .slice au n cu] 58)).cell? ⟨w.heap.size, 4, none⟩ = some (.int .i64 fin) from hbx.cell 4)
  have c5 := held (show (w.alloc (.cells #[.string key, .string val, .bool dead, .int .i64 at_, .int .i64 fin, .int .i64 gone, .int .i64 shade, .slice au n cu] 58)).cell? ⟨w.heap.size, 5, none⟩ = some (.int .i64 gone) from hbx.cell 5)
  have c6 := held (show (w.alloc (.cells #[.string key, .string val, .bool dead, .int .i64 at_, .int .i64 fin, .int .i64 gone, .int .i64 shade, .slice au n cu] 58)).cell? ⟨w.heap.size, 6, none⟩ = some (.int .i64 shade) from hbx.cell 6)
  refine rg_quiet rfl rfl rfl rfl ?_; intro K hK; go_big_quiet_op; go_big_quiet_on
  refine rg_quiet rfl rfl rfl rfl ?_; intro K hK; go_big_quiet_op; go_big_quiet_on
  refine rg_quiet rfl rfl rfl rfl ?_; intro K hK; go_big_quiet_op; go_big_quiet_on
  refine rg_fact [] rfl rfl rfl (by kernel_rfl) (fun y hE hf => ?_) (fun v2 y2 hE2 hG2 h2 => ?_)
  · go_simp
    refine (pk_text v l key (by omega) y (hv.ext (hE0.trans hE)) (by omega)).mono ?_
    rintro e w' ⟨v', rfl, ho, hw⟩
    exact ⟨_, rfl, rg_doneR hE hw (by rw [H1.out]; exact ho.base (hE0.trans hE).le)⟩
  obtain ⟨a2, n2, rfl⟩ := ownB_shapeP h2
  clear hE2 hG2 h2
  simp only [Act.put, List.setIfInBounds_toArray, List.set_cons_zero, List.set_cons_succ]
  refine rg_quiet rfl rfl rfl rfl ?_; intro K hK; go_big_quiet_op; go_big_quiet_on
  refine rg_quiet rfl rfl rfl rfl ?_; intro K hK; go_big_quiet_op; go_big_quiet_on
  refine rg_fact [3] rfl rfl rfl (by kernel_rfl) (fun y hE hf => ?_) (fun v5 y5 hE5 hG5 h5 => ?_)
  · have h2 := (hf 3 (by simp)).2 rfl
    go_simp
    refine (pk_cell _ B1 ⟨val, dead, at_, fin⟩ k2 y (OwnB.bytes h2) (by omega)).mono ?_
    rintro e w' ⟨v', rfl, ho, hw⟩
    exact ⟨_, rfl, rg_doneR hE hw (by rw [H2.out]; exact ho.base (hE0.trans hE).le)⟩
  obtain ⟨a5, n5, rfl⟩ := ownB_shapeP h5
  clear hE5 hG5 h5
  simp only [Act.put, List.setIfInBounds_toArray, List.set_cons_zero, List.set_cons_succ]
  refine rg_quiet rfl rfl rfl rfl ?_; intro K hK; go_big_quiet_op; go_big_quiet_on
  refine rg_quiet rfl rfl rfl rfl ?_; intro K hK; go_big_quiet_op; go_big_quiet_on
  refine rg_fact [6] rfl rfl rfl (by kernel_rfl) (fun y hE hf => ?_) (fun v9 y9 hE9 hG9 h9 => ?_)
  · have h5 := (hf 6 (by simp)).2 rfl
    go_simp
    refine (pk_number _ B2 gone (by omega) (by omega) y (OwnB.bytes h5) (by omega)).mono ?_
    rintro e w' ⟨v', rfl, ho, hw⟩
    exact ⟨_, rfl, rg_doneR hE hw (by rw [H3.out]; exact ho.base (hE0.trans hE).le)⟩
  obtain ⟨a9, n9, rfl⟩ := ownB_shapeP h9
  clear hE9 hG9 h9
  simp only [Act.put, List.setIfInBounds_toArray, List.set_cons_zero, List.set_cons_succ]
  refine rg_quiet rfl rfl rfl rfl ?_; intro K hK; go_big_quiet_op; go_big_quiet_on
  refine rg_quiet rfl rfl rfl rfl ?_; intro K hK; go_big_quiet_op; go_big_quiet_on
  refine rg_fact [9] rfl rfl rfl (by kernel_rfl) (fun y hE hf => ?_) (fun v12 y12 hE12 hG12 h12 => ?_)
  · have h5 := (hf 9 (by simp)).2 rfl
    go_simp
    refine (pk_number _ B3 shade (by omega) (by omega) y (OwnB.bytes h5) (by omega)).mono ?_
    rintro e w' ⟨v', rfl, ho, hw⟩
    exact ⟨_, rfl, rg_doneR hE hw (by rw [H4.out]; exact ho.base (hE0.trans hE).le)⟩
  obtain ⟨a12, n12, rfl⟩ := ownB_shapeP h12
  clear hE12 hG12 h12
  simp only [Act.put, List.setIfInBounds_toArray, List.set_cons_zero, List.set_cons_succ]
  refine rg_quiet rfl rfl rfl rfl ?_; intro K hK; go_big_quiet_op; go_big_quiet_on
  refine rel_nil fun w2 hE2 hG => ?_
  have h12 := (hG 12).2 rfl
  have hb2 := hbx.ext hE2
  have hEw := hE0.trans hE2
  clear c0 c1 c2 c3 c4 c5 c6 hG
  have c7 : w2.cell? ⟨w.heap.size, 7, none⟩ = some (.slice au n cu) := hb2.cell 7
  go_wp2_with (go_at_call 227; go_must (refine (pk_number _ B4 (n : Int) (by omega) (by omega) _ (OwnB.bytes h12) (by omega)).mono ?_); rintro e w3 ⟨v3, rfl, ho3, hE3⟩; rw [Int.toNat_natCast, HN.out, ← H5.out] at ho3; have ho3' := ho3; obtain ⟨a3, n3, rfl⟩ := ownB_shapeP ho3'; have hb3 := hb2.ext hE3; have d7 : w3.cell? ⟨w.heap.size, 7, none⟩ = some (.slice au n cu) := hb3.cell 7)
  go_loopw [0, 28] (fun b i wr => ∃ k : Nat, k ≤ n ∧ i = .int .i64 (k : Int) ∧ Ext w3 wr ∧ OwnB wr w.heap.size b (B5 ++ (cols.take k).flatMap colP)) (fun _ i _ => n - (intOf i).toNat)
  case atStart => exact ⟨0, Nat.zero_le _, rfl, Ext.refl w3, by rw [List.take_zero, List.flatMap_nil, List.append_nil]; exact ho3.base hEw.le⟩
  case round =>
    obtain ⟨k, hkn, rfl, hE, ho⟩ := hrel
    have hEa := (hEw.trans hE3).trans hE
    have htl : ((cols.take k).flatMap colP).length ≤ 203700 := by
      have h1 := flat_le (f := colP) (n := 2037) (l := cols.take k) (fun c hc => colP_le (HK.out c (List.mem_of_mem_take hc)))
      have h2 : (cols.take k).length ≤ 100 := by rw [List.length_take]; have := HN.out; omega
      have := Nat.mul_le_mul_right 2037 h2
      omega
    obtain ⟨L, hL⟩ : ∃ L, L = B5 ++ (cols.take k).flatMap colP := ⟨_, rfl⟩
    have hLl : L.length ≤ 500205764 := by rw [hL, List.length_append]; omega
    rw [← hL] at ho
    have HL := Lib.hid hL
    clear hL htl
    have ho' := ho
    obtain ⟨ab, nb, rfl⟩ := ownB_shapeP ho'
    clear ho'
    by_cases hlt : k < n
    · have hkc : k < cols.length := by rw [← HN.out]; exact hlt
      obtain ⟨b, o, rfl, hco⟩ := HG.out k hkc
      have hok := HK.out _ (List.getElem_mem hkc)
      obtain ⟨M, hM⟩ : ∃ M, M = cols[k] := ⟨_, rfl⟩
      rw [← hM] at hco hok
      have HT := Lib.hid (flat_take (f := colP) (show cols.drop k = M :: cols.drop (k + 1) by rw [hM]; exact List.drop_eq_getElem_cons hkc))
      clear hM
      replace hco := hco.ext hEa
      obtain ⟨g0, g1, g2, g3, g4⟩ := hco
      obtain ⟨name, mval, mdead, mat, mfin⟩ := M
      simp only at g0 g1 g2 g3 g4
      obtain ⟨n1, n2⟩ := hok
      simp only at n1 n2
      have hbc := BoxAt.made wr #[.string name, .string mval, .bool mdead, .int .i64 mat, .int .i64 mfin] 111
      have hE1 := (Ext.refl wr).alloc (.cells #[.string name, .string mval, .bool mdead, .int .i64 mat, .int .i64 mfin] 111)
      have hl1 := num_length (x := name.size) (by omega)
      have hl2 := cellP_le n2
      obtain ⟨L1, hL1⟩ : ∃ X, X = L ++ num name.size ++ name.data.toList := ⟨_, rfl⟩
      have hL1l : L1.length ≤ 500206773 := by rw [hL1]; simp only [List.length_append, dat_size]; omega
      obtain ⟨L2, hL2⟩ : ∃ X, X = L1 ++ cellP ⟨mval, mdead, mat, mfin⟩ := ⟨_, rfl⟩
      have HL1 := Lib.hid hL1
      have HL2 := Lib.hid hL2
      clear hL1 hL2 hl1
      go_wp2_with fail
      refine wp_region_tab 8 [(3, fun v x => OwnB x w.heap.size v L1), (6, fun v x => OwnB x w.heap.size v L2)] (by kernel_rfl) (by kernel_rfl) (by kernel_rfl) ⟨fun _ _ _ hE h => h.ext hE, fun _ _ _ hE h => h.ext hE, trivial⟩ ?_
      have e0 := held (show (wr.alloc (.cells #[.string name, .string mval, .bool mdead, .int .i64 mat, .int .i64 mfin] 111)).cell? ⟨wr.heap.size, 0, none⟩ = some (.string name) from hbc.cell 0)
      have e1 := held (show (wr.alloc (.cells #[.string name, .string mval, .bool mdead, .int .i64 mat, .int .i64 mfin] 111)).cell? ⟨wr.heap.size, 1, none⟩ = some (.string mval) from hbc.cell 1)
      have e2 := held (show (wr.alloc (.cells #[.string name, .string mval, .bool mdead, .int .i64 mat, .int .i64 mfin] 111)).cell? ⟨wr.heap.size, 2, none⟩ = some (.bool mdead) from hbc.cell 2)
      have e3 := held (show (wr.alloc (.cells #[.string name, .string mval, .bool mdead, .int .i64 mat, .int .i64 mfin] 111)).cell? ⟨wr.heap.size, 3, none⟩ = some (.int .i64 mat) from hbc.cell 3)
      have e4 := held (show (wr.alloc (.cells #[.string name, .string mval, .bool mdead, .int .i64 mat, .int .i64 mfin] 111)).cell? ⟨wr.heap.size, 4, none⟩ = some (.int .i64 mfin) from hbc.cell 4)
      refine rg_quiet rfl rfl rfl rfl ?_; intro K hK; go_big_quiet_op; go_big_quiet_on
      refine rg_quiet rfl rfl rfl rfl ?_; intro K hK; go_big_quiet_op; go_big_quiet_on
      refine rg_quiet rfl rfl rfl rfl ?_; intro K hK; go_big_quiet_op; go_big_quiet_on
      refine rg_fact [] rfl rfl rfl (by kernel_rfl) (fun y hE hf => ?_) (fun v5 y5 hE5 hG5 h5 => ?_)
      · go_simp
        refine (pk_text _ L name (by omega) y (OwnB.bytes (ho.ext (hE1.trans hE))) (by omega)).mono ?_
        rintro e w' ⟨v', rfl, ho, hw⟩
        exact ⟨_, rfl, rg_doneR hE hw (by rw [HL1.out]; exact ho.base ((hEa.trans hE1).trans hE).le)⟩
      obtain ⟨a5, n5, rfl⟩ := ownB_shapeP h5
      clear hE5 hG5 h5
      simp only [Act.put, List.setIfInBounds_toArray, List.set_cons_zero, List.set_cons_succ]
      refine rg_quiet rfl rfl rfl rfl ?_; intro K hK; go_big_quiet_op; go_big_quiet_on
      refine rg_quiet rfl rfl rfl rfl ?_; intro K hK; go_big_quiet_op; go_big_quiet_on
      refine rg_fact [3] rfl rfl rfl (by kernel_rfl) (fun y hE hf => ?_) (fun v9 y9 hE9 hG9 h9 => ?_)
      · have h5 := (hf 3 (by simp)).2 rfl
        go_simp
        refine (pk_cell _ L1 ⟨mval, mdead, mat, mfin⟩ n2 y (OwnB.bytes h5) (by omega)).mono ?_
        rintro e w' ⟨v', rfl, ho, hw⟩
        exact ⟨_, rfl, rg_doneR hE hw (by rw [HL2.out]; exact ho.base ((hEa.trans hE1).trans hE).le)⟩
      obtain ⟨a9, n9, rfl⟩ := ownB_shapeP h9
      clear hE9 hG9 h9
      simp only [Act.put, List.setIfInBounds_toArray, List.set_cons_zero, List.set_cons_succ]
      refine rg_quiet rfl rfl rfl rfl ?_; intro K hK; go_big_quiet_op; go_big_quiet_on
      refine rel_nil fun w5 hE5 hG => ?_
      have h6 := (hG 6).2 rfl
      clear e0 e1 e2 e3 e4 hG
      go_wp2_with fail
      go_roundw
      case rel =>
        refine ⟨k + 1, by omega, by go_num, (hE.trans hE1).trans hE5, ?_⟩
        have e : B5 ++ (cols.take (k + 1)).flatMap colP = L2 := by
          rw [HT.out, HL2.out, HL1.out, HL.out]
          unfold colP
          simp only [List.append_assoc]
        rw [e]
        exact h6
      case measure => simp [intOf]; omega
    · obtain rfl : k = n := by omega
      go_wp2_with fail
      go_ret
      refine ⟨_, rfl, ?_, hEa⟩
      have e : B5 ++ cols.flatMap colP = L := by rw [HL.out, List.take_of_length_le (by rw [HN.out]; omega)]
      rw [e]
      exact ho
end Go.Proofs.YtfagnbofnaoncaaGreatDoor

/- pack.whole: a partition's bytes. -/
namespace Go.Proofs.YtfagnbofnaoncaaGreatDoor
open Go Go.RowKit
attribute [local go_sem] yields yUpon

def wholeP (k : ByteArray) (g : Int) (rs : List Ro) : List UInt8 := num k.size ++ k.data.toList ++ num g.toNat ++ num rs.length ++ rs.flatMap rowP
structure OkP (k : ByteArray) (g : Int) (rs : List Ro) : Prop where
  key : k.size ≤ 1000
  gone0 : 0 ≤ g
  gone1 : g ≤ 1099511627776
  many : rs.length ≤ 1000
  rows : ∀ r ∈ rs, OkR r
theorem wholeP_le {k : ByteArray} {g : Int} {rs : List Ro} (h : OkP k g rs) : (wholeP k g rs).length ≤ 300010000 := by
  obtain ⟨h1, h2, h3, h4, h5⟩ := h
  have l1 := num_length (x := k.size) (by omega)
  have l3 := num_length (x := g.toNat) (by omega)
  have l5 := num_length (x := rs.length) (by omega)
  have l6 := flat_le (f := rowP) (fun c hc => rowP_le (h5 c hc))
  have := Nat.mul_le_mul_right 300000 h4
  unfold wholeP
  simp only [List.length_append, dat_size]
  omega

set_option maxRecDepth 100000 in
set_option maxHeartbeats 8000000 in
theorem pk_whole (k : ByteArray) (g : Int) (u : Value) (ps : List (Ro × Value)) (hp : OkP k g (ps.map (·.1))) (w : World) (hin : RowsIn w u ps) :
    Calls Tryz.prog 224 #[.agg #[.string k, .int .i64 g, u]] w fun e w' => ∃ v', e = .returned v' ∧ OwnB w' w.heap.size v' (wholeP k g (ps.map (·.1))) ∧ Ext w w' := by
  have hE0 := (Ext.refl w).alloc (.cells #[.string k, .int .i64 g, u] 50)
  have hbx := BoxAt.made w #[.string k, .int .i64 g, u] 50
  have hcols := Lib.hid hin.cols
  obtain ⟨au, cu, rfl, hcu, hcum, hget⟩ := hin.get
  obtain ⟨k1, k2, k3, k4, k5⟩ := hp
  rw [List.length_map] at k4
  have l1 := num_length (x := k.size) (by omega)
  have l2 := num_length (x := g.toNat) (by omega)
  have l3 := num_length (x := ps.length) (by omega)
  obtain ⟨B1, hB1⟩ : ∃ B, B = num k.size ++ k.data.toList := ⟨_, rfl⟩
  obtain ⟨B2, hB2⟩ : ∃ B, B = B1 ++ num g.toNat := ⟨_, rfl⟩
  obtain ⟨B3, hB3⟩ : ∃ B, B = B2 ++ num ps.length := ⟨_, rfl⟩
  have m1 : B1.length ≤ 1009 := by rw [hB1]; simp only [List.length_append, dat_size]; omega
  have m2 : B2.length ≤ 1018 := by rw [hB2, List.length_append]; omega
  have m3 : B3.length ≤ 1027 := by rw [hB3, List.length_append]; omega
  have HW : Hid (wholeP k g (ps.map (·.1)) = B3 ++ (ps.map (·.1)).flatMap rowP) := Lib.hid (by rw [hB3, hB2, hB1]; unfold wholeP; rw [List.length_map])
  have H1 := Lib.hid hB1
  have H2 := Lib.hid hB2
  have H3 := Lib.hid hB3
  have HG := Lib.hid hget
  have HK := Lib.hid k5
  rw [HW.out]
  obtain ⟨n, hn⟩ : ∃ n, n = ps.length := ⟨_, rfl⟩
  rw [← hn] at hbx hE0 hcu k4 l3 ⊢
  have HN := Lib.hid hn
  clear hB1 hB2 hB3 l1 l2 l3 hget k5 hn hin
  go_enter Tryz.func224, Tryz.ntmps224
  go_wp2
  refine wp_region_tab 11 [(2, fun v x => OwnB x w.heap.size v B1), (5, fun v x => OwnB x w.heap.size v B2), (9, fun v x => OwnB x w.heap.size v B3)] (by kernel_rfl) (by kernel_rfl) (by kernel_rfl) ⟨fun _ _ _ hE h => h.ext hE, fun _ _ _ hE h => h.ext hE, fun _ _ _ hE h => h.ext hE, trivial⟩ ?_
  have c0 := held (show (w.alloc (.cells #[.string k, .int .i64 g, .slice au n cu] 50)).cell? ⟨w.heap.size, 0, none⟩ = some (.string k) from hbx.cell 0)
  have c1 := held (show (w.alloc (.cells #[.string k, .int .i64 g, .slice au n cu] 50)).cell? ⟨w.heap.size, 1, none⟩ = some (.int .i64 g) from hbx.cell 1)
  have c2 := held (show (w.alloc (.cells #[.string k, .int .i64 g, .slice au n cu] 50)).cell? ⟨w.heap.size, 2, none⟩ = some (.slice au n cu) from hbx.cell 2)
  refine rg_quiet rfl rfl rfl rfl ?_; intro K hK; go_big_quiet_op; go_big_quiet_on
  refine rg_quiet rfl rfl rfl rfl ?_; intro K hK; go_big_quiet_op; go_big_quiet_on
  refine rg_fact [] rfl rfl rfl (by kernel_rfl) (fun y hE hf => ?_) (fun v2 y2 hE2 hG2 h2 => ?_)
  · go_simp
    refine (pk_text (.slice none 0 0) [] k (by omega) y (SliceIn.nil y) (by simp)).mono ?_
    rintro e w' ⟨v', rfl, ho, hw⟩
    exact ⟨_, rfl, rg_doneR hE hw (by rw [H1.out]; exact ho.base (hE0.trans hE).le)⟩
  obtain ⟨a2, n2, rfl⟩ := ownB_shapeP h2
  clear hE2 hG2 h2
  simp only [Act.put, List.setIfInBounds_toArray, List.set_cons_zero, List.set_cons_succ]
  refine rg_quiet rfl rfl rfl rfl ?_; intro K hK; go_big_quiet_op; go_big_quiet_on
  refine rg_quiet rfl rfl rfl rfl ?_; intro K hK; go_big_quiet_op; go_big_quiet_on
  refine rg_fact [2] rfl rfl rfl (by kernel_rfl) (fun y hE hf => ?_) (fun v5 y5 hE5 hG5 h5 => ?_)
  · have h2 := (hf 2 (by simp)).2 rfl
    go_simp
    refine (pk_number _ B1 g (by omega) (by omega) y (OwnB.bytes h2) (by omega)).mono ?_
    rintro e w' ⟨v', rfl, ho, hw⟩
    exact ⟨_, rfl, rg_doneR hE hw (by rw [H2.out]; exact ho.base (hE0.trans hE).le)⟩
  obtain ⟨a5, n5, rfl⟩ := ownB_shapeP h5
  clear hE5 hG5 h5
  simp only [Act.put, List.setIfInBounds_toArray, List.set_cons_zero, List.set_cons_succ]
  refine rg_quiet rfl rfl rfl rfl ?_; intro K hK; go_big_quiet_op; go_big_quiet_on
  refine rg_quiet rfl rfl rfl rfl ?_; intro K hK; go_big_quiet_op; go_big_quiet_on
  refine rg_quiet rfl rfl rfl rfl ?_; intro K hK; go_big_quiet_op; go_big_quiet_on
  refine rg_fact [5] rfl rfl rfl (by kernel_rfl) (fun y hE hf => ?_) (fun v9 y9 hE9 hG9 h9 => ?_)
  · have h5 := (hf 5 (by simp)).2 rfl
    go_simp
    refine (pk_number _ B2 (n : Int) (by omega) (by omega) y (OwnB.bytes h5) (by omega)).mono ?_
    rintro e w' ⟨v', rfl, ho, hw⟩
    exact ⟨_, rfl, rg_doneR hE hw (by rw [H3.out, ← HN.out]; rw [Int.toNat_natCast] at ho; exact ho.base (hE0.trans hE).le)⟩
  obtain ⟨a9, n9, rfl⟩ := ownB_shapeP h9
  clear hE9 hG9 h9
  simp only [Act.put, List.setIfInBounds_toArray, List.set_cons_zero, List.set_cons_succ]
  refine rg_quiet rfl rfl rfl rfl ?_; intro K hK; go_big_quiet_op; go_big_quiet_on
  refine rel_nil fun w3 hE2 hG => ?_
  have ho3 := (hG 9).2 rfl
  have hb2 := hbx.ext hE2
  have hEw := hE0.trans hE2
  clear c0 c1 c2 hG
  have c2 : w3.cell? ⟨w.heap.size, 2, none⟩ = some (.slice au n cu) := hb2.cell 2
  go_wp2_with fail
  go_loopw [3, 19] (fun b i wr => ∃ j : Nat, j ≤ n ∧ i = .int .i64 (j : Int) ∧ Ext w3 wr ∧ OwnB wr w.heap.size b (B3 ++ ((ps.map (·.1)).take j).flatMap rowP)) (fun _ i _ => n - (intOf i).toNat)
  case atStart => exact ⟨0, Nat.zero_le _, rfl, Ext.refl w3, by rw [List.take_zero, List.flatMap_nil, List.append_nil]; exact ho3⟩
  case round =>
    obtain ⟨j, hjn, rfl, hE, ho⟩ := hrel
    have hEa := hEw.trans hE
    have htl : (((ps.map (·.1)).take j).flatMap rowP).length ≤ 300000000 := by
      have h1 := flat_le (f := rowP) (n := 300000) (l := (ps.map (·.1)).take j) (fun c hc => rowP_le (HK.out c (List.mem_of_mem_take hc)))
      have h2 : ((ps.map (·.1)).take j).length ≤ 1000 := by rw [List.length_take, List.length_map]; have := HN.out; omega
      have := Nat.mul_le_mul_right 300000 h2
      omega
    obtain ⟨L, hL⟩ : ∃ L, L = B3 ++ ((ps.map (·.1)).take j).flatMap rowP := ⟨_, rfl⟩
    have hLl : L.length ≤ 300001027 := by rw [hL, List.length_append]; omega
    rw [← hL] at ho
    have HL := Lib.hid hL
    clear hL htl
    have ho' := ho
    obtain ⟨ab, nb, rfl⟩ := ownB_shapeP ho'
    clear ho'
    by_cases hlt : j < n
    · have hkc : j < ps.length := by rw [← HN.out]; exact hlt
      obtain ⟨b, o, rfl, hco⟩ := HG.out j hkc
      have hok := HK.out _ (List.mem_map_of_mem (f := (·.1)) (List.getElem_mem hkc))
      have hcol := hcols.out _ (List.getElem_mem hkc)
      obtain ⟨M, hM⟩ : ∃ M, M = ps[j] := ⟨_, rfl⟩
      rw [← hM] at hco hok hcol
      have HT := Lib.hid (flat_take (f := rowP) (show (ps.map (·.1)).drop j = M.1 :: (ps.map (·.1)).drop (j + 1) by rw [hM, ← List.map_drop, List.drop_eq_getElem_cons hkc, List.map_cons, List.map_drop]))
      clear hM
      obtain ⟨r, mu⟩ := M
      simp only at hco hok hcol HT
      obtain ⟨ac, cc, rfl⟩ := hcol.shape
      replace hco := hco.ext hEa
      obtain ⟨g0, g1, g2, g3, g4, g5, g6, g7⟩ := hco
      obtain ⟨L1, hL1⟩ : ∃ X, X = L ++ rowP r := ⟨_, rfl⟩
      have HL1 := Lib.hid hL1
      clear hL1
      have HO := Lib.hid hok
      clear hok
      go_wp2_with (go_at_call 229; go_must (refine (pk_row _ L r (.slice ac r.cols.length cc) HO.out _ (hcol.ext (hEa.alloc _)) (OwnB.bytes (ho.ext ((Ext.refl wr).alloc _))) (by omega)).mono ?_); rintro e w5 ⟨v5, rfl, ho5, hE5⟩; rw [← HL1.out] at ho5; have ho5' := ho5; obtain ⟨a5, n5, rfl⟩ := ownB_shapeP ho5')
      go_roundw
      case rel =>
        refine ⟨j + 1, by omega, by go_num, ((hE.alloc _).trans hE5), ?_⟩
        have e : B3 ++ ((ps.map (·.1)).take (j + 1)).flatMap rowP = L1 := by
          rw [HT.out, HL1.out, HL.out, List.append_assoc]
        rw [e]
        exact ho5.base (hEa.alloc _).le
      case measure => simp [intOf]; omega
    · obtain rfl : j = n := by omega
      go_wp2_with fail
      go_ret
      refine ⟨_, rfl, ?_, hEa⟩
      have e : B3 ++ (ps.map (·.1)).flatMap rowP = L := by rw [HL.out, List.take_of_length_le (by rw [List.length_map, HN.out]; omega)]
      rw [e]
      exact ho
end Go.Proofs.YtfagnbofnaoncaaGreatDoor

/- pack.Part of any partition. -/
namespace Go.Proofs.YtfagnbofnaoncaaGreatDoor
open Go Go.RowKit
attribute [local go_sem] yields yUpon

theorem stampB_le {v : Int} (h : stampB v = true) : 0 ≤ v ∧ v ≤ 1099511627776 := by
  unfold stampB at h
  simpa using h
theorem checkC_ok {c : Cl} (h : checkC c.val c.dead c.at_ c.fin = true) : OkC c := by
  unfold checkC at h
  simp only [Bool.and_eq_true] at h
  obtain ⟨⟨h1, h2⟩, h3⟩ := h
  have a := stampB_le h1
  have b := stampB_le h2
  refine ⟨a.1, a.2, b.1, b.2, ?_⟩
  have hs : ∀ s : ByteArray, s.toList = [] → s.size = 0 := by
    intro s hs
    rw [ByteArray.toList_eq] at hs
    rw [← dat_size, hs]
    rfl
  split at h3
  · simp only [Bool.and_eq_true] at h3
    have := hs c.val (by simpa using h3.1.1)
    omega
  · split at h3
    · simp only [Bool.and_eq_true] at h3
      have := hs c.val (by simpa using h3.1)
      omega
    · have := of_decide_eq_true h3
      omega
theorem csB_ok : ∀ {l : List Co} {p : Option ByteArray}, csB p l = true → ∀ c ∈ l, OkCo c ∧ nameB c.name = true ∧ checkC c.cell.val c.cell.dead c.cell.at_ c.cell.fin = true ∧ 0 < c.cell.at_
  | [], _, _, _, hc => by cases hc
  | d :: l, p, h, c, hc => by
    rw [csB_cons] at h
    simp only [Bool.and_eq_true] at h
    obtain ⟨⟨⟨⟨h1, h2⟩, h3⟩, h4⟩, h5⟩ := h
    rcases List.mem_cons.1 hc with rfl | hc
    · refine ⟨⟨?_, checkC_ok h3⟩, h1, h3, of_decide_eq_true h4⟩
      unfold nameB at h1
      simp only [Bool.and_eq_true] at h1
      have := of_decide_eq_true h1.2.2
      omega
    · exact csB_ok h5 c hc
theorem rwB_ok {r : Ro} (h : rwB r = true) : OkR r := by
  unfold rwB at h
  simp only [Bool.and_eq_true] at h
  obtain ⟨a, b, c, d, e, f, g⟩ := hdB_parts h.1
  have a' := of_decide_eq_false a
  have g' := of_decide_eq_false g
  have e' := stampB_le e
  have f' := stampB_le f
  exact ⟨by omega, checkC_ok b, e'.1, e'.2, f'.1, f'.2, by omega, fun x hx => (csB_ok h.2 x hx).1⟩
theorem rsB_ok : ∀ {l : List Ro} {p : Option ByteArray}, rsB p l = true → ∀ r ∈ l, rwB r = true
  | [], _, _, _, hr => by cases hr
  | d :: l, p, h, r, hr => by
    unfold rsB at h
    simp only [Bool.and_eq_true] at h
    rcases List.mem_cons.1 hr with rfl | hr
    · exact h.1.1
    · exact rsB_ok h.2 r hr
theorem ptB_ok {k : ByteArray} {g : Int} {l : List Ro} (h : ptB k g l = true) : OkP k g l := by
  unfold ptB at h
  simp only [Bool.and_eq_true, Bool.not_eq_true'] at h
  obtain ⟨⟨⟨⟨h1, h2⟩, h3⟩, h4⟩, h5⟩ := h
  have a := of_decide_eq_false h1
  have b := of_decide_eq_false h2
  have c := of_decide_eq_false h3
  have d := of_decide_eq_false h4
  exact ⟨by omega, by omega, by omega, by omega, fun r hr => rwB_ok (rsB_ok h5 r hr)⟩
/-- What Part answers: bytes, error. -/
def partR (k : ByteArray) (g : Int) (l : List Ro) : List UInt8 × Int := if ptB k g l then (if (wholeP k g l).length ≤ 262144 then (wholeP k g l, 0) else ([], 2)) else ([], 1)

set_option maxRecDepth 100000 in
set_option maxHeartbeats 2000000 in
theorem pk_part (k : ByteArray) (g : Int) (u : Value) (ps : List (Ro × Value)) (w : World) (hin : RowsIn w u ps) (hlow : ∀ p ∈ ps, ∀ c ∈ p.1.cols, c.name.size ≤ 1000000) (hT : TabU w) :
    Calls Tryz.prog 221 #[.agg #[.string k, .int .i64 g, u]] w fun e w' => ∃ v', e = .returned (.tuple #[v', .int .i64 (partR k g (ps.map (·.1))).2]) ∧ OwnB w' w.heap.size v' (partR k g (ps.map (·.1))).1 ∧ Ext w w' := by
  have hE0 := (Ext.refl w).alloc (.cells #[.string k, .int .i64 g, u] 50)
  have hbx := BoxAt.made w #[.string k, .int .i64 g, u] 50
  have hin0 := hin.ext hE0
  have hT0 := hT.ext hE0
  obtain ⟨au, cu, rfl, _⟩ := hin.get
  cases hq : ptB k g (ps.map (·.1))
  · have e : Hid (partR k g (ps.map (·.1)) = ([], 1)) := Lib.hid (by unfold partR; rw [hq]; rfl)
    rw [e.out]
    have HQ := Lib.hid hq
    clear hq e
    go_enter Tryz.func221, Tryz.ntmps221
    go_wp2_with (go_at_call 50; go_must (refine (pcheck_gen k g _ ps _ hin0 hlow hT0).mono ?_); rintro e w1 ⟨rfl, hE1⟩; rw [HQ.out])
    go_ret2
    exact ⟨_, rfl, World.ownsRow_nil _ _ _ _, hE0.trans hE1⟩
  · have hok := ptB_ok hq
    have hwl := wholeP_le hok
    have HQ := Lib.hid hq
    have HO := Lib.hid hok
    by_cases hlen : (wholeP k g (ps.map (·.1))).length ≤ 262144
    · have e : Hid (partR k g (ps.map (·.1)) = (wholeP k g (ps.map (·.1)), 0)) := Lib.hid (by unfold partR; rw [hq, if_pos hlen]; rfl)
      rw [e.out]
      obtain ⟨L, hL⟩ : ∃ L, L = wholeP k g (ps.map (·.1)) := ⟨_, rfl⟩
      have hlt : ¬ (262144 : Int) < (L.length : Int) := by rw [hL]; omega
      have HL := Lib.hid hL
      rw [← hL]
      clear hq e hlen hL hwl hok
      go_enter Tryz.func221, Tryz.ntmps221
      go_wp2_with (first
        | (go_at_call 50; go_must (refine (pcheck_gen k g _ ps _ hin0 hlow hT0).mono ?_); rintro e w1 ⟨rfl, hE1⟩; rw [HQ.out]; have hb1 := hbx.ext hE1; have c0 : w1.cell? ⟨w.heap.size, 0, none⟩ = some (.string k) := hb1.cell 0; have c1 : w1.cell? ⟨w.heap.size, 1, none⟩ = some (.int .i64 g) := hb1.cell 1; have c2 : w1.cell? ⟨w.heap.size, 2, none⟩ = some (.slice au ps.length cu) := hb1.cell 2)
        | (go_at_call 224; go_must (refine (pk_whole k g _ ps HO.out _ (hin0.ext hE1)).mono ?_); rintro e w2 ⟨v2, rfl, ho2, hE2⟩; rw [← HL.out] at ho2; have ho2' := ho2; obtain ⟨a2, n2, rfl⟩ := ownB_shapeP ho2'))
      go_ret2
      exact ⟨_, rfl, OwnB.base ho2 (hE0.trans hE1).le, (hE0.trans hE1).trans hE2⟩
    · have e : Hid (partR k g (ps.map (·.1)) = ([], 2)) := Lib.hid (by unfold partR; rw [hq, if_neg hlen]; rfl)
      rw [e.out]
      obtain ⟨L, hL⟩ : ∃ L, L = wholeP k g (ps.map (·.1)) := ⟨_, rfl⟩
      have hlt : decide ((262144 : Int) < (L.length : Int)) = true := by rw [hL]; simp; omega
      have HL := Lib.hid hL
      clear hq e hlen hL hwl hok
      go_enter Tryz.func221, Tryz.ntmps221
      go_wp2_with (first
        | (go_at_call 50; go_must (refine (pcheck_gen k g _ ps _ hin0 hlow hT0).mono ?_); rintro e w1 ⟨rfl, hE1⟩; rw [HQ.out]; have hb1 := hbx.ext hE1; have c0 : w1.cell? ⟨w.heap.size, 0, none⟩ = some (.string k) := hb1.cell 0; have c1 : w1.cell? ⟨w.heap.size, 1, none⟩ = some (.int .i64 g) := hb1.cell 1; have c2 : w1.cell? ⟨w.heap.size, 2, none⟩ = some (.slice au ps.length cu) := hb1.cell 2)
        | (go_at_call 224; go_must (refine (pk_whole k g _ ps HO.out _ (hin0.ext hE1)).mono ?_); rintro e w2 ⟨v2, rfl, ho2, hE2⟩; rw [← HL.out] at ho2; have ho2' := ho2; obtain ⟨a2, n2, rfl⟩ := ownB_shapeP ho2'))
      go_ret2
      exact ⟨_, rfl, World.ownsRow_nil _ _ _ _, (hE0.trans hE1).trans hE2⟩
end Go.Proofs.YtfagnbofnaoncaaGreatDoor

/- pack.Batch of any batch. (what a smaller cut has) -/
namespace Go.Proofs.YtfagnbofnaoncaaGreatDoor
open Go Go.RowKit
attribute [local go_sem] yields yUpon

def mutQ (t k : ByteArray) (g : Int) (rs : List Ro) : List UInt8 := num t.size ++ t.data.toList ++ num (wholeP k g rs).length ++ wholeP k g rs
def mutP (m : Mt) : List UInt8 := mutQ m.table m.pa.key m.pa.gone (m.pa.ps.map (·.1))
def notP (n : Nt) : List UInt8 := num n.id.toNat ++ num n.body.size ++ n.body.data.toList
def batP (M : List Mt) (A : List Nt) (D : List Int) : List UInt8 := num M.length ++ M.flatMap mutP ++ num A.length ++ A.flatMap notP ++ num D.length ++ D.flatMap fun d => num d.toNat
/-- What Batch answers. -/
def batR (M : List Mt) (A : List Nt) (D : List Int) : List UInt8 × Int := if cbG M A D then (if (batP M A D).length ≤ 262144 then (batP M A D, 0) else ([], 2)) else ([], 1)

theorem rowP_le8 {r : Ro} (h : rwB r = true) : (rowP r).length ≤ 19000 := by
  have hok := rwB_ok h
  unfold rwB at h
  simp only [Bool.and_eq_true] at h
  obtain ⟨_, _, _, _, _, _, g⟩ := hdB_parts h.1
  have g' := of_decide_eq_false g
  obtain ⟨h1, h2, h3, h4, h5, h6, h7, h8⟩ := hok
  have l1 := num_length (x := r.key.size) (by omega)
  have l2 := cellP_le h2
  have l3 := num_length (x := r.gone.toNat) (by omega)
  have l4 := num_length (x := r.shade.toNat) (by omega)
  have l5 := num_length (x := r.cols.length) (by omega)
  have l6 := flat_le (f := colP) (fun c hc => colP_le (h8 c hc))
  unfold rowP
  simp only [List.length_append, dat_size]
  omega
theorem wholeP_le8 {k : ByteArray} {g : Int} {rs : List Ro} (h : ptB k g rs = true) : (wholeP k g rs).length ≤ 1910000 := by
  have hok := ptB_ok h
  unfold ptB at h
  simp only [Bool.and_eq_true, Bool.not_eq_true'] at h
  obtain ⟨⟨⟨⟨_, _⟩, _⟩, h4⟩, h5⟩ := h
  have d := of_decide_eq_false h4
  obtain ⟨h1, h2, h3, _, _⟩ := hok
  have l1 := num_length (x := k.size) (by omega)
  have l3 := num_length (x := g.toNat) (by omega)
  have l5 := num_length (x := rs.length) (by omega)
  have l6 := flat_le (f := rowP) (fun c hc => rowP_le8 (rsB_ok h5 c hc))
  unfold wholeP
  simp only [List.length_append, dat_size]
  omega
theorem nameB_size {s : ByteArray} (h : nameB s = true) : s.size ≤ 100 := by
  unfold nameB at h
  simp only [Bool.and_eq_true] at h
  exact of_decide_eq_true h.2.2
theorem mutP_le {m : Mt} (h : okMt m = true) : (mutP m).length ≤ 1910200 := by
  unfold okMt at h
  simp only [Bool.and_eq_true] at h
  have h1 := nameB_size h.1
  have h2 := wholeP_le8 h.2
  have l1 := num_length (x := m.table.size) (by omega)
  have l2 := num_length (x := (wholeP m.pa.key m.pa.gone (m.pa.ps.map (·.1))).length) (by omega)
  unfold mutP mutQ
  simp only [List.length_append, dat_size]
  omega
theorem notP_le {n : Nt} (h : okNt n = true) : (notP n).length ≤ 4200 := by
  unfold okNt idB at h
  simp only [Bool.and_eq_true, decide_eq_true_eq] at h
  have l1 := num_length (x := n.id.toNat) (by omega)
  have l2 := num_length (x := n.body.size) (by omega)
  unfold notP
  simp only [List.length_append, dat_size]
  omega
theorem flat_takeD {f : Int → List UInt8} {l : List Int} {k : Nat} (hk : k < l.length) : (l.take (k + 1)).flatMap f = (l.take k).flatMap f ++ f l[k] := flat_take (List.drop_eq_getElem_cons hk)
theorem flat_takeLe {α : Type} {f : α → List UInt8} {n : Nat} {l : List α} {k m : Nat} (h : ∀ c ∈ l, (f c).length ≤ n) (hm : k ≤ m) : ((l.take k).flatMap f).length ≤ m * n := by
  have h1 := flat_le (f := f) (n := n) (l := l.take k) (fun c hc => h c (List.mem_of_mem_take hc))
  have h2 : (l.take k).length ≤ m := by rw [List.length_take]; omega
  exact Nat.le_trans h1 (Nat.mul_le_mul_right n h2)
end Go.Proofs.YtfagnbofnaoncaaGreatDoor
