/- Lists of partitions in memory, in blocks of their own type. -/
import Derived.Test.YteamiiekpjoclaaDoorP6
import Derived.Test.YteamiiekpjoclaaDoorP12
import Derived.Test.YteamiiekpjoclaaDoorP14
import Derived.Test.YteamiiekpjoclaaDoorP2
import Derived.Test.YteamiiekpjoclaaDoorP1
import Derived.ProofKit
import Derived.ChangeSlices
import Derived.WideShapes
set_option linter.unusedSimpArgs false
set_option linter.unusedVariables false
namespace Go.Proofs.YteamiiekpjoclaaDoor
open Go Go.RowKit

/-- A partition with the value of its rows. -/
structure Pa where
  key : ByteArray
  gone : Int
  rv : Value
  ps : List (Ro × Value)
/-- What it is, whatever its memory. -/
def Pa.data (p : Pa) : ByteArray × Int × List Ro := (p.key, p.gone, p.ps.map (·.1))
theorem info_Part : (Tryd.prog.info? 35).map (fun i => (i.zero, i.size, i.bytes)) = some (some (.agg #[.string ⟨#[]⟩, .int .i64 0, .slice none 0 0]), 3, 48) := by kernel_rfl
def paCells : List Pa → List Value
  | [] => []
  | p :: l => .string p.key :: .int .i64 p.gone :: p.rv :: paCells l
theorem paCells_length (l : List Pa) : (paCells l).length = l.length * 3 := by
  induction l with
  | nil => rfl
  | cons c l ih => simp [paCells, ih]; omega
theorem paCells_append (l m : List Pa) : paCells (l ++ m) = paCells l ++ paCells m := by
  induction l with
  | nil => rfl
  | cons c l ih => simp [paCells, ih]
theorem paCells_get : ∀ (l : List Pa) (k : Nat) (h : k < l.length), (paCells l)[k * 3]? = some (.string l[k].key) ∧ (paCells l)[k * 3 + 1]? = some (.int .i64 l[k].gone) ∧ (paCells l)[k * 3 + 2]? = some l[k].rv
  | c :: l, 0, _ => by simp [paCells]
  | c :: l, k + 1, h => by
    have ih := paCells_get l k (by simpa using h)
    have e : (k + 1) * 3 = k * 3 + 3 := by omega
    simp only [e, paCells, List.getElem_cons_succ]
    simpa using ih
structure PartsT (x : World) (v : Value) (L : List Pa) : Prop where
  tin : TIn x 35 v L.length (paCells L)
  rows : ∀ p ∈ L, RowsT x p.rv p.ps
theorem PartsT.ext {x y : World} (hE : Ext x y) {v : Value} {L : List Pa} (h : PartsT x v L) : PartsT y v L := ⟨h.tin.ext hE, fun p hp => (h.rows p hp).ext hE⟩
/-- A partition at a place in memory. -/
structure PaAt (w : World) (b o : Nat) (p : Pa) : Prop where
  c0 : w.cell? ⟨b, o, none⟩ = some (.string p.key)
  c1 : w.cell? ⟨b, o + 1, none⟩ = some (.int .i64 p.gone)
  c2 : w.cell? ⟨b, o + 2, none⟩ = some p.rv
theorem PaAt.ext {w w' : World} (hE : Ext w w') {b o : Nat} {p : Pa} (h : PaAt w b o p) : PaAt w' b o p := ⟨hE.cell h.c0, hE.cell h.c1, hE.cell h.c2⟩
theorem PartsT.get {w : World} {v : Value} {L : List Pa} (h : PartsT w v L) : ∃ a c, v = .slice a L.length c ∧ L.length ≤ c ∧ c ≤ 9223372036854775807 ∧ ∀ k (hk : k < L.length), ∃ b, a = some ⟨b, 0, none⟩ ∧ PaAt w b (k * 3) L[k] := by
  rcases h.tin with ⟨rfl, hn, _⟩ | ⟨b, c, Z, rfl, hb, hn, hc, hx⟩
  · exact ⟨none, 0, by rw [hn], by omega, by omega, fun k hk => by omega⟩
  · unfold maxLen at hc
    refine ⟨_, c, rfl, hn, by omega, fun k hk => ⟨b, rfl, ?_⟩⟩
    obtain ⟨g0, g1, g2⟩ := paCells_get L k hk
    exact ⟨(hb.cell _).trans (hx _ _ g0), (hb.cell _).trans (hx _ _ g1), (hb.cell _).trans (hx _ _ g2)⟩

/-- Operation n appends to a list of partitions of one's own; the others let memory grow. -/
def PE (vl : Value) (B n j : Nat) (x y : World) : Prop := if j = n then (∃ m xs, x.ownsRow B 35 3 vl m xs) ∧ x.grownBy y vl.ownBlock else Ext x y
theorem PE_ext {vl : Value} {B n j : Nat} {x y : World} (hj : j ≠ n) (h : Ext x y) : PE vl B n j x y := by unfold PE; rw [if_neg hj]; exact h
theorem PE_off {vl : Value} {B n j : Nat} {x y : World} (hj : j ≠ n) (h : PE vl B n j x y) : Ext x y := by unfold PE at h; rwa [if_neg hj] at h
theorem PE_tin {vl : Value} {B n j : Nat} {x y : World} (h : PE vl B n j x y) {e : TypeId} (he : e ≠ 35) {v : Value} {m : Nat} {xs : List Value} (ht : TIn x e v m xs) : TIn y e v m xs := by
  unfold PE at h
  split at h
  · obtain ⟨⟨m, xs, hown⟩, hg⟩ := h
    exact ht.keepOwn hown hg he
  · exact ht.ext h
theorem PE_rows {vl : Value} {B n j : Nat} {x y : World} (h : PE vl B n j x y) {v : Value} {qs : List (Ro × Value)} (hr : RowsT x v qs) : RowsT y v qs :=
  ⟨PE_tin h (by decide) hr.tin, fun p hp => PE_tin h (by decide) (hr.typed p hp)⟩
theorem PE_box {vl : Value} {B n j : Nat} {x y : World} (h : PE vl B n j x y) {b : Nat} {cs : Array Value} {T : TypeId} (hT : T ≠ 35) (hb : BoxAt x b cs T) : BoxAt y b cs T := by
  unfold PE at h
  split at h
  · obtain ⟨⟨m, xs, hown⟩, hg⟩ := h
    refine hb.grown hg (fun e => ?_)
    rcases own_ne_box hown hb (fun e => hT e.symm) with h | h
    · rw [h] at e; cases e
    · exact h e.symm
  · exact hb.ext h
theorem PE_far {wr : World} {vl : Value} {B n j m : Nat} {xs : List Value} (hown : wr.ownsRow B 35 3 vl m xs) {x y : World} (h : PE vl B n j x y) {b : Nat} (hb : wr.heap.size ≤ b) {cs : Array Value} {e : TypeId} (hx : BoxAt x b cs e) : BoxAt y b cs e := by
  unfold PE at h
  split at h
  · exact hx.grown h.2 (fun e => by have := (hown.lt _ e.symm).2; omega)
  · exact hx.ext h
end Go.Proofs.YteamiiekpjoclaaDoor

/- clerestoryref08.Copy. -/
namespace Go.Proofs.YteamiiekpjoclaaDoor
open Go Go.RowKit
attribute [local go_sem] yields yUpon ro8 pa3

/-- Operation n appends to rows of one's own; the others let memory grow. -/
def RoE (vo : Value) (B n j : Nat) (x y : World) : Prop := if j = n then (∃ m xs, x.ownsRow B 26 8 vo m xs) ∧ x.grownBy y vo.ownBlock else Ext x y
section
variable {vo : Value} {B n j : Nat} {x y : World}
theorem RoE_ext (hj : j ≠ n) (h : Ext x y) : RoE vo B n j x y := by unfold RoE; rw [if_neg hj]; exact h
theorem RoE_off (hj : j ≠ n) (h : RoE vo B n j x y) : Ext x y := by unfold RoE at h; rwa [if_neg hj] at h
theorem RoE_cols (h : RoE vo B n j x y) {v : Value} {l : List Co} (hc : ColsT x v l) : ColsT y v l := by
  unfold RoE at h
  split at h
  · obtain ⟨⟨m, xs, hown⟩, hg⟩ := h
    exact TIn.keepOwn hown hg (by decide) hc
  · exact hc.ext h
theorem RoE_far {S B' : Nat} (hlt : ∀ q, vo.ownBlock = some q → B' ≤ q ∧ q < S) (h : RoE vo B n j x y) {b : Nat} (hb : S ≤ b) {cs : Array Value} {e : TypeId} (hx : BoxAt x b cs e) : BoxAt y b cs e := by
  unfold RoE at h
  split at h
  · exact hx.grown h.2 (fun e => by have := (hlt _ e.symm).2; omega)
  · exact hx.ext h
end
/-- The copy under way. -/
structure CpC (w : World) (k : ByteArray) (g : Int) (u : Value) (q : Nat) (vo : Value) (qs : List (Ro × Value)) (S : Nat) (x : World) : Prop where
  extw : Ext w x
  b1 : BoxAt x w.heap.size (pa3 k g u) 35
  b2 : BoxAt x (w.heap.size + 1) (pa3 ⟨#[]⟩ 0 (.slice none 0 0)) 35
  b3 : BoxAt x q (pa3 k g vo) 35
  own : x.ownsRow (w.heap.size + 3) 26 8 vo qs.length (roCells qs)
  typed : ∀ p ∈ qs, ColsT x p.2 p.1.cols
  size : S ≤ x.heap.size
theorem CpC.ext {w x y : World} {k : ByteArray} {g : Int} {u : Value} {q : Nat} {vo : Value} {qs : List (Ro × Value)} {S : Nat} (hE : Ext x y) (h : CpC w k g u q vo qs S x) : CpC w k g u q vo qs S y :=
  ⟨h.extw.trans hE, h.b1.ext hE, h.b2.ext hE, h.b3.ext hE, ownsRow_ext h.own hE, fun p hp => (h.typed p hp).ext hE, Nat.le_trans h.size hE.le⟩
theorem CpC.app {w x y : World} {k : ByteArray} {g : Int} {u : Value} {q : Nat} {vo : Value} {qs : List (Ro × Value)} {S : Nat} (hq : q < w.heap.size + 3) (h : CpC w k g u q vo qs S x) (hg : x.grownBy y vo.ownBlock) (hown : y.ownsRow (w.heap.size + 3) 26 8 vo qs.length (roCells qs)) : CpC w k g u q vo qs S y := by
  have hne : ∀ q, some q = vo.ownBlock → w.heap.size + 3 ≤ q := fun q hq => (h.own.lt q hq.symm).1
  exact ⟨h.extw.grown hg (fun q hq => by have := hne q hq.symm; omega), h.b1.grown hg (fun e => by have := hne _ e; omega), h.b2.grown hg (fun e => by have := hne _ e; omega), h.b3.grown hg (fun e => by have := hne _ e; omega), hown, fun p hp => TIn.keepOwn h.own hg (by decide) (h.typed p hp), Nat.le_trans h.size hg.size⟩

set_option maxRecDepth 100000 in
set_option maxHeartbeats 8000000 in
theorem copy8_any (k : ByteArray) (g : Int) (u : Value) (ps : List (Ro × Value)) (w : World) (h : RowsIn w u ps) (hlen : ps.length ≤ 10000) (hcl : ∀ p ∈ ps, p.1.cols.length ≤ 1000000) :
    Calls Tryd.prog 77 #[.agg #[.string k, .int .i64 g, u]] w fun e w' => ∃ v', e = .returned (.agg #[.string k, .int .i64 g, v']) ∧ ∃ qs, RowsT w' v' qs ∧ qs.map (·.1) = ps.map (·.1) ∧ Ext w w' := by
  obtain ⟨a0, a1, hE⟩ := boxes2 w (pa3 k g u) (pa3 ⟨#[]⟩ 0 (.slice none 0 0)) 35 35
  obtain ⟨a, c, rfl, hc, hcm, hget⟩ := h.get
  obtain ⟨n, hn⟩ : ∃ n, n = ps.length := ⟨_, rfl⟩
  rw [← hn] at a0 a1 hE h hlen hc ⊢
  have HN := Lib.hid hn
  have HGET := Lib.hid hget
  have HCL := Lib.hid hcl
  clear hn hget hcl
  go_enter Tryd.func77, Tryd.ntmps77
  go_wp2_with (((guard_target =~ wpList _ _ _ (Oper.mk none (Op.store _ (Operand.tmp 3) (Operand.tmp 9)) _ _ _ _ :: _) _ _); go_must (refine storeBox rfl 35 (.tmp 3) (.tmp 9) rfl (w.heap.size + 1 + 1) _ _ _ (by rfl) (by rfl) ((BoxAt.madeN (pa3 ⟨#[]⟩ 0 (.slice none 0 0)) 35 (by simp))) (by kernel_rfl) (by rfl) (by simp [Value.oneCell']) ?_); intro w4 c4 g4); have hX4 : Ext w w4 := (hE.alloc (.cells (pa3 ⟨#[]⟩ 0 (.slice none 0 0)) 35)).grown g4 (fun q hq => by cases hq; omega); have b1 : BoxAt w4 w.heap.size (pa3 k g (.slice a n c)) 35 := (a0.ext ((Ext.refl _).alloc _)).grown g4 (fun e => by have := Option.some.inj e; omega); have b2 : BoxAt w4 (w.heap.size + 1) (pa3 ⟨#[]⟩ 0 (.slice none 0 0)) 35 := (a1.ext ((Ext.refl _).alloc _)).grown g4 (fun e => by have := Option.some.inj e; omega))
  obtain ⟨q, hq⟩ : ∃ q, q = w.heap.size + 1 + 1 := ⟨_, rfl⟩
  rw [← hq] at c4 ⊢
  have hq3 : w.heap.size + 1 < q ∧ q < w.heap.size + 3 := by omega
  have A0 : CpC w k g (.slice a n c) q (.slice none 0 0) [] 0 w4 := ⟨hX4, b1, b2, c4, World.ownsRow_nil _ _ _ _, nofun, Nat.zero_le _⟩
  clear hE a0 a1 g4 hX4 b1 b2 c4 hq
  go_loopw [4] (fun i wr => ∃ (j : Nat) (vo : Value) (qs : List (Ro × Value)), j ≤ n ∧ i = .int .i64 j ∧ CpC w k g (.slice a n c) q vo qs 0 wr ∧ Hid (qs.map (·.1) = (ps.map (·.1)).take j)) (fun i _ => n - (intOf i).toNat)
  case atStart => exact ⟨0, _, [], Nat.zero_le _, rfl, A0, rfl⟩
  case round =>
    obtain ⟨j, vo, qs, hj, rfl, hcp, HQ⟩ := hrel
    clear A0
    have hql : qs.length ≤ j := by
      have := congrArg List.length HQ.out
      rw [List.length_map, List.length_take, List.length_map] at this
      omega
    have e2 : wr.cell? ⟨w.heap.size, 2, none⟩ = some (.slice a n c) := hcp.b1.cell 2
    by_cases hlt : j < n
    · have t1 : decide ((j : Int) < (n : Int)) = true := by simp; omega
      have hjp : j < ps.length := by rw [← HN.out]; exact hlt
      obtain ⟨b, o, rfl, hat⟩ := HGET.out j hjp
      obtain ⟨r, hr⟩ : ∃ r, r = ps[j].1 := ⟨_, rfl⟩
      obtain ⟨vr, hvr⟩ : ∃ v, v = ps[j].2 := ⟨_, rfl⟩
      have hct : ColsIn w vr r.cols := by rw [hr, hvr]; exact h.cols _ (List.getElem_mem hjp)
      have hrl : r.cols.length ≤ 1000000 := by rw [hr]; exact HCL.out _ (List.getElem_mem hjp)
      have hrow : (ps.map (·.1)).take (j + 1) = (ps.map (·.1)).take j ++ [r] := by
        rw [List.take_succ_eq_append_getElem (by rw [List.length_map]; exact hjp), List.getElem_map, hr]
      rw [← hr, ← hvr] at hat
      have HROW := Lib.hid hrow
      have HAT := Lib.hid hat
      clear hr hvr hrow hat
      obtain ⟨ar, cr, rfl⟩ := hct.shape
      obtain ⟨ao, co, rfl⟩ := own_shape hcp.own
      go_wp2_with fail
      refine wp_region_relE (CpC w k g (.slice (some ⟨b, o, none⟩) n c) q (.slice ao qs.length co) qs wr.heap.size) (RoE (.slice ao qs.length co) (w.heap.size + 3) 9) (Tab.atE [(1, fun v _ => v = .slice ao qs.length co), (3, fun v _ => v = .slice (some ⟨b, o, none⟩) n c), (6, fun v _ => v = (.agg #[.string r.key, .string r.live.val, .bool r.live.dead, .int .i64 r.live.at_, .int .i64 r.live.fin, .int .i64 r.gone, .int .i64 r.shade, (.slice ar r.cols.length cr)])), (7, fun v x => ∃ v', v = (.agg #[.string r.key, .string r.live.val, .bool r.live.dead, .int .i64 r.live.at_, .int .i64 r.live.fin, .int .i64 r.gone, .int .i64 r.shade, v']) ∧ ColsT x v' r.cols), (8, fun v x => ∃ v' b, v = .slice (some ⟨b, 0, none⟩) 1 1 ∧ wr.heap.size ≤ b ∧ BoxAt x b (ro8 r v') 26 ∧ ColsT x v' r.cols), (9, fun v x => ∃ v', ColsT x v' r.cols ∧ x.ownsRow (w.heap.size + 3) 26 8 v (qs.length + 1) (roCells (qs ++ [(r, v')])))])
        (Tab.staysE ⟨fun _ _ _ _ _ _ h => h, fun _ _ _ _ _ _ h => h, fun _ _ _ _ _ _ h => h, fun _ _ _ _ _ hR ⟨v', e, h1⟩ => ⟨v', e, RoE_cols hR h1⟩, fun _ _ _ _ _ hR ⟨v', b, e, hb, hx, h1⟩ => ⟨v', b, e, hb, RoE_far hcp.own.lt hR hb hx, RoE_cols hR h1⟩, fun _ hj _ _ _ hR ⟨v', h1, h2⟩ => ⟨v', RoE_cols hR h1, ownsRow_ext h2 (RoE_off hj hR)⟩, trivial⟩)
        11 (by kernel_rfl) (by kernel_rfl) (by kernel_rfl) (CpC.ext (Ext.refl wr).drew ⟨hcp.extw, hcp.b1, hcp.b2, hcp.b3, hcp.own, hcp.typed, Nat.le_refl _⟩) ?_
      refine relE_quiet rfl rfl rfl rfl ?_; intro K hK; go_big_quiet_op; (first | refine ⟨_, fun _ _ => rfl, hK _ ?_⟩ | refine hK _ ?_); clear hK K
      refine relE_val [] rfl rfl rfl (by kernel_rfl) (fun y hy hf => ?_) ?_
      · obtain ⟨z0, z1, z2⟩ := hy.b3.pa
        go_simp
        exact ⟨hy, RoE_ext (by decide) (Ext.refl y), rfl⟩
      simp only [Act.put, List.setIfInBounds_toArray, List.set_cons_zero, List.set_cons_succ]
      refine relE_quiet rfl rfl rfl rfl ?_; intro K hK; go_big_quiet_op; (first | refine ⟨_, fun _ _ => rfl, hK _ ?_⟩ | refine hK _ ?_); clear hK K
      refine relE_val [] rfl rfl rfl (by kernel_rfl) (fun y hy hf => ?_) ?_
      · obtain ⟨z0, z1, z2⟩ := hy.b1.pa
        go_simp
        exact ⟨hy, RoE_ext (by decide) (Ext.refl y), rfl⟩
      simp only [Act.put, List.setIfInBounds_toArray, List.set_cons_zero, List.set_cons_succ]
      refine relE_quiet rfl rfl rfl rfl ?_; intro K hK; go_big_quiet_op; (first | refine ⟨_, fun _ _ => rfl, hK _ ?_⟩ | refine hK _ ?_); clear hK K
      refine relE_quiet rfl rfl rfl rfl ?_; intro K hK; go_big_quiet_op; (first | refine ⟨_, fun _ _ => rfl, hK _ ?_⟩ | refine hK _ ?_); clear hK K
      refine relE_val [] rfl rfl rfl (by kernel_rfl) (fun y hy hf => ?_) ?_
      · obtain ⟨z0, z1, z2, z3, z4, z5, z6, z7⟩ := HAT.out.ext hy.extw
        go_simp
        exact ⟨hy, RoE_ext (by decide) (Ext.refl y), rfl⟩
      simp only [Act.put, List.setIfInBounds_toArray, List.set_cons_zero, List.set_cons_succ]
      refine relE_fact [] rfl rfl rfl (by kernel_rfl) (fun y hy hf => ?_) (fun v7 y7 hC7 hG7 h7 => ?_)
      · go_simp
        refine (copyRow_any r _ y (hct.ext hy.extw) hrl).mono ?_
        rintro e y' ⟨v', rfl, h1, h2⟩
        exact ⟨_, rfl, hy.ext h2, RoE_ext (by decide) h2, v', rfl, h1⟩
      obtain ⟨v7, rfl, h7⟩ := h7
      obtain ⟨a7, c7, rfl⟩ := TIn.shape h7
      clear hC7 hG7 h7
      simp only [Act.put, List.setIfInBounds_toArray, List.set_cons_zero, List.set_cons_succ]
      refine relE_fact [7] rfl rfl rfl (by kernel_rfl) (fun y hy hf => ?_) (fun v8 y8 hC8 hG8 h8 => ?_)
      · obtain ⟨v', e, h1⟩ := (hf 7 (by simp)).2 rfl
        cases e
        go_simp
        exact ⟨hy.ext ((Ext.refl y).alloc _), RoE_ext (by decide) ((Ext.refl y).alloc _), _, _, rfl, hy.size, BoxAt.made y _ _, h1.ext ((Ext.refl y).alloc _)⟩
      obtain ⟨v8, b8, rfl, _⟩ := h8
      clear hC8 hG8
      simp only [Act.put, List.setIfInBounds_toArray, List.set_cons_zero, List.set_cons_succ]
      refine relE_fact [8] rfl rfl rfl (by kernel_rfl) (fun y hy hf => ?_) (fun v9 y9 hC9 hG9 h9 => ?_)
      · obtain ⟨v', b', e, hb', hbox, h1⟩ := (hf 8 (by simp)).2 rfl
        cases e
        obtain ⟨av, cv, rfl⟩ := TIn.shape h1
        refine yields_append info_Row und_Rows rfl (by decide) (.tmp 18) (.tmp 25) rfl (w.heap.size + 3) (by have := hy.b3.lt; omega) _ qs.length (roCells qs) hy.own (by rfl) b8 1 1 (ro8 r (.slice av r.cols.length cv)).toList (by rfl) (by rfl) (fun j u hj => by rw [hbox.cell j]; simpa using hj) (by simp [ro8, Value.oneCell']) (by unfold maxLen; omega) (by omega) ?_
        intro v' y' hown' hg hkeep
        have HR : RoE (.slice ao qs.length co) (w.heap.size + 3) 9 9 y y' := by unfold RoE; rw [if_pos rfl]; exact ⟨⟨_, _, hy.own⟩, hg⟩
        refine ⟨hy.app hq3.2 hg hkeep, HR, _, RoE_cols HR h1, ?_⟩
        rw [roCells_append]
        exact hown'
      obtain ⟨vr9, _, h9⟩ := h9
      obtain ⟨a9, c9, rfl⟩ := own_shape h9
      clear hC9 hG9 h9
      simp only [Act.put, List.setIfInBounds_toArray, List.set_cons_zero, List.set_cons_succ]
      refine relE_quiet rfl rfl rfl rfl ?_; intro K hK; go_big_quiet_op; (first | refine ⟨_, fun _ _ => rfl, hK _ ?_⟩ | refine hK _ ?_); clear hK K
      refine relE_tail rfl rfl fun x hx hG => ?_
      obtain ⟨vr', h1, hown'⟩ := (hG 9).2 rfl
      clear hG e2
      obtain ⟨q0, q1, q2⟩ := hx.b3.pa
      have qf := hx.b3.free 2
      go_wp2_with fail
      go_roundw
      case rel =>
        refine ⟨j + 1, _, qs ++ [(r, vr')], by omega, by go_num, ⟨hx.extw.setCell (p := ⟨q, 2, none⟩) (by show w.heap.size ≤ q; omega) _, hx.b1.other (by omega) 2 _, hx.b2.other (by omega) 2 _, hx.b3.set 2 _, ?_, ?_, Nat.zero_le _⟩, ?_⟩
        · rw [List.length_append]
          exact ownsRow_setCell_below hown' (a := ⟨q, 2, none⟩) (by show q < w.heap.size + 3; omega) _
        · intro p hp
          rcases List.mem_append.1 hp with hp | hp
          · exact TIn.set 2 _ hx.b3 (by decide) (hx.typed p hp)
          · rw [List.mem_singleton.1 hp]
            exact TIn.set 2 _ hx.b3 (by decide) h1
        · show _ = _
          rw [List.map_append, HQ.out, HROW.out]
          rfl
      case measure => simp [intOf]; omega
    · obtain rfl : j = n := by omega
      obtain ⟨ao, co, rfl⟩ := own_shape hcp.own
      obtain ⟨z0, z1, z2⟩ := hcp.b3.pa
      have hb2 := hcp.b2
      go_wp2_with ((guard_target =~ wpList _ _ _ (Oper.mk none (Op.store _ (Operand.tmp 2) (Operand.tmp 28)) _ _ _ _ :: _) _ _); go_must (refine storeBox rfl 35 (.tmp 2) (.tmp 28) rfl (w.heap.size + 1) _ _ _ (by rfl) (by rfl) (hb2) (by kernel_rfl) (by rfl) (by simp [Value.oneCell']) ?_); intro w8 c8 g8)
      have hX8 := hcp.extw.grown g8 (fun q hq => by cases hq; omega)
      have hrows : RowsT w8 (.slice ao qs.length co) qs := ⟨TIn.keep g8 hb2 (by decide) (TIn.own hcp.own), fun p hp => ColsT.keep g8 hb2 (by decide) (hcp.typed p hp)⟩
      have hmap : qs.map (·.1) = ps.map (·.1) := by rw [HQ.out, List.take_of_length_le (by rw [List.length_map, ← HN.out]; exact Nat.le_refl _)]
      clear z0 z1 z2
      obtain ⟨z0, z1, z2⟩ := BoxAt.pa (k := k) (g := g) (u := .slice ao qs.length co) c8
      refine bodyPost_ret (v := .agg #[.string k, .int .i64 g, .slice ao qs.length co]) ?_ rfl ⟨_, rfl, qs, hrows, hmap, hX8⟩
      simp [results, Tryd.results77, go_sem, Act.put, z0, z1, z2]
end Go.Proofs.YteamiiekpjoclaaDoor

/- A slice of integers that comes in, read. -/
namespace Go.Proofs.YteamiiekpjoclaaDoor
open Go Go.RowKit Go.ChangeShapes Go.WideShapes Go.ChangeAt

/-- The cells of a list of integers. -/
def kcells (k : IntKind) (l : List Int) : List Value := l.map (Value.int k)
@[simp] theorem kcells_length (k : IntKind) (l : List Int) : (kcells k l).length = l.length := by simp [kcells]
theorem kcells_get (k : IntKind) (l : List Int) (i : Nat) : (kcells k l)[i]? = l[i]?.map (Value.int k) := by simp [kcells]
/-- v is a slice of integers that reads as l. -/
def IntsIn (w : World) (v : Value) (k : IntKind) (l : List Int) : Prop := SliceIn w v l.length (kcells k l)
theorem IntsIn.ext {w w' : World} (hE : Ext w w') {v : Value} {k : IntKind} {l : List Int} (h : IntsIn w v k l) : IntsIn w' v k l := SliceIn.ext hE h

theorem read_ints {P : Program} {H : Type} {enc : TypeId × Value → H} {W : World} {base : Nat} {t e : TypeId} {k : IntKind} {v : Value} {d : DataW H} {p : List MemPlace} (ht : P.underlying t = some (.slice e)) (he : P.underlying e = some (.int k)) (hc : P.cellsOf e = 1)
    (hv : Value.okWide P W .any base t v) (h : DataW.Trod enc P W 0 (fun _ => true) true t v d p) : ∃ l : List Int, IntsIn W v k l ∧ ∀ n ∈ l, (Lit.int k n).wf = true := by
  obtain ⟨a, len, cap, rfl⟩ := okWide_slice ht hv
  obtain ⟨fuel, hf⟩ := h
  rcases open_ints ht he hc hf with ⟨hcs, _⟩ | ⟨x, l, c, zs, hcs, _, hl, hm, hz, _, hcell, hwz⟩
  · simp [Value.cells] at hcs
    obtain ⟨rfl, rfl, rfl⟩ := hcs
    exact ⟨[], SliceIn.nil W, by simp⟩
  · simp [Value.cells] at hcs
    obtain ⟨rfl, rfl, rfl⟩ := hcs
    have hz' : zs.length = cap := by simpa using hz
    refine ⟨zs.take len, ?_, fun n hn => hwz n (List.mem_of_mem_take hn)⟩
    have hlen : (zs.take len).length = len := by simp; omega
    unfold IntsIn
    rw [hlen]
    refine ⟨some x, cap, rfl, hl, hm, nofun, fun j u hj => ?_⟩
    rw [kcells_get, List.getElem?_take] at hj
    split at hj
    · rename_i hlt
      have hjz : j < zs.length := by omega
      have hc := hcell j hjz
      have h0 := hcell 0 (by omega)
      obtain ⟨b, o, s⟩ := x
      have hs : s = none := by
        cases s with
        | none => rfl
        | some s =>
          simp only [Addr.add, if_pos] at h0
          unfold World.cell? at h0
          split at h0 <;> simp at h0
      subst hs
      refine ⟨b, o, rfl, ?_⟩
      rw [Addr.add_lit] at hc
      rw [hc, List.getD_eq_getElem?_getD]
      rw [List.getElem?_eq_getElem hjz] at hj ⊢
      simp at hj ⊢
      exact hj
    · cases hj
end Go.Proofs.YteamiiekpjoclaaDoor
