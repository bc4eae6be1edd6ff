/- The example of the document, deltas (clerestorylaw19.awake). -/
import Derived.Test.YtolkhjdododdaaaGreatP33
import Derived.Test.YtolkhjdododdaaaGreatP36
import Derived.Test.YtolkhjdododdaaaGreatP13
import Derived.Test.YtolkhjdododdaaaGreatP31
import Derived.Test.YtolkhjdododdaaaGreatP34
import Derived.Test.YtolkhjdododdaaaGreatP2
import Derived.Test.YtolkhjdododdaaaGreatP32
import Derived.Test.YtolkhjdododdaaaGreatP8
import Derived.Deep.Heap
import Derived.Laws.Entries
set_option linter.unusedSimpArgs false
set_option linter.unusedVariables false
namespace Go.Proofs.YtolkhjdododdaaaGreat
open Go Go.RowKit
attribute [local go_sem] yields yUpon ro8 pa3 vw5 tabV viewV

/-! ### The plain law -/
def dV : Vw := ⟨⟨#[118]⟩, 2, ⟨#[116]⟩, ⟨#[97]⟩⟩
def dNs : List ByteArray := [⟨#[98]⟩, ⟨#[100]⟩]
def kMir (c : Cl) : Ro := ⟨vkey ⟨#[109]⟩ ⟨#[107]⟩, ⟨⟨#[]⟩, false, c.at_, c.fin⟩, 0, 0, []⟩
theorem mir_k (c : Cl) (h : 1 ≤ c.at_) : mirOf dV dNs ⟨#[109]⟩ 0 (kRow c) = if c.dead then none else some (c.val, kMir c) := by
  have e1 : cellOf (kRow c).cols dV.on = c := by simp [cellOf, kRow, dV]
  have e2 : max (kRow c).gone 0 = 0 := rfl
  unfold mirOf
  rw [e1, e2]
  have e3 : bestB c 0 = !c.dead := by
    unfold bestB
    have h1 : decide (c.at_ < 1) = false := by simp; omega
    have h2 : decide (c.at_ ≤ 0) = false := by simp; omega
    rw [h1, h2]; simp
  have e4 : (kRow c).cols.filter (keeps dNs) = [] := by simp [kRow, keeps, dNs, strikes, hasS]
  rw [e3, e4]
  cases c.dead <;> rfl
theorem vkey_mk : (vkey ⟨#[109]⟩ ⟨#[107]⟩).size ≤ 400 := by decide
theorem one_few (c : Cl) (v : Value) : ∀ p ∈ [(kRow c, v)], p.1.cols.length ≤ 1000000 := fun p hp => by rw [List.mem_singleton.1 hp]; show 1 ≤ 1000000; decide
theorem one_keys (c : Cl) (v : Value) : ∀ p ∈ [(kRow c, v)], p.1.key.size ≤ 10000000 ∧ (vkey ⟨#[109]⟩ p.1.key).size ≤ 400 ∧ (vkey ⟨#[109]⟩ p.1.key).size ≤ 400 := fun p hp => by rw [List.mem_singleton.1 hp]; exact ⟨by show 1 ≤ 10000000; decide, vkey_mk, vkey_mk⟩
theorem mir_0 : mirOf dV dNs ⟨#[109]⟩ 0 (rowOf [] ⟨#[107]⟩) = none := rfl
theorem rowOf_k (c : Cl) : rowOf [kRow c] ⟨#[107]⟩ = kRow c := by simp [rowOf, kRow]
theorem delta_k (c d : Cl) : deltaRs dV dNs ⟨#[109]⟩ 0 ⟨#[109]⟩ 0 [kRow c] [kRow d] = stepD dV 0 (kRow d) (mirOf dV dNs ⟨#[109]⟩ 0 (kRow c)) (mirOf dV dNs ⟨#[109]⟩ 0 (kRow d)) := by
  show stepD dV 0 (kRow d) (mirOf dV dNs ⟨#[109]⟩ 0 (rowOf [kRow c] ⟨#[107]⟩)) (mirOf dV dNs ⟨#[109]⟩ 0 (kRow d)) ++ [] = _
  rw [List.append_nil, rowOf_k]
theorem delta_0 (d : Cl) : deltaRs dV dNs ⟨#[109]⟩ 0 ⟨#[109]⟩ 0 [] [kRow d] = stepD dV 0 (kRow d) none (mirOf dV dNs ⟨#[109]⟩ 0 (kRow d)) := by
  show stepD dV 0 (kRow d) (mirOf dV dNs ⟨#[109]⟩ 0 (rowOf [] ⟨#[107]⟩)) (mirOf dV dNs ⟨#[109]⟩ 0 (kRow d)) ++ [] = _
  rw [List.append_nil, mir_0]

/-- A list of partitions of one row each, read. -/
theorem parts_at {w : World} {v : Value} {L : List Pa} {l : List (ByteArray × Ro)} (h : PartsT w v L) (hd : L.map Pa.data = outP l) : ∃ a c, v = .slice a l.length c ∧ l.length ≤ c ∧ c ≤ 9223372036854775807 ∧ ∀ k (hk : k < l.length), ∃ b br cr vm, a = some ⟨b, 0, none⟩ ∧ w.cell? ⟨b, k * 3, none⟩ = some (.string l[k].1) ∧ w.cell? ⟨b, k * 3 + 2, none⟩ = some (.slice (some ⟨br, 0, none⟩) 1 cr) ∧ RoAt w br 0 l[k].2 vm ∧ ColsIn w vm l[k].2.cols := by
  have hl : L.length = l.length := by have := congrArg List.length hd; simpa [outP] using this
  obtain ⟨a, c, rfl, hc, hcm, hg⟩ := h.get
  rw [hl] at hc ⊢
  refine ⟨a, c, rfl, hc, hcm, fun k hk => ?_⟩
  have hkL : k < L.length := by omega
  obtain ⟨b, rfl, hp⟩ := hg k hkL
  have hdk : L[k].data = (l[k].1, 0, [l[k].2]) := by
    have h1 : (L.map Pa.data)[k]? = (outP l)[k]? := by rw [hd]
    simp [outP, hk, hkL] at h1
    exact h1
  have hr := h.rows _ (List.getElem_mem hkL)
  have e1 : L[k].key = l[k].1 := congrArg Prod.fst hdk
  have e2 : L[k].ps.map (·.1) = [l[k].2] := congrArg (fun t => t.2.2) hdk
  obtain ⟨ar, cr, er⟩ := hr.shape
  have hr' := hr
  rw [er] at hr'
  obtain ⟨vm, br, eps, rfl, hn⟩ := hr'.single e2
  rw [eps] at hr' er hr
  refine ⟨b, br, cr, vm, rfl, by rw [← e1]; exact hp.c0, ?_, RowsT.at0 hr', (hr'.typed _ (List.mem_cons_self ..)).cols⟩
  have := hp.c2
  rw [er] at this
  exact this

set_option maxRecDepth 100000 in
set_option maxHeartbeats 8000000 in
theorem awake19_any (w : World) : Calls Tryz.prog 4 #[] w fun e w' => e = .returned (.bool true) ∧ Ext w w' := by
  go_enter Tryz.func4, Tryz.ntmps4
  go_wp2_with fail
  refine (view_any w).mono ?_
  rintro e w1 ⟨bs, bu, rfl, hns, hE1⟩
  go_wp2_with (first
    | (((guard_target =~ wpList _ _ _ (Oper.mk none (Op.store _ (Operand.tmp 1) (Operand.tmp 7)) _ _ _ _ :: _) _ _); go_must (refine storeBox rfl 28 (.tmp 1) (.tmp 7) rfl (w1.heap.size) _ _ _ (by rfl) (by rfl) (((BoxAt.made w1 #[.string ⟨#[]⟩, .int .i64 0, .string ⟨#[]⟩, .int .i64 0, .string ⟨#[]⟩, .int .i64 0, .slice none 0 0] 28).ext ((Ext.refl _).alloc _))) (by kernel_rfl) (by rfl) (by simp [Value.oneCell']) ?_); intro w2 c2 g2); have hX2 : Ext w1 w2 := (((Ext.refl w1).alloc _).alloc _).grown g2 (fun q hq => by cases hq; omega); have hv2 := (BoxAt.madeN #[.string ⟨#[]⟩, .int .i64 0, .string ⟨#[]⟩, .string ⟨#[]⟩, .slice none 0 0] 31 (show (w1.alloc (.cells #[.string ⟨#[]⟩, .int .i64 0, .string ⟨#[]⟩, .int .i64 0, .string ⟨#[]⟩, .int .i64 0, .slice none 0 0] 28)).heap.size = w1.heap.size + 1 by simp)).grown g2 (fun e => by have := Option.some.inj e; omega))
    | (((guard_target =~ wpList _ _ _ (Oper.mk none (Op.store _ (Operand.tmp 2) (Operand.tmp 8)) _ _ _ _ :: _) _ _); go_must (refine storeBox rfl 31 (.tmp 2) (.tmp 8) rfl (w1.heap.size + 1) _ _ _ (by rfl) (by rfl) (hv2) (by kernel_rfl) (by rfl) (by simp [Value.oneCell']) ?_); intro w3 c3 g3)))
  have hX3 : Ext w1 w3 := hX2.grown g3 (fun q hq => by cases hq; omega)
  have b2 : BoxAt w3 w1.heap.size #[.string ⟨#[116]⟩, .int .i64 1, .string ⟨#[112]⟩, .int .i64 1, .string ⟨#[107]⟩, .int .i64 2, .slice (some ⟨bs, 0, none⟩) 4 4] 28 := c2.grown g3 (fun e => by have := Option.some.inj e; omega)
  have b3 : BoxAt w3 (w1.heap.size + 1) (vw5 dV (.slice (some ⟨bu, 0, none⟩) 2 2)) 31 := c3
  have hns3 := hns.ext hX3
  have hE3 := hE1.trans hX3
  clear c2 c3 g2 g3 hX2 hX3 hns hE1
  refine wp_region_in 8 [(3, fun v y => ∃ b v', v = .agg #[.string ⟨#[109]⟩, .int .i64 0, .slice (some ⟨b, 0, none⟩) 1 1] ∧ RowsT y (.slice (some ⟨b, 0, none⟩) 1 1) [(kRow ⟨⟨#[120]⟩, false, 5, 0⟩, v')]), (5, fun v y => ∃ b v', v = .agg #[.string ⟨#[109]⟩, .int .i64 0, .slice (some ⟨b, 0, none⟩) 1 1] ∧ RowsT y (.slice (some ⟨b, 0, none⟩) 1 1) [(kRow ⟨⟨#[121]⟩, false, 6, 0⟩, v')]), (6, fun v y => ∃ L, PartsT y v L ∧ Hid (L.map Pa.data = outP [(⟨#[120]⟩, leftRo dV (kMir ⟨⟨#[120]⟩, false, 5, 0⟩) (kRow ⟨⟨#[121]⟩, false, 6, 0⟩) 0), (⟨#[121]⟩, kMir ⟨⟨#[121]⟩, false, 6, 0⟩)]))] (fun y => BoxAt y w1.heap.size #[.string ⟨#[116]⟩, .int .i64 1, .string ⟨#[112]⟩, .int .i64 1, .string ⟨#[107]⟩, .int .i64 2, .slice (some ⟨bs, 0, none⟩) 4 4] 28 ∧ BoxAt y (w1.heap.size + 1) (vw5 dV (.slice (some ⟨bu, 0, none⟩) 2 2)) 31 ∧ StrsIn y (.slice (some ⟨bu, 0, none⟩) 2 2) dNs ∧ Ext w y) (by kernel_rfl) (by kernel_rfl) (by kernel_rfl) ⟨fun _ _ _ hE ⟨b, v', e, h⟩ => ⟨b, v', e, h.ext hE⟩, fun _ _ _ hE ⟨b, v', e, h⟩ => ⟨b, v', e, h.ext hE⟩, fun _ _ _ hE ⟨L, h, hd⟩ => ⟨L, h.ext hE, hd⟩, trivial⟩ ⟨b2, b3, hns3, hE3⟩ ?_
  clear b2 b3 hns3 hE3
  rintro w4 ⟨b2, b3, hns, hE⟩
  have FIN : Hid (∀ wx, Ext w4 wx → BoxAt wx w1.heap.size #[.string ⟨#[116]⟩, .int .i64 1, .string ⟨#[112]⟩, .int .i64 1, .string ⟨#[107]⟩, .int .i64 2, .slice (some ⟨bs, 0, none⟩) 4 4] 28 ∧ BoxAt wx (w1.heap.size + 1) (vw5 dV (.slice (some ⟨bu, 0, none⟩) 2 2)) 31 ∧ StrsIn wx (.slice (some ⟨bu, 0, none⟩) 2 2) dNs ∧ Ext w wx) := fun wx h => ⟨b2.ext h, b3.ext h, hns.ext h, hE.trans h⟩
  obtain ⟨q0, q1, q2, q3, q4⟩ := b3.vw
  have t0 : w4.cell? ⟨w1.heap.size, 0, none⟩ = some (.string ⟨#[116]⟩) := b2.cell 0
  have t1 : w4.cell? ⟨w1.heap.size, 1, none⟩ = some (.int .i64 1) := b2.cell 1
  have t2 : w4.cell? ⟨w1.heap.size, 2, none⟩ = some (.string ⟨#[112]⟩) := b2.cell 2
  have t3 : w4.cell? ⟨w1.heap.size, 3, none⟩ = some (.int .i64 1) := b2.cell 3
  have t4 : w4.cell? ⟨w1.heap.size, 4, none⟩ = some (.string ⟨#[107]⟩) := b2.cell 4
  have t5 : w4.cell? ⟨w1.heap.size, 5, none⟩ = some (.int .i64 2) := b2.cell 5
  have t6 : w4.cell? ⟨w1.heap.size, 6, none⟩ = some (.slice (some ⟨bs, 0, none⟩) 4 4) := b2.cell 6
  clear b2 b3 hE
  replace q0 := held q0
  replace q1 := held q1
  replace q2 := held q2
  replace q3 := held q3
  replace q4 := held q4
  replace t0 := held t0
  replace t1 := held t1
  replace t2 := held t2
  replace t3 := held t3
  replace t4 := held t4
  replace t5 := held t5
  replace t6 := held t6
  refine rg_quiet rfl rfl rfl rfl ?_; intro K hK; go_big_quiet_op; go_big_quiet_on
  refine rg_quiet rfl rfl rfl rfl ?_; intro K hK; go_big_quiet_op; go_big_quiet_on
  refine rg_quiet rfl rfl rfl rfl ?_; intro K hK; go_big_quiet_op; go_big_quiet_on
  refine rg_fact [] rfl rfl rfl (by kernel_rfl) (fun w1 hE hf => ?_) (fun v3 w1 hE hG h3 => ?_)
  · go_simp
    refine (one19_any ⟨#[120]⟩ 5 w1).mono ?_
    rintro e w3 ⟨b, v', he, hr, hE3⟩
    exact ⟨_, he, rg_doneR hE hE3 ⟨b, rfl, v', hr⟩⟩
  obtain ⟨bo, vo, rfl, h3⟩ := h3
  simp only [Act.put, List.setIfInBounds_toArray, List.set_cons_zero, List.set_cons_succ]
  clear hE hG h3 w1
  refine rg_quiet rfl rfl rfl rfl ?_; intro K hK; go_big_quiet_op; go_big_quiet_on
  refine rg_fact [] rfl rfl rfl (by kernel_rfl) (fun w1 hE hf => ?_) (fun v3 w1 hE hG h3 => ?_)
  · go_simp
    refine (one19_any ⟨#[121]⟩ 6 w1).mono ?_
    rintro e w3 ⟨b, v', he, hr, hE3⟩
    exact ⟨_, he, rg_doneR hE hE3 ⟨b, rfl, v', hr⟩⟩
  obtain ⟨bn, vn, rfl, h3⟩ := h3
  simp only [Act.put, List.setIfInBounds_toArray, List.set_cons_zero, List.set_cons_succ]
  clear hE hG h3 w1
  refine rg_fact [3, 5] rfl rfl rfl (by kernel_rfl) (fun w1 hE hf => ?_) (fun v3 w1 hE hG h3 => ?_)
  · obtain ⟨b3, v3', e3, h3⟩ := (hf 3 (by simp)).1.2 rfl
    obtain ⟨b5, v5', e5, h5⟩ := (hf 5 (by simp)).2 rfl
    cases e3
    cases e5
    go_simp
    have hd : outP (deltaRs dV dNs ⟨#[109]⟩ 0 ⟨#[109]⟩ 0 ([(kRow ⟨⟨#[120]⟩, false, 5, 0⟩, v3')].map (·.1)) ([(kRow ⟨⟨#[121]⟩, false, 6, 0⟩, v5')].map (·.1))) = outP [(⟨#[120]⟩, leftRo dV (kMir ⟨⟨#[120]⟩, false, 5, 0⟩) (kRow ⟨⟨#[121]⟩, false, 6, 0⟩) 0), (⟨#[121]⟩, kMir ⟨⟨#[121]⟩, false, 6, 0⟩)] := by
      show outP (deltaRs dV dNs ⟨#[109]⟩ 0 ⟨#[109]⟩ 0 [kRow ⟨⟨#[120]⟩, false, 5, 0⟩] [kRow ⟨⟨#[121]⟩, false, 6, 0⟩]) = _
      rw [delta_k, mir_k _ (by decide), mir_k _ (by decide)]
      show outP (if eqB (⟨#[120]⟩ : ByteArray) ⟨#[121]⟩ then _ else _) = _
      rw [eqB_false (by decide)]
      rfl
    refine (deltaOf_any (.slice (some ⟨bs, 0, none⟩) 4 4) dV (.slice (some ⟨bu, 0, none⟩) 2 2) dNs ⟨#[109]⟩ 0 _ _ ⟨#[109]⟩ 0 _ _ w1 h3.rows h5.rows (hns.ext hE) (one_few _ _) (one_few _ _) (by show 1 ≤ 10000; decide) (by decide) (by decide) (one_keys _ _)).mono ?_
    rintro e w3 ⟨v', he, L, hown, hrows, hdata, hE3⟩
    exact ⟨_, he, rg_doneR hE hE3 ⟨L, ⟨TIn.own hown, hrows⟩, hdata.trans hd⟩⟩
  obtain ⟨L, h3, HL⟩ := h3
  obtain ⟨ad, cd, rfl, hh1, hh2, hat⟩ := parts_at h3 HL.out
  obtain ⟨bd, br, cr, vm, rfl, hh⟩ := hat 0 (by show 0 < 2; decide)
  simp only [Act.put, List.setIfInBounds_toArray, List.set_cons_zero, List.set_cons_succ]
  clear hE hG h3 HL hat hh hh1 hh2 w1 L
  refine rg_quiet rfl rfl rfl rfl ?_; intro K hK; go_big_quiet_op; go_big_quiet_on
  refine rel_nil fun w5 hE5 hG => ?_
  obtain ⟨L, h3, HL⟩ := (hG 6).2 rfl
  obtain ⟨ad, cd', e, _, _, hat⟩ := parts_at h3 HL.out
  cases e
  obtain ⟨b2, br', cr', vm', e, x0, x2, hro, _⟩ := hat 0 (by show 0 < 2; decide)
  cases e
  obtain ⟨b2, br2, cr2, vm2, e, y0, _, _, _⟩ := hat 1 (by show 1 < 2; decide)
  cases e
  have xs := hro.c6
  obtain ⟨f2, f3, hns5, hE5'⟩ := FIN.out w5 hE5
  clear q0 q1 q2 q3 q4 t0 t1 t2 t3 t4 t5 t6 FIN hG hat h3 HL hro hE5 hns
  replace x0 : w5.cell? ⟨bd, 0, none⟩ = some (.string ⟨#[120]⟩) := x0
  replace x2 : w5.cell? ⟨bd, 2, none⟩ = some (.slice (some ⟨br', 0, none⟩) 1 cr') := x2
  replace xs : w5.cell? ⟨br', 6, none⟩ = some (.int .i64 5) := xs
  replace y0 : w5.cell? ⟨bd, 3, none⟩ = some (.string ⟨#[121]⟩) := y0
  show _
  go_wp2_with fail
  refine wp_region_in 47 [(39, fun v y => ∃ b v', v = .agg #[.string ⟨#[109]⟩, .int .i64 0, .slice (some ⟨b, 0, none⟩) 1 1] ∧ RowsT y (.slice (some ⟨b, 0, none⟩) 1 1) [(kRow ⟨⟨#[120]⟩, false, 5, 0⟩, v')]), (41, fun v y => ∃ b v', v = .agg #[.string ⟨#[109]⟩, .int .i64 0, .slice (some ⟨b, 0, none⟩) 1 1] ∧ RowsT y (.slice (some ⟨b, 0, none⟩) 1 1) [(kRow ⟨⟨#[120]⟩, false, 5, 0⟩, v')]), (42, fun v y => ∃ a c, v = .slice a 0 c)] (fun y => BoxAt y w1.heap.size #[.string ⟨#[116]⟩, .int .i64 1, .string ⟨#[112]⟩, .int .i64 1, .string ⟨#[107]⟩, .int .i64 2, .slice (some ⟨bs, 0, none⟩) 4 4] 28 ∧ BoxAt y (w1.heap.size + 1) (vw5 dV (.slice (some ⟨bu, 0, none⟩) 2 2)) 31 ∧ StrsIn y (.slice (some ⟨bu, 0, none⟩) 2 2) dNs ∧ Ext w y ∧ y.cell? ⟨bd, 0, none⟩ = some (.string ⟨#[120]⟩) ∧ y.cell? ⟨bd, 2, none⟩ = some (.slice (some ⟨br', 0, none⟩) 1 cr') ∧ y.cell? ⟨br', 6, none⟩ = some (.int .i64 5) ∧ y.cell? ⟨bd, 3, none⟩ = some (.string ⟨#[121]⟩)) (by kernel_rfl) (by kernel_rfl) (by kernel_rfl) ⟨fun _ _ _ hE ⟨b, v', e, h⟩ => ⟨b, v', e, h.ext hE⟩, fun _ _ _ hE ⟨b, v', e, h⟩ => ⟨b, v', e, h.ext hE⟩, fun _ _ _ _ h => h, trivial⟩ ⟨f2, f3, hns5, hE5', x0, x2, xs, y0⟩ ?_
  clear f2 f3 hns5 hE5' x0 x2 xs y0
  rintro w4 ⟨b2, b3, hns, hE, x0, x2, xs, y0⟩
  have FIN : Hid (∀ wx, Ext w4 wx → Ext w wx) := fun wx h => hE.trans h
  obtain ⟨q0, q1, q2, q3, q4⟩ := b3.vw
  have t0 : w4.cell? ⟨w1.heap.size, 0, none⟩ = some (.string ⟨#[116]⟩) := b2.cell 0
  have t1 : w4.cell? ⟨w1.heap.size, 1, none⟩ = some (.int .i64 1) := b2.cell 1
  have t2 : w4.cell? ⟨w1.heap.size, 2, none⟩ = some (.string ⟨#[112]⟩) := b2.cell 2
  have t3 : w4.cell? ⟨w1.heap.size, 3, none⟩ = some (.int .i64 1) := b2.cell 3
  have t4 : w4.cell? ⟨w1.heap.size, 4, none⟩ = some (.string ⟨#[107]⟩) := b2.cell 4
  have t5 : w4.cell? ⟨w1.heap.size, 5, none⟩ = some (.int .i64 2) := b2.cell 5
  have t6 : w4.cell? ⟨w1.heap.size, 6, none⟩ = some (.slice (some ⟨bs, 0, none⟩) 4 4) := b2.cell 6
  clear b2 b3 hE
  replace q0 := held q0
  replace q1 := held q1
  replace q2 := held q2
  replace q3 := held q3
  replace q4 := held q4
  replace t0 := held t0
  replace t1 := held t1
  replace t2 := held t2
  replace t3 := held t3
  replace t4 := held t4
  replace t5 := held t5
  replace t6 := held t6
  replace x0 := held x0
  replace x2 := held x2
  replace xs := held xs
  replace y0 := held y0
  refine rg_quiet rfl rfl rfl rfl ?_; intro K hK; go_big_quiet_op; go_big_quiet_on
  refine rg_quiet rfl rfl rfl rfl ?_; intro K hK; go_big_quiet_op; go_big_quiet_on
  refine rg_quiet rfl rfl rfl rfl ?_; intro K hK; go_big_quiet_op; go_big_quiet_on
  refine rg_quiet rfl rfl rfl rfl ?_; intro K hK; go_big_quiet_op; go_big_quiet_on
  refine rg_quiet rfl rfl rfl rfl ?_; intro K hK; go_big_quiet_op; go_big_quiet_on
  refine rg_quiet rfl rfl rfl rfl ?_; intro K hK; go_big_quiet_op; go_big_quiet_on
  refine rg_quiet rfl rfl rfl rfl ?_; intro K hK; go_big_quiet_op; go_big_quiet_on
  refine rg_quiet rfl rfl rfl rfl ?_; intro K hK; go_big_quiet_op; go_big_quiet_on
  refine rg_quiet rfl rfl rfl rfl ?_; intro K hK; go_big_quiet_op; go_big_quiet_on
  refine rg_quiet rfl rfl rfl rfl ?_; intro K hK; go_big_quiet_op; go_big_quiet_on
  refine rg_quiet rfl rfl rfl rfl ?_; intro K hK; go_big_quiet_op; go_big_quiet_on
  refine rg_quiet rfl rfl rfl rfl ?_; intro K hK; go_big_quiet_op; go_big_quiet_on
  refine rg_quiet rfl rfl rfl rfl ?_; intro K hK; go_big_quiet_op; go_big_quiet_on
  refine rg_quiet rfl rfl rfl rfl ?_; intro K hK; go_big_quiet_op; go_big_quiet_on
  refine rg_quiet rfl rfl rfl rfl ?_; intro K hK; go_big_quiet_op; go_big_quiet_on
  refine rg_quiet rfl rfl rfl rfl ?_; intro K hK; go_big_quiet_op; go_big_quiet_on
  refine rg_quiet rfl rfl rfl rfl ?_; intro K hK; go_big_quiet_op; go_big_quiet_on
  refine rg_quiet rfl rfl rfl rfl ?_; intro K hK; go_big_quiet_op; go_big_quiet_on
  refine rg_quiet rfl rfl rfl rfl ?_; intro K hK; go_big_quiet_op; go_big_quiet_on
  refine rg_quiet rfl rfl rfl rfl ?_; intro K hK; go_big_quiet_op; go_big_quiet_on
  refine rg_quiet rfl rfl rfl rfl ?_; intro K hK; go_big_quiet_op; go_big_quiet_on
  refine rg_quiet rfl rfl rfl rfl ?_; intro K hK; go_big_quiet_op; go_big_quiet_on
  refine rg_quiet rfl rfl rfl rfl ?_; intro K hK; go_big_quiet_op; go_big_quiet_on
  refine rg_quiet rfl rfl rfl rfl ?_; intro K hK; go_big_quiet_op; go_big_quiet_on
  refine rg_quiet rfl rfl rfl rfl ?_; intro K hK; go_big_quiet_op; go_big_quiet_on
  refine rg_quiet rfl rfl rfl rfl ?_; intro K hK; go_big_quiet_op; go_big_quiet_on
  refine rg_quiet rfl rfl rfl rfl ?_; intro K hK; go_big_quiet_op; go_big_quiet_on
  refine rg_quiet rfl rfl rfl rfl ?_; intro K hK; go_big_quiet_op; go_big_quiet_on
  refine rg_quiet rfl rfl rfl rfl ?_; intro K hK; go_big_quiet_op; go_big_quiet_on
  refine rg_quiet rfl rfl rfl rfl ?_; intro K hK; go_big_quiet_op; go_big_quiet_on
  refine rg_quiet rfl rfl rfl rfl ?_; intro K hK; go_big_quiet_op; go_big_quiet_on
  refine rg_quiet rfl rfl rfl rfl ?_; intro K hK; go_big_quiet_op; go_big_quiet_on
  refine rg_quiet rfl rfl rfl rfl ?_; intro K hK; go_big_quiet_op; go_big_quiet_on
  refine rg_quiet rfl rfl rfl rfl ?_; intro K hK; go_big_quiet_op; go_big_quiet_on
  refine rg_quiet rfl rfl rfl rfl ?_; intro K hK; go_big_quiet_op; go_big_quiet_on
  refine rg_quiet rfl rfl rfl rfl ?_; intro K hK; go_big_quiet_op; go_big_quiet_on
  refine rg_quiet rfl rfl rfl rfl ?_; intro K hK; go_big_quiet_op; go_big_quiet_on
  refine rg_quiet rfl rfl rfl rfl ?_; intro K hK; go_big_quiet_op; go_big_quiet_on
  refine rg_quiet rfl rfl rfl rfl ?_; intro K hK; go_big_quiet_op; go_big_quiet_on
  refine rg_fact [] rfl rfl rfl (by kernel_rfl) (fun w1 hE hf => ?_) (fun v3 w1 hE hG h3 => ?_)
  · go_simp
    refine (one19_any ⟨#[120]⟩ 5 w1).mono ?_
    rintro e w3 ⟨b, v', he, hr, hE3⟩
    exact ⟨_, he, rg_doneR hE hE3 ⟨b, rfl, v', hr⟩⟩
  obtain ⟨bo, vo, rfl, h3⟩ := h3
  simp only [Act.put, List.setIfInBounds_toArray, List.set_cons_zero, List.set_cons_succ]
  clear hE hG h3 w1
  refine rg_quiet rfl rfl rfl rfl ?_; intro K hK; go_big_quiet_op; go_big_quiet_on
  refine rg_fact [] rfl rfl rfl (by kernel_rfl) (fun w1 hE hf => ?_) (fun v3 w1 hE hG h3 => ?_)
  · go_simp
    refine (one19_any ⟨#[120]⟩ 5 w1).mono ?_
    rintro e w3 ⟨b, v', he, hr, hE3⟩
    exact ⟨_, he, rg_doneR hE hE3 ⟨b, rfl, v', hr⟩⟩
  obtain ⟨bn, vn, rfl, h3⟩ := h3
  simp only [Act.put, List.setIfInBounds_toArray, List.set_cons_zero, List.set_cons_succ]
  clear hE hG h3 w1
  refine rg_fact [39, 41] rfl rfl rfl (by kernel_rfl) (fun w1 hE hf => ?_) (fun v3 w1 hE hG h3 => ?_)
  · obtain ⟨b3, v3', e3, h3⟩ := (hf 39 (by simp)).1.2 rfl
    obtain ⟨b5, v5', e5, h5⟩ := (hf 41 (by simp)).2 rfl
    cases e3
    cases e5
    go_simp
    refine (deltaOf_any (.slice (some ⟨bs, 0, none⟩) 4 4) dV (.slice (some ⟨bu, 0, none⟩) 2 2) dNs ⟨#[109]⟩ 0 _ _ ⟨#[109]⟩ 0 _ _ w1 h3.rows h5.rows (hns.ext hE) (one_few _ _) (one_few _ _) (by show 1 ≤ 10000; decide) (by decide) (by decide) (one_keys _ _)).mono ?_
    rintro e w3 ⟨v', he, L, hown, hrows, hdata, hE3⟩
    have hd : outP (deltaRs dV dNs ⟨#[109]⟩ 0 ⟨#[109]⟩ 0 ([(kRow ⟨⟨#[120]⟩, false, 5, 0⟩, v3')].map (·.1)) ([(kRow ⟨⟨#[120]⟩, false, 5, 0⟩, v5')].map (·.1))) = [] := by
      show outP (deltaRs dV dNs ⟨#[109]⟩ 0 ⟨#[109]⟩ 0 [kRow ⟨⟨#[120]⟩, false, 5, 0⟩] [kRow ⟨⟨#[120]⟩, false, 5, 0⟩]) = _
      rw [delta_k, mir_k _ (by decide)]
      show outP (if eqB (⟨#[120]⟩ : ByteArray) ⟨#[120]⟩ then (if eqB _ _ then [] else _) else _) = _
      rw [eqB_true rfl, if_pos rfl, eqB_true rfl]
      rfl
    have hL : L = [] := by
      have := hdata.trans hd
      exact List.map_eq_nil_iff.1 this
    subst hL
    obtain ⟨a, c, rfl⟩ := own_shape hown
    exact ⟨_, he, rg_doneR hE hE3 ⟨a, c, rfl⟩⟩
  obtain ⟨ae, ce, rfl⟩ := h3
  simp only [Act.put, List.setIfInBounds_toArray, List.set_cons_zero, List.set_cons_succ]
  clear hE hG w1
  refine rg_quiet rfl rfl rfl rfl ?_; intro K hK; go_big_quiet_op; go_big_quiet_on
  refine rg_quiet rfl rfl rfl rfl ?_; intro K hK; go_big_quiet_op; go_big_quiet_on
  refine rg_quiet rfl rfl rfl rfl ?_; intro K hK; go_big_quiet_op; go_big_quiet_on
  refine rg_quiet rfl rfl rfl rfl ?_; intro K hK; go_big_quiet_op; go_big_quiet_on
  refine rel_nil fun w5 hE5 hG => ?_
  have hE6 := FIN.out w5 hE5
  clear q0 q1 q2 q3 q4 t0 t1 t2 t3 t4 t5 t6 x0 x2 xs y0 FIN hG hns
  go_wp2_with fail
  go_ret
  exact ⟨rfl, hE6⟩
end Go.Proofs.YtolkhjdododdaaaGreat

/- DeltaOrphans: one step of its base (the closure of the law). -/
namespace Go.Proofs.YtolkhjdododdaaaGreat
open Go Go.RowKit
attribute [local go_sem] yields yUpon ro8 pa3 vw5 tabV viewV

/-- The law's memory: w is where it began, w0 where all its boxes were made. -/
structure LS (w w0 : World) (bb bo bv : Nat) (pg : Int) (pv : Value) (ps : List (Ro × Value)) (vv : Value) (V : List Pa) (y : World) : Prop where
  ext : Ext w y
  keep : ∀ q cs T, BoxAt w0 q cs T → q ≠ bb → q ≠ bo → q ≠ bv → BoxAt y q cs T
  base : BoxAt y bb (pa3 ⟨#[109]⟩ pg pv) 39
  ok : BoxAt y bo #[.bool true] 4
  view : BoxAt y bv #[vv] 35
  own : y.ownsRow w0.heap.size 39 3 vv V.length (paCells V)
  prow : RowsT y pv ps
  vrow : ∀ q ∈ V, RowsT y q.rv q.ps
  gone : ∀ q ∈ V, q.gone = 0
  size : w0.heap.size ≤ y.heap.size
section
variable {w w0 : World} {bb bo bv : Nat} {pg : Int} {pv : Value} {ps : List (Ro × Value)} {vv : Value} {V : List Pa}
theorem LS.ext' {y z : World} (hE : Ext y z) (h : LS w w0 bb bo bv pg pv ps vv V y) : LS w w0 bb bo bv pg pv ps vv V z :=
  ⟨h.ext.trans hE, fun q cs T h1 h2 h3 h4 => (h.keep q cs T h1 h2 h3 h4).ext hE, h.base.ext hE, h.ok.ext hE, h.view.ext hE, ownsRow_ext h.own hE, h.prow.ext hE, fun q hq => (h.vrow q hq).ext hE, h.gone, Nat.le_trans h.size hE.le⟩
end
/-- What of a world is kept while a view is put into. -/
structure KW (wL : World) (bo bv : Nat) (vv vv' : Value) (y : World) : Prop where
  keep : ∀ q cs T, BoxAt wL q cs T → q ≠ bo → q ≠ bv → vv.ownBlock ≠ some q → BoxAt y q cs T
  rows : ∀ v qs, RowsT wL v qs → RowsT y v qs
  own : ∀ q, vv'.ownBlock = some q → vv.ownBlock = some q ∨ wL.heap.size ≤ q
  size : wL.heap.size ≤ y.heap.size
theorem KW.parts {wL y : World} {bo bv : Nat} {vv vv' v : Value} {L : List Pa} (h : KW wL bo bv vv vv' y) (hp : PartsT wL v L) {Zo Zv : Array Value} (ho : BoxAt wL bo Zo 4) (hv : BoxAt wL bv Zv 35) (hne : ∀ q, v.ownBlock = some q → vv.ownBlock ≠ some q) : PartsT y v L := by
  refine ⟨?_, fun p hp' => h.rows _ _ (hp.rows p hp')⟩
  rcases hp.tin with ⟨rfl, h2, h3⟩ | ⟨b, c, Z, rfl, hb, h4⟩
  · exact .inl ⟨rfl, h2, h3⟩
  · exact .inr ⟨b, c, Z, rfl, h.keep _ _ _ hb (box_ne hb ho (by decide)) (box_ne hb hv (by decide)) (hne b rfl), h4⟩
section
variable {w w0 : World} {bb bo bv : Nat} {pg : Int} {pv : Value} {ps : List (Ro × Value)} {vv v' : Value} {V V' : List Pa} {y z : World}
theorem LS.put (h : LS w w0 bb bo bv pg pv ps vv V y) (hw0 : w.heap.size ≤ w0.heap.size) (hbb : bb < w0.heap.size) (hbo : w.heap.size ≤ bo ∧ bo < w0.heap.size) (hbv : w.heap.size ≤ bv ∧ bv < w0.heap.size) (hg : y.grownBy z vv.ownBlock) (hown : z.ownsRow w0.heap.size 39 3 v' V'.length (paCells V')) (hr : ∀ q ∈ V', RowsT z q.rv q.ps) (hg0 : ∀ q ∈ V', q.gone = 0) :
    LS w w0 bb bo bv pg pv ps v' V' ((z.setCell ⟨bv, 0, none⟩ v').setCell ⟨bo, 0, none⟩ (.bool true)) := by
  have ne : ∀ b, b < w0.heap.size → some b ≠ vv.ownBlock := fun b hb e => by have := (h.own.lt _ e.symm).1; omega
  have e1 := box_ne h.base h.ok (by decide)
  have e2 := box_ne h.base h.view (by decide)
  have e3 := box_ne h.ok h.view (by decide)
  have b1 := h.base.grown hg (ne _ hbb)
  have b2 := h.ok.grown hg (ne _ hbo.2)
  have b3 := h.view.grown hg (ne _ hbv.2)
  have b2' := b2.other e3 0 v'
  have b3' := b3.set 0 v'
  refine ⟨((h.ext.grown hg (fun q hq => Nat.le_trans hw0 (h.own.lt q hq).1)).setCell (p := ⟨bv, 0, none⟩) hbv.1 _).setCell (p := ⟨bo, 0, none⟩) hbo.1 _, fun q cs T h1 h2 h3 h4 => (((h.keep q cs T h1 h2 h3 h4).grown hg (ne q h1.lt)).other h4 0 _).other h3 0 _, (b1.other e2 0 _).other e1 0 _, b2'.set 0 _, b3'.other (Ne.symm e3) 0 _, ?_, ?_, fun q hq => ?_, hg0, ?_⟩
  · exact own_setCell (own_setCell hown (own_ne_box hown b3 (by decide))) (own_ne_box (own_setCell hown (own_ne_box hown b3 (by decide))) b2' (by decide))
  · exact ((h.prow.keepOwn h.own hg (by decide) (by decide)).set 0 _ b3 (by decide) (by decide)).set 0 _ b2' (by decide) (by decide)
  · exact ((hr q hq).set 0 _ b3 (by decide) (by decide)).set 0 _ b2' (by decide) (by decide)
  · rw [Deep.nblk_setCell, Deep.nblk_setCell]; exact Nat.le_trans h.size hg.size
theorem KW.put {wL : World} {vv0 : Value} (hK : KW wL bo bv vv0 vv y) (h : LS w w0 bb bo bv pg pv ps vv V y) (hbo : bo < w0.heap.size) (hbv : bv < w0.heap.size) (hg : y.grownBy z vv.ownBlock) (hob : ∀ k, v'.ownBlock = some k → vv.ownBlock = some k ∨ y.heap.size ≤ k) :
    KW wL bo bv vv0 v' ((z.setCell ⟨bv, 0, none⟩ v').setCell ⟨bo, 0, none⟩ (.bool true)) := by
  have ne : ∀ b, b < w0.heap.size → some b ≠ vv.ownBlock := fun b hb e => by have := (h.own.lt _ e.symm).1; omega
  have e3 := box_ne h.ok h.view (by decide)
  have b2 := h.ok.grown hg (ne _ hbo)
  have b3 := h.view.grown hg (ne _ hbv)
  have b2' := b2.other e3 0 v'
  refine ⟨fun q cs T h1 h2 h3 h4 => (((hK.keep q cs T h1 h2 h3 h4).grown hg (fun e => ?_)).other h3 0 _).other h2 0 _, fun v qs hr => (((hK.rows v qs hr).keepOwn h.own hg (by decide) (by decide)).set 0 _ b3 (by decide) (by decide)).set 0 _ b2' (by decide) (by decide), fun q hq => ?_, by rw [Deep.nblk_setCell, Deep.nblk_setCell]; exact Nat.le_trans hK.size hg.size⟩
  · rcases hK.own q e.symm with h5 | h5
    · exact h4 h5
    · have := h1.lt; omega
  · rcases hob q hq with h5 | h5
    · exact hK.own q h5
    · exact .inr (by have := hK.size; omega)
end
/-- What a step leaves behind. -/
def StepPost (w w0 : World) (bb bo bv : Nat) (p q : Dp) (V : List Pa) (e : Ending) (y' : World) : Prop :=
  (∃ z, e = .returned z) ∧ ∃ pv' ps' vv' V', LS w w0 bb bo bv (joinD p q).1 pv' ps' vv' V' y' ∧ ps'.map (·.1) = (joinD p q).2 ∧ viL V' = (stepL dV dNs ⟨#[109]⟩ p (joinD p q)).foldl putV (viL V)

set_option maxRecDepth 100000 in
set_option maxHeartbeats 16000000 in
theorem orphStep_any (bb bo bv bt bx bs bu : Nat) (p : Dp) (pv : Value) (ps : List (Ro × Value)) (vv : Value) (V : List Pa) (qg : Int) (au : Value) (qs : List (Ro × Value)) (w w0 y : World)
    (h : LS w w0 bb bo bv p.1 pv ps vv V y) (hps : ps.map (·.1) = p.2) (hbs : BsOk dV p) (hw1 : ∀ j, OnW dV dNs ⟨#[109]⟩ (((stepL dV dNs ⟨#[109]⟩ p (joinD p (qg, qs.map (·.1)))).take j).foldl putV (viL V))) (hqs : RowsT y au qs) (hq : BsOk dV (qg, qs.map (·.1)))
    (hw0 : w.heap.size ≤ w0.heap.size) (hbb : w.heap.size ≤ bb) (hbo : w.heap.size ≤ bo) (hbv : w.heap.size ≤ bv) {Zb Zo Zv : Array Value} (hb0 : BoxAt w0 bb Zb 39) (ho0 : BoxAt w0 bo Zo 4) (hv0 : BoxAt w0 bv Zv 35)
    (hbt : BoxAt w0 bt #[.string ⟨#[116]⟩, .int .i64 1, .string ⟨#[112]⟩, .int .i64 1, .string ⟨#[107]⟩, .int .i64 2, .slice (some ⟨bs, 0, none⟩) 4 4] 28) (hbx : BoxAt w0 bx (vw5 dV (.slice (some ⟨bu, 0, none⟩) 2 2)) 31)
    (hns : StrsIn w (.slice (some ⟨bu, 0, none⟩) 2 2) dNs) :
    Calls Tryz.prog 8 #[.agg #[.string ⟨#[109]⟩, .int .i64 qg, au], .pointer (some ⟨bb, 0, none⟩), .pointer (some ⟨bt, 0, none⟩), .pointer (some ⟨bx, 0, none⟩), .pointer (some ⟨bo, 0, none⟩), .pointer (some ⟨bv, 0, none⟩)] y
      fun e y' => StepPost w w0 bb bo bv p (qg, qs.map (·.1)) V e y' := by
  have b0 := BoxAt.made y #[.string ⟨#[109]⟩, .int .i64 qg, au] 39
  have hE0 := (Ext.refl y).alloc (.cells #[.string ⟨#[109]⟩, .int .i64 qg, au] 39)
  obtain ⟨J, hJ⟩ : ∃ J, J = joinD p (qg, qs.map (·.1)) := ⟨_, rfl⟩
  obtain ⟨hJok, hJle⟩ := hbs.join hq
  have hir := step_ir (ns := dNs) (pk := ⟨#[109]⟩) hbs hJok hJle
  have sp := hbs.small
  have sq := hq.small
  have sJ := hJok.small
  unfold StepPost
  rw [← hJ] at hJok hw1 sJ hir ⊢
  obtain ⟨S, hS⟩ : ∃ S, S = stepL dV dNs ⟨#[109]⟩ p J := ⟨_, rfl⟩
  rw [← hS] at hw1 hir ⊢
  have HIR := Lib.hid hir
  have HS := Lib.hid hS
  have hJf : foldG keyR foldRo (ps.map (·.1)) (qs.map (·.1)) = J.2 := by
    rw [hps, hJ]
    exact fold_merge hbs.ok.good hq.ok.good
  have hJ1 : max p.1 qg = J.1 := by rw [hJ]; rfl
  obtain ⟨pg, hpg⟩ : ∃ g, g = p.1 := ⟨_, rfl⟩
  obtain ⟨jg, hjg⟩ : ∃ g, g = J.1 := ⟨_, rfl⟩
  rw [← hpg] at h hJ1
  rw [← hjg] at hJ1 ⊢
  have HPG := Lib.hid hpg
  have HJG := Lib.hid hjg
  have HJ1 := Lib.hid hJ1
  have lps : ps.length ≤ 4 := by have := sp.1; rw [← hps, List.length_map] at this; exact this
  have lqs : qs.length ≤ 4 := by have := sq.1; simpa using this
  have cps : ∀ r ∈ ps, r.1.cols.length ≤ 5 := fun r hr => sp.2 r.1 (by rw [← hps]; exact List.mem_map_of_mem hr)
  have cqs : ∀ r ∈ qs, r.1.cols.length ≤ 5 := fun r hr => sq.2 r.1 (List.mem_map_of_mem hr)
  have HJF := Lib.hid hJf
  have HJOK := Lib.hid hJok
  have HSJ := Lib.hid sJ
  have HW1 := Lib.hid hw1
  have HPS := Lib.hid hps
  have HCP := Lib.hid cps
  have HCQ := Lib.hid cqs
  obtain ⟨aq, cq, rfl⟩ := hqs.shape
  obtain ⟨ap, cp, rfl⟩ := h.prow.shape
  obtain ⟨nq, hnq⟩ : ∃ n, n = qs.length := ⟨_, rfl⟩
  obtain ⟨np, hnp⟩ : ∃ n, n = ps.length := ⟨_, rfl⟩
  rw [← hnq] at b0 hE0 hqs ⊢
  rw [← hnp] at h
  obtain ⟨x0, x1, x2⟩ := (h.base.ext hE0).pa
  obtain ⟨y0, y1, y2⟩ := BoxAt.pa (k := ⟨#[109]⟩) (g := qg) (u := .slice aq nq cq) b0
  have h0 := h.ext' hE0
  have hqs0 := hqs.ext hE0
  clear hpg hjg hJ1 hir hS hJ hJf hJok hw1 sp sq sJ hps cps cqs hnq hnp hqs
  go_enter Tryz.func8, Tryz.ntmps8
  go_wp2_with fail
  generalize World.alloc y _ = y1w at b0 hE0 x0 x1 x2 y0 y1 y2 h0 hqs0 ⊢
  refine (join8_any ⟨#[109]⟩ ⟨#[109]⟩ pg qg _ _ ps qs y1w h0.prow.rows hqs0.rows (by omega) (by omega) (fun r hr => by have := HCP.out r hr; omega) (fun r hr => by have := HCQ.out r hr; omega)).mono ?_
  rw [HJF.out, HJ1.out]
  rintro e w2 ⟨hE2, hjp⟩
  rcases hjp with ⟨_, v2, rfl, js, hjs, hjm⟩ | ⟨hbad, _⟩
  rotate_left
  · exfalso
    have := HSJ.out.1
    omega
  obtain ⟨a2, c2, rfl⟩ := hjs.shape
  have h2 := h0.ext' hE2
  have ljs : js.length ≤ 4 := by have := HSJ.out.1; rw [← hjm, List.length_map] at this; exact this
  have cjs : ∀ r ∈ js, r.1.cols.length ≤ 5 := fun r hr => HSJ.out.2 r.1 (by rw [← hjm]; exact List.mem_map_of_mem hr)
  have kjs : ∀ r ∈ js, ∃ i, i < 4 ∧ r.1.key = ik i := fun r hr => HJOK.out.keys r.1 (by rw [← hjm]; exact List.mem_map_of_mem hr)
  have HJM := Lib.hid hjm
  have HCJ := Lib.hid cjs
  have HKJ := Lib.hid kjs
  obtain ⟨nj, hnj⟩ : ∃ n, n = js.length := ⟨_, rfl⟩
  rw [← hnj] at hjs ⊢
  have HNJ := Lib.hid hnj
  clear hjm cjs kjs hnj x0 x1 x2 y0 y1 y2
  have hnvv : vv.ownBlock ≠ some w2.heap.size := fun e => by have := (h2.own.lt _ e).2; omega
  have hnbo : w2.heap.size ≠ bo := by have := ho0.lt; have := h2.size; omega
  have hnbv : w2.heap.size ≠ bv := by have := hv0.lt; have := h2.size; omega
  have hnb := h2.ext
  go_wp2_with (((guard_target =~ wpList _ _ _ (Oper.mk none (Op.store _ (Operand.tmp 7) (Operand.tmp 15)) _ _ _ _ :: _) _ _); go_must (refine storeBox rfl 39 (.tmp 7) (.tmp 15) rfl (w2.heap.size) _ _ _ (by rfl) (by rfl) ((BoxAt.made w2 (pa3 ⟨#[]⟩ 0 (.slice none 0 0)) 39)) (by kernel_rfl) (by rfl) (by simp [Value.oneCell']) ?_); intro w3 d3 g3); have hX3 : Ext w2 w3 := ((Ext.refl w2).alloc _).grown g3 (fun q hq => by cases hq; omega); have h3 := h2.ext' hX3; have p3 := d3.pa (k := ⟨#[109]⟩) (g := jg) (u := .slice a2 nj c2); have q3 := h3.base.pa; have v3 := (h3.keep _ _ _ hbx (box_ne hbx hb0 (by decide)) (box_ne hbx ho0 (by decide)) (box_ne hbx hv0 (by decide))).vw; have tb3 := h3.keep _ _ _ hbt (box_ne hbt hb0 (by decide)) (box_ne hbt ho0 (by decide)) (box_ne hbt hv0 (by decide)); have s0 : w3.cell? ⟨bt, 0, none⟩ = some (.string ⟨#[116]⟩) := tb3.cell 0; have s1 : w3.cell? ⟨bt, 1, none⟩ = some (.int .i64 1) := tb3.cell 1; have s2 : w3.cell? ⟨bt, 2, none⟩ = some (.string ⟨#[112]⟩) := tb3.cell 2; have s3 : w3.cell? ⟨bt, 3, none⟩ = some (.int .i64 1) := tb3.cell 3; have s4 : w3.cell? ⟨bt, 4, none⟩ = some (.string ⟨#[107]⟩) := tb3.cell 4; have s5 : w3.cell? ⟨bt, 5, none⟩ = some (.int .i64 2) := tb3.cell 5; have s6 : w3.cell? ⟨bt, 6, none⟩ = some (.slice (some ⟨bs, 0, none⟩) 4 4) := tb3.cell 6)
  have hjs3 := hjs.ext hX3
  have f3 : BoxAt w3 w2.heap.size (pa3 ⟨#[109]⟩ jg (.slice a2 nj c2)) 39 := d3
  refine (deltaOf_any (.slice (some ⟨bs, 0, none⟩) 4 4) dV (.slice (some ⟨bu, 0, none⟩) 2 2) dNs ⟨#[109]⟩ pg _ ps ⟨#[109]⟩ jg _ js w3 h3.prow.rows hjs3.rows (hns.ext h3.ext) (fun r hr => by have := HCP.out r hr; omega) (fun r hr => by have := HCJ.out r hr; omega) (by omega) (by decide) (by decide) (fun r hr => by
    obtain ⟨i, hi, e⟩ := HKJ.out r hr
    obtain ⟨z1, z2⟩ := ik_small9 i hi
    rw [e]
    exact ⟨by omega, z2, z2⟩)).mono ?_
  rintro e w4 ⟨v4, rfl, L4, hown4, hrs4, hdata4, hE4⟩
  have hpt4 : PartsT w4 v4 L4 := ⟨TIn.own hown4, hrs4⟩
  have hS := HS.out
  have hd4 : L4.map Pa.data = outP S := by
    rw [hS]
    unfold stepL
    rw [← HPG.out, ← HJG.out, ← HPS.out, ← HJM.out]
    exact hdata4
  have hSl : S.length ≤ 8 := by
    rw [hS]
    have := step_len (x := dV) (ns := dNs) (pk := ⟨#[109]⟩) p J
    have := HSJ.out.1
    omega
  obtain ⟨hLS, hat4⟩ := outP_at hd4
  have HLS := Lib.hid hLS
  have h4 := h3.ext' hE4
  have f4 := f3.ext hE4
  have hjs4 := hjs3.ext hE4
  obtain ⟨n4, hn4⟩ : ∃ n, n = L4.length := ⟨_, rfl⟩
  have hfar : ∀ q, v4.ownBlock = some q → vv.ownBlock ≠ some q := fun q e1 e2 => by
    have h5 := (hown4.lt q e1).1
    have h6 := (h3.own.lt q e2).2
    omega
  obtain ⟨av, cv, rfl⟩ := own_shape h4.own
  obtain ⟨a4, c4, rfl⟩ := own_shape hown4
  rw [← hn4] at hpt4 hfar ⊢
  have HAT := Lib.hid hat4
  have HFAR := Lib.hid hfar
  have HN4 := Lib.hid hn4
  have hvl := h4.view.cell 0
  clear hLS hown4 hrs4 hdata4 hd4 hat4 hfar hS p3 q3 v3 tb3 s0 s1 s2 s3 s4 s5 s6 d3 g3 f3 hjs3 h3 h2 h0 hjs hE2 hX3 hE4 hnb b0 hE0 hqs0 hn4
  have hK4 : KW w4 bo bv (.slice av V.length cv) (.slice av V.length cv) w4 := ⟨fun _ _ _ h _ _ _ => h, fun _ _ h => h, fun _ h => .inl h, Nat.le_refl _⟩
  have ho4 := h4.ok
  have hv4 := h4.view
  obtain ⟨nV, hnV⟩ : ∃ n, n = V.length := ⟨_, rfl⟩
  go_wp2_with fail
  go_loopw [10] (fun i wr => ∃ (k : Nat) (vv' : Value) (V' : List Pa), k ≤ n4 ∧ i = .int .i64 k ∧ LS w w0 bb bo bv pg (.slice ap np cp) ps vv' V' wr ∧ Hid (viL V' = (S.take k).foldl putV (viL V)) ∧ KW w4 bo bv (.slice av V.length cv) vv' wr) (fun i _ => n4 - (intOf i).toNat)
  case atStart => exact ⟨0, _, V, Nat.zero_le _, rfl, h4, rfl, hK4⟩
  case round =>
    obtain ⟨k, vv', V', hk, rfl, hr, HV, hK⟩ := hrel
    by_cases hlt : k < n4
    · have hki : decide ((k : Int) < (n4 : Int)) = true := by simpa using hlt
      have hokc := hr.ok.cell 0
      obtain ⟨av', cv', rfl⟩ := own_shape hr.own
      have hptr := hK.parts hpt4 ho4 hv4 HFAR.out
      have hkL : k < L4.length := by rw [← HN4.out]; exact hlt
      have hkS : k < S.length := by rw [← HLS.out]; exact hkL
      obtain ⟨aa, ca, ea, _, _, hgA⟩ := hptr.get
      injection ea with ea1 ea2 ea3
      subst ea1 ea3
      clear ea2
      obtain ⟨g, rfl, hat⟩ := hgA k hkL
      obtain ⟨k1, k2, k3⟩ := HAT.out k hkL hkS
      have hQr := hptr.rows _ (List.getElem_mem hkL)
      obtain ⟨Q, hQ⟩ : ∃ Q, Q = L4[k] := ⟨_, rfl⟩
      rw [← hQ] at hat k1 k2 k3 hQr
      obtain ⟨Qk, Qg, Qrv, Qps⟩ := Q
      simp only at hat k1 k2 k3 hQr
      subst k2
      obtain ⟨aq, cq, rfl⟩ := hQr.shape
      obtain ⟨g0, g1, g2⟩ := hat
      simp only at g0 g1 g2
      clear hQ hgA
      go_wp2_with fail
      have hrd := hr.ext' (Ext.refl wr).drew
      have q0 : wr.drew.cell? ⟨bv, 0, none⟩ = some (.slice av' V'.length cv') := hrd.view.cell 0
      replace g0 : wr.drew.cell? ⟨g, k * 3, none⟩ = some (.string S[k].1) := by rw [← k1]; exact g0
      replace g1 : wr.drew.cell? ⟨g, k * 3 + 1, none⟩ = some (.int .i64 0) := g1
      replace g2 : wr.drew.cell? ⟨g, k * 3 + 2, none⟩ = some (.slice aq Qps.length cq) := g2
      refine wp_region_any (by kernel_rfl) ?_
      change wpAny _ _ _ _ _ _ _ (World.drew _)
      refine wpAny_take (i := 1) (v := ?v1) rfl (by kernel_rfl) (by kernel_rfl) (by kernel_rfl) (fun _ _ _ h => h) (Or.inl ⟨by rfl, ?y1⟩) ?_
      case y1 => intro w; go_simp; try with_reducible rfl
      refine wpAny_take (i := 2) (v := ?v2) rfl (by kernel_rfl) (by kernel_rfl) (by kernel_rfl) (fun _ _ _ h => h) (Or.inl ⟨by rfl, ?y2⟩) ?_
      case y2 => intro w; go_simp; try with_reducible rfl
      refine wpAny_take (i := 3) (v := ?v3) rfl (by kernel_rfl) (by kernel_rfl) (by kernel_rfl) (fun _ _ _ h => h) (Or.inl ⟨by rfl, ?y3⟩) ?_
      case y3 => intro w; go_simp; try with_reducible rfl
      have hway := HW1.out k
      rw [← HV.out] at hway
      have hlen4 : V'.length ≤ 4 := by have := hway.len; simpa [viL] using this
      have hir := HIR.out S[k] (List.getElem_mem hkS)
      have hlc := NmL.len (x := dV) (fun c hc => (hir.cols c hc).1) hir.up
      have hPut := put19_any w0.heap.size (.slice av' V'.length cv') V' S[k].1 (.slice aq Qps.length cq) Qps S[k].2 wr.drew hrd.size hrd.own hrd.vrow hr.gone (hQr.ext (Ext.refl wr).drew).rows k3 (by omega) (fun q hq => hway.view.good _ (viL_mem hq)) hir.up (fun q hq r hrr => by
        have := (hway.view.rowsLen _ (viL_mem hq)).2 r.1 (List.mem_map_of_mem hrr)
        omega) (by omega) (fun q hq => by
        have := (hway.view.rowsLen _ (viL_mem hq)).1
        simp only [List.length_map] at this
        omega)
      have HPUT := Lib.hid hPut
      clear hPut
      have hK' : KW w4 bo bv (.slice av V.length cv) (.slice av' V'.length cv') wr.drew := ⟨fun q cs T h1 h2 h3 h5 => (hK.keep q cs T h1 h2 h3 h5).ext (Ext.refl wr).drew, fun v qs h1 => (hK.rows v qs h1).ext (Ext.refl wr).drew, hK.own, Nat.le_trans hK.size (Ext.refl wr).drew.le⟩
      refine wpAny_ready (rs := [0, 4]) (by kernel_rfl) (by simp) ?_
      refine AllReady.cons rfl (fun K hK => ?_) (AllReady.cons rfl (fun K hK => ?_) AllReady.nil)
      · go_simp
        refine hK _ _ ?_
        clear hK K
        refine wpAny_ready (rs := [4]) (by kernel_rfl) (by simp) ?_
        refine AllReady.cons rfl (fun K hK => ?_) AllReady.nil
        go_simp
        refine hK _ _ ?_
        clear hK K
        refine wpAny_ready (rs := [5]) (by kernel_rfl) (by simp) ?_
        refine AllReady.cons rfl (fun K hK => ?_) AllReady.nil
        go_simp
        refine HPUT.out.mono ?_
        rintro e w9 ⟨v9, V9, rfl, hown9, hr9, hg9, hv9, hgr9, hob9⟩
        obtain ⟨a9, c9, rfl⟩ := own_shape hown9
        have ne9 : ∀ b, b < w0.heap.size → some b ≠ (Value.slice av' V'.length cv').ownBlock := fun b hb e => by have := (hrd.own.lt _ e.symm).1; omega
        have z3 := hrd.view.grown hgr9 (ne9 _ hv0.lt)
        have z2 := hrd.ok.grown hgr9 (ne9 _ ho0.lt)
        have hne1 : ¬ bo = bv := box_ne z2 z3 (by decide)
        have hne2 : ¬ bv = bo := fun e => hne1 e.symm
        have u0 : w9.cell? ⟨bv, 0, none⟩ = some (.slice av' V'.length cv') := z3.cell 0
        have u1 : w9.cell? ⟨bo, 0, none⟩ = some (.bool true) := z2.cell 0
        have u2 := z3.free 0
        have u3 := z2.free 0
        go_simp
        refine hK _ _ ?_
        clear hK K
        refine wpAny_take (i := 6) (v := ?v6) rfl (by kernel_rfl) (by kernel_rfl) (by kernel_rfl) (fun _ _ _ h => h) (Or.inl ⟨by rfl, ?y6⟩) ?_
        case y6 => intro w; go_simp; try with_reducible rfl
        refine wpAny_take (i := 7) (v := ?v7) rfl (by kernel_rfl) (by kernel_rfl) (by kernel_rfl) (fun _ _ _ h => h) (Or.inl ⟨by rfl, ?y7⟩) ?_
        case y7 => intro w; go_simp; try with_reducible rfl
        refine wpAny_take (i := 8) (v := ?v8) rfl (by kernel_rfl) (by kernel_rfl) (by kernel_rfl) (fun _ _ _ h => h) (Or.inl ⟨by rfl, ?y8⟩) ?_
        case y8 => intro w; go_simp; try with_reducible rfl
        refine wpAny_ready (rs := [9]) (by kernel_rfl) (by simp) ?_
        refine AllReady.cons rfl (fun K hK => ?_) AllReady.nil
        go_simp
        refine hK _ _ ?_
        clear hK K
        refine wpAny_ready (rs := [10]) (by kernel_rfl) (by simp) ?_
        refine AllReady.cons rfl (fun K hK => ?_) AllReady.nil
        go_simp
        refine hK _ _ ?_
        clear hK K
        refine wpAny_done (by kernel_rfl) ?_ _
        go_wp2_with fail
        go_roundw
        case rel =>
          refine ⟨k + 1, _, V9, by omega, by go_num, hrd.put hw0 hb0.lt ⟨hbo, ho0.lt⟩ ⟨hbv, hv0.lt⟩ hgr9 hown9 hr9 hg9, ?_, (hK'.put hrd ho0.lt hv0.lt hgr9 hob9)⟩
          show _ = _
          rw [hv9, HV.out, foldl_take _ _ _ _ hkS]
        case measure => simp [intOf]; omega
      · go_simp
        refine hK _ _ ?_
        clear hK K
        refine wpAny_ready (rs := [0]) (by kernel_rfl) (by simp) ?_
        refine AllReady.cons rfl (fun K hK => ?_) AllReady.nil
        go_simp
        refine hK _ _ ?_
        clear hK K
        refine wpAny_ready (rs := [5]) (by kernel_rfl) (by simp) ?_
        refine AllReady.cons rfl (fun K hK => ?_) AllReady.nil
        go_simp
        refine HPUT.out.mono ?_
        rintro e w9 ⟨v9, V9, rfl, hown9, hr9, hg9, hv9, hgr9, hob9⟩
        obtain ⟨a9, c9, rfl⟩ := own_shape hown9
        have ne9 : ∀ b, b < w0.heap.size → some b ≠ (Value.slice av' V'.length cv').ownBlock := fun b hb e => by have := (hrd.own.lt _ e.symm).1; omega
        have z3 := hrd.view.grown hgr9 (ne9 _ hv0.lt)
        have z2 := hrd.ok.grown hgr9 (ne9 _ ho0.lt)
        have hne1 : ¬ bo = bv := box_ne z2 z3 (by decide)
        have hne2 : ¬ bv = bo := fun e => hne1 e.symm
        have u0 : w9.cell? ⟨bv, 0, none⟩ = some (.slice av' V'.length cv') := z3.cell 0
        have u1 : w9.cell? ⟨bo, 0, none⟩ = some (.bool true) := z2.cell 0
        have u2 := z3.free 0
        have u3 := z2.free 0
        go_simp
        refine hK _ _ ?_
        clear hK K
        refine wpAny_take (i := 6) (v := ?v6b) rfl (by kernel_rfl) (by kernel_rfl) (by kernel_rfl) (fun _ _ _ h => h) (Or.inl ⟨by rfl, ?y6b⟩) ?_
        case y6b => intro w; go_simp; try with_reducible rfl
        refine wpAny_take (i := 7) (v := ?v7b) rfl (by kernel_rfl) (by kernel_rfl) (by kernel_rfl) (fun _ _ _ h => h) (Or.inl ⟨by rfl, ?y7b⟩) ?_
        case y7b => intro w; go_simp; try with_reducible rfl
        refine wpAny_take (i := 8) (v := ?v8b) rfl (by kernel_rfl) (by kernel_rfl) (by kernel_rfl) (fun _ _ _ h => h) (Or.inl ⟨by rfl, ?y8b⟩) ?_
        case y8b => intro w; go_simp; try with_reducible rfl
        refine wpAny_ready (rs := [9]) (by kernel_rfl) (by simp) ?_
        refine AllReady.cons rfl (fun K hK => ?_) AllReady.nil
        go_simp
        refine hK _ _ ?_
        clear hK K
        refine wpAny_ready (rs := [10]) (by kernel_rfl) (by simp) ?_
        refine AllReady.cons rfl (fun K hK => ?_) AllReady.nil
        go_simp
        refine hK _ _ ?_
        clear hK K
        refine wpAny_done (by kernel_rfl) ?_ _
        go_wp2_with fail
        go_roundw
        case rel =>
          refine ⟨k + 1, _, V9, by omega, by go_num, hrd.put hw0 hb0.lt ⟨hbo, ho0.lt⟩ ⟨hbv, hv0.lt⟩ hgr9 hown9 hr9 hg9, ?_, (hK'.put hrd ho0.lt hv0.lt hgr9 hob9)⟩
          show _ = _
          rw [hv9, HV.out, foldl_take _ _ _ _ hkS]
        case measure => simp [intOf]; omega
    · obtain rfl : k = n4 := by omega
      have hki : decide ((k : Int) < (k : Int)) = false := by simp
      have e1 := box_ne hr.base hr.ok (by decide)
      have e2 := box_ne hr.base hr.view (by decide)
      have e3 := box_ne hr.ok hr.view (by decide)
      have o0 : wr.cell? ⟨bo, 0, none⟩ = some (.bool true) := hr.ok.cell 0
      have of := hr.ok.free 0
      have fr := hK.keep _ _ _ f4 hnbo hnbv hnvv
      obtain ⟨n0, n1, n2⟩ := (fr.other hnbo 0 (.bool true)).pa
      have hbase' := hr.base.other e1 0 (.bool true)
      have hne1 : ¬ w2.heap.size = bo := hnbo
      go_wp2_with (((guard_target =~ wpList _ _ _ (Oper.mk none (Op.store _ (Operand.tmp 1) (Operand.tmp 44)) _ _ _ _ :: _) _ _); go_must (refine storeBox rfl 39 (.tmp 1) (.tmp 44) rfl (bb) _ _ _ (by rfl) (by rfl) (hbase') (by kernel_rfl) (by rfl) (by simp [Value.oneCell']) ?_); intro w5 c5 g5))
      have hok' := hr.ok.set 0 (.bool true)
      have hv' := hr.view.other (Ne.symm e3) 0 (.bool true)
      have hown' := own_setCell (i := 0) (u := .bool true) hr.own (own_ne_box hr.own hr.ok (by decide))
      have hrows : ∀ v qs, RowsT wr v qs → RowsT w5 v qs := fun v qs h1 => (h1.set 0 (.bool true) hr.ok (by decide) (by decide)).keep g5 hbase' (by decide) (by decide)
      refine bodyPost_end (v := .tuple #[]) ?_ rfl ⟨⟨_, rfl⟩, _, js, vv', V', ⟨(hr.ext.setCell (p := ⟨bo, 0, none⟩) hbo (.bool true)).grown g5 (fun q hq => by cases hq; exact hbb), fun q cs T h1 h2 h3 h5 => ((hr.keep q cs T h1 h2 h3 h5).other h3 0 _).grown g5 (fun e => h2 (Option.some.inj e)), c5, hok'.grown g5 (fun e => e1 (Option.some.inj e).symm), hv'.grown g5 (fun e => e2 (Option.some.inj e).symm), hown'.kept g5 (.inr fun e => ?_), hrows _ _ (hK.rows _ _ hjs4), fun q hq => hrows _ _ (hr.vrow q hq), hr.gone, ?_⟩, HJM.out, ?_⟩
      · simp [results, Tryz.results8]
      · have := (hr.own.lt _ e).1
        have := hb0.lt
        omega
      · have h7 := g5.size
        rw [Deep.nblk_setCell] at h7
        exact Nat.le_trans hr.size h7
      · rw [HV.out, List.take_of_length_le (by rw [← HLS.out, ← HN4.out]; exact Nat.le_refl _)]
end Go.Proofs.YtolkhjdododdaaaGreat

/- delta.Orphan. -/
namespace Go.Proofs.YtolkhjdododdaaaGreat
open Go Go.RowKit
attribute [local go_sem] yields yUpon ro8 pa3 vw5 tabV

set_option maxRecDepth 100000 in
set_option maxHeartbeats 16000000 in
theorem orphan_any (s : Value) (x : Vw) (u : Value) (ns : List ByteArray) (pk : ByteArray) (pg : Int) (pu : Value) (ps : List (Ro × Value)) (xk : ByteArray) (xg : Int) (xu : Value) (qs : List (Ro × Value)) (cof : Ro → ByteArray) (w : World)
    (hp : RowsT w pu ps) (hq : RowsT w xu qs) (hns : StrsIn w u ns) (hcp : ∀ p ∈ ps, p.1.cols.length ≤ 50000) (hcq : ∀ p ∈ qs, p.1.cols.length ≤ 50000) (hpg : 0 ≤ pg) (hlq : qs.length ≤ 19) (hlp : ps.length + qs.length ≤ 100)
    (hpk : pk.size ≤ 1000000) (hkey : ∀ p ∈ qs, p.1.key = vkey pk (cof p.1) ∧ (cof p.1).size ≤ 1000000 ∧ (vkey pk (cof p.1)).size ≤ 400)
    (hupB : ∀ l : List Ro, l = backRs x xk xg pg (ps.map (·.1)) cof (qs.map (·.1)) → ∀ (k : Nat) (h : k + 1 < l.length), ¬ keyR l[k + 1] l[k] < 0)
    (hupS : ∀ l : List Ro, l = shadeRs x ns xk xg pk pg (mergeRo (ps.map (·.1)) (backRs x xk xg pg (ps.map (·.1)) cof (qs.map (·.1)))) cof (qs.map (·.1)) → ∀ (k : Nat) (h : k + 1 < l.length), ¬ keyR l[k + 1] l[k] < 0) :
    Calls Tryz.prog 12 #[tabV s, .agg #[.string x.name, .int .i64 x.id, .string x.table, .string x.on, u], .agg #[.string pk, .int .i64 pg, pu], .agg #[.string xk, .int .i64 xg, xu]] w fun e w' =>
      ∃ v1 v2 ps1 ps2, e = .returned (.tuple #[.agg #[.string xk, .int .i64 0, v1], .agg #[.string pk, .int .i64 0, v2]]) ∧ RowsT w' v1 ps1 ∧ ps1.map (·.1) = shadeRs x ns xk xg pk pg (mergeRo (ps.map (·.1)) (backRs x xk xg pg (ps.map (·.1)) cof (qs.map (·.1)))) cof (qs.map (·.1)) ∧
        RowsT w' v2 ps2 ∧ ps2.map (·.1) = backRs x xk xg pg (ps.map (·.1)) cof (qs.map (·.1)) ∧ Ext w w' := by
  obtain ⟨a0, a1, a2, a3, a4, hE⟩ := boxes5 w #[.string ⟨#[116]⟩, .int .i64 1, .string ⟨#[112]⟩, .int .i64 1, .string ⟨#[107]⟩, .int .i64 2, s] (vw5 x u) (pa3 pk pg pu) (pa3 xk xg xu) (pa3 ⟨#[]⟩ 0 (.slice none 0 0)) 28 31 39 39 39
  obtain ⟨au, cu, rfl, hcu, hcmu, hget⟩ := hq.rows.get
  obtain ⟨n, hnn⟩ : ∃ n, n = qs.length := ⟨_, rfl⟩
  rw [← hnn] at hlq hlp hcu a0 a1 a2 a3 a4 hE ⊢
  have HN := Lib.hid hnn
  have HGET := Lib.hid hget
  have HKEY := Lib.hid hkey
  have HQT := Lib.hid hq.typed
  obtain ⟨BK, hBK⟩ : ∃ BK, BK = backRs x xk xg pg (ps.map (·.1)) cof (qs.map (·.1)) := ⟨_, rfl⟩
  rw [← hBK] at hupB hupS ⊢
  have HBK := Lib.hid hBK
  have HUB := Lib.hid hupB
  have HUS := Lib.hid hupS
  have HQ := Lib.hid hq
  have HP := Lib.hid hp
  have HNS := Lib.hid hns
  have HCP := Lib.hid hcp
  have HCQ := Lib.hid hcq
  clear hnn hget hkey hupB hupS hBK hq hp hns hcp hcq
  unfold tabV
  go_enter Tryz.func12, Tryz.ntmps12
  go_wp2_with fail
  have b0 := a0.ext ((Ext.refl _).alloc (.cells (pa3 ⟨#[]⟩ 0 (.slice none 0 0)) 39))
  have b1 := a1.ext ((Ext.refl _).alloc (.cells (pa3 ⟨#[]⟩ 0 (.slice none 0 0)) 39))
  have b2 := a2.ext ((Ext.refl _).alloc (.cells (pa3 ⟨#[]⟩ 0 (.slice none 0 0)) 39))
  have b3 := a3.ext ((Ext.refl _).alloc (.cells (pa3 ⟨#[]⟩ 0 (.slice none 0 0)) 39))
  have b4 := a4.ext ((Ext.refl _).alloc (.cells (pa3 ⟨#[]⟩ 0 (.slice none 0 0)) 39))
  have b5 := BoxAt.madeN (n := w.heap.size + 1 + 1 + 1 + 1 + 1) (pa3 ⟨#[]⟩ 0 (.slice none 0 0)) 39 (show (((((w.alloc (.cells #[.string ⟨#[116]⟩, .int .i64 1, .string ⟨#[112]⟩, .int .i64 1, .string ⟨#[107]⟩, .int .i64 2, s] 28)).alloc (.cells (vw5 x u) 31)).alloc (.cells (pa3 pk pg pu) 39)).alloc (.cells (pa3 xk xg (.slice au n cu)) 39)).alloc (.cells (pa3 ⟨#[]⟩ 0 (.slice none 0 0)) 39)).heap.size = w.heap.size + 1 + 1 + 1 + 1 + 1 by rw [Deep.nblk_alloc, Deep.nblk_alloc, Deep.nblk_alloc, Deep.nblk_alloc, Deep.nblk_alloc])
  have hE6 := hE.alloc (.cells (pa3 ⟨#[]⟩ 0 (.slice none 0 0)) 39)
  simp only [pa3, vw5] at b0 b1 b2 b3 b4 b5 hE6
  clear a0 a1 a2 a3 a4 hE
  generalize World.alloc (World.alloc (World.alloc (World.alloc (World.alloc (World.alloc w _) _) _) _) _) _ = w0 at b0 b1 b2 b3 b4 b5 hE6 ⊢
  have y0 : w0.cell? ⟨w.heap.size + 1 + 1 + 1, 0, none⟩ = some (.string xk) := b3.cell 0
  have y1 : w0.cell? ⟨w.heap.size + 1 + 1, 0, none⟩ = some (.string pk) := b2.cell 0
  have y2 : w0.cell? ⟨w.heap.size + 1 + 1 + 1 + 1, 0, none⟩ = some (.string ⟨#[]⟩) := b4.cell 0
  have y3 : w0.cell? ⟨w.heap.size + 1 + 1 + 1 + 1 + 1, 0, none⟩ = some (.string ⟨#[]⟩) := b5.cell 0
  have f4 := b4.free 0
  have f5 := b5.free 0
  go_region
  have c0 := ((b0.other (q := w.heap.size + 1 + 1 + 1 + 1) (by omega) 0 (.string xk)).other (q := w.heap.size + 1 + 1 + 1 + 1 + 1) (by omega) 0 (.string pk)).ext (Ext.refl _).drew
  have c1 := ((b1.other (q := w.heap.size + 1 + 1 + 1 + 1) (by omega) 0 (.string xk)).other (q := w.heap.size + 1 + 1 + 1 + 1 + 1) (by omega) 0 (.string pk)).ext (Ext.refl _).drew
  have c2 := ((b2.other (q := w.heap.size + 1 + 1 + 1 + 1) (by omega) 0 (.string xk)).other (q := w.heap.size + 1 + 1 + 1 + 1 + 1) (by omega) 0 (.string pk)).ext (Ext.refl _).drew
  have c3 := ((b3.other (q := w.heap.size + 1 + 1 + 1 + 1) (by omega) 0 (.string xk)).other (q := w.heap.size + 1 + 1 + 1 + 1 + 1) (by omega) 0 (.string pk)).ext (Ext.refl _).drew
  have c4 := ((b4.set 0 (.string xk)).other (q := w.heap.size + 1 + 1 + 1 + 1 + 1) (by omega) 0 (.string pk)).ext (Ext.refl _).drew
  have c5 := ((b5.other (q := w.heap.size + 1 + 1 + 1 + 1) (by omega) 0 (.string xk)).set 0 (.string pk)).ext (Ext.refl _).drew
  have hEA := ((hE6.setCell (p := ⟨w.heap.size + 1 + 1 + 1 + 1, 0, none⟩) (show w.heap.size ≤ w.heap.size + 1 + 1 + 1 + 1 by omega) (.string xk)).setCell (p := ⟨w.heap.size + 1 + 1 + 1 + 1 + 1, 0, none⟩) (show w.heap.size ≤ w.heap.size + 1 + 1 + 1 + 1 + 1 by omega) (.string pk)).drew
  clear b0 b1 b2 b3 b4 b5 hE6 y0 y1 y2 y3 f4 f5
  generalize World.drew (World.setCell (World.setCell w0 _ _) _ _) = wA at c0 c1 c2 c3 c4 c5 hEA ⊢
  clear w0
  replace c0 : BoxAt wA w.heap.size #[.string ⟨#[116]⟩, .int .i64 1, .string ⟨#[112]⟩, .int .i64 1, .string ⟨#[107]⟩, .int .i64 2, s] 28 := c0
  replace c1 : BoxAt wA (w.heap.size + 1) (vw5 x u) 31 := c1
  replace c2 : BoxAt wA (w.heap.size + 1 + 1) (pa3 pk pg pu) 39 := c2
  replace c3 : BoxAt wA (w.heap.size + 1 + 1 + 1) (pa3 xk xg (.slice au n cu)) 39 := c3
  replace c4 : BoxAt wA (w.heap.size + 1 + 1 + 1 + 1) (pa3 xk 0 (.slice none 0 0)) 39 := c4
  replace c5 : BoxAt wA (w.heap.size + 1 + 1 + 1 + 1 + 1) (pa3 pk 0 (.slice none 0 0)) 39 := c5
  have hl5 := c5.lt
  have hwA : w.heap.size ≤ wA.heap.size := hEA.le
  have hop : OP w (w.heap.size + 1 + 1 + 1 + 1 + 1) wA.heap.size pk wA (.slice none 0 0) [] wA := ⟨hEA, fun _ _ _ h _ => h, c5, World.ownsRow_nil _ _ _ _, nofun, Nat.le_refl _⟩
  obtain ⟨x0, x1, x2⟩ := c3.pa
  have HC0 := Lib.hid c0
  have HC1 := Lib.hid c1
  have HC2 := Lib.hid c2
  have HC3 := Lib.hid c3
  have HC4 := Lib.hid c4
  clear c0 c1 c2 c3 c4 c5
  go_wp2_with fail
  go_loopw [34] (fun i wr => ∃ (k : Nat) (vl : Value) (L : List (Ro × Value)), k ≤ n ∧ i = .int .i64 k ∧ OP w (w.heap.size + 1 + 1 + 1 + 1 + 1) wA.heap.size pk wA vl L wr ∧ L.length ≤ k ∧ Hid (L.map (·.1) = backRs x xk xg pg (ps.map (·.1)) cof ((qs.map (·.1)).take k))) (fun i _ => n - (intOf i).toNat)
  case atStart => exact ⟨0, _, [], Nat.zero_le _, rfl, hop, by simp, rfl⟩
  case round =>
    obtain ⟨k, vl, L, hk, rfl, hop, hLk, HD⟩ := hrel
    obtain ⟨al, cl, rfl⟩ := own_shape hop.own
    by_cases hlt : k < n
    · have hkp : k < qs.length := by rw [← HN.out]; exact hlt
      have hmem := List.getElem_mem hkp
      have hcM := HQT.out _ hmem
      have hlM := HCQ.out _ hmem
      obtain ⟨hk1, hk2, hk3⟩ := HKEY.out _ hmem
      obtain ⟨b, o, rfl, hat⟩ := HGET.out k hkp
      have hsnoc : (qs.map (·.1)).take (k + 1) = (qs.map (·.1)).take k ++ [qs[k].1] := by
        rw [List.take_succ_eq_append_getElem (by simpa using hkp)]
        simp
      obtain ⟨M, hM⟩ : ∃ M, M = qs[k].1 := ⟨_, rfl⟩
      obtain ⟨um, cm, hu⟩ := TIn.shape hcM
      rw [← hM] at hlM hcM hu hsnoc hat hk1 hk2 hk3
      rw [hu] at hcM hat
      have HSN := Lib.hid hsnoc
      have HK1 := Lib.hid hk1
      have HK2 := Lib.hid hk2
      clear hM hu hsnoc hmem hk1 hk2 hk3
      obtain ⟨x0, x1, x2, x3, x4, x5, x6, x7⟩ := hat.ext hop.ext
      obtain ⟨R, hR⟩ : ∃ R, R = rowOf (ps.map (·.1)) (cof M) := ⟨_, rfl⟩
      have HR := Lib.hid hR
      have hRc : R.cols.length ≤ 50000 := by
        rw [hR]
        refine rowOf_cols (fun r hr => ?_) _
        obtain ⟨p, hp, rfl⟩ := List.mem_map.1 hr
        exact HCP.out p hp
      clear hR
      go_wp2_with (((guard_target =~ wpList _ _ _ (Oper.mk none (Op.store _ (Operand.tmp 12) (Operand.tmp 37)) _ _ _ _ :: _) _ _); go_must (refine storeBox rfl 54 (.tmp 12) (.tmp 37) rfl (wr.heap.size) _ _ _ (by rfl) (by rfl) ((BoxAt.made wr (ro8 ⟨⟨#[]⟩, zeroCl, 0, 0, []⟩ (.slice none 0 0)) 54)) (by kernel_rfl) (by rfl) (by simp [Value.oneCell']) ?_); intro w1 d1 g1); have hX1 : Ext wr w1 := ((Ext.refl wr).alloc _).grown g1 (fun q hq => by cases hq; omega); have e1 := d1.ro (r := ⟨M.key, M.live, M.gone, M.shade, M.cols⟩) (v := .slice um M.cols.length cm))
      have op1 := hop.ext' hX1
      have r1 : BoxAt w1 wr.heap.size (ro8 M (.slice um M.cols.length cm)) 54 := d1
      refine (ownRow_any (w.heap.size + 1 + 1) pk pg pu ps M _ (cof M) w1 (op1.keep _ _ _ HC2.out (by omega)) (HP.out.rows.ext op1.ext) (fun p hp => Nat.le_trans (HCP.out p hp) (by omega)) HK1.out hpk HK2.out).mono ?_
      rw [← HR.out]
      rintro e w2 ⟨v2, rfl, hc2, hE2⟩
      obtain ⟨a2, cc2, rfl⟩ := TIn.shape hc2
      have op2 := op1.ext' hE2
      have r2 := r1.ext hE2
      clear d1 g1 e1 x0 x1 x2 x3 x4 x5 x6 x7 r1
      go_wp2_with (((guard_target =~ wpList _ _ _ (Oper.mk none (Op.store _ (Operand.tmp 13) (Operand.tmp 42)) _ _ _ _ :: _) _ _); go_must (refine storeBox rfl 54 (.tmp 13) (.tmp 42) rfl (w2.heap.size) _ _ _ (by rfl) (by rfl) ((BoxAt.made w2 (ro8 ⟨⟨#[]⟩, zeroCl, 0, 0, []⟩ (.slice none 0 0)) 54)) (by kernel_rfl) (by rfl) (by simp [Value.oneCell']) ?_); intro w3 d3 g3); have hX3 : Ext w2 w3 := ((Ext.refl w2).alloc _).grown g3 (fun q hq => by cases hq; omega); have op3 := op2.ext' hX3; have r3 := r2.ext hX3; have m3 := r3.ro; have e3 := d3.ro (r := R) (v := .slice a2 R.cols.length cc2); have v3 := (op3.keep _ _ _ HC1.out (by omega)).vw; have p3 := (op3.keep _ _ _ HC2.out (by omega)).pa; have q3 := (op3.keep _ _ _ HC3.out (by omega)).pa)
      have b3 : BoxAt w3 w2.heap.size (ro8 R (.slice a2 R.cols.length cc2)) 54 := d3
      have hcR3 : ColsT w3 (.slice a2 R.cols.length cc2) R.cols := TIn.ext hX3 hc2
      have hcM3 : ColsT w3 (.slice um M.cols.length cm) M.cols := TIn.ext op3.ext hcM
      refine (known_any x u xk xg _ M R _ _ pg w3 hcM3 (by omega)).mono ?_
      obtain ⟨K, hK⟩ : ∃ K, K = knownRo x xk xg M R pg := ⟨_, rfl⟩
      have hKc : K.cols.length ≤ 50001 := by have := known_len x xk xg M R pg; rw [← hK] at this; omega
      rw [← hK]
      have HK := Lib.hid hK
      clear hK
      rintro e w4 ⟨v4, rfl, hc4, hE4⟩
      obtain ⟨a4, cc4, rfl⟩ := TIn.shape hc4
      have op4 := op3.ext' hE4
      have r4 := r3.ext hE4
      have b4 := b3.ext hE4
      have hcR4 : ColsT w4 (.slice a2 R.cols.length cc2) R.cols := TIn.ext hE4 hcR3
      clear d3 g3 m3 e3 v3 p3 q3 r3 b3 hcR3 hcM3 r2 op1 op2 op3 hc2
      go_wp2_with (((guard_target =~ wpList _ _ _ (Oper.mk none (Op.store _ (Operand.tmp 15) (Operand.tmp 51)) _ _ _ _ :: _) _ _); go_must (refine storeBox rfl 54 (.tmp 15) (.tmp 51) rfl (w4.heap.size) _ _ _ (by rfl) (by rfl) ((BoxAt.made w4 (ro8 ⟨⟨#[]⟩, zeroCl, 0, 0, []⟩ (.slice none 0 0)) 54)) (by kernel_rfl) (by rfl) (by simp [Value.oneCell']) ?_); intro w5 d5 g5); have hX5 : Ext w4 w5 := ((Ext.refl w4).alloc _).grown g5 (fun q hq => by cases hq; omega))
      have op5 := op4.ext' hX5
      have b5 := b4.ext hX5
      have k5 : BoxAt w5 w4.heap.size (ro8 K (.slice a4 K.cols.length cc4)) 54 := d5
      have hcR5 : ColsT w5 (.slice a2 R.cols.length cc2) R.cols := TIn.ext hX5 hcR4
      have hcK5 : ColsT w5 (.slice a4 K.cols.length cc4) K.cols := TIn.ext hX5 hc4
      have hlt4 := b4.lt
      have own4 := op4.own
      clear d5 g5 r4 b4 hcR4 hc4 op4
      obtain ⟨x0, x1, x2, x3, x4, x5, x6, x7⟩ := b5.ro
      obtain ⟨y0, y1, y2, y3, y4, y5, y6, y7⟩ := k5.ro
      obtain ⟨J1, hJ1⟩ : ∃ J, J = joinRo R K := ⟨_, rfl⟩
      obtain ⟨E, hEE⟩ : ∃ E, E = eqB J1 R := ⟨_, rfl⟩
      have HJ1 := Lib.hid hJ1
      have HEE := Lib.hid hEE
      clear hJ1 hEE
      simp only [Act.put]
      refine wp_region_tab 6 [(2, fun v y => ∃ v', v = (.agg #[.string J1.key, .string J1.live.val, .bool J1.live.dead, .int .i64 J1.live.at_, .int .i64 J1.live.fin, .int .i64 J1.gone, .int .i64 J1.shade, v']) ∧ ColsT y v' J1.cols), (4, fun v _ => v = .bool E)] (by kernel_rfl) (by kernel_rfl) (by kernel_rfl) ⟨fun _ _ _ hE ⟨v', e, h⟩ => ⟨v', e, TIn.ext hE h⟩, stays_eq _, trivial⟩ ?_
      replace x0 := held x0
      replace x1 := held x1
      replace x2 := held x2
      replace x3 := held x3
      replace x4 := held x4
      replace x5 := held x5
      replace x6 := held x6
      replace x7 := held x7
      replace y0 := held y0
      replace y1 := held y1
      replace y2 := held y2
      replace y3 := held y3
      replace y4 := held y4
      replace y5 := held y5
      replace y6 := held y6
      replace y7 := held y7
      refine rg_quiet rfl rfl rfl rfl ?_; intro K hK; go_big_quiet_op; go_big_quiet_on
      refine rg_quiet rfl rfl rfl rfl ?_; intro K hK; go_big_quiet_op; go_big_quiet_on
      refine rg_fact [] rfl rfl rfl (by kernel_rfl) (fun y hY hf => ?_) (fun v2 y2 hE2 hG2 h2 => ?_)
      · go_simp
        refine (rowJoin_any R K _ _ y (ColsT.cols (TIn.ext hY hcR5)) (ColsT.cols (TIn.ext hY hcK5)) (by omega)).mono ?_
        rw [← HJ1.out]
        rintro e y' ⟨v', rfl, hown', hy⟩
        exact ⟨_, rfl, rg_doneR hY hy ⟨v', rfl, TIn.own hown'⟩⟩
      obtain ⟨v2, rfl, h2⟩ := h2
      obtain ⟨aj, cj, rfl⟩ := TIn.shape h2
      clear hE2 hG2 h2
      simp only [Act.put, List.setIfInBounds_toArray, List.set_cons_zero, List.set_cons_succ]
      refine rg_quiet rfl rfl rfl rfl ?_; intro K hK; go_big_quiet_op; go_big_quiet_on
      refine rg_val [2] rfl rfl rfl (by kernel_rfl) (fun y hY hf => ?_) ?_
      · obtain ⟨u2, e2, h2⟩ := (hf 2 (by simp)).2 rfl
        cases e2
        go_simp
        exact (rowSame_any J1 R _ _ y (ColsT.cols h2) (ColsT.cols (TIn.ext hY hcR5))).mono fun e w' ⟨he, hw⟩ => ⟨_, he, rg_done hY hw (by rw [HEE.out])⟩
      simp only [Act.put, List.setIfInBounds_toArray, List.set_cons_zero, List.set_cons_succ]
      refine rg_quiet rfl rfl rfl rfl ?_; intro K hK; go_big_quiet_op; go_big_quiet_on
      refine rel_nil fun w6 hE6 _ => ?_
      obtain ⟨J2, hJ2⟩ : ∃ J, J = joinRo K zeroRo := ⟨_, rfl⟩
      have HJ2 := Lib.hid hJ2
      clear hJ2
      have HSTEP : Hid (backRs x xk xg pg (ps.map (·.1)) cof ((qs.map (·.1)).take (k + 1)) = L.map (·.1) ++ if E then [] else [J2]) := by
        show _ = _
        rw [HSN.out, backRs_snoc, ← HR.out, HD.out]
        unfold backL
        rw [← HK.out, ← HJ1.out, ← HEE.out, ← HJ2.out]
      have op6 := op5.ext' hE6
      have k6 := k5.ext hE6
      have hcK6 : ColsT w6 (.slice a4 K.cols.length cc4) K.cols := TIn.ext hE6 hcK5
      have hle6 : w4.heap.size ≤ w6.heap.size := Nat.le_of_lt k6.lt
      clear x0 x1 x2 x3 x4 x5 x6 x7 y0 y1 y3 y4 y5 y6 y7 b5 k5 hcR5 hcK5 op5 hE6
      cases E with
      | true =>
        go_wp2_with fail
        go_roundw
        case rel =>
          refine ⟨k + 1, _, L, hlt, rfl, op6, by omega, ?_⟩
          show _ = _
          rw [HSTEP.out]
          simp
        case measure => simp [intOf]; omega
      | false =>
        go_wp2_with fail
        refine wp_region_relE (OQ (OP w (w.heap.size + 1 + 1 + 1 + 1 + 1) wA.heap.size pk wA (.slice al L.length cl) L) w4.heap.size K (.slice a4 K.cols.length cc4)) (OrE (.slice al L.length cl) wA.heap.size 6) (Tab.atE [(1, fun v _ => v = .slice al L.length cl), (2, fun v _ => v = (.agg #[.string K.key, .string K.live.val, .bool K.live.dead, .int .i64 K.live.at_, .int .i64 K.live.fin, .int .i64 K.gone, .int .i64 K.shade, (.slice a4 K.cols.length cc4)])), (4, fun v y => ∃ v', v = (.agg #[.string J2.key, .string J2.live.val, .bool J2.live.dead, .int .i64 J2.live.at_, .int .i64 J2.live.fin, .int .i64 J2.gone, .int .i64 J2.shade, v']) ∧ ColsT y v' J2.cols), (5, fun v y => ∃ b v', v = .slice (some ⟨b, 0, none⟩) 1 1 ∧ w4.heap.size ≤ b ∧ BoxAt y b (ro8 J2 v') 54 ∧ ColsT y v' J2.cols), (6, fun v y => ∃ v', y.ownsRow wA.heap.size 54 8 v (L.length + 1) (roCells (L ++ [(J2, v')])) ∧ ColsT y v' J2.cols)])
          (Tab.staysE ⟨fun _ _ _ _ _ _ h => h, fun _ _ _ _ _ _ h => h, fun _ _ _ _ _ hR ⟨v', e, h⟩ => ⟨v', e, OrE_tin hR (by decide) h⟩, fun _ _ _ _ _ hR ⟨b, v', e, hb, hx, h⟩ => ⟨b, v', e, hb, OrE_far own4 hR hb hx, OrE_tin hR (by decide) h⟩, fun _ hj _ _ _ hR ⟨v', h, hc⟩ => ⟨v', ownsRow_ext h (OrE_off hj hR), OrE_tin hR (by decide) hc⟩, trivial⟩)
          8 (by kernel_rfl) (by kernel_rfl) (by kernel_rfl) (OQ.mk (op6.ext' (Ext.refl _).drew) (k6.ext (Ext.refl _).drew) (TIn.ext (Ext.refl _).drew hcK6)) ?_
        refine relE_quiet rfl rfl rfl rfl ?_; intro K hK; go_big_quiet_op; (first | refine ⟨_, fun _ _ => rfl, hK _ ?_⟩ | refine hK _ ?_); clear hK K
        refine relE_val [] rfl rfl rfl (by kernel_rfl) (fun z hz hf => ?_) ?_
        · obtain ⟨q0, q1, q2⟩ := hz.op.box.pa
          go_simp
          exact ⟨hz, OrE_ext (by decide) (Ext.refl z), rfl⟩
        simp only [Act.put, List.setIfInBounds_toArray, List.set_cons_zero, List.set_cons_succ]
        refine relE_val [] rfl rfl rfl (by kernel_rfl) (fun z hz hf => ?_) ?_
        · obtain ⟨q0, q1, q2, q3, q4, q5, q6, q7⟩ := hz.box.ro
          go_simp
          exact ⟨hz, OrE_ext (by decide) (Ext.refl z), rfl⟩
        simp only [Act.put, List.setIfInBounds_toArray, List.set_cons_zero, List.set_cons_succ]
        refine relE_quiet rfl rfl rfl rfl ?_; intro K hK; go_big_quiet_op; (first | refine ⟨_, fun _ _ => rfl, hK _ ?_⟩ | refine hK _ ?_); clear hK K
        refine relE_fact [] rfl rfl rfl (by kernel_rfl) (fun z hz hf => ?_) (fun v8 z8 hC8 hG8 h8 => ?_)
        · go_simp
          refine (rowJoin_any K zeroRo (.slice a4 K.cols.length cc4) (.slice none 0 0) z (ColsT.cols hz.cols) (ColsT.cols (ColsT.nil z)) (by show K.cols.length + 0 ≤ _; omega)).mono ?_
          rw [← HJ2.out]
          rintro e y ⟨v', he, hown', hy⟩
          exact ⟨_, he, ⟨hz.op.ext' hy, hz.box.ext hy, TIn.ext hy hz.cols⟩, OrE_ext (by decide) hy, v', rfl, TIn.own hown'⟩
        obtain ⟨v11, rfl, h11⟩ := h8
        obtain ⟨a11, c11, rfl⟩ := TIn.shape h11
        clear hC8 hG8 h11
        simp only [Act.put, List.setIfInBounds_toArray, List.set_cons_zero, List.set_cons_succ]
        refine relE_fact [4] rfl rfl rfl (by kernel_rfl) (fun z hz hf => ?_) (fun v4 z4 hC4 hG4 h4 => ?_)
        · obtain ⟨v', e, hc⟩ := (hf 4 (by simp)).2 rfl
          cases e
          have hy : Ext z (z.alloc (.cells (ro8 J2 (.slice a11 J2.cols.length c11)) 54)) := (Ext.refl z).alloc _
          go_simp
          exact ⟨⟨hz.op.ext' hy, hz.box.ext hy, TIn.ext hy hz.cols⟩, OrE_ext (by decide) hy, _, rfl, Nat.le_of_lt hz.box.lt, _, BoxAt.made z _ _, TIn.ext hy hc⟩
        obtain ⟨b14, v14, rfl, _, _, _⟩ := h4
        clear hC4 hG4
        simp only [Act.put, List.setIfInBounds_toArray, List.set_cons_zero, List.set_cons_succ]
        refine relE_fact [5] rfl rfl rfl (by kernel_rfl) (fun z hz hf => ?_) (fun v5 z5 hC5 hG5 h5 => ?_)
        · obtain ⟨b, v', e, hb, hbox, hr⟩ := (hf 5 (by simp)).2 rfl
          cases e
          obtain ⟨aq, cq, rfl⟩ := TIn.shape hr
          refine yields_append info_Row und_Rows rfl (by decide) (.tmp 59) (.tmp 63) rfl wA.heap.size hz.op.size (.slice al L.length cl) L.length (roCells L) hz.op.own (by rfl) b14 1 1 (ro8 J2 (.slice aq J2.cols.length cq)).toList (by rfl) (by rfl) (fun j u hj => by rw [hbox.cell j]; simpa using hj) (by simp [ro8, Value.oneCell']) (by unfold maxLen; omega) (by omega) ?_
          intro v'' y hown' hg hkeep
          have hR : OrE (.slice al L.length cl) wA.heap.size 6 6 z y := by unfold OrE; rw [if_pos rfl]; exact ⟨⟨_, _, hz.op.own⟩, hg⟩
          refine ⟨⟨hz.op.grow hwA (by omega) (Nat.le_refl _) hg hkeep, OrE_far own4 hR (Nat.le_refl _) hz.box, OrE_tin hR (by decide) hz.cols⟩, hR, _, ?_, OrE_tin hR (by decide) hr⟩
          rw [roCells_append]
          exact hown'
        obtain ⟨v15, h5, _⟩ := h5
        obtain ⟨a5, c5, rfl⟩ := own_shape h5
        clear hC5 hG5 h5
        simp only [Act.put, List.setIfInBounds_toArray, List.set_cons_zero, List.set_cons_succ]
        refine relE_quiet rfl rfl rfl rfl ?_; intro K hK; go_big_quiet_op; (first | refine ⟨_, fun _ _ => rfl, hK _ ?_⟩ | refine hK _ ?_); clear hK K
        refine relE_tail rfl rfl fun w9 hC hG => ?_
        obtain ⟨v9, hown9, hr9⟩ := (hG 6).2 rfl
        have q0 : w9.cell? ⟨w.heap.size + 1 + 1 + 1 + 1 + 1, 2, none⟩ = some (.slice al L.length cl) := hC.op.box.cell 2
        have qf := hC.op.box.free 2
        go_wp2_with fail
        go_roundw
        case rel =>
          refine ⟨k + 1, _, L ++ [(J2, v9)], hlt, rfl, hC.op.put (by omega) hown9 hr9, by simp; omega, ?_⟩
          show _ = _
          rw [HSTEP.out]
          simp
        case measure => simp [intOf]; omega
    · obtain rfl : k = n := by omega
      have HLB : Hid (L.map (·.1) = BK) := by
        show _ = _
        rw [HD.out, HBK.out, List.take_of_length_le (by simp; rw [← HN.out]; exact Nat.le_refl _)]
      have hLR : RowsT wr (.slice al L.length cl) L := ⟨TIn.own hop.own, hop.rows⟩
      have hLc : ∀ r ∈ L.map (·.1), r.cols.length ≤ 50001 := by
        rw [HLB.out, HBK.out]
        refine backRs_cols (m := 50000) (fun r hr => ?_)
        obtain ⟨p, hp, rfl⟩ := List.mem_map.1 hr
        exact HCQ.out p hp
      have hPc : ∀ r ∈ ps.map (·.1), r.cols.length ≤ 50000 := fun r hr => by
        obtain ⟨p, hp, rfl⟩ := List.mem_map.1 hr
        exact HCP.out p hp
      clear hlt
      obtain ⟨q0, q1, q2⟩ := hop.box.pa
      obtain ⟨p0, p1, p2⟩ := (hop.keep _ _ _ HC2.out (by omega)).pa
      go_wp2_with fail
      refine (rise_any _ L wr hLR.rows (by omega) (fun j h => by
        have := HUB.out (L.map (·.1)) HLB.out j (by simpa using h)
        simpa using this)).mono ?_
      rintro e w1 ⟨rfl, hE1⟩
      have op1 := hop.ext' hE1
      obtain ⟨q0, q1, q2⟩ := op1.box.pa
      obtain ⟨p0, p1, p2⟩ := (op1.keep _ _ _ HC2.out (by omega)).pa
      clear hop
      go_wp2_with fail
      refine (pjoin_walk pk pk pg 0 pu (.slice al L.length cl) ps L w1 (HP.out.rows.ext op1.ext) (hLR.rows.ext hE1) (by omega) (fun r hr => Nat.le_trans (hPc r hr) (by omega)) (fun r hr => Nat.le_trans (hLc r hr) (by omega))).mono ?_
      rintro e w2 ⟨hE2, hJ⟩
      obtain ⟨ALL, hALL⟩ : ∃ A, A = mergeRo (ps.map (·.1)) BK := ⟨_, rfl⟩
      have hAc : ∀ r ∈ ALL, r.cols.length ≤ 100001 := by
        rw [hALL, ← HLB.out]
        exact merge_cols hPc hLc
      rw [HLB.out, ← hALL] at hJ
      have HALL := Lib.hid hALL
      rcases hJ with ⟨_, v2, rfl, all, hall, hallm⟩ | ⟨hbad, _⟩
      rotate_left
      · exfalso
        have h1 := mergeG_len keyR joinRo (ps.map (·.1)) BK
        have h2 : BK.length = L.length := by rw [← HLB.out]; simp
        rw [hALL] at hbad
        unfold mergeRo at hbad
        simp only [List.length_map] at h1
        omega
      rw [show max pg 0 = pg from by omega] at *
      have op2 := op1.ext' hE2
      obtain ⟨a2, c2, rfl⟩ := hall.shape
      have hLR2 : RowsT w2 (.slice al L.length cl) L := ⟨TIn.own op2.own, op2.rows⟩
      clear q0 q1 q2 p0 p1 p2 hLR op1 hE1
      go_wp2_with (first
        | (((guard_target =~ wpList _ _ _ (Oper.mk none (Op.store _ (Operand.tmp 16) (Operand.tmp 74)) _ _ _ _ :: _) _ _); go_must (refine storeBox rfl 39 (.tmp 16) (.tmp 74) rfl (w2.heap.size) _ _ _ (by rfl) (by rfl) ((BoxAt.made w2 (pa3 ⟨#[]⟩ 0 (.slice none 0 0)) 39)) (by kernel_rfl) (by rfl) (by simp [Value.oneCell']) ?_); intro w3 d3 g3); have hX3 : Ext w2 w3 := ((Ext.refl w2).alloc _).grown g3 (fun q hq => by cases hq; omega); have op3 := op2.ext' hX3; have p3 := d3.pa (k := pk) (g := pg) (u := .slice a2 all.length c2); have bs3 := op3.keep _ _ _ HC2.out (by omega))
        | (((guard_target =~ wpList _ _ _ (Oper.mk none (Op.store _ (Operand.tmp 6) (Operand.tmp 77)) _ _ _ _ :: _) _ _); go_must (refine storeBox rfl 39 (.tmp 6) (.tmp 77) rfl (w.heap.size + 1 + 1) _ _ _ (by rfl) (by rfl) (bs3) (by kernel_rfl) (by rfl) (by simp [Value.oneCell']) ?_); intro w4 d4 g4); have x4 := ((op3.keep _ _ _ HC3.out (by omega)).grown g4 (fun e => by have := Option.some.inj e; omega)).pa))
      have hEB : Ext w w4 := op3.ext.grown g4 (fun q hq => by cases hq; omega)
      have hk0 := Lib.hid ((op3.keep _ _ _ HC0.out (by omega)).grown g4 (fun e => by have := Option.some.inj e; omega))
      have hk1 := Lib.hid ((op3.keep _ _ _ HC1.out (by omega)).grown g4 (fun e => by have := Option.some.inj e; omega))
      have hk2 : Hid (BoxAt w4 (w.heap.size + 1 + 1) (pa3 pk pg (.slice a2 all.length c2)) 39) := Lib.hid d4
      have hk3 := Lib.hid ((op3.keep _ _ _ HC3.out (by omega)).grown g4 (fun e => by have := Option.some.inj e; omega))
      have c4 := (op3.keep _ _ _ HC4.out (by omega)).grown g4 (fun e => by have := Option.some.inj e; omega)
      have hk5 := Lib.hid (op3.box.grown g4 (fun e => by have := Option.some.inj e; omega))
      have hRA := Lib.hid (((hall.ext hX3).keep g4 bs3 (by decide) (by decide)))
      have hRL := Lib.hid (((hLR2.ext hX3).keep g4 bs3 (by decide) (by decide)))
      have hl4 := c4.lt
      have hl5 := (hk5.out).lt
      have hw4 : w.heap.size ≤ w4.heap.size := hEB.le
      have hop4 : OP w (w.heap.size + 1 + 1 + 1 + 1) w4.heap.size xk w4 (.slice none 0 0) [] w4 := ⟨hEB, fun _ _ _ h _ => h, c4, World.ownsRow_nil _ _ _ _, nofun, Nat.le_refl _⟩
      have hrA : ∀ r ∈ ALL, r.cols.length ≤ 100001 := hAc
      have hallA : Hid (all.map (·.1) = ALL) := hallm
      clear p3 d3 g3 d4 g4 bs3 op3 hX3 op2 hall hLR2 hallm c4 hE2 hAc hLc hPc hLk HD hALL
      clear HC0 HC1 HC2 HC3 HC4
      go_wp2_with fail
      go_loopw [81] (fun i wr => ∃ (j : Nat) (vl : Value) (L2 : List (Ro × Value)), j ≤ k ∧ i = .int .i64 j ∧ OP w (w.heap.size + 1 + 1 + 1 + 1) w4.heap.size xk w4 vl L2 wr ∧ L2.length ≤ j ∧ Hid (L2.map (·.1) = shadeRs x ns xk xg pk pg ALL cof ((qs.map (·.1)).take j))) (fun i _ => k - (intOf i).toNat)
      case atStart => exact ⟨0, _, [], Nat.zero_le _, rfl, hop4, by simp, rfl⟩
      case round =>
        obtain ⟨j, vl2, L2, hjk, rfl, hoq, hLj, HDj⟩ := hrel
        obtain ⟨al2, cl2, rfl⟩ := own_shape hoq.own
        by_cases hlt : j < k
        · have hkp : j < qs.length := by rw [← HN.out]; exact hlt
          have hmem := List.getElem_mem hkp
          have hcM := HQT.out _ hmem
          have hlM := HCQ.out _ hmem
          obtain ⟨hk1', hk2', hk3'⟩ := HKEY.out _ hmem
          obtain ⟨b, o, rfl, hat⟩ := HGET.out j hkp
          have hsnoc : (qs.map (·.1)).take (j + 1) = (qs.map (·.1)).take j ++ [qs[j].1] := by
            rw [List.take_succ_eq_append_getElem (by simpa using hkp)]
            simp
          obtain ⟨M, hM⟩ : ∃ M, M = qs[j].1 := ⟨_, rfl⟩
          obtain ⟨um, cm, hu⟩ := TIn.shape hcM
          rw [← hM] at hlM hcM hu hsnoc hat hk1' hk2' hk3'
          rw [hu] at hcM hat
          have HSN := Lib.hid hsnoc
          have HK1 := Lib.hid hk1'
          have HK2 := Lib.hid hk2'
          have HK3 := Lib.hid hk3'
          clear hM hu hsnoc hmem hk1' hk2' hk3'
          obtain ⟨x0, x1, x2, x3, x4, x5, x6, x7⟩ := hat.ext hoq.ext
          obtain ⟨R, hR⟩ : ∃ R, R = rowOf ALL (cof M) := ⟨_, rfl⟩
          have HR := Lib.hid hR
          have hRc : R.cols.length ≤ 100001 := by rw [hR]; exact rowOf_cols hrA _
          have hRk : R.key = cof M := by rw [hR]; exact rowOf_is _ _
          have HRK := Lib.hid hRk
          clear hR hRk
          go_wp2_with (((guard_target =~ wpList _ _ _ (Oper.mk none (Op.store _ (Operand.tmp 19) (Operand.tmp 84)) _ _ _ _ :: _) _ _); go_must (refine storeBox rfl 54 (.tmp 19) (.tmp 84) rfl (wr.heap.size) _ _ _ (by rfl) (by rfl) ((BoxAt.made wr (ro8 ⟨⟨#[]⟩, zeroCl, 0, 0, []⟩ (.slice none 0 0)) 54)) (by kernel_rfl) (by rfl) (by simp [Value.oneCell']) ?_); intro w5 d5 g5); have hX5 : Ext wr w5 := ((Ext.refl wr).alloc _).grown g5 (fun q hq => by cases hq; omega); have e5 := d5.ro (r := ⟨M.key, M.live, M.gone, M.shade, M.cols⟩) (v := .slice um M.cols.length cm))
          have oq5 := hoq.ext' hX5
          have r5 : BoxAt w5 wr.heap.size (ro8 M (.slice um M.cols.length cm)) 54 := d5
          have hallr : RowsT w5 (.slice a2 all.length c2) all := oq5.rowsT hop4.box hRA.out
          refine (ownRow_any (w.heap.size + 1 + 1) pk pg (.slice a2 all.length c2) all M _ (cof M) w5 (oq5.keep _ _ _ hk2.out (by omega)) hallr.rows (fun p hp => Nat.le_trans (hrA p.1 (by rw [← hallA.out]; exact List.mem_map_of_mem hp)) (by omega)) HK1.out hpk HK2.out).mono ?_
          rw [hallA.out, ← HR.out]
          rintro e w6 ⟨v6, rfl, hc6, hE6⟩
          obtain ⟨a6, cc6, rfl⟩ := TIn.shape hc6
          have oq6 := oq5.ext' hE6
          have r6 := r5.ext hE6
          clear d5 g5 e5 x0 x1 x2 x3 x4 x5 x6 x7 r5 hallr
          go_wp2_with (((guard_target =~ wpList _ _ _ (Oper.mk none (Op.store _ (Operand.tmp 20) (Operand.tmp 89)) _ _ _ _ :: _) _ _); go_must (refine storeBox rfl 54 (.tmp 20) (.tmp 89) rfl (w6.heap.size) _ _ _ (by rfl) (by rfl) ((BoxAt.made w6 (ro8 ⟨⟨#[]⟩, zeroCl, 0, 0, []⟩ (.slice none 0 0)) 54)) (by kernel_rfl) (by rfl) (by simp [Value.oneCell']) ?_); intro w7 d7 g7); have hX7 : Ext w6 w7 := ((Ext.refl w6).alloc _).grown g7 (fun q hq => by cases hq; omega))
          have oq7 := oq6.ext' hX7
          have r7 := r6.ext hX7
          have b7 : BoxAt w7 w6.heap.size (ro8 R (.slice a6 R.cols.length cc6)) 54 := d7
          have hcR7 : ColsT w7 (.slice a6 R.cols.length cc6) R.cols := TIn.ext hX7 hc6
          have hcM7 : ColsT w7 (.slice um M.cols.length cm) M.cols := TIn.ext oq7.ext hcM
          have hlt6 := r6.lt
          have own7 := oq7.own
          have hwrown := hoq.own
          clear d7 g7 hc6 oq5 oq6 r6 hX5 hX7 hE6
          obtain ⟨x0, x1, x2, x3, x4, x5, x6, x7⟩ := r7.ro
          obtain ⟨z0, z1, z2⟩ := (oq7.keep _ _ _ hk3.out (by omega)).pa
          obtain ⟨G, hG⟩ : ∃ G, G = max M.gone xg := ⟨_, rfl⟩
          have HG := Lib.hid hG
          obtain ⟨mi, hmi⟩ : ∃ m, m = mirOf x ns pk pg R := ⟨_, rfl⟩
          have HMI := Lib.hid hmi
          obtain ⟨JL, hJL⟩ : ∃ J, J = leftRo x M R pg := ⟨_, rfl⟩
          have HJL := Lib.hid hJL
          have HSTEP : Hid (shadeRs x ns xk xg pk pg ALL cof ((qs.map (·.1)).take (j + 1)) = L2.map (·.1) ++ if idleB xg M then [] else if strayB mi xk then [JL] else []) := by
            show _ = _
            rw [HSN.out, shadeRs_snoc, ← HR.out, HDj.out]
            unfold shadeL
            rw [← hmi, ← hJL]
          have HID : Hid (idleB xg M = (decide (M.live.at_ < 1) || decide (M.live.at_ ≤ M.shade) || decide (M.live.at_ ≤ G))) := Lib.hid (by rw [hG]; rfl)
          clear hG hmi hJL
          try simp only [Act.put]
          by_cases i1 : M.live.at_ < 1
          · have t1 : decide (M.live.at_ < 1) = true := by simpa using i1

            refine wp_region_tab 26 [(23, fun v _ => v = .int .i64 G)] (by kernel_rfl) (by kernel_rfl) (by kernel_rfl) ⟨stays_eq _, trivial⟩ ?_
            replace x0 := held x0
            replace x1 := held x1
            replace x2 := held x2
            replace x3 := held x3
            replace x4 := held x4
            replace x5 := held x5
            replace x6 := held x6
            replace x7 := held x7
            replace z1 := held z1
            refine rg_quiet rfl rfl rfl rfl ?_; intro K hK; go_big_quiet_op; go_big_quiet_on
            refine rg_quiet rfl rfl rfl rfl ?_; intro K hK; go_big_quiet_op; go_big_quiet_on
            refine rg_quiet rfl rfl rfl rfl ?_; intro K hK; go_big_quiet_op; go_big_quiet_on
            refine rg_quiet rfl rfl rfl rfl ?_; intro K hK; go_big_quiet_op; go_big_quiet_on
            refine rg_quiet rfl rfl rfl rfl ?_; intro K hK; go_big_quiet_op; go_big_quiet_on
            refine rg_quiet rfl rfl rfl rfl ?_; intro K hK; go_big_quiet_op; go_big_quiet_on
            refine rg_quiet rfl rfl rfl rfl ?_; intro K hK; go_big_quiet_op; go_big_quiet_on
            refine rg_quiet rfl rfl rfl rfl ?_; intro K hK; go_big_quiet_op; go_big_quiet_on
            refine rg_quiet rfl rfl rfl rfl ?_; intro K hK; go_big_quiet_op; go_big_quiet_on
            refine rel_skip rfl rfl ?_
            simp only [Act.put, List.setIfInBounds_toArray, List.set_cons_zero, List.set_cons_succ]
            refine rel_skip rfl rfl ?_
            simp only [Act.put, List.setIfInBounds_toArray, List.set_cons_zero, List.set_cons_succ]
            refine rel_skip rfl rfl ?_
            simp only [Act.put, List.setIfInBounds_toArray, List.set_cons_zero, List.set_cons_succ]
            refine rel_skip rfl rfl ?_
            simp only [Act.put, List.setIfInBounds_toArray, List.set_cons_zero, List.set_cons_succ]
            refine rel_skip rfl rfl ?_
            simp only [Act.put, List.setIfInBounds_toArray, List.set_cons_zero, List.set_cons_succ]
            refine rel_skip rfl rfl ?_
            simp only [Act.put, List.setIfInBounds_toArray, List.set_cons_zero, List.set_cons_succ]
            refine rg_quiet rfl rfl rfl rfl ?_; intro K hK; go_big_quiet_op; go_big_quiet_on
            refine rg_quiet rfl rfl rfl rfl ?_; intro K hK; go_big_quiet_op; go_big_quiet_on
            refine rel_skip rfl rfl ?_
            simp only [Act.put, List.setIfInBounds_toArray, List.set_cons_zero, List.set_cons_succ]
            refine rel_skip rfl rfl ?_
            simp only [Act.put, List.setIfInBounds_toArray, List.set_cons_zero, List.set_cons_succ]
            refine rel_skip rfl rfl ?_
            simp only [Act.put, List.setIfInBounds_toArray, List.set_cons_zero, List.set_cons_succ]
            refine rel_skip rfl rfl ?_
            simp only [Act.put, List.setIfInBounds_toArray, List.set_cons_zero, List.set_cons_succ]
            refine rel_skip rfl rfl ?_
            simp only [Act.put, List.setIfInBounds_toArray, List.set_cons_zero, List.set_cons_succ]
            refine rel_skip rfl rfl ?_
            simp only [Act.put, List.setIfInBounds_toArray, List.set_cons_zero, List.set_cons_succ]
            refine rel_skip rfl rfl ?_
            simp only [Act.put, List.setIfInBounds_toArray, List.set_cons_zero, List.set_cons_succ]
            refine rel_skip rfl rfl ?_
            simp only [Act.put, List.setIfInBounds_toArray, List.set_cons_zero, List.set_cons_succ]
            refine rg_quiet rfl rfl rfl rfl ?_; intro K hK; go_big_quiet_op; go_big_quiet_on
            refine rel_nil fun w8 hE8 _ => ?_
            have oq8 := oq7.ext' hE8
            clear x0 x1 x2 x3 x4 x5 x6 x7 z0 z1 z2 hE8
            go_wp2_with fail
            go_roundw
            case rel =>
              refine ⟨j + 1, _, L2, hlt, rfl, oq8, by omega, ?_⟩
              show _ = _
              rw [HSTEP.out, HID.out]
              simp [t1]
            case measure => simp [intOf]; omega
          · have t1 : decide (M.live.at_ < 1) = false := by simpa using i1
            by_cases i2 : M.live.at_ ≤ M.shade
            · have t2 : decide (M.live.at_ ≤ M.shade) = true := by simpa using i2

              refine wp_region_tab 26 [(23, fun v _ => v = .int .i64 G)] (by kernel_rfl) (by kernel_rfl) (by kernel_rfl) ⟨stays_eq _, trivial⟩ ?_
              replace x0 := held x0
              replace x1 := held x1
              replace x2 := held x2
              replace x3 := held x3
              replace x4 := held x4
              replace x5 := held x5
              replace x6 := held x6
              replace x7 := held x7
              replace z1 := held z1
              refine rg_quiet rfl rfl rfl rfl ?_; intro K hK; go_big_quiet_op; go_big_quiet_on
              refine rg_quiet rfl rfl rfl rfl ?_; intro K hK; go_big_quiet_op; go_big_quiet_on
              refine rg_quiet rfl rfl rfl rfl ?_; intro K hK; go_big_quiet_op; go_big_quiet_on
              refine rg_quiet rfl rfl rfl rfl ?_; intro K hK; go_big_quiet_op; go_big_quiet_on
              refine rg_quiet rfl rfl rfl rfl ?_; intro K hK; go_big_quiet_op; go_big_quiet_on
              refine rg_quiet rfl rfl rfl rfl ?_; intro K hK; go_big_quiet_op; go_big_quiet_on
              refine rg_quiet rfl rfl rfl rfl ?_; intro K hK; go_big_quiet_op; go_big_quiet_on
              refine rg_quiet rfl rfl rfl rfl ?_; intro K hK; go_big_quiet_op; go_big_quiet_on
              refine rg_quiet rfl rfl rfl rfl ?_; intro K hK; go_big_quiet_op; go_big_quiet_on
              refine rg_quiet rfl rfl rfl rfl ?_; intro K hK; go_big_quiet_op; go_big_quiet_on
              refine rg_quiet rfl rfl rfl rfl ?_; intro K hK; go_big_quiet_op; go_big_quiet_on
              refine rg_quiet rfl rfl rfl rfl ?_; intro K hK; go_big_quiet_op; go_big_quiet_on
              refine rg_quiet rfl rfl rfl rfl ?_; intro K hK; go_big_quiet_op; go_big_quiet_on
              refine rg_quiet rfl rfl rfl rfl ?_; intro K hK; go_big_quiet_op; go_big_quiet_on
              refine rg_quiet rfl rfl rfl rfl ?_; intro K hK; go_big_quiet_op; go_big_quiet_on
              refine rg_quiet rfl rfl rfl rfl ?_; intro K hK; go_big_quiet_op; go_big_quiet_on
              refine rg_quiet rfl rfl rfl rfl ?_; intro K hK; go_big_quiet_op; go_big_quiet_on
              refine rel_skip rfl rfl ?_
              simp only [Act.put, List.setIfInBounds_toArray, List.set_cons_zero, List.set_cons_succ]
              refine rel_skip rfl rfl ?_
              simp only [Act.put, List.setIfInBounds_toArray, List.set_cons_zero, List.set_cons_succ]
              refine rel_skip rfl rfl ?_
              simp only [Act.put, List.setIfInBounds_toArray, List.set_cons_zero, List.set_cons_succ]
              refine rel_skip rfl rfl ?_
              simp only [Act.put, List.setIfInBounds_toArray, List.set_cons_zero, List.set_cons_succ]
              refine rel_skip rfl rfl ?_
              simp only [Act.put, List.setIfInBounds_toArray, List.set_cons_zero, List.set_cons_succ]
              refine rel_skip rfl rfl ?_
              simp only [Act.put, List.setIfInBounds_toArray, List.set_cons_zero, List.set_cons_succ]
              refine rel_skip rfl rfl ?_
              simp only [Act.put, List.setIfInBounds_toArray, List.set_cons_zero, List.set_cons_succ]
              refine rel_skip rfl rfl ?_
              simp only [Act.put, List.setIfInBounds_toArray, List.set_cons_zero, List.set_cons_succ]
              refine rg_quiet rfl rfl rfl rfl ?_; intro K hK; go_big_quiet_op; go_big_quiet_on
              refine rel_nil fun w8 hE8 _ => ?_
              have oq8 := oq7.ext' hE8
              clear x0 x1 x2 x3 x4 x5 x6 x7 z0 z1 z2 hE8
              go_wp2_with fail
              go_roundw
              case rel =>
                refine ⟨j + 1, _, L2, hlt, rfl, oq8, by omega, ?_⟩
                show _ = _
                rw [HSTEP.out, HID.out]
                simp [t1, t2]
              case measure => simp [intOf]; omega
            · have t2 : decide (M.live.at_ ≤ M.shade) = false := by simpa using i2
              by_cases i3 : M.live.at_ ≤ G
              · have t3 : decide (M.live.at_ ≤ G) = true := by simpa using i3

                refine wp_region_tab 26 [(23, fun v _ => v = .int .i64 G)] (by kernel_rfl) (by kernel_rfl) (by kernel_rfl) ⟨stays_eq _, trivial⟩ ?_
                replace x0 := held x0
                replace x1 := held x1
                replace x2 := held x2
                replace x3 := held x3
                replace x4 := held x4
                replace x5 := held x5
                replace x6 := held x6
                replace x7 := held x7
                replace z1 := held z1
                refine rg_quiet rfl rfl rfl rfl ?_; intro K hK; go_big_quiet_op; go_big_quiet_on
                refine rg_quiet rfl rfl rfl rfl ?_; intro K hK; go_big_quiet_op; go_big_quiet_on
                refine rg_quiet rfl rfl rfl rfl ?_; intro K hK; go_big_quiet_op; go_big_quiet_on
                refine rg_quiet rfl rfl rfl rfl ?_; intro K hK; go_big_quiet_op; go_big_quiet_on
                refine rg_quiet rfl rfl rfl rfl ?_; intro K hK; go_big_quiet_op; go_big_quiet_on
                refine rg_quiet rfl rfl rfl rfl ?_; intro K hK; go_big_quiet_op; go_big_quiet_on
                refine rg_quiet rfl rfl rfl rfl ?_; intro K hK; go_big_quiet_op; go_big_quiet_on
                refine rg_quiet rfl rfl rfl rfl ?_; intro K hK; go_big_quiet_op; go_big_quiet_on
                refine rg_quiet rfl rfl rfl rfl ?_; intro K hK; go_big_quiet_op; go_big_quiet_on
                refine rg_quiet rfl rfl rfl rfl ?_; intro K hK; go_big_quiet_op; go_big_quiet_on
                refine rg_quiet rfl rfl rfl rfl ?_; intro K hK; go_big_quiet_op; go_big_quiet_on
                refine rg_quiet rfl rfl rfl rfl ?_; intro K hK; go_big_quiet_op; go_big_quiet_on
                refine rg_quiet rfl rfl rfl rfl ?_; intro K hK; go_big_quiet_op; go_big_quiet_on
                refine rg_quiet rfl rfl rfl rfl ?_; intro K hK; go_big_quiet_op; go_big_quiet_on
                refine rg_quiet rfl rfl rfl rfl ?_; intro K hK; go_big_quiet_op; go_big_quiet_on
                refine rg_quiet rfl rfl rfl rfl ?_; intro K hK; go_big_quiet_op; go_big_quiet_on
                refine rg_quiet rfl rfl rfl rfl ?_; intro K hK; go_big_quiet_op; go_big_quiet_on
                refine rg_quiet rfl rfl rfl rfl ?_; intro K hK; go_big_quiet_op; go_big_quiet_on
                refine rg_quiet rfl rfl rfl rfl ?_; intro K hK; go_big_quiet_op; go_big_quiet_on
                refine rg_quiet rfl rfl rfl rfl ?_; intro K hK; go_big_quiet_op; go_big_quiet_on
                refine rg_quiet rfl rfl rfl rfl ?_; intro K hK; go_big_quiet_op; go_big_quiet_on
                refine rg_quiet rfl rfl rfl rfl ?_; intro K hK; go_big_quiet_op; go_big_quiet_on
                refine rg_quiet rfl rfl rfl rfl ?_; intro K hK; go_big_quiet_op; go_big_quiet_on
                refine rg_val [] rfl rfl rfl (by kernel_rfl) (fun w1 hE hf => ?_) ?_
                · go_simp
                  exact (rgone_any M (.slice um M.cols.length cm) xg w1).mono fun e w' ⟨he, hw⟩ => ⟨_, he, rg_done hE hw (by rw [HG.out])⟩
                simp only [Act.put, List.setIfInBounds_toArray, List.set_cons_zero, List.set_cons_succ]
                refine rg_quiet rfl rfl rfl rfl ?_; intro K hK; go_big_quiet_op; go_big_quiet_on
                refine rg_quiet rfl rfl rfl rfl ?_; intro K hK; go_big_quiet_op; go_big_quiet_on
                refine rel_nil fun w8 hE8 _ => ?_
                have oq8 := oq7.ext' hE8
                clear x0 x1 x2 x3 x4 x5 x6 x7 z0 z1 z2 hE8
                go_wp2_with fail
                go_roundw
                case rel =>
                  refine ⟨j + 1, _, L2, hlt, rfl, oq8, by omega, ?_⟩
                  show _ = _
                  rw [HSTEP.out, HID.out]
                  simp [t1, t2, t3]
                case measure => simp [intOf]; omega
              · have t3 : decide (M.live.at_ ≤ G) = false := by simpa using i3
                refine wp_region_tab 26 [(23, fun v _ => v = .int .i64 G)] (by kernel_rfl) (by kernel_rfl) (by kernel_rfl) ⟨stays_eq _, trivial⟩ ?_
                replace x0 := held x0
                replace x1 := held x1
                replace x2 := held x2
                replace x3 := held x3
                replace x4 := held x4
                replace x5 := held x5
                replace x6 := held x6
                replace x7 := held x7
                replace z1 := held z1
                refine rg_quiet rfl rfl rfl rfl ?_; intro K hK; go_big_quiet_op; go_big_quiet_on
                refine rg_quiet rfl rfl rfl rfl ?_; intro K hK; go_big_quiet_op; go_big_quiet_on
                refine rg_quiet rfl rfl rfl rfl ?_; intro K hK; go_big_quiet_op; go_big_quiet_on
                refine rg_quiet rfl rfl rfl rfl ?_; intro K hK; go_big_quiet_op; go_big_quiet_on
                refine rg_quiet rfl rfl rfl rfl ?_; intro K hK; go_big_quiet_op; go_big_quiet_on
                refine rg_quiet rfl rfl rfl rfl ?_; intro K hK; go_big_quiet_op; go_big_quiet_on
                refine rg_quiet rfl rfl rfl rfl ?_; intro K hK; go_big_quiet_op; go_big_quiet_on
                refine rg_quiet rfl rfl rfl rfl ?_; intro K hK; go_big_quiet_op; go_big_quiet_on
                refine rg_quiet rfl rfl rfl rfl ?_; intro K hK; go_big_quiet_op; go_big_quiet_on
                refine rg_quiet rfl rfl rfl rfl ?_; intro K hK; go_big_quiet_op; go_big_quiet_on
                refine rg_quiet rfl rfl rfl rfl ?_; intro K hK; go_big_quiet_op; go_big_quiet_on
                refine rg_quiet rfl rfl rfl rfl ?_; intro K hK; go_big_quiet_op; go_big_quiet_on
                refine rg_quiet rfl rfl rfl rfl ?_; intro K hK; go_big_quiet_op; go_big_quiet_on
                refine rg_quiet rfl rfl rfl rfl ?_; intro K hK; go_big_quiet_op; go_big_quiet_on
                refine rg_quiet rfl rfl rfl rfl ?_; intro K hK; go_big_quiet_op; go_big_quiet_on
                refine rg_quiet rfl rfl rfl rfl ?_; intro K hK; go_big_quiet_op; go_big_quiet_on
                refine rg_quiet rfl rfl rfl rfl ?_; intro K hK; go_big_quiet_op; go_big_quiet_on
                refine rg_quiet rfl rfl rfl rfl ?_; intro K hK; go_big_quiet_op; go_big_quiet_on
                refine rg_quiet rfl rfl rfl rfl ?_; intro K hK; go_big_quiet_op; go_big_quiet_on
                refine rg_quiet rfl rfl rfl rfl ?_; intro K hK; go_big_quiet_op; go_big_quiet_on
                refine rg_quiet rfl rfl rfl rfl ?_; intro K hK; go_big_quiet_op; go_big_quiet_on
                refine rg_quiet rfl rfl rfl rfl ?_; intro K hK; go_big_quiet_op; go_big_quiet_on
                refine rg_quiet rfl rfl rfl rfl ?_; intro K hK; go_big_quiet_op; go_big_quiet_on
                refine rg_val [] rfl rfl rfl (by kernel_rfl) (fun w1 hE hf => ?_) ?_
                · go_simp
                  exact (rgone_any M (.slice um M.cols.length cm) xg w1).mono fun e w' ⟨he, hw⟩ => ⟨_, he, rg_done hE hw (by rw [HG.out])⟩
                simp only [Act.put, List.setIfInBounds_toArray, List.set_cons_zero, List.set_cons_succ]
                refine rg_quiet rfl rfl rfl rfl ?_; intro K hK; go_big_quiet_op; go_big_quiet_on
                refine rg_quiet rfl rfl rfl rfl ?_; intro K hK; go_big_quiet_op; go_big_quiet_on
                refine rel_nil fun w8 hE8 _ => ?_
                have oq8 := oq7.ext' hE8
                have r8 := r7.ext hE8
                have b8 := b7.ext hE8
                have hcR8 : ColsT w8 (.slice a6 R.cols.length cc6) R.cols := TIn.ext hE8 hcR7
                have hcM8 : ColsT w8 (.slice um M.cols.length cm) M.cols := TIn.ext hE8 hcM7
                have HIDF : Hid (idleB xg M = false) := Lib.hid (by rw [HID.out]; simp [t1, t2, t3])
                have hE78 := hE8.le
                clear x0 x1 x2 x3 x4 x5 x6 x7 z0 z1 z2 hE8 oq7 r7 b7 hcR7 hcM7 t1 t2 t3 i1 i2 i3
                obtain ⟨y0, y1, y2, y3, y4, y5, y6, y7⟩ := b8.ro
                obtain ⟨v0, v1, v2, v3, v4⟩ := (oq8.keep _ _ _ hk1.out (by omega)).vw
                obtain ⟨p0, p1, p2⟩ := (oq8.keep _ _ _ hk2.out (by omega)).pa
                have tb8 := oq8.keep _ _ _ hk0.out (by omega)
                have s0 : w8.cell? ⟨w.heap.size, 0, none⟩ = some (.string ⟨#[116]⟩) := tb8.cell 0
                have s1 : w8.cell? ⟨w.heap.size, 1, none⟩ = some (.int .i64 1) := tb8.cell 1
                have s2 : w8.cell? ⟨w.heap.size, 2, none⟩ = some (.string ⟨#[112]⟩) := tb8.cell 2
                have s3 : w8.cell? ⟨w.heap.size, 3, none⟩ = some (.int .i64 1) := tb8.cell 3
                have s4 : w8.cell? ⟨w.heap.size, 4, none⟩ = some (.string ⟨#[107]⟩) := tb8.cell 4
                have s5 : w8.cell? ⟨w.heap.size, 5, none⟩ = some (.int .i64 2) := tb8.cell 5
                have s6 : w8.cell? ⟨w.heap.size, 6, none⟩ = some s := tb8.cell 6
                go_wp2_with fail
                refine (mirror_any s x u ns pk pg _ R _ w8 (ColsT.cols hcR8) (by omega) (HNS.out.ext oq8.ext) (by omega) (by rw [HRK.out]; have := HK2.out; omega) (by rw [HRK.out]; exact HK3.out)).mono ?_
                rw [← HMI.out]
                rintro e w9 ⟨rv9, rfl, ps9, hr9, hpm9, hE9⟩
                obtain ⟨ar9, cr9, rfl⟩ := hr9.shape
                have oq9 := oq8.ext' hE9
                have r9 := r8.ext hE9
                have b9 := b8.ext hE9
                have hcR9 : ColsT w9 (.slice a6 R.cols.length cc6) R.cols := TIn.ext hE9 hcR8
                have hcM9 : ColsT w9 (.slice um M.cols.length cm) M.cols := TIn.ext hE9 hcM8
                have hE79 : w7.heap.size ≤ w9.heap.size := Nat.le_trans hE78 hE9.le
                clear y0 y1 y2 y3 y4 y5 y6 y7 v0 v1 v2 v3 v4 p0 p1 p2 tb8 s0 s1 s2 s3 s4 s5 s6 oq8 r8 b8 hcR8 hcM8 hE9 hr9 hpm9
                have hle9 : w7.heap.size ≤ w9.heap.size := hE79
                obtain ⟨n9, hn9⟩ : ∃ n, n = ps9.length := ⟨_, rfl⟩
                rw [← hn9]
                clear hn9
                cases mi with
                | none =>
                  go_wp2_with (((guard_target =~ wpList _ _ _ (Oper.mk none (Op.store _ (Operand.tmp 22) (Operand.tmp 123)) _ _ _ _ :: _) _ _); go_must (refine storeBox rfl 39 (.tmp 22) (.tmp 123) rfl (w9.heap.size) _ _ _ (by rfl) (by rfl) ((BoxAt.made w9 (pa3 ⟨#[]⟩ 0 (.slice none 0 0)) 39)) (by kernel_rfl) (by rfl) (by simp [Value.oneCell']) ?_); intro w10 d10 g10); have hX10 : Ext w9 w10 := ((Ext.refl w9).alloc _).grown g10 (fun q hq => by cases hq; omega); have oq10 := oq9.ext' hX10; have m10 := d10.pa (k := mirK none) (g := 0) (u := .slice ar9 n9 cr9); have z10 := (oq10.keep _ _ _ hk3.out (by omega)).pa)
                  have hle10 : w7.heap.size ≤ w10.heap.size := Nat.le_trans hle9 hX10.le
                  have r10 := r9.ext hX10
                  have b10 := b9.ext hX10
                  have hcR10 : ColsT w10 (.slice a6 R.cols.length cc6) R.cols := TIn.ext hX10 hcR9
                  have hcM10 : ColsT w10 (.slice um M.cols.length cm) M.cols := TIn.ext hX10 hcM9
                  clear m10 z10 d10 g10
                  refine wp_region_relE (OQ2 (OP w (w.heap.size + 1 + 1 + 1 + 1) w4.heap.size xk w4 (.slice al2 L2.length cl2) L2) wr.heap.size M (.slice um M.cols.length cm) w6.heap.size R (.slice a6 R.cols.length cc6) w7.heap.size) (OrE (.slice al2 L2.length cl2) w4.heap.size 9) (Tab.atE [(1, fun v _ => v = .slice al2 L2.length cl2), (2, fun v _ => v = .agg (vw5 x u)), (3, fun v _ => v = (.agg #[.string M.key, .string M.live.val, .bool M.live.dead, .int .i64 M.live.at_, .int .i64 M.live.fin, .int .i64 M.gone, .int .i64 M.shade, (.slice um M.cols.length cm)])), (4, fun v _ => v = (.agg #[.string R.key, .string R.live.val, .bool R.live.dead, .int .i64 R.live.at_, .int .i64 R.live.fin, .int .i64 R.gone, .int .i64 R.shade, (.slice a6 R.cols.length cc6)])), (6, fun v _ => v = .int .i64 pg), (7, fun v y => ∃ v', v = (.agg #[.string JL.key, .string JL.live.val, .bool JL.live.dead, .int .i64 JL.live.at_, .int .i64 JL.live.fin, .int .i64 JL.gone, .int .i64 JL.shade, v']) ∧ ColsT y v' JL.cols), (8, fun v y => ∃ b v', v = .slice (some ⟨b, 0, none⟩) 1 1 ∧ w7.heap.size ≤ b ∧ BoxAt y b (ro8 JL v') 54 ∧ ColsT y v' JL.cols), (9, fun v y => ∃ v', y.ownsRow w4.heap.size 54 8 v (L2.length + 1) (roCells (L2 ++ [(JL, v')])) ∧ ColsT y v' JL.cols)])
                    (Tab.staysE ⟨fun _ _ _ _ _ _ h => h, fun _ _ _ _ _ _ h => h, fun _ _ _ _ _ _ h => h, fun _ _ _ _ _ _ h => h, fun _ _ _ _ _ _ h => h, fun _ _ _ _ _ hR ⟨v', e, h⟩ => ⟨v', e, OrE_tin hR (by decide) h⟩, fun _ _ _ _ _ hR ⟨b, v', e, hb, hx, h⟩ => ⟨b, v', e, hb, OrE_far own7 hR hb hx, OrE_tin hR (by decide) h⟩, fun _ hj _ _ _ hR ⟨v', h, hc⟩ => ⟨v', ownsRow_ext h (OrE_off hj hR), OrE_tin hR (by decide) hc⟩, trivial⟩)
                    11 (by kernel_rfl) (by kernel_rfl) (by kernel_rfl) (OQ2.mk (oq10.ext' (Ext.refl _).drew) (r10.ext (Ext.refl _).drew) (b10.ext (Ext.refl _).drew) (TIn.ext (Ext.refl _).drew hcM10) (TIn.ext (Ext.refl _).drew hcR10) hle10) ?_
                  refine relE_quiet rfl rfl rfl rfl ?_; intro K hK; go_big_quiet_op; (first | refine ⟨_, fun _ _ => rfl, hK _ ?_⟩ | refine hK _ ?_); clear hK K
                  refine relE_val [] rfl rfl rfl (by kernel_rfl) (fun z hz hf => ?_) ?_
                  · obtain ⟨q0, q1, q2⟩ := hz.op.box.pa
                    go_simp
                    exact ⟨hz, OrE_ext (by decide) (Ext.refl z), rfl⟩
                  simp only [Act.put, List.setIfInBounds_toArray, List.set_cons_zero, List.set_cons_succ]
                  refine relE_val [] rfl rfl rfl (by kernel_rfl) (fun z hz hf => ?_) ?_
                  · obtain ⟨q0, q1, q2, q3, q4⟩ := (hz.op.keep _ _ _ hk1.out (by omega)).vw
                    go_simp
                    exact ⟨hz, OrE_ext (by decide) (Ext.refl z), rfl⟩
                  simp only [Act.put, List.setIfInBounds_toArray, List.set_cons_zero, List.set_cons_succ]
                  refine relE_val [] rfl rfl rfl (by kernel_rfl) (fun z hz hf => ?_) ?_
                  · obtain ⟨q0, q1, q2, q3, q4, q5, q6, q7⟩ := hz.box.ro
                    go_simp
                    exact ⟨hz, OrE_ext (by decide) (Ext.refl z), rfl⟩
                  simp only [Act.put, List.setIfInBounds_toArray, List.set_cons_zero, List.set_cons_succ]
                  refine relE_val [] rfl rfl rfl (by kernel_rfl) (fun z hz hf => ?_) ?_
                  · obtain ⟨q0, q1, q2, q3, q4, q5, q6, q7⟩ := hz.box2.ro
                    go_simp
                    exact ⟨hz, OrE_ext (by decide) (Ext.refl z), rfl⟩
                  simp only [Act.put, List.setIfInBounds_toArray, List.set_cons_zero, List.set_cons_succ]
                  refine relE_quiet rfl rfl rfl rfl ?_; intro K hK; go_big_quiet_op; (first | refine ⟨_, fun _ _ => rfl, hK _ ?_⟩ | refine hK _ ?_); clear hK K
                  refine relE_val [] rfl rfl rfl (by kernel_rfl) (fun z hz hf => ?_) ?_
                  · obtain ⟨q0, q1, q2⟩ := (hz.op.keep _ _ _ hk2.out (by omega)).pa
                    go_simp
                    exact ⟨hz, OrE_ext (by decide) (Ext.refl z), rfl⟩
                  simp only [Act.put, List.setIfInBounds_toArray, List.set_cons_zero, List.set_cons_succ]
                  refine relE_fact [] rfl rfl rfl (by kernel_rfl) (fun z hz hf => ?_) (fun v8 z8 hC8 hG8 h8 => ?_)
                  · go_simp
                    refine (left_any x u M R (.slice um M.cols.length cm) (.slice a6 R.cols.length cc6) pg z (ColsT.cols hz.cols2)).mono ?_
                    rw [← HJL.out]
                    rintro e y ⟨v', he, hc, hy⟩
                    exact ⟨_, he, OQ2.ext' hy hz (hz.op.ext' hy), OrE_ext (by decide) hy, v', rfl, hc⟩
                  obtain ⟨v11, rfl, h11⟩ := h8
                  obtain ⟨a11, c11, rfl⟩ := TIn.shape h11
                  clear hC8 hG8 h11
                  simp only [Act.put, List.setIfInBounds_toArray, List.set_cons_zero, List.set_cons_succ]
                  refine relE_fact [7] rfl rfl rfl (by kernel_rfl) (fun z hz hf => ?_) (fun v4 z4 hC4 hG4 h4 => ?_)
                  · obtain ⟨v', e, hc⟩ := (hf 7 (by simp)).2 rfl
                    cases e
                    have hy : Ext z (z.alloc (.cells (ro8 JL (.slice a11 JL.cols.length c11)) 54)) := (Ext.refl z).alloc _
                    go_simp
                    exact ⟨OQ2.ext' hy hz (hz.op.ext' hy), OrE_ext (by decide) hy, _, rfl, hz.size, _, BoxAt.made z _ _, TIn.ext hy hc⟩
                  obtain ⟨b14, v14, rfl, _, _, _⟩ := h4
                  clear hC4 hG4
                  simp only [Act.put, List.setIfInBounds_toArray, List.set_cons_zero, List.set_cons_succ]
                  refine relE_fact [8] rfl rfl rfl (by kernel_rfl) (fun z hz hf => ?_) (fun v5 z5 hC5 hG5 h5 => ?_)
                  · obtain ⟨b, v', e, hb, hbox, hr⟩ := (hf 8 (by simp)).2 rfl
                    cases e
                    obtain ⟨aq, cq, rfl⟩ := TIn.shape hr
                    refine yields_append info_Row und_Rows rfl (by decide) (.tmp 135) (.tmp 142) rfl w4.heap.size hz.op.size (.slice al2 L2.length cl2) L2.length (roCells L2) hz.op.own (by rfl) b14 1 1 (ro8 JL (.slice aq JL.cols.length cq)).toList (by rfl) (by rfl) (fun j u hj => by rw [hbox.cell j]; simpa using hj) (by simp [ro8, Value.oneCell']) (by unfold maxLen; omega) (by omega) ?_
                    intro v'' y hown' hg hkeep
                    have hR : OrE (.slice al2 L2.length cl2) w4.heap.size 9 9 z y := by unfold OrE; rw [if_pos rfl]; exact ⟨⟨_, _, hz.op.own⟩, hg⟩
                    refine ⟨OQ2.mk (hz.op.grow hw4 (by omega) (Nat.le_refl _) hg hkeep) (hz.box.grown hg (fun e => by have := (hwrown.lt _ e.symm).2; omega)) (hz.box2.grown hg (fun e => by have := (hwrown.lt _ e.symm).2; omega)) (OrE_tin hR (by decide) hz.cols) (OrE_tin hR (by decide) hz.cols2) (Nat.le_trans hz.size hg.size), hR, _, ?_, OrE_tin hR (by decide) hr⟩
                    rw [roCells_append]
                    exact hown'
                  obtain ⟨v15, h5, _⟩ := h5
                  obtain ⟨a5, c5, rfl⟩ := own_shape h5
                  clear hC5 hG5 h5
                  simp only [Act.put, List.setIfInBounds_toArray, List.set_cons_zero, List.set_cons_succ]
                  refine relE_quiet rfl rfl rfl rfl ?_; intro K hK; go_big_quiet_op; (first | refine ⟨_, fun _ _ => rfl, hK _ ?_⟩ | refine hK _ ?_); clear hK K
                  refine relE_tail rfl rfl fun w11 hC hG => ?_
                  obtain ⟨v12, hown12, hr12⟩ := (hG 9).2 rfl
                  have q0 : w11.cell? ⟨w.heap.size + 1 + 1 + 1 + 1, 2, none⟩ = some (.slice al2 L2.length cl2) := hC.op.box.cell 2
                  have qf := hC.op.box.free 2
                  go_wp2_with fail
                  go_roundw
                  case rel =>
                    refine ⟨j + 1, _, L2 ++ [(JL, v12)], hlt, rfl, hC.op.put (by omega) hown12 hr12, by simp; omega, ?_⟩
                    show _ = _
                    rw [HSTEP.out, HIDF.out, if_neg (by decide), if_pos (show strayB none xk = true from rfl)]
                    simp
                  case measure => simp [intOf]; omega
                | some p =>
                  by_cases hpx : p.1 = xk
                  · have hkb : ((mirK (some p)).toList == xk.toList) = true := by simpa [mirK] using congrArg ByteArray.toList hpx
                    go_wp2_with (((guard_target =~ wpList _ _ _ (Oper.mk none (Op.store _ (Operand.tmp 22) (Operand.tmp 123)) _ _ _ _ :: _) _ _); go_must (refine storeBox rfl 39 (.tmp 22) (.tmp 123) rfl (w9.heap.size) _ _ _ (by rfl) (by rfl) ((BoxAt.made w9 (pa3 ⟨#[]⟩ 0 (.slice none 0 0)) 39)) (by kernel_rfl) (by rfl) (by simp [Value.oneCell']) ?_); intro w10 d10 g10); have hX10 : Ext w9 w10 := ((Ext.refl w9).alloc _).grown g10 (fun q hq => by cases hq; omega); have oq10 := oq9.ext' hX10; have m10 := d10.pa (k := mirK (some p)) (g := 0) (u := .slice ar9 n9 cr9); have z10 := (oq10.keep _ _ _ hk3.out (by omega)).pa)
                    go_roundw
                    case rel =>
                      refine ⟨j + 1, _, L2, hlt, rfl, oq10, by omega, ?_⟩
                      show _ = _
                      rw [HSTEP.out, HIDF.out]
                      simp [strayB, hkb]
                    case measure => simp [intOf]; omega
                  · have hkb : ((mirK (some p)).toList == xk.toList) = false := by simp [mirK]; exact fun e => hpx (bytes_ext e)
                    go_wp2_with (((guard_target =~ wpList _ _ _ (Oper.mk none (Op.store _ (Operand.tmp 22) (Operand.tmp 123)) _ _ _ _ :: _) _ _); go_must (refine storeBox rfl 39 (.tmp 22) (.tmp 123) rfl (w9.heap.size) _ _ _ (by rfl) (by rfl) ((BoxAt.made w9 (pa3 ⟨#[]⟩ 0 (.slice none 0 0)) 39)) (by kernel_rfl) (by rfl) (by simp [Value.oneCell']) ?_); intro w10 d10 g10); have hX10 : Ext w9 w10 := ((Ext.refl w9).alloc _).grown g10 (fun q hq => by cases hq; omega); have oq10 := oq9.ext' hX10; have m10 := d10.pa (k := mirK (some p)) (g := 0) (u := .slice ar9 n9 cr9); have z10 := (oq10.keep _ _ _ hk3.out (by omega)).pa)
                    have hle10 : w7.heap.size ≤ w10.heap.size := Nat.le_trans hle9 hX10.le
                    have r10 := r9.ext hX10
                    have b10 := b9.ext hX10
                    have hcR10 : ColsT w10 (.slice a6 R.cols.length cc6) R.cols := TIn.ext hX10 hcR9
                    have hcM10 : ColsT w10 (.slice um M.cols.length cm) M.cols := TIn.ext hX10 hcM9
                    clear m10 z10 d10 g10
                    refine wp_region_relE (OQ2 (OP w (w.heap.size + 1 + 1 + 1 + 1) w4.heap.size xk w4 (.slice al2 L2.length cl2) L2) wr.heap.size M (.slice um M.cols.length cm) w6.heap.size R (.slice a6 R.cols.length cc6) w7.heap.size) (OrE (.slice al2 L2.length cl2) w4.heap.size 9) (Tab.atE [(1, fun v _ => v = .slice al2 L2.length cl2), (2, fun v _ => v = .agg (vw5 x u)), (3, fun v _ => v = (.agg #[.string M.key, .string M.live.val, .bool M.live.dead, .int .i64 M.live.at_, .int .i64 M.live.fin, .int .i64 M.gone, .int .i64 M.shade, (.slice um M.cols.length cm)])), (4, fun v _ => v = (.agg #[.string R.key, .string R.live.val, .bool R.live.dead, .int .i64 R.live.at_, .int .i64 R.live.fin, .int .i64 R.gone, .int .i64 R.shade, (.slice a6 R.cols.length cc6)])), (6, fun v _ => v = .int .i64 pg), (7, fun v y => ∃ v', v = (.agg #[.string JL.key, .string JL.live.val, .bool JL.live.dead, .int .i64 JL.live.at_, .int .i64 JL.live.fin, .int .i64 JL.gone, .int .i64 JL.shade, v']) ∧ ColsT y v' JL.cols), (8, fun v y => ∃ b v', v = .slice (some ⟨b, 0, none⟩) 1 1 ∧ w7.heap.size ≤ b ∧ BoxAt y b (ro8 JL v') 54 ∧ ColsT y v' JL.cols), (9, fun v y => ∃ v', y.ownsRow w4.heap.size 54 8 v (L2.length + 1) (roCells (L2 ++ [(JL, v')])) ∧ ColsT y v' JL.cols)])
                      (Tab.staysE ⟨fun _ _ _ _ _ _ h => h, fun _ _ _ _ _ _ h => h, fun _ _ _ _ _ _ h => h, fun _ _ _ _ _ _ h => h, fun _ _ _ _ _ _ h => h, fun _ _ _ _ _ hR ⟨v', e, h⟩ => ⟨v', e, OrE_tin hR (by decide) h⟩, fun _ _ _ _ _ hR ⟨b, v', e, hb, hx, h⟩ => ⟨b, v', e, hb, OrE_far own7 hR hb hx, OrE_tin hR (by decide) h⟩, fun _ hj _ _ _ hR ⟨v', h, hc⟩ => ⟨v', ownsRow_ext h (OrE_off hj hR), OrE_tin hR (by decide) hc⟩, trivial⟩)
                      11 (by kernel_rfl) (by kernel_rfl) (by kernel_rfl) (OQ2.mk (oq10.ext' (Ext.refl _).drew) (r10.ext (Ext.refl _).drew) (b10.ext (Ext.refl _).drew) (TIn.ext (Ext.refl _).drew hcM10) (TIn.ext (Ext.refl _).drew hcR10) hle10) ?_
                    refine relE_quiet rfl rfl rfl rfl ?_; intro K hK; go_big_quiet_op; (first | refine ⟨_, fun _ _ => rfl, hK _ ?_⟩ | refine hK _ ?_); clear hK K
                    refine relE_val [] rfl rfl rfl (by kernel_rfl) (fun z hz hf => ?_) ?_
                    · obtain ⟨q0, q1, q2⟩ := hz.op.box.pa
                      go_simp
                      exact ⟨hz, OrE_ext (by decide) (Ext.refl z), rfl⟩
                    simp only [Act.put, List.setIfInBounds_toArray, List.set_cons_zero, List.set_cons_succ]
                    refine relE_val [] rfl rfl rfl (by kernel_rfl) (fun z hz hf => ?_) ?_
                    · obtain ⟨q0, q1, q2, q3, q4⟩ := (hz.op.keep _ _ _ hk1.out (by omega)).vw
                      go_simp
                      exact ⟨hz, OrE_ext (by decide) (Ext.refl z), rfl⟩
                    simp only [Act.put, List.setIfInBounds_toArray, List.set_cons_zero, List.set_cons_succ]
                    refine relE_val [] rfl rfl rfl (by kernel_rfl) (fun z hz hf => ?_) ?_
                    · obtain ⟨q0, q1, q2, q3, q4, q5, q6, q7⟩ := hz.box.ro
                      go_simp
                      exact ⟨hz, OrE_ext (by decide) (Ext.refl z), rfl⟩
                    simp only [Act.put, List.setIfInBounds_toArray, List.set_cons_zero, List.set_cons_succ]
                    refine relE_val [] rfl rfl rfl (by kernel_rfl) (fun z hz hf => ?_) ?_
                    · obtain ⟨q0, q1, q2, q3, q4, q5, q6, q7⟩ := hz.box2.ro
                      go_simp
                      exact ⟨hz, OrE_ext (by decide) (Ext.refl z), rfl⟩
                    simp only [Act.put, List.setIfInBounds_toArray, List.set_cons_zero, List.set_cons_succ]
                    refine relE_quiet rfl rfl rfl rfl ?_; intro K hK; go_big_quiet_op; (first | refine ⟨_, fun _ _ => rfl, hK _ ?_⟩ | refine hK _ ?_); clear hK K
                    refine relE_val [] rfl rfl rfl (by kernel_rfl) (fun z hz hf => ?_) ?_
                    · obtain ⟨q0, q1, q2⟩ := (hz.op.keep _ _ _ hk2.out (by omega)).pa
                      go_simp
                      exact ⟨hz, OrE_ext (by decide) (Ext.refl z), rfl⟩
                    simp only [Act.put, List.setIfInBounds_toArray, List.set_cons_zero, List.set_cons_succ]
                    refine relE_fact [] rfl rfl rfl (by kernel_rfl) (fun z hz hf => ?_) (fun v8 z8 hC8 hG8 h8 => ?_)
                    · go_simp
                      refine (left_any x u M R (.slice um M.cols.length cm) (.slice a6 R.cols.length cc6) pg z (ColsT.cols hz.cols2)).mono ?_
                      rw [← HJL.out]
                      rintro e y ⟨v', he, hc, hy⟩
                      exact ⟨_, he, OQ2.ext' hy hz (hz.op.ext' hy), OrE_ext (by decide) hy, v', rfl, hc⟩
                    obtain ⟨v11, rfl, h11⟩ := h8
                    obtain ⟨a11, c11, rfl⟩ := TIn.shape h11
                    clear hC8 hG8 h11
                    simp only [Act.put, List.setIfInBounds_toArray, List.set_cons_zero, List.set_cons_succ]
                    refine relE_fact [7] rfl rfl rfl (by kernel_rfl) (fun z hz hf => ?_) (fun v4 z4 hC4 hG4 h4 => ?_)
                    · obtain ⟨v', e, hc⟩ := (hf 7 (by simp)).2 rfl
                      cases e
                      have hy : Ext z (z.alloc (.cells (ro8 JL (.slice a11 JL.cols.length c11)) 54)) := (Ext.refl z).alloc _
                      go_simp
                      exact ⟨OQ2.ext' hy hz (hz.op.ext' hy), OrE_ext (by decide) hy, _, rfl, hz.size, _, BoxAt.made z _ _, TIn.ext hy hc⟩
                    obtain ⟨b14, v14, rfl, _, _, _⟩ := h4
                    clear hC4 hG4
                    simp only [Act.put, List.setIfInBounds_toArray, List.set_cons_zero, List.set_cons_succ]
                    refine relE_fact [8] rfl rfl rfl (by kernel_rfl) (fun z hz hf => ?_) (fun v5 z5 hC5 hG5 h5 => ?_)
                    · obtain ⟨b, v', e, hb, hbox, hr⟩ := (hf 8 (by simp)).2 rfl
                      cases e
                      obtain ⟨aq, cq, rfl⟩ := TIn.shape hr
                      refine yields_append info_Row und_Rows rfl (by decide) (.tmp 135) (.tmp 142) rfl w4.heap.size hz.op.size (.slice al2 L2.length cl2) L2.length (roCells L2) hz.op.own (by rfl) b14 1 1 (ro8 JL (.slice aq JL.cols.length cq)).toList (by rfl) (by rfl) (fun j u hj => by rw [hbox.cell j]; simpa using hj) (by simp [ro8, Value.oneCell']) (by unfold maxLen; omega) (by omega) ?_
                      intro v'' y hown' hg hkeep
                      have hR : OrE (.slice al2 L2.length cl2) w4.heap.size 9 9 z y := by unfold OrE; rw [if_pos rfl]; exact ⟨⟨_, _, hz.op.own⟩, hg⟩
                      refine ⟨OQ2.mk (hz.op.grow hw4 (by omega) (Nat.le_refl _) hg hkeep) (hz.box.grown hg (fun e => by have := (hwrown.lt _ e.symm).2; omega)) (hz.box2.grown hg (fun e => by have := (hwrown.lt _ e.symm).2; omega)) (OrE_tin hR (by decide) hz.cols) (OrE_tin hR (by decide) hz.cols2) (Nat.le_trans hz.size hg.size), hR, _, ?_, OrE_tin hR (by decide) hr⟩
                      rw [roCells_append]
                      exact hown'
                    obtain ⟨v15, h5, _⟩ := h5
                    obtain ⟨a5, c5, rfl⟩ := own_shape h5
                    clear hC5 hG5 h5
                    simp only [Act.put, List.setIfInBounds_toArray, List.set_cons_zero, List.set_cons_succ]
                    refine relE_quiet rfl rfl rfl rfl ?_; intro K hK; go_big_quiet_op; (first | refine ⟨_, fun _ _ => rfl, hK _ ?_⟩ | refine hK _ ?_); clear hK K
                    refine relE_tail rfl rfl fun w11 hC hG => ?_
                    obtain ⟨v12, hown12, hr12⟩ := (hG 9).2 rfl
                    have q0 : w11.cell? ⟨w.heap.size + 1 + 1 + 1 + 1, 2, none⟩ = some (.slice al2 L2.length cl2) := hC.op.box.cell 2
                    have qf := hC.op.box.free 2
                    go_wp2_with fail
                    go_roundw
                    case rel =>
                      refine ⟨j + 1, _, L2 ++ [(JL, v12)], hlt, rfl, hC.op.put (by omega) hown12 hr12, by simp; omega, ?_⟩
                      show _ = _
                      rw [HSTEP.out, HIDF.out, if_neg (by decide), if_pos (show strayB (some p) xk = true by simp [strayB, hkb])]
                      simp
                    case measure => simp [intOf]; omega
        · obtain rfl : j = k := by omega
          have HLS : Hid (L2.map (·.1) = shadeRs x ns xk xg pk pg ALL cof (qs.map (·.1))) := by
            show _ = _
            rw [HDj.out, List.take_of_length_le (by simp; rw [← HN.out]; exact Nat.le_refl _)]
          obtain ⟨q0, q1, q2⟩ := hoq.box.pa
          clear hlt
          go_wp2_with fail
          refine (rise_any _ L2 wr (RowsT.mk (TIn.own hoq.own) hoq.rows).rows (by omega) (fun i h => by
            have := HUS.out (L2.map (·.1)) (by rw [HLS.out, HALL.out]) i (by simpa using h)
            simpa using this)).mono ?_
          rintro e w5 ⟨rfl, hE5⟩
          have op5 := hoq.ext' hE5
          have b4 := op5.box
          have b5 := op5.keep _ _ _ hk5.out (by omega)
          obtain ⟨q0, q1, q2⟩ := b4.pa
          obtain ⟨p0, p1, p2⟩ := b5.pa
          have f4 := b4.free
          have f5 := b5.free
          have hRS : RowsT w5 (.slice al2 L2.length cl2) L2 := ⟨TIn.own op5.own, op5.rows⟩
          have hRB : RowsT w5 (.slice al L.length cl) L := op5.rowsT hop4.box hRL.out
          have hEF := op5.ext
          go_wp2_with fail
          go_region
          have s_0 := hRS.set 0 (.string xk) b4 (by decide) (by decide)
          have r_0 := hRB.set 0 (.string xk) b4 (by decide) (by decide)
          have bs_0 := b4.set 0 (.string xk)
          have bb_0 := b5.other (q := w.heap.size + 1 + 1 + 1 + 1) (by omega) 0 (.string xk)
          have ee_0 := hEF.setCell (p := ⟨w.heap.size + 1 + 1 + 1 + 1, 0, none⟩) (show w.heap.size ≤ w.heap.size + 1 + 1 + 1 + 1 by omega) (.string xk)
          have s_1 := s_0.set 1 (.int .i64 0) bs_0 (by decide) (by decide)
          have r_1 := r_0.set 1 (.int .i64 0) bs_0 (by decide) (by decide)
          have bs_1 := bs_0.set 1 (.int .i64 0)
          have bb_1 := bb_0.other (q := w.heap.size + 1 + 1 + 1 + 1) (by omega) 1 (.int .i64 0)
          have ee_1 := ee_0.setCell (p := ⟨w.heap.size + 1 + 1 + 1 + 1, 1, none⟩) (show w.heap.size ≤ w.heap.size + 1 + 1 + 1 + 1 by omega) (.int .i64 0)
          have s_2 := s_1.set 2 (.slice al2 L2.length cl2) bs_1 (by decide) (by decide)
          have r_2 := r_1.set 2 (.slice al2 L2.length cl2) bs_1 (by decide) (by decide)
          have bs_2 := bs_1.set 2 (.slice al2 L2.length cl2)
          have bb_2 := bb_1.other (q := w.heap.size + 1 + 1 + 1 + 1) (by omega) 2 (.slice al2 L2.length cl2)
          have ee_2 := ee_1.setCell (p := ⟨w.heap.size + 1 + 1 + 1 + 1, 2, none⟩) (show w.heap.size ≤ w.heap.size + 1 + 1 + 1 + 1 by omega) (.slice al2 L2.length cl2)
          have s_3 := s_2.set 0 (.string pk) bb_2 (by decide) (by decide)
          have r_3 := r_2.set 0 (.string pk) bb_2 (by decide) (by decide)
          have bs_3 := bs_2.other (q := w.heap.size + 1 + 1 + 1 + 1 + 1) (by omega) 0 (.string pk)
          have bb_3 := bb_2.set 0 (.string pk)
          have ee_3 := ee_2.setCell (p := ⟨w.heap.size + 1 + 1 + 1 + 1 + 1, 0, none⟩) (show w.heap.size ≤ w.heap.size + 1 + 1 + 1 + 1 + 1 by omega) (.string pk)
          have s_4 := s_3.set 1 (.int .i64 0) bb_3 (by decide) (by decide)
          have r_4 := r_3.set 1 (.int .i64 0) bb_3 (by decide) (by decide)
          have bs_4 := bs_3.other (q := w.heap.size + 1 + 1 + 1 + 1 + 1) (by omega) 1 (.int .i64 0)
          have bb_4 := bb_3.set 1 (.int .i64 0)
          have ee_4 := ee_3.setCell (p := ⟨w.heap.size + 1 + 1 + 1 + 1 + 1, 1, none⟩) (show w.heap.size ≤ w.heap.size + 1 + 1 + 1 + 1 + 1 by omega) (.int .i64 0)
          have s_5 := s_4.set 2 (.slice al L.length cl) bb_4 (by decide) (by decide)
          have r_5 := r_4.set 2 (.slice al L.length cl) bb_4 (by decide) (by decide)
          have bs_5 := bs_4.other (q := w.heap.size + 1 + 1 + 1 + 1 + 1) (by omega) 2 (.slice al L.length cl)
          have bb_5 := bb_4.set 2 (.slice al L.length cl)
          have ee_5 := ee_4.setCell (p := ⟨w.heap.size + 1 + 1 + 1 + 1 + 1, 2, none⟩) (show w.heap.size ≤ w.heap.size + 1 + 1 + 1 + 1 + 1 by omega) (.slice al L.length cl)
          clear s_0 r_0 bs_0 bb_0 ee_0 s_1 r_1 bs_1 bb_1 ee_1 s_2 r_2 bs_2 bb_2 ee_2 s_3 r_3 bs_3 bb_3 ee_3 s_4 r_4 bs_4 bb_4 ee_4
          generalize World.setCell (World.setCell (World.setCell (World.setCell (World.setCell (World.setCell w5 _ _) _ _) _ _) _ _) _ _) _ _ = w6 at s_5 r_5 bs_5 bb_5 ee_5 ⊢
          replace bs_5 : BoxAt w6 (w.heap.size + 1 + 1 + 1 + 1) (pa3 xk 0 (.slice al2 L2.length cl2)) 39 := bs_5
          replace bb_5 : BoxAt w6 (w.heap.size + 1 + 1 + 1 + 1 + 1) (pa3 pk 0 (.slice al L.length cl)) 39 := bb_5
          obtain ⟨q0, q1, q2⟩ := (bs_5.ext (Ext.refl w6).drew).pa
          obtain ⟨p0, p1, p2⟩ := (bb_5.ext (Ext.refl w6).drew).pa
          go_wp2
          refine bodyPost_ret (v := .tuple #[.agg #[.string xk, .int .i64 0, .slice al2 L2.length cl2], .agg #[.string pk, .int .i64 0, .slice al L.length cl]]) ?_ rfl ⟨_, _, L2, L, rfl, s_5.ext (Ext.refl w6).drew, by rw [HLS.out, HALL.out], r_5.ext (Ext.refl w6).drew, HLB.out, ee_5.drew⟩
          simp [results, Tryz.results12, go_sem, q0, q1, q2, p0, p1, p2]
end Go.Proofs.YtolkhjdododdaaaGreat

/- As XRegionE, where some operations make variables: in whatever order, these are apart. -/
namespace Go.Proofs.YtolkhjdododdaaaGreat
open Go

/-- The slots of those variables hold values that are apart. -/
def Apart (al : List (Nat × Tmp)) (a : Act) : Prop := ∀ p ∈ al, ∀ q ∈ al, p ≠ q → a.tmps.getD p.2 undef ≠ a.tmps.getD q.2 undef
/-- What is to be shown where they are. -/
def Q1 (al : List (Nat × Tmp)) (Q : Exit → Act → World → Prop) : Exit → Act → World → Prop
  | .normal, a, w => Apart al a → Q .normal a w
  | c, a, w => Q c a w
theorem letsOut_Q1 {al : List (Nat × Tmp)} {Q : Exit → Act → World → Prop} : LetsOut (Q1 al Q) = LetsOut Q := rfl
theorem put_other {a : Act} {e : Tmp} {v : Value} {o : Option Tmp} (h : o ≠ some e) : (a.put o v).tmps.getD e undef = a.tmps.getD e undef := by
  cases o with
  | none => rfl
  | some d =>
    have hne : d ≠ e := fun he => h (by rw [he])
    show (a.tmps.setIfInBounds d v).getD e undef = _
    simp [Array.getElem?_setIfInBounds_ne hne]
theorem put_same {a : Act} {d : Tmp} {v : Value} (h : d < a.tmps.size) : (a.put (some d) v).tmps.getD d undef = v := by
  show (a.tmps.setIfInBounds d v).getD d undef = v
  simp [Array.getD, h]
theorem put_size {a : Act} {o : Option Tmp} {v : Value} : (a.put o v).tmps.size = a.tmps.size := by
  cases o with
  | none => rfl
  | some d => show (a.tmps.setIfInBounds d v).size = _; simp
section
variable (P : Program) (ops : Array Oper) (al : List (Nat × Tmp))
/-- Each of them makes a variable, no other operation writes its slot. -/
structure AlOK : Prop where
  op : ∀ p ∈ al, ∃ o cs, ops[p.1]? = some o ∧ o.dst = some p.2 ∧ o.guard = none ∧ ∀ (a : Act) (w : World), (execOp a.eval o).run P w = .ok (.value (.pointer (some ⟨w.heap.size, 0, none⟩))) (w.alloc cs)
  own : ∀ p ∈ al, ∀ i o, ops[i]? = some o → o.dst = some p.2 → i = p.1
structure JD (listed : Array Bool) (a : Act) (w : World) : Prop where
  at_ : ∀ p ∈ al, listed.getD p.1 false = true → ∃ b, a.tmps.getD p.2 undef = .pointer (some ⟨b, 0, none⟩) ∧ b < w.heap.size
  ne : ∀ p ∈ al, ∀ q ∈ al, p ≠ q → listed.getD p.1 false = true → listed.getD q.1 false = true → a.tmps.getD p.2 undef ≠ a.tmps.getD q.2 undef
  size : ∀ p ∈ al, p.2 < a.tmps.size
end
section
variable {P : Program} {ops : Array Oper} {al : List (Nat × Tmp)}
theorem getD_set_at {listed : Array Bool} {i j : Nat} (h : (listed.setIfInBounds i true).getD j false = true) : j = i ∨ listed.getD j false = true := by
  by_cases e : i = j
  · exact .inl e.symm
  · rw [getD_set_ne false e] at h
    exact .inr h
/-- Another operation. -/
theorem JD.other {listed : Array Bool} {a : Act} {w w' : World} {i : Nat} {o : Oper} {v : Value} (hA : AlOK P ops al) (hi : ops[i]? = some o) (hn : ∀ p ∈ al, p.1 ≠ i) (hs : w.heap.size ≤ w'.heap.size) (h : JD al listed a w) : JD al (listed.setIfInBounds i true) (a.put o.dst v) w' := by
  have hd : ∀ p ∈ al, o.dst ≠ some p.2 := fun p hp e => hn p hp (hA.own p hp i o hi e).symm
  have hl : ∀ p ∈ al, (listed.setIfInBounds i true).getD p.1 false = true → listed.getD p.1 false = true := fun p hp hl => (getD_set_at hl).resolve_left (hn p hp)
  refine ⟨fun p hp hp' => ?_, fun p hp q hq hne hp' hq' => ?_, fun p hp => by rw [put_size]; exact h.size p hp⟩
  · obtain ⟨b, e, hb⟩ := h.at_ p hp (hl p hp hp')
    exact ⟨b, by rw [put_other (hd p hp)]; exact e, by omega⟩
  · rw [put_other (hd p hp), put_other (hd q hq)]
    exact h.ne p hp q hq hne (hl p hp hp') (hl q hq hq')
/-- One of them. -/
theorem JD.mine {listed : Array Bool} {a : Act} {w : World} {p0 : Nat × Tmp} (hp0 : p0 ∈ al) {o : Oper} (hA : AlOK P ops al) (hi : ops[p0.1]? = some o) (ho : o.dst = some p0.2) {cs : Obj} (hun : listed.getD p0.1 true = false) (h : JD al listed a w) : JD al (listed.setIfInBounds p0.1 true) (a.put o.dst (.pointer (some ⟨w.heap.size, 0, none⟩))) (w.alloc cs) := by
  have hun' : listed.getD p0.1 false = true → False := fun e => by
    rcases Nat.lt_or_ge p0.1 listed.size with h' | h'
    · simp [Array.getD, h'] at hun e; rw [hun] at e; cases e
    · simp [Array.getD, Nat.not_lt.2 h'] at e
  have huni : ∀ p ∈ al, p ≠ p0 → o.dst ≠ some p.2 := fun p hp hne e => by
    obtain ⟨o', _, ho', hd', _⟩ := hA.op p hp
    have e1 := hA.own p hp _ o hi e
    rw [e1] at hi
    rw [ho'] at hi
    cases hi
    rw [hd'] at ho
    exact hne (Prod.ext e1.symm (Option.some.inj ho))
  have hsz : (w.alloc cs).heap.size = w.heap.size + 1 := Deep.nblk_alloc _ _
  have hl : ∀ p ∈ al, p ≠ p0 → (listed.setIfInBounds p0.1 true).getD p.1 false = true → listed.getD p.1 false = true := fun p hp hne hl => (getD_set_at hl).resolve_left fun e => by
    obtain ⟨o', _, ho', hd', _⟩ := hA.op p hp
    rw [e] at ho'
    rw [ho'] at hi
    cases hi
    rw [hd'] at ho
    exact hne (Prod.ext e (Option.some.inj ho))
  have h0 : (a.put o.dst (.pointer (some ⟨w.heap.size, 0, none⟩))).tmps.getD p0.2 undef = .pointer (some ⟨w.heap.size, 0, none⟩) := by rw [ho]; exact put_same (h.size p0 hp0)
  refine ⟨fun p hp hp' => ?_, fun p hp q hq hne hp' hq' => ?_, fun p hp => by rw [put_size]; exact h.size p hp⟩
  · by_cases e : p = p0
    · subst e
      exact ⟨_, h0, by omega⟩
    · obtain ⟨b, e', hb⟩ := h.at_ p hp (hl p hp e hp')
      exact ⟨b, by rw [put_other (huni p hp e)]; exact e', by omega⟩
  · by_cases e : p = p0
    · subst e
      have hq0 : q ≠ p := fun e => hne e.symm
      obtain ⟨b, e', hb⟩ := h.at_ q hq (hl q hq hq0 hq')
      rw [h0, put_other (huni q hq hq0), e']
      intro e2
      injection e2 with e2
      injection e2 with e2
      injection e2 with e2
      omega
    · by_cases e2 : q = p0
      · subst e2
        obtain ⟨b, e', hb⟩ := h.at_ p hp (hl p hp e hp')
        rw [h0, put_other (huni p hp e), e']
        intro e2
        injection e2 with e2
        injection e2 with e2
        injection e2 with e2
        omega
      · rw [put_other (huni p hp e), put_other (huni q hq e2)]
        exact h.ne p hp q hq hne (hl p hp e hp') (hl q hq e2 hq')
/-- An operation that does not write those slots. -/
theorem wpOp_Q1 {Q : Exit → Act → World → Prop} {i : Nat} {K K' : Act → World → Prop} {a : Act} {w : World} (hK : ∀ a' w', Apart al a' → K a' w' → K' a' w') (hd : ∀ o, ops[i]? = some o → ∀ p ∈ al, o.dst ≠ some p.2) (hA : Apart al a) (h2 : wpOp P ops (Q1 al Q) i K a w) : wpOp P ops Q i K' a w := by
  unfold wpOp at h2 ⊢
  split
  · rename_i ho
    simp only [ho] at h2
    exact hK _ _ hA h2
  · rename_i o ho
    simp only [ho] at h2
    have hap : ∀ v (a' : Act), a'.tmps = a.tmps → Apart al (a'.put o.dst v) := fun v a' e p hp q hq hne => by
      rw [put_other (hd o ho p hp), put_other (hd o ho q hq), e]
      exact hA p hp q hq hne
    split
    · rename_i hw
      rw [if_pos hw] at h2
      rcases h2 with h2 | h2
      · left
        unfold Oper.wp at h2 ⊢
        generalize (execOp a.eval o).run P w = r at *
        cases r with
        | ok n w' =>
          cases n <;> simp only [Oper.upon] at h2 ⊢
          case value v => exact hK _ _ (hap v a rfl) h2
          case skip => exact hK _ _ (hap _ a rfl) h2
          case defer d => exact hK _ _ (hap _ _ rfl) h2
          case enter f args =>
            refine h2.mono fun e w'' h3 => ?_
            cases e with
            | returned v => exact hK _ _ (hap v a rfl) h3
            | panicked c => exact h3
            | outgrown => exact h3
          case row f args => exact h2.mono fun v w'' h3 => hK _ _ (hap v a rfl) h3
          all_goals exact h2
        | halt hh w' =>
          cases hh <;> simp only [Oper.upon] at h2 ⊢ <;> exact h2
      · exact .inr h2
    · rename_i hw
      rw [if_neg hw] at h2
      exact hK _ _ (hap _ a rfl) h2
/-- The last operations do not write those slots. -/
theorem wpAny_Q1 {Q : Exit → Act → World → Prop} : ∀ (fuel : Nat) (listed : Array Bool) (a : Act) (w : World), (∀ j o, ops[j]? = some o → listed.getD j true = false → ∀ p ∈ al, o.dst ≠ some p.2) → Apart al a → wpAny P .any ops (Q1 al Q) fuel listed a w → wpAny P .any ops Q fuel listed a w
  | 0, _, _, _, _, hA, h => ⟨h.1, h.2 hA⟩
  | fuel + 1, listed, a, w, hd, hA, h => ⟨fun h0 => h.1 h0 hA, fun i hi =>
      wpOp_Q1 (fun a' w' hA' h' => wpAny_Q1 fuel _ a' w' (fun j o hj hl => hd j o hj (unl_set hl).2) hA' h') (fun o ho => hd i o ho (mem_ready.1 hi).1) hA (h.2 i hi)⟩
/-- Each operation waits for earlier ones alone. -/
def backB (ops : Array Oper) : Bool := (List.range ops.size).all fun j => match ops[j]? with
  | some o => o.after.all fun e => !Region.binds .any e || decide (e.on < j)
  | none => true
theorem all_listed {listed : Array Bool} (hb : backB ops = true) (hsz : listed.size = ops.size) (h : Region.ready .any ops listed = []) : ∀ j, j < ops.size → listed.getD j false = true := by
  intro j
  induction j using Nat.strongRecOn with
  | ind j ih =>
    intro hj
    by_cases hl : listed.getD j false = true
    · exact hl
    · exfalso
      have hj' : j < listed.size := by omega
      have hun : listed.getD j true = false := by
        simp [Array.getD, hj'] at hl ⊢
        exact hl
      have ho : ops[j]? = some ops[j] := Array.getElem?_eq_getElem hj
      have hm : j ∈ Region.ready .any ops listed := mem_ready.2 ⟨hun, _, ho, fun e he hbd => by
        have h1 := List.all_eq_true.1 hb j (List.mem_range.2 hj)
        simp only [ho] at h1
        have h2 := (Array.all_eq_true'.1 h1) e he
        have h3 : e.on < j := by simpa [hbd] using h2
        exact ih e.on h3 (by omega)⟩
      rw [h] at hm
      cases hm
end
section
variable {P : Program} {ops : Array Oper} {al : List (Nat × Tmp)} {C : World → Prop} {E : Nat → World → World → Prop} {T : Nat → Option (List Value → Value → World → Prop)} {n : Nat} {Q : Exit → Act → World → Prop}
theorem wpOp_of_RED (hT : ∀ i Φ, T i = some Φ → ∀ A k v w w', k ≠ i → E k w w' → Φ A v w → Φ A v w') (hS : ∀ i w w', E i w w' → w.heap.size ≤ w'.heap.size) (hA : AlOK P ops al) (hTal : ∀ p ∈ al, T p.1 ≠ none)
    {i : Nat} {listed : Array Bool} (hi : i ∈ Region.ready .any ops listed) {K : Act → Facts → Prop} {K' : Act → World → Prop} {Q' : Exit → Act → World → Prop} {a : Act} {G : Facts} {w : World}
    (hG : ∀ j k w w', j ≠ k → E k w w' → G j w → G j w') (hC : C w) (hw : ∀ j, G j w) (hfi : Fresh G i) (hJ : JD al listed a w)
    (h : ∀ a' G' w', (∀ j k w w', j ≠ k → E k w w' → G' j w → G' j w') → (∀ j, j ≠ i → Fresh G j → Fresh G' j) → C w' → (∀ j, G' j w') → JD al (listed.setIfInBounds i true) a' w' → K a' G' → K' a' w') (hr : rOpE P ops C E T i K a G) : wpOp P ops Q' i K' a w := by
  obtain ⟨hun, o, ho, _⟩ := mem_ready.1 hi
  unfold rOpE at hr
  unfold wpOp
  simp only [ho] at hr ⊢
  have stay : ∀ (φ : World → Prop), (∀ k w w', k ≠ i → E k w w' → φ w → φ w') → ∀ j k w w', j ≠ k → E k w w' → (G.upd i φ) j w → (G.upd i φ) j w' :=
    fun φ hφ j k w w' hne hE hh => ⟨hG j k _ _ hne hE hh.1, fun hji => hφ k _ _ (fun e => hne (hji.trans e.symm)) hE (hh.2 hji)⟩
  have fresh : ∀ (φ : World → Prop), ∀ j, j ≠ i → Fresh G j → Fresh (G.upd i φ) j := fun φ j hne hf w => ⟨hf w, fun e => absurd e hne⟩
  obtain ⟨V, φ, hO, hn⟩ := hr
  rcases hO with ⟨hwt, rfl, rfl⟩ | ⟨hwt, need, _, hO⟩
  · rw [if_neg (by rw [hwt]; simp)]
    have hf : ∀ j, (G.upd i (fun _ => True)) j w := fun j => ⟨hw j, fun _ => trivial⟩
    have hnot : ∀ p ∈ al, p.1 ≠ i := fun p hp e => by
      obtain ⟨o', _, ho', _, hg, _⟩ := hA.op p hp
      rw [e, ho] at ho'
      cases ho'
      unfold Region.wanted at hwt
      rw [hg] at hwt
      cases hwt
    exact h _ _ _ (stay _ (fun _ _ _ _ _ h => h)) (fresh _) hC hf (hJ.other hA ho hnot (Nat.le_refl _)) (hn undef rfl ⟨w, hC, hf⟩)
  · rw [if_pos hwt]
    left
    rcases hO with ⟨hTi, u, hy, rfl, rfl⟩ | ⟨Φ, hTi, hy, rfl, rfl⟩
    · have hf : ∀ j, (G.upd i (fun _ => True)) j w := fun j => ⟨hw j, fun _ => trivial⟩
      have hnot : ∀ p ∈ al, p.1 ≠ i := fun p hp e => hTal p hp (by rw [e]; exact hTi)
      exact quietAt_wp (hy w hC fun j _ => hw j) (h _ _ _ (stay _ (fun _ _ _ _ _ h => h)) (fresh _) hC hf (hJ.other hA ho hnot (Nat.le_refl _)) (hn u rfl ⟨w, hC, hf⟩))
    · have hy' := hy w hC fun j _ => hw j
      by_cases hmem : ∃ p ∈ al, p.1 = i
      · obtain ⟨p0, hp0, rfl⟩ := hmem
        obtain ⟨o', cs, ho', hd', _, hrun⟩ := hA.op p0 hp0
        rw [ho] at ho'
        cases ho'
        unfold yields at hy'
        rw [hrun a w] at hy'
        obtain ⟨hC', hE, hΦ⟩ := hy'
        have hf : ∀ j, (G.upd p0.1 (Φ (look o a) (.pointer (some ⟨w.heap.size, 0, none⟩)))) j (w.alloc cs) := fun j => ⟨if e : j = p0.1 then e ▸ hfi _ else hG j p0.1 _ _ e hE (hw j), fun _ => hΦ⟩
        unfold Oper.wp
        rw [hrun a w]
        exact h _ _ _ (stay _ (fun k w1 w2 hne h1 h2 => hT p0.1 Φ hTi _ k _ w1 w2 hne h1 h2)) (fresh _) hC' hf (hJ.mine hp0 hA ho hd' hun) (hn _ trivial ⟨_, hC', hf⟩)
      · refine yields_wp hy' fun u w' ⟨hC', hE, hΦ⟩ => ?_
        have hf : ∀ j, (G.upd i (Φ (look o a) u)) j w' := fun j => ⟨if e : j = i then e ▸ hfi w' else hG j i _ _ e hE (hw j), fun _ => hΦ⟩
        exact h _ _ _ (stay _ (fun k w1 w2 hne h1 h2 => hT i Φ hTi _ k u w1 w2 hne h1 h2)) (fresh _) hC' hf (hJ.other hA ho (fun p hp e => hmem ⟨p, hp, e⟩) (hS i _ _ hE)) (hn u trivial ⟨w', hC', hf⟩)

theorem JD.apart {listed : Array Bool} {a : Act} {w : World} (h : JD al listed a w) (hl : ∀ p ∈ al, listed.getD p.1 false = true) : Apart al a := fun p hp q hq hne => h.ne p hp q hq hne (hl p hp) (hl q hq)
theorem wpAny_of_RED (hT : ∀ i Φ, T i = some Φ → ∀ A k v w w', k ≠ i → E k w w' → Φ A v w → Φ A v w') (hS : ∀ i w w', E i w w' → w.heap.size ≤ w'.heap.size) (hA : AlOK P ops al) (hTal : ∀ p ∈ al, T p.1 ≠ none) (hn : tailB ops n = true) (hb : backB ops = true) (hnal : ∀ p ∈ al, p.1 < n) :
    ∀ (fuel : Nat) (listed : Array Bool) (a : Act) (G : Facts) (w : World), Down ops listed → listed.size = ops.size → (∀ j k w w', j ≠ k → E k w w' → G j w → G j w') → (∀ j, listed.getD j true = false → Fresh G j) → C w → (∀ j, G j w) → JD al listed a w → wpAnyRE P ops C E T n (Q1 al Q) fuel listed a G → wpAny P .any ops Q fuel listed a w := by
  have hlt : ∀ p ∈ al, p.1 < ops.size := fun p hp => by
    obtain ⟨o, _, ho, _⟩ := hA.op p hp
    exact (Array.getElem?_eq_some_iff.1 ho).1
  intro fuel
  induction fuel with
  | zero =>
    intro listed a G w hd hsz hG hF hC hw hJ h
    exact ⟨h.1, h.2 w hC hw (hJ.apart fun p hp => all_listed hb hsz h.1 _ (hlt p hp))⟩
  | succ fuel ih =>
    intro listed a G w hd hsz hG hF hC hw hJ h
    refine ⟨fun h0 => h.1 h0 w hC hw (hJ.apart fun p hp => all_listed hb hsz h0 _ (hlt p hp)), fun i hi => ?_⟩
    have h2 := h.2 i hi
    by_cases hin : i = n
    · rw [if_pos hin] at h2
      subst hin
      have hap := hJ.apart fun p hp => tail_all hd hn (Nat.le_refl _) hi _ (hnal p hp)
      have hdst : ∀ j o, ops[j]? = some o → listed.getD j true = false → ∀ p ∈ al, o.dst ≠ some p.2 := fun j o hj hl p hp e => by
        have e1 := hA.own p hp j o hj e
        have e2 := tail_all hd hn (Nat.le_refl _) hi _ (hnal p hp)
        rw [← e1] at e2
        rcases Nat.lt_or_ge j listed.size with h' | h'
        · simp [Array.getD, h'] at hl e2; rw [hl] at e2; cases e2
        · simp [Array.getD, Nat.not_lt.2 h'] at e2
      exact wpOp_Q1 (fun a' w' hA' h' => wpAny_Q1 fuel _ a' w' (fun j o hj hl => hdst j o hj (unl_set hl).2) hA' h') (fun o ho => hdst i o ho (mem_ready.1 hi).1) hap (h2 w hC hw)
    · rw [if_neg hin] at h2
      exact wpOp_of_RED hT hS hA hTal hi hG hC hw (hF i (mem_ready.1 hi).1) hJ (fun a' G' w' hG' hF' hC' hw' hJ' hk => ih _ a' G' w' (hd.set hi) (by simpa using hsz) hG' (fun j hj => hF' j (unl_set hj).1 (hF j (unl_set hj).2)) hC' hw' hJ' hk) h2

def allocB : Op → Option TypeId
  | .alloc t => some t
  | _ => none
theorem allocB_some {o : Op} {t : TypeId} (h : allocB o = some t) : o = .alloc t := by
  cases o <;> simp [allocB] at h
  rw [h]
/-- Each of them makes a variable of this type; no other operation writes its slot. -/
def alB (ops : Array Oper) (T : TypeId) (al : List (Nat × Tmp)) : Bool :=
  (al.all fun p => match ops[p.1]? with
    | some o => allocB o.op == some T && o.dst == some p.2 && o.guard.isNone
    | none => false) && al.all fun p => (List.range ops.size).all fun i => match ops[i]? with
    | some o => !(o.dst == some p.2) || i == p.1
    | none => true
theorem AlOK.of {T : TypeId} {i : TypeInfo} {z : Value} (hi : P.info? T = some i) (hz : i.zero = some z) (h : alB ops T al = true) : AlOK P ops al := by
  unfold alB at h
  rw [Bool.and_eq_true] at h
  obtain ⟨h1, h2⟩ := h
  refine ⟨fun p hp => ?_, fun p hp j o hj hd => ?_⟩
  · have h := List.all_eq_true.1 h1 p hp
    cases ho : ops[p.1]? with
    | none => rw [ho] at h; cases h
    | some o =>
      rw [ho] at h
      simp only [Bool.and_eq_true, beq_iff_eq, Option.isNone_iff_eq_none] at h
      obtain ⟨⟨ha, hd⟩, hg⟩ := h
      refine ⟨o, .cells z.cells T, rfl, hd, hg, fun a w => ?_⟩
      unfold execOp
      rw [allocB_some ha]
      simp [Instr.alloc, zeroValue, typeInfo, hi, hz, newVar, newRow, go_sem]
  · have h := List.all_eq_true.1 h2 p hp
    have hlt : j < ops.size := (Array.getElem?_eq_some_iff.1 hj).1
    have h := List.all_eq_true.1 h j (List.mem_range.2 hlt)
    rw [hj] at h
    simp only [hd, beq_self_eq_true, Bool.not_true, Bool.false_or, beq_iff_eq] at h
    exact h
/-- **A region that draws its order and makes variables, walked once**: what is shown of it may take the variables to be apart. -/
theorem wp_region_relD (al : List (Nat × Tmp)) (C : World → Prop) (E : Nat → World → World → Prop) (T : Nat → Option (List Value → Value → World → Prop)) (hT : ∀ i Φ, T i = some Φ → ∀ A k v w w', k ≠ i → E k w w' → Φ A v w → Φ A v w') (hS : ∀ i w w', E i w w' → w.heap.size ≤ w'.heap.size)
    {id : Nat} {Q : Exit → Act → World → Prop} {a : Act} {w : World} {l : List Oper} (n : Nat) (hA : AlOK P l.toArray al) (hTal : ∀ p ∈ al, T p.1 ≠ none) (hnal : ∀ p ∈ al, p.1 < n) (hsl : ∀ p ∈ al, p.2 < a.tmps.size) (hb : backB l.toArray = true) (hn : tailB l.toArray n = true) (hm : P.follows .mixedOrders = true) (hB : Region.lexB .any l.toArray = true) (hC : C w.drew)
    (h : wpRelE P l.toArray C E T n (Q1 al Q) l 0 a Facts.top) : (Code.region id l.toArray true).wp P Q a w := by
  simp only [Region.lexB, Bool.and_eq_true] at hB
  have hG : ∀ (j k : Nat) (w w' : World), j ≠ k → E k w w' → Facts.top j w → Facts.top j w' := fun _ _ _ _ _ _ h => h
  have hF : ∀ j, Fresh Facts.top j := fun _ _ => trivial
  have hno : ∀ k, (Array.replicate l.toArray.size false).getD k false = true → False := by
    intro k hk
    simp only [Array.getD, Array.size_replicate] at hk
    split at hk
    · simp at hk
    · cases hk
  have hd : Down l.toArray (Array.replicate l.toArray.size false) := fun k o _ hk => (hno k hk).elim
  refine wp_region_any hm (wpAny_of_RED hT hS hA hTal hn hb hnal _ _ _ Facts.top _ hd (by simp) hG (fun j _ => hF j) hC (fun _ => trivial) ⟨fun p _ hl => (hno _ hl).elim, fun p _ q _ _ hl _ => (hno _ hl).elim, hsl⟩ ?_)
  have := wpAnyR_lexE (C := C) hT hn hB.1 l 0 (Array.replicate l.toArray.size false) a Facts.top hd hG (fun j _ => hF j) ⟨_, hC, fun _ => trivial⟩ (by simp) (by simpa using hB.2) h
  simpa using this
end
end Go.Proofs.YtolkhjdododdaaaGreat
