/- The example of the document, deltas (clerestorylaw19.awake). -/
import Derived.Test.YtolkhjdododdaaaGreatDoorP31
import Derived.Test.YtolkhjdododdaaaGreatDoorP15
import Derived.Test.YtolkhjdododdaaaGreatDoorP30
import Derived.Test.YtolkhjdododdaaaGreatDoorP8
import Derived.Test.YtolkhjdododdaaaGreatDoorP28
import Derived.Test.YtolkhjdododdaaaGreatDoorP3
import Derived.Test.YtolkhjdododdaaaGreatDoorP19
set_option linter.unusedSimpArgs false
set_option linter.unusedVariables false
namespace Go.Proofs.YtolkhjdododdaaaGreatDoor
open Go Go.RowKit
attribute [local go_sem] yields yUpon ro8 pa3 vw5 tabV viewV

/-! ### The plain law -/
def dV : Vw := ⟨⟨#[118]⟩, 2, ⟨#[116]⟩, ⟨#[97]⟩⟩
def dNs : List ByteArray := [⟨#[98]⟩, ⟨#[100]⟩]
def kMir (c : Cl) : Ro := ⟨vkey ⟨#[109]⟩ ⟨#[107]⟩, ⟨⟨#[]⟩, false, c.at_, c.fin⟩, 0, 0, []⟩
theorem mir_k (c : Cl) (h : 1 ≤ c.at_) : mirOf dV dNs ⟨#[109]⟩ 0 (kRow c) = if c.dead then none else some (c.val, kMir c) := by
 have e1 : cellOf (kRow c).cols dV.on = c := by simp [cellOf, kRow, dV]
 have e2 : max (kRow c).gone 0 = 0 := rfl
 unfold mirOf
 rw [e1, e2]
 have e3 : bestB c 0 = !c.dead := by
  unfold bestB
  have h1 : decide (c.at_ < 1) = false := by simp; omega
  have h2 : decide (c.at_ ≤ 0) = false := by simp; omega
  rw [h1, h2]; simp
 have e4 : (kRow c).cols.filter (keeps dNs) = [] := by simp [kRow, keeps, dNs, strikes, hasS]
 rw [e3, e4]
 cases c.dead <;> rfl
theorem vkey_mk : (vkey ⟨#[109]⟩ ⟨#[107]⟩).size ≤ 400 := by decide
theorem one_few (c : Cl) (v : Value) : ∀ p ∈ [(kRow c, v)], p.1.cols.length ≤ 1000000 := fun p hp => by rw [List.mem_singleton.1 hp]; show 1 ≤ 1000000; decide
theorem one_keys (c : Cl) (v : Value) : ∀ p ∈ [(kRow c, v)], p.1.key.size ≤ 10000000 ∧ (vkey ⟨#[109]⟩ p.1.key).size ≤ 400 ∧ (vkey ⟨#[109]⟩ p.1.key).size ≤ 400 := fun p hp => by rw [List.mem_singleton.1 hp]; exact ⟨by show 1 ≤ 10000000; decide, vkey_mk, vkey_mk⟩
theorem rowOf_k (c : Cl) : rowOf [kRow c] ⟨#[107]⟩ = kRow c := by simp [rowOf, kRow]
theorem delta_k (c d : Cl) : deltaRs dV dNs ⟨#[109]⟩ 0 ⟨#[109]⟩ 0 [kRow c] [kRow d] = stepD dV 0 (kRow d) (mirOf dV dNs ⟨#[109]⟩ 0 (kRow c)) (mirOf dV dNs ⟨#[109]⟩ 0 (kRow d)) := by
 show stepD dV 0 (kRow d) (mirOf dV dNs ⟨#[109]⟩ 0 (rowOf [kRow c] ⟨#[107]⟩)) (mirOf dV dNs ⟨#[109]⟩ 0 (kRow d)) ++ [] = _
 rw [List.append_nil, rowOf_k]
/-- A list of partitions of one row each, read. -/
theorem parts_at {w : World} {v : Value} {L : List Pa} {l : List (ByteArray × Ro)} (h : PartsT w v L) (hd : L.map Pa.data = outP l) : ∃ a c, v = .slice a l.length c ∧ l.length ≤ c ∧ c ≤ 9223372036854775807 ∧ ∀ k (hk : k < l.length), ∃ b br cr vm, a = some ⟨b, 0, none⟩ ∧ w.cell? ⟨b, k * 3, none⟩ = some (.string l[k].1) ∧ w.cell? ⟨b, k * 3 + 2, none⟩ = some (.slice (some ⟨br, 0, none⟩) 1 cr) ∧ RoAt w br 0 l[k].2 vm ∧ ColsIn w vm l[k].2.cols := by
 have hl : L.length = l.length := by have := congrArg List.length hd; simpa [outP] using this
 obtain ⟨a, c, rfl, hc, hcm, hg⟩ := h.get
 rw [hl] at hc ⊢
 refine ⟨a, c, rfl, hc, hcm, fun k hk => ?_⟩
 have hkL : k < L.length := by omega
 obtain ⟨b, rfl, hp⟩ := hg k hkL
 have hdk : L[k].data = (l[k].1, 0, [l[k].2]) := by
  have h1 : (L.map Pa.data)[k]? = (outP l)[k]? := by rw [hd]
  simp [outP, hk, hkL] at h1
  exact h1
 have hr := h.rows _ (List.getElem_mem hkL)
 have e1 : L[k].key = l[k].1 := congrArg Prod.fst hdk
 have e2 : L[k].ps.map (·.1) = [l[k].2] := congrArg (fun t => t.2.2) hdk
 obtain ⟨ar, cr, er⟩ := hr.shape
 have hr' := hr
 rw [er] at hr'
 obtain ⟨vm, br, eps, rfl, hn⟩ := hr'.single e2
 rw [eps] at hr' er hr
 refine ⟨b, br, cr, vm, rfl, by rw [← e1]; exact hp.c0, ?_, RowsT.at0 hr', (hr'.typed _ (List.mem_cons_self ..)).cols⟩
 have := hp.c2
 rw [er] at this
 exact this

set_option maxRecDepth 100000 in
set_option maxHeartbeats 8000000 in
theorem awake19_any (w : World) : Calls Tryz.prog 4 #[] w fun e w' => e = .returned (.bool true) ∧ Ext w w' := by
 go_enter Tryz.func4, Tryz.ntmps4
 go_wp2_with fail
 refine (view_any w).mono ?_
 rintro e w1 ⟨bs, bu, rfl, hns, hE1⟩
 go_wp2_with (first
  | (((guard_target =~ wpList _ _ _ (Oper.mk none (Op.store _ (Operand.tmp 1) (Operand.tmp 7)) _ _ _ _ :: _) _ _); go_must (refine storeBox rfl 28 (.tmp 1) (.tmp 7) rfl (w1.heap.size) _ _ _ (by rfl) (by rfl) (((BoxAt.made w1 #[.string ⟨#[]⟩, .int .i64 0, .string ⟨#[]⟩, .int .i64 0, .string ⟨#[]⟩, .int .i64 0, .slice none 0 0] 28).ext ((Ext.refl _).alloc _))) (by kernel_rfl) (by rfl) (by simp [Value.oneCell']) ?_); intro w2 c2 g2); have hX2 : Ext w1 w2 := (((Ext.refl w1).alloc _).alloc _).grown g2 (fun q hq => by cases hq; omega); have hv2 := (BoxAt.madeN #[.string ⟨#[]⟩, .int .i64 0, .string ⟨#[]⟩, .string ⟨#[]⟩, .slice none 0 0] 31 (show (w1.alloc (.cells #[.string ⟨#[]⟩, .int .i64 0, .string ⟨#[]⟩, .int .i64 0, .string ⟨#[]⟩, .int .i64 0, .slice none 0 0] 28)).heap.size = w1.heap.size + 1 by simp)).grown g2 (fun e => by have := Option.some.inj e; omega))
  | (((guard_target =~ wpList _ _ _ (Oper.mk none (Op.store _ (Operand.tmp 2) (Operand.tmp 8)) _ _ _ _ :: _) _ _); go_must (refine storeBox rfl 31 (.tmp 2) (.tmp 8) rfl (w1.heap.size + 1) _ _ _ (by rfl) (by rfl) (hv2) (by kernel_rfl) (by rfl) (by simp [Value.oneCell']) ?_); intro w3 c3 g3)))
 have hX3 : Ext w1 w3 := hX2.grown g3 (fun q hq => by cases hq; omega)
 have b2 : BoxAt w3 w1.heap.size #[.string ⟨#[116]⟩, .int .i64 1, .string ⟨#[112]⟩, .int .i64 1, .string ⟨#[107]⟩, .int .i64 2, .slice (some ⟨bs, 0, none⟩) 4 4] 28 := c2.grown g3 (fun e => by have := Option.some.inj e; omega)
 have b3 : BoxAt w3 (w1.heap.size + 1) (vw5 dV (.slice (some ⟨bu, 0, none⟩) 2 2)) 31 := c3
 have hns3 := hns.ext hX3
 have hE3 := hE1.trans hX3
 clear c2 c3 g2 g3 hX2 hX3 hns hE1
 refine wp_region_in 8 [(3, fun v y => ∃ b v', v = .agg #[.string ⟨#[109]⟩, .int .i64 0, .slice (some ⟨b, 0, none⟩) 1 1] ∧ RowsT y (.slice (some ⟨b, 0, none⟩) 1 1) [(kRow ⟨⟨#[120]⟩, false, 5, 0⟩, v')]), (5, fun v y => ∃ b v', v = .agg #[.string ⟨#[109]⟩, .int .i64 0, .slice (some ⟨b, 0, none⟩) 1 1] ∧ RowsT y (.slice (some ⟨b, 0, none⟩) 1 1) [(kRow ⟨⟨#[121]⟩, false, 6, 0⟩, v')]), (6, fun v y => ∃ L, PartsT y v L ∧ Hid (L.map Pa.data = outP [(⟨#[120]⟩, leftRo dV (kMir ⟨⟨#[120]⟩, false, 5, 0⟩) (kRow ⟨⟨#[121]⟩, false, 6, 0⟩) 0), (⟨#[121]⟩, kMir ⟨⟨#[121]⟩, false, 6, 0⟩)]))] (fun y => BoxAt y w1.heap.size #[.string ⟨#[116]⟩, .int .i64 1, .string ⟨#[112]⟩, .int .i64 1, .string ⟨#[107]⟩, .int .i64 2, .slice (some ⟨bs, 0, none⟩) 4 4] 28 ∧ BoxAt y (w1.heap.size + 1) (vw5 dV (.slice (some ⟨bu, 0, none⟩) 2 2)) 31 ∧ StrsIn y (.slice (some ⟨bu, 0, none⟩) 2 2) dNs ∧ Ext w y) (by kernel_rfl) (by kernel_rfl) (by kernel_rfl) ⟨fun _ _ _ hE ⟨b, v', e, h⟩ => ⟨b, v', e, h.ext hE⟩, fun _ _ _ hE ⟨b, v', e, h⟩ => ⟨b, v', e, h.ext hE⟩, fun _ _ _ hE ⟨L, h, hd⟩ => ⟨L, h.ext hE, hd⟩, trivial⟩ ⟨b2, b3, hns3, hE3⟩ ?_
 clear b2 b3 hns3 hE3
 rintro w4 ⟨b2, b3, hns, hE⟩
 have FIN : Hid (∀ wx, Ext w4 wx → BoxAt wx w1.heap.size #[.string ⟨#[116]⟩, .int .i64 1, .string ⟨#[112]⟩, .int .i64 1, .string ⟨#[107]⟩, .int .i64 2, .slice (some ⟨bs, 0, none⟩) 4 4] 28 ∧ BoxAt wx (w1.heap.size + 1) (vw5 dV (.slice (some ⟨bu, 0, none⟩) 2 2)) 31 ∧ StrsIn wx (.slice (some ⟨bu, 0, none⟩) 2 2) dNs ∧ Ext w wx) := fun wx h => ⟨b2.ext h, b3.ext h, hns.ext h, hE.trans h⟩
 obtain ⟨q0, q1, q2, q3, q4⟩ := b3.vw
 have t0 : w4.cell? ⟨w1.heap.size, 0, none⟩ = some (.string ⟨#[116]⟩) := b2.cell 0
 have t1 : w4.cell? ⟨w1.heap.size, 1, none⟩ = some (.int .i64 1) := b2.cell 1
 have t2 : w4.cell? ⟨w1.heap.size, 2, none⟩ = some (.string ⟨#[112]⟩) := b2.cell 2
 have t3 : w4.cell? ⟨w1.heap.size, 3, none⟩ = some (.int .i64 1) := b2.cell 3
 have t4 : w4.cell? ⟨w1.heap.size, 4, none⟩ = some (.string ⟨#[107]⟩) := b2.cell 4
 have t5 : w4.cell? ⟨w1.heap.size, 5, none⟩ = some (.int .i64 2) := b2.cell 5
 have t6 : w4.cell? ⟨w1.heap.size, 6, none⟩ = some (.slice (some ⟨bs, 0, none⟩) 4 4) := b2.cell 6
 clear b2 b3 hE
 replace q0 := held q0
 replace q1 := held q1
 replace q2 := held q2
 replace q3 := held q3
 replace q4 := held q4
 replace t0 := held t0
 replace t1 := held t1
 replace t2 := held t2
 replace t3 := held t3
 replace t4 := held t4
 replace t5 := held t5
 replace t6 := held t6
 refine rg_quiet rfl rfl rfl rfl ?_; intro K hK; go_big_quiet_op; go_big_quiet_on
 refine rg_quiet rfl rfl rfl rfl ?_; intro K hK; go_big_quiet_op; go_big_quiet_on
 refine rg_quiet rfl rfl rfl rfl ?_; intro K hK; go_big_quiet_op; go_big_quiet_on
 refine rg_fact [] rfl rfl rfl (by kernel_rfl) (fun w1 hE hf => ?_) (fun v3 w1 hE hG h3 => ?_)
 ·go_simp
  refine (one19_any ⟨#[120]⟩ 5 w1).mono ?_
  rintro e w3 ⟨b, v', he, hr, hE3⟩
  exact ⟨_, he, rg_doneR hE hE3 ⟨b, rfl, v', hr⟩⟩
 obtain ⟨bo, vo, rfl, h3⟩ := h3
 simp only [Act.put, List.setIfInBounds_toArray, List.set_cons_zero, List.set_cons_succ]
 clear hE hG h3 w1
 refine rg_quiet rfl rfl rfl rfl ?_; intro K hK; go_big_quiet_op; go_big_quiet_on
 refine rg_fact [] rfl rfl rfl (by kernel_rfl) (fun w1 hE hf => ?_) (fun v3 w1 hE hG h3 => ?_)
 ·go_simp
  refine (one19_any ⟨#[121]⟩ 6 w1).mono ?_
  rintro e w3 ⟨b, v', he, hr, hE3⟩
  exact ⟨_, he, rg_doneR hE hE3 ⟨b, rfl, v', hr⟩⟩
 obtain ⟨bn, vn, rfl, h3⟩ := h3
 simp only [Act.put, List.setIfInBounds_toArray, List.set_cons_zero, List.set_cons_succ]
 clear hE hG h3 w1
 refine rg_fact [3, 5] rfl rfl rfl (by kernel_rfl) (fun w1 hE hf => ?_) (fun v3 w1 hE hG h3 => ?_)
 ·obtain ⟨b3, v3', e3, h3⟩ := (hf 3 (by simp)).1.2 rfl
  obtain ⟨b5, v5', e5, h5⟩ := (hf 5 (by simp)).2 rfl
  cases e3
  cases e5
  go_simp
  have hd : outP (deltaRs dV dNs ⟨#[109]⟩ 0 ⟨#[109]⟩ 0 ([(kRow ⟨⟨#[120]⟩, false, 5, 0⟩, v3')].map (·.1)) ([(kRow ⟨⟨#[121]⟩, false, 6, 0⟩, v5')].map (·.1))) = outP [(⟨#[120]⟩, leftRo dV (kMir ⟨⟨#[120]⟩, false, 5, 0⟩) (kRow ⟨⟨#[121]⟩, false, 6, 0⟩) 0), (⟨#[121]⟩, kMir ⟨⟨#[121]⟩, false, 6, 0⟩)] := by
   show outP (deltaRs dV dNs ⟨#[109]⟩ 0 ⟨#[109]⟩ 0 [kRow ⟨⟨#[120]⟩, false, 5, 0⟩] [kRow ⟨⟨#[121]⟩, false, 6, 0⟩]) = _
   rw [delta_k, mir_k _ (by decide), mir_k _ (by decide)]
   show outP (if eqB (⟨#[120]⟩ : ByteArray) ⟨#[121]⟩ then _ else _) = _
   rw [eqB_false (by decide)]
   rfl
  refine (deltaOf_any (.slice (some ⟨bs, 0, none⟩) 4 4) dV (.slice (some ⟨bu, 0, none⟩) 2 2) dNs ⟨#[109]⟩ 0 _ _ ⟨#[109]⟩ 0 _ _ w1 h3.rows h5.rows (hns.ext hE) (one_few _ _) (one_few _ _) (by show 1 ≤ 10000; decide) (by decide) (by decide) (one_keys _ _)).mono ?_
  rintro e w3 ⟨v', he, L, hown, hrows, hdata, hE3⟩
  exact ⟨_, he, rg_doneR hE hE3 ⟨L, ⟨TIn.own hown, hrows⟩, hdata.trans hd⟩⟩
 obtain ⟨L, h3, HL⟩ := h3
 obtain ⟨ad, cd, rfl, hh1, hh2, hat⟩ := parts_at h3 HL.out
 obtain ⟨bd, br, cr, vm, rfl, hh⟩ := hat 0 (by show 0 < 2; decide)
 simp only [Act.put, List.setIfInBounds_toArray, List.set_cons_zero, List.set_cons_succ]
 clear hE hG h3 HL hat hh hh1 hh2 w1 L
 refine rg_quiet rfl rfl rfl rfl ?_; intro K hK; go_big_quiet_op; go_big_quiet_on
 refine rel_nil fun w5 hE5 hG => ?_
 obtain ⟨L, h3, HL⟩ := (hG 6).2 rfl
 obtain ⟨ad, cd', e, _, _, hat⟩ := parts_at h3 HL.out
 cases e
 obtain ⟨b2, br', cr', vm', e, x0, x2, hro, _⟩ := hat 0 (by show 0 < 2; decide)
 cases e
 obtain ⟨b2, br2, cr2, vm2, e, y0, _, _, _⟩ := hat 1 (by show 1 < 2; decide)
 cases e
 have xs := hro.c6
 obtain ⟨f2, f3, hns5, hE5'⟩ := FIN.out w5 hE5
 clear q0 q1 q2 q3 q4 t0 t1 t2 t3 t4 t5 t6 FIN hG hat h3 HL hro hE5 hns
 replace x0 : w5.cell? ⟨bd, 0, none⟩ = some (.string ⟨#[120]⟩) := x0
 replace x2 : w5.cell? ⟨bd, 2, none⟩ = some (.slice (some ⟨br', 0, none⟩) 1 cr') := x2
 replace xs : w5.cell? ⟨br', 6, none⟩ = some (.int .i64 5) := xs
 replace y0 : w5.cell? ⟨bd, 3, none⟩ = some (.string ⟨#[121]⟩) := y0
 show _
 go_wp2_with fail
 refine wp_region_in 47 [(39, fun v y => ∃ b v', v = .agg #[.string ⟨#[109]⟩, .int .i64 0, .slice (some ⟨b, 0, none⟩) 1 1] ∧ RowsT y (.slice (some ⟨b, 0, none⟩) 1 1) [(kRow ⟨⟨#[120]⟩, false, 5, 0⟩, v')]), (41, fun v y => ∃ b v', v = .agg #[.string ⟨#[109]⟩, .int .i64 0, .slice (some ⟨b, 0, none⟩) 1 1] ∧ RowsT y (.slice (some ⟨b, 0, none⟩) 1 1) [(kRow ⟨⟨#[120]⟩, false, 5, 0⟩, v')]), (42, fun v y => ∃ a c, v = .slice a 0 c)] (fun y => BoxAt y w1.heap.size #[.string ⟨#[116]⟩, .int .i64 1, .string ⟨#[112]⟩, .int .i64 1, .string ⟨#[107]⟩, .int .i64 2, .slice (some ⟨bs, 0, none⟩) 4 4] 28 ∧ BoxAt y (w1.heap.size + 1) (vw5 dV (.slice (some ⟨bu, 0, none⟩) 2 2)) 31 ∧ StrsIn y (.slice (some ⟨bu, 0, none⟩) 2 2) dNs ∧ Ext w y ∧ y.cell? ⟨bd, 0, none⟩ = some (.string ⟨#[120]⟩) ∧ y.cell? ⟨bd, 2, none⟩ = some (.slice (some ⟨br', 0, none⟩) 1 cr') ∧ y.cell? ⟨br', 6, none⟩ = some (.int .i64 5) ∧ y.cell? ⟨bd, 3, none⟩ = some (.string ⟨#[121]⟩)) (by kernel_rfl) (by kernel_rfl) (by kernel_rfl) ⟨fun _ _ _ hE ⟨b, v', e, h⟩ => ⟨b, v', e, h.ext hE⟩, fun _ _ _ hE ⟨b, v', e, h⟩ => ⟨b, v', e, h.ext hE⟩, fun _ _ _ _ h => h, trivial⟩ ⟨f2, f3, hns5, hE5', x0, x2, xs, y0⟩ ?_
 clear f2 f3 hns5 hE5' x0 x2 xs y0
 rintro w4 ⟨b2, b3, hns, hE, x0, x2, xs, y0⟩
 have FIN : Hid (∀ wx, Ext w4 wx → Ext w wx) := fun wx h => hE.trans h
 obtain ⟨q0, q1, q2, q3, q4⟩ := b3.vw
 have t0 : w4.cell? ⟨w1.heap.size, 0, none⟩ = some (.string ⟨#[116]⟩) := b2.cell 0
 have t1 : w4.cell? ⟨w1.heap.size, 1, none⟩ = some (.int .i64 1) := b2.cell 1
 have t2 : w4.cell? ⟨w1.heap.size, 2, none⟩ = some (.string ⟨#[112]⟩) := b2.cell 2
 have t3 : w4.cell? ⟨w1.heap.size, 3, none⟩ = some (.int .i64 1) := b2.cell 3
 have t4 : w4.cell? ⟨w1.heap.size, 4, none⟩ = some (.string ⟨#[107]⟩) := b2.cell 4
 have t5 : w4.cell? ⟨w1.heap.size, 5, none⟩ = some (.int .i64 2) := b2.cell 5
 have t6 : w4.cell? ⟨w1.heap.size, 6, none⟩ = some (.slice (some ⟨bs, 0, none⟩) 4 4) := b2.cell 6
 clear b2 b3 hE
 replace q0 := held q0
 replace q1 := held q1
 replace q2 := held q2
 replace q3 := held q3
 replace q4 := held q4
 replace t0 := held t0
 replace t1 := held t1
 replace t2 := held t2
 replace t3 := held t3
 replace t4 := held t4
 replace t5 := held t5
 replace t6 := held t6
 replace x0 := held x0
 replace x2 := held x2
 replace xs := held xs
 replace y0 := held y0
 refine rg_quiet rfl rfl rfl rfl ?_; intro K hK; go_big_quiet_op; go_big_quiet_on
 refine rg_quiet rfl rfl rfl rfl ?_; intro K hK; go_big_quiet_op; go_big_quiet_on
 refine rg_quiet rfl rfl rfl rfl ?_; intro K hK; go_big_quiet_op; go_big_quiet_on
 refine rg_quiet rfl rfl rfl rfl ?_; intro K hK; go_big_quiet_op; go_big_quiet_on
 refine rg_quiet rfl rfl rfl rfl ?_; intro K hK; go_big_quiet_op; go_big_quiet_on
 refine rg_quiet rfl rfl rfl rfl ?_; intro K hK; go_big_quiet_op; go_big_quiet_on
 refine rg_quiet rfl rfl rfl rfl ?_; intro K hK; go_big_quiet_op; go_big_quiet_on
 refine rg_quiet rfl rfl rfl rfl ?_; intro K hK; go_big_quiet_op; go_big_quiet_on
 refine rg_quiet rfl rfl rfl rfl ?_; intro K hK; go_big_quiet_op; go_big_quiet_on
 refine rg_quiet rfl rfl rfl rfl ?_; intro K hK; go_big_quiet_op; go_big_quiet_on
 refine rg_quiet rfl rfl rfl rfl ?_; intro K hK; go_big_quiet_op; go_big_quiet_on
 refine rg_quiet rfl rfl rfl rfl ?_; intro K hK; go_big_quiet_op; go_big_quiet_on
 refine rg_quiet rfl rfl rfl rfl ?_; intro K hK; go_big_quiet_op; go_big_quiet_on
 refine rg_quiet rfl rfl rfl rfl ?_; intro K hK; go_big_quiet_op; go_big_quiet_on
 refine rg_quiet rfl rfl rfl rfl ?_; intro K hK; go_big_quiet_op; go_big_quiet_on
 refine rg_quiet rfl rfl rfl rfl ?_; intro K hK; go_big_quiet_op; go_big_quiet_on
 refine rg_quiet rfl rfl rfl rfl ?_; intro K hK; go_big_quiet_op; go_big_quiet_on
 refine rg_quiet rfl rfl rfl rfl ?_; intro K hK; go_big_quiet_op; go_big_quiet_on
 refine rg_quiet rfl rfl rfl rfl ?_; intro K hK; go_big_quiet_op; go_big_quiet_on
 refine rg_quiet rfl rfl rfl rfl ?_; intro K hK; go_big_quiet_op; go_big_quiet_on
 refine rg_quiet rfl rfl rfl rfl ?_; intro K hK; go_big_quiet_op; go_big_quiet_on
 refine rg_quiet rfl rfl rfl rfl ?_; intro K hK; go_big_quiet_op; go_big_quiet_on
 refine rg_quiet rfl rfl rfl rfl ?_; intro K hK; go_big_quiet_op; go_big_quiet_on
 refine rg_quiet rfl rfl rfl rfl ?_; intro K hK; go_big_quiet_op; go_big_quiet_on
 refine rg_quiet rfl rfl rfl rfl ?_; intro K hK; go_big_quiet_op; go_big_quiet_on
 refine rg_quiet rfl rfl rfl rfl ?_; intro K hK; go_big_quiet_op; go_big_quiet_on
 refine rg_quiet rfl rfl rfl rfl ?_; intro K hK; go_big_quiet_op; go_big_quiet_on
 refine rg_quiet rfl rfl rfl rfl ?_; intro K hK; go_big_quiet_op; go_big_quiet_on
 refine rg_quiet rfl rfl rfl rfl ?_; intro K hK; go_big_quiet_op; go_big_quiet_on
 refine rg_quiet rfl rfl rfl rfl ?_; intro K hK; go_big_quiet_op; go_big_quiet_on
 refine rg_quiet rfl rfl rfl rfl ?_; intro K hK; go_big_quiet_op; go_big_quiet_on
 refine rg_quiet rfl rfl rfl rfl ?_; intro K hK; go_big_quiet_op; go_big_quiet_on
 refine rg_quiet rfl rfl rfl rfl ?_; intro K hK; go_big_quiet_op; go_big_quiet_on
 refine rg_quiet rfl rfl rfl rfl ?_; intro K hK; go_big_quiet_op; go_big_quiet_on
 refine rg_quiet rfl rfl rfl rfl ?_; intro K hK; go_big_quiet_op; go_big_quiet_on
 refine rg_quiet rfl rfl rfl rfl ?_; intro K hK; go_big_quiet_op; go_big_quiet_on
 refine rg_quiet rfl rfl rfl rfl ?_; intro K hK; go_big_quiet_op; go_big_quiet_on
 refine rg_quiet rfl rfl rfl rfl ?_; intro K hK; go_big_quiet_op; go_big_quiet_on
 refine rg_quiet rfl rfl rfl rfl ?_; intro K hK; go_big_quiet_op; go_big_quiet_on
 refine rg_fact [] rfl rfl rfl (by kernel_rfl) (fun w1 hE hf => ?_) (fun v3 w1 hE hG h3 => ?_)
 ·go_simp
  refine (one19_any ⟨#[120]⟩ 5 w1).mono ?_
  rintro e w3 ⟨b, v', he, hr, hE3⟩
  exact ⟨_, he, rg_doneR hE hE3 ⟨b, rfl, v', hr⟩⟩
 obtain ⟨bo, vo, rfl, h3⟩ := h3
 simp only [Act.put, List.setIfInBounds_toArray, List.set_cons_zero, List.set_cons_succ]
 clear hE hG h3 w1
 refine rg_quiet rfl rfl rfl rfl ?_; intro K hK; go_big_quiet_op; go_big_quiet_on
 refine rg_fact [] rfl rfl rfl (by kernel_rfl) (fun w1 hE hf => ?_) (fun v3 w1 hE hG h3 => ?_)
 ·go_simp
  refine (one19_any ⟨#[120]⟩ 5 w1).mono ?_
  rintro e w3 ⟨b, v', he, hr, hE3⟩
  exact ⟨_, he, rg_doneR hE hE3 ⟨b, rfl, v', hr⟩⟩
 obtain ⟨bn, vn, rfl, h3⟩ := h3
 simp only [Act.put, List.setIfInBounds_toArray, List.set_cons_zero, List.set_cons_succ]
 clear hE hG h3 w1
 refine rg_fact [39, 41] rfl rfl rfl (by kernel_rfl) (fun w1 hE hf => ?_) (fun v3 w1 hE hG h3 => ?_)
 ·obtain ⟨b3, v3', e3, h3⟩ := (hf 39 (by simp)).1.2 rfl
  obtain ⟨b5, v5', e5, h5⟩ := (hf 41 (by simp)).2 rfl
  cases e3
  cases e5
  go_simp
  refine (deltaOf_any (.slice (some ⟨bs, 0, none⟩) 4 4) dV (.slice (some ⟨bu, 0, none⟩) 2 2) dNs ⟨#[109]⟩ 0 _ _ ⟨#[109]⟩ 0 _ _ w1 h3.rows h5.rows (hns.ext hE) (one_few _ _) (one_few _ _) (by show 1 ≤ 10000; decide) (by decide) (by decide) (one_keys _ _)).mono ?_
  rintro e w3 ⟨v', he, L, hown, hrows, hdata, hE3⟩
  have hd : outP (deltaRs dV dNs ⟨#[109]⟩ 0 ⟨#[109]⟩ 0 ([(kRow ⟨⟨#[120]⟩, false, 5, 0⟩, v3')].map (·.1)) ([(kRow ⟨⟨#[120]⟩, false, 5, 0⟩, v5')].map (·.1))) = [] := by
   show outP (deltaRs dV dNs ⟨#[109]⟩ 0 ⟨#[109]⟩ 0 [kRow ⟨⟨#[120]⟩, false, 5, 0⟩] [kRow ⟨⟨#[120]⟩, false, 5, 0⟩]) = _
   rw [delta_k, mir_k _ (by decide)]
   show outP (if eqB (⟨#[120]⟩ : ByteArray) ⟨#[120]⟩ then (if eqB _ _ then [] else _) else _) = _
   rw [eqB_true rfl, if_pos rfl, eqB_true rfl]
   rfl
  have hL : L = [] := by
   have := hdata.trans hd
   exact List.map_eq_nil_iff.1 this
  subst hL
  obtain ⟨a, c, rfl⟩ := own_shape hown
  exact ⟨_, he, rg_doneR hE hE3 ⟨a, c, rfl⟩⟩
 obtain ⟨ae, ce, rfl⟩ := h3
 simp only [Act.put, List.setIfInBounds_toArray, List.set_cons_zero, List.set_cons_succ]
 clear hE hG w1
 refine rg_quiet rfl rfl rfl rfl ?_; intro K hK; go_big_quiet_op; go_big_quiet_on
 refine rg_quiet rfl rfl rfl rfl ?_; intro K hK; go_big_quiet_op; go_big_quiet_on
 refine rg_quiet rfl rfl rfl rfl ?_; intro K hK; go_big_quiet_op; go_big_quiet_on
 refine rg_quiet rfl rfl rfl rfl ?_; intro K hK; go_big_quiet_op; go_big_quiet_on
 refine rel_nil fun w5 hE5 hG => ?_
 have hE6 := FIN.out w5 hE5
 clear q0 q1 q2 q3 q4 t0 t1 t2 t3 t4 t5 t6 x0 x2 xs y0 FIN hG hns
 go_wp2_with fail
 go_ret
 exact ⟨rfl, hE6⟩
end Go.Proofs.YtolkhjdododdaaaGreatDoor

/- delta.All at the schema of the laws. -/
namespace Go.Proofs.YtolkhjdododdaaaGreatDoor
open Go Go.RowKit
attribute [local go_sem] yields yUpon pa3 vw5 tabV viewV

def mqD (d : ByteArray × Int × List Ro) : Mq := ⟨v2B, ⟨d.1, d.2.1, d.2.2⟩⟩
/-- The outer loop's list. -/
structure AO (w0 : World) (T : List Mq) (k : Nat) (vl : Value) (wr : World) : Prop where
 ext : Ext w0 wr
 nil : k = 0 → vl = .slice none 0 0
 ex : k = 1 → ∃ L, wr.ownsRow w0.heap.size 97 4 vl L.length (mtCells L) ∧ (∀ m ∈ L, RowsT wr m.pa.rv m.pa.ps) ∧ L.map Mt.q = T
/-- The inner loop's list. -/
structure AI (w0 : World) (vl : Value) (L : List Mt) (wr : World) : Prop where
 ext : Ext w0 wr
 own : wr.ownsRow w0.heap.size 97 4 vl L.length (mtCells L)
 rows : ∀ m ∈ L, RowsT wr m.pa.rv m.pa.ps
theorem AI.ext' {w0 : World} {vl : Value} {L : List Mt} {y z : World} (hE : Ext y z) (h : AI w0 vl L y) : AI w0 vl L z := ⟨h.ext.trans hE, ownsRow_ext h.own hE, fun m hm => (h.rows m hm).ext hE⟩
theorem AI.app {w0 : World} {vl v' : Value} {L : List Mt} {m : Mt} {y z : World} (h : AI w0 vl L y) (hg : y.grownBy z vl.ownBlock) (hown : z.ownsRow w0.heap.size 97 4 v' (L ++ [m]).length (mtCells (L ++ [m]))) (hm : RowsT y m.pa.rv m.pa.ps) : AI w0 v' (L ++ [m]) z := by
 refine ⟨h.ext.grown hg (fun q hq => (h.own.lt q hq).1), hown, fun p hp => ?_⟩
 rcases List.mem_append.1 hp with hp | hp
 ·exact (h.rows p hp).keepOwn h.own hg (by decide) (by decide)
 ·rw [List.mem_singleton.1 hp]
  exact hm.keepOwn h.own hg (by decide) (by decide)
/-- One mutation in new memory. -/
structure MB (m : Mt) (v : Value) (y : World) : Prop where
 ex : ∃ b, v = .slice (some ⟨b, 0, none⟩) 1 1 ∧ SliceIn y v 1 (mtCells [m])
theorem MB.ext {m : Mt} {v : Value} {y z : World} (hE : Ext y z) (h : MB m v y) : MB m v z := by
 obtain ⟨b, e, h1⟩ := h.ex
 exact ⟨b, e, h1.ext hE⟩
theorem MB.made (m : Mt) (y : World) : MB m (.slice (some ⟨y.heap.size, 0, none⟩) 1 1) (y.alloc (.cells (mt4 m) 97)) := ⟨_, rfl, mts_one y m _⟩
set_option maxRecDepth 100000 in
set_option maxHeartbeats 16000000 in
theorem allD_any (bT bV bs bu : Nat) (ok : ByteArray) (og : Int) (ou : Value) (pso : List (Ro × Value)) (nk : ByteArray) (ng : Int) (nu : Value) (psn : List (Ro × Value)) (w : World) (h : SchIn w bT bV bs bu)
  (ho : RowsIn w ou pso) (hn : RowsIn w nu psn) (hco : ∀ p ∈ pso, p.1.cols.length ≤ 1000000) (hcn : ∀ p ∈ psn, p.1.cols.length ≤ 1000000) (hlen : psn.length ≤ 10000)
  (hok : ok.size ≤ 10000000) (hnk : nk.size ≤ 10000000) (hkey : ∀ p ∈ psn, p.1.key.size ≤ 10000000 ∧ (vkey ok p.1.key).size ≤ 400 ∧ (vkey nk p.1.key).size ≤ 400) (hfew : (outP (deltaRs dV dNs ok og nk ng (pso.map (·.1)) (psn.map (·.1)))).length ≤ 20000) :
  Calls Tryz.prog 18 #[schV bT bV, .string ⟨#[116]⟩, .agg #[.string ok, .int .i64 og, ou], .agg #[.string nk, .int .i64 ng, nu]] w fun e w' =>
   ∃ v L, e = .returned v ∧ MtsIn w' v L ∧ L.map Mt.q = (outP (deltaRs dV dNs ok og nk ng (pso.map (·.1)) (psn.map (·.1)))).map mqD ∧ Ext w w' := by
 obtain ⟨a0, a1, a2, hE⟩ := boxes3 w #[.int .i64 2, .slice (some ⟨bT, 0, none⟩) 1 1, .slice (some ⟨bV, 0, none⟩) 1 1] #[.string ok, .int .i64 og, ou] #[.string nk, .int .i64 ng, nu] 58 39 39
 obtain ⟨D, hD⟩ : ∃ D, D = outP (deltaRs dV dNs ok og nk ng (pso.map (·.1)) (psn.map (·.1))) := ⟨_, rfl⟩
 rw [← hD] at hfew ⊢
 have HD := Lib.hid hD
 have HO := Lib.hid ho
 have HNN := Lib.hid hn
 have HCO := Lib.hid hco
 have HCN := Lib.hid hcn
 have HKEY := Lib.hid hkey
 have HLEN := Lib.hid hlen
 obtain ⟨T, hT⟩ : ∃ T, T = D.map mqD := ⟨_, rfl⟩
 rw [← hT]
 have HT := Lib.hid hT
 clear hD ho hn hco hcn hkey hlen hT
 unfold schV
 go_enter Tryz.func18, Tryz.ntmps18
 go_wp2_with fail
 generalize World.alloc (World.alloc (World.alloc w _) _) _ = w0 at a0 a1 a2 hE ⊢
 refine (schTable_any bT bV bs bu w0 (h.ext hE)).mono ?_
 rintro e w1 ⟨sa, sn, sc, rfl, hE1⟩
 have z0 := (a0.ext hE1).cell 0
 have z1 := (a0.ext hE1).cell 1
 have z2 := (a0.ext hE1).cell 2
 simp at z0 z1 z2
 go_wp2_with (((guard_target =~ wpList _ _ _ (Oper.mk none (Op.store _ (Operand.tmp 10) (Operand.tmp 20)) _ _ _ _ :: _) _ _); go_must (refine storeBox rfl 28 (.tmp 10) (.tmp 20) rfl (w1.heap.size) _ _ _ (by rfl) (by rfl) ((BoxAt.made w1 #[.string ⟨#[]⟩, .int .i64 0, .string ⟨#[]⟩, .int .i64 0, .string ⟨#[]⟩, .int .i64 0, .slice none 0 0] 28)) (by kernel_rfl) (by rfl) (by simp [Value.oneCell']) ?_); intro w2 c2 g2); have hX2 : Ext w1 w2 := ((Ext.refl w1).alloc _).grown g2 (fun q hq => by cases hq; omega); have z0 : w2.cell? ⟨w.heap.size, 0, none⟩ = some (.int .i64 2) := ((a0.ext hE1).ext hX2).cell 0; have z1 : w2.cell? ⟨w.heap.size, 1, none⟩ = some (.slice (some ⟨bT, 0, none⟩) 1 1) := ((a0.ext hE1).ext hX2).cell 1; have z2 : w2.cell? ⟨w.heap.size, 2, none⟩ = some (.slice (some ⟨bV, 0, none⟩) 1 1) := ((a0.ext hE1).ext hX2).cell 2)
 have hE02 := (hE.trans hE1).trans hX2
 refine (schOf_any bT bV bs bu w2 (h.ext hE02)).mono ?_
 rintro e w3 ⟨vs, u, rfl, hV, hE3⟩
 obtain ⟨av, cv, rfl, hcv, hcvm, _, hvc⟩ := hV.views
 obtain ⟨b, o, rfl, _⟩ := hvc 0 _ rfl
 have hX3 := hE02.trans hE3
 have t3 : BoxAt w3 w1.heap.size #[.string ⟨#[116]⟩, .int .i64 1, .string ⟨#[112]⟩, .int .i64 1, .string ⟨#[107]⟩, .int .i64 2, .slice sa sn sc] 28 := BoxAt.ext hE3 c2
 have o3 := ((a1.ext hE1).ext hX2).ext hE3
 have n3 := ((a2.ext hE1).ext hX2).ext hE3
 have hVN := hV.names
 have hl1 : w1.heap.size < w3.heap.size := t3.lt
 have HVC := Lib.hid hvc
 clear z0 z1 z2 c2 g2 a0 a1 a2 hE hE1 hX2 hE02 hE3 hvc hV
 have hVN' := hVN
 obtain ⟨au, cu, rfl, _⟩ := hVN
 have HD' := HD
 go_wp2_with fail
 go_loopw [9, 26] (fun vl i wr => ∃ k : Nat, k ≤ 1 ∧ i = .int .i64 k ∧ AO w3 T k vl wr) (fun _ i _ => 1 - (intOf i).toNat)
 case atStart => exact ⟨0, by omega, rfl, ⟨Ext.refl _, fun _ => rfl, nofun⟩⟩
 case round =>
  obtain ⟨k, hk, rfl, hS⟩ := hrel
  have hX := hS.ext
  obtain rfl | rfl : k = 0 ∨ k = 1 := by omega
  ·obtain rfl := hS.nil rfl
   have g0 : wr.cell? ⟨b, o, none⟩ = some (.string ⟨#[118]⟩) := by obtain ⟨_, _, e, h'⟩ := HVC.out 0 _ rfl; cases e; exact hX.cell h'
   have g1 : wr.cell? ⟨b, o + 1, none⟩ = some (.int .i64 2) := by obtain ⟨_, _, e, h'⟩ := HVC.out 1 _ rfl; cases e; exact hX.cell h'
   have g2 : wr.cell? ⟨b, o + 2, none⟩ = some (.string ⟨#[116]⟩) := by obtain ⟨_, _, e, h'⟩ := HVC.out 2 _ rfl; cases e; exact hX.cell h'
   have g3 : wr.cell? ⟨b, o + 3, none⟩ = some (.string ⟨#[97]⟩) := by obtain ⟨_, _, e, h'⟩ := HVC.out 3 _ rfl; cases e; exact hX.cell h'
   have g4 : wr.cell? ⟨b, o + 4, none⟩ = some (.slice au 2 cu) := by obtain ⟨_, _, e, h'⟩ := HVC.out 4 _ rfl; cases e; exact hX.cell h'
   go_wp2_with (((guard_target =~ wpList _ _ _ (Oper.mk none (Op.store _ (Operand.tmp 13) (Operand.tmp 29)) _ _ _ _ :: _) _ _); go_must (refine storeBox rfl 31 (.tmp 13) (.tmp 29) rfl (wr.heap.size) _ _ _ (by rfl) (by rfl) ((BoxAt.made wr #[.string ⟨#[]⟩, .int .i64 0, .string ⟨#[]⟩, .string ⟨#[]⟩, .slice none 0 0] 31)) (by kernel_rfl) (by rfl) (by simp [Value.oneCell']) ?_); intro w4 c4 q4); have hX4 : Ext wr w4 := ((Ext.refl wr).alloc _).grown q4 (fun q hq => by cases hq; omega); have v4 := c4.vw (x := dV) (u := .slice au 2 cu); have o4 := ((o3.ext hX).ext hX4).pa (k := ok) (g := og) (u := ou); have n4 := ((n3.ext hX).ext hX4).pa (k := nk) (g := ng) (u := nu); have t40 : w4.cell? ⟨w1.heap.size, 0, none⟩ = some (.string ⟨#[116]⟩) := ((t3.ext hX).ext hX4).cell 0; have t41 : w4.cell? ⟨w1.heap.size, 1, none⟩ = some (.int .i64 1) := ((t3.ext hX).ext hX4).cell 1; have t42 : w4.cell? ⟨w1.heap.size, 2, none⟩ = some (.string ⟨#[112]⟩) := ((t3.ext hX).ext hX4).cell 2; have t43 : w4.cell? ⟨w1.heap.size, 3, none⟩ = some (.int .i64 1) := ((t3.ext hX).ext hX4).cell 3; have t44 : w4.cell? ⟨w1.heap.size, 4, none⟩ = some (.string ⟨#[107]⟩) := ((t3.ext hX).ext hX4).cell 4; have t45 : w4.cell? ⟨w1.heap.size, 5, none⟩ = some (.int .i64 2) := ((t3.ext hX).ext hX4).cell 5; have t46 : w4.cell? ⟨w1.heap.size, 6, none⟩ = some (.slice sa sn sc) := ((t3.ext hX).ext hX4).cell 6)
   have hE04 := (hX3.trans hX).trans hX4
   refine (deltaOf_any (.slice sa sn sc) dV (.slice au 2 cu) dNs ok og ou pso nk ng nu psn w4 (HO.out.ext hE04) (HNN.out.ext hE04) ((hVN'.ext hX).ext hX4) HCO.out HCN.out HLEN.out hok hnk HKEY.out).mono ?_
   rw [← HD.out]
   rintro e w5 ⟨v5, rfl, PL, hown5, hrs5, hdat5, hE5⟩
   have hPT : PartsT w5 v5 PL := ⟨TIn.own hown5, hrs5⟩
   obtain ⟨a5, c5, hv5, hc5, hcm5, hget5⟩ := hPT.get
   obtain ⟨n5, hn5⟩ : ∃ n, n = PL.length := ⟨_, rfl⟩
   rw [← hn5] at hv5 hc5
   subst hv5
   have HG5 := Lib.hid hget5
   have HN5 := Lib.hid hn5
   have HDAT := Lib.hid hdat5
   have HRS5 := Lib.hid hrs5
   have vb5 : BoxAt w5 wr.heap.size (vw5 dV (.slice au 2 cu)) 31 := BoxAt.ext hE5 c4
   have hX5 : Ext w3 w5 := (hX.trans hX4).trans hE5
   have hn5' : n5 ≤ 20000 := by
    have e1 := congrArg List.length hdat5
    rw [List.length_map] at e1
    omega
   clear v4 o4 n4 t40 t41 t42 t43 t44 t45 t46 c4 q4 g0 g1 g2 g3 g4 hown5 hrs5 hdat5 hget5 hn5 hPT hS
   go_wp2_with fail
   obtain ⟨wo, rfl⟩ : ∃ w', w' = wr := ⟨_, rfl⟩
   go_loopw [9, 36] (fun vl i wq => ∃ (j : Nat) (L : List Mt), j ≤ n5 ∧ i = .int .i64 j ∧ AI w5 vl L wq ∧ L.length ≤ j ∧ Hid (L.map Mt.q = ((PL.map Pa.data).take j).map mqD)) (fun _ i _ => n5 - (intOf i).toNat)
   case atStart => exact ⟨0, [], Nat.zero_le _, rfl, ⟨Ext.refl _, World.ownsRow_nil _ _ _ _, nofun⟩, by simp, rfl⟩
   case round =>
    obtain ⟨j, L, hj, rfl, hA, hLj, HL⟩ := hrel
    obtain ⟨aL, cL, hvL⟩ := own_shape hA.own
    obtain ⟨nL, hnL⟩ : ∃ n, n = L.length := ⟨_, rfl⟩
    rw [← hnL] at hvL
    subst hvL
    have HNL := Lib.hid hnL
    have hnj : nL ≤ j := by omega
    clear hnL
    by_cases hlt : j < n5
    ·have hji : decide ((j : Int) < (n5 : Int)) = true := by simpa using hlt
     have hjP : j < PL.length := by rw [← HN5.out]; exact hlt
     obtain ⟨b5, rfl, hat⟩ := HG5.out j hjP
     have hrow := HRS5.out _ (List.getElem_mem hjP)
     have hsn : ((PL.map Pa.data).take (j + 1)).map mqD = ((PL.map Pa.data).take j).map mqD ++ [mqD PL[j].data] := by
      rw [List.take_succ_eq_append_getElem (by simpa using hjP), List.map_append]
      simp
     obtain ⟨P, hP⟩ : ∃ P, P = PL[j] := ⟨_, rfl⟩
     rw [← hP] at hat hrow hsn
     obtain ⟨ar, cr, hrv⟩ := hrow.shape
     rw [hrv] at hrow
     have hat2 := hat.ext hA.ext
     obtain ⟨x0, x1, x2⟩ := hat2
     rw [hrv] at x2
     have HSN := Lib.hid hsn
     have HRV := Lib.hid hrv
     clear hP hat hrv hsn
     go_wp2_with (((guard_target =~ wpList _ _ _ (Oper.mk none (Op.store _ (Operand.tmp 15) (Operand.tmp 39)) _ _ _ _ :: _) _ _); go_must (refine storeBox rfl 39 (.tmp 15) (.tmp 39) rfl (wr.heap.size) _ _ _ (by rfl) (by rfl) ((BoxAt.made wr (pa3 ⟨#[]⟩ 0 (.slice none 0 0)) 39)) (by kernel_rfl) (by rfl) (by simp [Value.oneCell']) ?_); intro w6 c6 g6))
     have hX6 : Ext wr w6 := ((Ext.refl wr).alloc _).grown g6 (fun q hq => by cases hq; omega)
     have hA6 := hA.ext' hX6
     have p6 : BoxAt w6 wr.heap.size (pa3 P.key P.gone (.slice ar P.ps.length cr)) 39 := c6
     have hrow6 := (hrow.ext hA.ext).ext hX6
     obtain ⟨s0, s1, s2⟩ := p6.pa
     have z0 : w6.cell? ⟨wo.heap.size, 0, none⟩ = some (.string ⟨#[118]⟩) := ((vb5.ext hA.ext).ext hX6).cell 0
     have z1 : w6.cell? ⟨wo.heap.size, 1, none⟩ = some (.int .i64 2) := ((vb5.ext hA.ext).ext hX6).cell 1
     obtain ⟨m, hm⟩ : ∃ m : Mt, m = ⟨v2B, ⟨P.key, P.gone, .slice ar P.ps.length cr, P.ps⟩⟩ := ⟨_, rfl⟩
     have hm4 : mt4 m = #[.string v2B, .string P.key, .int .i64 P.gone, .slice ar P.ps.length cr] := by rw [hm]; rfl
     have hsh : ∀ p ∈ [m], ∃ a n c, p.pa.rv = .slice a n c := fun p hp => by rw [List.mem_singleton.1 hp, hm]; exact ⟨_, _, _, rfl⟩
     have hmr : RowsT w6 m.pa.rv m.pa.ps := by rw [hm]; exact hrow6
     have hmq : m.q = mqD P.data := by rw [hm]; rfl
     have HM4 := Lib.hid hm4
     have HMQ := Lib.hid hmq
     clear hm hm4 hmq x0 x1 x2 c6 g6
     simp only [Act.put]
     refine wp_region_tab 9 [(5, fun v _ => v = .string v2B), (8, fun v y => MB m v y)] (by kernel_rfl) (by kernel_rfl) (by kernel_rfl) ⟨stays_eq _, fun _ _ _ hE h => h.ext hE, trivial⟩ ?_
     replace s0 := held s0
     replace s1 := held s1
     replace s2 := held s2
     replace z0 := held z0
     replace z1 := held z1
     refine rg_quiet rfl rfl rfl rfl ?_; intro K hK; go_big_quiet_op; go_big_quiet_on
     refine rg_quiet rfl rfl rfl rfl ?_; intro K hK; go_big_quiet_op; go_big_quiet_on
     refine rg_quiet rfl rfl rfl rfl ?_; intro K hK; go_big_quiet_op; go_big_quiet_on
     refine rg_quiet rfl rfl rfl rfl ?_; intro K hK; go_big_quiet_op; go_big_quiet_on
     refine rg_quiet rfl rfl rfl rfl ?_; intro K hK; go_big_quiet_op; go_big_quiet_on
     refine rg_val [] rfl rfl rfl (by kernel_rfl) (fun w1 hE hf => ?_) ?_
     ·go_simp
      exact (schStore_any w1).mono fun e w' ⟨he, hw⟩ => ⟨_, he, rg_done hE hw (rfl)⟩
     simp only [Act.put, List.setIfInBounds_toArray, List.set_cons_zero, List.set_cons_succ]
     refine rg_quiet rfl rfl rfl rfl ?_; intro K hK; go_big_quiet_op; go_big_quiet_on
     refine rg_quiet rfl rfl rfl rfl ?_; intro K hK; go_big_quiet_op; go_big_quiet_on
     refine rg_fact [] rfl rfl rfl (by kernel_rfl) (fun y hY hf => ?_) (fun v8 y8 hE8 hG8 h8 => ?_)
     ·have hmd := MB.made m y
      rw [HM4.out] at hmd
      go_simp
      exact rg_doneR hY ((Ext.refl y).alloc _) hmd
     obtain ⟨b8, rfl, _⟩ := h8.ex
     clear hE8 hG8 h8
     simp only [Act.put, List.setIfInBounds_toArray, List.set_cons_zero, List.set_cons_succ]
     refine rel_tail rfl rfl fun w7 hE7 hG => ?_
     obtain ⟨b8', e8, hMB⟩ := MB.ex ((hG 8).2 rfl)
     cases e8
     clear hG s0 s1 s2 z0 z1
     have hA7 := hA6.ext' hE7
     have o7 := hA7.own
     have l7 : w5.heap.size ≤ w7.heap.size := hA7.ext.le
     go_wp2_with (at_builtin; go_must (refine appMts w7 rfl (.tmp 40) (.tmp 48) rfl w5.heap.size l7 (.slice aL nL cL) L o7 rfl _ [m] hMB hsh rfl (by simp; omega) ?_); intro v8 w8 hown8 hg8)
     go_roundw
     case rel =>
      refine ⟨j + 1, L ++ [m], by omega, by go_num, hA7.app hg8 hown8 (hmr.ext hE7), by simp; omega, ?_⟩
      show _ = _
      rw [HSN.out, ← HL.out, List.map_append, ← HMQ.out]
      rfl
     case measure => simp [intOf]; omega
    ·obtain rfl : n5 = j := by omega
     have hLq : L.map Mt.q = T := by
      rw [HL.out, HT.out, HDAT.out, List.take_of_length_le]
      rw [← HDAT.out, List.length_map, ← HN5.out]
      exact Nat.le_refl _
     go_wp2_with fail
     exact ⟨⟨1, by omega, rfl, ⟨hX5.trans hA.ext, nofun, fun _ => ⟨L, ownsRow_base hA.own hX5.le, hA.rows, hLq⟩⟩⟩, by simp [intOf]⟩
  ·obtain ⟨L, hown, hr, hq⟩ := hS.ex rfl
   obtain ⟨aL, cL, hvL⟩ := own_shape hown
   obtain ⟨nL, hnL⟩ : ∃ n, n = L.length := ⟨_, rfl⟩
   rw [← hnL] at hvL
   subst hvL
   have HNL := Lib.hid hnL
   clear hnL
   go_wp2_with fail
   go_ret
   refine ⟨_, L, rfl, ⟨?_, fun m hm => (hr m hm).rows⟩, hq, hX3.trans hX⟩
   rw [HNL.out]
   rw [HNL.out] at hown
   exact SliceIn.of_owns hown
end Go.Proofs.YtolkhjdododdaaaGreatDoor

/- Partitions appended to a list of one's own. -/
namespace Go.Proofs.YtolkhjdododdaaaGreatDoor
open Go Go.RowKit

theorem paCells_one (l : List Pa) (h : ∀ p ∈ l, ∃ a n c, p.rv = .slice a n c) : ∀ u ∈ paCells l, u.oneCell' = true := by
 induction l with
 | nil => nofun
 | cons p l ih =>
  intro u hu
  simp only [paCells, List.mem_cons] at hu
  rcases hu with rfl | rfl | rfl | hu
  ·rfl
  ·rfl
  ·obtain ⟨a, n, c, e⟩ := h p (List.mem_cons_self ..)
   rw [e]; rfl
  ·exact ih (fun p hp => h p (List.mem_cons_of_mem _ hp)) u hu
theorem appParts {ops : Array Oper} {rest : List Oper} {o : Oper} {a : Act} {Q : Exit → Act → World → Prop} (w : World) (hg : o.guard = none) (s x : Operand)
  (hop : o.op = Op.call { callee := Callee.builtin Builtin.append, args := #[s, x], argTypes := #[34, 34] })
  (B : Nat) (hB : B ≤ w.heap.size) (v : Value) (l : List Pa) (hown : w.ownsRow B 39 3 v l.length (paCells l)) (hs : a.eval s = v) (u : Value) (m : List Pa) (hin : PartsT w u m) (hx : a.eval x = u) (hb : l.length + m.length ≤ 1000000)
  (hK : ∀ v' w', w'.ownsRow B 39 3 v' (l ++ m).length (paCells (l ++ m)) → w.grownBy w' v.ownBlock → wpList Tryz.prog ops Q rest (a.put o.dst v') w') : wpList Tryz.prog ops Q (o :: rest) a w := by
 obtain ⟨i0, hi, hz0, hz1, hz2⟩ := info_parts info_Part
 obtain ⟨ao, c, rfl, hc, hcm, ha, hcell⟩ := hin.tin.slice
 have hone := paCells_one m (fun p hp => let ⟨a, c, e⟩ := (hin.rows p hp).shape; ⟨a, _, c, e⟩)
 cases ao with
 | none =>
  have hc0 := ha rfl
  obtain rfl : m = [] := List.eq_nil_of_length_eq_zero (by omega)
  subst hc0
  refine wpList_append_own_none hg s x 34 hop B 39 i0 3 und_Parts hi v l.length (paCells l) hs hown hx (hK _ _ (by rw [List.append_nil]; exact hown) ⟨rfl, rfl, rfl, Nat.le_refl _, fun _ _ _ => rfl⟩)
 | some ad =>
  refine wpList_append_own _ hg s x 34 hop B 39 i0 _ 3 48 und_Parts hi hz0 hz1 hz2 rfl (by decide) v l.length (paCells l) hs hown ad m.length c (paCells m) hx (paCells_length m) ?_ hone (by unfold maxLen; omega) (by omega) hB ?_
  ·intro j u hj
   obtain ⟨b, o, e, h⟩ := hcell j u hj
   cases e
   rw [Addr.add_lit]
   exact h
  ·intro v' w' h2 h3 _
   refine hK v' w' ?_ h3
   rw [paCells_append, List.length_append]
   exact h2
end Go.Proofs.YtolkhjdododdaaaGreatDoor

/- The reference's Same of any cells, columns, rows, lists of rows, partitions. -/
namespace Go.Proofs.YtolkhjdododdaaaGreatDoor
open Go Go.RowKit
attribute [local go_sem] yields yUpon ro8 pa3
set_option maxRecDepth 100000 in
set_option maxHeartbeats 2000000 in
theorem same8_any (k k' : ByteArray) (g g' : Int) (v v' : Value) (ps ps' : List (Ro × Value)) (w : World) (hin : RowsIn w v ps) (hin' : RowsIn w v' ps') :
  Calls Tryz.prog 20 #[.agg #[.string k, .int .i64 g, v], .agg #[.string k', .int .i64 g', v']] w fun e w' => e = .returned (.bool ((k.toList == k'.toList) && (g == g') && eqB (ps.map (·.1)) (ps'.map (·.1)))) ∧ Ext w w' := by
 obtain ⟨a0, a1, hE⟩ := boxes2 w (pa3 k g v) (pa3 k' g' v') 39 39
 have hin1 := hin.ext hE
 have hin1' := hin'.ext hE
 obtain ⟨B, hB⟩ : ∃ B, B = eqB (ps.map (·.1)) (ps'.map (·.1)) := ⟨_, rfl⟩
 rw [← hB]
 have HB := Lib.hid hB
 clear a0 a1 hB
 cases e1 : (k.toList == k'.toList)
 ·go_enter Tryz.func20, Tryz.ntmps20
  go_wp2_with fail
  go_ret
  exact ⟨rfl, hE⟩
 ·cases e2 : (g == g')
  ·go_enter Tryz.func20, Tryz.ntmps20
   go_wp2_with fail
   go_ret
   exact ⟨rfl, hE⟩
  ·go_enter Tryz.func20, Tryz.ntmps20
   go_wp2_with fail
   refine (sameRows_any v v' ps ps' _ hin1 hin1').mono ?_
   rw [← HB.out]
   rintro e w1 ⟨rfl, hE1⟩
   go_wp2
   go_ret
   exact ⟨ret_bool (by simp), hE.trans hE1⟩
end Go.Proofs.YtolkhjdododdaaaGreatDoor
