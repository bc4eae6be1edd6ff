/- Chapter 19's partitions of one row (the closures of DeltaMoves and of the example). -/
import Derived.Test.YteamiiekpjoclaaM9
import Derived.Test.YteamiiekpjoclaaM12
import Derived.Test.YteamiiekpjoclaaM8
import Derived.Shelf.Small.Strs
import Derived.Shelf.Small.Wraps
import Derived.Shelf.Strconv.Itoa0
import Derived.Test.YteamiiekpjoclaaProg
namespace Go.Proofs.Yteamiiekpjoclaa
open Go Go.RowKit
attribute [local go_sem] yields yUpon ro8 pa3 co5

/-- The row k with one cell in the column a. -/
def kRow (c : Cl) : Ro := ⟨⟨#[107]⟩, zeroCl, 0, 0, [⟨⟨#[97]⟩, c⟩]⟩
def oneC (val : ByteArray) (at_ : Int) (dead : Bool) : Cl := if dead then ⟨⟨#[]⟩, true, at_, 0⟩ else ⟨val, false, at_, 0⟩

theorem one_rows {w : World} {b c : Nat} {d : Cl} (hb : BoxAt w b (co5 ⟨⟨#[97]⟩, d⟩) 58) (hc : BoxAt w c (ro8 (kRow d) (.slice (some ⟨b, 0, none⟩) 1 1)) 55) : RowsT w (.slice (some ⟨c, 0, none⟩) 1 1) [(kRow d, .slice (some ⟨b, 0, none⟩) 1 1)] :=
  RowsT.one hc (TIn.box (xs := coCells [⟨⟨#[97]⟩, d⟩]) hb (by unfold maxLen; decide))

set_option maxRecDepth 100000 in
set_option maxHeartbeats 4000000 in
theorem one19_any (val : ByteArray) (at_ : Int) (w : World) : Calls Try.prog 41 #[.string val, .int .i64 at_] w fun e w' => ∃ b v', e = .returned (.agg #[.string ⟨#[109]⟩, .int .i64 0, .slice (some ⟨b, 0, none⟩) 1 1]) ∧ RowsT w' (.slice (some ⟨b, 0, none⟩) 1 1) [(kRow ⟨val, false, at_, 0⟩, v')] ∧ Ext w w' := by
  go_enter Try.func41, Try.ntmps41
  go_wp2_with (((guard_target =~ wpList _ _ _ (Oper.mk none (Op.store _ (Operand.tmp 4) (Operand.tmp 12)) _ _ _ _ :: _) _ _); go_must (refine storeBox rfl 39 (.tmp 4) (.tmp 12) rfl (w.heap.size) _ _ _ (by rfl) (by rfl) ((((BoxAt.made w (pa3 ⟨#[]⟩ 0 (.slice none 0 0)) 39).ext ((Ext.refl _).alloc _)).ext ((Ext.refl _).alloc _))) (by kernel_rfl) (by rfl) (by simp [Value.oneCell']) ?_); intro w1 c1 g1))
  have hX : Ext w w1 := ((((Ext.refl w).alloc _).alloc _).alloc _).grown g1 (fun q hq => by cases hq; omega)
  have hb : BoxAt w1 (w.heap.size + 1) (co5 ⟨⟨#[97]⟩, ⟨val, false, at_, 0⟩⟩) 58 := ((BoxAt.madeN (co5 ⟨⟨#[97]⟩, ⟨val, false, at_, 0⟩⟩) 58 (by simp)).ext ((Ext.refl _).alloc _)).grown g1 (fun e => by have := Option.some.inj e; omega)
  have hc : BoxAt w1 (w.heap.size + 1 + 1) (ro8 (kRow ⟨val, false, at_, 0⟩) (.slice (some ⟨w.heap.size + 1, 0, none⟩) 1 1)) 55 := (BoxAt.madeN (ro8 (kRow ⟨val, false, at_, 0⟩) (.slice (some ⟨w.heap.size + 1, 0, none⟩) 1 1)) 55 (by simp)).grown g1 (fun e => by have := Option.some.inj e; omega)
  obtain ⟨z0, z1, z2⟩ := c1.pa (k := ⟨#[109]⟩) (g := 0) (u := .slice (some ⟨w.heap.size + 1 + 1, 0, none⟩) 1 1)
  refine bodyPost_ret (v := .agg #[.string ⟨#[109]⟩, .int .i64 0, .slice (some ⟨w.heap.size + 1 + 1, 0, none⟩) 1 1]) ?_ rfl ⟨_, _, rfl, one_rows hb hc, hX⟩
  simp [results, Try.results41, go_sem, z0, z1, z2]
end Go.Proofs.Yteamiiekpjoclaa

/- The example of the document, deltas (clerestorylaw19.awake). -/
namespace Go.Proofs.Yteamiiekpjoclaa
open Go Go.RowKit
attribute [local go_sem] yields yUpon ro8 pa3 vw5 tabV viewV

/-! ### The plain law -/
def dV : Vw := ⟨⟨#[118]⟩, 2, ⟨#[116]⟩, ⟨#[97]⟩⟩
def dNs : List ByteArray := [⟨#[98]⟩, ⟨#[100]⟩]
def kMir (c : Cl) : Ro := ⟨vkey ⟨#[109]⟩ ⟨#[107]⟩, ⟨⟨#[]⟩, false, c.at_, c.fin⟩, 0, 0, []⟩
theorem mir_k (c : Cl) (h : 1 ≤ c.at_) : mirOf dV dNs ⟨#[109]⟩ 0 (kRow c) = if c.dead then none else some (c.val, kMir c) := by
  have e1 : cellOf (kRow c).cols dV.on = c := by simp [cellOf, kRow, dV]
  have e2 : max (kRow c).gone 0 = 0 := rfl
  unfold mirOf
  rw [e1, e2]
  have e3 : bestB c 0 = !c.dead := by
    unfold bestB
    have h1 : decide (c.at_ < 1) = false := by simp; omega
    have h2 : decide (c.at_ ≤ 0) = false := by simp; omega
    rw [h1, h2]; simp
  have e4 : (kRow c).cols.filter (keeps dNs) = [] := by simp [kRow, keeps, dNs, strikes, hasS]
  rw [e3, e4]
  cases c.dead <;> rfl
theorem vkey_mk : (vkey ⟨#[109]⟩ ⟨#[107]⟩).size ≤ 400 := by decide
theorem one_few (c : Cl) (v : Value) : ∀ p ∈ [(kRow c, v)], p.1.cols.length ≤ 1000000 := fun p hp => by rw [List.mem_singleton.1 hp]; show 1 ≤ 1000000; decide
theorem one_keys (c : Cl) (v : Value) : ∀ p ∈ [(kRow c, v)], p.1.key.size ≤ 10000000 ∧ (vkey ⟨#[109]⟩ p.1.key).size ≤ 400 ∧ (vkey ⟨#[109]⟩ p.1.key).size ≤ 400 := fun p hp => by rw [List.mem_singleton.1 hp]; exact ⟨by show 1 ≤ 10000000; decide, vkey_mk, vkey_mk⟩
theorem mir_0 : mirOf dV dNs ⟨#[109]⟩ 0 (rowOf [] ⟨#[107]⟩) = none := rfl
theorem rowOf_k (c : Cl) : rowOf [kRow c] ⟨#[107]⟩ = kRow c := by simp [rowOf, kRow]
theorem delta_k (c d : Cl) : deltaRs dV dNs ⟨#[109]⟩ 0 ⟨#[109]⟩ 0 [kRow c] [kRow d] = stepD dV 0 (kRow d) (mirOf dV dNs ⟨#[109]⟩ 0 (kRow c)) (mirOf dV dNs ⟨#[109]⟩ 0 (kRow d)) := by
  show stepD dV 0 (kRow d) (mirOf dV dNs ⟨#[109]⟩ 0 (rowOf [kRow c] ⟨#[107]⟩)) (mirOf dV dNs ⟨#[109]⟩ 0 (kRow d)) ++ [] = _
  rw [List.append_nil, rowOf_k]
theorem delta_0 (d : Cl) : deltaRs dV dNs ⟨#[109]⟩ 0 ⟨#[109]⟩ 0 [] [kRow d] = stepD dV 0 (kRow d) none (mirOf dV dNs ⟨#[109]⟩ 0 (kRow d)) := by
  show stepD dV 0 (kRow d) (mirOf dV dNs ⟨#[109]⟩ 0 (rowOf [] ⟨#[107]⟩)) (mirOf dV dNs ⟨#[109]⟩ 0 (kRow d)) ++ [] = _
  rw [List.append_nil, mir_0]

/-- A list of partitions of one row each, read. -/
theorem parts_at {w : World} {v : Value} {L : List Pa} {l : List (ByteArray × Ro)} (h : PartsT w v L) (hd : L.map Pa.data = outP l) : ∃ a c, v = .slice a l.length c ∧ l.length ≤ c ∧ c ≤ 9223372036854775807 ∧ ∀ k (hk : k < l.length), ∃ b br cr vm, a = some ⟨b, 0, none⟩ ∧ w.cell? ⟨b, k * 3, none⟩ = some (.string l[k].1) ∧ w.cell? ⟨b, k * 3 + 2, none⟩ = some (.slice (some ⟨br, 0, none⟩) 1 cr) ∧ RoAt w br 0 l[k].2 vm ∧ ColsIn w vm l[k].2.cols := by
  have hl : L.length = l.length := by have := congrArg List.length hd; simpa [outP] using this
  obtain ⟨a, c, rfl, hc, hcm, hg⟩ := h.get
  rw [hl] at hc ⊢
  refine ⟨a, c, rfl, hc, hcm, fun k hk => ?_⟩
  have hkL : k < L.length := by omega
  obtain ⟨b, rfl, hp⟩ := hg k hkL
  have hdk : L[k].data = (l[k].1, 0, [l[k].2]) := by
    have h1 : (L.map Pa.data)[k]? = (outP l)[k]? := by rw [hd]
    simp [outP, hk, hkL] at h1
    exact h1
  have hr := h.rows _ (List.getElem_mem hkL)
  have e1 : L[k].key = l[k].1 := congrArg Prod.fst hdk
  have e2 : L[k].ps.map (·.1) = [l[k].2] := congrArg (fun t => t.2.2) hdk
  obtain ⟨ar, cr, er⟩ := hr.shape
  have hr' := hr
  rw [er] at hr'
  obtain ⟨vm, br, eps, rfl, hn⟩ := hr'.single e2
  rw [eps] at hr' er hr
  refine ⟨b, br, cr, vm, rfl, by rw [← e1]; exact hp.c0, ?_, RowsT.at0 hr', (hr'.typed _ (List.mem_cons_self ..)).cols⟩
  have := hp.c2
  rw [er] at this
  exact this

set_option maxRecDepth 100000 in
set_option maxHeartbeats 8000000 in
theorem awake19_any (w : World) : Calls Try.prog 9 #[] w fun e w' => e = .returned (.bool true) ∧ Ext w w' := by
  go_enter Try.func9, Try.ntmps9
  go_wp2_with fail
  refine (view_any w).mono ?_
  rintro e w1 ⟨bs, bu, rfl, hns, hE1⟩
  go_wp2_with (first
    | (((guard_target =~ wpList _ _ _ (Oper.mk none (Op.store _ (Operand.tmp 1) (Operand.tmp 7)) _ _ _ _ :: _) _ _); go_must (refine storeBox rfl 28 (.tmp 1) (.tmp 7) rfl (w1.heap.size) _ _ _ (by rfl) (by rfl) (((BoxAt.made w1 #[.string ⟨#[]⟩, .int .i64 0, .string ⟨#[]⟩, .int .i64 0, .string ⟨#[]⟩, .int .i64 0, .slice none 0 0] 28).ext ((Ext.refl _).alloc _))) (by kernel_rfl) (by rfl) (by simp [Value.oneCell']) ?_); intro w2 c2 g2); have hX2 : Ext w1 w2 := (((Ext.refl w1).alloc _).alloc _).grown g2 (fun q hq => by cases hq; omega); have hv2 := (BoxAt.madeN #[.string ⟨#[]⟩, .int .i64 0, .string ⟨#[]⟩, .string ⟨#[]⟩, .slice none 0 0] 31 (show (w1.alloc (.cells #[.string ⟨#[]⟩, .int .i64 0, .string ⟨#[]⟩, .int .i64 0, .string ⟨#[]⟩, .int .i64 0, .slice none 0 0] 28)).heap.size = w1.heap.size + 1 by simp)).grown g2 (fun e => by have := Option.some.inj e; omega))
    | (((guard_target =~ wpList _ _ _ (Oper.mk none (Op.store _ (Operand.tmp 2) (Operand.tmp 8)) _ _ _ _ :: _) _ _); go_must (refine storeBox rfl 31 (.tmp 2) (.tmp 8) rfl (w1.heap.size + 1) _ _ _ (by rfl) (by rfl) (hv2) (by kernel_rfl) (by rfl) (by simp [Value.oneCell']) ?_); intro w3 c3 g3)))
  have hX3 : Ext w1 w3 := hX2.grown g3 (fun q hq => by cases hq; omega)
  have b2 : BoxAt w3 w1.heap.size #[.string ⟨#[116]⟩, .int .i64 1, .string ⟨#[112]⟩, .int .i64 1, .string ⟨#[107]⟩, .int .i64 2, .slice (some ⟨bs, 0, none⟩) 4 4] 28 := c2.grown g3 (fun e => by have := Option.some.inj e; omega)
  have b3 : BoxAt w3 (w1.heap.size + 1) (vw5 dV (.slice (some ⟨bu, 0, none⟩) 2 2)) 31 := c3
  have hns3 := hns.ext hX3
  have hE3 := hE1.trans hX3
  clear c2 c3 g2 g3 hX2 hX3 hns hE1
  refine wp_region_in 8 [(3, fun v y => ∃ b v', v = .agg #[.string ⟨#[109]⟩, .int .i64 0, .slice (some ⟨b, 0, none⟩) 1 1] ∧ RowsT y (.slice (some ⟨b, 0, none⟩) 1 1) [(kRow ⟨⟨#[120]⟩, false, 5, 0⟩, v')]), (5, fun v y => ∃ b v', v = .agg #[.string ⟨#[109]⟩, .int .i64 0, .slice (some ⟨b, 0, none⟩) 1 1] ∧ RowsT y (.slice (some ⟨b, 0, none⟩) 1 1) [(kRow ⟨⟨#[121]⟩, false, 6, 0⟩, v')]), (6, fun v y => ∃ L, PartsT y v L ∧ Hid (L.map Pa.data = outP [(⟨#[120]⟩, leftRo dV (kMir ⟨⟨#[120]⟩, false, 5, 0⟩) (kRow ⟨⟨#[121]⟩, false, 6, 0⟩) 0), (⟨#[121]⟩, kMir ⟨⟨#[121]⟩, false, 6, 0⟩)]))] (fun y => BoxAt y w1.heap.size #[.string ⟨#[116]⟩, .int .i64 1, .string ⟨#[112]⟩, .int .i64 1, .string ⟨#[107]⟩, .int .i64 2, .slice (some ⟨bs, 0, none⟩) 4 4] 28 ∧ BoxAt y (w1.heap.size + 1) (vw5 dV (.slice (some ⟨bu, 0, none⟩) 2 2)) 31 ∧ StrsIn y (.slice (some ⟨bu, 0, none⟩) 2 2) dNs ∧ Ext w y) (by kernel_rfl) (by kernel_rfl) (by kernel_rfl) ⟨fun _ _ _ hE ⟨b, v', e, h⟩ => ⟨b, v', e, h.ext hE⟩, fun _ _ _ hE ⟨b, v', e, h⟩ => ⟨b, v', e, h.ext hE⟩, fun _ _ _ hE ⟨L, h, hd⟩ => ⟨L, h.ext hE, hd⟩, trivial⟩ ⟨b2, b3, hns3, hE3⟩ ?_
  clear b2 b3 hns3 hE3
  rintro w4 ⟨b2, b3, hns, hE⟩
  have FIN : Hid (∀ wx, Ext w4 wx → BoxAt wx w1.heap.size #[.string ⟨#[116]⟩, .int .i64 1, .string ⟨#[112]⟩, .int .i64 1, .string ⟨#[107]⟩, .int .i64 2, .slice (some ⟨bs, 0, none⟩) 4 4] 28 ∧ BoxAt wx (w1.heap.size + 1) (vw5 dV (.slice (some ⟨bu, 0, none⟩) 2 2)) 31 ∧ StrsIn wx (.slice (some ⟨bu, 0, none⟩) 2 2) dNs ∧ Ext w wx) := fun wx h => ⟨b2.ext h, b3.ext h, hns.ext h, hE.trans h⟩
  obtain ⟨q0, q1, q2, q3, q4⟩ := b3.vw
  have t0 : w4.cell? ⟨w1.heap.size, 0, none⟩ = some (.string ⟨#[116]⟩) := b2.cell 0
  have t1 : w4.cell? ⟨w1.heap.size, 1, none⟩ = some (.int .i64 1) := b2.cell 1
  have t2 : w4.cell? ⟨w1.heap.size, 2, none⟩ = some (.string ⟨#[112]⟩) := b2.cell 2
  have t3 : w4.cell? ⟨w1.heap.size, 3, none⟩ = some (.int .i64 1) := b2.cell 3
  have t4 : w4.cell? ⟨w1.heap.size, 4, none⟩ = some (.string ⟨#[107]⟩) := b2.cell 4
  have t5 : w4.cell? ⟨w1.heap.size, 5, none⟩ = some (.int .i64 2) := b2.cell 5
  have t6 : w4.cell? ⟨w1.heap.size, 6, none⟩ = some (.slice (some ⟨bs, 0, none⟩) 4 4) := b2.cell 6
  clear b2 b3 hE
  replace q0 := held q0
  replace q1 := held q1
  replace q2 := held q2
  replace q3 := held q3
  replace q4 := held q4
  replace t0 := held t0
  replace t1 := held t1
  replace t2 := held t2
  replace t3 := held t3
  replace t4 := held t4
  replace t5 := held t5
  replace t6 := held t6
  refine rg_quiet rfl rfl rfl rfl ?_; intro K hK; go_big_quiet_op; go_big_quiet_on
  refine rg_quiet rfl rfl rfl rfl ?_; intro K hK; go_big_quiet_op; go_big_quiet_on
  refine rg_quiet rfl rfl rfl rfl ?_; intro K hK; go_big_quiet_op; go_big_quiet_on
  refine rg_fact [] rfl rfl rfl (by kernel_rfl) (fun w1 hE hf => ?_) (fun v3 w1 hE hG h3 => ?_)
  · go_simp
    refine (one19_any ⟨#[120]⟩ 5 w1).mono ?_
    rintro e w3 ⟨b, v', he, hr, hE3⟩
    exact ⟨_, he, rg_doneR hE hE3 ⟨b, rfl, v', hr⟩⟩
  obtain ⟨bo, vo, rfl, h3⟩ := h3
  simp only [Act.put, List.setIfInBounds_toArray, List.set_cons_zero, List.set_cons_succ]
  clear hE hG h3 w1
  refine rg_quiet rfl rfl rfl rfl ?_; intro K hK; go_big_quiet_op; go_big_quiet_on
  refine rg_fact [] rfl rfl rfl (by kernel_rfl) (fun w1 hE hf => ?_) (fun v3 w1 hE hG h3 => ?_)
  · go_simp
    refine (one19_any ⟨#[121]⟩ 6 w1).mono ?_
    rintro e w3 ⟨b, v', he, hr, hE3⟩
    exact ⟨_, he, rg_doneR hE hE3 ⟨b, rfl, v', hr⟩⟩
  obtain ⟨bn, vn, rfl, h3⟩ := h3
  simp only [Act.put, List.setIfInBounds_toArray, List.set_cons_zero, List.set_cons_succ]
  clear hE hG h3 w1
  refine rg_fact [3, 5] rfl rfl rfl (by kernel_rfl) (fun w1 hE hf => ?_) (fun v3 w1 hE hG h3 => ?_)
  · obtain ⟨b3, v3', e3, h3⟩ := (hf 3 (by simp)).1.2 rfl
    obtain ⟨b5, v5', e5, h5⟩ := (hf 5 (by simp)).2 rfl
    cases e3
    cases e5
    go_simp
    have hd : outP (deltaRs dV dNs ⟨#[109]⟩ 0 ⟨#[109]⟩ 0 ([(kRow ⟨⟨#[120]⟩, false, 5, 0⟩, v3')].map (·.1)) ([(kRow ⟨⟨#[121]⟩, false, 6, 0⟩, v5')].map (·.1))) = outP [(⟨#[120]⟩, leftRo dV (kMir ⟨⟨#[120]⟩, false, 5, 0⟩) (kRow ⟨⟨#[121]⟩, false, 6, 0⟩) 0), (⟨#[121]⟩, kMir ⟨⟨#[121]⟩, false, 6, 0⟩)] := by
      show outP (deltaRs dV dNs ⟨#[109]⟩ 0 ⟨#[109]⟩ 0 [kRow ⟨⟨#[120]⟩, false, 5, 0⟩] [kRow ⟨⟨#[121]⟩, false, 6, 0⟩]) = _
      rw [delta_k, mir_k _ (by decide), mir_k _ (by decide)]
      show outP (if eqB (⟨#[120]⟩ : ByteArray) ⟨#[121]⟩ then _ else _) = _
      rw [eqB_false (by decide)]
      rfl
    refine (deltaOf_any (.slice (some ⟨bs, 0, none⟩) 4 4) dV (.slice (some ⟨bu, 0, none⟩) 2 2) dNs ⟨#[109]⟩ 0 _ _ ⟨#[109]⟩ 0 _ _ w1 h3.rows h5.rows (hns.ext hE) (one_few _ _) (one_few _ _) (by show 1 ≤ 10000; decide) (by decide) (by decide) (one_keys _ _)).mono ?_
    rintro e w3 ⟨v', he, L, hown, hrows, hdata, hE3⟩
    exact ⟨_, he, rg_doneR hE hE3 ⟨L, ⟨TIn.own hown, hrows⟩, hdata.trans hd⟩⟩
  obtain ⟨L, h3, HL⟩ := h3
  obtain ⟨ad, cd, rfl, hh1, hh2, hat⟩ := parts_at h3 HL.out
  obtain ⟨bd, br, cr, vm, rfl, hh⟩ := hat 0 (by show 0 < 2; decide)
  simp only [Act.put, List.setIfInBounds_toArray, List.set_cons_zero, List.set_cons_succ]
  clear hE hG h3 HL hat hh hh1 hh2 w1 L
  refine rg_quiet rfl rfl rfl rfl ?_; intro K hK; go_big_quiet_op; go_big_quiet_on
  refine rel_nil fun w5 hE5 hG => ?_
  obtain ⟨L, h3, HL⟩ := (hG 6).2 rfl
  obtain ⟨ad, cd', e, _, _, hat⟩ := parts_at h3 HL.out
  cases e
  obtain ⟨b2, br', cr', vm', e, x0, x2, hro, _⟩ := hat 0 (by show 0 < 2; decide)
  cases e
  obtain ⟨b2, br2, cr2, vm2, e, y0, _, _, _⟩ := hat 1 (by show 1 < 2; decide)
  cases e
  have xs := hro.c6
  obtain ⟨f2, f3, hns5, hE5'⟩ := FIN.out w5 hE5
  clear q0 q1 q2 q3 q4 t0 t1 t2 t3 t4 t5 t6 FIN hG hat h3 HL hro hE5 hns
  replace x0 : w5.cell? ⟨bd, 0, none⟩ = some (.string ⟨#[120]⟩) := x0
  replace x2 : w5.cell? ⟨bd, 2, none⟩ = some (.slice (some ⟨br', 0, none⟩) 1 cr') := x2
  replace xs : w5.cell? ⟨br', 6, none⟩ = some (.int .i64 5) := xs
  replace y0 : w5.cell? ⟨bd, 3, none⟩ = some (.string ⟨#[121]⟩) := y0
  show _
  go_wp2_with fail
  refine wp_region_in 47 [(39, fun v y => ∃ b v', v = .agg #[.string ⟨#[109]⟩, .int .i64 0, .slice (some ⟨b, 0, none⟩) 1 1] ∧ RowsT y (.slice (some ⟨b, 0, none⟩) 1 1) [(kRow ⟨⟨#[120]⟩, false, 5, 0⟩, v')]), (41, fun v y => ∃ b v', v = .agg #[.string ⟨#[109]⟩, .int .i64 0, .slice (some ⟨b, 0, none⟩) 1 1] ∧ RowsT y (.slice (some ⟨b, 0, none⟩) 1 1) [(kRow ⟨⟨#[120]⟩, false, 5, 0⟩, v')]), (42, fun v y => ∃ a c, v = .slice a 0 c)] (fun y => BoxAt y w1.heap.size #[.string ⟨#[116]⟩, .int .i64 1, .string ⟨#[112]⟩, .int .i64 1, .string ⟨#[107]⟩, .int .i64 2, .slice (some ⟨bs, 0, none⟩) 4 4] 28 ∧ BoxAt y (w1.heap.size + 1) (vw5 dV (.slice (some ⟨bu, 0, none⟩) 2 2)) 31 ∧ StrsIn y (.slice (some ⟨bu, 0, none⟩) 2 2) dNs ∧ Ext w y ∧ y.cell? ⟨bd, 0, none⟩ = some (.string ⟨#[120]⟩) ∧ y.cell? ⟨bd, 2, none⟩ = some (.slice (some ⟨br', 0, none⟩) 1 cr') ∧ y.cell? ⟨br', 6, none⟩ = some (.int .i64 5) ∧ y.cell? ⟨bd, 3, none⟩ = some (.string ⟨#[121]⟩)) (by kernel_rfl) (by kernel_rfl) (by kernel_rfl) ⟨fun _ _ _ hE ⟨b, v', e, h⟩ => ⟨b, v', e, h.ext hE⟩, fun _ _ _ hE ⟨b, v', e, h⟩ => ⟨b, v', e, h.ext hE⟩, fun _ _ _ _ h => h, trivial⟩ ⟨f2, f3, hns5, hE5', x0, x2, xs, y0⟩ ?_
  clear f2 f3 hns5 hE5' x0 x2 xs y0
  rintro w4 ⟨b2, b3, hns, hE, x0, x2, xs, y0⟩
  have FIN : Hid (∀ wx, Ext w4 wx → Ext w wx) := fun wx h => hE.trans h
  obtain ⟨q0, q1, q2, q3, q4⟩ := b3.vw
  have t0 : w4.cell? ⟨w1.heap.size, 0, none⟩ = some (.string ⟨#[116]⟩) := b2.cell 0
  have t1 : w4.cell? ⟨w1.heap.size, 1, none⟩ = some (.int .i64 1) := b2.cell 1
  have t2 : w4.cell? ⟨w1.heap.size, 2, none⟩ = some (.string ⟨#[112]⟩) := b2.cell 2
  have t3 : w4.cell? ⟨w1.heap.size, 3, none⟩ = some (.int .i64 1) := b2.cell 3
  have t4 : w4.cell? ⟨w1.heap.size, 4, none⟩ = some (.string ⟨#[107]⟩) := b2.cell 4
  have t5 : w4.cell? ⟨w1.heap.size, 5, none⟩ = some (.int .i64 2) := b2.cell 5
  have t6 : w4.cell? ⟨w1.heap.size, 6, none⟩ = some (.slice (some ⟨bs, 0, none⟩) 4 4) := b2.cell 6
  clear b2 b3 hE
  replace q0 := held q0
  replace q1 := held q1
  replace q2 := held q2
  replace q3 := held q3
  replace q4 := held q4
  replace t0 := held t0
  replace t1 := held t1
  replace t2 := held t2
  replace t3 := held t3
  replace t4 := held t4
  replace t5 := held t5
  replace t6 := held t6
  replace x0 := held x0
  replace x2 := held x2
  replace xs := held xs
  replace y0 := held y0
  refine rg_quiet rfl rfl rfl rfl ?_; intro K hK; go_big_quiet_op; go_big_quiet_on
  refine rg_quiet rfl rfl rfl rfl ?_; intro K hK; go_big_quiet_op; go_big_quiet_on
  refine rg_quiet rfl rfl rfl rfl ?_; intro K hK; go_big_quiet_op; go_big_quiet_on
  refine rg_quiet rfl rfl rfl rfl ?_; intro K hK; go_big_quiet_op; go_big_quiet_on
  refine rg_quiet rfl rfl rfl rfl ?_; intro K hK; go_big_quiet_op; go_big_quiet_on
  refine rg_quiet rfl rfl rfl rfl ?_; intro K hK; go_big_quiet_op; go_big_quiet_on
  refine rg_quiet rfl rfl rfl rfl ?_; intro K hK; go_big_quiet_op; go_big_quiet_on
  refine rg_quiet rfl rfl rfl rfl ?_; intro K hK; go_big_quiet_op; go_big_quiet_on
  refine rg_quiet rfl rfl rfl rfl ?_; intro K hK; go_big_quiet_op; go_big_quiet_on
  refine rg_quiet rfl rfl rfl rfl ?_; intro K hK; go_big_quiet_op; go_big_quiet_on
  refine rg_quiet rfl rfl rfl rfl ?_; intro K hK; go_big_quiet_op; go_big_quiet_on
  refine rg_quiet rfl rfl rfl rfl ?_; intro K hK; go_big_quiet_op; go_big_quiet_on
  refine rg_quiet rfl rfl rfl rfl ?_; intro K hK; go_big_quiet_op; go_big_quiet_on
  refine rg_quiet rfl rfl rfl rfl ?_; intro K hK; go_big_quiet_op; go_big_quiet_on
  refine rg_quiet rfl rfl rfl rfl ?_; intro K hK; go_big_quiet_op; go_big_quiet_on
  refine rg_quiet rfl rfl rfl rfl ?_; intro K hK; go_big_quiet_op; go_big_quiet_on
  refine rg_quiet rfl rfl rfl rfl ?_; intro K hK; go_big_quiet_op; go_big_quiet_on
  refine rg_quiet rfl rfl rfl rfl ?_; intro K hK; go_big_quiet_op; go_big_quiet_on
  refine rg_quiet rfl rfl rfl rfl ?_; intro K hK; go_big_quiet_op; go_big_quiet_on
  refine rg_quiet rfl rfl rfl rfl ?_; intro K hK; go_big_quiet_op; go_big_quiet_on
  refine rg_quiet rfl rfl rfl rfl ?_; intro K hK; go_big_quiet_op; go_big_quiet_on
  refine rg_quiet rfl rfl rfl rfl ?_; intro K hK; go_big_quiet_op; go_big_quiet_on
  refine rg_quiet rfl rfl rfl rfl ?_; intro K hK; go_big_quiet_op; go_big_quiet_on
  refine rg_quiet rfl rfl rfl rfl ?_; intro K hK; go_big_quiet_op; go_big_quiet_on
  refine rg_quiet rfl rfl rfl rfl ?_; intro K hK; go_big_quiet_op; go_big_quiet_on
  refine rg_quiet rfl rfl rfl rfl ?_; intro K hK; go_big_quiet_op; go_big_quiet_on
  refine rg_quiet rfl rfl rfl rfl ?_; intro K hK; go_big_quiet_op; go_big_quiet_on
  refine rg_quiet rfl rfl rfl rfl ?_; intro K hK; go_big_quiet_op; go_big_quiet_on
  refine rg_quiet rfl rfl rfl rfl ?_; intro K hK; go_big_quiet_op; go_big_quiet_on
  refine rg_quiet rfl rfl rfl rfl ?_; intro K hK; go_big_quiet_op; go_big_quiet_on
  refine rg_quiet rfl rfl rfl rfl ?_; intro K hK; go_big_quiet_op; go_big_quiet_on
  refine rg_quiet rfl rfl rfl rfl ?_; intro K hK; go_big_quiet_op; go_big_quiet_on
  refine rg_quiet rfl rfl rfl rfl ?_; intro K hK; go_big_quiet_op; go_big_quiet_on
  refine rg_quiet rfl rfl rfl rfl ?_; intro K hK; go_big_quiet_op; go_big_quiet_on
  refine rg_quiet rfl rfl rfl rfl ?_; intro K hK; go_big_quiet_op; go_big_quiet_on
  refine rg_quiet rfl rfl rfl rfl ?_; intro K hK; go_big_quiet_op; go_big_quiet_on
  refine rg_quiet rfl rfl rfl rfl ?_; intro K hK; go_big_quiet_op; go_big_quiet_on
  refine rg_quiet rfl rfl rfl rfl ?_; intro K hK; go_big_quiet_op; go_big_quiet_on
  refine rg_quiet rfl rfl rfl rfl ?_; intro K hK; go_big_quiet_op; go_big_quiet_on
  refine rg_fact [] rfl rfl rfl (by kernel_rfl) (fun w1 hE hf => ?_) (fun v3 w1 hE hG h3 => ?_)
  · go_simp
    refine (one19_any ⟨#[120]⟩ 5 w1).mono ?_
    rintro e w3 ⟨b, v', he, hr, hE3⟩
    exact ⟨_, he, rg_doneR hE hE3 ⟨b, rfl, v', hr⟩⟩
  obtain ⟨bo, vo, rfl, h3⟩ := h3
  simp only [Act.put, List.setIfInBounds_toArray, List.set_cons_zero, List.set_cons_succ]
  clear hE hG h3 w1
  refine rg_quiet rfl rfl rfl rfl ?_; intro K hK; go_big_quiet_op; go_big_quiet_on
  refine rg_fact [] rfl rfl rfl (by kernel_rfl) (fun w1 hE hf => ?_) (fun v3 w1 hE hG h3 => ?_)
  · go_simp
    refine (one19_any ⟨#[120]⟩ 5 w1).mono ?_
    rintro e w3 ⟨b, v', he, hr, hE3⟩
    exact ⟨_, he, rg_doneR hE hE3 ⟨b, rfl, v', hr⟩⟩
  obtain ⟨bn, vn, rfl, h3⟩ := h3
  simp only [Act.put, List.setIfInBounds_toArray, List.set_cons_zero, List.set_cons_succ]
  clear hE hG h3 w1
  refine rg_fact [39, 41] rfl rfl rfl (by kernel_rfl) (fun w1 hE hf => ?_) (fun v3 w1 hE hG h3 => ?_)
  · obtain ⟨b3, v3', e3, h3⟩ := (hf 39 (by simp)).1.2 rfl
    obtain ⟨b5, v5', e5, h5⟩ := (hf 41 (by simp)).2 rfl
    cases e3
    cases e5
    go_simp
    refine (deltaOf_any (.slice (some ⟨bs, 0, none⟩) 4 4) dV (.slice (some ⟨bu, 0, none⟩) 2 2) dNs ⟨#[109]⟩ 0 _ _ ⟨#[109]⟩ 0 _ _ w1 h3.rows h5.rows (hns.ext hE) (one_few _ _) (one_few _ _) (by show 1 ≤ 10000; decide) (by decide) (by decide) (one_keys _ _)).mono ?_
    rintro e w3 ⟨v', he, L, hown, hrows, hdata, hE3⟩
    have hd : outP (deltaRs dV dNs ⟨#[109]⟩ 0 ⟨#[109]⟩ 0 ([(kRow ⟨⟨#[120]⟩, false, 5, 0⟩, v3')].map (·.1)) ([(kRow ⟨⟨#[120]⟩, false, 5, 0⟩, v5')].map (·.1))) = [] := by
      show outP (deltaRs dV dNs ⟨#[109]⟩ 0 ⟨#[109]⟩ 0 [kRow ⟨⟨#[120]⟩, false, 5, 0⟩] [kRow ⟨⟨#[120]⟩, false, 5, 0⟩]) = _
      rw [delta_k, mir_k _ (by decide)]
      show outP (if eqB (⟨#[120]⟩ : ByteArray) ⟨#[120]⟩ then (if eqB _ _ then [] else _) else _) = _
      rw [eqB_true rfl, if_pos rfl, eqB_true rfl]
      rfl
    have hL : L = [] := by
      have := hdata.trans hd
      exact List.map_eq_nil_iff.1 this
    subst hL
    obtain ⟨a, c, rfl⟩ := own_shape hown
    exact ⟨_, he, rg_doneR hE hE3 ⟨a, c, rfl⟩⟩
  obtain ⟨ae, ce, rfl⟩ := h3
  simp only [Act.put, List.setIfInBounds_toArray, List.set_cons_zero, List.set_cons_succ]
  clear hE hG w1
  refine rg_quiet rfl rfl rfl rfl ?_; intro K hK; go_big_quiet_op; go_big_quiet_on
  refine rg_quiet rfl rfl rfl rfl ?_; intro K hK; go_big_quiet_op; go_big_quiet_on
  refine rg_quiet rfl rfl rfl rfl ?_; intro K hK; go_big_quiet_op; go_big_quiet_on
  refine rg_quiet rfl rfl rfl rfl ?_; intro K hK; go_big_quiet_op; go_big_quiet_on
  refine rel_nil fun w5 hE5 hG => ?_
  have hE6 := FIN.out w5 hE5
  clear q0 q1 q2 q3 q4 t0 t1 t2 t3 t4 t5 t6 x0 x2 xs y0 FIN hG hns
  go_wp2_with fail
  go_ret
  exact ⟨rfl, hE6⟩
end Go.Proofs.Yteamiiekpjoclaa

/- Contracts of the library, laid at this program: strings.Compare, cmp.Compare: each is one application of a theorem of the shelf (the text is the tool's, its numbers by name). -/
namespace Go.Proofs
open Go.Shelf
def Try.lays106_ren : Go.Shelf.Ren := ⟨fun | 106 => 56 | 213 => 85 | 265 => 107 | n => n, fun | 9 => 9 | 3 => 3 | n => n, fun | n => n⟩
theorem Try.lays106 : Go.Proofs.Lays.n106 Try.prog Try.lays106_ren := {
  mixed := by kernel_rfl
  f106 := Try.func56.trans (congrArg some (by kernel_rfl))
  f213 := Try.func85.trans (congrArg some (by kernel_rfl))
  f265 := Try.func107.trans (congrArg some (by kernel_rfl))
  t3 := Try.underlying3
  a3 := Try.isAgg3
  z3 := Try.sizeOf3
  v3 := Try.zeroValue3
  t9 := Try.underlying9
  a9 := Try.isAgg9
  z9 := Try.sizeOf9
  v9 := Try.zeroValue9 }
open Go.RowKit in
theorem Try.strings_Compare (a b : ByteArray) (w : World) :
    Calls Try.prog 56 #[.string a, .string b] w fun e w' => e = .returned (.int .i64 (Lib.compareBytes a.data.toList b.data.toList)) ∧ w' = w := Any.strings_Compare Try.lays106 a b w
def Try.lays122_ren : Go.Shelf.Ren := ⟨fun | 122 => 114 | 215 => 124 | n => n, fun | 3 => 3 | 4 => 4 | n => n, fun | n => n⟩
theorem Try.lays122 : Go.Proofs.Lays.n122 Try.prog Try.lays122_ren := {
  mixed := by kernel_rfl
  f122 := Try.func114.trans (congrArg some (by kernel_rfl))
  f215 := Try.func124.trans (congrArg some (by kernel_rfl))
  t3 := Try.underlying3
  a3 := Try.isAgg3
  z3 := Try.sizeOf3
  v3 := Try.zeroValue3
  t4 := Try.underlying4
  a4 := Try.isAgg4
  z4 := Try.sizeOf4
  v4 := Try.zeroValue4 }
open Go.RowKit in
theorem Try.cmp_Compare_int (x y : Int) (w : World) :
    Calls Try.prog 114 #[.int .i64 x, .int .i64 y] w fun e w' => e = .returned (.int .i64 (Lib.compareInt x y)) ∧ w' = w := Any.cmp_Compare_int Try.lays122 x y w
end Go.Proofs
