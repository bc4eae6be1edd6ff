/- RowNumbers: joins of rows by numbers are one way: the law's walk. -/
import Derived.Test.YteamiiekpjoclaaDoorM11
import Derived.Test.YteamiiekpjoclaaDoorM9
import Derived.Test.YteamiiekpjoclaaDoorM10
import Derived.Test.YteamiiekpjoclaaDoorM13
import Derived.Test.YteamiiekpjoclaaDoorM14
import Derived.Test.YteamiiekpjoclaaDoorM3
import Derived.Test.YteamiiekpjoclaaDoorM4
namespace Go.Proofs.YteamiiekpjoclaaDoor
open Go Go.RowKit
attribute [local go_sem] yields yUpon ro8 cl4

theorem box_some {x y : World} {q b m : Nat} {Z Z' : Array Value} {T : TypeId} (hg : x.grownBy y (some q)) (hq : BoxAt y q Z' T) (hZ' : Z'.size = m) (hb : BoxAt x b Z T) (hZ : Z.size = m) : ∃ Z, BoxAt y b Z T ∧ Z.size = m := by
  by_cases e : b = q
  · subst e; exact ⟨Z', hq, hZ'⟩
  · exact ⟨Z, hb.grown hg (fun e' => e (Option.some.inj e')), hZ⟩
theorem sameCl_self (x : Cl) : sameCl x x = true := by unfold sameCl sameC; simp

theorem stays_row (r : Ro) : Stays (fun v x => ∃ v', v = (.agg #[.string r.key, .string r.live.val, .bool r.live.dead, .int .i64 r.live.at_, .int .i64 r.live.fin, .int .i64 r.gone, .int .i64 r.shade, v']) ∧ ColsT x v' r.cols) := fun _ _ _ hE ⟨v', e, h⟩ => ⟨v', e, h.ext hE⟩

set_option maxRecDepth 100000 in
set_option maxHeartbeats 8000000 in
theorem law_rowNumbers (v0 : Value) (z : List Int) (now part : Int) (w : World) (hin : IntsIn w v0 .i64 z) (hz : z.length ≤ 60) :
    Calls Tryd.prog 6 #[v0, .int .i64 now, .int .i64 part] w fun e w' => e = .returned (.bool true) ∧ Ext w w' := by
  obtain ⟨a, c, rfl, hc, hcm, ha⟩ := hin.block
  go_enter Tryd.func6, Tryd.ntmps6
  go_wp2_with fail
  refine (lrow_any w w.heap.size (Nat.le_refl _) ⟨#[107]⟩ _ ((Ext.refl w).alloc _) ⟨_, z, BoxAt.made w _ _, hin⟩).mono ?_
  rintro e w1 ⟨rA, vA, rfl, hkA, hgA, hownA, hg1, hL1⟩
  have HKA := Lib.hid hkA
  clear hkA
  have hX1 : Ext w w1 := ((Ext.refl w).alloc _).grown hg1 (fun q hq => by cases hq; exact Nat.le_refl _)
  have hA1 : ColsT w1 vA rA.cols := TIn.own hownA
  go_wp2_with fail
  refine (lrow_any w w.heap.size (Nat.le_refl _) ⟨#[107]⟩ w1 hX1 hL1).mono ?_
  rintro e w2 ⟨rB, vB, rfl, hkB, hgB, hownB, hg2, hL2⟩
  have HKB := Lib.hid hkB
  clear hkB
  have hX2 : Ext w w2 := hX1.grown hg2 (fun q hq => by cases hq; exact Nat.le_refl _)
  obtain ⟨_, _, hbx1, _⟩ := hL1
  have hA2 : ColsT w2 vA rA.cols := ColsT.keep hg2 hbx1 (by decide) hA1
  have hB2 : ColsT w2 vB rB.cols := TIn.own hownB
  go_wp2_with fail
  refine (lrow_any w w.heap.size (Nat.le_refl _) ⟨#[107]⟩ w2 hX2 hL2).mono ?_
  rintro e w3 ⟨rC, vC, rfl, hkC, hgC, hownC, hg3, hL3⟩
  have HKC := Lib.hid hkC
  clear hkC
  have hX3 : Ext w w3 := hX2.grown hg3 (fun q hq => by cases hq; exact Nat.le_refl _)
  obtain ⟨_, _, hbx2, _⟩ := hL2
  have hA3 : ColsT w3 vA rA.cols := ColsT.keep hg3 hbx2 (by decide) hA2
  have hB3 : ColsT w3 vB rB.cols := ColsT.keep hg3 hbx2 (by decide) hB2
  have hC3 : ColsT w3 vC rC.cols := TIn.own hownC
  have nA := hgA.num
  have nB := hgB.num
  have nC := hgC.num
  obtain ⟨aA, cA, rfl⟩ := TIn.shape hA3
  obtain ⟨aB, cB, rfl⟩ := TIn.shape hB3
  obtain ⟨aC, cC, rfl⟩ := TIn.shape hC3
  clear hA1 hA2 hB2 hg1 hg2 hg3 hownA hownB hownC hX1 hX2 hL3 hbx1 hbx2 hgA hgB hgC
  obtain ⟨b0, b1, b2, hEb⟩ := boxes3 w3 (ro8 ⟨⟨#[]⟩, zeroCl, 0, 0, []⟩ (.slice none 0 0)) (ro8 ⟨⟨#[]⟩, zeroCl, 0, 0, []⟩ (.slice none 0 0)) (ro8 ⟨⟨#[]⟩, zeroCl, 0, 0, []⟩ (.slice none 0 0)) 26 26 26
  go_wp2_with (first
    | (((guard_target =~ wpList _ _ _ (Oper.mk none (Op.store _ (Operand.tmp 8) (Operand.tmp 29)) _ _ _ _ :: _) _ _); go_must (refine storeBox rfl 26 (.tmp 8) (.tmp 29) rfl (w3.heap.size) _ _ _ (by rfl) (by rfl) (b0) (by kernel_rfl) (by rfl) (by simp [Value.oneCell']) ?_); intro w4 c4 g4); have d1 := b1.grown g4 (fun e => by have := Option.some.inj e; omega); have d2 := b2.grown g4 (fun e => by have := Option.some.inj e; omega); have hE4 := hEb.grown g4 (fun q hq => by cases hq; omega))
    | (((guard_target =~ wpList _ _ _ (Oper.mk none (Op.store _ (Operand.tmp 9) (Operand.tmp 31)) _ _ _ _ :: _) _ _); go_must (refine storeBox rfl 26 (.tmp 9) (.tmp 31) rfl (w3.heap.size + 1) _ _ _ (by rfl) (by rfl) (d1) (by kernel_rfl) (by rfl) (by simp [Value.oneCell']) ?_); intro w5 c5 g5); have e0 : BoxAt w5 w3.heap.size (ro8 rA (.slice aA rA.cols.length cA)) 26 := BoxAt.grown c4 g5 (fun e => by have := Option.some.inj e; omega); have e2 := d2.grown g5 (fun e => by have := Option.some.inj e; omega); have hE5 := hE4.grown g5 (fun q hq => by cases hq; omega))
    | (((guard_target =~ wpList _ _ _ (Oper.mk none (Op.store _ (Operand.tmp 10) (Operand.tmp 33)) _ _ _ _ :: _) _ _); go_must (refine storeBox rfl 26 (.tmp 10) (.tmp 33) rfl (w3.heap.size + 1 + 1) _ _ _ (by rfl) (by rfl) (e2) (by kernel_rfl) (by rfl) (by simp [Value.oneCell']) ?_); intro w6 c6 g6); have f0 := e0.grown g6 (fun e => by have := Option.some.inj e; omega); have f1 : BoxAt w6 (w3.heap.size + 1) (ro8 rB (.slice aB rB.cols.length cB)) 26 := BoxAt.grown c5 g6 (fun e => by have := Option.some.inj e; omega); have f2 : BoxAt w6 (w3.heap.size + 1 + 1) (ro8 rC (.slice aC rC.cols.length cC)) 26 := c6; have hE6 := hE5.grown g6 (fun q hq => by cases hq; omega); have y0 : ∀ i, w6.cell? ⟨w3.heap.size, i, none⟩ = (ro8 rA (.slice aA rA.cols.length cA))[i]? := (fun i => f0.cell i); have y1 : ∀ i, w6.cell? ⟨w3.heap.size + 1, i, none⟩ = (ro8 rB (.slice aB rB.cols.length cB))[i]? := (fun i => f1.cell i)))
  --R6
  have hA6 : ColsT w6 (.slice aA rA.cols.length cA) rA.cols := ColsT.keep g6 e2 (by decide) (ColsT.keep g5 d1 (by decide) (ColsT.keep g4 b0 (by decide) (hA3.ext (((Ext.refl w3).alloc _).alloc _ |>.alloc _))))
  have hB6 : ColsT w6 (.slice aB rB.cols.length cB) rB.cols := ColsT.keep g6 e2 (by decide) (ColsT.keep g5 d1 (by decide) (ColsT.keep g4 b0 (by decide) (hB3.ext (((Ext.refl w3).alloc _).alloc _ |>.alloc _))))
  have hC6 : ColsT w6 (.slice aC rC.cols.length cC) rC.cols := ColsT.keep g6 e2 (by decide) (ColsT.keep g5 d1 (by decide) (ColsT.keep g4 b0 (by decide) (hC3.ext (((Ext.refl w3).alloc _).alloc _ |>.alloc _))))
  have hX6 : Ext w w6 := hX3.trans hE6
  obtain ⟨bA, hbA⟩ : ∃ b, b = w3.heap.size := ⟨_, rfl⟩
  obtain ⟨bB, hbB⟩ : ∃ b, b = w3.heap.size + 1 := ⟨_, rfl⟩
  obtain ⟨bC, hbC⟩ : ∃ b, b = w3.heap.size + 1 + 1 := ⟨_, rfl⟩
  rw [← hbC] at f2
  rw [← hbB] at f1
  rw [← hbA] at f0
  rw [← hbC, ← hbB, ← hbA]
  clear hbA hbB hbC c4 g4 c5 g5 c6 g6 y0 y1 e0 e2 d1 d2 hE4 hE5 hE6 b0 b1 b2 hEb hA3 hB3 hC3 hX3
  obtain ⟨rX, hrX⟩ : ∃ r, r = joinRo rA rB := ⟨_, rfl⟩
  have nX : NumRow rX := by rw [hrX]; exact nA.join nB
  have HX := Lib.hid hrX
  have HN : Hid (NumRow rA ∧ NumRow rB ∧ NumRow rC ∧ NumRow rX) := ⟨nA, nB, nC, nX⟩
  have hlA := nA.len
  have hlB := nB.len
  have hlC := nC.len
  have hlX := nX.len
  clear hrX nA nB nC nX
  refine (rowJoin_any rA rB _ _ w6 hA6.cols hB6.cols (by omega)).mono ?_
  rw [← HX.out]
  rintro e w7 ⟨vX, rfl, hownX, hE7⟩
  have hX7 : ColsT w7 vX rX.cols := TIn.own hownX
  obtain ⟨aX, cX, rfl⟩ := TIn.shape hX7
  clear hownX
  go_wp2_with (((guard_target =~ wpList _ _ _ (Oper.mk none (Op.store _ (Operand.tmp 11) (Operand.tmp 36)) _ _ _ _ :: _) _ _); go_must (refine storeBox rfl 26 (.tmp 11) (.tmp 36) rfl (w7.heap.size) _ _ _ (by rfl) (by rfl) ((BoxAt.made w7 (ro8 ⟨⟨#[]⟩, zeroCl, 0, 0, []⟩ (.slice none 0 0)) 26)) (by kernel_rfl) (by rfl) (by simp [Value.oneCell']) ?_); intro w8 c8 g8))
  have hE78 : Ext w7 w8 := ((Ext.refl w7).alloc _).grown g8 (fun q hq => by cases hq; omega)
  have kX : BoxAt w8 w7.heap.size (ro8 rX (.slice aX rX.cols.length cX)) 26 := c8
  have kA := f0.ext (hE7.trans hE78)
  have kB := f1.ext (hE7.trans hE78)
  have kC := f2.ext (hE7.trans hE78)
  have tA := hA6.ext (hE7.trans hE78)
  have tB := hB6.ext (hE7.trans hE78)
  have tC := hC6.ext (hE7.trans hE78)
  have tX := hX7.ext hE78
  have hX8 := hX6.trans (hE7.trans hE78)
  obtain ⟨bX, hbX⟩ : ∃ b, b = w7.heap.size := ⟨_, rfl⟩
  rw [← hbX] at kX
  rw [← hbX]
  clear hbX c8 g8 f0 f1 f2 hA6 hB6 hC6 hX7 hX6 hE7 hE78
  have P1 : rowB rX = true := HN.out.2.2.2.rowB (by rw [HX.out, show (joinRo rA rB).key = rA.key from rfl, HKA.out]; decide)
  have P2 : joinRo rB rA = rX := by rw [HX.out]; exact joinRo_comm (by rw [HKA.out, HKB.out]) HN.out.2.1.up HN.out.1.up
  have P3 : joinRo (joinRo rC rB) rA = joinRo rC rX := by rw [joinRo_assoc HN.out.2.2.1.up HN.out.2.1.up HN.out.1.up, P2]
  obtain ⟨rY, hrY⟩ : ∃ r, r = joinRo rC rB := ⟨_, rfl⟩
  obtain ⟨rZ, hrZ⟩ : ∃ r, r = joinRo rC rX := ⟨_, rfl⟩
  have hlY : rY.cols.length ≤ 4 := by rw [hrY]; exact (HN.out.2.2.1.join HN.out.2.1).len
  rw [← hrY, ← hrZ] at P3
  have HP1 := Lib.hid P1
  have HP2 := Lib.hid P2
  have HP3 := Lib.hid P3
  have HY := Lib.hid hrY
  have HZ := Lib.hid hrZ
  clear P1 P2 P3 hrY hrZ
  have hlow : ∀ k (h : k < rX.cols.length), Low (rX.cols[k]'h).name := low_get HN.out.2.2.2.low
  have HLOW := Lib.hid hlow
  clear hlow
  refine wp_region_tab 23 [(0, fun v _ => v = (.agg #[.string rX.key, .string rX.live.val, .bool rX.live.dead, .int .i64 rX.live.at_, .int .i64 rX.live.fin, .int .i64 rX.gone, .int .i64 rX.shade, (.slice aX rX.cols.length cX)])), (1, fun v _ => v = .bool true), (4, fun v _ => v = (.agg #[.string rX.key, .string rX.live.val, .bool rX.live.dead, .int .i64 rX.live.at_, .int .i64 rX.live.fin, .int .i64 rX.gone, .int .i64 rX.shade, (.slice aX rX.cols.length cX)])), (5, fun v _ => v = (.agg #[.string rB.key, .string rB.live.val, .bool rB.live.dead, .int .i64 rB.live.at_, .int .i64 rB.live.fin, .int .i64 rB.gone, .int .i64 rB.shade, (.slice aB rB.cols.length cB)])), (6, fun v _ => v = (.agg #[.string rA.key, .string rA.live.val, .bool rA.live.dead, .int .i64 rA.live.at_, .int .i64 rA.live.fin, .int .i64 rA.gone, .int .i64 rA.shade, (.slice aA rA.cols.length cA)])), (7, fun v x => ∃ v', v = (.agg #[.string rX.key, .string rX.live.val, .bool rX.live.dead, .int .i64 rX.live.at_, .int .i64 rX.live.fin, .int .i64 rX.gone, .int .i64 rX.shade, v']) ∧ ColsT x v' rX.cols), (8, fun v _ => v = .bool true), (12, fun v _ => v = (.agg #[.string rC.key, .string rC.live.val, .bool rC.live.dead, .int .i64 rC.live.at_, .int .i64 rC.live.fin, .int .i64 rC.gone, .int .i64 rC.shade, (.slice aC rC.cols.length cC)])), (13, fun v _ => v = (.agg #[.string rB.key, .string rB.live.val, .bool rB.live.dead, .int .i64 rB.live.at_, .int .i64 rB.live.fin, .int .i64 rB.gone, .int .i64 rB.shade, (.slice aB rB.cols.length cB)])), (14, fun v x => ∃ v', v = (.agg #[.string rY.key, .string rY.live.val, .bool rY.live.dead, .int .i64 rY.live.at_, .int .i64 rY.live.fin, .int .i64 rY.gone, .int .i64 rY.shade, v']) ∧ ColsT x v' rY.cols), (15, fun v _ => v = (.agg #[.string rA.key, .string rA.live.val, .bool rA.live.dead, .int .i64 rA.live.at_, .int .i64 rA.live.fin, .int .i64 rA.gone, .int .i64 rA.shade, (.slice aA rA.cols.length cA)])), (16, fun v x => ∃ v', v = (.agg #[.string rZ.key, .string rZ.live.val, .bool rZ.live.dead, .int .i64 rZ.live.at_, .int .i64 rZ.live.fin, .int .i64 rZ.gone, .int .i64 rZ.shade, v']) ∧ ColsT x v' rZ.cols), (17, fun v _ => v = (.agg #[.string rC.key, .string rC.live.val, .bool rC.live.dead, .int .i64 rC.live.at_, .int .i64 rC.live.fin, .int .i64 rC.gone, .int .i64 rC.shade, (.slice aC rC.cols.length cC)])), (18, fun v _ => v = (.agg #[.string rX.key, .string rX.live.val, .bool rX.live.dead, .int .i64 rX.live.at_, .int .i64 rX.live.fin, .int .i64 rX.gone, .int .i64 rX.shade, (.slice aX rX.cols.length cX)])), (19, fun v x => ∃ v', v = (.agg #[.string rZ.key, .string rZ.live.val, .bool rZ.live.dead, .int .i64 rZ.live.at_, .int .i64 rZ.live.fin, .int .i64 rZ.gone, .int .i64 rZ.shade, v']) ∧ ColsT x v' rZ.cols), (20, fun v _ => v = .bool true)] (by kernel_rfl) (by kernel_rfl) (by kernel_rfl) ⟨stays_eq _, stays_eq _, stays_eq _, stays_eq _, stays_eq _, stays_row _, stays_eq _, stays_eq _, stays_eq _, stays_row _, stays_eq _, stays_row _, stays_eq _, stays_eq _, stays_row _, stays_eq _, trivial⟩ ?_
  refine rg_val [] rfl rfl rfl (by kernel_rfl) (fun y hE hf => ?_) ?_
  · have q : ∀ i, y.cell? ⟨bX, i, none⟩ = (ro8 rX (.slice aX rX.cols.length cX))[i]? := fun i => (kX.ext hE).cell i
    go_simp
    exact rg_done hE (Ext.refl y) rfl
  simp only [Act.put, List.setIfInBounds_toArray, List.set_cons_zero, List.set_cons_succ]
  refine rg_val [] rfl rfl rfl (by kernel_rfl) (fun y hE hf => ?_) ?_
  · go_simp
    exact (rcheck_any rX _ y (ColsT.cols (tX.ext hE)) HLOW.out).mono fun e w' ⟨he, hw⟩ => ⟨_, he, rg_done hE hw (by rw [HP1.out])⟩
  simp only [Act.put, List.setIfInBounds_toArray, List.set_cons_zero, List.set_cons_succ]
  refine rg_quiet rfl rfl rfl rfl ?_; intro K hK; go_big_quiet_op; go_big_quiet_on
  refine rg_quiet rfl rfl rfl rfl ?_; intro K hK; go_big_quiet_op; go_big_quiet_on
  refine rg_val [] rfl rfl rfl (by kernel_rfl) (fun y hE hf => ?_) ?_
  · have q : ∀ i, y.cell? ⟨bX, i, none⟩ = (ro8 rX (.slice aX rX.cols.length cX))[i]? := fun i => (kX.ext hE).cell i
    go_simp
    exact rg_done hE (Ext.refl y) rfl
  simp only [Act.put, List.setIfInBounds_toArray, List.set_cons_zero, List.set_cons_succ]
  refine rg_val [] rfl rfl rfl (by kernel_rfl) (fun y hE hf => ?_) ?_
  · have q : ∀ i, y.cell? ⟨bB, i, none⟩ = (ro8 rB (.slice aB rB.cols.length cB))[i]? := fun i => (kB.ext hE).cell i
    go_simp
    exact rg_done hE (Ext.refl y) rfl
  simp only [Act.put, List.setIfInBounds_toArray, List.set_cons_zero, List.set_cons_succ]
  refine rg_val [] rfl rfl rfl (by kernel_rfl) (fun y hE hf => ?_) ?_
  · have q : ∀ i, y.cell? ⟨bA, i, none⟩ = (ro8 rA (.slice aA rA.cols.length cA))[i]? := fun i => (kA.ext hE).cell i
    go_simp
    exact rg_done hE (Ext.refl y) rfl
  simp only [Act.put, List.setIfInBounds_toArray, List.set_cons_zero, List.set_cons_succ]
  refine rg_fact [] rfl rfl rfl (by kernel_rfl) (fun y hE hf => ?_) (fun v7 y7 hE7 hG7 h7 => ?_)
  · go_simp
    refine (rowJoin_any rB rA _ _ y (ColsT.cols (tB.ext hE)) (ColsT.cols (tA.ext hE)) (by omega)).mono ?_
    rw [HP2.out]
    rintro e y' ⟨v', rfl, ho, hE'⟩
    exact ⟨_, rfl, rg_doneR hE hE' ⟨v', rfl, TIn.own ho⟩⟩
  obtain ⟨v7, rfl, h7⟩ := h7
  obtain ⟨a7, c7, rfl⟩ := TIn.shape h7
  clear hE7 hG7 h7
  simp only [Act.put, List.setIfInBounds_toArray, List.set_cons_zero, List.set_cons_succ]
  refine rg_val [7] rfl rfl rfl (by kernel_rfl) (fun y hE hf => ?_) ?_
  · obtain ⟨v', e, h1⟩ := (hf 7 (by simp)).2 rfl
    cases e
    go_simp
    exact (rowSame_any rX rX _ _ y (ColsT.cols (tX.ext hE)) h1.cols).mono fun e w' ⟨he, hw⟩ => ⟨_, he, rg_done hE hw (by rw [eqB_true rfl])⟩
  simp only [Act.put, List.setIfInBounds_toArray, List.set_cons_zero, List.set_cons_succ]
  refine rg_quiet rfl rfl rfl rfl ?_; intro K hK; go_big_quiet_op; go_big_quiet_on
  refine rg_quiet rfl rfl rfl rfl ?_; intro K hK; go_big_quiet_op; go_big_quiet_on
  refine rg_quiet rfl rfl rfl rfl ?_; intro K hK; go_big_quiet_op; go_big_quiet_on
  refine rg_val [] rfl rfl rfl (by kernel_rfl) (fun y hE hf => ?_) ?_
  · have q : ∀ i, y.cell? ⟨bC, i, none⟩ = (ro8 rC (.slice aC rC.cols.length cC))[i]? := fun i => (kC.ext hE).cell i
    go_simp
    exact rg_done hE (Ext.refl y) rfl
  simp only [Act.put, List.setIfInBounds_toArray, List.set_cons_zero, List.set_cons_succ]
  refine rg_val [] rfl rfl rfl (by kernel_rfl) (fun y hE hf => ?_) ?_
  · have q : ∀ i, y.cell? ⟨bB, i, none⟩ = (ro8 rB (.slice aB rB.cols.length cB))[i]? := fun i => (kB.ext hE).cell i
    go_simp
    exact rg_done hE (Ext.refl y) rfl
  simp only [Act.put, List.setIfInBounds_toArray, List.set_cons_zero, List.set_cons_succ]
  refine rg_fact [] rfl rfl rfl (by kernel_rfl) (fun y hE hf => ?_) (fun v14 y14 hE14 hG14 h14 => ?_)
  · go_simp
    refine (rowJoin_any rC rB _ _ y (ColsT.cols (tC.ext hE)) (ColsT.cols (tB.ext hE)) (by omega)).mono ?_
    rw [← HY.out]
    rintro e y' ⟨v', rfl, ho, hE'⟩
    exact ⟨_, rfl, rg_doneR hE hE' ⟨v', rfl, TIn.own ho⟩⟩
  obtain ⟨v14, rfl, h14⟩ := h14
  obtain ⟨a14, c14, rfl⟩ := TIn.shape h14
  clear hE14 hG14 h14
  simp only [Act.put, List.setIfInBounds_toArray, List.set_cons_zero, List.set_cons_succ]
  refine rg_val [] rfl rfl rfl (by kernel_rfl) (fun y hE hf => ?_) ?_
  · have q : ∀ i, y.cell? ⟨bA, i, none⟩ = (ro8 rA (.slice aA rA.cols.length cA))[i]? := fun i => (kA.ext hE).cell i
    go_simp
    exact rg_done hE (Ext.refl y) rfl
  simp only [Act.put, List.setIfInBounds_toArray, List.set_cons_zero, List.set_cons_succ]
  refine rg_fact [14] rfl rfl rfl (by kernel_rfl) (fun y hE hf => ?_) (fun v16 y16 hE16 hG16 h16 => ?_)
  · obtain ⟨v', e, h1⟩ := (hf 14 (by simp)).2 rfl
    cases e
    go_simp
    refine (rowJoin_any rY rA _ _ y h1.cols (ColsT.cols (tA.ext hE)) (by omega)).mono ?_
    rw [HP3.out]
    rintro e y' ⟨v', rfl, ho, hE'⟩
    exact ⟨_, rfl, rg_doneR hE hE' ⟨v', rfl, TIn.own ho⟩⟩
  obtain ⟨v16, rfl, h16⟩ := h16
  obtain ⟨a16, c16, rfl⟩ := TIn.shape h16
  clear hE16 hG16 h16
  simp only [Act.put, List.setIfInBounds_toArray, List.set_cons_zero, List.set_cons_succ]
  refine rg_val [] rfl rfl rfl (by kernel_rfl) (fun y hE hf => ?_) ?_
  · have q : ∀ i, y.cell? ⟨bC, i, none⟩ = (ro8 rC (.slice aC rC.cols.length cC))[i]? := fun i => (kC.ext hE).cell i
    go_simp
    exact rg_done hE (Ext.refl y) rfl
  simp only [Act.put, List.setIfInBounds_toArray, List.set_cons_zero, List.set_cons_succ]
  refine rg_val [] rfl rfl rfl (by kernel_rfl) (fun y hE hf => ?_) ?_
  · have q : ∀ i, y.cell? ⟨bX, i, none⟩ = (ro8 rX (.slice aX rX.cols.length cX))[i]? := fun i => (kX.ext hE).cell i
    go_simp
    exact rg_done hE (Ext.refl y) rfl
  simp only [Act.put, List.setIfInBounds_toArray, List.set_cons_zero, List.set_cons_succ]
  refine rg_fact [] rfl rfl rfl (by kernel_rfl) (fun y hE hf => ?_) (fun v19 y19 hE19 hG19 h19 => ?_)
  · go_simp
    refine (rowJoin_any rC rX _ _ y (ColsT.cols (tC.ext hE)) (ColsT.cols (tX.ext hE)) (by omega)).mono ?_
    rw [← HZ.out]
    rintro e y' ⟨v', rfl, ho, hE'⟩
    exact ⟨_, rfl, rg_doneR hE hE' ⟨v', rfl, TIn.own ho⟩⟩
  obtain ⟨v19, rfl, h19⟩ := h19
  obtain ⟨a19, c19, rfl⟩ := TIn.shape h19
  clear hE19 hG19 h19
  simp only [Act.put, List.setIfInBounds_toArray, List.set_cons_zero, List.set_cons_succ]
  refine rg_val [16, 19] rfl rfl rfl (by kernel_rfl) (fun y hE hf => ?_) ?_
  · obtain ⟨v', e, h1⟩ := (hf 16 (by simp)).1.2 rfl
    cases e
    obtain ⟨v', e, h2⟩ := (hf 19 (by simp)).2 rfl
    cases e
    go_simp
    exact (rowSame_any rZ rZ _ _ y h1.cols h2.cols).mono fun e w' ⟨he, hw⟩ => ⟨_, he, rg_done hE hw (by rw [eqB_true rfl])⟩
  simp only [Act.put, List.setIfInBounds_toArray, List.set_cons_zero, List.set_cons_succ]
  refine rg_quiet rfl rfl rfl rfl ?_; intro K hK; go_big_quiet_op; go_big_quiet_on
  refine rg_quiet rfl rfl rfl rfl ?_; intro K hK; go_big_quiet_op; go_big_quiet_on
  refine rel_nil fun w9 hE9 _ => ?_
  replace kX := kX.ext hE9
  replace kA := kA.ext hE9
  replace kB := kB.ext hE9
  replace tA := tA.ext hE9
  replace tB := tB.ext hE9
  replace tX := tX.ext hE9
  replace hX8 := hX8.trans hE9
  clear kC tC hE9
  go_wp2_with fail
  refine (place_any part 9 (by decide) (by decide) w9).mono ?_
  obtain ⟨g, hg⟩ : ∃ g, g = part % 9 := ⟨_, rfl⟩
  have hg0 : 0 ≤ g ∧ g < 9 := by omega
  rw [← hg]
  clear hg
  rintro e w10 ⟨rfl, rfl⟩
  go_wp2_with fail
  refine (names_any w9).mono ?_
  rintro e w10 ⟨rfl, hw10⟩
  have hE10 : Ext w9 w10 := by rw [hw10]; exact (Ext.refl w9).alloc _
  have kN : BoxAt w10 w9.heap.size nm4 9 := by rw [hw10]; exact BoxAt.made w9 _ _
  obtain ⟨bN, hbN⟩ : ∃ b, b = w9.heap.size := ⟨_, rfl⟩
  rw [← hbN] at kN
  rw [← hbN]
  replace kX := kX.ext hE10
  replace kA := kA.ext hE10
  replace kB := kB.ext hE10
  replace tA := tA.ext hE10
  replace tB := tB.ext hE10
  replace tX := tX.ext hE10
  replace hX8 := hX8.trans hE10
  clear hw10 hbN hE10
  obtain ⟨G, hG⟩ : ∃ G, G = max rX.gone g := ⟨_, rfl⟩
  have hG0 : 0 ≤ G := by omega
  have HG := Lib.hid hG
  clear hG
  go_wp2_with fail
  go_loopw [64] (fun i wr => ∃ k : Nat, k ≤ 4 ∧ i = .int .i64 k ∧ Ext w10 wr) (fun i _ => 4 - (intOf i).toNat)
  case atStart => exact ⟨0, by decide, rfl, Ext.refl _⟩
  case round =>
    obtain ⟨k, hk, rfl, hE⟩ := hrel
    have jX := kX.ext hE
    have yX : ∀ i, wr.cell? ⟨bX, i, none⟩ = (ro8 rX (.slice aX rX.cols.length cX))[i]? := fun i => jX.cell i
    by_cases hlt : k < 4
    · have t1 : decide ((k : Int) < (4 : Int)) = true := by simp; omega
      obtain ⟨nm, hnm⟩ : ∃ nm : ByteArray, nm4[k]? = some (.string nm) := by
        obtain rfl | rfl | rfl | rfl : k = 0 ∨ k = 1 ∨ k = 2 ∨ k = 3 := by omega
        all_goals exact ⟨_, rfl⟩
      have yN : wr.cell? ⟨bN, k, none⟩ = some (.string nm) := by rw [(kN.ext hE).cell k, hnm]
      obtain ⟨d, hd⟩ : ∃ d, d = bestC (cellOf rX.cols nm) G := ⟨_, rfl⟩
      obtain ⟨ok, hok⟩ : ∃ ok, ok = bestB (cellOf rX.cols nm) G := ⟨_, rfl⟩
      have hlaw := best_law (cellOf rX.cols nm) G hG0
      rw [← hd, ← hok] at hlaw
      have hcj := cell_joined HN.out.1.up HN.out.2.1.up (fun c hc => by have := (HN.out.1.cols c hc).2.2; omega) (fun c hc => by have := (HN.out.2.1.cols c hc).2.2; omega) nm
      rw [show mergeCo rA.cols rB.cols = rX.cols by rw [HX.out]; rfl] at hcj
      have HD := Lib.hid hd
      have HOK := Lib.hid hok
      have HLAW := Lib.hid hlaw
      have HCJ := Lib.hid hcj
      clear hd hok hlaw hcj hnm
      go_wp2_with fail
      refine (best_any rX _ g nm wr (ColsT.cols (tX.ext hE))).mono ?_
      rw [← HG.out, ← HD.out, ← HOK.out]
      rintro e w11 ⟨rfl, hE11⟩
      go_wp2_with (((guard_target =~ wpList _ _ _ (Oper.mk none (Op.store _ (Operand.tmp 15) (Operand.tmp 73)) _ _ _ _ :: _) _ _); go_must (refine storeBox rfl 23 (.tmp 15) (.tmp 73) rfl (w11.heap.size) _ _ _ (by rfl) (by rfl) ((BoxAt.made w11 (cl4 zeroCl) 23)) (by kernel_rfl) (by rfl) (by simp [Value.oneCell']) ?_); intro w12 c12 g12))
      have hE12 : Ext w11 w12 := ((Ext.refl w11).alloc _).grown g12 (fun q hq => by cases hq; omega)
      have lD : BoxAt w12 w11.heap.size (cl4 d) 23 := c12
      have hEr := hE.trans (hE11.trans hE12)
      clear c12 g12 yX jX yN hE11 hE12 t1
      obtain ⟨bD, hbD⟩ : ∃ b, b = w11.heap.size := ⟨_, rfl⟩
      rw [← hbD] at lD
      rw [← hbD]
      clear hbD
      have hcase : Hid (ok = decide (0 < d.at_)) := HLAW.out.1
      cases hokb : ok with
      | false =>
        have hdz : decide (0 < d.at_) = false := by rw [← hcase.out]; exact hokb
        obtain ⟨x0, x1, x2, x3⟩ := lD.cl
        refine wp_region_tab 20 [] (by kernel_rfl) (by kernel_rfl) (by kernel_rfl) trivial ?_
        replace x1 := held x1
        replace x2 := held x2
        refine rg_quiet rfl rfl rfl rfl ?_; intro K hK; go_big_quiet_op; go_big_quiet_on
        refine rg_quiet rfl rfl rfl rfl ?_; intro K hK; go_big_quiet_op; go_big_quiet_on
        refine rg_quiet rfl rfl rfl rfl ?_; intro K hK; go_big_quiet_op; go_big_quiet_on
        refine rg_quiet rfl rfl rfl rfl ?_; intro K hK; go_big_quiet_op; go_big_quiet_on
        refine rg_quiet rfl rfl rfl rfl ?_; intro K hK; go_big_quiet_op; go_big_quiet_on
        refine rg_quiet rfl rfl rfl rfl ?_; intro K hK; go_big_quiet_op; go_big_quiet_on
        refine rg_quiet rfl rfl rfl rfl ?_; intro K hK; go_big_quiet_op; go_big_quiet_on
        refine rg_quiet rfl rfl rfl rfl ?_; intro K hK; go_big_quiet_op; go_big_quiet_on
        refine rel_skip rfl rfl ?_
        simp only [Act.put, List.setIfInBounds_toArray, List.set_cons_zero, List.set_cons_succ]
        refine rel_skip rfl rfl ?_
        simp only [Act.put, List.setIfInBounds_toArray, List.set_cons_zero, List.set_cons_succ]
        refine rel_skip rfl rfl ?_
        simp only [Act.put, List.setIfInBounds_toArray, List.set_cons_zero, List.set_cons_succ]
        refine rel_skip rfl rfl ?_
        simp only [Act.put, List.setIfInBounds_toArray, List.set_cons_zero, List.set_cons_succ]
        refine rel_skip rfl rfl ?_
        simp only [Act.put, List.setIfInBounds_toArray, List.set_cons_zero, List.set_cons_succ]
        refine rel_skip rfl rfl ?_
        simp only [Act.put, List.setIfInBounds_toArray, List.set_cons_zero, List.set_cons_succ]
        refine rel_skip rfl rfl ?_
        simp only [Act.put, List.setIfInBounds_toArray, List.set_cons_zero, List.set_cons_succ]
        refine rel_skip rfl rfl ?_
        simp only [Act.put, List.setIfInBounds_toArray, List.set_cons_zero, List.set_cons_succ]
        refine rel_skip rfl rfl ?_
        simp only [Act.put, List.setIfInBounds_toArray, List.set_cons_zero, List.set_cons_succ]
        refine rel_skip rfl rfl ?_
        simp only [Act.put, List.setIfInBounds_toArray, List.set_cons_zero, List.set_cons_succ]
        refine rg_quiet rfl rfl rfl rfl ?_; intro K hK; go_big_quiet_op; go_big_quiet_on
        refine rg_quiet rfl rfl rfl rfl ?_; intro K hK; go_big_quiet_op; go_big_quiet_on
        refine rel_nil fun w13 hE13 _ => ?_
        clear x0 x1 x2 x3 hdz hokb
        go_wp2_with fail
        have hE15 := hEr.trans hE13
        have jA := kA.ext hE15
        have jB := kB.ext hE15
        have jX := kX.ext hE15
        have sA := tA.ext hE15
        have sB := tB.ext hE15
        have sX := tX.ext hE15
        obtain ⟨p, hp⟩ : ∃ p, p = cellOf rA.cols nm := ⟨_, rfl⟩
        obtain ⟨q, hq⟩ : ∃ p, p = cellOf rB.cols nm := ⟨_, rfl⟩
        obtain ⟨m, hm⟩ : ∃ p, p = cellOf rX.cols nm := ⟨_, rfl⟩
        have hcj : p.at_ ≤ m.at_ ∧ q.at_ ≤ m.at_ ∧ (m = p ∨ m = q) := by rw [hp, hq, hm]; exact HCJ.out
        have HPc := Lib.hid hp
        have HQc := Lib.hid hq
        have HMc := Lib.hid hm
        clear hp hq hm
        refine wp_region_relD [(9, 17), (10, 18), (11, 19)] (fun x => Ext w13 x) (fun _ => Ext) (Tab.atE [(0, fun v _ => v = (.agg #[.string rA.key, .string rA.live.val, .bool rA.live.dead, .int .i64 rA.live.at_, .int .i64 rA.live.fin, .int .i64 rA.gone, .int .i64 rA.shade, (.slice aA rA.cols.length cA)])), (2, fun v _ => v = (.agg #[.string p.val, .bool p.dead, .int .i64 p.at_, .int .i64 p.fin])), (3, fun v _ => v = (.agg #[.string rB.key, .string rB.live.val, .bool rB.live.dead, .int .i64 rB.live.at_, .int .i64 rB.live.fin, .int .i64 rB.gone, .int .i64 rB.shade, (.slice aB rB.cols.length cB)])), (5, fun v _ => v = (.agg #[.string q.val, .bool q.dead, .int .i64 q.at_, .int .i64 q.fin])), (6, fun v _ => v = (.agg #[.string rX.key, .string rX.live.val, .bool rX.live.dead, .int .i64 rX.live.at_, .int .i64 rX.live.fin, .int .i64 rX.gone, .int .i64 rX.shade, (.slice aX rX.cols.length cX)])), (8, fun v _ => v = (.agg #[.string m.val, .bool m.dead, .int .i64 m.at_, .int .i64 m.fin])), (9, fun v x => ∃ b, v = .pointer (some ⟨b, 0, none⟩) ∧ w13.heap.size ≤ b ∧ BoxAt x b (cl4 zeroCl) 23), (10, fun v x => ∃ b, v = .pointer (some ⟨b, 0, none⟩) ∧ w13.heap.size ≤ b ∧ BoxAt x b (cl4 zeroCl) 23), (11, fun v x => ∃ b, v = .pointer (some ⟨b, 0, none⟩) ∧ w13.heap.size ≤ b ∧ BoxAt x b (cl4 zeroCl) 23)])
          (Tab.staysE ⟨fun _ _ _ _ _ _ h => h, fun _ _ _ _ _ _ h => h, fun _ _ _ _ _ _ h => h, fun _ _ _ _ _ _ h => h, fun _ _ _ _ _ _ h => h, fun _ _ _ _ _ _ h => h, fun _ _ _ _ _ hR ⟨b, e, hb, hx⟩ => ⟨b, e, hb, hx.ext hR⟩, fun _ _ _ _ _ hR ⟨b, e, hb, hx⟩ => ⟨b, e, hb, hx.ext hR⟩, fun _ _ _ _ _ hR ⟨b, e, hb, hx⟩ => ⟨b, e, hb, hx.ext hR⟩, trivial⟩)
          (fun _ _ _ h => h.le) 12 (AlOK.of (T := 23) (i := (Tryd.prog.info? 23).get!) (z := .agg (cl4 zeroCl)) (by kernel_rfl) (by kernel_rfl) (by kernel_rfl)) (by intro p hp; simp at hp; rcases hp with rfl | rfl | rfl <;> exact nofun) (by decide) (by intro p hp; simp at hp; rcases hp with rfl | rfl | rfl <;> simp) (by kernel_rfl) (by kernel_rfl) (by kernel_rfl) (by kernel_rfl) (Ext.refl w13).drew ?_
        refine relE_val [] rfl rfl rfl (by kernel_rfl) (fun y hE hf => ?_) ?_
        · have q : ∀ i, y.cell? ⟨bA, i, none⟩ = (ro8 rA (.slice aA rA.cols.length cA))[i]? := fun i => (jA.ext hE).cell i
          go_simp
          exact ⟨hE, Ext.refl y, rfl⟩
        simp only [Act.put, List.setIfInBounds_toArray, List.set_cons_zero, List.set_cons_succ]
        refine relE_quiet rfl rfl rfl rfl ?_; intro K hK; go_big_quiet_op; (first | refine ⟨_, fun _ _ => rfl, hK _ ?_⟩ | refine hK _ ?_); clear hK K
        refine relE_val [] rfl rfl rfl (by kernel_rfl) (fun y hE hf => ?_) ?_
        · go_simp
          refine (rcell_any rA _ nm y (ColsT.cols (sA.ext hE))).mono ?_
          rw [← HPc.out]
          exact fun e w' ⟨he, hw⟩ => ⟨_, he, hE.trans hw, hw, rfl⟩
        simp only [Act.put, List.setIfInBounds_toArray, List.set_cons_zero, List.set_cons_succ]
        refine relE_val [] rfl rfl rfl (by kernel_rfl) (fun y hE hf => ?_) ?_
        · have q : ∀ i, y.cell? ⟨bB, i, none⟩ = (ro8 rB (.slice aB rB.cols.length cB))[i]? := fun i => (jB.ext hE).cell i
          go_simp
          exact ⟨hE, Ext.refl y, rfl⟩
        simp only [Act.put, List.setIfInBounds_toArray, List.set_cons_zero, List.set_cons_succ]
        refine relE_quiet rfl rfl rfl rfl ?_; intro K hK; go_big_quiet_op; (first | refine ⟨_, fun _ _ => rfl, hK _ ?_⟩ | refine hK _ ?_); clear hK K
        refine relE_val [] rfl rfl rfl (by kernel_rfl) (fun y hE hf => ?_) ?_
        · go_simp
          refine (rcell_any rB _ nm y (ColsT.cols (sB.ext hE))).mono ?_
          rw [← HQc.out]
          exact fun e w' ⟨he, hw⟩ => ⟨_, he, hE.trans hw, hw, rfl⟩
        simp only [Act.put, List.setIfInBounds_toArray, List.set_cons_zero, List.set_cons_succ]
        refine relE_val [] rfl rfl rfl (by kernel_rfl) (fun y hE hf => ?_) ?_
        · have q : ∀ i, y.cell? ⟨bX, i, none⟩ = (ro8 rX (.slice aX rX.cols.length cX))[i]? := fun i => (jX.ext hE).cell i
          go_simp
          exact ⟨hE, Ext.refl y, rfl⟩
        simp only [Act.put, List.setIfInBounds_toArray, List.set_cons_zero, List.set_cons_succ]
        refine relE_quiet rfl rfl rfl rfl ?_; intro K hK; go_big_quiet_op; (first | refine ⟨_, fun _ _ => rfl, hK _ ?_⟩ | refine hK _ ?_); clear hK K
        refine relE_val [] rfl rfl rfl (by kernel_rfl) (fun y hE hf => ?_) ?_
        · go_simp
          refine (rcell_any rX _ nm y (ColsT.cols (sX.ext hE))).mono ?_
          rw [← HMc.out]
          exact fun e w' ⟨he, hw⟩ => ⟨_, he, hE.trans hw, hw, rfl⟩
        simp only [Act.put, List.setIfInBounds_toArray, List.set_cons_zero, List.set_cons_succ]
        refine relE_fact [] rfl rfl rfl (by kernel_rfl) (fun y hE hf => ?_) (fun v17 y17 hE17 hG17 h17 => ?_)
        · go_simp
          exact ⟨hE.trans ((Ext.refl y).alloc _), (Ext.refl y).alloc _, _, rfl, hE.le, BoxAt.made y _ _⟩
        obtain ⟨b17, rfl, _⟩ := h17
        clear hE17 hG17
        simp only [Act.put, List.setIfInBounds_toArray, List.set_cons_zero, List.set_cons_succ]
        refine relE_fact [] rfl rfl rfl (by kernel_rfl) (fun y hE hf => ?_) (fun v18 y18 hE18 hG18 h18 => ?_)
        · go_simp
          exact ⟨hE.trans ((Ext.refl y).alloc _), (Ext.refl y).alloc _, _, rfl, hE.le, BoxAt.made y _ _⟩
        obtain ⟨b18, rfl, _⟩ := h18
        clear hE18 hG18
        simp only [Act.put, List.setIfInBounds_toArray, List.set_cons_zero, List.set_cons_succ]
        refine relE_fact [] rfl rfl rfl (by kernel_rfl) (fun y hE hf => ?_) (fun v19 y19 hE19 hG19 h19 => ?_)
        · go_simp
          exact ⟨hE.trans ((Ext.refl y).alloc _), (Ext.refl y).alloc _, _, rfl, hE.le, BoxAt.made y _ _⟩
        obtain ⟨b19, rfl, _⟩ := h19
        clear hE19 hG19
        simp only [Act.put, List.setIfInBounds_toArray, List.set_cons_zero, List.set_cons_succ]
        refine relE_tail rfl rfl fun w15 hC hG => ?_
        obtain ⟨b17', e17, hb17, hx17⟩ := (hG 9).1.1.2 rfl
        obtain ⟨b18', e18, hb18, hx18⟩ := (hG 10).1.2 rfl
        obtain ⟨b19', e19, hb19, hx19⟩ := (hG 11).2 rfl
        cases e17
        cases e18
        cases e19
        clear hG
        have hnp : ¬ m.at_ < p.at_ := by omega
        have hnq : ¬ m.at_ < q.at_ := by omega
        have hor := hcj.2.2
        have HOR := Lib.hid hor
        clear hcj hor
        go_wp2_with (first
          | (((guard_target =~ wpList _ _ _ (Oper.mk none (Op.store _ (Operand.tmp 17) (Operand.tmp 97)) _ _ _ _ :: _) _ _); go_must (refine storeBox rfl 23 (.tmp 17) (.tmp 97) rfl (b17) _ _ _ (by rfl) (by rfl) (hx17) (by kernel_rfl) (by rfl) (by simp [Value.oneCell']) ?_); intro w16 c16 g16); have m17 : BoxAt w16 b17 (cl4 p) 23 := c16; obtain ⟨Z18, hy18, hZ18⟩ := box_some (m := 4) g16 m17 (by rfl) hx18 (by rfl); obtain ⟨Z19, hy19, hZ19⟩ := box_some (m := 4) g16 m17 (by rfl) hx19 (by rfl); have hE16 : Ext w13 w16 := Ext.grown hC g16 (fun q hq => by cases hq; omega))
          | ((guard_target =~ wpList _ _ _ (Oper.mk none (Op.store _ (Operand.tmp 18) (Operand.tmp 100)) _ _ _ _ :: _) _ _); go_must (refine storeBox rfl 23 (.tmp 18) (.tmp 100) rfl b18 (cl4 q) _ _ (by rfl) (by rfl) hy18 (by kernel_rfl) hZ18 (by simp [cl4, Value.oneCell']) ?_); intro w17 c17 g17; have m18 : BoxAt w17 b18 (cl4 q) 23 := c17; have m17b : b17 ≠ b18 → BoxAt w17 b17 (cl4 p) 23 := (fun hne => m17.grown g17 (fun e => hne (Option.some.inj e))); obtain ⟨Z19b, hz19, hZ19b⟩ := box_some (m := 4) g17 m18 (by rfl) hy19 hZ19; have hE17 : Ext w13 w17 := Ext.grown hE16 g17 (fun q hq => by cases hq; omega))
          | ((guard_target =~ wpList _ _ _ (Oper.mk none (Op.store _ (Operand.tmp 19) (Operand.tmp 103)) _ _ _ _ :: _) _ _); go_must (refine storeBox rfl 23 (.tmp 19) (.tmp 103) rfl b19 (cl4 m) _ _ (by rfl) (by rfl) hz19 (by kernel_rfl) hZ19b (by simp [cl4, Value.oneCell']) ?_); intro w18 c18 g18; have m19 : BoxAt w18 b19 (cl4 m) 23 := c18; have m18b : b18 ≠ b19 → BoxAt w18 b18 (cl4 q) 23 := (fun hne => m18.grown g18 (fun e => hne (Option.some.inj e))); have m17c : b17 ≠ b18 → b17 ≠ b19 → BoxAt w18 b17 (cl4 p) 23 := (fun hne hne2 => (m17b hne).grown g18 (fun e => hne2 (Option.some.inj e))); have hE18 : Ext w13 w18 := Ext.grown hE17 g18 (fun q hq => by cases hq; omega)))
        refine (fun hap => ?_ : Apart _ _ → _)
        have h78 : b17 ≠ b18 := fun e => hap (9, 17) (by simp) (10, 18) (by simp) (by decide) (by show Value.pointer (some ⟨b17, 0, none⟩) = Value.pointer (some ⟨b18, 0, none⟩); rw [e])
        have h79 : b17 ≠ b19 := fun e => hap (9, 17) (by simp) (11, 19) (by simp) (by decide) (by show Value.pointer (some ⟨b17, 0, none⟩) = Value.pointer (some ⟨b19, 0, none⟩); rw [e])
        have h89 : b18 ≠ b19 := fun e => hap (10, 18) (by simp) (11, 19) (by simp) (by decide) (by show Value.pointer (some ⟨b18, 0, none⟩) = Value.pointer (some ⟨b19, 0, none⟩); rw [e])
        have n17 := m17c h78 h79
        have n18 := m18b h89
        obtain ⟨x0, x1, x2, x3⟩ := n17.cl
        obtain ⟨y0, y1, y2, y3⟩ := n18.cl
        obtain ⟨z0, z1, z2, z3⟩ := m19.cl
        replace hE18 := hE15.trans hE18
        clear hap h78 h79 h89 m17 m17b m17c m18 m18b hE16 hE17 hx17 hx18 hx19 hy18 hy19 hz19 c16 g16 c17 g17 c18 g18 hC hb17 hb18 hb19 jA jB jX sA sB sX
        go_wp2_with fail
        refine (rsame_c m.val m.dead m.at_ m.fin p.val p.dead p.at_ p.fin w18).mono ?_
        obtain ⟨s, hs⟩ : ∃ s, s = sameCl m p := ⟨_, rfl⟩
        rw [show sameCl ⟨m.val, m.dead, m.at_, m.fin⟩ ⟨p.val, p.dead, p.at_, p.fin⟩ = s from hs.symm]
        have HS := Lib.hid hs
        clear hs
        rintro e w19 ⟨rfl, hE19⟩
        cases hsb : s with
        | true =>
          go_wp2_with fail
          go_roundw
          case rel => exact ⟨k + 1, by omega, by go_num, hE18.trans hE19⟩
          case measure => simp [intOf]; omega
        | false =>
          have hmq : m = q := by
            rcases HOR.out with e | e
            · have h1 := HS.out
              rw [hsb, e, sameCl_self] at h1
              cases h1
            · exact e
          obtain ⟨y0, y1, y2, y3⟩ := (n18.ext hE19).cl
          obtain ⟨z0, z1, z2, z3⟩ := (m19.ext hE19).cl
          have HMQ := Lib.hid hmq
          clear hmq hsb
          go_wp2_with fail
          refine (rsame_c m.val m.dead m.at_ m.fin q.val q.dead q.at_ q.fin w19).mono ?_
          rw [show sameCl ⟨m.val, m.dead, m.at_, m.fin⟩ ⟨q.val, q.dead, q.at_, q.fin⟩ = true by rw [HMQ.out]; exact sameCl_self q]
          rintro e w20 ⟨rfl, hE20⟩
          go_wp2_with fail
          go_roundw
          case rel => exact ⟨k + 1, by omega, by go_num, (hE18.trans hE19).trans hE20⟩
          case measure => simp [intOf]; omega
      | true =>
        have hdz : decide (0 < d.at_) = true := by rw [← hcase.out]; exact hokb
        obtain ⟨hd1, hd2⟩ := HLAW.out.2 hokb
        have hdg : decide (d.at_ ≤ G) = false := by simp; omega
        obtain ⟨x0, x1, x2, x3⟩ := lD.cl
        rw [hd2] at x1
        refine wp_region_tab 20 [(10, fun v _ => v = (.agg #[.string rX.key, .string rX.live.val, .bool rX.live.dead, .int .i64 rX.live.at_, .int .i64 rX.live.fin, .int .i64 rX.gone, .int .i64 rX.shade, (.slice aX rX.cols.length cX)])), (12, fun v _ => v = .int .i64 G)] (by kernel_rfl) (by kernel_rfl) (by kernel_rfl) ⟨stays_eq _, stays_eq _, trivial⟩ ?_
        replace x1 := held x1
        replace x2 := held x2
        have kXr := kX.ext hEr
        refine rg_quiet rfl rfl rfl rfl ?_; intro K hK; go_big_quiet_op; go_big_quiet_on
        refine rg_quiet rfl rfl rfl rfl ?_; intro K hK; go_big_quiet_op; go_big_quiet_on
        refine rg_quiet rfl rfl rfl rfl ?_; intro K hK; go_big_quiet_op; go_big_quiet_on
        refine rg_quiet rfl rfl rfl rfl ?_; intro K hK; go_big_quiet_op; go_big_quiet_on
        refine rg_quiet rfl rfl rfl rfl ?_; intro K hK; go_big_quiet_op; go_big_quiet_on
        refine rg_quiet rfl rfl rfl rfl ?_; intro K hK; go_big_quiet_op; go_big_quiet_on
        refine rg_quiet rfl rfl rfl rfl ?_; intro K hK; go_big_quiet_op; go_big_quiet_on
        refine rg_quiet rfl rfl rfl rfl ?_; intro K hK; go_big_quiet_op; go_big_quiet_on
        refine rg_quiet rfl rfl rfl rfl ?_; intro K hK; go_big_quiet_op; go_big_quiet_on
        refine rg_quiet rfl rfl rfl rfl ?_; intro K hK; go_big_quiet_op; go_big_quiet_on
        refine rg_val [] rfl rfl rfl (by kernel_rfl) (fun y hE hf => ?_) ?_
        · have q : ∀ i, y.cell? ⟨bX, i, none⟩ = (ro8 rX (.slice aX rX.cols.length cX))[i]? := fun i => (kXr.ext hE).cell i
          go_simp
          exact rg_done hE (Ext.refl y) rfl
        simp only [Act.put, List.setIfInBounds_toArray, List.set_cons_zero, List.set_cons_succ]
        refine rg_quiet rfl rfl rfl rfl ?_; intro K hK; go_big_quiet_op; go_big_quiet_on
        refine rg_val [] rfl rfl rfl (by kernel_rfl) (fun y hE hf => ?_) ?_
        · go_simp
          exact (rgone_any rX _ g y).mono fun e w' ⟨he, hw⟩ => ⟨_, he, rg_done hE hw (by rw [HG.out])⟩
        simp only [Act.put, List.setIfInBounds_toArray, List.set_cons_zero, List.set_cons_succ]
        refine rg_quiet rfl rfl rfl rfl ?_; intro K hK; go_big_quiet_op; go_big_quiet_on
        refine rg_quiet rfl rfl rfl rfl ?_; intro K hK; go_big_quiet_op; go_big_quiet_on
        refine rg_quiet rfl rfl rfl rfl ?_; intro K hK; go_big_quiet_op; go_big_quiet_on
        refine rg_quiet rfl rfl rfl rfl ?_; intro K hK; go_big_quiet_op; go_big_quiet_on
        refine rg_quiet rfl rfl rfl rfl ?_; intro K hK; go_big_quiet_op; go_big_quiet_on
        refine rg_quiet rfl rfl rfl rfl ?_; intro K hK; go_big_quiet_op; go_big_quiet_on
        refine rg_quiet rfl rfl rfl rfl ?_; intro K hK; go_big_quiet_op; go_big_quiet_on
        refine rel_nil fun w13 hE13 _ => ?_
        clear x0 x1 x2 x3 hdz hdg hd1 hd2 hokb kXr
        go_wp2_with fail
        have hE15 := hEr.trans hE13
        have jA := kA.ext hE15
        have jB := kB.ext hE15
        have jX := kX.ext hE15
        have sA := tA.ext hE15
        have sB := tB.ext hE15
        have sX := tX.ext hE15
        obtain ⟨p, hp⟩ : ∃ p, p = cellOf rA.cols nm := ⟨_, rfl⟩
        obtain ⟨q, hq⟩ : ∃ p, p = cellOf rB.cols nm := ⟨_, rfl⟩
        obtain ⟨m, hm⟩ : ∃ p, p = cellOf rX.cols nm := ⟨_, rfl⟩
        have hcj : p.at_ ≤ m.at_ ∧ q.at_ ≤ m.at_ ∧ (m = p ∨ m = q) := by rw [hp, hq, hm]; exact HCJ.out
        have HPc := Lib.hid hp
        have HQc := Lib.hid hq
        have HMc := Lib.hid hm
        clear hp hq hm
        refine wp_region_relD [(9, 17), (10, 18), (11, 19)] (fun x => Ext w13 x) (fun _ => Ext) (Tab.atE [(0, fun v _ => v = (.agg #[.string rA.key, .string rA.live.val, .bool rA.live.dead, .int .i64 rA.live.at_, .int .i64 rA.live.fin, .int .i64 rA.gone, .int .i64 rA.shade, (.slice aA rA.cols.length cA)])), (2, fun v _ => v = (.agg #[.string p.val, .bool p.dead, .int .i64 p.at_, .int .i64 p.fin])), (3, fun v _ => v = (.agg #[.string rB.key, .string rB.live.val, .bool rB.live.dead, .int .i64 rB.live.at_, .int .i64 rB.live.fin, .int .i64 rB.gone, .int .i64 rB.shade, (.slice aB rB.cols.length cB)])), (5, fun v _ => v = (.agg #[.string q.val, .bool q.dead, .int .i64 q.at_, .int .i64 q.fin])), (6, fun v _ => v = (.agg #[.string rX.key, .string rX.live.val, .bool rX.live.dead, .int .i64 rX.live.at_, .int .i64 rX.live.fin, .int .i64 rX.gone, .int .i64 rX.shade, (.slice aX rX.cols.length cX)])), (8, fun v _ => v = (.agg #[.string m.val, .bool m.dead, .int .i64 m.at_, .int .i64 m.fin])), (9, fun v x => ∃ b, v = .pointer (some ⟨b, 0, none⟩) ∧ w13.heap.size ≤ b ∧ BoxAt x b (cl4 zeroCl) 23), (10, fun v x => ∃ b, v = .pointer (some ⟨b, 0, none⟩) ∧ w13.heap.size ≤ b ∧ BoxAt x b (cl4 zeroCl) 23), (11, fun v x => ∃ b, v = .pointer (some ⟨b, 0, none⟩) ∧ w13.heap.size ≤ b ∧ BoxAt x b (cl4 zeroCl) 23)])
          (Tab.staysE ⟨fun _ _ _ _ _ _ h => h, fun _ _ _ _ _ _ h => h, fun _ _ _ _ _ _ h => h, fun _ _ _ _ _ _ h => h, fun _ _ _ _ _ _ h => h, fun _ _ _ _ _ _ h => h, fun _ _ _ _ _ hR ⟨b, e, hb, hx⟩ => ⟨b, e, hb, hx.ext hR⟩, fun _ _ _ _ _ hR ⟨b, e, hb, hx⟩ => ⟨b, e, hb, hx.ext hR⟩, fun _ _ _ _ _ hR ⟨b, e, hb, hx⟩ => ⟨b, e, hb, hx.ext hR⟩, trivial⟩)
          (fun _ _ _ h => h.le) 12 (AlOK.of (T := 23) (i := (Tryd.prog.info? 23).get!) (z := .agg (cl4 zeroCl)) (by kernel_rfl) (by kernel_rfl) (by kernel_rfl)) (by intro p hp; simp at hp; rcases hp with rfl | rfl | rfl <;> exact nofun) (by decide) (by intro p hp; simp at hp; rcases hp with rfl | rfl | rfl <;> simp) (by kernel_rfl) (by kernel_rfl) (by kernel_rfl) (by kernel_rfl) (Ext.refl w13).drew ?_
        refine relE_val [] rfl rfl rfl (by kernel_rfl) (fun y hE hf => ?_) ?_
        · have q : ∀ i, y.cell? ⟨bA, i, none⟩ = (ro8 rA (.slice aA rA.cols.length cA))[i]? := fun i => (jA.ext hE).cell i
          go_simp
          exact ⟨hE, Ext.refl y, rfl⟩
        simp only [Act.put, List.setIfInBounds_toArray, List.set_cons_zero, List.set_cons_succ]
        refine relE_quiet rfl rfl rfl rfl ?_; intro K hK; go_big_quiet_op; (first | refine ⟨_, fun _ _ => rfl, hK _ ?_⟩ | refine hK _ ?_); clear hK K
        refine relE_val [] rfl rfl rfl (by kernel_rfl) (fun y hE hf => ?_) ?_
        · go_simp
          refine (rcell_any rA _ nm y (ColsT.cols (sA.ext hE))).mono ?_
          rw [← HPc.out]
          exact fun e w' ⟨he, hw⟩ => ⟨_, he, hE.trans hw, hw, rfl⟩
        simp only [Act.put, List.setIfInBounds_toArray, List.set_cons_zero, List.set_cons_succ]
        refine relE_val [] rfl rfl rfl (by kernel_rfl) (fun y hE hf => ?_) ?_
        · have q : ∀ i, y.cell? ⟨bB, i, none⟩ = (ro8 rB (.slice aB rB.cols.length cB))[i]? := fun i => (jB.ext hE).cell i
          go_simp
          exact ⟨hE, Ext.refl y, rfl⟩
        simp only [Act.put, List.setIfInBounds_toArray, List.set_cons_zero, List.set_cons_succ]
        refine relE_quiet rfl rfl rfl rfl ?_; intro K hK; go_big_quiet_op; (first | refine ⟨_, fun _ _ => rfl, hK _ ?_⟩ | refine hK _ ?_); clear hK K
        refine relE_val [] rfl rfl rfl (by kernel_rfl) (fun y hE hf => ?_) ?_
        · go_simp
          refine (rcell_any rB _ nm y (ColsT.cols (sB.ext hE))).mono ?_
          rw [← HQc.out]
          exact fun e w' ⟨he, hw⟩ => ⟨_, he, hE.trans hw, hw, rfl⟩
        simp only [Act.put, List.setIfInBounds_toArray, List.set_cons_zero, List.set_cons_succ]
        refine relE_val [] rfl rfl rfl (by kernel_rfl) (fun y hE hf => ?_) ?_
        · have q : ∀ i, y.cell? ⟨bX, i, none⟩ = (ro8 rX (.slice aX rX.cols.length cX))[i]? := fun i => (jX.ext hE).cell i
          go_simp
          exact ⟨hE, Ext.refl y, rfl⟩
        simp only [Act.put, List.setIfInBounds_toArray, List.set_cons_zero, List.set_cons_succ]
        refine relE_quiet rfl rfl rfl rfl ?_; intro K hK; go_big_quiet_op; (first | refine ⟨_, fun _ _ => rfl, hK _ ?_⟩ | refine hK _ ?_); clear hK K
        refine relE_val [] rfl rfl rfl (by kernel_rfl) (fun y hE hf => ?_) ?_
        · go_simp
          refine (rcell_any rX _ nm y (ColsT.cols (sX.ext hE))).mono ?_
          rw [← HMc.out]
          exact fun e w' ⟨he, hw⟩ => ⟨_, he, hE.trans hw, hw, rfl⟩
        simp only [Act.put, List.setIfInBounds_toArray, List.set_cons_zero, List.set_cons_succ]
        refine relE_fact [] rfl rfl rfl (by kernel_rfl) (fun y hE hf => ?_) (fun v17 y17 hE17 hG17 h17 => ?_)
        · go_simp
          exact ⟨hE.trans ((Ext.refl y).alloc _), (Ext.refl y).alloc _, _, rfl, hE.le, BoxAt.made y _ _⟩
        obtain ⟨b17, rfl, _⟩ := h17
        clear hE17 hG17
        simp only [Act.put, List.setIfInBounds_toArray, List.set_cons_zero, List.set_cons_succ]
        refine relE_fact [] rfl rfl rfl (by kernel_rfl) (fun y hE hf => ?_) (fun v18 y18 hE18 hG18 h18 => ?_)
        · go_simp
          exact ⟨hE.trans ((Ext.refl y).alloc _), (Ext.refl y).alloc _, _, rfl, hE.le, BoxAt.made y _ _⟩
        obtain ⟨b18, rfl, _⟩ := h18
        clear hE18 hG18
        simp only [Act.put, List.setIfInBounds_toArray, List.set_cons_zero, List.set_cons_succ]
        refine relE_fact [] rfl rfl rfl (by kernel_rfl) (fun y hE hf => ?_) (fun v19 y19 hE19 hG19 h19 => ?_)
        · go_simp
          exact ⟨hE.trans ((Ext.refl y).alloc _), (Ext.refl y).alloc _, _, rfl, hE.le, BoxAt.made y _ _⟩
        obtain ⟨b19, rfl, _⟩ := h19
        clear hE19 hG19
        simp only [Act.put, List.setIfInBounds_toArray, List.set_cons_zero, List.set_cons_succ]
        refine relE_tail rfl rfl fun w15 hC hG => ?_
        obtain ⟨b17', e17, hb17, hx17⟩ := (hG 9).1.1.2 rfl
        obtain ⟨b18', e18, hb18, hx18⟩ := (hG 10).1.2 rfl
        obtain ⟨b19', e19, hb19, hx19⟩ := (hG 11).2 rfl
        cases e17
        cases e18
        cases e19
        clear hG
        have hnp : ¬ m.at_ < p.at_ := by omega
        have hnq : ¬ m.at_ < q.at_ := by omega
        have hor := hcj.2.2
        have HOR := Lib.hid hor
        clear hcj hor
        go_wp2_with (first
          | (((guard_target =~ wpList _ _ _ (Oper.mk none (Op.store _ (Operand.tmp 17) (Operand.tmp 97)) _ _ _ _ :: _) _ _); go_must (refine storeBox rfl 23 (.tmp 17) (.tmp 97) rfl (b17) _ _ _ (by rfl) (by rfl) (hx17) (by kernel_rfl) (by rfl) (by simp [Value.oneCell']) ?_); intro w16 c16 g16); have m17 : BoxAt w16 b17 (cl4 p) 23 := c16; obtain ⟨Z18, hy18, hZ18⟩ := box_some (m := 4) g16 m17 (by rfl) hx18 (by rfl); obtain ⟨Z19, hy19, hZ19⟩ := box_some (m := 4) g16 m17 (by rfl) hx19 (by rfl); have hE16 : Ext w13 w16 := Ext.grown hC g16 (fun q hq => by cases hq; omega))
          | ((guard_target =~ wpList _ _ _ (Oper.mk none (Op.store _ (Operand.tmp 18) (Operand.tmp 100)) _ _ _ _ :: _) _ _); go_must (refine storeBox rfl 23 (.tmp 18) (.tmp 100) rfl b18 (cl4 q) _ _ (by rfl) (by rfl) hy18 (by kernel_rfl) hZ18 (by simp [cl4, Value.oneCell']) ?_); intro w17 c17 g17; have m18 : BoxAt w17 b18 (cl4 q) 23 := c17; have m17b : b17 ≠ b18 → BoxAt w17 b17 (cl4 p) 23 := (fun hne => m17.grown g17 (fun e => hne (Option.some.inj e))); obtain ⟨Z19b, hz19, hZ19b⟩ := box_some (m := 4) g17 m18 (by rfl) hy19 hZ19; have hE17 : Ext w13 w17 := Ext.grown hE16 g17 (fun q hq => by cases hq; omega))
          | ((guard_target =~ wpList _ _ _ (Oper.mk none (Op.store _ (Operand.tmp 19) (Operand.tmp 103)) _ _ _ _ :: _) _ _); go_must (refine storeBox rfl 23 (.tmp 19) (.tmp 103) rfl b19 (cl4 m) _ _ (by rfl) (by rfl) hz19 (by kernel_rfl) hZ19b (by simp [cl4, Value.oneCell']) ?_); intro w18 c18 g18; have m19 : BoxAt w18 b19 (cl4 m) 23 := c18; have m18b : b18 ≠ b19 → BoxAt w18 b18 (cl4 q) 23 := (fun hne => m18.grown g18 (fun e => hne (Option.some.inj e))); have m17c : b17 ≠ b18 → b17 ≠ b19 → BoxAt w18 b17 (cl4 p) 23 := (fun hne hne2 => (m17b hne).grown g18 (fun e => hne2 (Option.some.inj e))); have hE18 : Ext w13 w18 := Ext.grown hE17 g18 (fun q hq => by cases hq; omega)))
        refine (fun hap => ?_ : Apart _ _ → _)
        have h78 : b17 ≠ b18 := fun e => hap (9, 17) (by simp) (10, 18) (by simp) (by decide) (by show Value.pointer (some ⟨b17, 0, none⟩) = Value.pointer (some ⟨b18, 0, none⟩); rw [e])
        have h79 : b17 ≠ b19 := fun e => hap (9, 17) (by simp) (11, 19) (by simp) (by decide) (by show Value.pointer (some ⟨b17, 0, none⟩) = Value.pointer (some ⟨b19, 0, none⟩); rw [e])
        have h89 : b18 ≠ b19 := fun e => hap (10, 18) (by simp) (11, 19) (by simp) (by decide) (by show Value.pointer (some ⟨b18, 0, none⟩) = Value.pointer (some ⟨b19, 0, none⟩); rw [e])
        have n17 := m17c h78 h79
        have n18 := m18b h89
        obtain ⟨x0, x1, x2, x3⟩ := n17.cl
        obtain ⟨y0, y1, y2, y3⟩ := n18.cl
        obtain ⟨z0, z1, z2, z3⟩ := m19.cl
        replace hE18 := hE15.trans hE18
        clear hap h78 h79 h89 m17 m17b m17c m18 m18b hE16 hE17 hx17 hx18 hx19 hy18 hy19 hz19 c16 g16 c17 g17 c18 g18 hC hb17 hb18 hb19 jA jB jX sA sB sX
        go_wp2_with fail
        refine (rsame_c m.val m.dead m.at_ m.fin p.val p.dead p.at_ p.fin w18).mono ?_
        obtain ⟨s, hs⟩ : ∃ s, s = sameCl m p := ⟨_, rfl⟩
        rw [show sameCl ⟨m.val, m.dead, m.at_, m.fin⟩ ⟨p.val, p.dead, p.at_, p.fin⟩ = s from hs.symm]
        have HS := Lib.hid hs
        clear hs
        rintro e w19 ⟨rfl, hE19⟩
        cases hsb : s with
        | true =>
          go_wp2_with fail
          go_roundw
          case rel => exact ⟨k + 1, by omega, by go_num, hE18.trans hE19⟩
          case measure => simp [intOf]; omega
        | false =>
          have hmq : m = q := by
            rcases HOR.out with e | e
            · have h1 := HS.out
              rw [hsb, e, sameCl_self] at h1
              cases h1
            · exact e
          obtain ⟨y0, y1, y2, y3⟩ := (n18.ext hE19).cl
          obtain ⟨z0, z1, z2, z3⟩ := (m19.ext hE19).cl
          have HMQ := Lib.hid hmq
          clear hmq hsb
          go_wp2_with fail
          refine (rsame_c m.val m.dead m.at_ m.fin q.val q.dead q.at_ q.fin w19).mono ?_
          rw [show sameCl ⟨m.val, m.dead, m.at_, m.fin⟩ ⟨q.val, q.dead, q.at_, q.fin⟩ = true by rw [HMQ.out]; exact sameCl_self q]
          rintro e w20 ⟨rfl, hE20⟩
          go_wp2_with fail
          go_roundw
          case rel => exact ⟨k + 1, by omega, by go_num, (hE18.trans hE19).trans hE20⟩
          case measure => simp [intOf]; omega
    · obtain rfl : k = 4 := by omega
      go_wp2_with fail
      refine (place_any now 14 (by decide) (by decide) wr).mono ?_
      obtain ⟨T, hT⟩ : ∃ T, T = now % 14 := ⟨_, rfl⟩
      rw [← hT]
      clear hT
      rintro e w11 ⟨rfl, rfl⟩
      obtain ⟨i0, hi0⟩ : ∃ i, i = isB rX G T false := ⟨_, rfl⟩
      obtain ⟨i1, hi1⟩ : ∃ i, i = isB rX G T true := ⟨_, rfl⟩
      obtain ⟨sl, hsl⟩ : ∃ n, n = (seenCos rX.cols G T).length := ⟨_, rfl⟩
      have hil := is_law rX G T
      rw [← hi0, ← hi1, ← hsl] at hil
      have HI0 := Lib.hid hi0
      have HI1 := Lib.hid hi1
      have HSL := Lib.hid hsl
      have HIL := Lib.hid hil
      clear hi0 hi1 hsl hil
      have tXr := tX.ext hE
      have hXr := hX8.trans hE
      clear hE
      go_wp2_with fail
      refine (ris_any rX _ g T false _ tXr.cols (by omega)).mono ?_
      rw [← HG.out, ← HI0.out]
      rintro e w12 ⟨rfl, hE12⟩
      have jX12 := jX.ext hE12
      have yX : ∀ i, w12.cell? ⟨bX, i, none⟩ = (ro8 rX (.slice aX rX.cols.length cX))[i]? := fun i => jX12.cell i
      have tX12 := tXr.ext hE12
      cases hc0 : i0 with
      | true =>
        go_wp2_with fail
        refine (rwseen_any rX _ g T w12 tX12.cols (by omega)).mono ?_
        rw [← HG.out, ← HSL.out]
        rintro e w13 ⟨v13, rfl, hown13, hE13⟩
        obtain ⟨a13, c13, rfl⟩ := own_shape hown13
        have yX : ∀ i, w13.cell? ⟨bX, i, none⟩ = (ro8 rX (.slice aX rX.cols.length cX))[i]? := fun i => (jX12.ext hE13).cell i
        have tX13 := tX12.ext hE13
        clear hown13
        by_cases hs0 : sl = 0
        · subst hs0
          go_wp2_with fail
          refine (rawake_any w13).mono ?_
          rintro e w14 ⟨rfl, hE14⟩
          go_wp2_with fail
          go_ret
          exact ⟨rfl, ((hXr.trans hE12).trans hE13).trans hE14⟩
        · go_wp2_with fail
          refine (ris_any rX _ g T false _ tX13.cols (by omega)).mono ?_
          rw [← HG.out, ← HI0.out, hc0]
          rintro e w14 ⟨rfl, hE14⟩
          clear hc0
          go_wp2_with fail
          refine (rawake_any w14).mono ?_
          rintro e w15 ⟨rfl, hE15⟩
          go_wp2_with fail
          go_ret
          exact ⟨rfl, (((hXr.trans hE12).trans hE13).trans hE14).trans hE15⟩
      | false =>
        have hi1f : i1 = false := by
          have := HIL.out.1
          rw [hc0] at this
          simpa using this
        have hs0 : sl = 0 := by
          rcases HIL.out.2 with h | h
          · rw [hc0] at h; cases h
          · exact h
        subst hs0
        go_wp2_with fail
        refine (ris_any rX _ g T true _ tX12.cols (by omega)).mono ?_
        rw [← HG.out, ← HI1.out, hi1f]
        rintro e w13 ⟨rfl, hE13⟩
        have yX : ∀ i, w13.cell? ⟨bX, i, none⟩ = (ro8 rX (.slice aX rX.cols.length cX))[i]? := fun i => (jX12.ext hE13).cell i
        have tX13 := tX12.ext hE13
        clear hi1f hc0
        go_wp2_with fail
        refine (rwseen_any rX _ g T w13 tX13.cols (by omega)).mono ?_
        rw [← HG.out, ← HSL.out]
        rintro e w14 ⟨v14, rfl, hown14, hE14⟩
        obtain ⟨a14, c14, rfl⟩ := own_shape hown14
        clear hown14
        go_wp2_with fail
        refine (rawake_any w14).mono ?_
        rintro e w15 ⟨rfl, hE15⟩
        go_wp2_with fail
        go_ret
        exact ⟨rfl, (((hXr.trans hE12).trans hE13).trans hE14).trans hE15⟩
theorem law_rowNumbers_long (v0 : Value) (z : List Int) (now part : Int) (w : World) (hin : IntsIn w v0 .i64 z) (hz : 60 < z.length) :
    Calls Tryd.prog 6 #[v0, .int .i64 now, .int .i64 part] w fun e w' => e = .returned (.bool true) ∧ Ext w w' := by
  obtain ⟨a, c, rfl, hc, hcm, ha⟩ := hin.block
  have k1 : decide ((60 : Int) < (z.length : Int)) = true := by simp; omega
  go_enter Tryd.func6, Tryd.ntmps6
  go_wp2_with fail
  refine (rawake_any w).mono ?_
  rintro e w10 ⟨rfl, hE10⟩
  go_wp2_with fail
  go_ret
  exact ⟨rfl, hE10⟩
theorem walk_rowNumbers (v : Value) (now part : Int) (W : World) (w0 : ∃ l : List Int, IntsIn W v .i64 l ∧ ∀ n ∈ l, (Lit.int .i64 n).wf = true) (_ : (Lit.int .i64 now).wf = true) (_ : (Lit.int .i64 part).wf = true) :
    Calls Tryd.prog 6 #[v, .int .i64 now, .int .i64 part] W fun e w' => e = .returned (.bool true) ∧ Ext W w' := by
  obtain ⟨z, hin, _⟩ := w0
  by_cases hz : z.length ≤ 60
  · exact law_rowNumbers v z now part W hin hz
  · exact law_rowNumbers_long v z now part W hin (by omega)
end Go.Proofs.YteamiiekpjoclaaDoor
