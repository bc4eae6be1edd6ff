/- Chapter 19's partitions of one row (the closures of DeltaMoves and of the example). -/
import Derived.Test.YtbjpfhkdlljgdaaRowsIn
namespace Go.Proofs.Ytbjpfhkdlljgdaa
open Go Go.RowKit
attribute [local go_sem] yields yUpon ro8 pa3 co5

/-- The row k with one cell in the column a. -/
def kRow (c : Cl) : Ro := ⟨⟨#[107]⟩, zeroCl, 0, 0, [⟨⟨#[97]⟩, c⟩]⟩
def oneC (val : ByteArray) (at_ : Int) (dead : Bool) : Cl := if dead then ⟨⟨#[]⟩, true, at_, 0⟩ else ⟨val, false, at_, 0⟩

theorem one_rows {w : World} {b c : Nat} {d : Cl} (hb : BoxAt w b (co5 ⟨⟨#[97]⟩, d⟩) 62) (hc : BoxAt w c (ro8 (kRow d) (.slice (some ⟨b, 0, none⟩) 1 1)) 34) : RowsT w (.slice (some ⟨c, 0, none⟩) 1 1) [(kRow d, .slice (some ⟨b, 0, none⟩) 1 1)] :=
  RowsT.one hc (TIn.box (xs := coCells [⟨⟨#[97]⟩, d⟩]) hb (by unfold maxLen; decide))

set_option maxRecDepth 100000 in
set_option maxHeartbeats 4000000 in
theorem one19_any (val : ByteArray) (at_ : Int) (w : World) : Calls Try.prog 53 #[.string val, .int .i64 at_] w fun e w' => ∃ b v', e = .returned (.agg #[.string ⟨#[109]⟩, .int .i64 0, .slice (some ⟨b, 0, none⟩) 1 1]) ∧ RowsT w' (.slice (some ⟨b, 0, none⟩) 1 1) [(kRow ⟨val, false, at_, 0⟩, v')] ∧ Ext w w' := by
  go_enter Try.func53, Try.ntmps53
  go_wp2_with (((guard_target =~ wpList _ _ _ (Oper.mk none (Op.store _ (Operand.tmp 4) (Operand.tmp 12)) _ _ _ _ :: _) _ _); go_must (refine storeBox rfl 26 (.tmp 4) (.tmp 12) rfl (w.heap.size) _ _ _ (by rfl) (by rfl) ((((BoxAt.made w (pa3 ⟨#[]⟩ 0 (.slice none 0 0)) 26).ext ((Ext.refl _).alloc _)).ext ((Ext.refl _).alloc _))) (by kernel_rfl) (by rfl) (by simp [Value.oneCell']) ?_); intro w1 c1 g1))
  have hX : Ext w w1 := ((((Ext.refl w).alloc _).alloc _).alloc _).grown g1 (fun q hq => by cases hq; omega)
  have hb : BoxAt w1 (w.heap.size + 1) (co5 ⟨⟨#[97]⟩, ⟨val, false, at_, 0⟩⟩) 62 := ((BoxAt.madeN (co5 ⟨⟨#[97]⟩, ⟨val, false, at_, 0⟩⟩) 62 (by simp)).ext ((Ext.refl _).alloc _)).grown g1 (fun e => by have := Option.some.inj e; omega)
  have hc : BoxAt w1 (w.heap.size + 1 + 1) (ro8 (kRow ⟨val, false, at_, 0⟩) (.slice (some ⟨w.heap.size + 1, 0, none⟩) 1 1)) 34 := (BoxAt.madeN (ro8 (kRow ⟨val, false, at_, 0⟩) (.slice (some ⟨w.heap.size + 1, 0, none⟩) 1 1)) 34 (by simp)).grown g1 (fun e => by have := Option.some.inj e; omega)
  obtain ⟨z0, z1, z2⟩ := c1.pa (k := ⟨#[109]⟩) (g := 0) (u := .slice (some ⟨w.heap.size + 1 + 1, 0, none⟩) 1 1)
  refine bodyPost_ret (v := .agg #[.string ⟨#[109]⟩, .int .i64 0, .slice (some ⟨w.heap.size + 1 + 1, 0, none⟩) 1 1]) ?_ rfl ⟨_, _, rfl, one_rows hb hc, hX⟩
  simp [results, Try.results53, go_sem, z0, z1, z2]

set_option maxRecDepth 100000 in
set_option maxHeartbeats 4000000 in
theorem moves1_any (val : ByteArray) (at_ : Int) (dead : Bool) (w : World) : Calls Try.prog 28 #[.string val, .int .i64 at_, .bool dead] w fun e w' => ∃ b v', e = .returned (.agg #[.string ⟨#[109]⟩, .int .i64 0, .slice (some ⟨b, 0, none⟩) 1 1]) ∧ RowsT w' (.slice (some ⟨b, 0, none⟩) 1 1) [(kRow (oneC val at_ dead), v')] ∧ Ext w w' := by
  cases dead
  · go_enter Try.func28, Try.ntmps28
    go_wp2_with (first
      | (((guard_target =~ wpList _ _ _ (Oper.mk none (Op.store _ (Operand.tmp 7) (Operand.tmp 10)) _ _ _ _ :: _) _ _); go_must (refine storeBox rfl 31 (.tmp 7) (.tmp 10) rfl (w.heap.size + 1) _ _ _ (by rfl) (by rfl) ((BoxAt.madeN (cl4 zeroCl) 31 (by simp))) (by kernel_rfl) (by rfl) (by simp [Value.oneCell']) ?_); intro w1 c1 g1); have hX1 : Ext w w1 := (((Ext.refl w).alloc _).alloc _).grown g1 (fun q hq => by cases hq; omega); have p1 := (((BoxAt.made w (pa3 ⟨#[]⟩ 0 (.slice none 0 0)) 26).ext ((Ext.refl _).alloc _)).grown g1 (fun e => by have := Option.some.inj e; omega)); have d1 := c1.cl (c := ⟨val, false, at_, 0⟩))
      | (((guard_target =~ wpList _ _ _ (Oper.mk none (Op.store _ (Operand.tmp 6) (Operand.tmp 19)) _ _ _ _ :: _) _ _); go_must (refine storeBox rfl 26 (.tmp 6) (.tmp 19) rfl (w.heap.size) _ _ _ (by rfl) (by rfl) (((p1.ext ((Ext.refl _).alloc _)).ext ((Ext.refl _).alloc _))) (by kernel_rfl) (by rfl) (by simp [Value.oneCell']) ?_); intro w3 c3 g3)))
    have hX3 : Ext w w3 := ((hX1.alloc _).alloc _).grown g3 (fun q hq => by cases hq; omega)
    have hlt := p1.lt
    have hb : BoxAt w3 w1.heap.size (co5 ⟨⟨#[97]⟩, ⟨val, false, at_, 0⟩⟩) 62 := ((BoxAt.made w1 (co5 ⟨⟨#[97]⟩, ⟨val, false, at_, 0⟩⟩) 62).ext ((Ext.refl _).alloc _)).grown g3 (fun e => by have := Option.some.inj e; omega)
    have hc : BoxAt w3 (w1.heap.size + 1) (ro8 (kRow ⟨val, false, at_, 0⟩) (.slice (some ⟨w1.heap.size, 0, none⟩) 1 1)) 34 := (BoxAt.madeN (ro8 (kRow ⟨val, false, at_, 0⟩) (.slice (some ⟨w1.heap.size, 0, none⟩) 1 1)) 34 (by simp)).grown g3 (fun e => by have := Option.some.inj e; omega)
    obtain ⟨z0, z1, z2⟩ := c3.pa (k := ⟨#[109]⟩) (g := 0) (u := .slice (some ⟨w1.heap.size + 1, 0, none⟩) 1 1)
    refine bodyPost_ret (v := .agg #[.string ⟨#[109]⟩, .int .i64 0, .slice (some ⟨w1.heap.size + 1, 0, none⟩) 1 1]) ?_ rfl ⟨_, rfl, ⟨_, one_rows hb hc⟩, hX3⟩
    simp [results, Try.results28, go_sem, z0, z1, z2]
  · go_enter Try.func28, Try.ntmps28
    go_wp2_with (first
      | (((guard_target =~ wpList _ _ _ (Oper.mk none (Op.store _ (Operand.tmp 7) (Operand.tmp 10)) _ _ _ _ :: _) _ _); go_must (refine storeBox rfl 31 (.tmp 7) (.tmp 10) rfl (w.heap.size + 1) _ _ _ (by rfl) (by rfl) ((BoxAt.madeN (cl4 zeroCl) 31 (by simp))) (by kernel_rfl) (by rfl) (by simp [Value.oneCell']) ?_); intro w1 c1 g1); have hX1 : Ext w w1 := (((Ext.refl w).alloc _).alloc _).grown g1 (fun q hq => by cases hq; omega); have p1 := (((BoxAt.made w (pa3 ⟨#[]⟩ 0 (.slice none 0 0)) 26).ext ((Ext.refl _).alloc _)).grown g1 (fun e => by have := Option.some.inj e; omega)))
      | (((guard_target =~ wpList _ _ _ (Oper.mk none (Op.store _ (Operand.tmp 7) (Operand.tmp 13)) _ _ _ _ :: _) _ _); go_must (refine storeBox rfl 31 (.tmp 7) (.tmp 13) rfl (w.heap.size + 1) _ _ _ (by rfl) (by rfl) (c1) (by kernel_rfl) (by rfl) (by simp [Value.oneCell']) ?_); intro w2 c2 g2); have hX2 : Ext w w2 := hX1.grown g2 (fun q hq => by cases hq; omega); have p2 := p1.grown g2 (fun e => by have := Option.some.inj e; omega); have d2 := c2.cl (c := ⟨⟨#[]⟩, true, at_, 0⟩))
      | (((guard_target =~ wpList _ _ _ (Oper.mk none (Op.store _ (Operand.tmp 6) (Operand.tmp 19)) _ _ _ _ :: _) _ _); go_must (refine storeBox rfl 26 (.tmp 6) (.tmp 19) rfl (w.heap.size) _ _ _ (by rfl) (by rfl) (((p2.ext ((Ext.refl _).alloc _)).ext ((Ext.refl _).alloc _))) (by kernel_rfl) (by rfl) (by simp [Value.oneCell']) ?_); intro w3 c3 g3)))
    have hX3 : Ext w w3 := ((hX2.alloc _).alloc _).grown g3 (fun q hq => by cases hq; omega)
    have hlt := p2.lt
    have hb : BoxAt w3 w2.heap.size (co5 ⟨⟨#[97]⟩, ⟨⟨#[]⟩, true, at_, 0⟩⟩) 62 := ((BoxAt.made w2 (co5 ⟨⟨#[97]⟩, ⟨⟨#[]⟩, true, at_, 0⟩⟩) 62).ext ((Ext.refl _).alloc _)).grown g3 (fun e => by have := Option.some.inj e; omega)
    have hc : BoxAt w3 (w2.heap.size + 1) (ro8 (kRow ⟨⟨#[]⟩, true, at_, 0⟩) (.slice (some ⟨w2.heap.size, 0, none⟩) 1 1)) 34 := (BoxAt.madeN (ro8 (kRow ⟨⟨#[]⟩, true, at_, 0⟩) (.slice (some ⟨w2.heap.size, 0, none⟩) 1 1)) 34 (by simp)).grown g3 (fun e => by have := Option.some.inj e; omega)
    obtain ⟨z0, z1, z2⟩ := c3.pa (k := ⟨#[109]⟩) (g := 0) (u := .slice (some ⟨w2.heap.size + 1, 0, none⟩) 1 1)
    refine bodyPost_ret (v := .agg #[.string ⟨#[109]⟩, .int .i64 0, .slice (some ⟨w2.heap.size + 1, 0, none⟩) 1 1]) ?_ rfl ⟨_, rfl, ⟨_, one_rows hb hc⟩, hX3⟩
    simp [results, Try.results28, go_sem, z0, z1, z2]
end Go.Proofs.Ytbjpfhkdlljgdaa
