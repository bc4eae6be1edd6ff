/- clerestorylaw00.View. -/
import Derived.Test.YtbjpfhkdlljgdaaGrow
import Derived.Test.YtbjpfhkdlljgdaaProg
namespace Go.Proofs.Ytbjpfhkdlljgdaa
open Go Go.RowKit
attribute [local go_sem] yields yUpon

/-! ### The table and the view -/
def tabV (s : Value) : Value := .agg #[.string ⟨#[116]⟩, .int .i64 1, .string ⟨#[112]⟩, .int .i64 1, .string ⟨#[107]⟩, .int .i64 2, s]
def viewV (s : Value) : Value := .agg #[.string ⟨#[118]⟩, .int .i64 2, .string ⟨#[116]⟩, .string ⟨#[97]⟩, s]
set_option maxHeartbeats 1000000 in
theorem viewCol_any (n : ByteArray) (w : World) :
    Calls Try.prog 54 #[.string n] w fun e w' => e = .returned (.agg #[.string n, .int .i64 1]) ∧ Ext w w' := by
  go_enter Try.func54, Try.ntmps54
  go_wp2
  refine bodyPost_ret (v := .agg #[.string n, .int .i64 1]) (by simp [results, Try.results54, go_sem]) rfl ⟨rfl, (Ext.refl w).alloc _⟩

set_option maxRecDepth 100000 in
set_option maxHeartbeats 2000000 in
theorem view_any (w : World) :
    Calls Try.prog 18 #[] w fun e w' => ∃ bs bu : Nat, e = .returned (.tuple #[tabV (.slice (some ⟨bs, 0, none⟩) 4 4), viewV (.slice (some ⟨bu, 0, none⟩) 2 2)]) ∧ SliceIn w' (.slice (some ⟨bu, 0, none⟩) 2 2) 2 [.string ⟨#[98]⟩, .string ⟨#[100]⟩] ∧ Ext w w' := by
  go_enter Try.func18, Try.ntmps18
  go_wp2_with fail
  refine (viewCol_any _ _).mono ?_
  rintro e w1 ⟨rfl, hE1⟩
  go_wp2_with fail
  refine (viewCol_any _ _).mono ?_
  rintro e w2 ⟨rfl, hE2⟩
  replace hE2 := hE1.trans hE2
  clear hE1
  go_wp2_with fail
  refine (viewCol_any _ _).mono ?_
  rintro e w3 ⟨rfl, hE3⟩
  replace hE3 := hE2.trans hE3
  clear hE2
  go_wp2_with fail
  refine (viewCol_any _ _).mono ?_
  rintro e w4 ⟨rfl, hE4⟩
  replace hE4 := hE3.trans hE4
  clear hE3
  go_wp2_with fail
  refine (viewCol_any _ _).mono ?_
  rintro e w5 ⟨rfl, hE5⟩
  replace hE5 := hE4.trans hE5
  clear hE4
  have b0 : BoxAt w5 w.heap.size #[.string ⟨#[]⟩, .int .i64 0, .string ⟨#[]⟩, .int .i64 0, .string ⟨#[]⟩, .int .i64 0, .slice none 0 0] 43 := ((BoxAt.made w _ _).ext ((Ext.refl _).alloc _)).ext hE5
  have b1 : BoxAt w5 (w.heap.size + 1) #[.string ⟨#[]⟩, .int .i64 0, .string ⟨#[]⟩, .string ⟨#[]⟩, .slice none 0 0] 46 := (by have := BoxAt.made (w.alloc (.cells #[.string ⟨#[]⟩, .int .i64 0, .string ⟨#[]⟩, .int .i64 0, .string ⟨#[]⟩, .int .i64 0, .slice none 0 0] 43)) #[.string ⟨#[]⟩, .int .i64 0, .string ⟨#[]⟩, .string ⟨#[]⟩, .slice none 0 0] 46; rw [Deep.nblk_alloc] at this; exact this : BoxAt _ (w.heap.size + 1) #[.string ⟨#[]⟩, .int .i64 0, .string ⟨#[]⟩, .string ⟨#[]⟩, .slice none 0 0] 46).ext hE5
  go_wp2_with (first
    | ((guard_target =~ wpList _ _ _ (Oper.mk none (Op.store _ (Operand.tmp 0) _) _ _ _ _ :: _) _ _); go_must (refine storeBox rfl 43 (.tmp 0) (.tmp 17) rfl w.heap.size _ _ _ (by rfl) (by rfl) (b0.ext ((((Ext.refl _).alloc _).alloc _).alloc _)) (by kernel_rfl) (by rfl) (by simp [Value.oneCell']) ?_); intro w6 c0 g6)
    | ((guard_target =~ wpList _ _ _ (Oper.mk none (Op.store _ (Operand.tmp 1) _) _ _ _ _ :: _) _ _); go_must (refine storeBox rfl 46 (.tmp 1) (.tmp 19) rfl (w.heap.size + 1) _ _ _ (by rfl) (by rfl) ((b1.ext ((((Ext.refl _).alloc _).alloc _).alloc _)).grown g6 (by simp)) (by kernel_rfl) (by rfl) (by simp [Value.oneCell']) ?_); intro w7 c1 g7))
  have hX : Ext w w7 := (((((((Ext.refl w).alloc _).alloc _).trans hE5).alloc _).alloc _).alloc _ |>.grown g6 (fun k hk => by cases hk; exact Nat.le_refl _)).grown g7 (fun k hk => by cases hk; exact Nat.le_succ _)
  have l1 := b1.lt
  have hS : SliceIn w7 (.slice (some ⟨w5.heap.size + 1 + 1, 0, none⟩) 2 2) 2 [.string ⟨#[98]⟩, .string ⟨#[100]⟩] := by
    refine SliceIn.grown g7 (by omega) (SliceIn.grown g6 (by omega) ?_)
    have := SliceIn.made ((w5.alloc (.cells #[.string ⟨#[97]⟩, .int .i64 1, .string ⟨#[98]⟩, .int .i64 1, .string ⟨#[99]⟩, .int .i64 1, .string ⟨#[100]⟩, .int .i64 1] 40)).alloc (.cells #[.string ⟨#[116]⟩, .int .i64 1, .string ⟨#[112]⟩, .int .i64 1, .string ⟨#[107]⟩, .int .i64 2, .slice (some ⟨w5.heap.size, 0, none⟩) 4 4] 43)) #[.string ⟨#[98]⟩, .string ⟨#[100]⟩] 9 2 (by unfold maxLen; decide)
    rw [Deep.nblk_alloc, Deep.nblk_alloc] at this
    exact this
  have d0 := c0.grown g7 (by simp)
  clear hE5 b0 b1 c0 g6 g7 l1
  have z0 := d0.cell 0
  have z1 := d0.cell 1
  have z2 := d0.cell 2
  have z3 := d0.cell 3
  have z4 := d0.cell 4
  have z5 := d0.cell 5
  have z6 := d0.cell 6
  have y0 := c1.cell 0
  have y1 := c1.cell 1
  have y2 := c1.cell 2
  have y3 := c1.cell 3
  have y4 := c1.cell 4
  simp at z0 z1 z2 z3 z4 z5 z6 y0 y1 y2 y3 y4
  refine bodyPost_ret (v := .tuple #[tabV (.slice (some ⟨w5.heap.size, 0, none⟩) 4 4), viewV (.slice (some ⟨w5.heap.size + 1 + 1, 0, none⟩) 2 2)]) ?_ rfl ⟨_, _, rfl, hS, hX⟩
  simp [results, Try.results18, go_sem, Act.put, tabV, viewV, z0, z1, z2, z3, z4, z5, z6, y0, y1, y2, y3, y4]
end Go.Proofs.Ytbjpfhkdlljgdaa
