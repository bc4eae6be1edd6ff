/- The schema of the table and the view; their copies; a view's store. -/
import Derived.Test.YtolkhjdododdaaaGreatDoorP15
import Derived.Test.YtolkhjdododdaaaGreatDoorP8
import Derived.Test.YtolkhjdododdaaaGreatDoorP5
import Derived.Test.YtolkhjdododdaaaGreatDoorP18
import Derived.Lib.SliceRun
import Derived.Test.YtolkhjdododdaaaGreatDoorP19
set_option linter.unusedSimpArgs false
set_option linter.unusedVariables false
namespace Go.Proofs.YtolkhjdododdaaaGreatDoor
open Go Go.RowKit
attribute [local go_sem] yields yUpon tabV viewV

set_option maxRecDepth 100000 in
set_option maxHeartbeats 2000000 in
theorem view2_any (w : World) :
  Calls Tryz.prog 5 #[] w fun e w' => ∃ bs bu : Nat, e = .returned (.tuple #[tabV (.slice (some ⟨bs, 0, none⟩) 4 4), viewV (.slice (some ⟨bu, 0, none⟩) 2 2)]) ∧ SliceIn w' (.slice (some ⟨bu, 0, none⟩) 2 2) 2 [.string ⟨#[98]⟩, .string ⟨#[100]⟩] ∧ SliceIn w' (.slice (some ⟨bs, 0, none⟩) 4 4) 4 [.string ⟨#[97]⟩, .int .i64 1, .string ⟨#[98]⟩, .int .i64 1, .string ⟨#[99]⟩, .int .i64 1, .string ⟨#[100]⟩, .int .i64 1] ∧ Ext w w' := by
 go_enter Tryz.func5, Tryz.ntmps5
 go_wp2_with fail
 refine (viewCol_any _ _).mono ?_
 rintro e w1 ⟨rfl, hE1⟩
 go_wp2_with fail
 refine (viewCol_any _ _).mono ?_
 rintro e w2 ⟨rfl, hE2⟩
 replace hE2 := hE1.trans hE2
 clear hE1
 go_wp2_with fail
 refine (viewCol_any _ _).mono ?_
 rintro e w3 ⟨rfl, hE3⟩
 replace hE3 := hE2.trans hE3
 clear hE2
 go_wp2_with fail
 refine (viewCol_any _ _).mono ?_
 rintro e w4 ⟨rfl, hE4⟩
 replace hE4 := hE3.trans hE4
 clear hE3
 go_wp2_with fail
 refine (viewCol_any _ _).mono ?_
 rintro e w5 ⟨rfl, hE5⟩
 replace hE5 := hE4.trans hE5
 clear hE4
 have b0 : BoxAt w5 w.heap.size #[.string ⟨#[]⟩, .int .i64 0, .string ⟨#[]⟩, .int .i64 0, .string ⟨#[]⟩, .int .i64 0, .slice none 0 0] 28 := ((BoxAt.made w _ _).ext ((Ext.refl _).alloc _)).ext hE5
 have b1 : BoxAt w5 (w.heap.size + 1) #[.string ⟨#[]⟩, .int .i64 0, .string ⟨#[]⟩, .string ⟨#[]⟩, .slice none 0 0] 31 := (by have := BoxAt.made (w.alloc (.cells #[.string ⟨#[]⟩, .int .i64 0, .string ⟨#[]⟩, .int .i64 0, .string ⟨#[]⟩, .int .i64 0, .slice none 0 0] 28)) #[.string ⟨#[]⟩, .int .i64 0, .string ⟨#[]⟩, .string ⟨#[]⟩, .slice none 0 0] 31; rw [Deep.nblk_alloc] at this; exact this : BoxAt _ (w.heap.size + 1) #[.string ⟨#[]⟩, .int .i64 0, .string ⟨#[]⟩, .string ⟨#[]⟩, .slice none 0 0] 31).ext hE5
 go_wp2_with (first
  | ((guard_target =~ wpList _ _ _ (Oper.mk none (Op.store _ (Operand.tmp 0) _) _ _ _ _ :: _) _ _); go_must (refine storeBox rfl 28 (.tmp 0) (.tmp 17) rfl w.heap.size _ _ _ (by rfl) (by rfl) (b0.ext ((((Ext.refl _).alloc _).alloc _).alloc _)) (by kernel_rfl) (by rfl) (by simp [Value.oneCell']) ?_); intro w6 c0 g6)
  | ((guard_target =~ wpList _ _ _ (Oper.mk none (Op.store _ (Operand.tmp 1) _) _ _ _ _ :: _) _ _); go_must (refine storeBox rfl 31 (.tmp 1) (.tmp 19) rfl (w.heap.size + 1) _ _ _ (by rfl) (by rfl) ((b1.ext ((((Ext.refl _).alloc _).alloc _).alloc _)).grown g6 (by simp)) (by kernel_rfl) (by rfl) (by simp [Value.oneCell']) ?_); intro w7 c1 g7))
 have hX : Ext w w7 := (((((((Ext.refl w).alloc _).alloc _).trans hE5).alloc _).alloc _).alloc _ |>.grown g6 (fun k hk => by cases hk; exact Nat.le_refl _)).grown g7 (fun k hk => by cases hk; exact Nat.le_succ _)
 have l1 := b1.lt
 have hS : SliceIn w7 (.slice (some ⟨w5.heap.size + 1 + 1, 0, none⟩) 2 2) 2 [.string ⟨#[98]⟩, .string ⟨#[100]⟩] := by
  refine SliceIn.grown g7 (by omega) (SliceIn.grown g6 (by omega) ?_)
  have := SliceIn.made ((w5.alloc (.cells #[.string ⟨#[97]⟩, .int .i64 1, .string ⟨#[98]⟩, .int .i64 1, .string ⟨#[99]⟩, .int .i64 1, .string ⟨#[100]⟩, .int .i64 1] 25)).alloc (.cells #[.string ⟨#[116]⟩, .int .i64 1, .string ⟨#[112]⟩, .int .i64 1, .string ⟨#[107]⟩, .int .i64 2, .slice (some ⟨w5.heap.size, 0, none⟩) 4 4] 28)) #[.string ⟨#[98]⟩, .string ⟨#[100]⟩] 9 2 (by unfold maxLen; decide)
  rw [Deep.nblk_alloc, Deep.nblk_alloc] at this
  exact this
 have hT : SliceIn w7 (.slice (some ⟨w5.heap.size, 0, none⟩) 4 4) 4 [.string ⟨#[97]⟩, .int .i64 1, .string ⟨#[98]⟩, .int .i64 1, .string ⟨#[99]⟩, .int .i64 1, .string ⟨#[100]⟩, .int .i64 1] := by
  refine SliceIn.grown g7 (by omega) (SliceIn.grown g6 (by omega) ?_)
  exact ((SliceIn.made w5 #[.string ⟨#[97]⟩, .int .i64 1, .string ⟨#[98]⟩, .int .i64 1, .string ⟨#[99]⟩, .int .i64 1, .string ⟨#[100]⟩, .int .i64 1] 25 4 (by unfold maxLen; decide)).ext ((Ext.refl _).alloc _)).ext ((Ext.refl _).alloc _)
 have d0 := c0.grown g7 (by simp)
 clear hE5 b0 b1 c0 g6 g7 l1
 have z0 := d0.cell 0
 have z1 := d0.cell 1
 have z2 := d0.cell 2
 have z3 := d0.cell 3
 have z4 := d0.cell 4
 have z5 := d0.cell 5
 have z6 := d0.cell 6
 have y0 := c1.cell 0
 have y1 := c1.cell 1
 have y2 := c1.cell 2
 have y3 := c1.cell 3
 have y4 := c1.cell 4
 simp at z0 z1 z2 z3 z4 z5 z6 y0 y1 y2 y3 y4
 refine bodyPost_ret (v := .tuple #[tabV (.slice (some ⟨w5.heap.size, 0, none⟩) 4 4), viewV (.slice (some ⟨w5.heap.size + 1 + 1, 0, none⟩) 2 2)]) ?_ rfl ⟨_, _, rfl, hS, hT, hX⟩
 simp [results, Tryz.results5, go_sem, Act.put, tabV, viewV, z0, z1, z2, z3, z4, z5, z6, y0, y1, y2, y3, y4]

theorem info_cloneColumn : (Tryz.prog.info? 25).map (fun i => (i.zero, i.size, i.bytes)) = some (some (.agg #[.string ⟨#[]⟩, .int .i64 0]), 2, 24) := by kernel_rfl
theorem und_cloneColumn : Tryz.prog.underlying 26 = some (.slice 25) := by kernel_rfl
set_option maxRecDepth 100000 in
set_option maxHeartbeats 2000000 in
theorem cloneColumn_any (b n : Nat) (xs : List Value) (w : World) (hin : SliceIn w (.slice (some ⟨b, 0, none⟩) n n) n xs) (hl : xs.length = n * 2) (h1 : ∀ u ∈ xs, u.oneCell' = true) (hn : n ≤ 1000) :
  Calls Tryz.prog 85 #[.slice (some ⟨b, 0, none⟩) n n] w fun e w' => ∃ v', e = .returned v' ∧ w'.ownsRow w.heap.size 25 2 v' n xs ∧ Ext w w' := by
 obtain ⟨i0, hi, hz0, hz1, hz2⟩ := info_parts info_cloneColumn
 have he := Lib.run_eql_slice_nil (P := Tryz.prog) w 26 25 (some ⟨b, 0, none⟩) n n 0 0 und_cloneColumn
 have hX := (Ext.refl w).alloc (.cells #[] 25)
 have hm : (w.alloc (.cells #[] 25)).ownsRow w.heap.size 25 2 (.slice (some ⟨w.heap.size, 0, none⟩) 0 0) 0 [] := World.ownsRow_made w #[] 0 (Nat.le_refl _) (Nat.zero_le _) rfl
 have hcell : ∀ (j : Nat) (u : Value), xs[j]? = some u → (w.alloc (.cells #[] 25)).cell? ((⟨b, 0, none⟩ : Addr).add j) = some u := fun j u hj => by
  obtain ⟨a', c', ea, _, _, _, hc⟩ := hin.ext hX
  cases ea
  obtain ⟨b', o', e', h'⟩ := hc j u hj
  cases e'
  rw [Addr.add_lit]
  exact h'
 go_enter Tryz.func85, Tryz.ntmps85
 go_wp2_with (at_builtin; go_must (refine wpList_append_own _ rfl (.tmp 5) (.tmp 6) 26 rfl w.heap.size 25 i0 _ 2 24 und_cloneColumn hi hz0 hz1 hz2 rfl (by decide) (.slice (some ⟨w.heap.size, 0, none⟩) 0 0) 0 [] (by rfl) hm ⟨b, 0, none⟩ n n xs (by rfl) hl hcell h1 (by unfold maxLen; omega) (by omega) hX.le ?_); intro v3 w3 hown3 hg3 _)
 rw [Nat.zero_add, List.nil_append] at hown3
 go_ret
 exact ⟨_, rfl, hown3, hX.grown hg3 (fun q hq => (hm.lt q hq).1)⟩

theorem info_cloneStr : (Tryz.prog.info? 9).map (fun i => (i.zero, i.size, i.bytes)) = some (some (.string ⟨#[]⟩), 1, 16) := by kernel_rfl
theorem und_cloneStr : Tryz.prog.underlying 29 = some (.slice 9) := by kernel_rfl
set_option maxRecDepth 100000 in
set_option maxHeartbeats 2000000 in
theorem cloneStr_any (b n : Nat) (xs : List Value) (w : World) (hin : SliceIn w (.slice (some ⟨b, 0, none⟩) n n) n xs) (hl : xs.length = n * 1) (h1 : ∀ u ∈ xs, u.oneCell' = true) (hn : n ≤ 1000) :
  Calls Tryz.prog 86 #[.slice (some ⟨b, 0, none⟩) n n] w fun e w' => ∃ v', e = .returned v' ∧ w'.ownsRow w.heap.size 9 1 v' n xs ∧ Ext w w' := by
 obtain ⟨i0, hi, hz0, hz1, hz2⟩ := info_parts info_cloneStr
 have he := Lib.run_eql_slice_nil (P := Tryz.prog) w 29 9 (some ⟨b, 0, none⟩) n n 0 0 und_cloneStr
 have hX := (Ext.refl w).alloc (.cells #[] 9)
 have hm : (w.alloc (.cells #[] 9)).ownsRow w.heap.size 9 1 (.slice (some ⟨w.heap.size, 0, none⟩) 0 0) 0 [] := World.ownsRow_made w #[] 0 (Nat.le_refl _) (Nat.zero_le _) rfl
 have hcell : ∀ (j : Nat) (u : Value), xs[j]? = some u → (w.alloc (.cells #[] 9)).cell? ((⟨b, 0, none⟩ : Addr).add j) = some u := fun j u hj => by
  obtain ⟨a', c', ea, _, _, _, hc⟩ := hin.ext hX
  cases ea
  obtain ⟨b', o', e', h'⟩ := hc j u hj
  cases e'
  rw [Addr.add_lit]
  exact h'
 go_enter Tryz.func86, Tryz.ntmps86
 go_wp2_with (at_builtin; go_must (refine wpList_append_own _ rfl (.tmp 5) (.tmp 6) 29 rfl w.heap.size 9 i0 _ 1 16 und_cloneStr hi hz0 hz1 hz2 rfl (by decide) (.slice (some ⟨w.heap.size, 0, none⟩) 0 0) 0 [] (by rfl) hm ⟨b, 0, none⟩ n n xs (by rfl) hl hcell h1 (by unfold maxLen; omega) (by omega) hX.le ?_); intro v3 w3 hown3 hg3 _)
 rw [Nat.zero_add, List.nil_append] at hown3
 go_ret
 exact ⟨_, rfl, hown3, hX.grown hg3 (fun q hq => (hm.lt q hq).1)⟩

set_option maxHeartbeats 1000000 in
theorem small2_any (w : World) : Calls Tryz.prog 121 #[.int .i64 2] w fun e w' => e = .returned (.string ⟨#[50]⟩) ∧ Ext w w' := by
 go_enter Tryz.func121, Tryz.ntmps121
 go_wp2_with fail
 refine bodyPost_ret (v := .string ⟨#[50]⟩) ?_ rfl ⟨rfl, Ext.refl w⟩
 simp only [results, Tryz.results121, go_sem]
 rw [show (⟨#[48, 49, 50, 51, 52, 53, 54, 55, 56, 57, 97, 98, 99, 100, 101, 102, 103, 104, 105, 106, 107, 108, 109, 110, 111, 112, 113, 114, 115, 116, 117, 118, 119, 120, 121, 122]⟩ : ByteArray).extract 2 3 = ⟨#[50]⟩ from ByteArray.ext (by decide)]
 simp [go_sem]
set_option maxHeartbeats 1000000 in
theorem formatInt2_any (w : World) : Calls Tryz.prog 114 #[.int .i64 2, .int .i64 10] w fun e w' => e = .returned (.string ⟨#[50]⟩) ∧ Ext w w' := by
 go_enter Tryz.func114, Tryz.ntmps114
 go_wp2_with fail
 refine (small2_any w).mono ?_
 rintro e w1 ⟨rfl, hE1⟩
 go_wp2_with fail
 go_ret
 exact ⟨rfl, hE1⟩
set_option maxHeartbeats 1000000 in
theorem itoa2i_any (w : World) : Calls Tryz.prog 100 #[.int .i64 2] w fun e w' => e = .returned (.string ⟨#[50]⟩) ∧ Ext w w' := by
 go_enter Tryz.func100, Tryz.ntmps100
 go_wp2_with fail
 refine (formatInt2_any w).mono ?_
 rintro e w1 ⟨rfl, hE1⟩
 go_wp2_with fail
 go_ret
 exact ⟨rfl, hE1⟩
set_option maxHeartbeats 1000000 in
theorem itoa2_any (w : World) : Calls Tryz.prog 87 #[.int .i64 2] w fun e w' => e = .returned (.string ⟨#[50]⟩) ∧ Ext w w' := by
 go_enter Tryz.func87, Tryz.ntmps87
 go_wp2_with fail
 refine (itoa2i_any w).mono ?_
 rintro e w1 ⟨rfl, hE1⟩
 go_wp2_with fail
 go_ret
 exact ⟨rfl, hE1⟩
/-- The store of the view. -/
def v2B : ByteArray := ⟨#[118, 95, 50]⟩
theorem v2B_is : (⟨#[118]⟩ : ByteArray) ++ ⟨#[95]⟩ ++ ⟨#[50]⟩ = v2B := ByteArray.ext (by decide)
set_option maxHeartbeats 1000000 in
theorem schStore_any (w : World) : Calls Tryz.prog 54 #[.string ⟨#[118]⟩, .int .i64 2] w fun e w' => e = .returned (.string v2B) ∧ Ext w w' := by
 go_enter Tryz.func54, Tryz.ntmps54
 go_wp2_with fail
 refine (itoa2_any w).mono ?_
 rintro e w1 ⟨rfl, hE1⟩
 go_wp2_with fail
 refine bodyPost_ret (v := .string v2B) ?_ rfl ⟨rfl, hE1⟩
 rw [← v2B_is]
 simp [results, Tryz.results54, go_sem]
set_option maxHeartbeats 1000000 in
theorem dec2_any (w : World) : Calls Tryz.prog 88 #[.int .i64 2] w fun e w' => e = .returned (.string ⟨#[50]⟩) ∧ Ext w w' := by
 go_enter Tryz.func88, Tryz.ntmps88
 go_wp2_with fail
 refine bodyPost_ret (v := .string ⟨#[50]⟩) ?_ rfl ⟨rfl, Ext.refl w⟩
 simp only [results, Tryz.results88, go_sem]
 rw [show (⟨#[48, 49, 50, 51, 52, 53, 54, 55, 56, 57]⟩ : ByteArray).extract 2 3 = ⟨#[50]⟩ from ByteArray.ext (by decide)]
 simp [go_sem]
set_option maxHeartbeats 1000000 in
theorem refStore_any (w : World) : Calls Tryz.prog 56 #[.string ⟨#[118]⟩, .int .i64 2] w fun e w' => e = .returned (.string v2B) ∧ Ext w w' := by
 go_enter Tryz.func56, Tryz.ntmps56
 go_wp2_with fail
 refine (dec2_any w).mono ?_
 rintro e w1 ⟨rfl, hE1⟩
 go_wp2_with fail
 refine bodyPost_ret (v := .string v2B) ?_ rfl ⟨rfl, hE1⟩
 rw [← v2B_is]
 simp [results, Tryz.results56, go_sem]
/-- The schema in memory: the table's columns, the view's. -/
structure SchIn (w : World) (bT bV bs bu : Nat) : Prop where
 tab : BoxAt w bT #[.string ⟨#[116]⟩, .int .i64 1, .string ⟨#[112]⟩, .int .i64 1, .string ⟨#[107]⟩, .int .i64 2, .slice (some ⟨bs, 0, none⟩) 4 4] 28
 view : BoxAt w bV #[.string ⟨#[118]⟩, .int .i64 2, .string ⟨#[116]⟩, .string ⟨#[97]⟩, .slice (some ⟨bu, 0, none⟩) 2 2] 31
 cols : SliceIn w (.slice (some ⟨bs, 0, none⟩) 4 4) 4 [.string ⟨#[97]⟩, .int .i64 1, .string ⟨#[98]⟩, .int .i64 1, .string ⟨#[99]⟩, .int .i64 1, .string ⟨#[100]⟩, .int .i64 1]
 names : SliceIn w (.slice (some ⟨bu, 0, none⟩) 2 2) 2 [.string ⟨#[98]⟩, .string ⟨#[100]⟩]
theorem SchIn.ext {w w' : World} {bT bV bs bu : Nat} (hE : Ext w w') (h : SchIn w bT bV bs bu) : SchIn w' bT bV bs bu := ⟨h.tab.ext hE, h.view.ext hE, h.cols.ext hE, h.names.ext hE⟩
def schV (bT bV : Nat) : Value := .agg #[.int .i64 2, .slice (some ⟨bT, 0, none⟩) 1 1, .slice (some ⟨bV, 0, none⟩) 1 1]
set_option maxRecDepth 100000 in
set_option maxHeartbeats 2000000 in
theorem schema00_any (w : World) : Calls Tryz.prog 13 #[] w fun e w' => ∃ bT bV bs bu, e = .returned (schV bT bV) ∧ SchIn w' bT bV bs bu ∧ Ext w w' := by
 have a0 := BoxAt.made w #[.int .i64 0, .slice none 0 0, .slice none 0 0] 58
 have hE0 := (Ext.refl w).alloc (.cells #[.int .i64 0, .slice none 0 0, .slice none 0 0] 58)
 go_enter Tryz.func13, Tryz.ntmps13
 go_wp2_with fail
 refine (view2_any _).mono ?_
 rintro e w1 ⟨bs, bu, rfl, hnu, hns, hE1⟩
 have b1 := a0.ext hE1
 have hX1 := hE0.trans hE1
 clear a0 hE0 hE1
 go_wp2_with (((guard_target =~ wpList _ _ _ (Oper.mk none (Op.store _ (Operand.tmp 0) (Operand.tmp 11)) _ _ _ _ :: _) _ _); go_must (refine storeBox rfl 58 (.tmp 0) (.tmp 11) rfl (w.heap.size) _ _ _ (by rfl) (by rfl) ((b1.ext (((((Ext.refl _).alloc _).alloc _).alloc _).alloc _))) (by kernel_rfl) (by rfl) (by simp [Value.oneCell']) ?_); intro w6 c6 g6))
 have l1 := b1.lt
 have cT := ((BoxAt.madeN (w := (w1.alloc (.cells #[.string ⟨#[116]⟩, .int .i64 1, .string ⟨#[112]⟩, .int .i64 1, .string ⟨#[107]⟩, .int .i64 2, .slice (some ⟨bs, 0, none⟩) 4 4] 28)).alloc (.cells #[.string ⟨#[118]⟩, .int .i64 2, .string ⟨#[116]⟩, .string ⟨#[97]⟩, .slice (some ⟨bu, 0, none⟩) 2 2] 31)) (n := w1.heap.size + 1 + 1) #[.string ⟨#[116]⟩, .int .i64 1, .string ⟨#[112]⟩, .int .i64 1, .string ⟨#[107]⟩, .int .i64 2, .slice (some ⟨bs, 0, none⟩) 4 4] 28 (by simp)).ext ((Ext.refl _).alloc (.cells #[.string ⟨#[118]⟩, .int .i64 2, .string ⟨#[116]⟩, .string ⟨#[97]⟩, .slice (some ⟨bu, 0, none⟩) 2 2] 31))).grown g6 (fun e => by have := Option.some.inj e; omega)
 have cV := (BoxAt.madeN (w := ((w1.alloc (.cells #[.string ⟨#[116]⟩, .int .i64 1, .string ⟨#[112]⟩, .int .i64 1, .string ⟨#[107]⟩, .int .i64 2, .slice (some ⟨bs, 0, none⟩) 4 4] 28)).alloc (.cells #[.string ⟨#[118]⟩, .int .i64 2, .string ⟨#[116]⟩, .string ⟨#[97]⟩, .slice (some ⟨bu, 0, none⟩) 2 2] 31)).alloc (.cells #[.string ⟨#[116]⟩, .int .i64 1, .string ⟨#[112]⟩, .int .i64 1, .string ⟨#[107]⟩, .int .i64 2, .slice (some ⟨bs, 0, none⟩) 4 4] 28)) (n := w1.heap.size + 1 + 1 + 1) #[.string ⟨#[118]⟩, .int .i64 2, .string ⟨#[116]⟩, .string ⟨#[97]⟩, .slice (some ⟨bu, 0, none⟩) 2 2] 31 (by simp)).grown g6 (fun e => by have := Option.some.inj e; omega)
 have hXA : Ext w1 _ := ((((Ext.refl w1).alloc (.cells #[.string ⟨#[116]⟩, .int .i64 1, .string ⟨#[112]⟩, .int .i64 1, .string ⟨#[107]⟩, .int .i64 2, .slice (some ⟨bs, 0, none⟩) 4 4] 28)).alloc (.cells #[.string ⟨#[118]⟩, .int .i64 2, .string ⟨#[116]⟩, .string ⟨#[97]⟩, .slice (some ⟨bu, 0, none⟩) 2 2] 31)).alloc (.cells #[.string ⟨#[116]⟩, .int .i64 1, .string ⟨#[112]⟩, .int .i64 1, .string ⟨#[107]⟩, .int .i64 2, .slice (some ⟨bs, 0, none⟩) 4 4] 28)).alloc (.cells #[.string ⟨#[118]⟩, .int .i64 2, .string ⟨#[116]⟩, .string ⟨#[97]⟩, .slice (some ⟨bu, 0, none⟩) 2 2] 31)
 have hns' := hns.ext hXA
 have hnu' := hnu.ext hXA
 have hbs : bs ≠ w.heap.size := fun e => by
  subst e
  obtain ⟨a', c', ea, _, _, _, hc⟩ := hns
  cases ea
  obtain ⟨b', o', e', h'⟩ := hc 0 _ rfl
  cases e'
  have := b1.cell 0
  simp at this h'
  rw [this] at h'
  cases h'
 have hbu : bu ≠ w.heap.size := fun e => by
  subst e
  obtain ⟨a', c', ea, _, _, _, hc⟩ := hnu
  cases ea
  obtain ⟨b', o', e', h'⟩ := hc 0 _ rfl
  cases e'
  have := b1.cell 0
  simp at this h'
  rw [this] at h'
  cases h'
 have hX6 : Ext w w6 := (hX1.trans hXA).grown g6 (fun q hq => by cases hq; exact Nat.le_refl _)
 have y0 := c6.cell 0
 have y1 := c6.cell 1
 have y2 := c6.cell 2
 simp at y0 y1 y2
 refine bodyPost_ret (v := schV (w1.heap.size + 1 + 1) (w1.heap.size + 1 + 1 + 1)) ?_ rfl ⟨_, _, bs, bu, rfl, ⟨cT, cV, SliceIn.grown g6 hbs hns', SliceIn.grown g6 hbu hnu'⟩, hX6⟩
 simp [results, Tryz.results13, go_sem, schV, y0, y1, y2]
end Go.Proofs.YtolkhjdododdaaaGreatDoor

/- schema.Table, schema.Of, clerestoryref16.Of at the schema of the laws. -/
namespace Go.Proofs.YtolkhjdododdaaaGreatDoor
open Go Go.RowKit
attribute [local go_sem] yields yUpon tabV viewV schV

theorem info_View : (Tryz.prog.info? 31).map (fun i => (i.zero, i.size, i.bytes)) = some (some (.agg #[.string ⟨#[]⟩, .int .i64 0, .string ⟨#[]⟩, .string ⟨#[]⟩, .slice none 0 0]), 5, 80) := by kernel_rfl
theorem und_Views : Tryz.prog.underlying 56 = some (.slice 31) := by kernel_rfl
/-- The one view, in a list; u: its columns. -/
def vCells (u : Value) : Array Value := #[.string ⟨#[118]⟩, .int .i64 2, .string ⟨#[116]⟩, .string ⟨#[97]⟩, u]
structure VsIn (w : World) (v u : Value) : Prop where
 views : SliceIn w v 1 (vCells u).toList
 names : SliceIn w u 2 [.string ⟨#[98]⟩, .string ⟨#[100]⟩]
set_option maxRecDepth 100000 in
set_option maxHeartbeats 4000000 in
theorem schTable_any (bT bV bs bu : Nat) (w : World) (h : SchIn w bT bV bs bu) : Calls Tryz.prog 52 #[schV bT bV, .string ⟨#[116]⟩] w fun e w' => ∃ (sa : Option Addr) (sn sc : Nat), e = .returned (.tuple #[tabV (.slice sa sn sc), .bool true]) ∧ Ext w w' := by
 obtain ⟨a0, a1, hE⟩ := boxes2 w #[.int .i64 2, .slice (some ⟨bT, 0, none⟩) 1 1, .slice (some ⟨bV, 0, none⟩) 1 1] #[.string ⟨#[]⟩, .int .i64 0, .string ⟨#[]⟩, .int .i64 0, .string ⟨#[]⟩, .int .i64 0, .slice none 0 0] 58 28
 unfold schV
 go_enter Tryz.func52, Tryz.ntmps52
 go_wp2_with fail
 generalize World.alloc (World.alloc w _) _ = w0 at a0 a1 hE ⊢
 have h0 := h.ext hE
 have l1 := a1.lt
 go_loopw [11] (fun i wr => i = .int .i64 0 ∧ wr = w0) (fun _ _ => 0)
 case atStart => exact ⟨rfl, rfl⟩
 case round =>
  obtain ⟨rfl, rfl⟩ := hrel
  have z0 := h0.tab.cell 0
  have z1 := h0.tab.cell 1
  have z2 := h0.tab.cell 2
  have z3 := h0.tab.cell 3
  have z4 := h0.tab.cell 4
  have z5 := h0.tab.cell 5
  have z6 := h0.tab.cell 6
  simp at z0 z1 z2 z3 z4 z5 z6
  go_wp2_with (((guard_target =~ wpList _ _ _ (Oper.mk none (Op.store _ (Operand.tmp 7) (Operand.tmp 14)) _ _ _ _ :: _) _ _); go_must (refine storeBox rfl 28 (.tmp 7) (.tmp 14) rfl (wr.heap.size) _ _ _ (by rfl) (by rfl) ((BoxAt.made wr #[.string ⟨#[]⟩, .int .i64 0, .string ⟨#[]⟩, .int .i64 0, .string ⟨#[]⟩, .int .i64 0, .slice none 0 0] 28)) (by kernel_rfl) (by rfl) (by simp [Value.oneCell']) ?_); intro w3 c3 g3); have hX3 : Ext wr w3 := ((Ext.refl wr).alloc _).grown g3 (fun q hq => by cases hq; omega); have y0 : w3.cell? ⟨wr.heap.size, 0, none⟩ = some (.string ⟨#[116]⟩) := c3.cell 0; have y6 : w3.cell? ⟨wr.heap.size, 6, none⟩ = some (.slice (some ⟨bs, 0, none⟩) 4 4) := c3.cell 6)
  refine (cloneColumn_any bs 4 _ w3 (h0.cols.ext hX3) rfl (by intro u hu; simp at hu; rcases hu with rfl | rfl | rfl | rfl | rfl | rfl | rfl | rfl <;> rfl) (by omega)).mono ?_
  rintro e w4 ⟨v4, rfl, hown4, hE4⟩
  obtain ⟨a4, c4, hv4⟩ := own_shape hown4
  subst hv4
  have d4 := c3.ext hE4
  have qf := d4.free 6
  have qc : w4.cell? ⟨wr.heap.size, 6, none⟩ = some (.slice (some ⟨bs, 0, none⟩) 4 4) := d4.cell 6
  obtain ⟨w5, hW⟩ : ∃ w5, w4.setCell ⟨wr.heap.size, 6, none⟩ (.slice a4 4 c4) = w5 := ⟨_, rfl⟩
  have e5 : BoxAt w5 wr.heap.size #[.string ⟨#[116]⟩, .int .i64 1, .string ⟨#[112]⟩, .int .i64 1, .string ⟨#[107]⟩, .int .i64 2, .slice a4 4 c4] 28 := by rw [← hW]; exact d4.set 6 _
  have b5 := ((a1.ext hX3).ext hE4).other (q := wr.heap.size) (by omega) 6 (.slice a4 4 c4)
  rw [hW] at b5
  have hX5 : Ext w w5 := by rw [← hW]; exact (((hE.trans hX3).trans hE4)).setCell (p := ⟨wr.heap.size, 6, none⟩) hE.le _
  have x0 := e5.cell 0
  have x1 := e5.cell 1
  have x2 := e5.cell 2
  have x3 := e5.cell 3
  have x4 := e5.cell 4
  have x5 := e5.cell 5
  have x6 := e5.cell 6
  simp at x0 x1 x2 x3 x4 x5 x6
  clear z0 z1 z2 z3 z4 z5 z6 y0 y6 d4
  go_wp2_with (((guard_target =~ wpList _ _ _ (Oper.mk none (Op.store _ (Operand.tmp 4) (Operand.tmp 23)) _ _ _ _ :: _) _ _); go_must (refine storeBox rfl 28 (.tmp 4) (.tmp 23) rfl (w.heap.size + 1) _ _ _ (by rfl) (by rfl) (b5) (by kernel_rfl) (by rfl) (by simp [Value.oneCell']) ?_); intro w6 c6 g6))
  have y0 := c6.cell 0
  have y1 := c6.cell 1
  have y2 := c6.cell 2
  have y3 := c6.cell 3
  have y4 := c6.cell 4
  have y5 := c6.cell 5
  have y6 := c6.cell 6
  simp at y0 y1 y2 y3 y4 y5 y6
  refine bodyPost_ret (v := .tuple #[tabV (.slice a4 4 c4), .bool true]) ?_ rfl ⟨_, _, _, rfl, hX5.grown g6 (fun q hq => by cases hq; omega)⟩
  simp [results, Tryz.results52, go_sem, tabV, y0, y1, y2, y3, y4, y5, y6]
/-- A list of views under way. -/
structure SO (w0 : World) (k : Nat) (vl : Value) (wr : World) : Prop where
 ext : Ext w0 wr
 nil : k = 0 → vl = .slice none 0 0
 ex : k = 1 → ∃ u, wr.ownsRow w0.heap.size 31 5 vl 1 (vCells u).toList ∧ SliceIn wr u 2 [.string ⟨#[98]⟩, .string ⟨#[100]⟩]
set_option maxRecDepth 100000 in
set_option maxHeartbeats 4000000 in
theorem schOf_any (bT bV bs bu : Nat) (w : World) (h : SchIn w bT bV bs bu) : Calls Tryz.prog 53 #[schV bT bV, .string ⟨#[116]⟩] w fun e w' => ∃ v u, e = .returned v ∧ VsIn w' v u ∧ Ext w w' := by
 have a0 := BoxAt.made w #[.int .i64 2, .slice (some ⟨bT, 0, none⟩) 1 1, .slice (some ⟨bV, 0, none⟩) 1 1] 58
 have hE := (Ext.refl w).alloc (.cells #[.int .i64 2, .slice (some ⟨bT, 0, none⟩) 1 1, .slice (some ⟨bV, 0, none⟩) 1 1] 58)
 unfold schV
 go_enter Tryz.func53, Tryz.ntmps53
 go_wp2_with fail
 generalize World.alloc w _ = w0 at a0 hE ⊢
 have l0 := a0.lt
 go_loopw [5, 11] (fun vl i wr => ∃ k : Nat, k ≤ 1 ∧ i = .int .i64 k ∧ SO w0 k vl wr) (fun _ i _ => 1 - (intOf i).toNat)
 case atStart => exact ⟨0, by omega, rfl, ⟨Ext.refl _, fun _ => rfl, nofun⟩⟩
 case round =>
  obtain ⟨k, hk, rfl, hS⟩ := hrel
  have hX := hS.ext
  have h0 := h.ext (hE.trans hX)
  obtain rfl | rfl : k = 0 ∨ k = 1 := by omega
  ·obtain rfl := hS.nil rfl
   have z0 := h0.view.cell 0
   have z1 := h0.view.cell 1
   have z2 := h0.view.cell 2
   have z3 := h0.view.cell 3
   have z4 := h0.view.cell 4
   simp at z0 z1 z2 z3 z4
   go_wp2_with (((guard_target =~ wpList _ _ _ (Oper.mk none (Op.store _ (Operand.tmp 7) (Operand.tmp 14)) _ _ _ _ :: _) _ _); go_must (refine storeBox rfl 31 (.tmp 7) (.tmp 14) rfl (wr.heap.size) _ _ _ (by rfl) (by rfl) ((BoxAt.made wr #[.string ⟨#[]⟩, .int .i64 0, .string ⟨#[]⟩, .string ⟨#[]⟩, .slice none 0 0] 31)) (by kernel_rfl) (by rfl) (by simp [Value.oneCell']) ?_); intro w3 c3 g3); have hX3 : Ext wr w3 := ((Ext.refl wr).alloc _).grown g3 (fun q hq => by cases hq; omega); have y2 : w3.cell? ⟨wr.heap.size, 2, none⟩ = some (.string ⟨#[116]⟩) := c3.cell 2; have y4 : w3.cell? ⟨wr.heap.size, 4, none⟩ = some (.slice (some ⟨bu, 0, none⟩) 2 2) := c3.cell 4)
   refine (cloneStr_any bu 2 _ w3 (h0.names.ext hX3) rfl (by intro u hu; simp at hu; rcases hu with rfl | rfl <;> rfl) (by omega)).mono ?_
   rintro e w4 ⟨v4, rfl, hown4, hE4⟩
   obtain ⟨a4, c4, hv4⟩ := own_shape hown4
   subst hv4
   have d4 := c3.ext hE4
   have qf := d4.free 4
   have qc : w4.cell? ⟨wr.heap.size, 4, none⟩ = some (.slice (some ⟨bu, 0, none⟩) 2 2) := d4.cell 4
   have hs4 := SliceIn.of_owns hown4
   have hne4 : (Value.slice a4 2 c4).ownBlock = none ∨ (Value.slice a4 2 c4).ownBlock ≠ some wr.heap.size := own_ne_box hown4 d4 (by decide)
   obtain ⟨w5, hW⟩ : ∃ w5, w4.setCell ⟨wr.heap.size, 4, none⟩ (.slice a4 2 c4) = w5 := ⟨_, rfl⟩
   have e5 : BoxAt w5 wr.heap.size (vCells (.slice a4 2 c4)) 31 := by rw [← hW]; exact d4.set 4 _
   have hs5 : SliceIn w5 (.slice a4 2 c4) 2 [.string ⟨#[98]⟩, .string ⟨#[100]⟩] := by rw [← hW]; exact SliceIn.of_owns (own_setCell hown4 hne4)
   have ho5 : w5.ownsRow w0.heap.size 31 5 (.slice none 0 0) 0 [] := World.ownsRow_nil _ _ _ _
   have hX5 : Ext w0 w5 := by rw [← hW]; exact ((hX.trans hX3).trans hE4).setCell (p := ⟨wr.heap.size, 4, none⟩) hX.le _
   have x0 : w5.cell? ⟨wr.heap.size, 0, none⟩ = some (.string ⟨#[118]⟩) := e5.cell 0
   have x1 : w5.cell? ⟨wr.heap.size, 1, none⟩ = some (.int .i64 2) := e5.cell 1
   have x2 : w5.cell? ⟨wr.heap.size, 2, none⟩ = some (.string ⟨#[116]⟩) := e5.cell 2
   have x3 : w5.cell? ⟨wr.heap.size, 3, none⟩ = some (.string ⟨#[97]⟩) := e5.cell 3
   have x4 : w5.cell? ⟨wr.heap.size, 4, none⟩ = some (.slice a4 2 c4) := e5.cell 4
   clear z0 z1 z2 z3 z4 y2 y4 d4 hown4 hs4 hne4 hX3 hE4 c3 g3 e5
   go_wp2_with (at_builtin; go_must (refine appR info_View und_Views rfl (by decide) w5 rfl (.tmp 23) (.tmp 25) rfl w0.heap.size hX5.le (.slice none 0 0) 0 [] ho5 rfl 1 (vCells (.slice a4 2 c4)) rfl rfl (by simp [vCells, Value.oneCell']) (by unfold maxLen; omega) (by omega) ?_); intro v6 w6 hown6 hg6)
   go_roundw
   case rel =>
    have hg : Ext (w5.alloc (.cells (vCells (.slice a4 2 c4)) 31)) w6 := (Ext.refl _).grown hg6 (fun q hq => by cases hq)
    exact ⟨1, by omega, rfl, ⟨(hX5.alloc _).trans hg, nofun, fun _ => ⟨.slice a4 2 c4, hown6, (hs5.ext ((Ext.refl _).alloc _)).ext hg⟩⟩⟩
   case measure => simp [intOf]
  ·obtain ⟨u, hown, hn⟩ := hS.ex rfl
   obtain ⟨al, cl, rfl⟩ := own_shape hown
   go_wp2_with fail
   go_ret
   exact ⟨_, u, rfl, ⟨SliceIn.of_owns hown, hn⟩, hE.trans hX⟩
set_option maxRecDepth 100000 in
set_option maxHeartbeats 4000000 in
theorem refOf_any (bT bV bs bu : Nat) (w : World) (h : SchIn w bT bV bs bu) : Calls Tryz.prog 55 #[schV bT bV, .string ⟨#[116]⟩] w fun e w' => ∃ v u, e = .returned v ∧ VsIn w' v u ∧ Ext w w' := by
 have a0 := BoxAt.made w #[.int .i64 2, .slice (some ⟨bT, 0, none⟩) 1 1, .slice (some ⟨bV, 0, none⟩) 1 1] 58
 have hE := (Ext.refl w).alloc (.cells #[.int .i64 2, .slice (some ⟨bT, 0, none⟩) 1 1, .slice (some ⟨bV, 0, none⟩) 1 1] 58)
 unfold schV
 go_enter Tryz.func55, Tryz.ntmps55
 go_wp2_with fail
 generalize World.alloc w _ = w0 at a0 hE ⊢
 have l0 := a0.lt
 go_loopw [5, 6] (fun vl i wr => ∃ k : Nat, k ≤ 1 ∧ i = .int .i64 k ∧ SO w0 k vl wr) (fun _ i _ => 1 - (intOf i).toNat)
 case atStart => exact ⟨0, by omega, rfl, ⟨Ext.refl _, fun _ => rfl, nofun⟩⟩
 case round =>
  obtain ⟨k, hk, rfl, hS⟩ := hrel
  have hX := hS.ext
  have h0 := h.ext (hE.trans hX)
  have y2 : wr.cell? ⟨w.heap.size, 2, none⟩ = some (.slice (some ⟨bV, 0, none⟩) 1 1) := (a0.ext hX).cell 2
  obtain rfl | rfl : k = 0 ∨ k = 1 := by omega
  ·obtain rfl := hS.nil rfl
   have z0 := h0.view.cell 0
   have z1 := h0.view.cell 1
   have z2 := h0.view.cell 2
   have z3 := h0.view.cell 3
   have z4 := h0.view.cell 4
   simp at z0 z1 z2 z3 z4
   go_wp2_with (at_builtin; go_must (refine appR info_View und_Views rfl (by decide) wr rfl (.tmp 22) (.tmp 28) rfl w0.heap.size hX.le (.slice none 0 0) 0 [] (World.ownsRow_nil _ _ _ _) rfl 1 (vCells (.slice (some ⟨bu, 0, none⟩) 2 2)) rfl rfl (by simp [vCells, Value.oneCell']) (by unfold maxLen; omega) (by omega) ?_); intro v6 w6 hown6 hg6)
   go_roundw
   case rel =>
    have hg : Ext (wr.alloc (.cells (vCells (.slice (some ⟨bu, 0, none⟩) 2 2)) 31)) w6 := (Ext.refl _).grown hg6 (fun q hq => by cases hq)
    exact ⟨1, by omega, rfl, ⟨(hX.alloc _).trans hg, nofun, fun _ => ⟨.slice (some ⟨bu, 0, none⟩) 2 2, hown6, (h0.names.ext ((Ext.refl _).alloc _)).ext hg⟩⟩⟩
   case measure => simp [intOf]
  ·obtain ⟨u, hown, hn⟩ := hS.ex rfl
   obtain ⟨al, cl, rfl⟩ := own_shape hown
   go_wp2_with fail
   go_ret
   exact ⟨_, u, rfl, ⟨SliceIn.of_owns hown, hn⟩, hE.trans hX⟩
end Go.Proofs.YtolkhjdododdaaaGreatDoor

/- A list of one row in memory. -/
namespace Go.Proofs.YtolkhjdododdaaaGreatDoor
open Go Go.RowKit

theorem RowsT.at0 {y : World} {bm cm : Nat} {m : Ro} {vm : Value} (h : RowsT y (.slice (some ⟨bm, 0, none⟩) 1 cm) [(m, vm)]) : RoAt y bm 0 m vm := by
 obtain ⟨a, c, e, _, _, hg⟩ := h.rows.get
 cases e
 obtain ⟨b, o, e, hr⟩ := hg 0 (Nat.zero_lt_one)
 rcases h.tin with ⟨e', _⟩ | ⟨b', c', Z, e', _⟩
 ·cases e'
 ·cases e'
  cases e
  simpa using hr
theorem RowsT.single {y : World} {a : Option Addr} {n c : Nat} {ps : List (Ro × Value)} {m : Ro} (h : RowsT y (.slice a n c) ps) (hm : ps.map (·.1) = [m]) : ∃ vm bm, ps = [(m, vm)] ∧ a = some ⟨bm, 0, none⟩ ∧ n = 1 := by
 cases ps with
 | nil => cases hm
 | cons p l =>
  cases l with
  | cons q l => cases hm
  | nil =>
   obtain ⟨r, vm⟩ := p
   have e : r = m := by simpa using hm
   subst e
   rcases h.tin with ⟨e, h0, _⟩ | ⟨b, c', Z, e, _⟩
   ·cases h0
   ·cases e
    exact ⟨vm, b, rfl, rfl, rfl⟩
end Go.Proofs.YtolkhjdododdaaaGreatDoor

/- delta.Of's closure: what a view's row is that a base's row left is put behind the list. -/
namespace Go.Proofs.YtolkhjdododdaaaGreatDoor
open Go Go.RowKit
attribute [local go_sem] yields yUpon ro8 pa3 vw5

/-- What stays true in the closure's region. -/
structure LC (w0 ws : World) (S B bl p5 p6 bv bn : Nat) (vl : Value) (L : List Pa) (x : Vw) (u : Value) (wk : ByteArray) (wg : Int) (m : Ro) (vm : Value) (bm cm : Nat) (r : Ro) (v : Value) (nk : ByteArray) (ng : Int) (nu : Value) (y : World) : Prop where
 ext : Ext w0 y
 size : S ≤ y.heap.size
 lbox : BoxAt y bl #[vl] 34
 was : BoxAt y p5 (pa3 wk wg (.slice (some ⟨bm, 0, none⟩) 1 cm)) 39
 row : BoxAt y p6 (ro8 r v) 47
 view : BoxAt y bv (vw5 x u) 31
 now : BoxAt y bn (pa3 nk ng nu) 39
 own : y.ownsRow B 39 3 vl L.length (paCells L)
 rows : ∀ p ∈ L, RowsT y p.rv p.ps
 wrow : RowsT y (.slice (some ⟨bm, 0, none⟩) 1 cm) [(m, vm)]
 keep : ∀ q cs T, BoxAt ws q cs T → q ≠ bl → some q ≠ vl.ownBlock → BoxAt y q cs T
 keepR : ∀ v qs, RowsT ws v qs → RowsT y v qs
theorem LC.ext' {w0 ws : World} {S B bl p5 p6 bv bn : Nat} {vl : Value} {L : List Pa} {x : Vw} {u : Value} {wk : ByteArray} {wg : Int} {m : Ro} {vm : Value} {bm cm : Nat} {r : Ro} {v : Value} {nk : ByteArray} {ng : Int} {nu : Value} {y z : World} (hE : Ext y z)
  (h : LC w0 ws S B bl p5 p6 bv bn vl L x u wk wg m vm bm cm r v nk ng nu y) : LC w0 ws S B bl p5 p6 bv bn vl L x u wk wg m vm bm cm r v nk ng nu z :=
 ⟨h.ext.trans hE, Nat.le_trans h.size hE.le, h.lbox.ext hE, h.was.ext hE, h.row.ext hE, h.view.ext hE, h.now.ext hE, ownsRow_ext h.own hE, fun p hp => (h.rows p hp).ext hE, h.wrow.ext hE, fun q cs T h1 h2 h3 => (h.keep q cs T h1 h2 h3).ext hE, fun v qs h1 => (h.keepR v qs h1).ext hE⟩
set_option maxRecDepth 100000 in
set_option maxHeartbeats 8000000 in
theorem leave_any (bl bv bn B : Nat) (vl : Value) (L : List Pa) (x : Vw) (u : Value) (wk : ByteArray) (wg : Int) (m : Ro) (vm : Value) (bm cm : Nat) (r : Ro) (v : Value) (nk : ByteArray) (ng : Int) (nu : Value) (w0 w : World)
  (hE0 : Ext w0 w) (hB : w0.heap.size ≤ B) (hBw : B ≤ w.heap.size) (hBl : w0.heap.size ≤ bl) (hlb : BoxAt w bl #[vl] 34) (hv : BoxAt w bv (vw5 x u) 31) (hnb : BoxAt w bn (pa3 nk ng nu) 39) (hbn : bn < B)
  (hown : w.ownsRow B 39 3 vl L.length (paCells L)) (hrows : ∀ p ∈ L, RowsT w p.rv p.ps) (hwr : RowsT w (.slice (some ⟨bm, 0, none⟩) 1 cm) [(m, vm)]) (hin : ColsIn w0 v r.cols) (hL : L.length ≤ 100000) :
  Calls Tryz.prog 50 #[.agg #[.string wk, .int .i64 wg, .slice (some ⟨bm, 0, none⟩) 1 cm], (.agg #[.string r.key, .string r.live.val, .bool r.live.dead, .int .i64 r.live.at_, .int .i64 r.live.fin, .int .i64 r.gone, .int .i64 r.shade, v]), .pointer (some ⟨bl, 0, none⟩), .pointer (some ⟨bv, 0, none⟩), .pointer (some ⟨bn, 0, none⟩)] w fun e w' =>
   (∃ z, e = .returned z) ∧ Ext w0 w' ∧ (∀ q cs T, BoxAt w q cs T → q ≠ bl → some q ≠ vl.ownBlock → BoxAt w' q cs T) ∧ (∀ v qs, RowsT w v qs → RowsT w' v qs) ∧
    ∃ (vl' rv : Value) (ps : List (Ro × Value)), BoxAt w' bl #[vl'] 34 ∧ w'.ownsRow B 39 3 vl' (L.length + 1) (paCells (L ++ [⟨wk, 0, rv, ps⟩])) ∧ RowsT w' rv ps ∧ ps.map (·.1) = [leftRo x m r ng] := by
 have hlt := hlb.lt
 obtain ⟨a0, a1, hE⟩ := boxes2 w (pa3 wk wg (.slice (some ⟨bm, 0, none⟩) 1 cm)) (ro8 r v) 39 47
 obtain ⟨J, hJ⟩ : ∃ J, J = leftRo x m r ng := ⟨_, rfl⟩
 rw [← hJ]
 have HJ := Lib.hid hJ
 clear hJ
 obtain ⟨al, cl, rfl⟩ := own_shape hown
 go_enter Tryz.func50, Tryz.ntmps50
 go_wp2_with fail
 have hle := hE0.le
 refine wp_region_relE (LC w0 w w.heap.size B bl w.heap.size (w.heap.size + 1) bv bn (.slice al L.length cl) L x u wk wg m vm bm cm r v nk ng nu) (PE (.slice al L.length cl) B 15) (Tab.atE [(0, fun v _ => v = (.slice al L.length cl)), (2, fun v _ => v = .string wk), (3, fun v _ => v = .agg (vw5 x u)), (5, fun v _ => v = .slice (some ⟨bm, 0, none⟩) 1 cm), (7, fun v _ => v = (.agg #[.string m.key, .string m.live.val, .bool m.live.dead, .int .i64 m.live.at_, .int .i64 m.live.fin, .int .i64 m.gone, .int .i64 m.shade, vm])), (8, fun y _ => y = (.agg #[.string r.key, .string r.live.val, .bool r.live.dead, .int .i64 r.live.at_, .int .i64 r.live.fin, .int .i64 r.gone, .int .i64 r.shade, v])), (10, fun v _ => v = .int .i64 ng), (11, fun v y => ∃ v', v = (.agg #[.string J.key, .string J.live.val, .bool J.live.dead, .int .i64 J.live.at_, .int .i64 J.live.fin, .int .i64 J.gone, .int .i64 J.shade, v']) ∧ ColsT y v' J.cols), (12, fun v y => ∃ b v', v = .slice (some ⟨b, 0, none⟩) 1 1 ∧ BoxAt y b (ro8 J v') 47 ∧ ColsT y v' J.cols), (14, fun v y => ∃ b rv ps, v = .slice (some ⟨b, 0, none⟩) 1 1 ∧ w.heap.size ≤ b ∧ BoxAt y b (pa3 wk 0 rv) 39 ∧ RowsT y rv ps ∧ Hid (ps.map (·.1) = [J])), (15, fun v y => ∃ rv ps, y.ownsRow B 39 3 v (L.length + 1) (paCells (L ++ [⟨wk, 0, rv, ps⟩])) ∧ RowsT y rv ps ∧ Hid (ps.map (·.1) = [J]))])
  (Tab.staysE ⟨fun _ _ _ _ _ _ h => h, fun _ _ _ _ _ _ h => h, fun _ _ _ _ _ _ h => h, fun _ _ _ _ _ _ h => h, fun _ _ _ _ _ _ h => h, fun _ _ _ _ _ _ h => h, fun _ _ _ _ _ _ h => h, fun _ _ _ _ _ hR ⟨v', e, h⟩ => ⟨v', e, PE_tin hR (by decide) h⟩, fun _ _ _ _ _ hR ⟨b, v', e, hb, h⟩ => ⟨b, v', e, PE_box hR (by decide) hb, PE_tin hR (by decide) h⟩, fun _ _ _ _ _ hR ⟨b, rv, ps, e, hb, hx, hr, hm⟩ => ⟨b, rv, ps, e, hb, PE_far hown hR hb hx, PE_rows hR hr, hm⟩, fun _ hj _ _ _ hR ⟨rv, ps, h, hr, hm⟩ => ⟨rv, ps, ownsRow_ext h (PE_off hj hR), PE_rows hR hr, hm⟩, trivial⟩)
  16 (by kernel_rfl) (by kernel_rfl) (by kernel_rfl) ((⟨hE0.trans hE, hE.le, hlb.ext hE, a0, a1, hv.ext hE, hnb.ext hE, ownsRow_ext hown hE, fun p hp => (hrows p hp).ext hE, hwr.ext hE, fun q cs T h1 _ _ => h1.ext hE, fun v qs h1 => h1.ext hE⟩ : LC w0 w w.heap.size B bl w.heap.size (w.heap.size + 1) bv bn (.slice al L.length cl) L x u wk wg m vm bm cm r v nk ng nu _).ext' (Ext.refl _).drew) ?_
 refine relE_val [] rfl rfl rfl (by kernel_rfl) (fun z hz hf => ?_) ?_
 ·have q0 : z.cell? ⟨bl, 0, none⟩ = some (.slice al L.length cl) := hz.lbox.cell 0
  go_simp
  exact ⟨hz, PE_ext (by decide) (Ext.refl z), rfl⟩
 simp only [Act.put, List.setIfInBounds_toArray, List.set_cons_zero, List.set_cons_succ]
 refine relE_quiet rfl rfl rfl rfl ?_; intro K hK; go_big_quiet_op; (first | refine ⟨_, fun _ _ => rfl, hK _ ?_⟩ | refine hK _ ?_); clear hK K
 refine relE_val [] rfl rfl rfl (by kernel_rfl) (fun z hz hf => ?_) ?_
 ·obtain ⟨q0, q1, q2⟩ := hz.was.pa
  go_simp
  exact ⟨hz, PE_ext (by decide) (Ext.refl z), rfl⟩
 simp only [Act.put, List.setIfInBounds_toArray, List.set_cons_zero, List.set_cons_succ]
 refine relE_val [] rfl rfl rfl (by kernel_rfl) (fun z hz hf => ?_) ?_
 ·obtain ⟨q0, q1, q2, q3, q4⟩ := hz.view.vw
  go_simp
  exact ⟨hz, PE_ext (by decide) (Ext.refl z), rfl⟩
 simp only [Act.put, List.setIfInBounds_toArray, List.set_cons_zero, List.set_cons_succ]
 refine relE_quiet rfl rfl rfl rfl ?_; intro K hK; go_big_quiet_op; (first | refine ⟨_, fun _ _ => rfl, hK _ ?_⟩ | refine hK _ ?_); clear hK K
 refine relE_val [] rfl rfl rfl (by kernel_rfl) (fun z hz hf => ?_) ?_
 ·obtain ⟨q0, q1, q2⟩ := hz.was.pa
  go_simp
  exact ⟨hz, PE_ext (by decide) (Ext.refl z), rfl⟩
 simp only [Act.put, List.setIfInBounds_toArray, List.set_cons_zero, List.set_cons_succ]
 refine relE_quiet rfl rfl rfl rfl ?_; intro K hK; go_big_quiet_op; (first | refine ⟨_, fun _ _ => rfl, hK _ ?_⟩ | refine hK _ ?_); clear hK K
 refine relE_val [] rfl rfl rfl (by kernel_rfl) (fun z hz hf => ?_) ?_
 ·obtain ⟨q0, q1, q2, q3, q4, q5, q6, q7⟩ := hz.wrow.at0
  go_simp
  exact ⟨hz, PE_ext (by decide) (Ext.refl z), rfl⟩
 simp only [Act.put, List.setIfInBounds_toArray, List.set_cons_zero, List.set_cons_succ]
 refine relE_val [] rfl rfl rfl (by kernel_rfl) (fun z hz hf => ?_) ?_
 ·obtain ⟨q0, q1, q2, q3, q4, q5, q6, q7⟩ := hz.row.ro
  go_simp
  exact ⟨hz, PE_ext (by decide) (Ext.refl z), rfl⟩
 simp only [Act.put, List.setIfInBounds_toArray, List.set_cons_zero, List.set_cons_succ]
 refine relE_quiet rfl rfl rfl rfl ?_; intro K hK; go_big_quiet_op; (first | refine ⟨_, fun _ _ => rfl, hK _ ?_⟩ | refine hK _ ?_); clear hK K
 refine relE_val [] rfl rfl rfl (by kernel_rfl) (fun z hz hf => ?_) ?_
 ·obtain ⟨q0, q1, q2⟩ := hz.now.pa
  go_simp
  exact ⟨hz, PE_ext (by decide) (Ext.refl z), rfl⟩
 simp only [Act.put, List.setIfInBounds_toArray, List.set_cons_zero, List.set_cons_succ]
 refine relE_fact [] rfl rfl rfl (by kernel_rfl) (fun z hz hf => ?_) (fun v8 z8 hC8 hG8 h8 => ?_)
 ·go_simp
  refine (left_any x u m r vm v ng z (hin.ext hz.ext)).mono ?_
  rw [← HJ.out]
  rintro e y ⟨v', he, hc, hy⟩
  exact ⟨_, he, hz.ext' hy, PE_ext (by decide) hy, v', rfl, hc⟩
 obtain ⟨v11, rfl, h11⟩ := h8
 obtain ⟨a11, c11, rfl⟩ := h11.shape
 clear hC8 hG8 h11
 simp only [Act.put, List.setIfInBounds_toArray, List.set_cons_zero, List.set_cons_succ]
 refine relE_fact [11] rfl rfl rfl (by kernel_rfl) (fun z hz hf => ?_) (fun v4 z4 hC4 hG4 h4 => ?_)
 ·obtain ⟨v', e, hc⟩ := (hf 11 (by simp)).2 rfl
  cases e
  go_simp
  exact ⟨hz.ext' ((Ext.refl z).alloc _), PE_ext (by decide) ((Ext.refl z).alloc _), _, rfl, _, BoxAt.made z _ _, hc.ext ((Ext.refl z).alloc _)⟩
 obtain ⟨b12, v12, rfl, _, _⟩ := h4
 clear hC4 hG4
 simp only [Act.put, List.setIfInBounds_toArray, List.set_cons_zero, List.set_cons_succ]
 refine relE_quiet rfl rfl rfl rfl ?_; intro K hK; go_big_quiet_op; (first | refine ⟨_, fun _ _ => rfl, hK _ ?_⟩ | refine hK _ ?_); clear hK K
 refine relE_fact [12] rfl rfl rfl (by kernel_rfl) (fun z hz hf => ?_) (fun v4 z4 hC4 hG4 h4 => ?_)
 ·obtain ⟨b, v', e, hb, hc⟩ := (hf 12 (by simp)).2 rfl
  cases e
  go_simp
  exact ⟨hz.ext' ((Ext.refl z).alloc _), PE_ext (by decide) ((Ext.refl z).alloc _), _, rfl, hz.size, _, BoxAt.made z _ _, _, RowsT.one (hb.ext ((Ext.refl z).alloc _)) (hc.ext ((Ext.refl z).alloc _)), ⟨_, rfl⟩⟩
 obtain ⟨b14, rv14, ps14, rfl, _, _, _, _⟩ := h4
 clear hC4 hG4
 simp only [Act.put, List.setIfInBounds_toArray, List.set_cons_zero, List.set_cons_succ]
 refine relE_fact [14] rfl rfl rfl (by kernel_rfl) (fun z hz hf => ?_) (fun v5 z5 hC5 hG5 h5 => ?_)
 ·obtain ⟨b, rv, ps, e, hb, hbox, hr, hm⟩ := (hf 14 (by simp)).2 rfl
  cases e
  obtain ⟨ar, cr, rfl⟩ := hr.shape
  refine yields_append info_Part und_Parts rfl (by decide) (.tmp 7) (.tmp 21) rfl B (Nat.le_trans hBw hz.size) (.slice al L.length cl) L.length (paCells L) hz.own (by rfl) b14 1 1 (pa3 wk 0 (.slice ar ps.length cr)).toList (by rfl) (by rfl) (fun j u hj => by rw [hbox.cell j]; simpa using hj) (by simp [pa3, Value.oneCell']) (by unfold maxLen; omega) (by omega) ?_
  intro v' y hown' hg hkeep
  have hR : PE (.slice al L.length cl) B 15 15 z y := by unfold PE; rw [if_pos rfl]; exact ⟨⟨_, _, hz.own⟩, hg⟩
  refine ⟨⟨hz.ext.grown hg (fun q hq => Nat.le_trans hB (hz.own.lt q hq).1), Nat.le_trans hz.size hg.size, PE_box hR (by decide) hz.lbox, PE_far hown hR (Nat.le_refl _) hz.was, PE_box hR (by decide) hz.row, PE_box hR (by decide) hz.view, hz.now.grown hg (fun e => by have := (hz.own.lt _ e.symm).1; omega), hkeep, fun p hp => PE_rows hR (hz.rows p hp), PE_rows hR hz.wrow, fun q cs T h1 h2 h3 => (hz.keep q cs T h1 h2 h3).grown hg h3, fun v qs h1 => PE_rows hR (hz.keepR v qs h1)⟩, hR, _, _, ?_, PE_rows hR hr, hm⟩
  rw [paCells_append]
  exact hown'
 obtain ⟨rv15, ps15, h5, _, _⟩ := h5
 obtain ⟨a5, c5, rfl⟩ := own_shape h5
 clear hC5 hG5 h5
 simp only [Act.put, List.setIfInBounds_toArray, List.set_cons_zero, List.set_cons_succ]
 refine relE_tail rfl rfl fun w9 hC hG => ?_
 obtain ⟨rv, ps, hown9, hr9, hm9⟩ := (hG 15).2 rfl
 have q0 : w9.cell? ⟨bl, 0, none⟩ = some (.slice al L.length cl) := hC.lbox.cell 0
 have qf := hC.lbox.free 0
 go_wp2_with fail
 refine bodyPost_end (v := .tuple #[]) ?_ rfl ⟨⟨_, rfl⟩, hC.ext.setCell (p := ⟨bl, 0, none⟩) hBl _, fun q cs T h1 h2 h3 => (hC.keep q cs T h1 h2 h3).other h2 0 _, fun v qs h1 => (hC.keepR v qs h1).set 0 _ hC.lbox (by decide) (by decide), _, rv, ps, hC.lbox.set 0 _, own_setCell hown9 (own_ne_box hown9 hC.lbox (by decide)), hr9.set 0 _ hC.lbox (by decide) (by decide), hm9⟩
 simp [results, Tryz.results50]
end Go.Proofs.YtolkhjdododdaaaGreatDoor
