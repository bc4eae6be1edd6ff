/- RowSpoilt: the law's walk. -/
import Derived.Test.YtobanilgofhgkaaDoorGenRow
import Derived.Test.YtobanilgofhgkaaDoorAppCols
import Derived.Laws.OwnMore
namespace Go.Proofs.YtobanilgofhgkaaDoor
open Go Go.RowKit
attribute [local go_sem] yields yUpon ro8

theorem Ext.put4g {a w : World} (h : Ext a w) {p : Nat} (hp : a.heap.size ≤ p) {v0 v1 v2 v3 : Value} : Ext a ((((w.setCell ⟨p, 1, none⟩ v0).setCell ⟨p, 2, none⟩ v1).setCell ⟨p, 3, none⟩ v2).setCell ⟨p, 4, none⟩ v3) :=
  (((h.setCell hp _).setCell hp _).setCell hp _).setCell hp _
theorem own_made1 (w : World) (c : Co) : (w.alloc (.cells (co5 c) 36)).ownsRow w.heap.size 36 5 (.slice (some ⟨w.heap.size, 0, none⟩) 1 1) [c].length (coCells [c]) :=
  ⟨rfl, .inr ⟨w.heap.size, 1, co5 c, rfl, Nat.le_refl _, heap_alloc_new w _, Nat.le_refl 1, by unfold maxLen; decide, rfl, rfl⟩⟩
theorem own_set {w : World} {B : Nat} {e : TypeId} {size : Nat} {v : Value} {n : Nat} {xs : List Value} {q i : Nat} {u : Value} (h : w.ownsRow B e size v n xs) (hne : v.ownBlock = none ∨ v.ownBlock ≠ some q) : (w.setCell ⟨q, i, none⟩ u).ownsRow B e size v n xs :=
  h.kept (row := some q) ⟨rfl, rfl, rfl, by rw [Deep.nblk_setCell]; exact Nat.le_refl _, fun k _ hk => Deep.blk_setCell_other _ _ _ _ (fun e => hk (by rw [e]))⟩ hne
theorem cols_own' {w : World} {B L : Nat} {v : Value} {l : List Co} (h : w.ownsRow B 36 5 v L (coCells l)) (hL : L = l.length) : ColsIn w v l := by subst hL; exact cols_own h
theorem und_b8 : Tryd.prog.underlying 37 = some (.slice 5) := by kernel_rfl
theorem und_e8 : Tryd.prog.underlying 5 = some (.int .u8) := by kernel_rfl
theorem und_s8 : Tryd.prog.underlying 9 = some .string := by kernel_rfl
theorem info_b8 : Tryd.prog.info? 5 = some (Tryd.prog.info? 5).get! ∧ (Tryd.prog.info? 5).get!.zero = some (.int .u8 0) ∧ (Tryd.prog.info? 5).get!.size = 1 ∧ (Tryd.prog.info? 5).get!.bytes = 1 := ⟨by kernel_rfl, by kernel_rfl, by kernel_rfl, by kernel_rfl⟩
theorem made_bytes (N : Nat) : (madeCells (Value.int .u8 0).cells (N * 1)).toList = bcells (List.replicate N 0) := by
  unfold madeCells bcells
  rw [Nat.mul_one, Array.toList_map, List.map_replicate]
  refine List.eq_replicate_iff.2 ⟨by simp, fun b hb => ?_⟩
  obtain ⟨i, _, rfl⟩ := List.mem_map.1 hb
  simp [Value.cells, Nat.mod_one]
theorem low_app {l m : List Co} (h : ∀ c ∈ l, Low c.name) (k : ∀ c ∈ m, Low c.name) : ∀ c ∈ l ++ m, Low c.name := fun c hc => (List.mem_append.1 hc).elim (h c) (k c)
theorem low_A : Low spA.name := ⟨by decide, by decide⟩
theorem low_E : Low spE.name := ⟨by decide, fun i h => absurd h (by simp [spE, ByteArray.size])⟩
theorem low_Z : Low spZ.name := ⟨by decide, by decide⟩

set_option maxRecDepth 100000 in
set_option maxHeartbeats 8000000 in
theorem law_rowSpoilt (v0 : Value) (z : List Int) (how vv : Int) (hz : z.length ≤ 30) (w : World) (hin : IntsIn w v0 .i64 z) :
    Calls Tryd.prog 3 #[v0, .int .i64 how, .int .i64 vv] w fun e w' => e = .returned (.bool true) ∧ Ext w w' := by
  obtain ⟨a, c, rfl, hc, hcm, ha⟩ := hin.block
  have k1 : decide ((30 : Int) < (z.length : Int)) = false := by simp; omega
  obtain ⟨k, hk⟩ : ∃ k, k = vv % 100 := ⟨_, rfl⟩
  have k0 : 0 ≤ k ∧ k < 100 := by omega
  obtain ⟨kk, hkk⟩ : ∃ kk, kk = 1 + k := ⟨_, rfl⟩
  have wk : IntKind.i64.wrap (1 + k) = kk := by rw [IntKind.wrap_i64]; omega
  have kk0 : 1 ≤ kk ∧ kk ≤ 100 := by omega
  have HK := Lib.hid hk
  clear hk hkk hc hcm ha k0
  go_enter Tryd.func3, Tryd.ntmps3
  go_wp2_with fail
  refine (lrow_any w w.heap.size (Nat.le_refl _) ⟨#[107]⟩ _ ((Ext.refl w).alloc _) ⟨_, z, BoxAt.made w _ _, hin⟩).mono ?_
  rintro e w1 ⟨r, vc, rfl, hkey, hgr, hown, hg1, _⟩
  obtain ⟨hr, _, hlow, hcb, hlen⟩ := gen_row hgr (by rw [hkey]; decide)
  have hX : Ext w w1 := ((Ext.refl w).alloc _).grown hg1 (fun q hq => by cases hq; exact Nat.le_refl _)
  obtain ⟨av, cv, rfl⟩ := ownsRow_shape hown
  have hw1 := hX.le
  have hne : Value.ownBlock (.slice av r.cols.length cv) = none ∨ Value.ownBlock (.slice av r.cols.length cv) ≠ some w1.heap.size := by
    cases e : Value.ownBlock (.slice av r.cols.length cv) with
    | none => exact .inl rfl
    | some g => exact .inr (fun h => by have := (hown.lt g e).2; have := Option.some.inj h; omega)
  have hbox : BoxAt (w1.alloc (.cells (ro8 r (.slice av r.cols.length cv)) 31)) w1.heap.size (ro8 r (.slice av r.cols.length cv)) 31 := BoxAt.made _ _ _
  replace hown := ownsRow_ext hown ((Ext.refl w1).alloc (.cells (ro8 r (.slice av r.cols.length cv)) 31))
  replace hX := hX.alloc (.cells (ro8 r (.slice av r.cols.length cv)) 31)
  clear hg1 hgr hkey hin
  have HR := Lib.hid hr
  have HLow := Lib.hid hlow
  have HCb := Lib.hid hcb
  clear hr hlow hcb
  obtain ⟨key, live, gone, shade, cols⟩ := r
  dsimp only at *
  go_wp2_with fail
  refine (rcheck_any ⟨key, live, gone, shade, cols⟩ _ _ (cols_own hown) (low_get HLow.out)).mono ?_
  rw [HR.out]
  rintro e w2 ⟨rfl, hE2⟩
  replace hbox := hbox.ext hE2
  replace hown := ownsRow_ext hown hE2
  replace hX := hX.trans hE2
  clear hE2 HR
  have hq := hbox.lt
  have y : ∀ i, w2.cell? ⟨w1.heap.size, i, none⟩ = (ro8 ⟨key, live, gone, shade, cols⟩ (.slice av cols.length cv))[i]? := fun i => hbox.cell i
  have yf := hbox.free
  have ya := hbox.allocs
  have wn : IntKind.i64.wrap (-kk) = -kk := by rw [IntKind.wrap_i64]; omega
  have w6 : IntKind.i64.wrap (1099511627776 + kk) = 1099511627776 + kk := by rw [IntKind.wrap_i64]; omega
  have w7 : IntKind.i64.wrap (400 + kk) = 400 + kk := by rw [IntKind.wrap_i64]; omega
  go_wp2_with fail
  refine (place_any _ _ (by omega) (by omega) _).mono ?_
  rw [← HK.out]
  rintro e w3 ⟨rfl, rfl⟩
  go_wp2_with fail
  refine (place_any _ _ (by omega) (by omega) _).mono ?_
  obtain h8 | h8 | h8 | h8 | h8 | h8 | h8 | h8 : how % 8 = 0 ∨ how % 8 = 1 ∨ how % 8 = 2 ∨ how % 8 = 3 ∨ how % 8 = 4 ∨ how % 8 = 5 ∨ how % 8 = 6 ∨ how % 8 = 7 := by omega
  all_goals
    rw [h8]
    rintro e w3 ⟨rfl, rfl⟩
    clear h8 HK wk
  · have hcols := cols_own hown
    go_wp2_with (first
      | ((guard_target =~ wpList _ _ _ (Oper.mk (some 36) _ _ _ _ _ :: _) _ _); at_builtin; go_must (refine appCols w2 rfl (.const (.slice none 0 0)) (.tmp 35) rfl w2.heap.size (Nat.le_refl _) _ [] (World.ownsRow_nil _ _ _ _) (by rfl) _ cols hcols (by rfl) (by simp; omega) ?_); intro v4 w4 hown4 hg4; obtain ⟨a4, c4, rfl⟩ := ownsRow_shape hown4; have hbox4 := hbox.grown hg4 (by simp [Value.ownBlock]); have hX4 := hX.grown hg4 (fun q hq => by cases hq); have hs4 := hg4.size)
      | ((guard_target =~ wpList _ _ _ (Oper.mk (some 42) _ _ _ _ _ :: _) _ _); at_builtin; go_must (refine appCols (w4.alloc (.cells (co5 spA ++ co5 spA) 36)) rfl (.tmp 36) (.tmp 41) rfl w2.heap.size (Nat.le_trans hs4 ((Ext.refl w4).alloc _).le) _ ([] ++ cols) (ownsRow_ext hown4 ((Ext.refl w4).alloc _)) (by rfl) _ [spA, spA] (cols_two w4 spA spA _) (by rfl) (by simp; omega) ?_); intro v5 w5 hown5 hg5; rw [List.nil_append] at hown5; obtain ⟨L5, hL5⟩ : ∃ L, L = (cols ++ [spA, spA]).length := ⟨_, rfl⟩; rw [← hL5] at hown5; replace hL5 := Lib.hid hL5; obtain ⟨a5, c5, rfl⟩ := ownsRow_shape hown5; have hne5 := fun q (hq5 : Value.ownBlock _ = some q) => ((ownsRow_ext hown4 ((Ext.refl w4).alloc (.cells (co5 spA ++ co5 spA) 36))).lt q hq5).1; have hbox5 := (hbox4.ext ((Ext.refl w4).alloc _)).grown hg5 (fun e => by have := hne5 _ e.symm; omega); have hX5 := (hX4.alloc _).grown hg5 (fun q hq5 => by have := hne5 q hq5; omega); have y5 : ∀ i, w5.cell? ⟨w1.heap.size, i, none⟩ = (ro8 ⟨key, live, gone, shade, cols⟩ (.slice av cols.length cv))[i]? := (fun i => hbox5.cell i); have yf5 := hbox5.free))
    refine (rcheck_any ⟨key, live, gone, shade, cols ++ [spA, spA]⟩ _ _ (cols_own' (ownsRow_setCell_below hown5 (a := ⟨w1.heap.size, 7, none⟩) hq _) hL5.out) (low_get (low_app HLow.out (by intro c hc; simp at hc; subst hc; exact low_A)))).mono ?_
    rw [rowB_cols (sp0 cols)]
    rintro e w8 ⟨rfl, hE8⟩
    go_wp2_with fail
    refine (rawake_any _).mono ?_
    rintro e w9 ⟨rfl, hE9⟩
    go_wp2
    go_ret
    exact ⟨rfl, ((hX5.setCell (p := ⟨w1.heap.size, 7, none⟩) (by show w.heap.size ≤ w1.heap.size; omega) _).trans hE8).trans hE9⟩
  · have hcols := cols_own hown
    go_wp2_with ((guard_target =~ wpList _ _ _ (Oper.mk (some 51) _ _ _ _ _ :: _) _ _); at_builtin; go_must (refine appCols (w2.alloc (.cells (co5 spE) 36)) rfl (.tmp 48) (.tmp 50) rfl w2.heap.size ((Ext.refl w2).alloc _).le _ [spE] (own_made1 w2 spE) (by rfl) _ cols (hcols.ext ((Ext.refl w2).alloc _)) (by rfl) (by simp; omega) ?_); intro v5 w5 hown5 hg5; obtain ⟨L5, hL5⟩ : ∃ L, L = ([spE] ++ cols).length := ⟨_, rfl⟩; rw [← hL5] at hown5; replace hL5 := Lib.hid hL5; obtain ⟨a5, c5, rfl⟩ := ownsRow_shape hown5; have hne5 := fun q (hq5 : Value.ownBlock _ = some q) => ((own_made1 w2 spE).lt q hq5).1; have hbox5 := (hbox.ext ((Ext.refl w2).alloc _)).grown hg5 (fun e => by have := hne5 _ e.symm; omega); have hX5 := (hX.alloc _).grown hg5 (fun q hq5 => by have := hne5 q hq5; omega); have y5 : ∀ i, w5.cell? ⟨w1.heap.size, i, none⟩ = (ro8 ⟨key, live, gone, shade, cols⟩ (.slice av cols.length cv))[i]? := (fun i => hbox5.cell i); have yf5 := hbox5.free)
    refine (rcheck_any ⟨key, live, gone, shade, [spE] ++ cols⟩ _ _ (cols_own' (ownsRow_setCell_below hown5 (a := ⟨w1.heap.size, 7, none⟩) hq _) hL5.out) (low_get (low_app (by intro c hc; simp at hc; subst hc; exact low_E) HLow.out))).mono ?_
    rw [rowB_cols (sp1 cols)]
    rintro e w8 ⟨rfl, hE8⟩
    go_wp2_with fail
    refine (rawake_any _).mono ?_
    rintro e w9 ⟨rfl, hE9⟩
    go_wp2
    go_ret
    exact ⟨rfl, ((hX5.setCell (p := ⟨w1.heap.size, 7, none⟩) (by show w.heap.size ≤ w1.heap.size; omega) _).trans hE8).trans hE9⟩
  · have hcols := cols_own hown
    go_wp2_with (first
      | ((guard_target =~ wpList _ _ _ (Oper.mk (some 57) _ _ _ _ _ :: _) _ _); at_builtin; go_must (refine appCols w2 rfl (.const (.slice none 0 0)) (.tmp 56) rfl w2.heap.size (Nat.le_refl _) _ [] (World.ownsRow_nil _ _ _ _) (by rfl) _ cols hcols (by rfl) (by simp; omega) ?_); intro v4 w4 hown4 hg4; obtain ⟨a4, c4, rfl⟩ := ownsRow_shape hown4; have hbox4 := hbox.grown hg4 (by simp [Value.ownBlock]); have hX4 := hX.grown hg4 (fun q hq => by cases hq); have hs4 := hg4.size)
      | ((guard_target =~ wpList _ _ _ (Oper.mk (some 60) _ _ _ _ _ :: _) _ _); at_builtin; go_must (refine appCols (w4.alloc (.cells (co5 spZ) 36)) rfl (.tmp 57) (.tmp 59) rfl w2.heap.size (Nat.le_trans hs4 ((Ext.refl w4).alloc _).le) _ ([] ++ cols) (ownsRow_ext hown4 ((Ext.refl w4).alloc _)) (by rfl) _ [spZ] (cols_one w4 spZ _) (by rfl) (by simp; omega) ?_); intro v5 w5 hown5 hg5; rw [List.nil_append] at hown5; obtain ⟨L5, hL5⟩ : ∃ L, L = (cols ++ [spZ]).length := ⟨_, rfl⟩; rw [← hL5] at hown5; replace hL5 := Lib.hid hL5; obtain ⟨a5, c5, rfl⟩ := ownsRow_shape hown5; have hne5 := fun q (hq5 : Value.ownBlock _ = some q) => ((ownsRow_ext hown4 ((Ext.refl w4).alloc (.cells (co5 spZ) 36))).lt q hq5).1; have hbox5 := (hbox4.ext ((Ext.refl w4).alloc _)).grown hg5 (fun e => by have := hne5 _ e.symm; omega); have hX5 := (hX4.alloc _).grown hg5 (fun q hq5 => by have := hne5 q hq5; omega); have y5 : ∀ i, w5.cell? ⟨w1.heap.size, i, none⟩ = (ro8 ⟨key, live, gone, shade, cols⟩ (.slice av cols.length cv))[i]? := (fun i => hbox5.cell i); have yf5 := hbox5.free))
    refine (rcheck_any ⟨key, live, gone, shade, cols ++ [spZ]⟩ _ _ (cols_own' (ownsRow_setCell_below hown5 (a := ⟨w1.heap.size, 7, none⟩) hq _) hL5.out) (low_get (low_app HLow.out (by intro c hc; simp at hc; subst hc; exact low_Z)))).mono ?_
    rw [rowB_cols (sp2 cols)]
    rintro e w8 ⟨rfl, hE8⟩
    go_wp2_with fail
    refine (rawake_any _).mono ?_
    rintro e w9 ⟨rfl, hE9⟩
    go_wp2
    go_ret
    exact ⟨rfl, ((hX5.setCell (p := ⟨w1.heap.size, 7, none⟩) (by show w.heap.size ≤ w1.heap.size; omega) _).trans hE8).trans hE9⟩
  · go_wp2_with fail
    refine (rcheck_any ⟨key, ⟨⟨#[120]⟩, false, 5, 0⟩, gone, shade, cols⟩ _ _ (cols_own (own_set (own_set (own_set (own_set hown hne) hne) hne) hne)) (low_get HLow.out)).mono ?_
    rw [rowB_head (by simp [headB, ByteArray.toList_eq])]
    rintro e w8 ⟨rfl, hE8⟩
    go_wp2_with fail
    refine (rawake_any _).mono ?_
    rintro e w9 ⟨rfl, hE9⟩
    go_wp2
    go_ret
    exact ⟨rfl, ((hX.put4g (by omega)).trans hE8).trans hE9⟩
  · go_wp2_with fail
    refine (rcheck_any ⟨key, ⟨⟨#[]⟩, true, 5, 0⟩, gone, shade, cols⟩ _ _ (cols_own (own_set (own_set (own_set (own_set hown hne) hne) hne) hne)) (low_get HLow.out)).mono ?_
    rw [rowB_head (by simp [headB])]
    rintro e w8 ⟨rfl, hE8⟩
    go_wp2_with fail
    refine (rawake_any _).mono ?_
    rintro e w9 ⟨rfl, hE9⟩
    go_wp2
    go_ret
    exact ⟨rfl, ((hX.put4g (by omega)).trans hE8).trans hE9⟩
  · go_wp2_with fail
    refine (rcheck_any ⟨key, live, -kk, shade, cols⟩ _ _ (cols_own (own_set hown hne)) (low_get HLow.out)).mono ?_
    rw [rowB_head (by simp [headB, stampB]; omega)]
    rintro e w8 ⟨rfl, hE8⟩
    go_wp2_with fail
    refine (rawake_any _).mono ?_
    rintro e w9 ⟨rfl, hE9⟩
    go_wp2
    go_ret
    exact ⟨rfl, ((hX.setCell (p := ⟨w1.heap.size, 5, none⟩) (by show w.heap.size ≤ w1.heap.size; omega) _).trans hE8).trans hE9⟩
  · go_wp2_with fail
    refine (rcheck_any ⟨key, live, gone, 1099511627776 + kk, cols⟩ _ _ (cols_own (own_set hown hne)) (low_get HLow.out)).mono ?_
    rw [rowB_head (by simp [headB, stampB]; omega)]
    rintro e w8 ⟨rfl, hE8⟩
    go_wp2_with fail
    refine (rawake_any _).mono ?_
    rintro e w9 ⟨rfl, hE9⟩
    go_wp2
    go_ret
    exact ⟨rfl, ((hX.setCell (p := ⟨w1.heap.size, 6, none⟩) (by show w.heap.size ≤ w1.heap.size; omega) _).trans hE8).trans hE9⟩
  · obtain ⟨N, hN⟩ : ∃ N : Nat, N = (400 + kk).toNat := ⟨_, rfl⟩
    have eN : 400 + kk = (N : Int) := by omega
    obtain ⟨w4, he, hown4, hg4⟩ := run_makeSlice_full w2 w2.heap.size 37 5 _ _ 1 und_b8 info_b8.1 info_b8.2.1 info_b8.2.2.1 .i64 .i64 N (by omega) (by rw [info_b8.2.2.2]; omega) (by unfold maxLen; omega) (Nat.le_refl _)
    have he2 : (Instr.makeSlice 37 (.int .i64 (400 + kk)) (.int .i64 (400 + kk))).run Tryd.prog w2 = .ok (.slice (some ⟨w2.heap.size, 0, none⟩) N N) w4 := by rw [eN]; exact he
    have hb : BytesIn w4 (.slice (some ⟨w2.heap.size, 0, none⟩) N N) (List.replicate N 0) := by
      have := SliceIn.of_owns hown4
      rw [made_bytes] at this
      unfold BytesIn
      rw [List.length_replicate]
      exact this
    have hbox4 := hbox.grown hg4 (by simp)
    have hX4 := hX.grown hg4 (fun q hq => by cases hq)
    have hown5 := hown.kept hg4 (by cases e : Value.ownBlock (.slice av cols.length cv) with
      | none => exact .inl rfl
      | some g => exact .inr nofun)
    have y4 : ∀ i, w4.cell? ⟨w1.heap.size, i, none⟩ = (ro8 ⟨key, live, gone, shade, cols⟩ (.slice av cols.length cv))[i]? := fun i => hbox4.cell i
    have yf4 := hbox4.free
    have HE := Lib.hid he2
    have HN : Hid (400 < (N : Int)) := by show 400 < (N : Int); omega
    clear he hown4 hg4 he2 eN hN
    go_wp2_with fail
    rw [HE.out]
    simp only [Result.andThen]
    rw [Oper.upon_value]
    go_wp2_with fail
    rw [run_convert_bytesIn _ 37 9 5 und_b8 und_e8 und_s8 hb]
    simp only [Result.andThen]
    rw [Oper.upon_value]
    go_wp2_with fail
    refine (rcheck_any ⟨str (List.replicate N 0), live, gone, shade, cols⟩ _ _ (cols_own (own_set hown5 hne)) (low_get HLow.out)).mono ?_
    rw [rowB_head (by have := HN.out; simp [headB]; omega)]
    rintro e w8 ⟨rfl, hE8⟩
    go_wp2_with fail
    refine (rawake_any _).mono ?_
    rintro e w9 ⟨rfl, hE9⟩
    go_wp2
    go_ret
    exact ⟨rfl, ((hX4.setCell (p := ⟨w1.heap.size, 0, none⟩) (by show w.heap.size ≤ w1.heap.size; omega) _).trans hE8).trans hE9⟩

set_option maxHeartbeats 1000000 in
theorem law_rowSpoilt_big (v0 : Value) (z : List Int) (how vv : Int) (hz : 30 < z.length) (w : World) (hin : IntsIn w v0 .i64 z) :
    Calls Tryd.prog 3 #[v0, .int .i64 how, .int .i64 vv] w fun e w' => e = .returned (.bool true) ∧ Ext w w' := by
  obtain ⟨a, c, rfl, hc, hcm, ha⟩ := hin.block
  have k1 : decide ((30 : Int) < (z.length : Int)) = true := by simp; omega
  clear hin
  go_enter Tryd.func3, Tryd.ntmps3
  go_wp2_with fail
  refine (rawake_any _).mono ?_
  rintro e w1 ⟨rfl, hE⟩
  go_wp2
  go_ret
  exact ⟨rfl, hE⟩

theorem walk_rowSpoilt (v0 : Value) (how vv : Int) (w : World) (w0 : ∃ l : List Int, IntsIn w v0 .i64 l ∧ ∀ n ∈ l, (Lit.int .i64 n).wf = true) (_ : (Lit.int .i64 how).wf = true) (_ : (Lit.int .i64 vv).wf = true) :
    Calls Tryd.prog 3 #[v0, .int .i64 how, .int .i64 vv] w fun e w' => e = .returned (.bool true) ∧ Ext w w' := by
  obtain ⟨z, hin, _⟩ := w0
  by_cases h : 30 < z.length
  · exact law_rowSpoilt_big v0 z how vv h w hin
  · exact law_rowSpoilt v0 z how vv (by omega) w hin
end Go.Proofs.YtobanilgofhgkaaDoor
