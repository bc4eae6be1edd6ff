/- part.Check of any partition. -/
import Derived.Test.YteamiiekpjoclaaDoorP7
import Derived.Test.YteamiiekpjoclaaDoorP6
import Derived.Lib.SliceRun
set_option linter.unusedSimpArgs false
set_option linter.unusedVariables false
namespace Go.Proofs.YteamiiekpjoclaaDoor
open Go Go.RowKit
attribute [local go_sem] yields yUpon ro8 pa3

set_option maxRecDepth 100000 in
set_option maxHeartbeats 8000000 in
theorem pcheck_gen (pk : ByteArray) (pg : Int) (pu : Value) (ps : List (Ro × Value)) (w : World) (hin : RowsIn w pu ps) (hlow : ∀ p ∈ ps, ∀ c ∈ p.1.cols, c.name.size ≤ 1000000) (hT : TabU w) :
    Calls Tryd.prog 36 #[.agg #[.string pk, .int .i64 pg, pu]] w fun e w' => e = .returned (.bool (ptB pk pg (ps.map (·.1)))) ∧ Ext w w' := by
  have a0 := BoxAt.made w (pa3 pk pg pu) 35
  have hE := (Ext.refl w).alloc (.cells (pa3 pk pg pu) 35)
  have hT0 := hT.ext hE
  obtain ⟨aa, ca, rfl, hca, hcma, hget⟩ := hin.get
  clear hT
  have c0 := a0.pa
  obtain ⟨n, hn⟩ : ∃ n, n = ps.length := ⟨_, rfl⟩
  rw [← hn] at hca a0 hE c0 hT0 ⊢
  obtain ⟨P, hP⟩ : ∃ P, P = ptB pk pg (ps.map (·.1)) := ⟨_, rfl⟩
  have hP2 : P = (!decide (100 < (pk.size : Int)) && !decide (pg < 0) && !decide (1099511627776 < pg) && !decide (100 < (n : Int)) && rsB none (ps.map (·.1))) := by rw [hP, hn]; unfold ptB; rw [List.length_map]
  rw [← hP]
  have HP := Lib.hid hP2
  have HN := Lib.hid hn
  have HGET := Lib.hid hget
  have HC := Lib.hid hin.cols
  have HL := Lib.hid hlow
  clear hn hget hin hP hP2 hlow
  cases q1 : decide (100 < (pk.size : Int))
  · cases q2 : decide (pg < 0)
    · cases q3 : decide (1099511627776 < pg)
      · cases q4 : decide (100 < (n : Int))
        · have HP2 : Hid (P = rsB none (ps.map (·.1))) := by show P = _; rw [HP.out, q1, q2, q3, q4]; rfl
          clear HP
          go_enter Tryd.func36, Tryd.ntmps36
          go_wp2_with fail
          go_loopw [28] (fun i wr => ∃ k : Nat, k ≤ n ∧ i = .int .i64 k ∧ BoxAt wr w.heap.size (pa3 pk pg (.slice aa n ca)) 35 ∧ Ext w wr ∧ TabU wr ∧ Hid (P = rsB (prevR ps k) ((ps.drop k).map (·.1)))) (fun i _ => n - (intOf i).toNat)
          case atStart => exact ⟨0, Nat.zero_le _, rfl, a0, hE, hT0, HP2⟩
          case round =>
            obtain ⟨k, hkn, rfl, b0, hE1, hT1, HX⟩ := hrel
            clear a0 c0 hE q1 q2 q3 q4 HP2 hT0
            have hz := b0.pa.1
            clear hz
            by_cases hlt : k < n
            · have hkp : k < ps.length := by rw [← HN.out]; exact hlt
              have hD : ps.drop k = ps[k] :: ps.drop (k + 1) := List.drop_eq_getElem_cons hkp
              have hD2 : P = (rwB ps[k].1 && orB (prevR ps k) ps[k].1.key && rsB (prevR ps (k + 1)) ((ps.drop (k + 1)).map (·.1))) := by
                rw [HX.out, prevR_succ hD, hD]
                rfl
              obtain ⟨b, o, rfl, hat⟩ := HGET.out k hkp
              have hcu := HC.out _ (List.getElem_mem hkp)
              have hll := HL.out _ (List.getElem_mem hkp)
              obtain ⟨M, hM⟩ : ∃ M, M = ps[k].1 := ⟨_, rfl⟩
              obtain ⟨au, cu, hu⟩ := hcu.shape
              have HM := Lib.hid hM
              rw [← hM] at hat hu hcu hll hD2
              rw [hu] at hat hcu
              have HD := Lib.hid hD2
              clear hM hu hD hD2 HX
              obtain ⟨m, hm⟩ : ∃ m, m = M.cols.length := ⟨_, rfl⟩
              rw [← hm] at hat hcu
              have HMM := Lib.hid hm
              have HLL := Lib.hid hll
              clear hm hll
              have hki : decide ((k : Int) < (n : Int)) = true := by simpa using hlt
              have hat1 := hat.ext hE1
              have hcu1 := hcu.ext hE1
              clear hat hcu
              obtain ⟨B, hB⟩ : ∃ B, B = rwB M := ⟨_, rfl⟩
              have HB := Lib.hid hB
              rw [← hB] at HD
              clear hB
              obtain ⟨x0, x1, x2, x3, x4, x5, x6, x7⟩ := hat1
              go_wp2_with (((guard_target =~ wpList _ _ _ (Oper.mk none (Op.store _ (Operand.tmp 4) (Operand.tmp 32)) _ _ _ _ :: _) _ _); go_must (refine storeBox rfl 26 (.tmp 4) (.tmp 32) rfl (wr.heap.size) _ _ _ (by rfl) (by rfl) ((BoxAt.made wr (ro8 ⟨⟨#[]⟩, zeroCl, 0, 0, []⟩ (.slice none 0 0)) 26)) (by kernel_rfl) (by rfl) (by simp [Value.oneCell']) ?_); intro w4 c4 g4))
              have hX4 : Ext wr w4 := ((Ext.refl wr).alloc _).grown g4 (fun q hq => by cases hq; omega)
              have d4 : BoxAt w4 wr.heap.size (ro8 M (.slice au m cu)) 26 := c4
              have b4 := b0.ext hX4
              have hE4 := hE1.trans hX4
              have hT4 := hT1.ext hX4
              have hcu4 := hcu1.ext hX4
              clear c4 g4 x0 x1 x2 x3 x4 x5 x6 x7 b0 hcu1
              simp only [Act.put]
              refine wp_region_in 19 [(1, fun v _ => v = .bool B)] (fun y => BoxAt y wr.heap.size (ro8 M (.slice au m cu)) 26 ∧ BoxAt y w.heap.size (pa3 pk pg (.slice (some ⟨b, o, none⟩) n ca)) 35 ∧ ColsIn y (.slice au m cu) M.cols ∧ Ext w y ∧ TabU y) (by kernel_rfl) (by kernel_rfl) (by kernel_rfl) ⟨stays_eq _, trivial⟩ ⟨d4, b4, hcu4, hE4, hT4⟩ ?_
              clear d4 b4 hE4 hcu4 hE1 hX4 hT4 hT1
              rintro w5 ⟨d5, b5, hcu, hE, hT5⟩
              have FIN : Hid (∀ wx, Ext w5 wx → BoxAt wx w.heap.size (pa3 pk pg (.slice (some ⟨b, o, none⟩) n ca)) 35 ∧ Ext w wx) := fun wx h => ⟨b5.ext h, hE.trans h⟩
              obtain ⟨x0, x1, x2, x3, x4, x5, x6, x7⟩ := d5.ro
              obtain ⟨y0, y1, y2⟩ := b5.pa
              clear d5 b5
              replace x0 := held x0
              replace x1 := held x1
              replace x2 := held x2
              replace x3 := held x3
              replace x4 := held x4
              replace x5 := held x5
              replace x6 := held x6
              replace x7 := held x7
              replace y2 := held y2
              clear y0 y1
              refine rg_quiet rfl rfl rfl rfl ?_; intro K hK; go_big_quiet_op; go_big_quiet_on
              refine rg_val [] rfl rfl rfl (by kernel_rfl) (fun w1 hE hf => ?_) ?_
              · go_simp
                rw [HMM.out]
                refine (rcheck_gen M _ w1 (by rw [← HMM.out]; exact hcu.ext hE) HLL.out (hT5.ext hE)).mono ?_
                rintro e w' ⟨he, hw⟩
                exact ⟨_, he, rg_done hE hw (by rw [HB.out])⟩
              simp only [Act.put, List.setIfInBounds_toArray, List.set_cons_zero, List.set_cons_succ]
              cases B
              · have HF : Hid (P = false) := by show P = false; rw [HD.out]; rfl
                clear HD
                refine rg_quiet rfl rfl rfl rfl ?_; intro K hK; go_big_quiet_op; go_big_quiet_on
                refine rg_quiet rfl rfl rfl rfl ?_; intro K hK; go_big_quiet_op; go_big_quiet_on
                refine rel_skip rfl rfl ?_
                simp only [Act.put, List.setIfInBounds_toArray, List.set_cons_zero, List.set_cons_succ]
                refine rel_skip rfl rfl ?_
                simp only [Act.put, List.setIfInBounds_toArray, List.set_cons_zero, List.set_cons_succ]
                refine rel_skip rfl rfl ?_
                simp only [Act.put, List.setIfInBounds_toArray, List.set_cons_zero, List.set_cons_succ]
                refine rel_skip rfl rfl ?_
                simp only [Act.put, List.setIfInBounds_toArray, List.set_cons_zero, List.set_cons_succ]
                refine rel_skip rfl rfl ?_
                simp only [Act.put, List.setIfInBounds_toArray, List.set_cons_zero, List.set_cons_succ]
                refine rel_skip rfl rfl ?_
                simp only [Act.put, List.setIfInBounds_toArray, List.set_cons_zero, List.set_cons_succ]
                refine rel_skip rfl rfl ?_
                simp only [Act.put, List.setIfInBounds_toArray, List.set_cons_zero, List.set_cons_succ]
                refine rel_skip rfl rfl ?_
                simp only [Act.put, List.setIfInBounds_toArray, List.set_cons_zero, List.set_cons_succ]
                refine rel_skip rfl rfl ?_
                simp only [Act.put, List.setIfInBounds_toArray, List.set_cons_zero, List.set_cons_succ]
                refine rel_skip rfl rfl ?_
                simp only [Act.put, List.setIfInBounds_toArray, List.set_cons_zero, List.set_cons_succ]
                refine rel_skip rfl rfl ?_
                simp only [Act.put, List.setIfInBounds_toArray, List.set_cons_zero, List.set_cons_succ]
                refine rel_skip rfl rfl ?_
                simp only [Act.put, List.setIfInBounds_toArray, List.set_cons_zero, List.set_cons_succ]
                refine rel_skip rfl rfl ?_
                simp only [Act.put, List.setIfInBounds_toArray, List.set_cons_zero, List.set_cons_succ]
                refine rel_skip rfl rfl ?_
                simp only [Act.put, List.setIfInBounds_toArray, List.set_cons_zero, List.set_cons_succ]
                refine rg_quiet rfl rfl rfl rfl ?_; intro K hK; go_big_quiet_op; go_big_quiet_on
                refine rel_nil fun w6 hE6 _ => ?_
                obtain ⟨b6, hE7⟩ := FIN.out w6 hE6
                have hT7 := hT5.ext hE6
                clear x0 x1 x2 x3 x4 x5 x6 x7 y2 FIN hE6 hE hcu hT5
                go_wp2_with fail
                go_ret
                exact ⟨ret_bool HF.out.symm, hE7⟩
              · cases k with
                | zero =>
                  have HF : Hid (P = rsB (prevR ps (0 + 1)) ((ps.drop (0 + 1)).map (·.1))) := by show P = _; rw [HD.out]; rfl
                  clear HD
                  refine rg_quiet rfl rfl rfl rfl ?_; intro K hK; go_big_quiet_op; go_big_quiet_on
                  refine rg_quiet rfl rfl rfl rfl ?_; intro K hK; go_big_quiet_op; go_big_quiet_on
                  refine rg_quiet rfl rfl rfl rfl ?_; intro K hK; go_big_quiet_op; go_big_quiet_on
                  refine rg_quiet rfl rfl rfl rfl ?_; intro K hK; go_big_quiet_op; go_big_quiet_on
                  refine rg_quiet rfl rfl rfl rfl ?_; intro K hK; go_big_quiet_op; go_big_quiet_on
                  refine rel_skip rfl rfl ?_
                  simp only [Act.put, List.setIfInBounds_toArray, List.set_cons_zero, List.set_cons_succ]
                  refine rel_skip rfl rfl ?_
                  simp only [Act.put, List.setIfInBounds_toArray, List.set_cons_zero, List.set_cons_succ]
                  refine rel_skip rfl rfl ?_
                  simp only [Act.put, List.setIfInBounds_toArray, List.set_cons_zero, List.set_cons_succ]
                  refine rel_skip rfl rfl ?_
                  simp only [Act.put, List.setIfInBounds_toArray, List.set_cons_zero, List.set_cons_succ]
                  refine rel_skip rfl rfl ?_
                  simp only [Act.put, List.setIfInBounds_toArray, List.set_cons_zero, List.set_cons_succ]
                  refine rel_skip rfl rfl ?_
                  simp only [Act.put, List.setIfInBounds_toArray, List.set_cons_zero, List.set_cons_succ]
                  refine rel_skip rfl rfl ?_
                  simp only [Act.put, List.setIfInBounds_toArray, List.set_cons_zero, List.set_cons_succ]
                  refine rel_skip rfl rfl ?_
                  simp only [Act.put, List.setIfInBounds_toArray, List.set_cons_zero, List.set_cons_succ]
                  refine rel_skip rfl rfl ?_
                  simp only [Act.put, List.setIfInBounds_toArray, List.set_cons_zero, List.set_cons_succ]
                  refine rel_skip rfl rfl ?_
                  simp only [Act.put, List.setIfInBounds_toArray, List.set_cons_zero, List.set_cons_succ]
                  refine rg_quiet rfl rfl rfl rfl ?_; intro K hK; go_big_quiet_op; go_big_quiet_on
                  refine rg_quiet rfl rfl rfl rfl ?_; intro K hK; go_big_quiet_op; go_big_quiet_on
                  refine rel_nil fun w6 hE6 _ => ?_
                  obtain ⟨b6, hE7⟩ := FIN.out w6 hE6
                  have hT7 := hT5.ext hE6
                  clear x0 x1 x2 x3 x4 x5 x6 x7 y2 FIN hE6 hE hcu hT5
                  go_wp2_with fail
                  go_roundw
                  case rel => exact ⟨0 + 1, by omega, by go_num, b6, hE7, hT7, HF⟩
                  case measure => simp [intOf] <;> omega
                | succ j =>
                  have hjp : j < ps.length := by omega
                  obtain ⟨b', o', e', hp⟩ := HGET.out j hjp
                  cases e'
                  replace hp := held (hE.cell hp.c0)
                  obtain ⟨Pn, hPn⟩ : ∃ Pn, Pn = ps[j].1.key := ⟨_, rfl⟩
                  rw [← hPn] at hp
                  have HO : Hid (orB (prevR ps (j + 1)) M.key = Op.bytesLess Pn.toList M.key.toList) := by show orB (prevR ps (j + 1)) M.key = _; simp [prevR, hjp, orB, hPn]
                  clear hPn
                  have hw : IntKind.i64.wrap ((j : Int) + 1 - 1) = (j : Int) := by rw [IntKind.wrap_i64]; omega
                  have hjl : decide ((j : Int) < (n : Int)) = true := by simp; omega
                  have hj0 : decide ((0 : Int) < (j : Int) + 1) = true := decide_eq_true (by omega)
                  cases eo : Op.bytesLess Pn.toList M.key.toList
                  · have HF : Hid (P = false) := by show P = false; rw [HD.out, HO.out, eo]; rfl
                    clear HD HO
                    refine rg_quiet rfl rfl rfl rfl ?_; intro K hK; go_big_quiet_op; go_big_quiet_on
                    refine rg_quiet rfl rfl rfl rfl ?_; intro K hK; go_big_quiet_op; go_big_quiet_on
                    refine rg_quiet rfl rfl rfl rfl ?_; intro K hK; go_big_quiet_op; go_big_quiet_on
                    refine rg_quiet rfl rfl rfl rfl ?_; intro K hK; go_big_quiet_op; go_big_quiet_on
                    refine rg_quiet rfl rfl rfl rfl ?_; intro K hK; go_big_quiet_op; go_big_quiet_on
                    refine rg_quiet rfl rfl rfl rfl ?_; intro K hK; go_big_quiet_op; go_big_quiet_on
                    refine rg_quiet rfl rfl rfl rfl ?_; intro K hK; go_big_quiet_op; go_big_quiet_on
                    refine rg_quiet rfl rfl rfl rfl ?_; intro K hK; go_big_quiet_op; go_big_quiet_on
                    refine rg_quiet rfl rfl rfl rfl ?_; intro K hK; go_big_quiet_op; go_big_quiet_on
                    refine rg_quiet rfl rfl rfl rfl ?_; intro K hK; go_big_quiet_op; go_big_quiet_on
                    refine rg_quiet rfl rfl rfl rfl ?_; intro K hK; go_big_quiet_op; go_big_quiet_on
                    refine rg_quiet rfl rfl rfl rfl ?_; intro K hK; go_big_quiet_op; go_big_quiet_on
                    refine rg_quiet rfl rfl rfl rfl ?_; intro K hK; go_big_quiet_op; go_big_quiet_on
                    refine rg_quiet rfl rfl rfl rfl ?_; intro K hK; go_big_quiet_op; go_big_quiet_on
                    refine rg_quiet rfl rfl rfl rfl ?_; intro K hK; go_big_quiet_op; go_big_quiet_on
                    refine rg_quiet rfl rfl rfl rfl ?_; intro K hK; go_big_quiet_op; go_big_quiet_on
                    refine rg_quiet rfl rfl rfl rfl ?_; intro K hK; go_big_quiet_op; go_big_quiet_on
                    refine rel_nil fun w6 hE6 _ => ?_
                    obtain ⟨b6, hE7⟩ := FIN.out w6 hE6
                    have hT7 := hT5.ext hE6
                    clear x0 x1 x2 x3 x4 x5 x6 x7 y2 FIN hE6 hE hcu hT5 hp eo
                    go_wp2_with fail
                    go_ret
                    exact ⟨ret_bool HF.out.symm, hE7⟩
                  · have HF : Hid (P = rsB (prevR ps (j + 1 + 1)) ((ps.drop (j + 1 + 1)).map (·.1))) := by show P = _; rw [HD.out, HO.out, eo]; rfl
                    clear HD HO
                    refine rg_quiet rfl rfl rfl rfl ?_; intro K hK; go_big_quiet_op; go_big_quiet_on
                    refine rg_quiet rfl rfl rfl rfl ?_; intro K hK; go_big_quiet_op; go_big_quiet_on
                    refine rg_quiet rfl rfl rfl rfl ?_; intro K hK; go_big_quiet_op; go_big_quiet_on
                    refine rg_quiet rfl rfl rfl rfl ?_; intro K hK; go_big_quiet_op; go_big_quiet_on
                    refine rg_quiet rfl rfl rfl rfl ?_; intro K hK; go_big_quiet_op; go_big_quiet_on
                    refine rg_quiet rfl rfl rfl rfl ?_; intro K hK; go_big_quiet_op; go_big_quiet_on
                    refine rg_quiet rfl rfl rfl rfl ?_; intro K hK; go_big_quiet_op; go_big_quiet_on
                    refine rg_quiet rfl rfl rfl rfl ?_; intro K hK; go_big_quiet_op; go_big_quiet_on
                    refine rg_quiet rfl rfl rfl rfl ?_; intro K hK; go_big_quiet_op; go_big_quiet_on
                    refine rg_quiet rfl rfl rfl rfl ?_; intro K hK; go_big_quiet_op; go_big_quiet_on
                    refine rg_quiet rfl rfl rfl rfl ?_; intro K hK; go_big_quiet_op; go_big_quiet_on
                    refine rg_quiet rfl rfl rfl rfl ?_; intro K hK; go_big_quiet_op; go_big_quiet_on
                    refine rg_quiet rfl rfl rfl rfl ?_; intro K hK; go_big_quiet_op; go_big_quiet_on
                    refine rg_quiet rfl rfl rfl rfl ?_; intro K hK; go_big_quiet_op; go_big_quiet_on
                    refine rg_quiet rfl rfl rfl rfl ?_; intro K hK; go_big_quiet_op; go_big_quiet_on
                    refine rg_quiet rfl rfl rfl rfl ?_; intro K hK; go_big_quiet_op; go_big_quiet_on
                    refine rg_quiet rfl rfl rfl rfl ?_; intro K hK; go_big_quiet_op; go_big_quiet_on
                    refine rel_nil fun w6 hE6 _ => ?_
                    obtain ⟨b6, hE7⟩ := FIN.out w6 hE6
                    have hT7 := hT5.ext hE6
                    clear x0 x1 x2 x3 x4 x5 x6 x7 y2 FIN hE6 hE hcu hT5 hp eo
                    go_wp2_with fail
                    go_roundw
                    case rel => exact ⟨j + 1 + 1, by omega, by go_num, b6, hE7, hT7, HF⟩
                    case measure => simp [intOf] <;> omega
            · have HF : Hid (P = true) := by show P = true; rw [HX.out, List.drop_eq_nil_of_le (by have := HN.out; omega)]; rfl
              go_wp2_with fail
              go_ret
              exact ⟨ret_bool HF.out.symm, hE1⟩
        · have HF : Hid (P = false) := by show P = false; rw [HP.out, q1, q2, q3, q4]; rfl
          go_enter Tryd.func36, Tryd.ntmps36
          go_wp2_with fail
          go_ret
          exact ⟨ret_bool HF.out.symm, hE⟩
      · have HF : Hid (P = false) := by show P = false; rw [HP.out, q1, q2, q3]; rfl
        go_enter Tryd.func36, Tryd.ntmps36
        go_wp2_with fail
        go_ret
        exact ⟨ret_bool HF.out.symm, hE⟩
    · have HF : Hid (P = false) := by show P = false; rw [HP.out, q1, q2]; rfl
      go_enter Tryd.func36, Tryd.ntmps36
      go_wp2_with fail
      go_ret
      exact ⟨ret_bool HF.out.symm, hE⟩
  · have HF : Hid (P = false) := by show P = false; rw [HP.out, q1]; rfl
    go_enter Tryd.func36, Tryd.ntmps36
    go_wp2_with fail
    go_ret
    exact ⟨ret_bool HF.out.symm, hE⟩
end Go.Proofs.YteamiiekpjoclaaDoor

/- slices.Clone of columns. -/
namespace Go.Proofs.YteamiiekpjoclaaDoor
open Go Go.RowKit
attribute [local go_sem] yields yUpon ro8 pa3 cl4

set_option maxRecDepth 100000 in
set_option maxHeartbeats 2000000 in
theorem clone_any (v : Value) (l : List Co) (w : World) (hin : ColsIn w v l) (hl : l.length ≤ 1000000) :
    Calls Tryd.prog 79 #[v] w fun e w' => ∃ v', e = .returned v' ∧ w'.ownsRow w.heap.size 80 5 v' l.length (coCells l) ∧ Ext w w' := by
  have hin0 := hin
  obtain ⟨a, c, rfl, hc, hcm, ha, _⟩ := hin
  have he := Lib.run_eql_slice_nil (P := Tryd.prog) w 24 80 a l.length c 0 0 und_Cols
  cases a with
  | none =>
    have hc0 := ha rfl
    obtain rfl : l = [] := List.eq_nil_of_length_eq_zero (by omega)
    subst hc0
    clear ha
    go_enter Tryd.func79, Tryd.ntmps79
    go_wp2_with fail
    simp only [List.length_nil] at he
    rw [he]
    simp only [Result.andThen]
    rw [Oper.upon_value]
    go_wp2_with fail
    go_ret
    exact ⟨_, rfl, World.ownsRow_nil _ _ _ _, Ext.refl w⟩
  | some ad =>
    have hX := (Ext.refl w).alloc (.cells #[] 80)
    have hm : (w.alloc (.cells #[] 80)).ownsRow w.heap.size 80 5 (.slice (some ⟨w.heap.size, 0, none⟩) 0 0) ([] : List Co).length (coCells []) := World.ownsRow_made w #[] 0 (Nat.le_refl _) (Nat.zero_le _) rfl
    clear ha
    go_enter Tryd.func79, Tryd.ntmps79
    go_wp2_with (at_builtin; go_must (refine appCols (w.alloc (.cells #[] 80)) rfl (.tmp 5) (.tmp 6) rfl w.heap.size hX.le _ [] hm (by rfl) _ l (hin0.ext hX) (by rfl) (by simp; omega) ?_); intro v3 w3 hown3 hg3)
    go_ret
    exact ⟨_, rfl, hown3, hX.grown hg3 (fun q hq => (hm.lt q hq).1)⟩

end Go.Proofs.YteamiiekpjoclaaDoor

/- part.Row. -/
namespace Go.Proofs.YteamiiekpjoclaaDoor
open Go Go.RowKit
attribute [local go_sem] yields yUpon ro8 pa3

/-- A partition's row. -/
def rowOf : List Ro → ByteArray → Ro
  | [], key => ⟨key, zeroCl, 0, 0, []⟩
  | r :: l, key => if r.key.toList == key.toList then r else rowOf l key
def hasRow : List Ro → ByteArray → Bool
  | [], _ => false
  | r :: l, key => if r.key.toList == key.toList then true else hasRow l key

set_option maxRecDepth 100000 in
set_option maxHeartbeats 4000000 in
theorem prow_typed (pk : ByteArray) (pg : Int) (pu : Value) (ps : List (Ro × Value)) (key : ByteArray) (w : World) (hin : RowsIn w pu ps) (hcl : ∀ p ∈ ps, p.1.cols.length ≤ 1000000) :
    Calls Tryd.prog 44 #[.agg #[.string pk, .int .i64 pg, pu], .string key] w fun e w' => ∃ v', e = .returned (.tuple #[(.agg #[.string (rowOf (ps.map (·.1)) key).key, .string (rowOf (ps.map (·.1)) key).live.val, .bool (rowOf (ps.map (·.1)) key).live.dead, .int .i64 (rowOf (ps.map (·.1)) key).live.at_, .int .i64 (rowOf (ps.map (·.1)) key).live.fin, .int .i64 (rowOf (ps.map (·.1)) key).gone, .int .i64 (rowOf (ps.map (·.1)) key).shade, v']), .bool (hasRow (ps.map (·.1)) key)]) ∧ ColsT w' v' (rowOf (ps.map (·.1)) key).cols ∧ Ext w w' := by
  obtain ⟨a0, a1, hE⟩ := boxes2 w (pa3 pk pg pu) (ro8 ⟨⟨#[]⟩, zeroCl, 0, 0, []⟩ (.slice none 0 0)) 35 26
  obtain ⟨aa, ca, rfl, hca, hcma, hget⟩ := hin.get
  obtain ⟨n, hn⟩ : ∃ n, n = ps.length := ⟨_, rfl⟩
  rw [← hn] at hca a0 a1 hE ⊢
  have HN := Lib.hid hn
  have HGET := Lib.hid hget
  have HC := Lib.hid hin.cols
  have HCL := Lib.hid hcl
  obtain ⟨R, hR⟩ : ∃ R, R = rowOf (ps.map (·.1)) key := ⟨_, rfl⟩
  obtain ⟨B, hB⟩ : ∃ B, B = hasRow (ps.map (·.1)) key := ⟨_, rfl⟩
  rw [← hR, ← hB]
  have HR := Lib.hid hR
  have HB := Lib.hid hB
  clear hn hget hin hcl hR hB
  go_enter Tryd.func44, Tryd.ntmps44
  go_wp2
  go_loopw [11] (fun i wr => ∃ k : Nat, k ≤ n ∧ i = .int .i64 k ∧ BoxAt wr (w.heap.size + 1) (ro8 ⟨⟨#[]⟩, zeroCl, 0, 0, []⟩ (.slice none 0 0)) 26 ∧ Ext w wr ∧ Hid (R = rowOf ((ps.map (·.1)).drop k) key) ∧ Hid (B = hasRow ((ps.map (·.1)).drop k) key)) (fun i _ => n - (intOf i).toNat)
  case atStart => exact ⟨0, Nat.zero_le _, rfl, a1, hE, HR.out, HB.out⟩
  case round =>
    obtain ⟨k, hk, rfl, b1, hE1, HRk, HBk⟩ := hrel
    clear a0 a1
    by_cases hlt : k < n
    · have hkp : k < ps.length := by rw [← HN.out]; exact hlt
      have hkc := HCL.out _ (List.getElem_mem hkp)
      have hcu := HC.out _ (List.getElem_mem hkp)
      obtain ⟨b, o, rfl, hat⟩ := HGET.out k hkp
      have hdrop : (ps.map (·.1)).drop k = ps[k].1 :: (ps.map (·.1)).drop (k + 1) := by
        rw [List.drop_eq_getElem_cons (by simpa using hkp)]
        simp
      obtain ⟨M, hM⟩ : ∃ M, M = ps[k].1 := ⟨_, rfl⟩
      obtain ⟨au, cu, hu⟩ := hcu.shape
      rw [← hM] at hkc hcu hu hdrop hat
      rw [hu] at hcu hat
      have HDR := Lib.hid hdrop
      clear hM hu hdrop
      obtain ⟨L, hL⟩ : ∃ L, L = M.cols := ⟨_, rfl⟩
      rw [← hL] at hcu hat hkc
      have HL := Lib.hid hL
      clear hL
      obtain ⟨m, hm⟩ : ∃ m, m = L.length := ⟨_, rfl⟩
      rw [← hm] at hcu hat
      clear hm
      replace hat := hat.ext hE1
      replace hcu := hcu.ext hE1
      obtain ⟨x0, x1, x2, x3, x4, x5, x6, x7⟩ := hat
      have hsz1 := b1.lt
      cases hkey : (M.key.toList == key.toList)
      · go_wp2_with (((guard_target =~ wpList _ _ _ (Oper.mk none (Op.store _ (Operand.tmp 7) (Operand.tmp 14)) _ _ _ _ :: _) _ _); go_must (refine storeBox rfl 26 (.tmp 7) (.tmp 14) rfl (wr.heap.size) _ _ _ (by rfl) (by rfl) ((BoxAt.made wr (ro8 ⟨⟨#[]⟩, zeroCl, 0, 0, []⟩ (.slice none 0 0)) 26)) (by kernel_rfl) (by rfl) (by simp [Value.oneCell']) ?_); intro w4 c4 g4); have hX4 : Ext wr w4 := ((Ext.refl wr).alloc _).grown g4 (fun q hq => by cases hq; omega); have d4 := c4.ro (r := ⟨M.key, M.live, M.gone, M.shade, []⟩) (v := .slice au m cu))
        go_roundw
        case rel =>
          refine ⟨k + 1, hlt, rfl, b1.ext hX4, hE1.trans hX4, ?_, ?_⟩
          · show _ = _
            rw [HRk.out, HDR.out, rowOf, if_neg (by rw [hkey]; decide)]
          · show _ = _
            rw [HBk.out, HDR.out, hasRow, if_neg (by rw [hkey]; decide)]
        case measure => simp [intOf]; omega
      · have hR : R = M := by rw [HRk.out, HDR.out, rowOf, if_pos hkey]
        have hB : B = true := by rw [HBk.out, HDR.out, hasRow, if_pos hkey]
        rw [hR, hB]
        go_wp2_with (((guard_target =~ wpList _ _ _ (Oper.mk none (Op.store _ (Operand.tmp 7) (Operand.tmp 14)) _ _ _ _ :: _) _ _); go_must (refine storeBox rfl 26 (.tmp 7) (.tmp 14) rfl (wr.heap.size) _ _ _ (by rfl) (by rfl) ((BoxAt.made wr (ro8 ⟨⟨#[]⟩, zeroCl, 0, 0, []⟩ (.slice none 0 0)) 26)) (by kernel_rfl) (by rfl) (by simp [Value.oneCell']) ?_); intro w4 c4 g4); have hX4 : Ext wr w4 := ((Ext.refl wr).alloc _).grown g4 (fun q hq => by cases hq; omega); have d4 := c4.ro (r := ⟨M.key, M.live, M.gone, M.shade, []⟩) (v := .slice au m cu))
        refine (clone_any _ L w4 (hcu.ext hX4) hkc).mono ?_
        rintro e w5 ⟨v5, rfl, hown5, hE5⟩
        obtain ⟨a5, c5', rfl⟩ := own_shape hown5
        have b5 := b1.ext (hX4.trans hE5)
        have r5 : BoxAt w5 wr.heap.size (ro8 ⟨M.key, M.live, M.gone, M.shade, []⟩ (.slice au m cu)) 26 := c4.ext hE5
        have d5 := r5.ro
        have f5 := r5.free 7
        have hX5 := hE1.trans (hX4.trans hE5)
        clear d4 c4 x0 x1 x2 x3 x4 x5 x6 x7
        go_wp2_with (((guard_target =~ wpList _ _ _ (Oper.mk none (Op.store _ (Operand.tmp 4) (Operand.tmp 23)) _ _ _ _ :: _) _ _); go_must (refine storeBox rfl 26 (.tmp 4) (.tmp 23) rfl (w.heap.size + 1) _ _ _ (by rfl) (by rfl) ((b5.other (by omega) _ _)) (by kernel_rfl) (by rfl) (by simp [Value.oneCell']) ?_); intro w6 c6 g6))
        have hownS := own_setCell (u := .slice a5 L.length c5') (i := 7) hown5 (own_ne_box hown5 r5 (by decide))
        have b5s := b5.other (show w.heap.size + 1 ≠ wr.heap.size by omega) 7 (.slice a5 L.length c5')
        have hown6 := hownS.kept g6 (own_ne_box hownS b5s (by decide))
        have hX6 := (hX5.setCell (p := ⟨wr.heap.size, 7, none⟩) (by show w.heap.size ≤ wr.heap.size; omega) (.slice a5 L.length c5')).grown g6 (fun q hq => by cases hq; omega)
        obtain ⟨z0, z1, z2, z3, z4, z5, z6, z7⟩ := c6.ro (r := ⟨M.key, M.live, M.gone, M.shade, []⟩) (v := .slice a5 L.length c5')
        refine bodyPost_ret (v := .tuple #[.agg #[.string M.key, .string M.live.val, .bool M.live.dead, .int .i64 M.live.at_, .int .i64 M.live.fin, .int .i64 M.gone, .int .i64 M.shade, .slice a5 L.length c5'], .bool true]) ?_ rfl ⟨_, by rw [hR, hB], ?_, hX6⟩
        · simp [results, Tryd.results44, go_sem, z0, z1, z2, z3, z4, z5, z6, z7]
        · rw [hR, ← HL.out]
          exact TIn.own hown6
    · have hR : R = ⟨key, zeroCl, 0, 0, []⟩ := by rw [HRk.out, List.drop_eq_nil_of_le (by simp; rw [← HN.out]; omega)]; rfl
      have hB : B = false := by rw [HBk.out, List.drop_eq_nil_of_le (by simp; rw [← HN.out]; omega)]; rfl
      go_wp2_with (((guard_target =~ wpList _ _ _ (Oper.mk none (Op.store _ (Operand.tmp 4) (Operand.tmp 26)) _ _ _ _ :: _) _ _); go_must (refine storeBox rfl 26 (.tmp 4) (.tmp 26) rfl (w.heap.size + 1) _ _ _ (by rfl) (by rfl) (b1) (by kernel_rfl) (by rfl) (by simp [Value.oneCell']) ?_); intro w6 c6 g6))
      obtain ⟨z0, z1, z2, z3, z4, z5, z6, z7⟩ := c6.ro (r := ⟨key, zeroCl, 0, 0, []⟩) (v := .slice none 0 0)
      refine bodyPost_ret (v := .tuple #[.agg #[.string key, .string ⟨#[]⟩, .bool false, .int .i64 0, .int .i64 0, .int .i64 0, .int .i64 0, .slice none 0 0], .bool false]) ?_ rfl ⟨_, by rw [hR, hB]; rfl, ?_, hE1.grown g6 (fun q hq => by cases hq; omega)⟩
      · simp [results, Tryd.results44, go_sem, z0, z1, z2, z3, z4, z5, z6, z7, zeroCl]
      · rw [hR]
        exact ColsT.nil _
theorem prow_any (pk : ByteArray) (pg : Int) (pu : Value) (ps : List (Ro × Value)) (key : ByteArray) (w : World) (hin : RowsIn w pu ps) (hcl : ∀ p ∈ ps, p.1.cols.length ≤ 1000000) :
    Calls Tryd.prog 44 #[.agg #[.string pk, .int .i64 pg, pu], .string key] w fun e w' => ∃ v', e = .returned (.tuple #[(.agg #[.string (rowOf (ps.map (·.1)) key).key, .string (rowOf (ps.map (·.1)) key).live.val, .bool (rowOf (ps.map (·.1)) key).live.dead, .int .i64 (rowOf (ps.map (·.1)) key).live.at_, .int .i64 (rowOf (ps.map (·.1)) key).live.fin, .int .i64 (rowOf (ps.map (·.1)) key).gone, .int .i64 (rowOf (ps.map (·.1)) key).shade, v']), .bool (hasRow (ps.map (·.1)) key)]) ∧ ColsIn w' v' (rowOf (ps.map (·.1)) key).cols ∧ Ext w w' :=
  (prow_typed pk pg pu ps key w hin hcl).mono fun _ _ ⟨v', h1, h2, h3⟩ => ⟨v', h1, h2.cols, h3⟩
end Go.Proofs.YteamiiekpjoclaaDoor
