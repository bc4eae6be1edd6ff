/- part.Check of any partition. -/
import Derived.Test.YtcmgeccgahakbaaDoorS8
import Derived.Test.YtcmgeccgahakbaaDoorS5
import Derived.Test.YtcmgeccgahakbaaDoorS2
import Derived.Shelf.Small.Bits
import Derived.Shelf.Small.Wraps
import Derived.Test.YtcmgeccgahakbaaDoorProg
set_option linter.unusedSimpArgs false
set_option linter.unusedVariables false
namespace Go.Proofs.YtcmgeccgahakbaaDoor
open Go Go.RowKit
attribute [local go_sem] yields yUpon ro8 pa3

set_option maxRecDepth 100000 in
set_option maxHeartbeats 8000000 in
theorem pcheck_gen (pk : ByteArray) (pg : Int) (pu : Value) (ps : List (Ro × Value)) (w : World) (hin : RowsIn w pu ps) (hlow : ∀ p ∈ ps, ∀ c ∈ p.1.cols, c.name.size ≤ 1000000) (hT : TabU w) :
    Calls Tryd.prog 54 #[.agg #[.string pk, .int .i64 pg, pu]] w fun e w' => e = .returned (.bool (ptB pk pg (ps.map (·.1)))) ∧ Ext w w' := by
  have a0 := BoxAt.made w (pa3 pk pg pu) 24
  have hE := (Ext.refl w).alloc (.cells (pa3 pk pg pu) 24)
  have hT0 := hT.ext hE
  obtain ⟨aa, ca, rfl, hca, hcma, hget⟩ := hin.get
  clear hT
  have c0 := a0.pa
  obtain ⟨n, hn⟩ : ∃ n, n = ps.length := ⟨_, rfl⟩
  rw [← hn] at hca a0 hE c0 hT0 ⊢
  obtain ⟨P, hP⟩ : ∃ P, P = ptB pk pg (ps.map (·.1)) := ⟨_, rfl⟩
  have hP2 : P = (!decide (100 < (pk.size : Int)) && !decide (pg < 0) && !decide (1099511627776 < pg) && !decide (100 < (n : Int)) && rsB none (ps.map (·.1))) := by rw [hP, hn]; unfold ptB; rw [List.length_map]
  rw [← hP]
  have HP := Lib.hid hP2
  have HN := Lib.hid hn
  have HGET := Lib.hid hget
  have HC := Lib.hid hin.cols
  have HL := Lib.hid hlow
  clear hn hget hin hP hP2 hlow
  cases q1 : decide (100 < (pk.size : Int))
  · cases q2 : decide (pg < 0)
    · cases q3 : decide (1099511627776 < pg)
      · cases q4 : decide (100 < (n : Int))
        · have HP2 : Hid (P = rsB none (ps.map (·.1))) := by show P = _; rw [HP.out, q1, q2, q3, q4]; rfl
          clear HP
          go_enter Tryd.func54, Tryd.ntmps54
          go_wp2_with fail
          go_loopw [28] (fun i wr => ∃ k : Nat, k ≤ n ∧ i = .int .i64 k ∧ BoxAt wr w.heap.size (pa3 pk pg (.slice aa n ca)) 24 ∧ Ext w wr ∧ TabU wr ∧ Hid (P = rsB (prevR ps k) ((ps.drop k).map (·.1)))) (fun i _ => n - (intOf i).toNat)
          case atStart => exact ⟨0, Nat.zero_le _, rfl, a0, hE, hT0, HP2⟩
          case round =>
            obtain ⟨k, hkn, rfl, b0, hE1, hT1, HX⟩ := hrel
            clear a0 c0 hE q1 q2 q3 q4 HP2 hT0
            have hz := b0.pa.1
            clear hz
            by_cases hlt : k < n
            · have hkp : k < ps.length := by rw [← HN.out]; exact hlt
              have hD : ps.drop k = ps[k] :: ps.drop (k + 1) := List.drop_eq_getElem_cons hkp
              have hD2 : P = (rwB ps[k].1 && orB (prevR ps k) ps[k].1.key && rsB (prevR ps (k + 1)) ((ps.drop (k + 1)).map (·.1))) := by
                rw [HX.out, prevR_succ hD, hD]
                rfl
              obtain ⟨b, o, rfl, hat⟩ := HGET.out k hkp
              have hcu := HC.out _ (List.getElem_mem hkp)
              have hll := HL.out _ (List.getElem_mem hkp)
              obtain ⟨M, hM⟩ : ∃ M, M = ps[k].1 := ⟨_, rfl⟩
              obtain ⟨au, cu, hu⟩ := hcu.shape
              have HM := Lib.hid hM
              rw [← hM] at hat hu hcu hll hD2
              rw [hu] at hat hcu
              have HD := Lib.hid hD2
              clear hM hu hD hD2 HX
              obtain ⟨m, hm⟩ : ∃ m, m = M.cols.length := ⟨_, rfl⟩
              rw [← hm] at hat hcu
              have HMM := Lib.hid hm
              have HLL := Lib.hid hll
              clear hm hll
              have hki : decide ((k : Int) < (n : Int)) = true := by simpa using hlt
              have hat1 := hat.ext hE1
              have hcu1 := hcu.ext hE1
              clear hat hcu
              obtain ⟨B, hB⟩ : ∃ B, B = rwB M := ⟨_, rfl⟩
              have HB := Lib.hid hB
              rw [← hB] at HD
              clear hB
              obtain ⟨x0, x1, x2, x3, x4, x5, x6, x7⟩ := hat1
              go_wp2_with (((guard_target =~ wpList _ _ _ (Oper.mk none (Op.store _ (Operand.tmp 4) (Operand.tmp 32)) _ _ _ _ :: _) _ _); go_must (refine storeBox rfl 91 (.tmp 4) (.tmp 32) rfl (wr.heap.size) _ _ _ (by rfl) (by rfl) ((BoxAt.made wr (ro8 ⟨⟨#[]⟩, zeroCl, 0, 0, []⟩ (.slice none 0 0)) 91)) (by kernel_rfl) (by rfl) (by simp [Value.oneCell']) ?_); intro w4 c4 g4))
              have hX4 : Ext wr w4 := ((Ext.refl wr).alloc _).grown g4 (fun q hq => by cases hq; omega)
              have d4 : BoxAt w4 wr.heap.size (ro8 M (.slice au m cu)) 91 := c4
              have b4 := b0.ext hX4
              have hE4 := hE1.trans hX4
              have hT4 := hT1.ext hX4
              have hcu4 := hcu1.ext hX4
              clear c4 g4 x0 x1 x2 x3 x4 x5 x6 x7 b0 hcu1
              simp only [Act.put]
              refine wp_region_in 19 [(1, fun v _ => v = .bool B)] (fun y => BoxAt y wr.heap.size (ro8 M (.slice au m cu)) 91 ∧ BoxAt y w.heap.size (pa3 pk pg (.slice (some ⟨b, o, none⟩) n ca)) 24 ∧ ColsIn y (.slice au m cu) M.cols ∧ Ext w y ∧ TabU y) (by kernel_rfl) (by kernel_rfl) (by kernel_rfl) ⟨stays_eq _, trivial⟩ ⟨d4, b4, hcu4, hE4, hT4⟩ ?_
              clear d4 b4 hE4 hcu4 hE1 hX4 hT4 hT1
              rintro w5 ⟨d5, b5, hcu, hE, hT5⟩
              have FIN : Hid (∀ wx, Ext w5 wx → BoxAt wx w.heap.size (pa3 pk pg (.slice (some ⟨b, o, none⟩) n ca)) 24 ∧ Ext w wx) := fun wx h => ⟨b5.ext h, hE.trans h⟩
              obtain ⟨x0, x1, x2, x3, x4, x5, x6, x7⟩ := d5.ro
              obtain ⟨y0, y1, y2⟩ := b5.pa
              clear d5 b5
              replace x0 := held x0
              replace x1 := held x1
              replace x2 := held x2
              replace x3 := held x3
              replace x4 := held x4
              replace x5 := held x5
              replace x6 := held x6
              replace x7 := held x7
              replace y2 := held y2
              clear y0 y1
              refine rg_quiet rfl rfl rfl rfl ?_; intro K hK; go_big_quiet_op; go_big_quiet_on
              refine rg_val [] rfl rfl rfl (by kernel_rfl) (fun w1 hE hf => ?_) ?_
              · go_simp
                rw [HMM.out]
                refine (rcheck_gen M _ w1 (by rw [← HMM.out]; exact hcu.ext hE) HLL.out (hT5.ext hE)).mono ?_
                rintro e w' ⟨he, hw⟩
                exact ⟨_, he, rg_done hE hw (by rw [HB.out])⟩
              simp only [Act.put, List.setIfInBounds_toArray, List.set_cons_zero, List.set_cons_succ]
              cases B
              · have HF : Hid (P = false) := by show P = false; rw [HD.out]; rfl
                clear HD
                refine rg_quiet rfl rfl rfl rfl ?_; intro K hK; go_big_quiet_op; go_big_quiet_on
                refine rg_quiet rfl rfl rfl rfl ?_; intro K hK; go_big_quiet_op; go_big_quiet_on
                refine rel_skip rfl rfl ?_
                simp only [Act.put, List.setIfInBounds_toArray, List.set_cons_zero, List.set_cons_succ]
                refine rel_skip rfl rfl ?_
                simp only [Act.put, List.setIfInBounds_toArray, List.set_cons_zero, List.set_cons_succ]
                refine rel_skip rfl rfl ?_
                simp only [Act.put, List.setIfInBounds_toArray, List.set_cons_zero, List.set_cons_succ]
                refine rel_skip rfl rfl ?_
                simp only [Act.put, List.setIfInBounds_toArray, List.set_cons_zero, List.set_cons_succ]
                refine rel_skip rfl rfl ?_
                simp only [Act.put, List.setIfInBounds_toArray, List.set_cons_zero, List.set_cons_succ]
                refine rel_skip rfl rfl ?_
                simp only [Act.put, List.setIfInBounds_toArray, List.set_cons_zero, List.set_cons_succ]
                refine rel_skip rfl rfl ?_
                simp only [Act.put, List.setIfInBounds_toArray, List.set_cons_zero, List.set_cons_succ]
                refine rel_skip rfl rfl ?_
                simp only [Act.put, List.setIfInBounds_toArray, List.set_cons_zero, List.set_cons_succ]
                refine rel_skip rfl rfl ?_
                simp only [Act.put, List.setIfInBounds_toArray, List.set_cons_zero, List.set_cons_succ]
                refine rel_skip rfl rfl ?_
                simp only [Act.put, List.setIfInBounds_toArray, List.set_cons_zero, List.set_cons_succ]
                refine rel_skip rfl rfl ?_
                simp only [Act.put, List.setIfInBounds_toArray, List.set_cons_zero, List.set_cons_succ]
                refine rel_skip rfl rfl ?_
                simp only [Act.put, List.setIfInBounds_toArray, List.set_cons_zero, List.set_cons_succ]
                refine rel_skip rfl rfl ?_
                simp only [Act.put, List.setIfInBounds_toArray, List.set_cons_zero, List.set_cons_succ]
                refine rel_skip rfl rfl ?_
                simp only [Act.put, List.setIfInBounds_toArray, List.set_cons_zero, List.set_cons_succ]
                refine rg_quiet rfl rfl rfl rfl ?_; intro K hK; go_big_quiet_op; go_big_quiet_on
                refine rel_nil fun w6 hE6 _ => ?_
                obtain ⟨b6, hE7⟩ := FIN.out w6 hE6
                have hT7 := hT5.ext hE6
                clear x0 x1 x2 x3 x4 x5 x6 x7 y2 FIN hE6 hE hcu hT5
                go_wp2_with fail
                go_ret
                exact ⟨ret_bool HF.out.symm, hE7⟩
              · cases k with
                | zero =>
                  have HF : Hid (P = rsB (prevR ps (0 + 1)) ((ps.drop (0 + 1)).map (·.1))) := by show P = _; rw [HD.out]; rfl
                  clear HD
                  refine rg_quiet rfl rfl rfl rfl ?_; intro K hK; go_big_quiet_op; go_big_quiet_on
                  refine rg_quiet rfl rfl rfl rfl ?_; intro K hK; go_big_quiet_op; go_big_quiet_on
                  refine rg_quiet rfl rfl rfl rfl ?_; intro K hK; go_big_quiet_op; go_big_quiet_on
                  refine rg_quiet rfl rfl rfl rfl ?_; intro K hK; go_big_quiet_op; go_big_quiet_on
                  refine rg_quiet rfl rfl rfl rfl ?_; intro K hK; go_big_quiet_op; go_big_quiet_on
                  refine rel_skip rfl rfl ?_
                  simp only [Act.put, List.setIfInBounds_toArray, List.set_cons_zero, List.set_cons_succ]
                  refine rel_skip rfl rfl ?_
                  simp only [Act.put, List.setIfInBounds_toArray, List.set_cons_zero, List.set_cons_succ]
                  refine rel_skip rfl rfl ?_
                  simp only [Act.put, List.setIfInBounds_toArray, List.set_cons_zero, List.set_cons_succ]
                  refine rel_skip rfl rfl ?_
                  simp only [Act.put, List.setIfInBounds_toArray, List.set_cons_zero, List.set_cons_succ]
                  refine rel_skip rfl rfl ?_
                  simp only [Act.put, List.setIfInBounds_toArray, List.set_cons_zero, List.set_cons_succ]
                  refine rel_skip rfl rfl ?_
                  simp only [Act.put, List.setIfInBounds_toArray, List.set_cons_zero, List.set_cons_succ]
                  refine rel_skip rfl rfl ?_
                  simp only [Act.put, List.setIfInBounds_toArray, List.set_cons_zero, List.set_cons_succ]
                  refine rel_skip rfl rfl ?_
                  simp only [Act.put, List.setIfInBounds_toArray, List.set_cons_zero, List.set_cons_succ]
                  refine rel_skip rfl rfl ?_
                  simp only [Act.put, List.setIfInBounds_toArray, List.set_cons_zero, List.set_cons_succ]
                  refine rel_skip rfl rfl ?_
                  simp only [Act.put, List.setIfInBounds_toArray, List.set_cons_zero, List.set_cons_succ]
                  refine rg_quiet rfl rfl rfl rfl ?_; intro K hK; go_big_quiet_op; go_big_quiet_on
                  refine rg_quiet rfl rfl rfl rfl ?_; intro K hK; go_big_quiet_op; go_big_quiet_on
                  refine rel_nil fun w6 hE6 _ => ?_
                  obtain ⟨b6, hE7⟩ := FIN.out w6 hE6
                  have hT7 := hT5.ext hE6
                  clear x0 x1 x2 x3 x4 x5 x6 x7 y2 FIN hE6 hE hcu hT5
                  go_wp2_with fail
                  go_roundw
                  case rel => exact ⟨0 + 1, by omega, by go_num, b6, hE7, hT7, HF⟩
                  case measure => simp [intOf] <;> omega
                | succ j =>
                  have hjp : j < ps.length := by omega
                  obtain ⟨b', o', e', hp⟩ := HGET.out j hjp
                  cases e'
                  replace hp := held (hE.cell hp.c0)
                  obtain ⟨Pn, hPn⟩ : ∃ Pn, Pn = ps[j].1.key := ⟨_, rfl⟩
                  rw [← hPn] at hp
                  have HO : Hid (orB (prevR ps (j + 1)) M.key = Op.bytesLess Pn.toList M.key.toList) := by show orB (prevR ps (j + 1)) M.key = _; simp [prevR, hjp, orB, hPn]
                  clear hPn
                  have hw : IntKind.i64.wrap ((j : Int) + 1 - 1) = (j : Int) := by rw [IntKind.wrap_i64]; omega
                  have hjl : decide ((j : Int) < (n : Int)) = true := by simp; omega
                  have hj0 : decide ((0 : Int) < (j : Int) + 1) = true := decide_eq_true (by omega)
                  cases eo : Op.bytesLess Pn.toList M.key.toList
                  · have HF : Hid (P = false) := by show P = false; rw [HD.out, HO.out, eo]; rfl
                    clear HD HO
                    refine rg_quiet rfl rfl rfl rfl ?_; intro K hK; go_big_quiet_op; go_big_quiet_on
                    refine rg_quiet rfl rfl rfl rfl ?_; intro K hK; go_big_quiet_op; go_big_quiet_on
                    refine rg_quiet rfl rfl rfl rfl ?_; intro K hK; go_big_quiet_op; go_big_quiet_on
                    refine rg_quiet rfl rfl rfl rfl ?_; intro K hK; go_big_quiet_op; go_big_quiet_on
                    refine rg_quiet rfl rfl rfl rfl ?_; intro K hK; go_big_quiet_op; go_big_quiet_on
                    refine rg_quiet rfl rfl rfl rfl ?_; intro K hK; go_big_quiet_op; go_big_quiet_on
                    refine rg_quiet rfl rfl rfl rfl ?_; intro K hK; go_big_quiet_op; go_big_quiet_on
                    refine rg_quiet rfl rfl rfl rfl ?_; intro K hK; go_big_quiet_op; go_big_quiet_on
                    refine rg_quiet rfl rfl rfl rfl ?_; intro K hK; go_big_quiet_op; go_big_quiet_on
                    refine rg_quiet rfl rfl rfl rfl ?_; intro K hK; go_big_quiet_op; go_big_quiet_on
                    refine rg_quiet rfl rfl rfl rfl ?_; intro K hK; go_big_quiet_op; go_big_quiet_on
                    refine rg_quiet rfl rfl rfl rfl ?_; intro K hK; go_big_quiet_op; go_big_quiet_on
                    refine rg_quiet rfl rfl rfl rfl ?_; intro K hK; go_big_quiet_op; go_big_quiet_on
                    refine rg_quiet rfl rfl rfl rfl ?_; intro K hK; go_big_quiet_op; go_big_quiet_on
                    refine rg_quiet rfl rfl rfl rfl ?_; intro K hK; go_big_quiet_op; go_big_quiet_on
                    refine rg_quiet rfl rfl rfl rfl ?_; intro K hK; go_big_quiet_op; go_big_quiet_on
                    refine rg_quiet rfl rfl rfl rfl ?_; intro K hK; go_big_quiet_op; go_big_quiet_on
                    refine rel_nil fun w6 hE6 _ => ?_
                    obtain ⟨b6, hE7⟩ := FIN.out w6 hE6
                    have hT7 := hT5.ext hE6
                    clear x0 x1 x2 x3 x4 x5 x6 x7 y2 FIN hE6 hE hcu hT5 hp eo
                    go_wp2_with fail
                    go_ret
                    exact ⟨ret_bool HF.out.symm, hE7⟩
                  · have HF : Hid (P = rsB (prevR ps (j + 1 + 1)) ((ps.drop (j + 1 + 1)).map (·.1))) := by show P = _; rw [HD.out, HO.out, eo]; rfl
                    clear HD HO
                    refine rg_quiet rfl rfl rfl rfl ?_; intro K hK; go_big_quiet_op; go_big_quiet_on
                    refine rg_quiet rfl rfl rfl rfl ?_; intro K hK; go_big_quiet_op; go_big_quiet_on
                    refine rg_quiet rfl rfl rfl rfl ?_; intro K hK; go_big_quiet_op; go_big_quiet_on
                    refine rg_quiet rfl rfl rfl rfl ?_; intro K hK; go_big_quiet_op; go_big_quiet_on
                    refine rg_quiet rfl rfl rfl rfl ?_; intro K hK; go_big_quiet_op; go_big_quiet_on
                    refine rg_quiet rfl rfl rfl rfl ?_; intro K hK; go_big_quiet_op; go_big_quiet_on
                    refine rg_quiet rfl rfl rfl rfl ?_; intro K hK; go_big_quiet_op; go_big_quiet_on
                    refine rg_quiet rfl rfl rfl rfl ?_; intro K hK; go_big_quiet_op; go_big_quiet_on
                    refine rg_quiet rfl rfl rfl rfl ?_; intro K hK; go_big_quiet_op; go_big_quiet_on
                    refine rg_quiet rfl rfl rfl rfl ?_; intro K hK; go_big_quiet_op; go_big_quiet_on
                    refine rg_quiet rfl rfl rfl rfl ?_; intro K hK; go_big_quiet_op; go_big_quiet_on
                    refine rg_quiet rfl rfl rfl rfl ?_; intro K hK; go_big_quiet_op; go_big_quiet_on
                    refine rg_quiet rfl rfl rfl rfl ?_; intro K hK; go_big_quiet_op; go_big_quiet_on
                    refine rg_quiet rfl rfl rfl rfl ?_; intro K hK; go_big_quiet_op; go_big_quiet_on
                    refine rg_quiet rfl rfl rfl rfl ?_; intro K hK; go_big_quiet_op; go_big_quiet_on
                    refine rg_quiet rfl rfl rfl rfl ?_; intro K hK; go_big_quiet_op; go_big_quiet_on
                    refine rg_quiet rfl rfl rfl rfl ?_; intro K hK; go_big_quiet_op; go_big_quiet_on
                    refine rel_nil fun w6 hE6 _ => ?_
                    obtain ⟨b6, hE7⟩ := FIN.out w6 hE6
                    have hT7 := hT5.ext hE6
                    clear x0 x1 x2 x3 x4 x5 x6 x7 y2 FIN hE6 hE hcu hT5 hp eo
                    go_wp2_with fail
                    go_roundw
                    case rel => exact ⟨j + 1 + 1, by omega, by go_num, b6, hE7, hT7, HF⟩
                    case measure => simp [intOf] <;> omega
            · have HF : Hid (P = true) := by show P = true; rw [HX.out, List.drop_eq_nil_of_le (by have := HN.out; omega)]; rfl
              go_wp2_with fail
              go_ret
              exact ⟨ret_bool HF.out.symm, hE1⟩
        · have HF : Hid (P = false) := by show P = false; rw [HP.out, q1, q2, q3, q4]; rfl
          go_enter Tryd.func54, Tryd.ntmps54
          go_wp2_with fail
          go_ret
          exact ⟨ret_bool HF.out.symm, hE⟩
      · have HF : Hid (P = false) := by show P = false; rw [HP.out, q1, q2, q3]; rfl
        go_enter Tryd.func54, Tryd.ntmps54
        go_wp2_with fail
        go_ret
        exact ⟨ret_bool HF.out.symm, hE⟩
    · have HF : Hid (P = false) := by show P = false; rw [HP.out, q1, q2]; rfl
      go_enter Tryd.func54, Tryd.ntmps54
      go_wp2_with fail
      go_ret
      exact ⟨ret_bool HF.out.symm, hE⟩
  · have HF : Hid (P = false) := by show P = false; rw [HP.out, q1]; rfl
    go_enter Tryd.func54, Tryd.ntmps54
    go_wp2_with fail
    go_ret
    exact ⟨ret_bool HF.out.symm, hE⟩
end Go.Proofs.YtcmgeccgahakbaaDoor

/- pack.Read, pack.GetPart. -/
namespace Go.Proofs.YtcmgeccgahakbaaDoor
open Go Go.RowKit
attribute [local go_sem] yields yUpon

def getR (l : List UInt8) : Pt × (Nat × Int) := prtR l (0, if l.length ≤ 262144 then 0 else 2)
/-- What GetPart answers. -/
def gpErr (l : List UInt8) : Int := if (getR l).2.2 = 0 then (if ptB (getR l).1.key (getR l).1.gone (getR l).1.rows then 0 else 1) else (getR l).2.2
def gpPt (l : List UInt8) : Pt := if gpErr l = 0 then (getR l).1 else ⟨⟨#[]⟩, 0, []⟩

theorem txtR_size (B : List UInt8) (s : Nat × Int) : (txtR B s).1.size ≤ B.length := by
  unfold txtR
  simp only [str_size, List.length_take, List.length_drop]
  omega
theorem manyR_all {α : Type} {P : α → Prop} {one : Nat × Int → α × (Nat × Int)} (h : ∀ s, P (one s).1) : ∀ n s, ∀ x ∈ (manyR one n s).1, P x
  | 0, _, x, hx => by cases hx
  | n + 1, s, x, hx => by
    unfold manyR at hx
    split at hx
    · rcases List.mem_cons.1 hx with rfl | hx
      · exact h s
      · exact manyR_all h n _ x hx
    · cases hx
theorem rowR_low (B : List UInt8) (s : Nat × Int) : ∀ c ∈ (rowR B s).1.cols, c.name.size ≤ B.length :=
  manyR_all (P := fun c : Co => c.name.size ≤ B.length) (fun s => txtR_size B s) _ _
theorem prtR_low (B : List UInt8) (s : Nat × Int) : ∀ r ∈ (prtR B s).1.rows, ∀ c ∈ r.cols, c.name.size ≤ B.length :=
  manyR_all (P := fun r : Ro => ∀ c ∈ r.cols, c.name.size ≤ B.length) (fun s => rowR_low B s) _ _

set_option maxRecDepth 100000 in
set_option maxHeartbeats 4000000 in
theorem pk_read (v : Value) (l : List UInt8) (w : World) (hv : BytesIn w v l) (hl : l.length ≤ 900000) (hlow : ∀ b o k c, v = .slice (some ⟨b, o, none⟩) k c → b < w.heap.size) :
    Calls Tryd.prog 64 #[v] w fun e w' => ∃ u ps, e = .returned (.tuple #[.agg (pa3 (getR l).1.key (getR l).1.gone u), .int .i64 (getR l).2.2]) ∧ RowsT w' u ps ∧ ps.map (·.1) = (getR l).1.rows ∧ Ext w w' := by
  have hE0 := (Ext.refl w).alloc (.cells (pa3 ⟨#[]⟩ 0 (.slice none 0 0)) 24)
  have b2 := BoxAt.made w (pa3 ⟨#[]⟩ 0 (.slice none 0 0)) 24
  obtain ⟨⟨key, gone, rows⟩, ⟨i, er⟩, hG⟩ : ∃ p s, getR l = (p, s) := ⟨_, _, rfl⟩
  rw [hG]
  unfold getR at hG
  have k1 := rd_read v l _ (hv.ext hE0) hl (fun b o k c e => by have := hlow b o k c e; have := hE0.le; omega)
  have hsz : (w.alloc (.cells (pa3 ⟨#[]⟩ 0 (.slice none 0 0)) 24)).heap.size = w.heap.size + 1 := by simp
  obtain ⟨Q, hQ⟩ : ∃ Q, Q = w.heap.size + 1 := ⟨_, rfl⟩
  rw [hsz, ← hQ] at k1
  have hQ1 : w.heap.size < Q := by omega
  have hQ2 : (w.alloc (.cells (pa3 ⟨#[]⟩ 0 (.slice none 0 0)) 24)).heap.size ≤ Q := by omega
  have K1 := Lib.hid k1
  have HG := Lib.hid hG
  clear k1 hG hsz hQ
  obtain ⟨z, hz⟩ : ∃ z : Int, z = if l.length ≤ 262144 then 0 else 2 := ⟨_, rfl⟩
  rw [← hz] at HG K1
  clear hz
  simp only
  go_enter Tryd.func64, Tryd.ntmps64
  go_wp2_with (go_at_call 68; go_must (refine K1.out.mono ?_); rintro e w1 ⟨rfl, h1, hE1⟩)
  refine (rd_part h1).mono ?_
  rintro e w2 ⟨u, ps, rfl, hr, hmap, h2, hT2⟩
  rw [HG.out] at h2 hmap
  simp only at h2 hmap
  rw [HG.out]
  have hr' := hr
  obtain ⟨ua, uc, rfl⟩ := hr'.shape
  have hne : w.heap.size ≠ Q := by omega
  have b22 := hT2.box (b2.ext hE1) hne
  have hE2 : Ext w w2 := hT2.ext (hE0.trans hE1) (by omega)
  have h3Q := h2.lt
  have b3 := BoxAt.made w2 (pa3 key gone (.slice ua ps.length uc)) 24
  have hE3 := (Ext.refl w2).alloc (.cells (pa3 key gone (.slice ua ps.length uc)) 24)
  have h3 := h2.ext hE3
  unfold pa3
  simp only
  go_wp2_with fail
  have b33 := b3
  have b23 := b22.ext hE3
  have c2 : (w2.alloc (.cells #[.string key, .int .i64 gone, .slice ua ps.length uc] 24)).cell? ⟨Q, 2, none⟩ = some (.int .i64 er) := h3.c2
  have x0 : (w2.alloc (.cells #[.string key, .int .i64 gone, .slice ua ps.length uc] 24)).cell? ⟨w.heap.size, 0, none⟩ = some (.string ⟨#[]⟩) := b23.cell 0
  have x1 : (w2.alloc (.cells #[.string key, .int .i64 gone, .slice ua ps.length uc] 24)).cell? ⟨w.heap.size, 1, none⟩ = some (.int .i64 0) := b23.cell 1
  have x2 : (w2.alloc (.cells #[.string key, .int .i64 gone, .slice ua ps.length uc] 24)).cell? ⟨w.heap.size, 2, none⟩ = some (.slice none 0 0) := b23.cell 2
  have y0 : (w2.alloc (.cells #[.string key, .int .i64 gone, .slice ua ps.length uc] 24)).cell? ⟨w2.heap.size, 0, none⟩ = some (.string key) := b33.cell 0
  have y1 : (w2.alloc (.cells #[.string key, .int .i64 gone, .slice ua ps.length uc] 24)).cell? ⟨w2.heap.size, 1, none⟩ = some (.int .i64 gone) := b33.cell 1
  have y2 : (w2.alloc (.cells #[.string key, .int .i64 gone, .slice ua ps.length uc] 24)).cell? ⟨w2.heap.size, 2, none⟩ = some (.slice ua ps.length uc) := b33.cell 2
  have hneQ : Q ≠ w.heap.size := by omega
  have hr4 : RowsT (w2.alloc (.cells #[.string key, .int .i64 gone, .slice ua ps.length uc] 24)) (.slice ua ps.length uc) ps := hr.ext hE3
  have hE4 : Ext w (w2.alloc (.cells #[.string key, .int .i64 gone, .slice ua ps.length uc] 24)) := hE2.trans hE3
  replace b23 : BoxAt (w2.alloc (.cells #[.string key, .int .i64 gone, .slice ua ps.length uc] 24)) w.heap.size #[.string ⟨#[]⟩, .int .i64 0, .slice none 0 0] 24 := b23
  replace b33 : BoxAt (w2.alloc (.cells #[.string key, .int .i64 gone, .slice ua ps.length uc] 24)) w2.heap.size #[.string key, .int .i64 gone, .slice ua ps.length uc] 24 := b33

  have xf := b23.free
  generalize hw4 : (w2.alloc (.cells #[.string key, .int .i64 gone, .slice ua ps.length uc] 24)) = w4 at b23 b33 c2 x0 x1 x2 y0 y1 y2 xf hr4 hE4 ⊢
  go_region
  have b5 := (((b23.set 0 (.string key)).set 1 (.int .i64 gone)).set 2 (.slice ua ps.length uc)).ext (Ext.refl _).drew
  have hr5 := (RowsT.set 2 (.slice ua ps.length uc) ((b23.set 0 (.string key)).set 1 (.int .i64 gone)) (by decide) (by decide) (RowsT.set 1 (.int .i64 gone) (b23.set 0 (.string key)) (by decide) (by decide) (RowsT.set 0 (.string key) b23 (by decide) (by decide) hr4))).ext (Ext.refl _).drew
  have hE5a : Ext w (w4.setCell ⟨w.heap.size, 0, none⟩ (.string key)) := hE4.setCell (by exact Nat.le_refl _) _
  have hE5b : Ext w ((w4.setCell ⟨w.heap.size, 0, none⟩ (.string key)).setCell ⟨w.heap.size, 1, none⟩ (.int .i64 gone)) := hE5a.setCell (by exact Nat.le_refl _) _
  have hE5c : Ext w (((w4.setCell ⟨w.heap.size, 0, none⟩ (.string key)).setCell ⟨w.heap.size, 1, none⟩ (.int .i64 gone)).setCell ⟨w.heap.size, 2, none⟩ (.slice ua ps.length uc)) := hE5b.setCell (by exact Nat.le_refl _) _
  have hE5 := hE5c.drew
  clear hE5a hE5b hE5c
  generalize hw5 : World.drew _ = w5 at b5 hr5 hE5 ⊢
  replace b5 : BoxAt w5 w.heap.size (pa3 key gone (.slice ua ps.length uc)) 24 := b5
  go_wp2
  refine bodyPost_ret (v := .tuple #[.agg (pa3 key gone (.slice ua ps.length uc)), .int .i64 er]) ?_ rfl ⟨_, ps, rfl, hr5, hmap, hE5⟩
  obtain ⟨z0, z1, z2⟩ := b5.pa
  simp [results, Tryd.results64, go_sem, z0, z1, z2]
  rfl

set_option maxRecDepth 100000 in
set_option maxHeartbeats 4000000 in
theorem pk_getpart (v : Value) (l : List UInt8) (w : World) (hv : BytesIn w v l) (hl : l.length ≤ 900000) (hlow : ∀ b o k c, v = .slice (some ⟨b, o, none⟩) k c → b < w.heap.size) (hT : TabU w) :
    Calls Tryd.prog 18 #[v] w fun e w' => ∃ u ps, e = .returned (.tuple #[.agg (pa3 (gpPt l).key (gpPt l).gone u), .int .i64 (gpErr l)]) ∧ RowsT w' u ps ∧ ps.map (·.1) = (gpPt l).rows ∧ Ext w w' := by
  have hE0 := (Ext.refl w).alloc (.cells (pa3 ⟨#[]⟩ 0 (.slice none 0 0)) 24)
  have b2 := BoxAt.made w (pa3 ⟨#[]⟩ 0 (.slice none 0 0)) 24
  have k1 := pk_read v l _ (hv.ext hE0) hl (fun b o k c e => by have := hlow b o k c e; have := hE0.le; omega)
  have hT0 := hT.ext hE0
  obtain ⟨⟨key, gone, rows⟩, ⟨i, er⟩, hG⟩ : ∃ p s, getR l = (p, s) := ⟨_, _, rfl⟩
  have hlw := prtR_low l (0, if l.length ≤ 262144 then 0 else 2)
  have hlw2 : ∀ r ∈ (getR l).1.rows, ∀ c ∈ r.cols, c.name.size ≤ l.length := hlw
  rw [hG] at k1 hlw2
  simp only at k1 hlw2
  have K1 := Lib.hid k1
  have HLW := Lib.hid hlw2
  clear k1 hlw hlw2
  by_cases he : er = 0
  · subst he
    cases hq : ptB key gone rows
    · have e1 : gpErr l = 1 := by unfold gpErr; rw [hG]; simp [hq]
      have e2 : gpPt l = ⟨⟨#[]⟩, 0, []⟩ := by unfold gpPt; rw [e1]; rfl
      rw [e1, e2]
      have HQ := Lib.hid hq
      clear hq e1 e2 hG
      go_enter Tryd.func18, Tryd.ntmps18
      go_wp2_with (go_at_call 64; go_must (refine K1.out.mono ?_); rintro e w1 ⟨u, ps, rfl, hr, hmap, hE1⟩; have hr' := hr; obtain ⟨ua, uc, rfl⟩ := hr'.shape; unfold pa3)
      have hT1 := hT0.ext hE1
      have b21 := b2.ext hE1
      have b3 := BoxAt.made w1 (pa3 key gone (.slice ua ps.length uc)) 24
      have hE3 := (Ext.refl w1).alloc (.cells (pa3 key gone (.slice ua ps.length uc)) 24)
      have hlp : ∀ p ∈ ps, ∀ c ∈ p.1.cols, c.name.size ≤ 1000000 := fun p hp c hc => by
        have := HLW.out p.1 (by rw [← hmap]; exact List.mem_map_of_mem (f := (·.1)) hp) c hc
        omega
      have HLP := Lib.hid hlp
      clear hlp
      go_wp2_with fail
      refine (pcheck_gen key gone (.slice ua ps.length uc) ps _ (hr.rows.ext hE3) HLP.out (hT1.ext hE3)).mono ?_
      rintro e w4 ⟨rfl, hE4⟩
      rw [hmap, HQ.out]
      have b24 := b21.ext (hE3.trans hE4)
      have b34 := b3.ext hE4
      have x0 : w4.cell? ⟨w.heap.size, 0, none⟩ = some (.string ⟨#[]⟩) := b24.cell 0
      have x1 : w4.cell? ⟨w.heap.size, 1, none⟩ = some (.int .i64 0) := b24.cell 1
      have x2 : w4.cell? ⟨w.heap.size, 2, none⟩ = some (.slice none 0 0) := b24.cell 2
      have xf := b24.free
      have hEz0 : Ext w (w4.setCell ⟨w.heap.size, 0, none⟩ (.string ⟨#[]⟩)) := Ext.setCell (hE0.trans (hE1.trans (hE3.trans hE4))) (by exact Nat.le_refl _) _
      have hEz1 : Ext w ((w4.setCell ⟨w.heap.size, 0, none⟩ (.string ⟨#[]⟩)).setCell ⟨w.heap.size, 1, none⟩ (.int .i64 0)) := hEz0.setCell (by exact Nat.le_refl _) _
      have hEz2 : Ext w (((w4.setCell ⟨w.heap.size, 0, none⟩ (.string ⟨#[]⟩)).setCell ⟨w.heap.size, 1, none⟩ (.int .i64 0)).setCell ⟨w.heap.size, 2, none⟩ (.slice none 0 0)) := hEz1.setCell (by exact Nat.le_refl _) _
      have bz : BoxAt (((w4.setCell ⟨w.heap.size, 0, none⟩ (.string ⟨#[]⟩)).setCell ⟨w.heap.size, 1, none⟩ (.int .i64 0)).setCell ⟨w.heap.size, 2, none⟩ (.slice none 0 0)) w.heap.size (pa3 ⟨#[]⟩ 0 (.slice none 0 0)) 24 := (((b24.set 0 (.string ⟨#[]⟩)).set 1 (.int .i64 0)).set 2 (.slice none 0 0))
      go_wp2_with fail
      refine bodyPost_ret (v := .tuple #[.agg (pa3 ⟨#[]⟩ 0 (.slice none 0 0)), .int .i64 1]) ?_ rfl ⟨_, [], rfl, RowsT.nil _, rfl, hEz2⟩
      generalize World.setCell _ _ _ = w99 at bz ⊢
      obtain ⟨z0, z1, z2⟩ := bz.pa
      simp [results, Tryd.results18, go_sem, z0, z1, z2]
      rfl
    · have e1 : gpErr l = 0 := by unfold gpErr; rw [hG]; simp [hq]
      have e2 : gpPt l = ⟨key, gone, rows⟩ := by unfold gpPt; rw [e1, if_pos rfl, hG]
      rw [e1, e2]
      have HQ := Lib.hid hq
      clear hq e1 e2 hG
      go_enter Tryd.func18, Tryd.ntmps18
      go_wp2_with (go_at_call 64; go_must (refine K1.out.mono ?_); rintro e w1 ⟨u, ps, rfl, hr, hmap, hE1⟩; have hr' := hr; obtain ⟨ua, uc, rfl⟩ := hr'.shape; unfold pa3)
      have hT1 := hT0.ext hE1
      have b21 := b2.ext hE1
      have b3 := BoxAt.made w1 (pa3 key gone (.slice ua ps.length uc)) 24
      have hE3 := (Ext.refl w1).alloc (.cells (pa3 key gone (.slice ua ps.length uc)) 24)
      have hlp : ∀ p ∈ ps, ∀ c ∈ p.1.cols, c.name.size ≤ 1000000 := fun p hp c hc => by
        have := HLW.out p.1 (by rw [← hmap]; exact List.mem_map_of_mem (f := (·.1)) hp) c hc
        omega
      have HLP := Lib.hid hlp
      clear hlp
      go_wp2_with fail
      refine (pcheck_gen key gone (.slice ua ps.length uc) ps _ (hr.rows.ext hE3) HLP.out (hT1.ext hE3)).mono ?_
      rintro e w4 ⟨rfl, hE4⟩
      rw [hmap, HQ.out]
      have b24 := b21.ext (hE3.trans hE4)
      have b34 := b3.ext hE4
      have z0 : w4.cell? ⟨w1.heap.size, 0, none⟩ = some (.string key) := b34.cell 0
      have z1 : w4.cell? ⟨w1.heap.size, 1, none⟩ = some (.int .i64 gone) := b34.cell 1
      have z2 : w4.cell? ⟨w1.heap.size, 2, none⟩ = some (.slice ua ps.length uc) := b34.cell 2
      have x0 : w4.cell? ⟨w.heap.size, 0, none⟩ = some (.string ⟨#[]⟩) := b24.cell 0
      have x1 : w4.cell? ⟨w.heap.size, 1, none⟩ = some (.int .i64 0) := b24.cell 1
      have x2 : w4.cell? ⟨w.heap.size, 2, none⟩ = some (.slice none 0 0) := b24.cell 2
      have xf := b24.free
      have hEz0 : Ext w (w4.setCell ⟨w.heap.size, 0, none⟩ (.string key)) := Ext.setCell (hE0.trans (hE1.trans (hE3.trans hE4))) (by exact Nat.le_refl _) _
      have hEz1 : Ext w ((w4.setCell ⟨w.heap.size, 0, none⟩ (.string key)).setCell ⟨w.heap.size, 1, none⟩ (.int .i64 gone)) := hEz0.setCell (by exact Nat.le_refl _) _
      have hEz2 : Ext w (((w4.setCell ⟨w.heap.size, 0, none⟩ (.string key)).setCell ⟨w.heap.size, 1, none⟩ (.int .i64 gone)).setCell ⟨w.heap.size, 2, none⟩ (.slice ua ps.length uc)) := hEz1.setCell (by exact Nat.le_refl _) _
      have bz : BoxAt (((w4.setCell ⟨w.heap.size, 0, none⟩ (.string key)).setCell ⟨w.heap.size, 1, none⟩ (.int .i64 gone)).setCell ⟨w.heap.size, 2, none⟩ (.slice ua ps.length uc)) w.heap.size (pa3 key gone (.slice ua ps.length uc)) 24 := (((b24.set 0 (.string key)).set 1 (.int .i64 gone)).set 2 (.slice ua ps.length uc))
      go_wp2_with fail
      refine bodyPost_ret (v := .tuple #[.agg (pa3 key gone (.slice ua ps.length uc)), .int .i64 0]) ?_ rfl ⟨_, ps, rfl, (RowsT.set 2 (.slice ua ps.length uc) ((b24.set 0 (.string key)).set 1 (.int .i64 gone)) (by decide) (by decide) (RowsT.set 1 (.int .i64 gone) (b24.set 0 (.string key)) (by decide) (by decide) (RowsT.set 0 (.string key) b24 (by decide) (by decide) (hr.ext (hE3.trans hE4))))), hmap, hEz2⟩
      generalize World.setCell _ _ _ = w99 at bz ⊢
      obtain ⟨z0, z1, z2⟩ := bz.pa
      simp [results, Tryd.results18, go_sem, z0, z1, z2]
      rfl
  · have e1 : gpErr l = er := by unfold gpErr; rw [hG]; exact if_neg he
    have e2 : gpPt l = ⟨⟨#[]⟩, 0, []⟩ := by unfold gpPt; rw [e1, if_neg he]
    rw [e1, e2]
    clear e1 e2 hG
    go_enter Tryd.func18, Tryd.ntmps18
    go_wp2_with (go_at_call 64; go_must (refine K1.out.mono ?_); rintro e w1 ⟨u, ps, rfl, hr, hmap, hE1⟩; have hr' := hr; obtain ⟨ua, uc, rfl⟩ := hr'.shape; unfold pa3; have xf := (b2.ext hE1).frees; have d0 : (er == 0) = false := (by simpa using he); have v0 : ∀ o, (w1.alloc o).cell? ⟨w.heap.size, 0, none⟩ = some (.string ⟨#[]⟩) := fun o => (b2.ext hE1).allocs o 0; have v1 : ∀ o, (w1.alloc o).cell? ⟨w.heap.size, 1, none⟩ = some (.int .i64 0) := fun o => (b2.ext hE1).allocs o 1; have v2 : ∀ o, (w1.alloc o).cell? ⟨w.heap.size, 2, none⟩ = some (.slice none 0 0) := fun o => (b2.ext hE1).allocs o 2)
    have b3 := BoxAt.made w1 (pa3 key gone (.slice ua ps.length uc)) 24
    have hE3 : Ext w1 (w1.alloc (.cells #[.string key, .int .i64 gone, .slice ua ps.length uc] 24)) := (Ext.refl w1).alloc (.cells (pa3 key gone (.slice ua ps.length uc)) 24)
    have b24 : BoxAt (w1.alloc (.cells #[.string key, .int .i64 gone, .slice ua ps.length uc] 24)) w.heap.size (pa3 ⟨#[]⟩ 0 (.slice none 0 0)) 24 := b2.ext (hE1.trans hE3)
    have hEz0 : Ext w ((w1.alloc (.cells #[.string key, .int .i64 gone, .slice ua ps.length uc] 24)).setCell ⟨w.heap.size, 0, none⟩ (.string ⟨#[]⟩)) := Ext.setCell (hE0.trans (hE1.trans hE3)) (by exact Nat.le_refl _) _
    have hEz1 : Ext w (((w1.alloc (.cells #[.string key, .int .i64 gone, .slice ua ps.length uc] 24)).setCell ⟨w.heap.size, 0, none⟩ (.string ⟨#[]⟩)).setCell ⟨w.heap.size, 1, none⟩ (.int .i64 0)) := hEz0.setCell (by exact Nat.le_refl _) _
    have hEz2 : Ext w ((((w1.alloc (.cells #[.string key, .int .i64 gone, .slice ua ps.length uc] 24)).setCell ⟨w.heap.size, 0, none⟩ (.string ⟨#[]⟩)).setCell ⟨w.heap.size, 1, none⟩ (.int .i64 0)).setCell ⟨w.heap.size, 2, none⟩ (.slice none 0 0)) := hEz1.setCell (by exact Nat.le_refl _) _
    have bz : BoxAt ((((w1.alloc (.cells #[.string key, .int .i64 gone, .slice ua ps.length uc] 24)).setCell ⟨w.heap.size, 0, none⟩ (.string ⟨#[]⟩)).setCell ⟨w.heap.size, 1, none⟩ (.int .i64 0)).setCell ⟨w.heap.size, 2, none⟩ (.slice none 0 0)) w.heap.size (pa3 ⟨#[]⟩ 0 (.slice none 0 0)) 24 := (((b24.set 0 (.string ⟨#[]⟩)).set 1 (.int .i64 0)).set 2 (.slice none 0 0))
    refine bodyPost_ret (v := .tuple #[.agg (pa3 ⟨#[]⟩ 0 (.slice none 0 0)), .int .i64 er]) ?_ rfl ⟨_, [], rfl, RowsT.nil _, rfl, hEz2⟩
    generalize World.setCell _ _ _ = w99 at bz ⊢
    obtain ⟨z0, z1, z2⟩ := bz.pa
    simp [results, Tryd.results18, go_sem, z0, z1, z2]
    rfl
end Go.Proofs.YtcmgeccgahakbaaDoor

/- order.own. -/
namespace Go.Proofs.YtcmgeccgahakbaaDoor
open Go Go.RowKit

set_option maxHeartbeats 400000 in
theorem own_any (a : Option Addr) (n c : Nat) (h : n ≤ c) (_hc : c ≤ maxLen) (w : World) :
    Calls Tryd.prog 145 #[.slice a n c] w fun e w' => e = .returned (.slice a n n) ∧ w = w' := by
  unfold maxLen at _hc
  go_enter Tryd.func145, Tryd.ntmps145
  go_wp2
  go_ret
  exact ⟨rfl, rfl⟩

end Go.Proofs.YtcmgeccgahakbaaDoor

/- math/bits.Len64, laid at this program (the text is the tool's, its numbers by name). -/
namespace Go.Proofs
open Go.Shelf
def Tryd.lays129_ren : Go.Shelf.Ren := ⟨fun | 129 => 144 | n => n, fun | 53 => 159 | 3 => 3 | 4 => 4 | 46 => 79 | 5 => 5 | 9 => 9 | n => n, fun | n => n⟩
theorem Tryd.lays129 : Go.Proofs.Lays.n129 Tryd.prog Tryd.lays129_ren := {
  mixed := by kernel_rfl
  f129 := Tryd.func144.trans (congrArg some (by kernel_rfl))
  t3 := Tryd.underlying3
  a3 := Tryd.isAgg3
  z3 := Tryd.sizeOf3
  v3 := Tryd.zeroValue3
  t4 := Tryd.underlying4
  a4 := Tryd.isAgg4
  z4 := Tryd.sizeOf4
  v4 := Tryd.zeroValue4
  t5 := Tryd.underlying5
  a5 := Tryd.isAgg5
  z5 := Tryd.sizeOf5
  v5 := Tryd.zeroValue5
  t9 := Tryd.underlying9
  a9 := Tryd.isAgg9
  z9 := Tryd.sizeOf9
  v9 := Tryd.zeroValue9
  t46 := Tryd.underlying79
  a46 := Tryd.isAgg79
  z46 := Tryd.sizeOf79
  v46 := Tryd.zeroValue79
  t53 := Tryd.underlying159
  a53 := Tryd.isAgg159
  z53 := Tryd.sizeOf159
  v53 := Tryd.zeroValue159 }
theorem Tryd.bits_Len64 (x : Int) (w : World) (h0 : 0 ≤ x) (h1 : x ≤ 18446744073709551615) :
    Calls Tryd.prog 144 #[.int .u64 x] w fun e w' => e = .returned (.int .i64 (Lib.bitLen x.toNat)) ∧ w' = w := Any.bits_Len64 Tryd.lays129 x w h0 h1
end Go.Proofs
