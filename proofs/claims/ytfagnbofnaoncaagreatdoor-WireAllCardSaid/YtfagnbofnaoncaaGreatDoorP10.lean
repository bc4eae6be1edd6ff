/- part.Check of any partition. -/
import Derived.Test.YtfagnbofnaoncaaGreatDoorP9
import Derived.Test.YtfagnbofnaoncaaGreatDoorP5
import Derived.Test.YtfagnbofnaoncaaGreatDoorP8
set_option linter.unusedSimpArgs false
set_option linter.unusedVariables false
namespace Go.Proofs.YtfagnbofnaoncaaGreatDoor
open Go Go.RowKit
attribute [local go_sem] yields yUpon ro8 pa3

set_option maxRecDepth 100000 in
set_option maxHeartbeats 8000000 in
theorem pcheck_gen (pk : ByteArray) (pg : Int) (pu : Value) (ps : List (Ro × Value)) (w : World) (hin : RowsIn w pu ps) (hlow : ∀ p ∈ ps, ∀ c ∈ p.1.cols, c.name.size ≤ 1000000) (hT : TabU w) :
    Calls Tryz.prog 50 #[.agg #[.string pk, .int .i64 pg, pu]] w fun e w' => e = .returned (.bool (ptB pk pg (ps.map (·.1)))) ∧ Ext w w' := by
  have a0 := BoxAt.made w (pa3 pk pg pu) 50
  have hE := (Ext.refl w).alloc (.cells (pa3 pk pg pu) 50)
  have hT0 := hT.ext hE
  obtain ⟨aa, ca, rfl, hca, hcma, hget⟩ := hin.get
  clear hT
  have c0 := a0.pa
  obtain ⟨n, hn⟩ : ∃ n, n = ps.length := ⟨_, rfl⟩
  rw [← hn] at hca a0 hE c0 hT0 ⊢
  obtain ⟨P, hP⟩ : ∃ P, P = ptB pk pg (ps.map (·.1)) := ⟨_, rfl⟩
  have hP2 : P = (!decide (100 < (pk.size : Int)) && !decide (pg < 0) && !decide (1099511627776 < pg) && !decide (100 < (n : Int)) && rsB none (ps.map (·.1))) := by rw [hP, hn]; unfold ptB; rw [List.length_map]
  rw [← hP]
  have HP := Lib.hid hP2
  have HN := Lib.hid hn
  have HGET := Lib.hid hget
  have HC := Lib.hid hin.cols
  have HL := Lib.hid hlow
  clear hn hget hin hP hP2 hlow
  cases q1 : decide (100 < (pk.size : Int))
  · cases q2 : decide (pg < 0)
    · cases q3 : decide (1099511627776 < pg)
      · cases q4 : decide (100 < (n : Int))
        · have HP2 : Hid (P = rsB none (ps.map (·.1))) := by show P = _; rw [HP.out, q1, q2, q3, q4]; rfl
          clear HP
          go_enter Tryz.func50, Tryz.ntmps50
          go_wp2_with fail
          go_loopw [28] (fun i wr => ∃ k : Nat, k ≤ n ∧ i = .int .i64 k ∧ BoxAt wr w.heap.size (pa3 pk pg (.slice aa n ca)) 50 ∧ Ext w wr ∧ TabU wr ∧ Hid (P = rsB (prevR ps k) ((ps.drop k).map (·.1)))) (fun i _ => n - (intOf i).toNat)
          case atStart => exact ⟨0, Nat.zero_le _, rfl, a0, hE, hT0, HP2⟩
          case round =>
            obtain ⟨k, hkn, rfl, b0, hE1, hT1, HX⟩ := hrel
            clear a0 c0 hE q1 q2 q3 q4 HP2 hT0
            have hz := b0.pa.1
            clear hz
            by_cases hlt : k < n
            · have hkp : k < ps.length := by rw [← HN.out]; exact hlt
              have hD : ps.drop k = ps[k] :: ps.drop (k + 1) := List.drop_eq_getElem_cons hkp
              have hD2 : P = (rwB ps[k].1 && orB (prevR ps k) ps[k].1.key && rsB (prevR ps (k + 1)) ((ps.drop (k + 1)).map (·.1))) := by
                rw [HX.out, prevR_succ hD, hD]
                rfl
              obtain ⟨b, o, rfl, hat⟩ := HGET.out k hkp
              have hcu := HC.out _ (List.getElem_mem hkp)
              have hll := HL.out _ (List.getElem_mem hkp)
              obtain ⟨M, hM⟩ : ∃ M, M = ps[k].1 := ⟨_, rfl⟩
              obtain ⟨au, cu, hu⟩ := hcu.shape
              have HM := Lib.hid hM
              rw [← hM] at hat hu hcu hll hD2
              rw [hu] at hat hcu
              have HD := Lib.hid hD2
              clear hM hu hD hD2 HX
              obtain ⟨m, hm⟩ : ∃ m, m = M.cols.length := ⟨_, rfl⟩
              rw [← hm] at hat hcu
              have HMM := Lib.hid hm
              have HLL := Lib.hid hll
              clear hm hll
              have hki : decide ((k : Int) < (n : Int)) = true := by simpa using hlt
              have hat1 := hat.ext hE1
              have hcu1 := hcu.ext hE1
              clear hat hcu
              obtain ⟨B, hB⟩ : ∃ B, B = rwB M := ⟨_, rfl⟩
              have HB := Lib.hid hB
              rw [← hB] at HD
              clear hB
              obtain ⟨x0, x1, x2, x3, x4, x5, x6, x7⟩ := hat1
              go_wp2_with (((guard_target =~ wpList _ _ _ (Oper.mk none (Op.store _ (Operand.tmp 4) (Operand.tmp 32)) _ _ _ _ :: _) _ _); go_must (refine storeBox rfl 58 (.tmp 4) (.tmp 32) rfl (wr.heap.size) _ _ _ (by rfl) (by rfl) ((BoxAt.made wr (ro8 ⟨⟨#[]⟩, zeroCl, 0, 0, []⟩ (.slice none 0 0)) 58)) (by kernel_rfl) (by rfl) (by simp [Value.oneCell']) ?_); intro w4 c4 g4))
              have hX4 : Ext wr w4 := ((Ext.refl wr).alloc _).grown g4 (fun q hq => by cases hq; omega)
              have d4 : BoxAt w4 wr.heap.size (ro8 M (.slice au m cu)) 58 := c4
              have b4 := b0.ext hX4
              have hE4 := hE1.trans hX4
              have hT4 := hT1.ext hX4
              have hcu4 := hcu1.ext hX4
              clear c4 g4 x0 x1 x2 x3 x4 x5 x6 x7 b0 hcu1
              simp only [Act.put]
              refine wp_region_in 19 [(1, fun v _ => v = .bool B)] (fun y => BoxAt y wr.heap.size (ro8 M (.slice au m cu)) 58 ∧ BoxAt y w.heap.size (pa3 pk pg (.slice (some ⟨b, o, none⟩) n ca)) 50 ∧ ColsIn y (.slice au m cu) M.cols ∧ Ext w y ∧ TabU y) (by kernel_rfl) (by kernel_rfl) (by kernel_rfl) ⟨stays_eq _, trivial⟩ ⟨d4, b4, hcu4, hE4, hT4⟩ ?_
              clear d4 b4 hE4 hcu4 hE1 hX4 hT4 hT1
              rintro w5 ⟨d5, b5, hcu, hE, hT5⟩
              have FIN : Hid (∀ wx, Ext w5 wx → BoxAt wx w.heap.size (pa3 pk pg (.slice (some ⟨b, o, none⟩) n ca)) 50 ∧ Ext w wx) := fun wx h => ⟨b5.ext h, hE.trans h⟩
              obtain ⟨x0, x1, x2, x3, x4, x5, x6, x7⟩ := d5.ro
              obtain ⟨y0, y1, y2⟩ := b5.pa
              clear d5 b5
              replace x0 := held x0
              replace x1 := held x1
              replace x2 := held x2
              replace x3 := held x3
              replace x4 := held x4
              replace x5 := held x5
              replace x6 := held x6
              replace x7 := held x7
              replace y2 := held y2
              clear y0 y1
              refine rg_quiet rfl rfl rfl rfl ?_; intro K hK; go_big_quiet_op; go_big_quiet_on
              refine rg_val [] rfl rfl rfl (by kernel_rfl) (fun w1 hE hf => ?_) ?_
              · go_simp
                rw [HMM.out]
                refine (rcheck_gen M _ w1 (by rw [← HMM.out]; exact hcu.ext hE) HLL.out (hT5.ext hE)).mono ?_
                rintro e w' ⟨he, hw⟩
                exact ⟨_, he, rg_done hE hw (by rw [HB.out])⟩
              simp only [Act.put, List.setIfInBounds_toArray, List.set_cons_zero, List.set_cons_succ]
              cases B
              · have HF : Hid (P = false) := by show P = false; rw [HD.out]; rfl
                clear HD
                refine rg_quiet rfl rfl rfl rfl ?_; intro K hK; go_big_quiet_op; go_big_quiet_on
                refine rg_quiet rfl rfl rfl rfl ?_; intro K hK; go_big_quiet_op; go_big_quiet_on
                refine rel_skip rfl rfl ?_
                simp only [Act.put, List.setIfInBounds_toArray, List.set_cons_zero, List.set_cons_succ]
                refine rel_skip rfl rfl ?_
                simp only [Act.put, List.setIfInBounds_toArray, List.set_cons_zero, List.set_cons_succ]
                refine rel_skip rfl rfl ?_
                simp only [Act.put, List.setIfInBounds_toArray, List.set_cons_zero, List.set_cons_succ]
                refine rel_skip rfl rfl ?_
                simp only [Act.put, List.setIfInBounds_toArray, List.set_cons_zero, List.set_cons_succ]
                refine rel_skip rfl rfl ?_
                simp only [Act.put, List.setIfInBounds_toArray, List.set_cons_zero, List.set_cons_succ]
                refine rel_skip rfl rfl ?_
                simp only [Act.put, List.setIfInBounds_toArray, List.set_cons_zero, List.set_cons_succ]
                refine rel_skip rfl rfl ?_
                simp only [Act.put, List.setIfInBounds_toArray, List.set_cons_zero, List.set_cons_succ]
                refine rel_skip rfl rfl ?_
                simp only [Act.put, List.setIfInBounds_toArray, List.set_cons_zero, List.set_cons_succ]
                refine rel_skip rfl rfl ?_
                simp only [Act.put, List.setIfInBounds_toArray, List.set_cons_zero, List.set_cons_succ]
                refine rel_skip rfl rfl ?_
                simp only [Act.put, List.setIfInBounds_toArray, List.set_cons_zero, List.set_cons_succ]
                refine rel_skip rfl rfl ?_
                simp only [Act.put, List.setIfInBounds_toArray, List.set_cons_zero, List.set_cons_succ]
                refine rel_skip rfl rfl ?_
                simp only [Act.put, List.setIfInBounds_toArray, List.set_cons_zero, List.set_cons_succ]
                refine rel_skip rfl rfl ?_
                simp only [Act.put, List.setIfInBounds_toArray, List.set_cons_zero, List.set_cons_succ]
                refine rel_skip rfl rfl ?_
                simp only [Act.put, List.setIfInBounds_toArray, List.set_cons_zero, List.set_cons_succ]
                refine rg_quiet rfl rfl rfl rfl ?_; intro K hK; go_big_quiet_op; go_big_quiet_on
                refine rel_nil fun w6 hE6 _ => ?_
                obtain ⟨b6, hE7⟩ := FIN.out w6 hE6
                have hT7 := hT5.ext hE6
                clear x0 x1 x2 x3 x4 x5 x6 x7 y2 FIN hE6 hE hcu hT5
                go_wp2_with fail
                go_ret
                exact ⟨ret_bool HF.out.symm, hE7⟩
              · cases k with
                | zero =>
                  have HF : Hid (P = rsB (prevR ps (0 + 1)) ((ps.drop (0 + 1)).map (·.1))) := by show P = _; rw [HD.out]; rfl
                  clear HD
                  refine rg_quiet rfl rfl rfl rfl ?_; intro K hK; go_big_quiet_op; go_big_quiet_on
                  refine rg_quiet rfl rfl rfl rfl ?_; intro K hK; go_big_quiet_op; go_big_quiet_on
                  refine rg_quiet rfl rfl rfl rfl ?_; intro K hK; go_big_quiet_op; go_big_quiet_on
                  refine rg_quiet rfl rfl rfl rfl ?_; intro K hK; go_big_quiet_op; go_big_quiet_on
                  refine rg_quiet rfl rfl rfl rfl ?_; intro K hK; go_big_quiet_op; go_big_quiet_on
                  refine rel_skip rfl rfl ?_
                  simp only [Act.put, List.setIfInBounds_toArray, List.set_cons_zero, List.set_cons_succ]
                  refine rel_skip rfl rfl ?_
                  simp only [Act.put, List.setIfInBounds_toArray, List.set_cons_zero, List.set_cons_succ]
                  refine rel_skip rfl rfl ?_
                  simp only [Act.put, List.setIfInBounds_toArray, List.set_cons_zero, List.set_cons_succ]
                  refine rel_skip rfl rfl ?_
                  simp only [Act.put, List.setIfInBounds_toArray, List.set_cons_zero, List.set_cons_succ]
                  refine rel_skip rfl rfl ?_
                  simp only [Act.put, List.setIfInBounds_toArray, List.set_cons_zero, List.set_cons_succ]
                  refine rel_skip rfl rfl ?_
                  simp only [Act.put, List.setIfInBounds_toArray, List.set_cons_zero, List.set_cons_succ]
                  refine rel_skip rfl rfl ?_
                  simp only [Act.put, List.setIfInBounds_toArray, List.set_cons_zero, List.set_cons_succ]
                  refine rel_skip rfl rfl ?_
                  simp only [Act.put, List.setIfInBounds_toArray, List.set_cons_zero, List.set_cons_succ]
                  refine rel_skip rfl rfl ?_
                  simp only [Act.put, List.setIfInBounds_toArray, List.set_cons_zero, List.set_cons_succ]
                  refine rel_skip rfl rfl ?_
                  simp only [Act.put, List.setIfInBounds_toArray, List.set_cons_zero, List.set_cons_succ]
                  refine rg_quiet rfl rfl rfl rfl ?_; intro K hK; go_big_quiet_op; go_big_quiet_on
                  refine rg_quiet rfl rfl rfl rfl ?_; intro K hK; go_big_quiet_op; go_big_quiet_on
                  refine rel_nil fun w6 hE6 _ => ?_
                  obtain ⟨b6, hE7⟩ := FIN.out w6 hE6
                  have hT7 := hT5.ext hE6
                  clear x0 x1 x2 x3 x4 x5 x6 x7 y2 FIN hE6 hE hcu hT5
                  go_wp2_with fail
                  go_roundw
                  case rel => exact ⟨0 + 1, by omega, by go_num, b6, hE7, hT7, HF⟩
                  case measure => simp [intOf] <;> omega
                | succ j =>
                  have hjp : j < ps.length := by omega
                  obtain ⟨b', o', e', hp⟩ := HGET.out j hjp
                  cases e'
                  replace hp := held (hE.cell hp.c0)
                  obtain ⟨Pn, hPn⟩ : ∃ Pn, Pn = ps[j].1.key := ⟨_, rfl⟩
                  rw [← hPn] at hp
                  have HO : Hid (orB (prevR ps (j + 1)) M.key = Op.bytesLess Pn.toList M.key.toList) := by show orB (prevR ps (j + 1)) M.key = _; simp [prevR, hjp, orB, hPn]
                  clear hPn
                  have hw : IntKind.i64.wrap ((j : Int) + 1 - 1) = (j : Int) := by rw [IntKind.wrap_i64]; omega
                  have hjl : decide ((j : Int) < (n : Int)) = true := by simp; omega
                  have hj0 : decide ((0 : Int) < (j : Int) + 1) = true := decide_eq_true (by omega)
                  cases eo : Op.bytesLess Pn.toList M.key.toList
                  · have HF : Hid (P = false) := by show P = false; rw [HD.out, HO.out, eo]; rfl
                    clear HD HO
                    refine rg_quiet rfl rfl rfl rfl ?_; intro K hK; go_big_quiet_op; go_big_quiet_on
                    refine rg_quiet rfl rfl rfl rfl ?_; intro K hK; go_big_quiet_op; go_big_quiet_on
                    refine rg_quiet rfl rfl rfl rfl ?_; intro K hK; go_big_quiet_op; go_big_quiet_on
                    refine rg_quiet rfl rfl rfl rfl ?_; intro K hK; go_big_quiet_op; go_big_quiet_on
                    refine rg_quiet rfl rfl rfl rfl ?_; intro K hK; go_big_quiet_op; go_big_quiet_on
                    refine rg_quiet rfl rfl rfl rfl ?_; intro K hK; go_big_quiet_op; go_big_quiet_on
                    refine rg_quiet rfl rfl rfl rfl ?_; intro K hK; go_big_quiet_op; go_big_quiet_on
                    refine rg_quiet rfl rfl rfl rfl ?_; intro K hK; go_big_quiet_op; go_big_quiet_on
                    refine rg_quiet rfl rfl rfl rfl ?_; intro K hK; go_big_quiet_op; go_big_quiet_on
                    refine rg_quiet rfl rfl rfl rfl ?_; intro K hK; go_big_quiet_op; go_big_quiet_on
                    refine rg_quiet rfl rfl rfl rfl ?_; intro K hK; go_big_quiet_op; go_big_quiet_on
                    refine rg_quiet rfl rfl rfl rfl ?_; intro K hK; go_big_quiet_op; go_big_quiet_on
                    refine rg_quiet rfl rfl rfl rfl ?_; intro K hK; go_big_quiet_op; go_big_quiet_on
                    refine rg_quiet rfl rfl rfl rfl ?_; intro K hK; go_big_quiet_op; go_big_quiet_on
                    refine rg_quiet rfl rfl rfl rfl ?_; intro K hK; go_big_quiet_op; go_big_quiet_on
                    refine rg_quiet rfl rfl rfl rfl ?_; intro K hK; go_big_quiet_op; go_big_quiet_on
                    refine rg_quiet rfl rfl rfl rfl ?_; intro K hK; go_big_quiet_op; go_big_quiet_on
                    refine rel_nil fun w6 hE6 _ => ?_
                    obtain ⟨b6, hE7⟩ := FIN.out w6 hE6
                    have hT7 := hT5.ext hE6
                    clear x0 x1 x2 x3 x4 x5 x6 x7 y2 FIN hE6 hE hcu hT5 hp eo
                    go_wp2_with fail
                    go_ret
                    exact ⟨ret_bool HF.out.symm, hE7⟩
                  · have HF : Hid (P = rsB (prevR ps (j + 1 + 1)) ((ps.drop (j + 1 + 1)).map (·.1))) := by show P = _; rw [HD.out, HO.out, eo]; rfl
                    clear HD HO
                    refine rg_quiet rfl rfl rfl rfl ?_; intro K hK; go_big_quiet_op; go_big_quiet_on
                    refine rg_quiet rfl rfl rfl rfl ?_; intro K hK; go_big_quiet_op; go_big_quiet_on
                    refine rg_quiet rfl rfl rfl rfl ?_; intro K hK; go_big_quiet_op; go_big_quiet_on
                    refine rg_quiet rfl rfl rfl rfl ?_; intro K hK; go_big_quiet_op; go_big_quiet_on
                    refine rg_quiet rfl rfl rfl rfl ?_; intro K hK; go_big_quiet_op; go_big_quiet_on
                    refine rg_quiet rfl rfl rfl rfl ?_; intro K hK; go_big_quiet_op; go_big_quiet_on
                    refine rg_quiet rfl rfl rfl rfl ?_; intro K hK; go_big_quiet_op; go_big_quiet_on
                    refine rg_quiet rfl rfl rfl rfl ?_; intro K hK; go_big_quiet_op; go_big_quiet_on
                    refine rg_quiet rfl rfl rfl rfl ?_; intro K hK; go_big_quiet_op; go_big_quiet_on
                    refine rg_quiet rfl rfl rfl rfl ?_; intro K hK; go_big_quiet_op; go_big_quiet_on
                    refine rg_quiet rfl rfl rfl rfl ?_; intro K hK; go_big_quiet_op; go_big_quiet_on
                    refine rg_quiet rfl rfl rfl rfl ?_; intro K hK; go_big_quiet_op; go_big_quiet_on
                    refine rg_quiet rfl rfl rfl rfl ?_; intro K hK; go_big_quiet_op; go_big_quiet_on
                    refine rg_quiet rfl rfl rfl rfl ?_; intro K hK; go_big_quiet_op; go_big_quiet_on
                    refine rg_quiet rfl rfl rfl rfl ?_; intro K hK; go_big_quiet_op; go_big_quiet_on
                    refine rg_quiet rfl rfl rfl rfl ?_; intro K hK; go_big_quiet_op; go_big_quiet_on
                    refine rg_quiet rfl rfl rfl rfl ?_; intro K hK; go_big_quiet_op; go_big_quiet_on
                    refine rel_nil fun w6 hE6 _ => ?_
                    obtain ⟨b6, hE7⟩ := FIN.out w6 hE6
                    have hT7 := hT5.ext hE6
                    clear x0 x1 x2 x3 x4 x5 x6 x7 y2 FIN hE6 hE hcu hT5 hp eo
                    go_wp2_with fail
                    go_roundw
                    case rel => exact ⟨j + 1 + 1, by omega, by go_num, b6, hE7, hT7, HF⟩
                    case measure => simp [intOf] <;> omega
            · have HF : Hid (P = true) := by show P = true; rw [HX.out, List.drop_eq_nil_of_le (by have := HN.out; omega)]; rfl
              go_wp2_with fail
              go_ret
              exact ⟨ret_bool HF.out.symm, hE1⟩
        · have HF : Hid (P = false) := by show P = false; rw [HP.out, q1, q2, q3, q4]; rfl
          go_enter Tryz.func50, Tryz.ntmps50
          go_wp2_with fail
          go_ret
          exact ⟨ret_bool HF.out.symm, hE⟩
      · have HF : Hid (P = false) := by show P = false; rw [HP.out, q1, q2, q3]; rfl
        go_enter Tryz.func50, Tryz.ntmps50
        go_wp2_with fail
        go_ret
        exact ⟨ret_bool HF.out.symm, hE⟩
    · have HF : Hid (P = false) := by show P = false; rw [HP.out, q1, q2]; rfl
      go_enter Tryz.func50, Tryz.ntmps50
      go_wp2_with fail
      go_ret
      exact ⟨ret_bool HF.out.symm, hE⟩
  · have HF : Hid (P = false) := by show P = false; rw [HP.out, q1]; rfl
    go_enter Tryz.func50, Tryz.ntmps50
    go_wp2_with fail
    go_ret
    exact ⟨ret_bool HF.out.symm, hE⟩
end Go.Proofs.YtfagnbofnaoncaaGreatDoor

/- pack.CheckBatch of any batch. (what a smaller cut has) -/
namespace Go.Proofs.YtfagnbofnaoncaaGreatDoor
open Go Go.RowKit
attribute [local go_sem] yields yUpon

def okMt (x : Mt) : Bool := nameB x.table && ptB x.pa.key x.pa.gone (x.pa.ps.map (·.1))
def cbG (M : List Mt) (A : List Nt) (D : List Int) : Bool := decide (M.length ≤ 64) && decide (A.length ≤ 300) && decide (D.length ≤ 300) && M.all okMt && A.all okNt && D.all idB
end Go.Proofs.YtfagnbofnaoncaaGreatDoor

/- The numbers of a message. -/
namespace Go.Proofs.YtfagnbofnaoncaaGreatDoor
open Go Go.RowKit

/-- The numbers of a message. -/
structure Hd where
  kind : Int
  from_ : Int
  to_ : Int
  id : Int
  num : Int
def hd7 (m : Hd) (vm vk : Value) : Array Value := #[.int .i64 m.kind, .int .i64 m.from_, .int .i64 m.to_, .int .i64 m.id, vm, vk, .int .i64 m.num]
end Go.Proofs.YtfagnbofnaoncaaGreatDoor

/- wire.Check of any message. -/
namespace Go.Proofs.YtfagnbofnaoncaaGreatDoor
open Go Go.RowKit
attribute [local go_sem] yields yUpon

def badG (x : Mt) : Bool := !okMt x
set_option maxRecDepth 100000 in
set_option maxHeartbeats 2000000 in
theorem badG_any (x : Mt) (rv : Value) (w : World) (hT : TabU w) (hr : RowsIn w rv x.pa.ps) (h1 : x.table.size ≤ 1000000) (h2 : ∀ p ∈ x.pa.ps, ∀ c ∈ p.1.cols, c.name.size ≤ 1000000) :
    Calls Tryz.prog 48 #[.agg #[.string x.table, .string x.pa.key, .int .i64 x.pa.gone, rv]] w fun e w' => e = .returned (.bool (badG x)) ∧ Ext w w' := by
  obtain ⟨t, k, g, rv0, ps⟩ := x
  simp only at h1 h2 hr
  obtain ⟨ra, rc, rfl, _⟩ := hr.get
  have hEb := (Ext.refl w).alloc (.cells #[.string t, .string k, .int .i64 g, .slice ra ps.length rc] 106)
  have hbm := BoxAt.made w #[.string t, .string k, .int .i64 g, .slice ra ps.length rc] 106
  have HB : Hid (badG ⟨t, k, g, rv0, ps⟩ = !(nameB t && ptB k g (ps.map (·.1)))) := Lib.hid rfl
  generalize badG ⟨t, k, g, rv0, ps⟩ = R at HB ⊢
  have HR := Lib.hid hr
  have H2 := Lib.hid h2
  clear hr h2
  simp only
  cases hn : nameB t
  · have HN := Lib.hid hn
    clear hn
    go_enter Tryz.func48, Tryz.ntmps48
    go_wp2_with (go_at_call 49; go_must (refine (name_gen t (by omega) _ (hT.ext hEb)).mono ?_); rintro e w5 ⟨rfl, hE5⟩; rw [HN.out])
    go_ret
    exact ⟨by rw [HB.out, HN.out]; rfl, hEb.trans hE5⟩
  · have HN := Lib.hid hn
    clear hn
    cases hg : ptB k g (ps.map (·.1))
    all_goals
      have HG := Lib.hid hg
      clear hg
      go_enter Tryz.func48, Tryz.ntmps48
      go_wp2_with (first
        | (go_at_call 49; go_must (refine (name_gen t (by omega) _ (hT.ext hEb)).mono ?_); rintro e w5 ⟨rfl, hE5⟩; rw [HN.out]; have hb5 := hbm.ext hE5; have y1 : w5.cell? ⟨w.heap.size, 1, none⟩ = some (.string k) := hb5.cell 1; have y2 : w5.cell? ⟨w.heap.size, 2, none⟩ = some (.int .i64 g) := hb5.cell 2; have y3 : w5.cell? ⟨w.heap.size, 3, none⟩ = some (.slice ra ps.length rc) := hb5.cell 3)
        | (go_at_call 50; go_must (refine (pcheck_gen k g _ ps _ ((HR.out.ext hEb).ext hE5) H2.out ((hT.ext hEb).ext hE5)).mono ?_); rintro e w6 ⟨rfl, hE6⟩; rw [HG.out]))
      go_ret
      exact ⟨by rw [HB.out, HN.out, HG.out]; rfl, (hEb.trans hE5).trans hE6⟩

set_option maxRecDepth 100000 in
set_option maxHeartbeats 4000000 in
theorem indexG_any (v : Value) (l : List Mt) (w : World) (hT : TabU w) (hin : MtsIn w v l) (hb : ∀ x ∈ l, x.table.size ≤ 1000000 ∧ ∀ p ∈ x.pa.ps, ∀ c ∈ p.1.cols, c.name.size ≤ 1000000) :
    Calls Tryz.prog 96 #[v, .func (.func 48) #[] #[]] w fun e w' => ∃ i : Int, e = .returned (.int .i64 i) ∧ Ext w w' ∧ decide (0 ≤ i) = l.any badG := by
  have HROW := Lib.hid hin.rows
  obtain ⟨a, c, rfl, hc, hcm, hget⟩ := hin.get
  have HG := Lib.hid hget
  have HB := Lib.hid hb
  clear hget hb hin
  obtain ⟨n, hn⟩ : ∃ n, n = l.length := ⟨_, rfl⟩
  rw [← hn] at hc ⊢
  have HN := Lib.hid hn
  clear hn
  go_enter Tryz.func96, Tryz.ntmps96
  go_wp2
  go_loopw [8] (fun i wr => ∃ k : Nat, k ≤ n ∧ i = .int .i64 (k : Int) ∧ Hid (l.any badG = (l.drop k).any badG) ∧ Ext w wr) (fun i _ => n - (intOf i).toNat)
  case atStart => exact ⟨0, Nat.zero_le _, rfl, Lib.hid rfl, Ext.refl w⟩
  case round =>
    obtain ⟨k, hk, rfl, HX, hE⟩ := hrel
    by_cases hlt : k < n
    · have hkF : k < l.length := by rw [← HN.out]; exact hlt
      obtain ⟨b, o, rfl, ⟨g0, g1, g2, g3⟩⟩ := HG.out k hkF
      obtain ⟨ra, rc, hrv⟩ : ∃ a c, (l[k]).pa.rv = .slice a (l[k]).pa.ps.length c := let ⟨a, c, e, _⟩ := (HROW.out _ (List.getElem_mem hkF)).get; ⟨a, c, e⟩
      have hrw := HROW.out _ (List.getElem_mem hkF)
      rw [hrv] at g3 hrw
      replace g0 := hE.cell g0
      replace g1 := hE.cell g1
      replace g2 := hE.cell g2
      replace g3 := hE.cell g3
      have q1 := (HB.out _ (List.getElem_mem hkF)).1
      have q2 := Lib.hid (HB.out _ (List.getElem_mem hkF)).2
      have HD := Lib.hid (any_drop (p := badG) hkF)
      have hTr := hT.ext hE
      have HRW := Lib.hid (hrw.ext hE)
      obtain ⟨x, hx⟩ : ∃ x, x = l[k] := ⟨_, rfl⟩
      rw [← hx] at g0 g1 g2 g3 q1 q2 HD HRW
      clear hx hrw hrv
      cases hq : badG x
      all_goals
        have HQ := Lib.hid hq
        clear hq
        go_wp2_with (go_at_call 48; go_must (refine (badG_any x _ _ hTr HRW.out q1 q2.out).mono ?_); rintro e w5 ⟨rfl, hE5⟩; rw [HQ.out])
      · go_roundw
        case rel => exact ⟨k + 1, by omega, by go_num, Lib.hid (by rw [HX.out, HD.out, HQ.out]; rfl), hE.trans hE5⟩
        case measure => simp [intOf]; omega
      · go_ret
        exact ⟨_, rfl, hE.trans hE5, by rw [HX.out, HD.out, HQ.out]; exact decide_eq_true (by omega)⟩
    · obtain rfl : k = n := by omega
      go_wp2_with fail
      go_ret
      exact ⟨_, rfl, hE, by rw [HX.out, HN.out, List.drop_length]; rfl⟩
set_option maxHeartbeats 1000000 in
theorem containsG_any (v : Value) (l : List Mt) (w : World) (hT : TabU w) (hin : MtsIn w v l) (hb : ∀ x ∈ l, x.table.size ≤ 1000000 ∧ ∀ p ∈ x.pa.ps, ∀ c ∈ p.1.cols, c.name.size ≤ 1000000) :
    Calls Tryz.prog 47 #[v, .func (.func 48) #[] #[]] w fun e w' => e = .returned (.bool (l.any badG)) ∧ Ext w w' := by
  have k := indexG_any v l w hT hin hb
  obtain ⟨a, c, rfl, _⟩ := hin.get
  go_enter Tryz.func47, Tryz.ntmps47
  go_wp2_with fail
  refine k.mono ?_
  rintro e w1 ⟨i, rfl, hE1, hi⟩
  cases hq : l.any badG
  all_goals
    rw [hq] at hi
    have HQ := Lib.hid hq
    clear hq
    go_wp2
    go_ret
    exact ⟨by rw [HQ.out]; rfl, hE1⟩
/-- May the message be? -/
def msB (m : Hd) (ms : List Mt) (ks : List ByteArray) : Bool :=
  (decide (1 ≤ m.kind) && decide (m.kind ≤ 8)) && inB m.from_ 4 && inB m.to_ 4 && inB m.id 1099511627776 && inB m.num 1099511627776 && decide (ms.length ≤ 100) && decide (ks.length ≤ 40) && !ks.any longB && !ms.any badG
end Go.Proofs.YtfagnbofnaoncaaGreatDoor
