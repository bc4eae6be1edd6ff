/- PartJoins: joins of partitions are one way: the law's walk. -/
import Derived.Test.YtkiodandnjbhoaaDoorLubs
import Derived.Test.YtkiodandnjbhoaaDoorLate
import Derived.Test.YtkiodandnjbhoaaDoorEqual
import Derived.Test.YtkiodandnjbhoaaDoorPartCheck
import Derived.Test.YtkiodandnjbhoaaDoorAwake8
namespace Go.Proofs.YtkiodandnjbhoaaDoor
open Go Go.RowKit
attribute [local go_sem] yields yUpon ro8 pa3

theorem stays_join (G : Int) (J : List Ro) : Stays (fun v x => ∃ v' qs, v = .tuple #[.agg #[.string ⟨#[107]⟩, .int .i64 G, v'], .bool true] ∧ RowsT x v' qs ∧ Hid (qs.map (·.1) = J)) :=
  fun _ _ _ hE ⟨v', qs, e, hr, hm⟩ => ⟨v', qs, e, hr.ext hE, hm⟩

set_option maxRecDepth 100000 in
set_option maxHeartbeats 8000000 in
theorem law_partJoins (v0 : Value) (z : List Int) (many by_ twice : Int) (w : World) (hin : IntsIn w v0 .i64 z) (hz : z.length ≤ 150) :
    Calls Tryd.prog 7 #[v0, .int .i64 many, .int .i64 by_, .int .i64 twice] w fun e w' => e = .returned (.bool true) ∧ Ext w w' := by
  obtain ⟨a, c, rfl, hc, hcm, ha⟩ := hin.block
  obtain ⟨K, hK⟩ : ∃ K : Nat, (K : Int) = 1 + many % 6 := ⟨(1 + many % 6).toNat, by omega⟩
  have hK1 : 1 ≤ K ∧ K ≤ 6 := by omega
  have k1 : decide ((150 : Int) < (z.length : Int)) = false := by simp; omega
  go_enter Tryd.func7, Tryd.ntmps7
  go_wp2_with fail
  refine (place_any many 6 (by decide) (by decide) w).mono ?_
  rintro e w1 ⟨rfl, rfl⟩
  have hK2 := hK.symm
  have hm6 : 0 ≤ many % 6 ∧ many % 6 < 6 := by omega
  clear hK
  go_wp2_with fail
  refine (several_any _ z K (by omega) ⟨#[107]⟩ w hin).mono ?_
  rintro e w1 ⟨v1, L, rfl, hLK, hparts, hgen, hE1⟩
  obtain ⟨a1, c1, rfl, hc1, hcm1, hget⟩ := hparts.get
  obtain ⟨b1, rfl, hpa0⟩ := hget 0 (by rw [hLK]; omega)
  obtain ⟨ga, aa, _, ca, psa, q0, q1, q2, hra, rfl, hna, hda⟩ := gen_at hparts hgen 0 (by rw [hLK]; omega)
  rw [Nat.zero_mul] at q0 q1 q2
  have HL := Lib.hid hLK
  rw [hLK] at hc1 hparts ⊢
  have HGEN := Lib.hid hgen
  clear hpa0 hLK hin hm6 hK2 hget hgen
  have t0 : decide ((0 : Int) < (K : Int)) = true := by simp; omega
  go_wp2_with (((guard_target =~ wpList _ _ _ (Oper.mk none (Op.store _ (Operand.tmp 11) (Operand.tmp 32)) _ _ _ _ :: _) _ _); go_must (refine storeBox rfl 35 (.tmp 11) (.tmp 32) rfl (w1.heap.size) _ _ _ (by rfl) (by rfl) ((BoxAt.made w1 (pa3 ⟨#[]⟩ 0 (.slice none 0 0)) 35)) (by kernel_rfl) (by rfl) (by simp [Value.oneCell']) ?_); intro w2 c2 g2))
  have hX2 : Ext w1 w2 := ((Ext.refl w1).alloc _).grown g2 (fun q hq => by cases hq; omega)
  have hra2 := hra.ext hX2
  have d2 : BoxAt w2 w1.heap.size (pa3 ⟨#[107]⟩ ga (.slice aa psa.length ca)) 35 := c2
  clear g2 c2 q0 q1 q2 hra
  go_loopw [12, 13] (fun o i wr => ∃ (k : Nat) (g : Int) (v : Value) (ps : List (Ro × Value)), 1 ≤ k ∧ k ≤ K ∧ i = .int .i64 k ∧ o = .bool true ∧ BoxAt wr w1.heap.size (pa3 ⟨#[107]⟩ g v) 35 ∧ RowsT wr v ps ∧ NumD (g, ps.map (·.1)) ∧ Hid (Up1 L k (g, ps.map (·.1))) ∧ Ext w1 wr) (fun _ i _ => K - (intOf i).toNat)
  case atStart => exact ⟨1, ga, _, psa, Nat.le_refl _, hK1.1, rfl, rfl, d2, hra2, hna, Up1.one hna.good hda.symm, hX2⟩
  case round =>
    obtain ⟨k, g, v, ps, hk1, hkK, rfl, rfl, hbox, hrows, hnum, HUP, hE⟩ := hrel
    clear d2 hra2 hna hda hX2
    obtain ⟨av, cv, rfl⟩ := hrows.shape
    obtain ⟨mv, hmv⟩ : ∃ mv, mv = ps.length := ⟨_, rfl⟩
    rw [← hmv] at hrows hbox
    have hl4 : ps.length ≤ 4 := by have := hnum.rows.len; rwa [List.length_map] at this
    have HMV := Lib.hid hmv
    clear hmv
    by_cases hlt : k < K
    · have t1 : decide ((k : Int) < (K : Int)) = true := by simp; omega
      obtain ⟨gi, ai, _, ci, psi, q0, q1, q2, hri, rfl, hni, hdi⟩ := gen_at hparts HGEN.out k (by rw [HL.out]; omega)
      obtain ⟨x0, x1, x2⟩ := hbox.pa
      replace q0 := hE.cell q0
      replace q1 := hE.cell q1
      replace q2 := hE.cell q2
      replace hri := hri.ext hE
      obtain ⟨J, hJ⟩ : ∃ J, J = mergeRo (ps.map (·.1)) (psi.map (·.1)) := ⟨_, rfl⟩
      obtain ⟨G, hG⟩ : ∃ G, G = max g gi := ⟨_, rfl⟩
      have hJL : J.length ≤ 4 := by rw [hJ]; exact (hnum.rows.merge hni.rows).len
      have hnum' : NumD (G, J) := by rw [hJ, hG]; exact hnum.join hni
      have hup' : Up1 L (k + 1) (G, J) := by rw [hJ, hG]; exact HUP.out.next hni.good hdi.symm
      have HJ := Lib.hid hJ
      have HG := Lib.hid hG
      have HUP' := Lib.hid hup'
      have HNUM' := Lib.hid hnum'
      have HLI : psi.length ≤ 4 := by have := hni.rows.len; rwa [List.length_map] at this
      have FW := Lib.hid hnum.rows.few
      have FWI := Lib.hid hni.rows.few
      clear hJ hG hup' hnum' hdi hni hnum
      go_wp2_with fail
      refine wp_region_late_in 9 8 9 [(5, fun v x => ∃ v' qs, v = .tuple #[.agg #[.string ⟨#[107]⟩, .int .i64 G, v'], .bool true] ∧ RowsT x v' qs ∧ Hid (qs.map (·.1) = J))] (by kernel_rfl) (by kernel_rfl) (by kernel_rfl) (by kernel_rfl) (fun c a d v w h => by cases d <;> exact h) ⟨stays_join G J, trivial⟩ ?_
      simp only [late, List.modify_succ_cons, List.modify_zero_cons, List.push_toArray, List.cons_append, List.nil_append]
      replace q0 := held q0
      replace q1 := held q1
      replace q2 := held q2
      replace x0 := held x0
      replace x1 := held x1
      replace x2 := held x2
      refine rg_quiet rfl rfl rfl rfl ?_; intro K hK; go_big_quiet_op; go_big_quiet_on
      refine rg_quiet rfl rfl rfl rfl ?_; intro K hK; go_big_quiet_op; go_big_quiet_on
      refine rg_quiet rfl rfl rfl rfl ?_; intro K hK; go_big_quiet_op; go_big_quiet_on
      refine rg_quiet rfl rfl rfl rfl ?_; intro K hK; go_big_quiet_op; go_big_quiet_on
      refine rg_quiet rfl rfl rfl rfl ?_; intro K hK; go_big_quiet_op; go_big_quiet_on
      refine rg_fact [] rfl rfl rfl (by kernel_rfl) (fun y hE hf => ?_) (fun v5 y hE5 hG5 h5 => ?_)
      · go_simp
        refine (pjoin_walk ⟨#[107]⟩ ⟨#[107]⟩ g gi _ _ ps psi y (hrows.ext hE).rows (hri.ext hE).rows (by omega) FW.out FWI.out).mono ?_
        rw [← HJ.out, ← HG.out]
        rintro e y' ⟨hE', ⟨_, v', rfl, qs, hqs, hqm⟩ | ⟨hbad, _⟩⟩
        · exact ⟨_, rfl, rg_doneR hE hE' ⟨v', rfl, qs, hqs, hqm⟩⟩
        · omega
      obtain ⟨v9, qs9, rfl, _⟩ := h5
      clear hE5 hG5
      simp only [Act.put, List.setIfInBounds_toArray, List.set_cons_zero, List.set_cons_succ]
      refine rg_quiet rfl rfl rfl rfl ?_; intro K hK; go_big_quiet_op; go_big_quiet_on
      refine rg_quiet rfl rfl rfl rfl ?_; intro K hK; go_big_quiet_op; go_big_quiet_on
      refine rg_quiet rfl rfl rfl rfl ?_; intro K hK; go_big_quiet_op; go_big_quiet_on
      refine rel_tail rfl rfl fun w5 hE5 hG => ?_
      obtain ⟨v5, qs, e5, hqs, HQM⟩ := (hG 5).2 rfl
      cases e5
      obtain ⟨aq, cq, rfl⟩ := hqs.shape
      obtain ⟨nq, hnq⟩ : ∃ nq, nq = qs.length := ⟨_, rfl⟩
      rw [← hnq] at hqs
      rw [← hnq]
      have hbox5 := hbox.ext hE5
      have hE15 := hE.trans hE5
      clear hnq hG x0 x1 x2 q0 q1 q2 hbox hrows hE5 hE
      go_wp2_with (((guard_target =~ wpList _ _ _ (Oper.mk none (Op.store _ (Operand.tmp 11) (Operand.tmp 48)) _ _ _ _ :: _) _ _); go_must (refine storeBox rfl 35 (.tmp 11) (.tmp 48) rfl (w1.heap.size) _ _ _ (by rfl) (by rfl) (hbox5) (by kernel_rfl) (by rfl) (by simp [Value.oneCell']) ?_); intro w6 c6 g6))
      go_roundw
      case rel =>
        refine ⟨k + 1, G, _, qs, by omega, by omega, by go_num, rfl, c6, hqs.keep g6 hbox5 (by decide) (by decide), ?_, ?_, hE15.grown g6 (fun q hq => by cases hq; omega)⟩
        · rw [HQM.out]; exact HNUM'.out
        · rw [HQM.out]; exact HUP'.out
      case measure => simp [intOf]; omega
    · obtain rfl : k = K := by omega
      have t1 : decide ((k : Int) < (k : Int)) = false := by simp
      obtain ⟨wo, rfl⟩ : ∃ w', w' = wr := ⟨_, rfl⟩
      have hD0 : Up1 L k (g, ps.map (·.1)) := HUP.out
      obtain ⟨D, hD⟩ : ∃ D : Dp, D = (g, ps.map (·.1)) := ⟨_, rfl⟩
      rw [← hD] at hD0
      have HD := Lib.hid hD
      have HD0 := Lib.hid hD0
      have HPSN := Lib.hid hnum
      clear hD hD0 HUP hnum
      obtain ⟨C, hC⟩ : ∃ C : Nat, (C : Int) = by_ % (k : Int) := ⟨(by_ % (k : Int)).toNat, by have := Int.emod_nonneg by_ (show (k : Int) ≠ 0 by omega); omega⟩
      have hC1 : C < k := by have := Int.emod_lt_of_pos by_ (show (0 : Int) < (k : Int) by omega); omega
      go_wp2_with fail
      refine (place_any by_ k (by omega) (by omega) wo).mono ?_
      rw [← hC]
      rintro e w3 ⟨rfl, rfl⟩
      clear hC
      obtain ⟨gb, ab, _, cb, psb, q0, q1, q2, hrb, rfl, hnb, hdb⟩ := gen_at hparts HGEN.out C (by rw [HL.out]; omega)
      replace q0 := hE.cell q0
      replace q1 := hE.cell q1
      replace q2 := hE.cell q2
      replace hrb := hrb.ext hE
      have t2 : decide ((C : Int) < (k : Int)) = true := by simp; omega
      go_wp2_with (((guard_target =~ wpList _ _ _ (Oper.mk none (Op.store _ (Operand.tmp 15) (Operand.tmp 56)) _ _ _ _ :: _) _ _); go_must (refine storeBox rfl 35 (.tmp 15) (.tmp 56) rfl (wo.heap.size) _ _ _ (by rfl) (by rfl) ((BoxAt.made wo (pa3 ⟨#[]⟩ 0 (.slice none 0 0)) 35)) (by kernel_rfl) (by rfl) (by simp [Value.oneCell']) ?_); intro w3 c3 g3))
      have hX3 : Ext wo w3 := ((Ext.refl wo).alloc _).grown g3 (fun q hq => by cases hq; omega)
      have hrb3 := hrb.ext hX3
      have hE3 := hE.trans hX3
      have hboxa := hbox.ext hX3
      have hra := hrows.ext hX3
      have d3 : BoxAt w3 wo.heap.size (pa3 ⟨#[107]⟩ gb (.slice ab psb.length cb)) 35 := c3
      have hSab : w1.heap.size < wo.heap.size := hbox.lt
      obtain ⟨S2, hS2⟩ : ∃ S2, S2 = wo.heap.size := ⟨_, rfl⟩
      rw [← hS2] at d3 hSab
      rw [← hS2]
      clear g3 c3 q0 q1 q2 hrb hS2 hE hbox hrows t1 hX3
      go_loopw [16, 17] (fun o i wr => ∃ (j : Nat) (h : Int) (v : Value) (qs : List (Ro × Value)), 1 ≤ j ∧ j ≤ k ∧ i = .int .i64 j ∧ o = .bool true ∧ BoxAt wr w1.heap.size (pa3 ⟨#[107]⟩ g (.slice av mv cv)) 35 ∧ RowsT wr (.slice av mv cv) ps ∧ BoxAt wr S2 (pa3 ⟨#[107]⟩ h v) 35 ∧ RowsT wr v qs ∧ NumD (h, qs.map (·.1)) ∧ Hid (Up2 L C k j (h, qs.map (·.1))) ∧ Ext w1 wr) (fun _ i _ => k - (intOf i).toNat)
      case atStart => exact ⟨1, gb, _, psb, Nat.le_refl _, hk1, rfl, rfl, hboxa, hra, d3, hrb3, hnb, Up2.one hC1 hnb.good hdb.symm, hE3⟩
      case round =>
        obtain ⟨j, h, v, qs, hj1, hjk, rfl, rfl, hboxa, hra, hboxb, hrb, hnb, HUB, hE⟩ := hrel
        obtain ⟨aw, cw, rfl⟩ := hrb.shape
        obtain ⟨mw, hmw⟩ : ∃ mw, mw = qs.length := ⟨_, rfl⟩
        rw [← hmw] at hrb hboxb
        have hl4b : qs.length ≤ 4 := by have := hnb.rows.len; rwa [List.length_map] at this
        have HMW := Lib.hid hmw
        clear hmw
        by_cases hlt : j < k
        · have t1 : decide ((j : Int) < (k : Int)) = true := by simp; omega
          obtain ⟨q, hq⟩ : ∃ q, q = (C + j) % k := ⟨_, rfl⟩
          have hqk : q < k := by rw [hq]; exact Nat.mod_lt _ (by omega)
          obtain ⟨gi, ai, _, ci, psi, q0, q1, q2, hri, rfl, hni, hdi⟩ := gen_at hparts HGEN.out q (by rw [HL.out]; omega)
          rw [hq] at hdi
          obtain ⟨x0, x1, x2⟩ := hboxb.pa
          replace q0 := hE.cell q0
          replace q1 := hE.cell q1
          replace q2 := hE.cell q2
          replace hri := hri.ext hE
          obtain ⟨J, hJ⟩ : ∃ J, J = mergeRo (psi.map (·.1)) (qs.map (·.1)) := ⟨_, rfl⟩
          obtain ⟨G, hG⟩ : ∃ G, G = max gi h := ⟨_, rfl⟩
          have hJL : J.length ≤ 4 := by rw [hJ]; exact (hni.rows.merge hnb.rows).len
          have hnum' : NumD (G, J) := by rw [hJ, hG]; exact hni.join hnb
          have hup' : Up2 L C k (j + 1) (G, J) := by rw [hJ, hG]; exact HUB.out.next hni.good hdi.symm
          have hw1 : IntKind.i64.wrap ((C : Int) + (j : Int)) = ((C + j : Nat) : Int) := by rw [IntKind.wrap_i64]; omega
          have hw2 : ((C : Int) + (j : Int)) % (k : Int) = (q : Int) := by rw [hq]; simp
          have t2 : decide ((q : Int) < (k : Int)) = true := by simp; omega
          have HJ := Lib.hid hJ
          have HG := Lib.hid hG
          have HUP' := Lib.hid hup'
          have HNUM' := Lib.hid hnum'
          have HLI : psi.length ≤ 4 := by have := hni.rows.len; rwa [List.length_map] at this
          have FW := Lib.hid hnb.rows.few
          have FWI := Lib.hid hni.rows.few
          clear hJ hG hup' hnum' hdi hni hnb hq
          go_wp2_with fail
          refine wp_region_late_in 13 12 13 [(9, fun v x => ∃ v' qs, v = .tuple #[.agg #[.string ⟨#[107]⟩, .int .i64 G, v'], .bool true] ∧ RowsT x v' qs ∧ Hid (qs.map (·.1) = J))] (by kernel_rfl) (by kernel_rfl) (by kernel_rfl) (by kernel_rfl) (fun c a d v w h => by cases d <;> exact h) ⟨stays_join G J, trivial⟩ ?_
          simp only [late, List.modify_succ_cons, List.modify_zero_cons, List.push_toArray, List.cons_append, List.nil_append]
          replace q0 := held q0
          replace q1 := held q1
          replace q2 := held q2
          replace x0 := held x0
          replace x1 := held x1
          replace x2 := held x2
          refine rg_quiet rfl rfl rfl rfl ?_; intro K hK; go_big_quiet_op; go_big_quiet_on
          refine rg_quiet rfl rfl rfl rfl ?_; intro K hK; go_big_quiet_op; go_big_quiet_on
          refine rg_quiet rfl rfl rfl rfl ?_; intro K hK; go_big_quiet_op; go_big_quiet_on
          refine rg_quiet rfl rfl rfl rfl ?_; intro K hK; go_big_quiet_op; go_big_quiet_on
          refine rg_quiet rfl rfl rfl rfl ?_; intro K hK; go_big_quiet_op; go_big_quiet_on
          refine rg_quiet rfl rfl rfl rfl ?_; intro K hK; go_big_quiet_op; go_big_quiet_on
          refine rg_quiet rfl rfl rfl rfl ?_; intro K hK; go_big_quiet_op; go_big_quiet_on
          refine rg_quiet rfl rfl rfl rfl ?_; intro K hK; go_big_quiet_op; go_big_quiet_on
          refine rg_quiet rfl rfl rfl rfl ?_; intro K hK; go_big_quiet_op; go_big_quiet_on
          refine rg_fact [] rfl rfl rfl (by kernel_rfl) (fun y hE hf => ?_) (fun v5 y hE5 hG5 h5 => ?_)
          · go_simp
            refine (pjoin_walk ⟨#[107]⟩ ⟨#[107]⟩ gi h _ _ psi qs y (hri.ext hE).rows (hrb.ext hE).rows (by omega) FWI.out FW.out).mono ?_
            rw [← HJ.out, ← HG.out]
            rintro e y' ⟨hE', ⟨_, v', rfl, qs, hqs, hqm⟩ | ⟨hbad, _⟩⟩
            · exact ⟨_, rfl, rg_doneR hE hE' ⟨v', rfl, qs, hqs, hqm⟩⟩
            · omega
          obtain ⟨v9, qs9, rfl, _⟩ := h5
          clear hE5 hG5
          simp only [Act.put, List.setIfInBounds_toArray, List.set_cons_zero, List.set_cons_succ]
          refine rg_quiet rfl rfl rfl rfl ?_; intro K hK; go_big_quiet_op; go_big_quiet_on
          refine rg_quiet rfl rfl rfl rfl ?_; intro K hK; go_big_quiet_op; go_big_quiet_on
          refine rg_quiet rfl rfl rfl rfl ?_; intro K hK; go_big_quiet_op; go_big_quiet_on
          refine rel_tail rfl rfl fun w5 hE5 hG => ?_
          obtain ⟨v5, qs5, e5, hqs, HQM⟩ := (hG 9).2 rfl
          cases e5
          obtain ⟨aq, cq, rfl⟩ := hqs.shape
          obtain ⟨nq, hnq⟩ : ∃ nq, nq = qs5.length := ⟨_, rfl⟩
          rw [← hnq] at hqs
          rw [← hnq]
          have hbox5 := hboxb.ext hE5
          have hboxa5 := hboxa.ext hE5
          have hra5 := hra.ext hE5
          have hE15 := hE.trans hE5
          clear hnq hG x0 x1 x2 q0 q1 q2 hboxb hboxa hra hrb hE5 hE hw1 hw2
          go_wp2_with (((guard_target =~ wpList _ _ _ (Oper.mk none (Op.store _ (Operand.tmp 15) (Operand.tmp 76)) _ _ _ _ :: _) _ _); go_must (refine storeBox rfl 35 (.tmp 15) (.tmp 76) rfl (S2) _ _ _ (by rfl) (by rfl) (hbox5) (by kernel_rfl) (by rfl) (by simp [Value.oneCell']) ?_); intro w6 c6 g6))
          go_roundw
          case rel =>
            refine ⟨j + 1, G, _, qs5, by omega, by omega, by go_num, rfl, hboxa5.grown g6 (fun e => by have := Option.some.inj e; omega), hra5.keep g6 hbox5 (by decide) (by decide), c6, hqs.keep g6 hbox5 (by decide) (by decide), ?_, ?_, hE15.grown g6 (fun q hq => by cases hq; have := hE1.le; omega)⟩
            · rw [HQM.out]; exact HNUM'.out
            · rw [HQM.out]; exact HUP'.out
          case measure => simp [intOf]; omega
        · obtain rfl : j = k := by omega
          have t1 : decide ((j : Int) < (j : Int)) = false := by simp
          have hDD : Hid ((h, qs.map (·.1)) = D) := (Up1.eq hC1 HD0.out HUB.out).symm
          obtain ⟨T, hT⟩ : ∃ T : Nat, (T : Int) = twice % (j : Int) := ⟨(twice % (j : Int)).toNat, by have := Int.emod_nonneg twice (show (j : Int) ≠ 0 by omega); omega⟩
          have hT1 : T < j := by have := Int.emod_lt_of_pos twice (show (0 : Int) < (j : Int) by omega); omega
          have HT := Lib.hid hT
          clear hT
          obtain ⟨gi, ai, _, ci, psi, q0, q1, q2, hri, rfl, hni, hdi⟩ := gen_at hparts HGEN.out T (by rw [HL.out]; omega)
          have hagain : joinD D (gi, psi.map (·.1)) = D := by rw [← hdi]; exact HD0.out.again hT1
          rw [HD.out] at hagain
          have hJ : mergeRo (ps.map (·.1)) (psi.map (·.1)) = ps.map (·.1) := congrArg Prod.snd hagain
          have hG : max g gi = g := congrArg Prod.fst hagain
          have HJ := Lib.hid hJ
          have HG := Lib.hid hG
          have FW := Lib.hid HPSN.out.rows.few
          have FWI := Lib.hid hni.rows.few
          have HLI : psi.length ≤ 4 := by have := hni.rows.len; rwa [List.length_map] at this
          replace q0 := hE.cell q0
          replace q1 := hE.cell q1
          replace q2 := hE.cell q2
          replace hri := hri.ext hE
          have t2 : decide ((T : Int) < (j : Int)) = true := by simp; omega
          obtain ⟨x0, x1, x2⟩ := hboxa.pa
          clear hagain hJ hG hdi hni hnb
          go_wp2_with fail
          refine wp_region_late_in 12 10 12 [(4, fun v _ => v = .int .i64 (T : Int)), (7, fun v x => ∃ v' qs, v = .tuple #[.agg #[.string ⟨#[107]⟩, .int .i64 g, v'], .bool true] ∧ RowsT x v' qs ∧ Hid (qs.map (·.1) = ps.map (·.1))), (11, fun v x => ∃ b, v = .pointer (some ⟨b, 0, none⟩) ∧ wr.heap.size ≤ b ∧ BoxAt x b (pa3 ⟨#[]⟩ 0 (.slice none 0 0)) 35)] (by kernel_rfl) (by kernel_rfl) (by kernel_rfl) (by kernel_rfl) (fun c a d v w h => by cases d <;> exact h) ⟨stays_eq _, stays_join g _, fun _ _ _ hE ⟨b, e, h1, h2⟩ => ⟨b, e, h1, h2.ext hE⟩, trivial⟩ ?_
          simp only [late, List.modify_succ_cons, List.modify_zero_cons, List.push_toArray, List.cons_append, List.nil_append]
          replace q0 := held q0
          replace q1 := held q1
          replace q2 := held q2
          replace x0 := held x0
          replace x1 := held x1
          replace x2 := held x2
          refine rg_quiet rfl rfl rfl rfl ?_; intro K hK; go_big_quiet_op; go_big_quiet_on
          refine rg_quiet rfl rfl rfl rfl ?_; intro K hK; go_big_quiet_op; go_big_quiet_on
          refine rg_quiet rfl rfl rfl rfl ?_; intro K hK; go_big_quiet_op; go_big_quiet_on
          refine rg_quiet rfl rfl rfl rfl ?_; intro K hK; go_big_quiet_op; go_big_quiet_on
          refine rg_val [] rfl rfl rfl (by kernel_rfl) (fun y hE hf => ?_) ?_
          · go_simp
            exact (place_any twice j (by omega) (by omega) y).mono fun e w' ⟨he, hw⟩ => ⟨_, he, rg_done hE (Ext.of_eq hw) (by rw [HT.out])⟩
          simp only [Act.put, List.setIfInBounds_toArray, List.set_cons_zero, List.set_cons_succ]
          refine rg_quiet rfl rfl rfl rfl ?_; intro K hK; go_big_quiet_op; go_big_quiet_on
          refine rg_quiet rfl rfl rfl rfl ?_; intro K hK; go_big_quiet_op; go_big_quiet_on
          refine rg_fact [] rfl rfl rfl (by kernel_rfl) (fun y hE hf => ?_) (fun v5 y hE5 hG5 h5 => ?_)
          · go_simp
            refine (pjoin_walk ⟨#[107]⟩ ⟨#[107]⟩ g gi _ _ ps psi y (hra.ext hE).rows (hri.ext hE).rows (by omega) FW.out FWI.out).mono ?_
            rw [HJ.out, HG.out]
            rintro e y' ⟨hE', ⟨_, v', rfl, qs, hqs, hqm⟩ | ⟨hbad, _⟩⟩
            · exact ⟨_, rfl, rg_doneR hE hE' ⟨v', rfl, qs, hqs, hqm⟩⟩
            · rw [List.length_map] at hbad
              omega
          obtain ⟨v9, qs9, rfl, _⟩ := h5
          clear hE5 hG5
          simp only [Act.put, List.setIfInBounds_toArray, List.set_cons_zero, List.set_cons_succ]
          refine rg_quiet rfl rfl rfl rfl ?_; intro K hK; go_big_quiet_op; go_big_quiet_on
          refine rg_quiet rfl rfl rfl rfl ?_; intro K hK; go_big_quiet_op; go_big_quiet_on
          refine rg_quiet rfl rfl rfl rfl ?_; intro K hK; go_big_quiet_op; go_big_quiet_on
          refine rg_fact [] rfl rfl rfl (by kernel_rfl) (fun y hE hf => ?_) (fun v5 y hE5 hG5 h5 => ?_)
          · go_simp
            exact rg_doneR hE ((Ext.refl y).alloc _) ⟨_, rfl, hE.le, BoxAt.made y _ _⟩
          obtain ⟨b18, rfl, _⟩ := h5
          clear hE5 hG5
          simp only [Act.put, List.setIfInBounds_toArray, List.set_cons_zero, List.set_cons_succ]
          refine rel_tail rfl rfl fun w5 hE5 hG => ?_
          obtain ⟨v5, qs5, e5, hqs, HQM⟩ := (hG 7).1.2 rfl
          obtain ⟨b5, e5', hb5, hbx5⟩ := (hG 11).2 rfl
          cases e5
          cases e5'
          obtain ⟨aq, cq, rfl⟩ := hqs.shape
          obtain ⟨nq, hnq⟩ : ∃ nq, nq = qs5.length := ⟨_, rfl⟩
          rw [← hnq] at hqs
          rw [← hnq]
          have ha5 := hboxa.ext hE5
          have hbb5 := hboxb.ext hE5
          have hra5 := hra.ext hE5
          have hrb5 := hrb.ext hE5
          have hE15 := hE.trans hE5
          have hla := hboxa.lt
          have hlb := hboxb.lt
          have HNB := Lib.hid hnb
          clear hnq hG x0 x1 x2 q0 q1 q2 hboxb hboxa hra hrb hE5 hE hri t1 t2 hnb
          go_wp2_with (((guard_target =~ wpList _ _ _ (Oper.mk none (Op.store _ (Operand.tmp 18) (Operand.tmp 87)) _ _ _ _ :: _) _ _); go_must (refine storeBox rfl 35 (.tmp 18) (.tmp 87) rfl (b18) _ _ _ (by rfl) (by rfl) (hbx5) (by kernel_rfl) (by rfl) (by simp [Value.oneCell']) ?_); intro w6 c6 g6); have ha6 := ha5.grown g6 (fun e => by have := Option.some.inj e; omega); have hbb6 := hbb5.grown g6 (fun e => by have := Option.some.inj e; omega); have hra6 := hra5.keep g6 hbx5 (by decide) (by decide); have hrb6 := hrb5.keep g6 hbx5 (by decide) (by decide); have hq6 := hqs.keep g6 hbx5 (by decide) (by decide); have hE6 := hE15.grown g6 (fun q hq => by cases hq; have := hE15.le; omega); have da6 := ha6.pa; have db6 := hbb6.pa; have dc6 : w6.cell? ⟨b18, 0, none⟩ = some (.string ⟨#[107]⟩) ∧ w6.cell? ⟨b18, 1, none⟩ = some (.int .i64 g) ∧ w6.cell? ⟨b18, 2, none⟩ = some (.slice aq nq cq) := BoxAt.pa c6)
          refine (pcheck_good ⟨#[107]⟩ g _ ps w6 hra6.rows (by decide) HPSN.out.gone.1 (by have := HPSN.out.gone; omega) (by omega) (fun p hp => HPSN.out.rows.checks p.1 (List.mem_map_of_mem hp)) (fun i hi => by have := up_less HPSN.out.rows.up i (by simpa using hi); simpa using this)).mono ?_
          rintro e w7 ⟨rfl, hE7⟩
          have da7 := (ha6.ext hE7).pa
          have db7 := (hbb6.ext hE7).pa
          clear da6 db6 dc6
          go_wp2_with fail
          refine (partSame_any ⟨#[107]⟩ ⟨#[107]⟩ g h _ _ ps qs w7 (hra6.ext hE7).rows (hrb6.ext hE7).rows).mono ?_
          have hs1 : eqB ((⟨#[107]⟩ : ByteArray), g, ps.map (·.1)) (⟨#[107]⟩, h, qs.map (·.1)) = true := eqB_true (by
            have e := hDD.out
            rw [HD.out] at e
            exact congrArg (Prod.mk _) e.symm)
          rw [hs1]
          rintro e w8 ⟨rfl, hE8⟩
          have hE78 := hE7.trans hE8
          have da8 := (ha6.ext hE78).pa
          have dc8 : w8.cell? ⟨b18, 0, none⟩ = some (.string ⟨#[107]⟩) ∧ w8.cell? ⟨b18, 1, none⟩ = some (.int .i64 g) ∧ w8.cell? ⟨b18, 2, none⟩ = some (.slice aq nq cq) := BoxAt.pa (BoxAt.ext hE78 c6)
          clear da7 db7 hs1
          go_wp2_with fail
          refine (partSame_any ⟨#[107]⟩ ⟨#[107]⟩ g g _ _ qs5 ps w8 (hq6.ext hE78).rows (hra6.ext hE78).rows).mono ?_
          rw [HQM.out, eqB_true rfl]
          rintro e w9 ⟨rfl, hE9⟩
          clear da8 dc8
          go_wp2_with fail
          refine (awake8_any w9).mono ?_
          rintro e w10 ⟨rfl, hE10⟩
          go_wp2_with fail
          go_ret
          exact ⟨rfl, (((hE1.trans hE6).trans hE78).trans hE9).trans hE10⟩
theorem law_partJoins_long (v0 : Value) (z : List Int) (many by_ twice : Int) (w : World) (hin : IntsIn w v0 .i64 z) (hz : 150 < z.length) :
    Calls Tryd.prog 7 #[v0, .int .i64 many, .int .i64 by_, .int .i64 twice] w fun e w' => e = .returned (.bool true) ∧ Ext w w' := by
  obtain ⟨a, c, rfl, hc, hcm, ha⟩ := hin.block
  have k1 : decide ((150 : Int) < (z.length : Int)) = true := by simp; omega
  go_enter Tryd.func7, Tryd.ntmps7
  go_wp2_with fail
  refine (awake8_any w).mono ?_
  rintro e w10 ⟨rfl, hE10⟩
  go_wp2_with fail
  go_ret
  exact ⟨rfl, hE10⟩
theorem walk_partJoins (v : Value) (many by_ twice : Int) (W : World) (w0 : ∃ l : List Int, IntsIn W v .i64 l ∧ ∀ n ∈ l, (Lit.int .i64 n).wf = true) (_ : (Lit.int .i64 many).wf = true) (_ : (Lit.int .i64 by_).wf = true) (_ : (Lit.int .i64 twice).wf = true) :
    Calls Tryd.prog 7 #[v, .int .i64 many, .int .i64 by_, .int .i64 twice] W fun e w' => e = .returned (.bool true) ∧ Ext W w' := by
  obtain ⟨z, hin, _⟩ := w0
  by_cases hz : z.length ≤ 150
  · exact law_partJoins v z many by_ twice W hin hz
  · exact law_partJoins_long v z many by_ twice W hin (by omega)
end Go.Proofs.YtkiodandnjbhoaaDoor
