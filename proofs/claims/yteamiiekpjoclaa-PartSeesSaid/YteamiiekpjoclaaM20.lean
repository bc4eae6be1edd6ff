/- part.Stamp. -/
import Derived.Test.YteamiiekpjoclaaM6
import Derived.Test.YteamiiekpjoclaaM13
import Derived.Test.YteamiiekpjoclaaM18
import Derived.Test.YteamiiekpjoclaaM17
namespace Go.Proofs.Yteamiiekpjoclaa
open Go Go.RowKit

theorem run_max4 {P : Program} (T : Array TypeId) (ty : TypeId) (k : IntKind) (a b c d : Int) (w : World) :
    (Builtin.max_ T ty #[.int k a, .int k b, .int k c, .int k d]).run P w = .ok (.int k (max (max (max a b) c) d)) w := by
  have h : ∀ x y : Int, (if y > x then y else x) = max x y := fun x y => by split <;> omega
  simp [Builtin.max_, Builtin.max2, h]
attribute [local go_sem] yields yUpon ro8 pa3 co5 run_max4

/-- The greatest stamp. -/
def stampCos (n : Int) (l : List Co) : Int := l.foldl (fun n c => max n c.cell.at_) n
def stampRo (n : Int) (r : Ro) : Int := stampCos (max n (max r.live.at_ (max r.gone r.shade))) r.cols
def stampRs (n : Int) (l : List Ro) : Int := l.foldl stampRo n
theorem stampCos_snoc (n : Int) (l : List Co) (c : Co) : stampCos n (l ++ [c]) = max (stampCos n l) c.cell.at_ := by unfold stampCos; rw [List.foldl_append]; rfl
theorem stampRs_snoc (n : Int) (l : List Ro) (r : Ro) : stampRs n (l ++ [r]) = stampRo (stampRs n l) r := by unfold stampRs; rw [List.foldl_append]; rfl
theorem le_stampCos (n : Int) (l : List Co) : n ≤ stampCos n l := by
  induction l generalizing n with
  | nil => exact Int.le_refl _
  | cons c l ih => exact Int.le_trans (Int.le_max_left _ _) (ih _)
theorem le_stampRs (n : Int) (l : List Ro) : n ≤ stampRs n l := by
  induction l generalizing n with
  | nil => exact Int.le_refl _
  | cons r l ih =>
    refine Int.le_trans ?_ (ih _)
    refine Int.le_trans ?_ (le_stampCos _ _)
    omega

set_option maxRecDepth 100000 in
set_option maxHeartbeats 8000000 in
theorem pstamp_any (pk : ByteArray) (pg : Int) (pu : Value) (ps : List (Ro × Value)) (w : World) (hin : RowsIn w pu ps) :
    Calls Try.prog 53 #[.agg #[.string pk, .int .i64 pg, pu]] w fun e w' => e = .returned (.int .i64 (stampRs pg (ps.map (·.1)))) ∧ Ext w w' := by
  have a0 := BoxAt.made w (pa3 pk pg pu) 39
  have hE := (Ext.refl w).alloc (.cells (pa3 pk pg pu) 39)
  obtain ⟨aa, ca, rfl, hca, hcma, hget⟩ := hin.get
  have c0 := a0.pa
  obtain ⟨n, hn⟩ : ∃ n, n = ps.length := ⟨_, rfl⟩
  rw [← hn] at hca a0 hE c0 ⊢
  have HN := Lib.hid hn
  have HGET := Lib.hid hget
  have HC := Lib.hid hin.cols
  obtain ⟨Z, hZ⟩ : ∃ Z, Z = stampRs pg (ps.map (·.1)) := ⟨_, rfl⟩
  rw [← hZ]
  have HZ := Lib.hid hZ
  clear hn hget hin hZ
  go_enter Try.func53, Try.ntmps53
  go_wp2
  go_loopw [3, 13] (fun so i wr => ∃ (k : Nat) (s : Int), k ≤ n ∧ i = .int .i64 k ∧ so = .int .i64 s ∧ Ext w wr ∧ Hid (s = stampRs pg ((ps.map (·.1)).take k))) (fun _ i _ => n - (intOf i).toNat)
  case atStart => exact ⟨0, pg, Nat.zero_le _, rfl, rfl, hE, rfl⟩
  case round =>
    obtain ⟨k, s, hk, rfl, rfl, hE1, HS⟩ := hrel
    by_cases hlt : k < n
    · have hkp : k < ps.length := by rw [← HN.out]; exact hlt
      have hcu := HC.out _ (List.getElem_mem hkp)
      obtain ⟨b, o, rfl, hat⟩ := HGET.out k hkp
      have hsnoc : (ps.map (·.1)).take (k + 1) = (ps.map (·.1)).take k ++ [ps[k].1] := by
        rw [List.take_succ_eq_append_getElem (by simpa using hkp)]
        simp
      obtain ⟨M, hM⟩ : ∃ M, M = ps[k].1 := ⟨_, rfl⟩
      obtain ⟨au, cu, hu, hcu1, hcu2, hcget⟩ := hcu.get
      rw [← hM] at hcu hu hsnoc hat
      rw [hu] at hcu hat
      have HSN := Lib.hid hsnoc
      obtain ⟨L, hL⟩ : ∃ L, L = M.cols := ⟨_, rfl⟩
      have hcg : ∀ j (hj : j < L.length), ∃ b o, au = some ⟨b, o, none⟩ ∧ CoAt w b (o + j * 5) L[j] := by
        subst hL
        subst hM
        exact hcget
      rw [← hL] at hat
      have HL := Lib.hid hL
      have hmc : L.length ≤ cu := by
        subst hL
        subst hM
        exact hcu1
      have HCG := Lib.hid hcg
      clear hM hu hsnoc hcget hcu hcg hL
      obtain ⟨m, hm⟩ : ∃ m, m = L.length := ⟨_, rfl⟩
      rw [← hm] at hat hmc
      have Hm := Lib.hid hm
      clear hm
      replace hat := hat.ext hE1
      obtain ⟨x0, x1, x2, x3, x4, x5, x6, x7⟩ := hat
      obtain ⟨wo, rfl⟩ : ∃ w', w' = wr := ⟨_, rfl⟩
      go_wp2_with (((guard_target =~ wpList _ _ _ (Oper.mk none (Op.store _ (Operand.tmp 5) (Operand.tmp 16)) _ _ _ _ :: _) _ _); go_must (refine storeBox rfl 55 (.tmp 5) (.tmp 16) rfl (wo.heap.size) _ _ _ (by rfl) (by rfl) ((BoxAt.made wo (ro8 ⟨⟨#[]⟩, zeroCl, 0, 0, []⟩ (.slice none 0 0)) 55)) (by kernel_rfl) (by rfl) (by simp [Value.oneCell']) ?_); intro w4 c4 g4); have hX4 : Ext wo w4 := ((Ext.refl wo).alloc _).grown g4 (fun q hq => by cases hq; omega); have d4 := c4.ro (r := ⟨M.key, M.live, M.gone, M.shade, []⟩) (v := .slice au m cu))
      have hW4 := hE1.trans hX4
      obtain ⟨t0, ht0⟩ : ∃ t0, t0 = max s (max M.live.at_ (max M.gone M.shade)) := ⟨_, rfl⟩
      have HT := Lib.hid ht0
      rw [← ht0]
      clear ht0 c4 g4 d4 x0 x1 x2 x3 x4 x5 x6 x7
      go_loopw [3, 29] (fun so i wr => ∃ (j : Nat) (t : Int), j ≤ m ∧ i = .int .i64 j ∧ so = .int .i64 t ∧ Ext w wr ∧ Hid (t = stampCos t0 (L.take j))) (fun _ i _ => m - (intOf i).toNat)
      case atStart => exact ⟨0, t0, Nat.zero_le _, rfl, rfl, hW4, rfl⟩
      case round =>
        obtain ⟨j, t, hj, rfl, rfl, hE2, HJ⟩ := hrel
        by_cases hlj : j < m
        · have hjl : j < L.length := by rw [← Hm.out]; exact hlj
          obtain ⟨b', o', rfl, hco⟩ := HCG.out j hjl
          obtain ⟨C, hC⟩ : ∃ C, C = L[j] := ⟨_, rfl⟩
          rw [← hC] at hco
          have hsn : L.take (j + 1) = L.take j ++ [C] := by rw [List.take_succ_eq_append_getElem hjl, hC]
          have HSN2 := Lib.hid hsn
          clear hC hsn
          obtain ⟨y0, y1, y2, y3, y4⟩ := hco.ext hE2
          obtain ⟨wi, rfl⟩ : ∃ w', w' = wr := ⟨_, rfl⟩
          go_wp2_with (((guard_target =~ wpList _ _ _ (Oper.mk none (Op.store _ (Operand.tmp 7) (Operand.tmp 32)) _ _ _ _ :: _) _ _); go_must (refine storeBox rfl 58 (.tmp 7) (.tmp 32) rfl (wi.heap.size) _ _ _ (by rfl) (by rfl) ((BoxAt.made wi (co5 ⟨⟨#[]⟩, zeroCl⟩) 58)) (by kernel_rfl) (by rfl) (by simp [Value.oneCell']) ?_); intro w6 c6 g6); have hX6 : Ext wi w6 := ((Ext.refl wi).alloc _).grown g6 (fun q hq => by cases hq; omega); have d6 := c6.co (c := C))
          go_roundw
          case rel =>
            refine ⟨j + 1, max t C.cell.at_, hlj, rfl, congrArg _ (by first | rfl | (split <;> omega)), hE2.trans hX6, ?_⟩
            show _ = _
            rw [HSN2.out, stampCos_snoc, ← HJ.out]
          case measure => simp [intOf]; omega
        · obtain rfl : j = m := by omega
          go_wp2_with fail
          go_roundw
          case rel =>
            refine ⟨k + 1, t, hlt, rfl, rfl, hE2, ?_⟩
            show _ = _
            rw [HSN.out, stampRs_snoc, ← HS.out, HJ.out, List.take_of_length_le (by rw [← Hm.out]; exact Nat.le_refl _), HT.out, HL.out]
            rfl
          case measure => simp [intOf]; omega
    · obtain rfl : k = n := by omega
      go_wp2_with fail
      go_ret
      refine ⟨?_, hE1⟩
      rw [HS.out, HZ.out, List.take_of_length_le (by simp; rw [← HN.out]; exact Nat.le_refl _)]
      rfl
end Go.Proofs.Yteamiiekpjoclaa

/- The example of the document, partitions (clerestorylaw08.awake). -/
namespace Go.Proofs.Yteamiiekpjoclaa
open Go Go.RowKit
attribute [local go_sem] yields yUpon ro8 pa3

theorem rows_two {w : World} {b : Nat} {r s : Ro} {v u : Value} {T : TypeId} (hb : BoxAt w b (ro8 r v ++ ro8 s u) T) (hc : ColsIn w v r.cols) (hd : ColsIn w u s.cols) : RowsIn w (.slice (some ⟨b, 0, none⟩) 2 2) [(r, v), (s, u)] :=
  ⟨⟨_, 2, rfl, Nat.le_refl _, by unfold maxLen; decide, nofun, fun j u hj => ⟨b, 0, rfl, by rw [Nat.zero_add, hb.cell j]; simpa [roCells, ro8] using hj⟩⟩, fun p hp => by
    rcases List.mem_cons.1 hp with rfl | hp
    · exact hc
    · rw [List.mem_singleton.1 hp]; exact hd⟩
def aR : Ro := ⟨⟨#[114]⟩, ⟨⟨#[]⟩, false, 8, 0⟩, 0, 0, []⟩
def aS : Ro := ⟨⟨#[115]⟩, ⟨⟨#[]⟩, false, 10, 0⟩, 0, 0, []⟩
theorem awake8_merge : mergeRo [aR, aS] [] = [aR, aS] := mergeG_nil_right ..
theorem awake8_seen : seenRs [aR, aS] 9 0 true = [aS] := rfl
theorem awake8_stamp : stampRs 9 [aR, aS] = 10 := by decide

set_option maxRecDepth 100000 in
set_option maxHeartbeats 8000000 in
theorem awake8_any (w : World) : Calls Try.prog 21 #[] w fun e w' => e = .returned (.bool true) ∧ Ext w w' := by
  go_enter Try.func21, Try.ntmps21
  go_wp2_with (((guard_target =~ wpList _ _ _ (Oper.mk none (Op.store _ (Operand.tmp 1) (Operand.tmp 10)) _ _ _ _ :: _) _ _); go_must (refine storeBox rfl 39 (.tmp 1) (.tmp 10) rfl (w.heap.size + 1) _ _ _ (by rfl) (by rfl) ((BoxAt.madeN (pa3 ⟨#[]⟩ 0 (.slice none 0 0)) 39 (by simp))) (by kernel_rfl) (by rfl) (by simp [Value.oneCell']) ?_); intro w1 c1 g1); have d1 := c1.pa (k := ⟨#[107]⟩) (g := 0) (u := .slice (some ⟨w.heap.size, 0, none⟩) 2 2); have hX1 : Ext w w1 := (((Ext.refl w).alloc _).alloc _).grown g1 (fun q hq => by cases hq; omega); have b1 := ((BoxAt.made w (ro8 aR (.slice none 0 0) ++ ro8 aS (.slice none 0 0)) 55).ext ((Ext.refl _).alloc _)).grown g1 (fun e => by have := Option.some.inj e; omega))
  have hrows := rows_two b1 (ColsIn.nil _) (ColsIn.nil _)
  refine (pjoin_walk ⟨#[107]⟩ ⟨#[120]⟩ 0 9 _ _ _ [] w1 hrows (RowsIn.nil w1) (by decide) (by intro r hr; simp [aR, aS] at hr; rcases hr with rfl | rfl <;> decide) (by intro r hr; cases hr)).mono ?_
  rintro e w2 ⟨hE2, ⟨_, v', rfl, qs, hqt, hqm⟩ | ⟨hbad, _⟩⟩
  rotate_left
  · exact absurd hbad (by show ¬ 100 < (mergeRo [aR, aS] []).length; rw [awake8_merge]; decide)
  rw [show (max (0 : Int) 9) = 9 from rfl]
  have hqs := hqt.rows
  have hX2 := hX1.trans hE2
  have hqm' : qs.map (·.1) = [aR, aS] := hqm.trans awake8_merge
  have hql : qs.length = 2 := by have := congrArg List.length hqm'; simpa using this
  obtain ⟨aq, cq, rfl, _⟩ := hqs.get
  rw [hql] at hqs ⊢
  clear hqm hrows b1 d1 g1 hX1 hE2 c1
  go_wp2_with (((guard_target =~ wpList _ _ _ (Oper.mk none (Op.store _ (Operand.tmp 2) (Operand.tmp 15)) _ _ _ _ :: _) _ _); go_must (refine storeBox rfl 39 (.tmp 2) (.tmp 15) rfl (w2.heap.size) _ _ _ (by rfl) (by rfl) ((BoxAt.made w2 (pa3 ⟨#[]⟩ 0 (.slice none 0 0)) 39)) (by kernel_rfl) (by rfl) (by simp [Value.oneCell']) ?_); intro w3 c3 g3); have d3 := c3.pa (k := ⟨#[107]⟩) (g := 9) (u := .slice aq 2 cq); have hX3 : Ext w2 w3 := ((Ext.refl w2).alloc _).grown g3 (fun q hq => by cases hq; omega))
  have hqs3 := hqs.ext hX3
  have hX03 := hX2.trans hX3
  refine (pseen_any ⟨#[107]⟩ 9 _ qs 0 true w3 hqs3 (by omega) (fun p hp => by
    have : p.1 ∈ [aR, aS] := by rw [← hqm']; exact List.mem_map_of_mem hp
    simp [aR, aS] at this
    rcases this with h | h <;> rw [h] <;> decide)).mono ?_
  rintro e w4 ⟨v4, rfl, ps, hown, hsafe, hpm, hE4⟩
  rw [hqm', awake8_seen] at hpm
  have hps := rows_own hown hE4 hsafe
  have hpl : ps.length = 1 := by have := congrArg List.length hpm; simpa using this
  have hX4 := hX03.trans hE4
  have d4 := (c3.ext hE4).pa (k := ⟨#[107]⟩) (g := 9) (u := .slice aq 2 cq)
  obtain ⟨a4, c4, rfl, hc1, hc2, hg4⟩ := hps.get
  obtain ⟨b, o, rfl, hr⟩ := hg4 0 (by omega)
  have hp0 : ps[0].1 = aS := by
    have h1 : (ps.map (·.1))[0]? = some aS := by rw [hpm]; rfl
    simpa [hpl] using h1
  rw [hp0] at hr
  have x0 : w4.cell? ⟨b, o, none⟩ = some (.string ⟨#[115]⟩) := by have := hr.c0; simp only [Nat.zero_mul, Nat.add_zero] at this; exact this
  rw [hpl]
  clear hr hg4 hp0 hown hsafe hps d3 g3 c3
  have hqs4 := hqs3.ext hE4
  go_wp2_with fail
  refine (pstamp_any ⟨#[107]⟩ 9 _ qs w4 hqs4).mono ?_
  rw [hqm', awake8_stamp]
  rintro e w5 ⟨rfl, hE5⟩
  have hX5 := hX4.trans hE5
  go_wp2_with fail
  go_ret
  exact ⟨rfl, hX5⟩
end Go.Proofs.Yteamiiekpjoclaa

/- The reference's Same: what reads alike is the same. -/
namespace Go.Proofs.Yteamiiekpjoclaa
open Go Go.RowKit
attribute [local go_sem] yields yUpon ro8

set_option maxHeartbeats 1000000 in
theorem same6_self (c : Cl) (w : World) : Calls Try.prog 90 #[(.agg #[.string c.val, .bool c.dead, .int .i64 c.at_, .int .i64 c.fin]), (.agg #[.string c.val, .bool c.dead, .int .i64 c.at_, .int .i64 c.fin])] w fun e w' => e = .returned (.bool true) ∧ Ext w w' := by
  go_enter Try.func90, Try.ntmps90
  go_wp2
  go_ret
  exact ⟨rfl, ((Ext.refl w).alloc _).alloc _⟩

set_option maxRecDepth 100000 in
set_option maxHeartbeats 2000000 in
theorem sameCols_self (v v' : Value) (l : List Co) (w : World) (hin : ColsIn w v l) (hin' : ColsIn w v' l) :
    Calls Try.prog 91 #[v, v'] w fun e w' => e = .returned (.bool true) ∧ Ext w w' := by
  obtain ⟨a, c, rfl, hc, hcm, hcell⟩ := hin.get
  obtain ⟨a', c', rfl, hc', hcm', hcell'⟩ := hin'.get
  have HC := Lib.hid hcell
  have HC' := Lib.hid hcell'
  clear hcell hin hcell' hin'
  go_enter Try.func91, Try.ntmps91
  go_wp2
  go_loopw [5] (fun i wr => ∃ k : Nat, k ≤ l.length ∧ i = .int .i64 k ∧ Ext w wr) (fun i _ => l.length - (intOf i).toNat)
  case atStart => exact ⟨0, Nat.zero_le _, rfl, Ext.refl w⟩
  case round =>
    obtain ⟨k, hk, rfl, hE⟩ := hrel
    by_cases hlt : k < l.length
    · obtain ⟨b, o, rfl, hco⟩ := HC.out k hlt
      obtain ⟨b', o', rfl, hco'⟩ := HC'.out k hlt
      obtain ⟨M, hM⟩ : ∃ M, M = l[k] := ⟨_, rfl⟩
      rw [← hM] at hco hco'
      clear hM
      obtain ⟨g0, g1, g2, g3, g4⟩ := hco.ext hE
      obtain ⟨y0, y1, y2, y3, y4⟩ := hco'.ext hE
      clear hco hco'
      have hki : decide ((k : Int) < (l.length : Int)) = true := by simpa using hlt
      replace g0 := held g0
      replace g1 := held g1
      replace g2 := held g2
      replace g3 := held g3
      replace g4 := held g4
      replace y0 := held y0
      replace y1 := held y1
      replace y2 := held y2
      replace y3 := held y3
      replace y4 := held y4
      go_wp2_with fail
      refine wp_region_tab 25 [(22, fun v _ => v = .bool true)] (by kernel_rfl) (by kernel_rfl) (by kernel_rfl) ⟨stays_eq _, trivial⟩ ?_
      refine rg_quiet rfl rfl rfl rfl ?_; intro K hK; go_big_quiet_op; go_big_quiet_on
      refine rg_quiet rfl rfl rfl rfl ?_; intro K hK; go_big_quiet_op; go_big_quiet_on
      refine rg_quiet rfl rfl rfl rfl ?_; intro K hK; go_big_quiet_op; go_big_quiet_on
      refine rg_quiet rfl rfl rfl rfl ?_; intro K hK; go_big_quiet_op; go_big_quiet_on
      refine rg_quiet rfl rfl rfl rfl ?_; intro K hK; go_big_quiet_op; go_big_quiet_on
      refine rg_quiet rfl rfl rfl rfl ?_; intro K hK; go_big_quiet_op; go_big_quiet_on
      refine rg_quiet rfl rfl rfl rfl ?_; intro K hK; go_big_quiet_op; go_big_quiet_on
      refine rg_quiet rfl rfl rfl rfl ?_; intro K hK; go_big_quiet_op; go_big_quiet_on
      refine rg_quiet rfl rfl rfl rfl ?_; intro K hK; go_big_quiet_op; go_big_quiet_on
      refine rg_quiet rfl rfl rfl rfl ?_; intro K hK; go_big_quiet_op; go_big_quiet_on
      refine rg_quiet rfl rfl rfl rfl ?_; intro K hK; go_big_quiet_op; go_big_quiet_on
      refine rg_quiet rfl rfl rfl rfl ?_; intro K hK; go_big_quiet_op; go_big_quiet_on
      refine rg_quiet rfl rfl rfl rfl ?_; intro K hK; go_big_quiet_op; go_big_quiet_on
      refine rg_quiet rfl rfl rfl rfl ?_; intro K hK; go_big_quiet_op; go_big_quiet_on
      refine rg_quiet rfl rfl rfl rfl ?_; intro K hK; go_big_quiet_op; go_big_quiet_on
      refine rg_quiet rfl rfl rfl rfl ?_; intro K hK; go_big_quiet_op; go_big_quiet_on
      refine rg_quiet rfl rfl rfl rfl ?_; intro K hK; go_big_quiet_op; go_big_quiet_on
      refine rg_quiet rfl rfl rfl rfl ?_; intro K hK; go_big_quiet_op; go_big_quiet_on
      refine rg_quiet rfl rfl rfl rfl ?_; intro K hK; go_big_quiet_op; go_big_quiet_on
      refine rg_quiet rfl rfl rfl rfl ?_; intro K hK; go_big_quiet_op; go_big_quiet_on
      refine rg_quiet rfl rfl rfl rfl ?_; intro K hK; go_big_quiet_op; go_big_quiet_on
      refine rg_quiet rfl rfl rfl rfl ?_; intro K hK; go_big_quiet_op; go_big_quiet_on
      refine rg_val [] rfl rfl rfl (by kernel_rfl) (fun w1 hE hf => ?_) ?_
      · go_simp
        exact (same6_self M.cell w1).mono fun e w' ⟨he, hw⟩ => ⟨_, he, rg_done hE hw (rfl)⟩
      simp only [Act.put, List.setIfInBounds_toArray, List.set_cons_zero, List.set_cons_succ]
      refine rg_quiet rfl rfl rfl rfl ?_; intro K hK; go_big_quiet_op; go_big_quiet_on
      refine rg_quiet rfl rfl rfl rfl ?_; intro K hK; go_big_quiet_op; go_big_quiet_on
      refine rel_nil fun w5 hE5 _ => ?_
      clear g0 g1 g2 g3 g4 y0 y1 y2 y3 y4
      go_wp2_with fail
      go_roundw
      case rel => exact ⟨k + 1, by omega, by go_num, hE.trans hE5⟩
      case measure => simp [intOf] <;> omega
    · go_wp2_with fail
      go_ret
      exact ⟨rfl, hE⟩

set_option maxRecDepth 100000 in
set_option maxHeartbeats 2000000 in
theorem same7_self (r : Ro) (v v' : Value) (w : World) (hin : ColsIn w v r.cols) (hin' : ColsIn w v' r.cols) :
    Calls Try.prog 62 #[(.agg #[.string r.key, .string r.live.val, .bool r.live.dead, .int .i64 r.live.at_, .int .i64 r.live.fin, .int .i64 r.gone, .int .i64 r.shade, v]), (.agg #[.string r.key, .string r.live.val, .bool r.live.dead, .int .i64 r.live.at_, .int .i64 r.live.fin, .int .i64 r.gone, .int .i64 r.shade, v'])] w fun e w' => e = .returned (.bool true) ∧ Ext w w' := by
  obtain ⟨a0, a1, hE⟩ := boxes2 w (ro8 r v) (ro8 r v') 55 55
  have hin1 := hin.ext hE
  have hin1' := hin'.ext hE
  go_enter Try.func62, Try.ntmps62
  go_wp2_with fail
  refine (same6_self r.live _).mono ?_
  rintro e w1 ⟨rfl, hE1⟩
  replace a0 := a0.ext hE1
  replace a1 := a1.ext hE1
  replace hE := hE.trans hE1
  replace hin1 := hin1.ext hE1
  replace hin1' := hin1'.ext hE1
  have y0 : ∀ i, w1.cell? ⟨w.heap.size, i, none⟩ = (ro8 r v)[i]? := fun i => a0.cell i
  have y1 : ∀ i, w1.cell? ⟨w.heap.size + 1, i, none⟩ = (ro8 r v')[i]? := fun i => a1.cell i
  clear hE1 hin hin' a0 a1
  go_wp2_with fail
  refine (sameCols_self v v' r.cols _ hin1 hin1').mono ?_
  rintro e w2 ⟨rfl, hE2⟩
  go_wp2
  go_ret
  exact ⟨rfl, hE.trans hE2⟩
end Go.Proofs.Yteamiiekpjoclaa
