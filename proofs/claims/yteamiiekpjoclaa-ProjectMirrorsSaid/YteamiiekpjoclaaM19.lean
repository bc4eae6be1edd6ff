/- The reference's partitions: Seen. -/
import Derived.Test.YteamiiekpjoclaaM18
import Derived.Test.YteamiiekpjoclaaM9
import Derived.Test.YteamiiekpjoclaaM10
namespace Go.Proofs.Yteamiiekpjoclaa
open Go Go.RowKit
attribute [local go_sem] yields yUpon ro8 pa3

set_option maxRecDepth 100000 in
set_option maxHeartbeats 8000000 in
theorem seen8_any (pk : ByteArray) (pg : Int) (pu : Value) (ps : List (Ro × Value)) (now : Int) (strict : Bool) (w : World) (hin : RowsIn w pu ps) (hlen : ps.length ≤ 1000000) (hcl : ∀ p ∈ ps, p.1.cols.length ≤ 400000) (hdc : ∀ p ∈ ps, DistN p.1.cols) :
    Calls Try.prog 39 #[.agg #[.string pk, .int .i64 pg, pu], .int .i64 now, .bool strict] w fun e w' => ∃ v', e = .returned v' ∧ ∃ qs, w'.ownsRow w.heap.size 55 8 v' qs.length (roCells qs) ∧ (∀ p ∈ qs, SafeC w w' p) ∧ qs.map (·.1) = seenRs (ps.map (·.1)) pg now strict ∧ Ext w w' := by
  have a0 := BoxAt.made w (pa3 pk pg pu) 39
  have hE := (Ext.refl w).alloc (.cells (pa3 pk pg pu) 39)
  obtain ⟨aa, ca, rfl, hca, hcma, hget⟩ := hin.get
  have c0 := a0.pa
  obtain ⟨n, hn⟩ : ∃ n, n = ps.length := ⟨_, rfl⟩
  rw [← hn] at hlen hca a0 hE c0 ⊢
  have HN := Lib.hid hn
  have HGET := Lib.hid hget
  clear hn hget
  go_enter Try.func39, Try.ntmps39
  go_wp2
  go_loopw [7, 8] (fun so i wr => ∃ (k : Nat) (out : List (Ro × Value)), k ≤ n ∧ i = .int .i64 k ∧ wr.ownsRow w.heap.size 55 8 so out.length (roCells out) ∧ Hid (∀ p ∈ out, SafeC w wr p) ∧ Ext w wr ∧ BoxAt wr w.heap.size (pa3 pk pg (.slice aa n ca)) 39 ∧ Hid (out.map (·.1) = seenRs ((ps.map (·.1)).take k) pg now strict) ∧ out.length ≤ k) (fun _ i _ => n - (intOf i).toNat)
  case atStart => exact ⟨0, [], Nat.zero_le _, rfl, World.ownsRow_nil _ _ _ _, nofun, hE, a0, rfl, by simp⟩
  case round =>
    obtain ⟨k, out, hk, rfl, hown, HS, hE1, b0, HO, hok⟩ := hrel
    have p0 := b0.pa
    by_cases hlt : k < n
    · have hkp : k < ps.length := by rw [← HN.out]; exact hlt
      have hkc := hcl _ (List.getElem_mem hkp)
      have hdk := hdc _ (List.getElem_mem hkp)
      have hcu := hin.cols _ (List.getElem_mem hkp)
      obtain ⟨b, o, rfl, hat⟩ := HGET.out k hkp
      have hsnoc : (ps.map (·.1)).take (k + 1) = (ps.map (·.1)).take k ++ [ps[k].1] := by
        rw [List.take_succ_eq_append_getElem (by simpa using hkp)]
        simp
      obtain ⟨M, hM⟩ : ∃ M, M = ps[k].1 := ⟨_, rfl⟩
      obtain ⟨au, cu, hu⟩ := hcu.shape
      rw [← hM] at hkc hcu hu hsnoc hat hdk
      rw [hu] at hcu hat
      have HSN := Lib.hid hsnoc
      clear hM hu hsnoc
      obtain ⟨m, hm⟩ : ∃ m, m = M.cols.length := ⟨_, rfl⟩
      rw [← hm] at hcu hat
      clear hm
      have hcu0 := hcu
      replace hcu := hcu.ext hE1
      replace hat := hat.ext hE1
      obtain ⟨x0, x1, x2, x3, x4, x5, x6, x7⟩ := hat
      obtain ⟨sB, hsB⟩ : ∃ sB, sB = isB M (max M.gone pg) now strict := ⟨_, rfl⟩
      have HB := Lib.hid hsB
      clear hsB
      go_wp2_with (((guard_target =~ wpList _ _ _ (Oper.mk none (Op.store _ (Operand.tmp 9) (Operand.tmp 21)) _ _ _ _ :: _) _ _); go_must (refine storeBox rfl 55 (.tmp 9) (.tmp 21) rfl (wr.heap.size) _ _ _ (by rfl) (by rfl) ((BoxAt.made wr (ro8 ⟨⟨#[]⟩, zeroCl, 0, 0, []⟩ (.slice none 0 0)) 55)) (by kernel_rfl) (by rfl) (by simp [Value.oneCell']) ?_); intro w4 c4 g4); have hX4 : Ext wr w4 := ((Ext.refl wr).alloc _).grown g4 (fun q hq => by cases hq; omega); have d4 := c4.ro (r := M) (v := .slice au m cu); have e4 := (b0.ext hX4).pa)
      refine (is7_any M (.slice au m cu) pg now strict w4 (hcu.ext hX4) hkc hdk).mono ?_
      rw [← HB.out]
      rintro e w5 ⟨rfl, hE5⟩
      have hX5 := hX4.trans hE5
      have b5 := b0.ext hX5
      have r5 : BoxAt w5 wr.heap.size (ro8 M (.slice au m cu)) 55 := c4.ext hE5
      have hown5 := ownsRow_ext hown hX5
      have hS5 : ∀ p ∈ out, SafeC w w5 p := fun p hp => (HS.out p hp).ext hX5
      have hcu5 := hcu.ext hX5
      have hW5 := hE1.trans hX5
      have hle5 := hX5.le
      clear d4 e4 c4 x0 x1 x2 x3 x4 x5 x6 x7 hX4 hE5 b0
      cases sB with
      | false =>
        go_wp2_with fail
        go_roundw
        case rel =>
          refine ⟨k + 1, out, hlt, rfl, hown5, hS5, hW5, b5, ?_, by omega⟩
          show _ = _
          rw [HSN.out, seenRs_snoc, ← HB.out, if_neg (by decide), List.append_nil]
          exact HO.out
        case measure => simp [intOf]; omega
      | true =>
        obtain ⟨S, hS⟩ : ∃ S, S = seenCos M.cols (max M.gone pg) now := ⟨_, rfl⟩
        have HSS := Lib.hid hS
        clear hS
        go_wp2_with fail
        refine wp_region_relE (SR w wr u7 out pk pg (.slice (some ⟨b, o, none⟩) n ca) M (.slice au m cu)) (ME u7 12) (Tab.atE [(2, fun v _ => v = .string M.key), (4, fun v _ => v = (.agg #[.string M.live.val, .bool M.live.dead, .int .i64 M.live.at_, .int .i64 M.live.fin])), (5, fun v _ => v = (.agg #[.string M.key, .string M.live.val, .bool M.live.dead, .int .i64 M.live.at_, .int .i64 M.live.fin, .int .i64 M.gone, .int .i64 M.shade, (.slice au m cu)])), (7, fun v _ => v = .int .i64 pg), (9, fun v x => x.ownsRow wr.heap.size 58 5 v S.length (coCells S)), (11, fun v x => ∃ b u, v = .slice (some ⟨b, 0, none⟩) 1 1 ∧ wr.heap.size ≤ b ∧ BoxAt x b (ro8 ⟨M.key, M.live, 0, 0, S⟩ u) 55 ∧ x.ownsRow wr.heap.size 58 5 u S.length (coCells S)), (12, fun v x => ∃ u, x.ownsRow w.heap.size 55 8 v (out.length + 1) (roCells (out ++ [(⟨M.key, M.live, 0, 0, S⟩, u)])) ∧ x.ownsRow wr.heap.size 58 5 u S.length (coCells S))])
          (Tab.staysE ⟨fun _ _ _ _ _ _ h => h, fun _ _ _ _ _ _ h => h, fun _ _ _ _ _ _ h => h, fun _ _ _ _ _ _ h => h, fun j _ v x y hR h => ME_own hown hR h, fun j _ v x y hR ⟨b, u, e, hb, hx, h⟩ => ⟨b, u, e, hb, ME_box hown hR hb hx, ME_own hown hR h⟩, fun j hj v x y hR ⟨u, h, h'⟩ => ⟨u, ownsRow_ext h (ME_off hj hR), ownsRow_ext h' (ME_off hj hR)⟩, trivial⟩)
          14 (by kernel_rfl) (by kernel_rfl) (by kernel_rfl) ((⟨⟨hW5, hown5, hle5, hS5⟩, b5, r5⟩ : SR w wr u7 out pk pg (.slice (some ⟨b, o, none⟩) n ca) M (.slice au m cu) w5).ext' (Ext.refl w5).drew) ?_
        refine relE_quiet rfl rfl rfl rfl ?_; intro K hK; go_big_quiet_op; (first | refine ⟨_, fun _ _ => rfl, hK _ ?_⟩ | refine hK _ ?_); clear hK K
        refine relE_quiet rfl rfl rfl rfl ?_; intro K hK; go_big_quiet_op; (first | refine ⟨_, fun _ _ => rfl, hK _ ?_⟩ | refine hK _ ?_); clear hK K
        refine relE_val [] rfl rfl rfl (by kernel_rfl) (fun z hz hf => ?_) ?_
        · obtain ⟨x0, x1, x2, x3, x4, x5, x6, x7⟩ := hz.row.ro
          go_simp
          exact ⟨hz, ME_ext (Ext.refl z), rfl⟩
        simp only [Act.put, List.setIfInBounds_toArray, List.set_cons_zero, List.set_cons_succ]
        refine relE_quiet rfl rfl rfl rfl ?_; intro K hK; go_big_quiet_op; (first | refine ⟨_, fun _ _ => rfl, hK _ ?_⟩ | refine hK _ ?_); clear hK K
        refine relE_val [] rfl rfl rfl (by kernel_rfl) (fun z hz hf => ?_) ?_
        · obtain ⟨x0, x1, x2, x3, x4, x5, x6, x7⟩ := hz.row.ro
          go_simp
          exact ⟨hz, ME_ext (Ext.refl z), rfl⟩
        simp only [Act.put, List.setIfInBounds_toArray, List.set_cons_zero, List.set_cons_succ]
        refine relE_val [] rfl rfl rfl (by kernel_rfl) (fun z hz hf => ?_) ?_
        · obtain ⟨x0, x1, x2, x3, x4, x5, x6, x7⟩ := hz.row.ro
          go_simp
          exact ⟨hz, ME_ext (Ext.refl z), rfl⟩
        simp only [Act.put, List.setIfInBounds_toArray, List.set_cons_zero, List.set_cons_succ]
        refine relE_quiet rfl rfl rfl rfl ?_; intro K hK; go_big_quiet_op; (first | refine ⟨_, fun _ _ => rfl, hK _ ?_⟩ | refine hK _ ?_); clear hK K
        refine relE_val [] rfl rfl rfl (by kernel_rfl) (fun z hz hf => ?_) ?_
        · obtain ⟨x0, x1, x2⟩ := hz.part.pa
          go_simp
          exact ⟨hz, ME_ext (Ext.refl z), rfl⟩
        simp only [Act.put, List.setIfInBounds_toArray, List.set_cons_zero, List.set_cons_succ]
        refine relE_quiet rfl rfl rfl rfl ?_; intro K hK; go_big_quiet_op; (first | refine ⟨_, fun _ _ => rfl, hK _ ?_⟩ | refine hK _ ?_); clear hK K
        refine relE_fact [] rfl rfl rfl (by kernel_rfl) (fun z hz hf => ?_) (fun v8 z8 hC8 hG8 h8 => ?_)
        · go_simp
          refine (seen7_any M (.slice au m cu) pg now z (hcu0.ext hz.mr.ext) hkc hdk).mono ?_
          rintro e y ⟨v', he, hown', hy⟩
          rw [← HSS.out] at hown'
          exact ⟨_, he, hz.ext' hy, ME_ext hy, ownsRow_base hown' (Nat.le_trans hz.mr.size (Nat.le_succ _))⟩
        obtain ⟨a8, cc8, rfl⟩ := own_shape h8
        clear hC8 hG8 h8
        simp only [Act.put, List.setIfInBounds_toArray, List.set_cons_zero, List.set_cons_succ]
        refine relE_quiet rfl rfl rfl rfl ?_; intro K hK; go_big_quiet_op; (first | refine ⟨_, fun _ _ => rfl, hK _ ?_⟩ | refine hK _ ?_); clear hK K
        refine relE_fact [9] rfl rfl rfl (by kernel_rfl) (fun z hz hf => ?_) (fun v4 z4 hC4 hG4 h4 => ?_)
        · have hu := (hf 9 (by simp)).2 rfl
          go_simp
          exact ⟨hz.ext' ((Ext.refl z).alloc _), ME_ext ((Ext.refl z).alloc _), _, rfl, hz.mr.size, _, BoxAt.made z _ _, ownsRow_ext hu ((Ext.refl z).alloc _)⟩
        obtain ⟨b4, u4, rfl, hb4, _, _⟩ := h4
        clear hC4 hG4 hb4
        simp only [Act.put, List.setIfInBounds_toArray, List.set_cons_zero, List.set_cons_succ]
        refine relE_fact [11] rfl rfl rfl (by kernel_rfl) (fun z hz hf => ?_) (fun v5 z5 hC5 hG5 h5 => ?_)
        · obtain ⟨bb, u, e, _, hbox, hu⟩ := (hf 11 (by simp)).2 rfl
          cases e
          obtain ⟨au, cu, rfl⟩ := own_shape hu
          refine yields_append info_Row und_Rows rfl (by decide) (.tmp 28) (.tmp 39) rfl w.heap.size hz.mr.ext.le u7 out.length (roCells out) hz.mr.own (by rfl) b4 1 1 (ro8 ⟨M.key, M.live, 0, 0, S⟩ (.slice au S.length cu)).toList (by rfl) (by rfl) (fun j u hj => by rw [hbox.cell j]; simpa using hj) (by simp [ro8, Value.oneCell']) (by unfold maxLen; omega) (by omega) ?_
          intro v' y hown' hg hkeep
          refine ⟨⟨⟨hz.mr.ext.grown hg (fun q hq => (hz.mr.own.lt q hq).1), hkeep, Nat.le_trans hz.mr.size hg.size, fun p hp => (hz.mr.safe p hp).grown hz.mr.own hg⟩, ?_, ?_⟩, by unfold ME; rw [if_pos rfl]; exact hg, _, ?_, hu.kept hg (own_ne_own hu hz.mr.own (by decide))⟩
          · refine hz.part.grown hg (fun e => ?_)
            rcases own_ne_box hz.mr.own hz.part (by decide) with h | h
            · rw [h] at e; cases e
            · exact h e.symm
          · exact hz.row.grown hg (fun e => by have := (hown.lt _ e.symm).2; omega)
          · rw [roCells_append]
            exact hown'
        obtain ⟨u5, h5, _⟩ := h5
        obtain ⟨a5, c5, rfl⟩ := own_shape h5
        clear hC5 hG5 h5
        simp only [Act.put, List.setIfInBounds_toArray, List.set_cons_zero, List.set_cons_succ]
        refine relE_quiet rfl rfl rfl rfl ?_; intro K hK; go_big_quiet_op; (first | refine ⟨_, fun _ _ => rfl, hK _ ?_⟩ | refine hK _ ?_); clear hK K
        refine relE_nil fun w9 hC hG => ?_
        obtain ⟨u9, hown9, hu9'⟩ := (hG 12).2 rfl
        have hu9 := ownsRow_base hu9' hE1.le
        have hE9 := hC.mr.ext
        have hs9 := hC.mr.safe
        have b9 := hC.part
        clear hC hG hown hown5 hS5 b5 r5
        go_wp2_with fail
        go_roundw
        case rel =>
          refine ⟨k + 1, out ++ [(⟨M.key, M.live, 0, 0, S⟩, u9)], hlt, rfl, by rw [List.length_append]; exact hown9, fun p hp => ?_, hE9, b9, ?_, by simp; omega⟩
          · rcases List.mem_append.1 hp with h | h
            · exact hs9 p h
            · rw [List.mem_singleton.1 h]; exact .inr hu9
          · show _ = _
            rw [HSN.out, seenRs_snoc, ← HB.out, if_pos rfl, List.map_append, HO.out, HSS.out]
            rfl
        case measure => simp [intOf]; omega
    · go_wp2_with fail
      obtain rfl : k = n := by omega
      go_ret
      refine ⟨_, rfl, out, hown, fun p v hp => HS.out (p, v) hp, ?_, hE1⟩
      rw [HO.out, List.take_of_length_le (by simp; rw [← HN.out]; exact Nat.le_refl _)]
end Go.Proofs.Yteamiiekpjoclaa

/- The reference's Same: what reads alike is the same. -/
namespace Go.Proofs.Yteamiiekpjoclaa
open Go Go.RowKit
attribute [local go_sem] yields yUpon ro8

set_option maxHeartbeats 1000000 in
theorem same6_self (c : Cl) (w : World) : Calls Try.prog 90 #[(.agg #[.string c.val, .bool c.dead, .int .i64 c.at_, .int .i64 c.fin]), (.agg #[.string c.val, .bool c.dead, .int .i64 c.at_, .int .i64 c.fin])] w fun e w' => e = .returned (.bool true) ∧ Ext w w' := by
  go_enter Try.func90, Try.ntmps90
  go_wp2
  go_ret
  exact ⟨rfl, ((Ext.refl w).alloc _).alloc _⟩

set_option maxRecDepth 100000 in
set_option maxHeartbeats 2000000 in
theorem sameCols_self (v v' : Value) (l : List Co) (w : World) (hin : ColsIn w v l) (hin' : ColsIn w v' l) :
    Calls Try.prog 91 #[v, v'] w fun e w' => e = .returned (.bool true) ∧ Ext w w' := by
  obtain ⟨a, c, rfl, hc, hcm, hcell⟩ := hin.get
  obtain ⟨a', c', rfl, hc', hcm', hcell'⟩ := hin'.get
  have HC := Lib.hid hcell
  have HC' := Lib.hid hcell'
  clear hcell hin hcell' hin'
  go_enter Try.func91, Try.ntmps91
  go_wp2
  go_loopw [5] (fun i wr => ∃ k : Nat, k ≤ l.length ∧ i = .int .i64 k ∧ Ext w wr) (fun i _ => l.length - (intOf i).toNat)
  case atStart => exact ⟨0, Nat.zero_le _, rfl, Ext.refl w⟩
  case round =>
    obtain ⟨k, hk, rfl, hE⟩ := hrel
    by_cases hlt : k < l.length
    · obtain ⟨b, o, rfl, hco⟩ := HC.out k hlt
      obtain ⟨b', o', rfl, hco'⟩ := HC'.out k hlt
      obtain ⟨M, hM⟩ : ∃ M, M = l[k] := ⟨_, rfl⟩
      rw [← hM] at hco hco'
      clear hM
      obtain ⟨g0, g1, g2, g3, g4⟩ := hco.ext hE
      obtain ⟨y0, y1, y2, y3, y4⟩ := hco'.ext hE
      clear hco hco'
      have hki : decide ((k : Int) < (l.length : Int)) = true := by simpa using hlt
      replace g0 := held g0
      replace g1 := held g1
      replace g2 := held g2
      replace g3 := held g3
      replace g4 := held g4
      replace y0 := held y0
      replace y1 := held y1
      replace y2 := held y2
      replace y3 := held y3
      replace y4 := held y4
      go_wp2_with fail
      refine wp_region_tab 25 [(22, fun v _ => v = .bool true)] (by kernel_rfl) (by kernel_rfl) (by kernel_rfl) ⟨stays_eq _, trivial⟩ ?_
      refine rg_quiet rfl rfl rfl rfl ?_; intro K hK; go_big_quiet_op; go_big_quiet_on
      refine rg_quiet rfl rfl rfl rfl ?_; intro K hK; go_big_quiet_op; go_big_quiet_on
      refine rg_quiet rfl rfl rfl rfl ?_; intro K hK; go_big_quiet_op; go_big_quiet_on
      refine rg_quiet rfl rfl rfl rfl ?_; intro K hK; go_big_quiet_op; go_big_quiet_on
      refine rg_quiet rfl rfl rfl rfl ?_; intro K hK; go_big_quiet_op; go_big_quiet_on
      refine rg_quiet rfl rfl rfl rfl ?_; intro K hK; go_big_quiet_op; go_big_quiet_on
      refine rg_quiet rfl rfl rfl rfl ?_; intro K hK; go_big_quiet_op; go_big_quiet_on
      refine rg_quiet rfl rfl rfl rfl ?_; intro K hK; go_big_quiet_op; go_big_quiet_on
      refine rg_quiet rfl rfl rfl rfl ?_; intro K hK; go_big_quiet_op; go_big_quiet_on
      refine rg_quiet rfl rfl rfl rfl ?_; intro K hK; go_big_quiet_op; go_big_quiet_on
      refine rg_quiet rfl rfl rfl rfl ?_; intro K hK; go_big_quiet_op; go_big_quiet_on
      refine rg_quiet rfl rfl rfl rfl ?_; intro K hK; go_big_quiet_op; go_big_quiet_on
      refine rg_quiet rfl rfl rfl rfl ?_; intro K hK; go_big_quiet_op; go_big_quiet_on
      refine rg_quiet rfl rfl rfl rfl ?_; intro K hK; go_big_quiet_op; go_big_quiet_on
      refine rg_quiet rfl rfl rfl rfl ?_; intro K hK; go_big_quiet_op; go_big_quiet_on
      refine rg_quiet rfl rfl rfl rfl ?_; intro K hK; go_big_quiet_op; go_big_quiet_on
      refine rg_quiet rfl rfl rfl rfl ?_; intro K hK; go_big_quiet_op; go_big_quiet_on
      refine rg_quiet rfl rfl rfl rfl ?_; intro K hK; go_big_quiet_op; go_big_quiet_on
      refine rg_quiet rfl rfl rfl rfl ?_; intro K hK; go_big_quiet_op; go_big_quiet_on
      refine rg_quiet rfl rfl rfl rfl ?_; intro K hK; go_big_quiet_op; go_big_quiet_on
      refine rg_quiet rfl rfl rfl rfl ?_; intro K hK; go_big_quiet_op; go_big_quiet_on
      refine rg_quiet rfl rfl rfl rfl ?_; intro K hK; go_big_quiet_op; go_big_quiet_on
      refine rg_val [] rfl rfl rfl (by kernel_rfl) (fun w1 hE hf => ?_) ?_
      · go_simp
        exact (same6_self M.cell w1).mono fun e w' ⟨he, hw⟩ => ⟨_, he, rg_done hE hw (rfl)⟩
      simp only [Act.put, List.setIfInBounds_toArray, List.set_cons_zero, List.set_cons_succ]
      refine rg_quiet rfl rfl rfl rfl ?_; intro K hK; go_big_quiet_op; go_big_quiet_on
      refine rg_quiet rfl rfl rfl rfl ?_; intro K hK; go_big_quiet_op; go_big_quiet_on
      refine rel_nil fun w5 hE5 _ => ?_
      clear g0 g1 g2 g3 g4 y0 y1 y2 y3 y4
      go_wp2_with fail
      go_roundw
      case rel => exact ⟨k + 1, by omega, by go_num, hE.trans hE5⟩
      case measure => simp [intOf] <;> omega
    · go_wp2_with fail
      go_ret
      exact ⟨rfl, hE⟩

set_option maxRecDepth 100000 in
set_option maxHeartbeats 2000000 in
theorem same7_self (r : Ro) (v v' : Value) (w : World) (hin : ColsIn w v r.cols) (hin' : ColsIn w v' r.cols) :
    Calls Try.prog 62 #[(.agg #[.string r.key, .string r.live.val, .bool r.live.dead, .int .i64 r.live.at_, .int .i64 r.live.fin, .int .i64 r.gone, .int .i64 r.shade, v]), (.agg #[.string r.key, .string r.live.val, .bool r.live.dead, .int .i64 r.live.at_, .int .i64 r.live.fin, .int .i64 r.gone, .int .i64 r.shade, v'])] w fun e w' => e = .returned (.bool true) ∧ Ext w w' := by
  obtain ⟨a0, a1, hE⟩ := boxes2 w (ro8 r v) (ro8 r v') 55 55
  have hin1 := hin.ext hE
  have hin1' := hin'.ext hE
  go_enter Try.func62, Try.ntmps62
  go_wp2_with fail
  refine (same6_self r.live _).mono ?_
  rintro e w1 ⟨rfl, hE1⟩
  replace a0 := a0.ext hE1
  replace a1 := a1.ext hE1
  replace hE := hE.trans hE1
  replace hin1 := hin1.ext hE1
  replace hin1' := hin1'.ext hE1
  have y0 : ∀ i, w1.cell? ⟨w.heap.size, i, none⟩ = (ro8 r v)[i]? := fun i => a0.cell i
  have y1 : ∀ i, w1.cell? ⟨w.heap.size + 1, i, none⟩ = (ro8 r v')[i]? := fun i => a1.cell i
  clear hE1 hin hin' a0 a1
  go_wp2_with fail
  refine (sameCols_self v v' r.cols _ hin1 hin1').mono ?_
  rintro e w2 ⟨rfl, hE2⟩
  go_wp2
  go_ret
  exact ⟨rfl, hE.trans hE2⟩
end Go.Proofs.Yteamiiekpjoclaa

/- Lists of rows in memory; the reference's SameRows, Same of partitions that read alike. -/
namespace Go.Proofs.Yteamiiekpjoclaa
open Go Go.RowKit
attribute [local go_sem] yields yUpon ro8 pa3

set_option maxRecDepth 100000 in
set_option maxHeartbeats 2000000 in
theorem sameRows_self (v v' : Value) (ps ps' : List (Ro × Value)) (w : World) (hin : RowsIn w v ps) (hin' : RowsIn w v' ps') (he : ps.map (·.1) = ps'.map (·.1)) :
    Calls Try.prog 25 #[v, v'] w fun e w' => e = .returned (.bool true) ∧ Ext w w' := by
  have hl : ps'.length = ps.length := by have := congrArg List.length he; simpa using this.symm
  obtain ⟨a, c, rfl, hc, hcm, hcell⟩ := hin.get
  obtain ⟨a', c', rfl, hc', hcm', hcell'⟩ := hin'.get
  rw [hl] at hc' ⊢
  have hP : ∀ k (hk : k < ps.length), ∃ (M : Ro) (u u' : Value), (∃ b o, a = some ⟨b, o, none⟩ ∧ RoAt w b (o + k * 8) M u) ∧ (∃ b o, a' = some ⟨b, o, none⟩ ∧ RoAt w b (o + k * 8) M u') ∧ ColsIn w u M.cols ∧ ColsIn w u' M.cols := by
    intro k hk
    have hk' : k < ps'.length := by omega
    have hm : ps'[k].1 = ps[k].1 := by
      have h1 : (ps.map (·.1))[k]? = (ps'.map (·.1))[k]? := by rw [he]
      simp [hk, hk'] at h1
      exact h1.symm
    refine ⟨ps[k].1, ps[k].2, ps'[k].2, hcell k hk, ?_, hin.cols _ (List.getElem_mem hk), ?_⟩
    · rw [← hm]; exact hcell' k hk'
    · rw [← hm]; exact hin'.cols _ (List.getElem_mem hk')
  have HP := Lib.hid hP
  clear hcell hcell' hin hin' hP he hl
  obtain ⟨n, hn⟩ : ∃ n, n = ps.length := ⟨_, rfl⟩
  rw [← hn] at HP hc hc' ⊢
  clear hn
  go_enter Try.func25, Try.ntmps25
  go_wp2
  go_loopw [5] (fun i wr => ∃ k : Nat, k ≤ n ∧ i = .int .i64 k ∧ Ext w wr) (fun i _ => n - (intOf i).toNat)
  case atStart => exact ⟨0, Nat.zero_le _, rfl, Ext.refl w⟩
  case round =>
    obtain ⟨k, hk, rfl, hE⟩ := hrel
    by_cases hlt : k < n
    · obtain ⟨M, u, u', ⟨b, o, rfl, hco⟩, ⟨b', o', rfl, hco'⟩, hcu, hcu'⟩ := HP.out k hlt
      obtain ⟨g0, g1, g2, g3, g4, g5, g6, g7⟩ := hco.ext hE
      obtain ⟨y0, y1, y2, y3, y4, y5, y6, y7⟩ := hco'.ext hE
      replace hcu := hcu.ext hE
      replace hcu' := hcu'.ext hE
      clear hco hco'
      have hki : decide ((k : Int) < (n : Int)) = true := by simpa using hlt
      replace g0 := held g0
      replace g1 := held g1
      replace g2 := held g2
      replace g3 := held g3
      replace g4 := held g4
      replace g5 := held g5
      replace g6 := held g6
      replace g7 := held g7
      replace y0 := held y0
      replace y1 := held y1
      replace y2 := held y2
      replace y3 := held y3
      replace y4 := held y4
      replace y5 := held y5
      replace y6 := held y6
      replace y7 := held y7
      go_wp2_with fail
      refine wp_region_tab 10 [(8, fun v _ => v = .bool true)] (by kernel_rfl) (by kernel_rfl) (by kernel_rfl) ⟨stays_eq _, trivial⟩ ?_
      refine rg_quiet rfl rfl rfl rfl ?_; intro K hK; go_big_quiet_op; go_big_quiet_on
      refine rg_quiet rfl rfl rfl rfl ?_; intro K hK; go_big_quiet_op; go_big_quiet_on
      refine rg_quiet rfl rfl rfl rfl ?_; intro K hK; go_big_quiet_op; go_big_quiet_on
      refine rg_quiet rfl rfl rfl rfl ?_; intro K hK; go_big_quiet_op; go_big_quiet_on
      refine rg_quiet rfl rfl rfl rfl ?_; intro K hK; go_big_quiet_op; go_big_quiet_on
      refine rg_quiet rfl rfl rfl rfl ?_; intro K hK; go_big_quiet_op; go_big_quiet_on
      refine rg_quiet rfl rfl rfl rfl ?_; intro K hK; go_big_quiet_op; go_big_quiet_on
      refine rg_quiet rfl rfl rfl rfl ?_; intro K hK; go_big_quiet_op; go_big_quiet_on
      refine rg_val [] rfl rfl rfl (by kernel_rfl) (fun w1 hE hf => ?_) ?_
      · go_simp
        exact (same7_self M u u' w1 (hcu.ext hE) (hcu'.ext hE)).mono fun e w' ⟨he, hw⟩ => ⟨_, he, rg_done hE hw (rfl)⟩
      simp only [Act.put, List.setIfInBounds_toArray, List.set_cons_zero, List.set_cons_succ]
      refine rg_quiet rfl rfl rfl rfl ?_; intro K hK; go_big_quiet_op; go_big_quiet_on
      refine rel_nil fun w5 hE5 _ => ?_
      clear g0 g1 g2 g3 g4 g5 g6 g7 y0 y1 y2 y3 y4 y5 y6 y7
      go_wp2_with fail
      go_roundw
      case rel => exact ⟨k + 1, by omega, by go_num, hE.trans hE5⟩
      case measure => simp [intOf] <;> omega
    · go_wp2_with fail
      go_ret
      exact ⟨rfl, hE⟩

set_option maxRecDepth 100000 in
set_option maxHeartbeats 2000000 in
theorem same8_self (k : ByteArray) (g : Int) (v v' : Value) (ps ps' : List (Ro × Value)) (w : World) (hin : RowsIn w v ps) (hin' : RowsIn w v' ps') (he : ps.map (·.1) = ps'.map (·.1)) :
    Calls Try.prog 33 #[.agg #[.string k, .int .i64 g, v], .agg #[.string k, .int .i64 g, v']] w fun e w' => e = .returned (.bool true) ∧ Ext w w' := by
  obtain ⟨a0, a1, hE⟩ := boxes2 w (pa3 k g v) (pa3 k g v') 39 39
  have hin1 := hin.ext hE
  have hin1' := hin'.ext hE
  clear a0 a1
  go_enter Try.func33, Try.ntmps33
  go_wp2_with fail
  refine (sameRows_self v v' ps ps' _ hin1 hin1' he).mono ?_
  rintro e w1 ⟨rfl, hE1⟩
  go_wp2
  go_ret
  exact ⟨rfl, hE.trans hE1⟩
end Go.Proofs.Yteamiiekpjoclaa
