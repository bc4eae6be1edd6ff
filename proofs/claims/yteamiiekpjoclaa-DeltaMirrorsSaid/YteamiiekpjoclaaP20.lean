/- The reference's partitions: Seen. -/
import Derived.Test.YteamiiekpjoclaaP19
import Derived.Test.YteamiiekpjoclaaP3
import Derived.Lib.SliceRun
set_option linter.unusedSimpArgs false
set_option linter.unusedVariables false
namespace Go.Proofs.Yteamiiekpjoclaa
open Go Go.RowKit
attribute [local go_sem] yields yUpon ro8 pa3

set_option maxRecDepth 100000 in
set_option maxHeartbeats 8000000 in
theorem seen8_any (pk : ByteArray) (pg : Int) (pu : Value) (ps : List (Ro × Value)) (now : Int) (strict : Bool) (w : World) (hin : RowsIn w pu ps) (hlen : ps.length ≤ 1000000) (hcl : ∀ p ∈ ps, p.1.cols.length ≤ 400000) (hdc : ∀ p ∈ ps, DistN p.1.cols) :
    Calls Try.prog 39 #[.agg #[.string pk, .int .i64 pg, pu], .int .i64 now, .bool strict] w fun e w' => ∃ v', e = .returned v' ∧ ∃ qs, w'.ownsRow w.heap.size 55 8 v' qs.length (roCells qs) ∧ (∀ p ∈ qs, SafeC w w' p) ∧ qs.map (·.1) = seenRs (ps.map (·.1)) pg now strict ∧ Ext w w' := by
  have a0 := BoxAt.made w (pa3 pk pg pu) 39
  have hE := (Ext.refl w).alloc (.cells (pa3 pk pg pu) 39)
  obtain ⟨aa, ca, rfl, hca, hcma, hget⟩ := hin.get
  have c0 := a0.pa
  obtain ⟨n, hn⟩ : ∃ n, n = ps.length := ⟨_, rfl⟩
  rw [← hn] at hlen hca a0 hE c0 ⊢
  have HN := Lib.hid hn
  have HGET := Lib.hid hget
  clear hn hget
  go_enter Try.func39, Try.ntmps39
  go_wp2
  go_loopw [7, 8] (fun so i wr => ∃ (k : Nat) (out : List (Ro × Value)), k ≤ n ∧ i = .int .i64 k ∧ wr.ownsRow w.heap.size 55 8 so out.length (roCells out) ∧ Hid (∀ p ∈ out, SafeC w wr p) ∧ Ext w wr ∧ BoxAt wr w.heap.size (pa3 pk pg (.slice aa n ca)) 39 ∧ Hid (out.map (·.1) = seenRs ((ps.map (·.1)).take k) pg now strict) ∧ out.length ≤ k) (fun _ i _ => n - (intOf i).toNat)
  case atStart => exact ⟨0, [], Nat.zero_le _, rfl, World.ownsRow_nil _ _ _ _, nofun, hE, a0, rfl, by simp⟩
  case round =>
    obtain ⟨k, out, hk, rfl, hown, HS, hE1, b0, HO, hok⟩ := hrel
    have p0 := b0.pa
    by_cases hlt : k < n
    · have hkp : k < ps.length := by rw [← HN.out]; exact hlt
      have hkc := hcl _ (List.getElem_mem hkp)
      have hdk := hdc _ (List.getElem_mem hkp)
      have hcu := hin.cols _ (List.getElem_mem hkp)
      obtain ⟨b, o, rfl, hat⟩ := HGET.out k hkp
      have hsnoc : (ps.map (·.1)).take (k + 1) = (ps.map (·.1)).take k ++ [ps[k].1] := by
        rw [List.take_succ_eq_append_getElem (by simpa using hkp)]
        simp
      obtain ⟨M, hM⟩ : ∃ M, M = ps[k].1 := ⟨_, rfl⟩
      obtain ⟨au, cu, hu⟩ := hcu.shape
      rw [← hM] at hkc hcu hu hsnoc hat hdk
      rw [hu] at hcu hat
      have HSN := Lib.hid hsnoc
      clear hM hu hsnoc
      obtain ⟨m, hm⟩ : ∃ m, m = M.cols.length := ⟨_, rfl⟩
      rw [← hm] at hcu hat
      clear hm
      have hcu0 := hcu
      replace hcu := hcu.ext hE1
      replace hat := hat.ext hE1
      obtain ⟨x0, x1, x2, x3, x4, x5, x6, x7⟩ := hat
      obtain ⟨sB, hsB⟩ : ∃ sB, sB = isB M (max M.gone pg) now strict := ⟨_, rfl⟩
      have HB := Lib.hid hsB
      clear hsB
      go_wp2_with (((guard_target =~ wpList _ _ _ (Oper.mk none (Op.store _ (Operand.tmp 9) (Operand.tmp 21)) _ _ _ _ :: _) _ _); go_must (refine storeBox rfl 55 (.tmp 9) (.tmp 21) rfl (wr.heap.size) _ _ _ (by rfl) (by rfl) ((BoxAt.made wr (ro8 ⟨⟨#[]⟩, zeroCl, 0, 0, []⟩ (.slice none 0 0)) 55)) (by kernel_rfl) (by rfl) (by simp [Value.oneCell']) ?_); intro w4 c4 g4); have hX4 : Ext wr w4 := ((Ext.refl wr).alloc _).grown g4 (fun q hq => by cases hq; omega); have d4 := c4.ro (r := M) (v := .slice au m cu); have e4 := (b0.ext hX4).pa)
      refine (is7_any M (.slice au m cu) pg now strict w4 (hcu.ext hX4) hkc hdk).mono ?_
      rw [← HB.out]
      rintro e w5 ⟨rfl, hE5⟩
      have hX5 := hX4.trans hE5
      have b5 := b0.ext hX5
      have r5 : BoxAt w5 wr.heap.size (ro8 M (.slice au m cu)) 55 := c4.ext hE5
      have hown5 := ownsRow_ext hown hX5
      have hS5 : ∀ p ∈ out, SafeC w w5 p := fun p hp => (HS.out p hp).ext hX5
      have hcu5 := hcu.ext hX5
      have hW5 := hE1.trans hX5
      have hle5 := hX5.le
      clear d4 e4 c4 x0 x1 x2 x3 x4 x5 x6 x7 hX4 hE5 b0
      cases sB with
      | false =>
        go_wp2_with fail
        go_roundw
        case rel =>
          refine ⟨k + 1, out, hlt, rfl, hown5, hS5, hW5, b5, ?_, by omega⟩
          show _ = _
          rw [HSN.out, seenRs_snoc, ← HB.out, if_neg (by decide), List.append_nil]
          exact HO.out
        case measure => simp [intOf]; omega
      | true =>
        obtain ⟨S, hS⟩ : ∃ S, S = seenCos M.cols (max M.gone pg) now := ⟨_, rfl⟩
        have HSS := Lib.hid hS
        clear hS
        go_wp2_with fail
        refine wp_region_relE (SR w wr u7 out pk pg (.slice (some ⟨b, o, none⟩) n ca) M (.slice au m cu)) (ME u7 12) (Tab.atE [(2, fun v _ => v = .string M.key), (4, fun v _ => v = (.agg #[.string M.live.val, .bool M.live.dead, .int .i64 M.live.at_, .int .i64 M.live.fin])), (5, fun v _ => v = (.agg #[.string M.key, .string M.live.val, .bool M.live.dead, .int .i64 M.live.at_, .int .i64 M.live.fin, .int .i64 M.gone, .int .i64 M.shade, (.slice au m cu)])), (7, fun v _ => v = .int .i64 pg), (9, fun v x => x.ownsRow wr.heap.size 58 5 v S.length (coCells S)), (11, fun v x => ∃ b u, v = .slice (some ⟨b, 0, none⟩) 1 1 ∧ wr.heap.size ≤ b ∧ BoxAt x b (ro8 ⟨M.key, M.live, 0, 0, S⟩ u) 55 ∧ x.ownsRow wr.heap.size 58 5 u S.length (coCells S)), (12, fun v x => ∃ u, x.ownsRow w.heap.size 55 8 v (out.length + 1) (roCells (out ++ [(⟨M.key, M.live, 0, 0, S⟩, u)])) ∧ x.ownsRow wr.heap.size 58 5 u S.length (coCells S))])
          (Tab.staysE ⟨fun _ _ _ _ _ _ h => h, fun _ _ _ _ _ _ h => h, fun _ _ _ _ _ _ h => h, fun _ _ _ _ _ _ h => h, fun j _ v x y hR h => ME_own hown hR h, fun j _ v x y hR ⟨b, u, e, hb, hx, h⟩ => ⟨b, u, e, hb, ME_box hown hR hb hx, ME_own hown hR h⟩, fun j hj v x y hR ⟨u, h, h'⟩ => ⟨u, ownsRow_ext h (ME_off hj hR), ownsRow_ext h' (ME_off hj hR)⟩, trivial⟩)
          14 (by kernel_rfl) (by kernel_rfl) (by kernel_rfl) ((⟨⟨hW5, hown5, hle5, hS5⟩, b5, r5⟩ : SR w wr u7 out pk pg (.slice (some ⟨b, o, none⟩) n ca) M (.slice au m cu) w5).ext' (Ext.refl w5).drew) ?_
        refine relE_quiet rfl rfl rfl rfl ?_; intro K hK; go_big_quiet_op; (first | refine ⟨_, fun _ _ => rfl, hK _ ?_⟩ | refine hK _ ?_); clear hK K
        refine relE_quiet rfl rfl rfl rfl ?_; intro K hK; go_big_quiet_op; (first | refine ⟨_, fun _ _ => rfl, hK _ ?_⟩ | refine hK _ ?_); clear hK K
        refine relE_val [] rfl rfl rfl (by kernel_rfl) (fun z hz hf => ?_) ?_
        · obtain ⟨x0, x1, x2, x3, x4, x5, x6, x7⟩ := hz.row.ro
          go_simp
          exact ⟨hz, ME_ext (Ext.refl z), rfl⟩
        simp only [Act.put, List.setIfInBounds_toArray, List.set_cons_zero, List.set_cons_succ]
        refine relE_quiet rfl rfl rfl rfl ?_; intro K hK; go_big_quiet_op; (first | refine ⟨_, fun _ _ => rfl, hK _ ?_⟩ | refine hK _ ?_); clear hK K
        refine relE_val [] rfl rfl rfl (by kernel_rfl) (fun z hz hf => ?_) ?_
        · obtain ⟨x0, x1, x2, x3, x4, x5, x6, x7⟩ := hz.row.ro
          go_simp
          exact ⟨hz, ME_ext (Ext.refl z), rfl⟩
        simp only [Act.put, List.setIfInBounds_toArray, List.set_cons_zero, List.set_cons_succ]
        refine relE_val [] rfl rfl rfl (by kernel_rfl) (fun z hz hf => ?_) ?_
        · obtain ⟨x0, x1, x2, x3, x4, x5, x6, x7⟩ := hz.row.ro
          go_simp
          exact ⟨hz, ME_ext (Ext.refl z), rfl⟩
        simp only [Act.put, List.setIfInBounds_toArray, List.set_cons_zero, List.set_cons_succ]
        refine relE_quiet rfl rfl rfl rfl ?_; intro K hK; go_big_quiet_op; (first | refine ⟨_, fun _ _ => rfl, hK _ ?_⟩ | refine hK _ ?_); clear hK K
        refine relE_val [] rfl rfl rfl (by kernel_rfl) (fun z hz hf => ?_) ?_
        · obtain ⟨x0, x1, x2⟩ := hz.part.pa
          go_simp
          exact ⟨hz, ME_ext (Ext.refl z), rfl⟩
        simp only [Act.put, List.setIfInBounds_toArray, List.set_cons_zero, List.set_cons_succ]
        refine relE_quiet rfl rfl rfl rfl ?_; intro K hK; go_big_quiet_op; (first | refine ⟨_, fun _ _ => rfl, hK _ ?_⟩ | refine hK _ ?_); clear hK K
        refine relE_fact [] rfl rfl rfl (by kernel_rfl) (fun z hz hf => ?_) (fun v8 z8 hC8 hG8 h8 => ?_)
        · go_simp
          refine (seen7_any M (.slice au m cu) pg now z (hcu0.ext hz.mr.ext) hkc hdk).mono ?_
          rintro e y ⟨v', he, hown', hy⟩
          rw [← HSS.out] at hown'
          exact ⟨_, he, hz.ext' hy, ME_ext hy, ownsRow_base hown' (Nat.le_trans hz.mr.size (Nat.le_succ _))⟩
        obtain ⟨a8, cc8, rfl⟩ := own_shape h8
        clear hC8 hG8 h8
        simp only [Act.put, List.setIfInBounds_toArray, List.set_cons_zero, List.set_cons_succ]
        refine relE_quiet rfl rfl rfl rfl ?_; intro K hK; go_big_quiet_op; (first | refine ⟨_, fun _ _ => rfl, hK _ ?_⟩ | refine hK _ ?_); clear hK K
        refine relE_fact [9] rfl rfl rfl (by kernel_rfl) (fun z hz hf => ?_) (fun v4 z4 hC4 hG4 h4 => ?_)
        · have hu := (hf 9 (by simp)).2 rfl
          go_simp
          exact ⟨hz.ext' ((Ext.refl z).alloc _), ME_ext ((Ext.refl z).alloc _), _, rfl, hz.mr.size, _, BoxAt.made z _ _, ownsRow_ext hu ((Ext.refl z).alloc _)⟩
        obtain ⟨b4, u4, rfl, hb4, _, _⟩ := h4
        clear hC4 hG4 hb4
        simp only [Act.put, List.setIfInBounds_toArray, List.set_cons_zero, List.set_cons_succ]
        refine relE_fact [11] rfl rfl rfl (by kernel_rfl) (fun z hz hf => ?_) (fun v5 z5 hC5 hG5 h5 => ?_)
        · obtain ⟨bb, u, e, _, hbox, hu⟩ := (hf 11 (by simp)).2 rfl
          cases e
          obtain ⟨au, cu, rfl⟩ := own_shape hu
          refine yields_append info_Row und_Rows rfl (by decide) (.tmp 28) (.tmp 39) rfl w.heap.size hz.mr.ext.le u7 out.length (roCells out) hz.mr.own (by rfl) b4 1 1 (ro8 ⟨M.key, M.live, 0, 0, S⟩ (.slice au S.length cu)).toList (by rfl) (by rfl) (fun j u hj => by rw [hbox.cell j]; simpa using hj) (by simp [ro8, Value.oneCell']) (by unfold maxLen; omega) (by omega) ?_
          intro v' y hown' hg hkeep
          refine ⟨⟨⟨hz.mr.ext.grown hg (fun q hq => (hz.mr.own.lt q hq).1), hkeep, Nat.le_trans hz.mr.size hg.size, fun p hp => (hz.mr.safe p hp).grown hz.mr.own hg⟩, ?_, ?_⟩, by unfold ME; rw [if_pos rfl]; exact hg, _, ?_, hu.kept hg (own_ne_own hu hz.mr.own (by decide))⟩
          · refine hz.part.grown hg (fun e => ?_)
            rcases own_ne_box hz.mr.own hz.part (by decide) with h | h
            · rw [h] at e; cases e
            · exact h e.symm
          · exact hz.row.grown hg (fun e => by have := (hown.lt _ e.symm).2; omega)
          · rw [roCells_append]
            exact hown'
        obtain ⟨u5, h5, _⟩ := h5
        obtain ⟨a5, c5, rfl⟩ := own_shape h5
        clear hC5 hG5 h5
        simp only [Act.put, List.setIfInBounds_toArray, List.set_cons_zero, List.set_cons_succ]
        refine relE_quiet rfl rfl rfl rfl ?_; intro K hK; go_big_quiet_op; (first | refine ⟨_, fun _ _ => rfl, hK _ ?_⟩ | refine hK _ ?_); clear hK K
        refine relE_nil fun w9 hC hG => ?_
        obtain ⟨u9, hown9, hu9'⟩ := (hG 12).2 rfl
        have hu9 := ownsRow_base hu9' hE1.le
        have hE9 := hC.mr.ext
        have hs9 := hC.mr.safe
        have b9 := hC.part
        clear hC hG hown hown5 hS5 b5 r5
        go_wp2_with fail
        go_roundw
        case rel =>
          refine ⟨k + 1, out ++ [(⟨M.key, M.live, 0, 0, S⟩, u9)], hlt, rfl, by rw [List.length_append]; exact hown9, fun p hp => ?_, hE9, b9, ?_, by simp; omega⟩
          · rcases List.mem_append.1 hp with h | h
            · exact hs9 p h
            · rw [List.mem_singleton.1 h]; exact .inr hu9
          · show _ = _
            rw [HSN.out, seenRs_snoc, ← HB.out, if_pos rfl, List.map_append, HO.out, HSS.out]
            rfl
        case measure => simp [intOf]; omega
    · go_wp2_with fail
      obtain rfl : k = n := by omega
      go_ret
      refine ⟨_, rfl, out, hown, fun p v hp => HS.out (p, v) hp, ?_, hE1⟩
      rw [HO.out, List.take_of_length_le (by simp; rw [← HN.out]; exact Nat.le_refl _)]
end Go.Proofs.Yteamiiekpjoclaa

/- slices.Clone of columns. -/
namespace Go.Proofs.Yteamiiekpjoclaa
open Go Go.RowKit
attribute [local go_sem] yields yUpon ro8 pa3 cl4

set_option maxRecDepth 100000 in
set_option maxHeartbeats 2000000 in
theorem clone_any (v : Value) (l : List Co) (w : World) (hin : ColsIn w v l) (hl : l.length ≤ 1000000) :
    Calls Try.prog 61 #[v] w fun e w' => ∃ v', e = .returned v' ∧ w'.ownsRow w.heap.size 58 5 v' l.length (coCells l) ∧ Ext w w' := by
  have hin0 := hin
  obtain ⟨a, c, rfl, hc, hcm, ha, _⟩ := hin
  have he := Lib.run_eql_slice_nil (P := Try.prog) w 53 58 a l.length c 0 0 und_Cols
  cases a with
  | none =>
    have hc0 := ha rfl
    obtain rfl : l = [] := List.eq_nil_of_length_eq_zero (by omega)
    subst hc0
    clear ha
    go_enter Try.func61, Try.ntmps61
    go_wp2_with fail
    simp only [List.length_nil] at he
    rw [he]
    simp only [Result.andThen]
    rw [Oper.upon_value]
    go_wp2_with fail
    go_ret
    exact ⟨_, rfl, World.ownsRow_nil _ _ _ _, Ext.refl w⟩
  | some ad =>
    have hX := (Ext.refl w).alloc (.cells #[] 58)
    have hm : (w.alloc (.cells #[] 58)).ownsRow w.heap.size 58 5 (.slice (some ⟨w.heap.size, 0, none⟩) 0 0) ([] : List Co).length (coCells []) := World.ownsRow_made w #[] 0 (Nat.le_refl _) (Nat.zero_le _) rfl
    clear ha
    go_enter Try.func61, Try.ntmps61
    go_wp2_with (at_builtin; go_must (refine appCols (w.alloc (.cells #[] 58)) rfl (.tmp 5) (.tmp 6) rfl w.heap.size hX.le _ [] hm (by rfl) _ l (hin0.ext hX) (by rfl) (by simp; omega) ?_); intro v3 w3 hown3 hg3)
    go_ret
    exact ⟨_, rfl, hown3, hX.grown hg3 (fun q hq => (hm.lt q hq).1)⟩

end Go.Proofs.Yteamiiekpjoclaa

/- part.Row. -/
namespace Go.Proofs.Yteamiiekpjoclaa
open Go Go.RowKit
attribute [local go_sem] yields yUpon ro8 pa3

/-- A partition's row. -/
def rowOf : List Ro → ByteArray → Ro
  | [], key => ⟨key, zeroCl, 0, 0, []⟩
  | r :: l, key => if r.key.toList == key.toList then r else rowOf l key
def hasRow : List Ro → ByteArray → Bool
  | [], _ => false
  | r :: l, key => if r.key.toList == key.toList then true else hasRow l key

set_option maxRecDepth 100000 in
set_option maxHeartbeats 4000000 in
theorem prow_typed (pk : ByteArray) (pg : Int) (pu : Value) (ps : List (Ro × Value)) (key : ByteArray) (w : World) (hin : RowsIn w pu ps) (hcl : ∀ p ∈ ps, p.1.cols.length ≤ 1000000) :
    Calls Try.prog 24 #[.agg #[.string pk, .int .i64 pg, pu], .string key] w fun e w' => ∃ v', e = .returned (.tuple #[(.agg #[.string (rowOf (ps.map (·.1)) key).key, .string (rowOf (ps.map (·.1)) key).live.val, .bool (rowOf (ps.map (·.1)) key).live.dead, .int .i64 (rowOf (ps.map (·.1)) key).live.at_, .int .i64 (rowOf (ps.map (·.1)) key).live.fin, .int .i64 (rowOf (ps.map (·.1)) key).gone, .int .i64 (rowOf (ps.map (·.1)) key).shade, v']), .bool (hasRow (ps.map (·.1)) key)]) ∧ ColsT w' v' (rowOf (ps.map (·.1)) key).cols ∧ Ext w w' := by
  obtain ⟨a0, a1, hE⟩ := boxes2 w (pa3 pk pg pu) (ro8 ⟨⟨#[]⟩, zeroCl, 0, 0, []⟩ (.slice none 0 0)) 39 55
  obtain ⟨aa, ca, rfl, hca, hcma, hget⟩ := hin.get
  obtain ⟨n, hn⟩ : ∃ n, n = ps.length := ⟨_, rfl⟩
  rw [← hn] at hca a0 a1 hE ⊢
  have HN := Lib.hid hn
  have HGET := Lib.hid hget
  have HC := Lib.hid hin.cols
  have HCL := Lib.hid hcl
  obtain ⟨R, hR⟩ : ∃ R, R = rowOf (ps.map (·.1)) key := ⟨_, rfl⟩
  obtain ⟨B, hB⟩ : ∃ B, B = hasRow (ps.map (·.1)) key := ⟨_, rfl⟩
  rw [← hR, ← hB]
  have HR := Lib.hid hR
  have HB := Lib.hid hB
  clear hn hget hin hcl hR hB
  go_enter Try.func24, Try.ntmps24
  go_wp2
  go_loopw [11] (fun i wr => ∃ k : Nat, k ≤ n ∧ i = .int .i64 k ∧ BoxAt wr (w.heap.size + 1) (ro8 ⟨⟨#[]⟩, zeroCl, 0, 0, []⟩ (.slice none 0 0)) 55 ∧ Ext w wr ∧ Hid (R = rowOf ((ps.map (·.1)).drop k) key) ∧ Hid (B = hasRow ((ps.map (·.1)).drop k) key)) (fun i _ => n - (intOf i).toNat)
  case atStart => exact ⟨0, Nat.zero_le _, rfl, a1, hE, HR.out, HB.out⟩
  case round =>
    obtain ⟨k, hk, rfl, b1, hE1, HRk, HBk⟩ := hrel
    clear a0 a1
    by_cases hlt : k < n
    · have hkp : k < ps.length := by rw [← HN.out]; exact hlt
      have hkc := HCL.out _ (List.getElem_mem hkp)
      have hcu := HC.out _ (List.getElem_mem hkp)
      obtain ⟨b, o, rfl, hat⟩ := HGET.out k hkp
      have hdrop : (ps.map (·.1)).drop k = ps[k].1 :: (ps.map (·.1)).drop (k + 1) := by
        rw [List.drop_eq_getElem_cons (by simpa using hkp)]
        simp
      obtain ⟨M, hM⟩ : ∃ M, M = ps[k].1 := ⟨_, rfl⟩
      obtain ⟨au, cu, hu⟩ := hcu.shape
      rw [← hM] at hkc hcu hu hdrop hat
      rw [hu] at hcu hat
      have HDR := Lib.hid hdrop
      clear hM hu hdrop
      obtain ⟨L, hL⟩ : ∃ L, L = M.cols := ⟨_, rfl⟩
      rw [← hL] at hcu hat hkc
      have HL := Lib.hid hL
      clear hL
      obtain ⟨m, hm⟩ : ∃ m, m = L.length := ⟨_, rfl⟩
      rw [← hm] at hcu hat
      clear hm
      replace hat := hat.ext hE1
      replace hcu := hcu.ext hE1
      obtain ⟨x0, x1, x2, x3, x4, x5, x6, x7⟩ := hat
      have hsz1 := b1.lt
      cases hkey : (M.key.toList == key.toList)
      · go_wp2_with (((guard_target =~ wpList _ _ _ (Oper.mk none (Op.store _ (Operand.tmp 7) (Operand.tmp 14)) _ _ _ _ :: _) _ _); go_must (refine storeBox rfl 55 (.tmp 7) (.tmp 14) rfl (wr.heap.size) _ _ _ (by rfl) (by rfl) ((BoxAt.made wr (ro8 ⟨⟨#[]⟩, zeroCl, 0, 0, []⟩ (.slice none 0 0)) 55)) (by kernel_rfl) (by rfl) (by simp [Value.oneCell']) ?_); intro w4 c4 g4); have hX4 : Ext wr w4 := ((Ext.refl wr).alloc _).grown g4 (fun q hq => by cases hq; omega); have d4 := c4.ro (r := ⟨M.key, M.live, M.gone, M.shade, []⟩) (v := .slice au m cu))
        go_roundw
        case rel =>
          refine ⟨k + 1, hlt, rfl, b1.ext hX4, hE1.trans hX4, ?_, ?_⟩
          · show _ = _
            rw [HRk.out, HDR.out, rowOf, if_neg (by rw [hkey]; decide)]
          · show _ = _
            rw [HBk.out, HDR.out, hasRow, if_neg (by rw [hkey]; decide)]
        case measure => simp [intOf]; omega
      · have hR : R = M := by rw [HRk.out, HDR.out, rowOf, if_pos hkey]
        have hB : B = true := by rw [HBk.out, HDR.out, hasRow, if_pos hkey]
        rw [hR, hB]
        go_wp2_with (((guard_target =~ wpList _ _ _ (Oper.mk none (Op.store _ (Operand.tmp 7) (Operand.tmp 14)) _ _ _ _ :: _) _ _); go_must (refine storeBox rfl 55 (.tmp 7) (.tmp 14) rfl (wr.heap.size) _ _ _ (by rfl) (by rfl) ((BoxAt.made wr (ro8 ⟨⟨#[]⟩, zeroCl, 0, 0, []⟩ (.slice none 0 0)) 55)) (by kernel_rfl) (by rfl) (by simp [Value.oneCell']) ?_); intro w4 c4 g4); have hX4 : Ext wr w4 := ((Ext.refl wr).alloc _).grown g4 (fun q hq => by cases hq; omega); have d4 := c4.ro (r := ⟨M.key, M.live, M.gone, M.shade, []⟩) (v := .slice au m cu))
        refine (clone_any _ L w4 (hcu.ext hX4) hkc).mono ?_
        rintro e w5 ⟨v5, rfl, hown5, hE5⟩
        obtain ⟨a5, c5', rfl⟩ := own_shape hown5
        have b5 := b1.ext (hX4.trans hE5)
        have r5 : BoxAt w5 wr.heap.size (ro8 ⟨M.key, M.live, M.gone, M.shade, []⟩ (.slice au m cu)) 55 := c4.ext hE5
        have d5 := r5.ro
        have f5 := r5.free 7
        have hX5 := hE1.trans (hX4.trans hE5)
        clear d4 c4 x0 x1 x2 x3 x4 x5 x6 x7
        go_wp2_with (((guard_target =~ wpList _ _ _ (Oper.mk none (Op.store _ (Operand.tmp 4) (Operand.tmp 23)) _ _ _ _ :: _) _ _); go_must (refine storeBox rfl 55 (.tmp 4) (.tmp 23) rfl (w.heap.size + 1) _ _ _ (by rfl) (by rfl) ((b5.other (by omega) _ _)) (by kernel_rfl) (by rfl) (by simp [Value.oneCell']) ?_); intro w6 c6 g6))
        have hownS := own_setCell (u := .slice a5 L.length c5') (i := 7) hown5 (own_ne_box hown5 r5 (by decide))
        have b5s := b5.other (show w.heap.size + 1 ≠ wr.heap.size by omega) 7 (.slice a5 L.length c5')
        have hown6 := hownS.kept g6 (own_ne_box hownS b5s (by decide))
        have hX6 := (hX5.setCell (p := ⟨wr.heap.size, 7, none⟩) (by show w.heap.size ≤ wr.heap.size; omega) (.slice a5 L.length c5')).grown g6 (fun q hq => by cases hq; omega)
        obtain ⟨z0, z1, z2, z3, z4, z5, z6, z7⟩ := c6.ro (r := ⟨M.key, M.live, M.gone, M.shade, []⟩) (v := .slice a5 L.length c5')
        refine bodyPost_ret (v := .tuple #[.agg #[.string M.key, .string M.live.val, .bool M.live.dead, .int .i64 M.live.at_, .int .i64 M.live.fin, .int .i64 M.gone, .int .i64 M.shade, .slice a5 L.length c5'], .bool true]) ?_ rfl ⟨_, by rw [hR, hB], ?_, hX6⟩
        · simp [results, Try.results24, go_sem, z0, z1, z2, z3, z4, z5, z6, z7]
        · rw [hR, ← HL.out]
          exact TIn.own hown6
    · have hR : R = ⟨key, zeroCl, 0, 0, []⟩ := by rw [HRk.out, List.drop_eq_nil_of_le (by simp; rw [← HN.out]; omega)]; rfl
      have hB : B = false := by rw [HBk.out, List.drop_eq_nil_of_le (by simp; rw [← HN.out]; omega)]; rfl
      go_wp2_with (((guard_target =~ wpList _ _ _ (Oper.mk none (Op.store _ (Operand.tmp 4) (Operand.tmp 26)) _ _ _ _ :: _) _ _); go_must (refine storeBox rfl 55 (.tmp 4) (.tmp 26) rfl (w.heap.size + 1) _ _ _ (by rfl) (by rfl) (b1) (by kernel_rfl) (by rfl) (by simp [Value.oneCell']) ?_); intro w6 c6 g6))
      obtain ⟨z0, z1, z2, z3, z4, z5, z6, z7⟩ := c6.ro (r := ⟨key, zeroCl, 0, 0, []⟩) (v := .slice none 0 0)
      refine bodyPost_ret (v := .tuple #[.agg #[.string key, .string ⟨#[]⟩, .bool false, .int .i64 0, .int .i64 0, .int .i64 0, .int .i64 0, .slice none 0 0], .bool false]) ?_ rfl ⟨_, by rw [hR, hB]; rfl, ?_, hE1.grown g6 (fun q hq => by cases hq; omega)⟩
      · simp [results, Try.results24, go_sem, z0, z1, z2, z3, z4, z5, z6, z7, zeroCl]
      · rw [hR]
        exact ColsT.nil _
theorem prow_any (pk : ByteArray) (pg : Int) (pu : Value) (ps : List (Ro × Value)) (key : ByteArray) (w : World) (hin : RowsIn w pu ps) (hcl : ∀ p ∈ ps, p.1.cols.length ≤ 1000000) :
    Calls Try.prog 24 #[.agg #[.string pk, .int .i64 pg, pu], .string key] w fun e w' => ∃ v', e = .returned (.tuple #[(.agg #[.string (rowOf (ps.map (·.1)) key).key, .string (rowOf (ps.map (·.1)) key).live.val, .bool (rowOf (ps.map (·.1)) key).live.dead, .int .i64 (rowOf (ps.map (·.1)) key).live.at_, .int .i64 (rowOf (ps.map (·.1)) key).live.fin, .int .i64 (rowOf (ps.map (·.1)) key).gone, .int .i64 (rowOf (ps.map (·.1)) key).shade, v']), .bool (hasRow (ps.map (·.1)) key)]) ∧ ColsIn w' v' (rowOf (ps.map (·.1)) key).cols ∧ Ext w w' :=
  (prow_typed pk pg pu ps key w hin hcl).mono fun _ _ ⟨v', h1, h2, h3⟩ => ⟨v', h1, h2.cols, h3⟩
end Go.Proofs.Yteamiiekpjoclaa
