/- clerestoryref08.Row. -/
import Derived.Test.YteamiiekpjoclaaDoorP8
import Derived.Test.YteamiiekpjoclaaDoorP6
set_option linter.unusedSimpArgs false
set_option linter.unusedVariables false
namespace Go.Proofs.YteamiiekpjoclaaDoor
open Go Go.RowKit
attribute [local go_sem] yields yUpon ro8 pa3

set_option maxRecDepth 100000 in
set_option maxHeartbeats 4000000 in
theorem row8_any (pk : ByteArray) (pg : Int) (pu : Value) (ps : List (Ro × Value)) (key : ByteArray) (w : World) (hin : RowsIn w pu ps) :
    Calls Tryd.prog 45 #[.agg #[.string pk, .int .i64 pg, pu], .string key] w fun e w' => ∃ v', e = .returned (.tuple #[(.agg #[.string (rowOf (ps.map (·.1)) key).key, .string (rowOf (ps.map (·.1)) key).live.val, .bool (rowOf (ps.map (·.1)) key).live.dead, .int .i64 (rowOf (ps.map (·.1)) key).live.at_, .int .i64 (rowOf (ps.map (·.1)) key).live.fin, .int .i64 (rowOf (ps.map (·.1)) key).gone, .int .i64 (rowOf (ps.map (·.1)) key).shade, v']), .bool (hasRow (ps.map (·.1)) key)]) ∧ ColsIn w' v' (rowOf (ps.map (·.1)) key).cols ∧ Ext w w' := by
  obtain ⟨a0, a1, hE⟩ := boxes2 w (pa3 pk pg pu) (ro8 ⟨⟨#[]⟩, zeroCl, 0, 0, []⟩ (.slice none 0 0)) 35 26
  obtain ⟨aa, ca, rfl, hca, hcma, hget⟩ := hin.get
  obtain ⟨n, hn⟩ : ∃ n, n = ps.length := ⟨_, rfl⟩
  rw [← hn] at hca a0 a1 hE ⊢
  have HN := Lib.hid hn
  have HGET := Lib.hid hget
  have HC := Lib.hid hin.cols
  obtain ⟨R, hR⟩ : ∃ R, R = rowOf (ps.map (·.1)) key := ⟨_, rfl⟩
  obtain ⟨B, hB⟩ : ∃ B, B = hasRow (ps.map (·.1)) key := ⟨_, rfl⟩
  rw [← hR, ← hB]
  have HR := Lib.hid hR
  have HB := Lib.hid hB
  clear hn hget hin hR hB
  go_enter Tryd.func45, Tryd.ntmps45
  go_wp2_with fail
  go_loopw [6] (fun i wr => ∃ k : Nat, k ≤ n ∧ i = .int .i64 k ∧ BoxAt wr w.heap.size (pa3 pk pg (.slice aa n ca)) 35 ∧ BoxAt wr (w.heap.size + 1) (ro8 ⟨⟨#[]⟩, zeroCl, 0, 0, []⟩ (.slice none 0 0)) 26 ∧ Ext w wr ∧ Hid (R = rowOf ((ps.map (·.1)).drop k) key) ∧ Hid (B = hasRow ((ps.map (·.1)).drop k) key)) (fun i _ => n - (intOf i).toNat)
  case atStart => exact ⟨0, Nat.zero_le _, rfl, a0, a1, hE, HR.out, HB.out⟩
  case round =>
    obtain ⟨k, hk, rfl, b0, b1, hE1, HRk, HBk⟩ := hrel
    clear a0 a1
    obtain ⟨y0, y1, y2⟩ := b0.pa
    by_cases hlt : k < n
    · have hkp : k < ps.length := by rw [← HN.out]; exact hlt
      have hcu := HC.out _ (List.getElem_mem hkp)
      obtain ⟨b, o, rfl, hat⟩ := HGET.out k hkp
      have hdrop : (ps.map (·.1)).drop k = ps[k].1 :: (ps.map (·.1)).drop (k + 1) := by
        rw [List.drop_eq_getElem_cons (by simpa using hkp)]
        simp
      obtain ⟨M, hM⟩ : ∃ M, M = ps[k].1 := ⟨_, rfl⟩
      obtain ⟨au, cu, hu⟩ := hcu.shape
      rw [← hM] at hcu hu hdrop hat
      rw [hu] at hcu hat
      have HDR := Lib.hid hdrop
      clear hM hu hdrop
      obtain ⟨L, hL⟩ : ∃ L, L = M.cols := ⟨_, rfl⟩
      rw [← hL] at hcu hat
      have HL := Lib.hid hL
      clear hL
      obtain ⟨m, hm⟩ : ∃ m, m = L.length := ⟨_, rfl⟩
      rw [← hm] at hcu hat
      clear hm
      have hcw := hcu
      replace hat := hat.ext hE1
      clear hcu
      obtain ⟨x0, x1, x2, x3, x4, x5, x6, x7⟩ := hat
      have hki : decide ((k : Int) < (n : Int)) = true := by simpa using hlt
      cases hkey : (M.key.toList == key.toList)
      · go_wp2_with fail
        go_roundw
        case rel =>
          refine ⟨k + 1, hlt, rfl, b0, b1, hE1, ?_, ?_⟩
          · show _ = _
            rw [HRk.out, HDR.out, rowOf, if_neg (by rw [hkey]; decide)]
          · show _ = _
            rw [HBk.out, HDR.out, hasRow, if_neg (by rw [hkey]; decide)]
        case measure => simp [intOf]; omega
      · have hR : R = M := by rw [HRk.out, HDR.out, rowOf, if_pos hkey]
        have hB : B = true := by rw [HBk.out, HDR.out, hasRow, if_pos hkey]
        rw [hR, hB]
        go_wp2_with (((guard_target =~ wpList _ _ _ (Oper.mk none (Op.store _ (Operand.tmp 4) (Operand.tmp 26)) _ _ _ _ :: _) _ _); go_must (refine storeBox rfl 26 (.tmp 4) (.tmp 26) rfl (w.heap.size + 1) _ _ _ (by rfl) (by rfl) (b1) (by kernel_rfl) (by rfl) (by simp [Value.oneCell']) ?_); intro w6 c6 g6))
        have hX6 := hE1.grown g6 (fun q hq => by cases hq; omega)
        obtain ⟨z0, z1, z2, z3, z4, z5, z6, z7⟩ := c6.ro (r := ⟨M.key, M.live, M.gone, M.shade, []⟩) (v := .slice au m cu)
        refine bodyPost_ret (v := .tuple #[.agg #[.string M.key, .string M.live.val, .bool M.live.dead, .int .i64 M.live.at_, .int .i64 M.live.fin, .int .i64 M.gone, .int .i64 M.shade, .slice au m cu], .bool true]) ?_ rfl ⟨_, rfl, ?_, hX6⟩
        · simp [results, Tryd.results45, go_sem, z0, z1, z2, z3, z4, z5, z6, z7]
        · rw [← HL.out]
          exact hcw.ext hX6
    · have hR : R = ⟨key, zeroCl, 0, 0, []⟩ := by rw [HRk.out, List.drop_eq_nil_of_le (by simp; rw [← HN.out]; omega)]; rfl
      have hB : B = false := by rw [HBk.out, List.drop_eq_nil_of_le (by simp; rw [← HN.out]; omega)]; rfl
      go_wp2_with (((guard_target =~ wpList _ _ _ (Oper.mk none (Op.store _ (Operand.tmp 4) (Operand.tmp 28)) _ _ _ _ :: _) _ _); go_must (refine storeBox rfl 26 (.tmp 4) (.tmp 28) rfl (w.heap.size + 1) _ _ _ (by rfl) (by rfl) (b1) (by kernel_rfl) (by rfl) (by simp [Value.oneCell']) ?_); intro w6 c6 g6))
      obtain ⟨z0, z1, z2, z3, z4, z5, z6, z7⟩ := c6.ro (r := ⟨key, zeroCl, 0, 0, []⟩) (v := .slice none 0 0)
      refine bodyPost_ret (v := .tuple #[.agg #[.string key, .string ⟨#[]⟩, .bool false, .int .i64 0, .int .i64 0, .int .i64 0, .int .i64 0, .slice none 0 0], .bool false]) ?_ rfl ⟨_, by rw [hR, hB]; rfl, ?_, hE1.grown g6 (fun q hq => by cases hq; omega)⟩
      · simp [results, Tryd.results45, go_sem, z0, z1, z2, z3, z4, z5, z6, z7, zeroCl]
      · rw [hR]
        exact ColsIn.nil _
end Go.Proofs.YteamiiekpjoclaaDoor

/- part.Stamp. -/
namespace Go.Proofs.YteamiiekpjoclaaDoor
open Go Go.RowKit

theorem run_max4 {P : Program} (T : Array TypeId) (ty : TypeId) (k : IntKind) (a b c d : Int) (w : World) :
    (Builtin.max_ T ty #[.int k a, .int k b, .int k c, .int k d]).run P w = .ok (.int k (max (max (max a b) c) d)) w := by
  have h : ∀ x y : Int, (if y > x then y else x) = max x y := fun x y => by split <;> omega
  simp [Builtin.max_, Builtin.max2, h]
attribute [local go_sem] yields yUpon ro8 pa3 co5 run_max4

/-- The greatest stamp. -/
def stampCos (n : Int) (l : List Co) : Int := l.foldl (fun n c => max n c.cell.at_) n
def stampRo (n : Int) (r : Ro) : Int := stampCos (max n (max r.live.at_ (max r.gone r.shade))) r.cols
def stampRs (n : Int) (l : List Ro) : Int := l.foldl stampRo n
theorem stampCos_snoc (n : Int) (l : List Co) (c : Co) : stampCos n (l ++ [c]) = max (stampCos n l) c.cell.at_ := by unfold stampCos; rw [List.foldl_append]; rfl
theorem stampRs_snoc (n : Int) (l : List Ro) (r : Ro) : stampRs n (l ++ [r]) = stampRo (stampRs n l) r := by unfold stampRs; rw [List.foldl_append]; rfl
theorem le_stampCos (n : Int) (l : List Co) : n ≤ stampCos n l := by
  induction l generalizing n with
  | nil => exact Int.le_refl _
  | cons c l ih => exact Int.le_trans (Int.le_max_left _ _) (ih _)
theorem le_stampRs (n : Int) (l : List Ro) : n ≤ stampRs n l := by
  induction l generalizing n with
  | nil => exact Int.le_refl _
  | cons r l ih =>
    refine Int.le_trans ?_ (ih _)
    refine Int.le_trans ?_ (le_stampCos _ _)
    omega

set_option maxRecDepth 100000 in
set_option maxHeartbeats 8000000 in
theorem pstamp_any (pk : ByteArray) (pg : Int) (pu : Value) (ps : List (Ro × Value)) (w : World) (hin : RowsIn w pu ps) :
    Calls Tryd.prog 49 #[.agg #[.string pk, .int .i64 pg, pu]] w fun e w' => e = .returned (.int .i64 (stampRs pg (ps.map (·.1)))) ∧ Ext w w' := by
  have a0 := BoxAt.made w (pa3 pk pg pu) 35
  have hE := (Ext.refl w).alloc (.cells (pa3 pk pg pu) 35)
  obtain ⟨aa, ca, rfl, hca, hcma, hget⟩ := hin.get
  have c0 := a0.pa
  obtain ⟨n, hn⟩ : ∃ n, n = ps.length := ⟨_, rfl⟩
  rw [← hn] at hca a0 hE c0 ⊢
  have HN := Lib.hid hn
  have HGET := Lib.hid hget
  have HC := Lib.hid hin.cols
  obtain ⟨Z, hZ⟩ : ∃ Z, Z = stampRs pg (ps.map (·.1)) := ⟨_, rfl⟩
  rw [← hZ]
  have HZ := Lib.hid hZ
  clear hn hget hin hZ
  go_enter Tryd.func49, Tryd.ntmps49
  go_wp2
  go_loopw [3, 13] (fun so i wr => ∃ (k : Nat) (s : Int), k ≤ n ∧ i = .int .i64 k ∧ so = .int .i64 s ∧ Ext w wr ∧ Hid (s = stampRs pg ((ps.map (·.1)).take k))) (fun _ i _ => n - (intOf i).toNat)
  case atStart => exact ⟨0, pg, Nat.zero_le _, rfl, rfl, hE, rfl⟩
  case round =>
    obtain ⟨k, s, hk, rfl, rfl, hE1, HS⟩ := hrel
    by_cases hlt : k < n
    · have hkp : k < ps.length := by rw [← HN.out]; exact hlt
      have hcu := HC.out _ (List.getElem_mem hkp)
      obtain ⟨b, o, rfl, hat⟩ := HGET.out k hkp
      have hsnoc : (ps.map (·.1)).take (k + 1) = (ps.map (·.1)).take k ++ [ps[k].1] := by
        rw [List.take_succ_eq_append_getElem (by simpa using hkp)]
        simp
      obtain ⟨M, hM⟩ : ∃ M, M = ps[k].1 := ⟨_, rfl⟩
      obtain ⟨au, cu, hu, hcu1, hcu2, hcget⟩ := hcu.get
      rw [← hM] at hcu hu hsnoc hat
      rw [hu] at hcu hat
      have HSN := Lib.hid hsnoc
      obtain ⟨L, hL⟩ : ∃ L, L = M.cols := ⟨_, rfl⟩
      have hcg : ∀ j (hj : j < L.length), ∃ b o, au = some ⟨b, o, none⟩ ∧ CoAt w b (o + j * 5) L[j] := by
        subst hL
        subst hM
        exact hcget
      rw [← hL] at hat
      have HL := Lib.hid hL
      have hmc : L.length ≤ cu := by
        subst hL
        subst hM
        exact hcu1
      have HCG := Lib.hid hcg
      clear hM hu hsnoc hcget hcu hcg hL
      obtain ⟨m, hm⟩ : ∃ m, m = L.length := ⟨_, rfl⟩
      rw [← hm] at hat hmc
      have Hm := Lib.hid hm
      clear hm
      replace hat := hat.ext hE1
      obtain ⟨x0, x1, x2, x3, x4, x5, x6, x7⟩ := hat
      obtain ⟨wo, rfl⟩ : ∃ w', w' = wr := ⟨_, rfl⟩
      go_wp2_with (((guard_target =~ wpList _ _ _ (Oper.mk none (Op.store _ (Operand.tmp 5) (Operand.tmp 16)) _ _ _ _ :: _) _ _); go_must (refine storeBox rfl 26 (.tmp 5) (.tmp 16) rfl (wo.heap.size) _ _ _ (by rfl) (by rfl) ((BoxAt.made wo (ro8 ⟨⟨#[]⟩, zeroCl, 0, 0, []⟩ (.slice none 0 0)) 26)) (by kernel_rfl) (by rfl) (by simp [Value.oneCell']) ?_); intro w4 c4 g4); have hX4 : Ext wo w4 := ((Ext.refl wo).alloc _).grown g4 (fun q hq => by cases hq; omega); have d4 := c4.ro (r := ⟨M.key, M.live, M.gone, M.shade, []⟩) (v := .slice au m cu))
      have hW4 := hE1.trans hX4
      obtain ⟨t0, ht0⟩ : ∃ t0, t0 = max s (max M.live.at_ (max M.gone M.shade)) := ⟨_, rfl⟩
      have HT := Lib.hid ht0
      rw [← ht0]
      clear ht0 c4 g4 d4 x0 x1 x2 x3 x4 x5 x6 x7
      go_loopw [3, 29] (fun so i wr => ∃ (j : Nat) (t : Int), j ≤ m ∧ i = .int .i64 j ∧ so = .int .i64 t ∧ Ext w wr ∧ Hid (t = stampCos t0 (L.take j))) (fun _ i _ => m - (intOf i).toNat)
      case atStart => exact ⟨0, t0, Nat.zero_le _, rfl, rfl, hW4, rfl⟩
      case round =>
        obtain ⟨j, t, hj, rfl, rfl, hE2, HJ⟩ := hrel
        by_cases hlj : j < m
        · have hjl : j < L.length := by rw [← Hm.out]; exact hlj
          obtain ⟨b', o', rfl, hco⟩ := HCG.out j hjl
          obtain ⟨C, hC⟩ : ∃ C, C = L[j] := ⟨_, rfl⟩
          rw [← hC] at hco
          have hsn : L.take (j + 1) = L.take j ++ [C] := by rw [List.take_succ_eq_append_getElem hjl, hC]
          have HSN2 := Lib.hid hsn
          clear hC hsn
          obtain ⟨y0, y1, y2, y3, y4⟩ := hco.ext hE2
          obtain ⟨wi, rfl⟩ : ∃ w', w' = wr := ⟨_, rfl⟩
          go_wp2_with (((guard_target =~ wpList _ _ _ (Oper.mk none (Op.store _ (Operand.tmp 7) (Operand.tmp 32)) _ _ _ _ :: _) _ _); go_must (refine storeBox rfl 80 (.tmp 7) (.tmp 32) rfl (wi.heap.size) _ _ _ (by rfl) (by rfl) ((BoxAt.made wi (co5 ⟨⟨#[]⟩, zeroCl⟩) 80)) (by kernel_rfl) (by rfl) (by simp [Value.oneCell']) ?_); intro w6 c6 g6); have hX6 : Ext wi w6 := ((Ext.refl wi).alloc _).grown g6 (fun q hq => by cases hq; omega); have d6 := c6.co (c := C))
          go_roundw
          case rel =>
            refine ⟨j + 1, max t C.cell.at_, hlj, rfl, congrArg _ (by first | rfl | (split <;> omega)), hE2.trans hX6, ?_⟩
            show _ = _
            rw [HSN2.out, stampCos_snoc, ← HJ.out]
          case measure => simp [intOf]; omega
        · obtain rfl : j = m := by omega
          go_wp2_with fail
          go_roundw
          case rel =>
            refine ⟨k + 1, t, hlt, rfl, rfl, hE2, ?_⟩
            show _ = _
            rw [HSN.out, stampRs_snoc, ← HS.out, HJ.out, List.take_of_length_le (by rw [← Hm.out]; exact Nat.le_refl _), HT.out, HL.out]
            rfl
          case measure => simp [intOf]; omega
    · obtain rfl : k = n := by omega
      go_wp2_with fail
      go_ret
      refine ⟨?_, hE1⟩
      rw [HS.out, HZ.out, List.take_of_length_le (by simp; rw [← HN.out]; exact Nat.le_refl _)]
      rfl
end Go.Proofs.YteamiiekpjoclaaDoor

/- clerestoryref08.Stamp. -/
namespace Go.Proofs.YteamiiekpjoclaaDoor
open Go Go.RowKit
attribute [local go_sem] yields yUpon ro8 pa3 co5 run_max4

set_option maxRecDepth 100000 in
set_option maxHeartbeats 8000000 in
theorem stamp8_any (pk : ByteArray) (pg : Int) (pu : Value) (ps : List (Ro × Value)) (w : World) (hin : RowsIn w pu ps) :
    Calls Tryd.prog 50 #[.agg #[.string pk, .int .i64 pg, pu]] w fun e w' => e = .returned (.int .i64 (stampRs pg (ps.map (·.1)))) ∧ Ext w w' := by
  have a0 := BoxAt.made w (pa3 pk pg pu) 35
  have hE := (Ext.refl w).alloc (.cells (pa3 pk pg pu) 35)
  obtain ⟨aa, ca, rfl, hca, hcma, hget⟩ := hin.get
  have c0 := a0.pa
  obtain ⟨n, hn⟩ : ∃ n, n = ps.length := ⟨_, rfl⟩
  rw [← hn] at hca a0 hE c0 ⊢
  have HN := Lib.hid hn
  have HGET := Lib.hid hget
  have HC := Lib.hid hin.cols
  obtain ⟨Z, hZ⟩ : ∃ Z, Z = stampRs pg (ps.map (·.1)) := ⟨_, rfl⟩
  rw [← hZ]
  have HZ := Lib.hid hZ
  clear hn hget hin hZ
  go_enter Tryd.func50, Tryd.ntmps50
  go_wp2
  go_loopw [3, 4] (fun so i wr => ∃ (k : Nat) (s : Int), k ≤ n ∧ i = .int .i64 k ∧ so = .int .i64 s ∧ BoxAt wr w.heap.size (pa3 pk pg (.slice aa n ca)) 35 ∧ Ext w wr ∧ Hid (s = stampRs pg ((ps.map (·.1)).take k))) (fun _ i _ => n - (intOf i).toNat)
  case atStart => exact ⟨0, pg, Nat.zero_le _, rfl, rfl, a0, hE, rfl⟩
  case round =>
    obtain ⟨k, s, hk, rfl, rfl, b0, hE1, HS⟩ := hrel
    obtain ⟨q0, q1, q2⟩ := b0.pa
    clear a0 c0 hE
    by_cases hlt : k < n
    · have hkp : k < ps.length := by rw [← HN.out]; exact hlt
      have hcu := HC.out _ (List.getElem_mem hkp)
      obtain ⟨b, o, rfl, hat⟩ := HGET.out k hkp
      have hsnoc : (ps.map (·.1)).take (k + 1) = (ps.map (·.1)).take k ++ [ps[k].1] := by
        rw [List.take_succ_eq_append_getElem (by simpa using hkp)]
        simp
      obtain ⟨M, hM⟩ : ∃ M, M = ps[k].1 := ⟨_, rfl⟩
      obtain ⟨au, cu, hu, hcu1, hcu2, hcget⟩ := hcu.get
      rw [← hM] at hcu hu hsnoc hat
      rw [hu] at hcu hat
      have HSN := Lib.hid hsnoc
      obtain ⟨L, hL⟩ : ∃ L, L = M.cols := ⟨_, rfl⟩
      have hcg : ∀ j (hj : j < L.length), ∃ b o, au = some ⟨b, o, none⟩ ∧ CoAt w b (o + j * 5) L[j] := by
        subst hL
        subst hM
        exact hcget
      rw [← hL] at hat
      have HL := Lib.hid hL
      have hmc : L.length ≤ cu := by
        subst hL
        subst hM
        exact hcu1
      have HCG := Lib.hid hcg
      clear hM hu hsnoc hcget hcu hcg hL
      obtain ⟨m, hm⟩ : ∃ m, m = L.length := ⟨_, rfl⟩
      rw [← hm] at hat hmc
      have Hm := Lib.hid hm
      clear hm
      have hki : decide ((k : Int) < (n : Int)) = true := by simpa using hlt
      replace hat := hat.ext hE1
      obtain ⟨x0, x1, x2, x3, x4, x5, x6, x7⟩ := hat
      obtain ⟨wo, rfl⟩ : ∃ w', w' = wr := ⟨_, rfl⟩
      go_wp2_with (((guard_target =~ wpList _ _ _ (Oper.mk none (Op.store _ (Operand.tmp 5) (Operand.tmp 20)) _ _ _ _ :: _) _ _); go_must (refine storeBox rfl 26 (.tmp 5) (.tmp 20) rfl (wo.heap.size) _ _ _ (by rfl) (by rfl) ((BoxAt.made wo (ro8 ⟨⟨#[]⟩, zeroCl, 0, 0, []⟩ (.slice none 0 0)) 26)) (by kernel_rfl) (by rfl) (by simp [Value.oneCell']) ?_); intro w4 c4 g4); have hX4 : Ext wo w4 := ((Ext.refl wo).alloc _).grown g4 (fun q hq => by cases hq; omega); have d4 := c4.ro (r := ⟨M.key, M.live, M.gone, M.shade, []⟩) (v := .slice au m cu))
      have hW4 := hE1.trans hX4
      obtain ⟨t0, ht0⟩ : ∃ t0, t0 = max s (max M.live.at_ (max M.gone M.shade)) := ⟨_, rfl⟩
      have HT := Lib.hid ht0
      rw [← ht0]
      have e4 : BoxAt w4 wo.heap.size (ro8 M (.slice au m cu)) 26 := c4
      have b4 := b0.ext hX4
      clear ht0 c4 g4 d4 q0 q1 q2 b0 hX4 x0 x1 x2 x3 x4 x5 x6 x7
      go_loopw [3, 6] (fun so i wr => ∃ (j : Nat) (t : Int), j ≤ m ∧ i = .int .i64 j ∧ so = .int .i64 t ∧ BoxAt wr w.heap.size (pa3 pk pg (.slice (some ⟨b, o, none⟩) n ca)) 35 ∧ BoxAt wr wo.heap.size (ro8 M (.slice au m cu)) 26 ∧ Ext w wr ∧ Hid (t = stampCos t0 (L.take j))) (fun _ i _ => m - (intOf i).toNat)
      case atStart => exact ⟨0, t0, Nat.zero_le _, rfl, rfl, b4, e4, hW4, rfl⟩
      case round =>
        obtain ⟨j, t, hj, rfl, rfl, b5, e5, hE2, HJ⟩ := hrel
        obtain ⟨x0, x1, x2, x3, x4, x5, x6, x7⟩ := e5.ro
        clear b4 e4 hW4
        by_cases hlj : j < m
        · have hjl : j < L.length := by rw [← Hm.out]; exact hlj
          obtain ⟨b', o', rfl, hco⟩ := HCG.out j hjl
          obtain ⟨C, hC⟩ : ∃ C, C = L[j] := ⟨_, rfl⟩
          rw [← hC] at hco
          have hsn : L.take (j + 1) = L.take j ++ [C] := by rw [List.take_succ_eq_append_getElem hjl, hC]
          have HSN2 := Lib.hid hsn
          clear hC hsn
          obtain ⟨y0, y1, y2, y3, y4⟩ := hco.ext hE2
          obtain ⟨wi, rfl⟩ : ∃ w', w' = wr := ⟨_, rfl⟩
          have hlij : decide ((j : Int) < (m : Int)) = true := by simpa using hlj
          go_wp2_with fail
          go_roundw
          case rel =>
            refine ⟨j + 1, max t C.cell.at_, hlj, rfl, congrArg _ (by first | rfl | (split <;> omega)), b5, e5, hE2, ?_⟩
            show _ = _
            rw [HSN2.out, stampCos_snoc, ← HJ.out]
          case measure => simp [intOf]; omega
        · obtain rfl : j = m := by omega
          go_wp2_with fail
          go_roundw
          case rel =>
            refine ⟨k + 1, t, hlt, rfl, rfl, b5, hE2, ?_⟩
            show _ = _
            rw [HSN.out, stampRs_snoc, ← HS.out, HJ.out, List.take_of_length_le (by rw [← Hm.out]; exact Nat.le_refl _), HT.out, HL.out]
            rfl
          case measure => simp [intOf]; omega
    · obtain rfl : k = n := by omega
      go_wp2_with fail
      go_ret
      refine ⟨?_, hE1⟩
      rw [HS.out, HZ.out, List.take_of_length_le (by simp; rw [← HN.out]; exact Nat.le_refl _)]
      rfl
end Go.Proofs.YteamiiekpjoclaaDoor
