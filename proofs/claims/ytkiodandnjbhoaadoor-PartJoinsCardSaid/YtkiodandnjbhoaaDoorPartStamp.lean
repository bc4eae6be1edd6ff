/- part.Stamp. -/
import Derived.Test.YtkiodandnjbhoaaDoorRowsIn
namespace Go.Proofs.YtkiodandnjbhoaaDoor
open Go Go.RowKit

theorem run_max4 {P : Program} (T : Array TypeId) (ty : TypeId) (k : IntKind) (a b c d : Int) (w : World) :
    (Builtin.max_ T ty #[.int k a, .int k b, .int k c, .int k d]).run P w = .ok (.int k (max (max (max a b) c) d)) w := by
  have h : ∀ x y : Int, (if y > x then y else x) = max x y := fun x y => by split <;> omega
  simp [Builtin.max_, Builtin.max2, h]
attribute [local go_sem] yields yUpon ro8 pa3 co5 run_max4

/-- The greatest stamp. -/
def stampCos (n : Int) (l : List Co) : Int := l.foldl (fun n c => max n c.cell.at_) n
def stampRo (n : Int) (r : Ro) : Int := stampCos (max n (max r.live.at_ (max r.gone r.shade))) r.cols
def stampRs (n : Int) (l : List Ro) : Int := l.foldl stampRo n
theorem stampCos_snoc (n : Int) (l : List Co) (c : Co) : stampCos n (l ++ [c]) = max (stampCos n l) c.cell.at_ := by unfold stampCos; rw [List.foldl_append]; rfl
theorem stampRs_snoc (n : Int) (l : List Ro) (r : Ro) : stampRs n (l ++ [r]) = stampRo (stampRs n l) r := by unfold stampRs; rw [List.foldl_append]; rfl
theorem le_stampCos (n : Int) (l : List Co) : n ≤ stampCos n l := by
  induction l generalizing n with
  | nil => exact Int.le_refl _
  | cons c l ih => exact Int.le_trans (Int.le_max_left _ _) (ih _)
theorem le_stampRs (n : Int) (l : List Ro) : n ≤ stampRs n l := by
  induction l generalizing n with
  | nil => exact Int.le_refl _
  | cons r l ih =>
    refine Int.le_trans ?_ (ih _)
    refine Int.le_trans ?_ (le_stampCos _ _)
    omega

set_option maxRecDepth 100000 in
set_option maxHeartbeats 8000000 in
theorem pstamp_any (pk : ByteArray) (pg : Int) (pu : Value) (ps : List (Ro × Value)) (w : World) (hin : RowsIn w pu ps) :
    Calls Tryd.prog 51 #[.agg #[.string pk, .int .i64 pg, pu]] w fun e w' => e = .returned (.int .i64 (stampRs pg (ps.map (·.1)))) ∧ Ext w w' := by
  have a0 := BoxAt.made w (pa3 pk pg pu) 35
  have hE := (Ext.refl w).alloc (.cells (pa3 pk pg pu) 35)
  obtain ⟨aa, ca, rfl, hca, hcma, hget⟩ := hin.get
  have c0 := a0.pa
  obtain ⟨n, hn⟩ : ∃ n, n = ps.length := ⟨_, rfl⟩
  rw [← hn] at hca a0 hE c0 ⊢
  have HN := Lib.hid hn
  have HGET := Lib.hid hget
  have HC := Lib.hid hin.cols
  obtain ⟨Z, hZ⟩ : ∃ Z, Z = stampRs pg (ps.map (·.1)) := ⟨_, rfl⟩
  rw [← hZ]
  have HZ := Lib.hid hZ
  clear hn hget hin hZ
  go_enter Tryd.func51, Tryd.ntmps51
  go_wp2
  go_loopw [3, 13] (fun so i wr => ∃ (k : Nat) (s : Int), k ≤ n ∧ i = .int .i64 k ∧ so = .int .i64 s ∧ Ext w wr ∧ Hid (s = stampRs pg ((ps.map (·.1)).take k))) (fun _ i _ => n - (intOf i).toNat)
  case atStart => exact ⟨0, pg, Nat.zero_le _, rfl, rfl, hE, rfl⟩
  case round =>
    obtain ⟨k, s, hk, rfl, rfl, hE1, HS⟩ := hrel
    by_cases hlt : k < n
    · have hkp : k < ps.length := by rw [← HN.out]; exact hlt
      have hcu := HC.out _ (List.getElem_mem hkp)
      obtain ⟨b, o, rfl, hat⟩ := HGET.out k hkp
      have hsnoc : (ps.map (·.1)).take (k + 1) = (ps.map (·.1)).take k ++ [ps[k].1] := by
        rw [List.take_succ_eq_append_getElem (by simpa using hkp)]
        simp
      obtain ⟨M, hM⟩ : ∃ M, M = ps[k].1 := ⟨_, rfl⟩
      obtain ⟨au, cu, hu, hcu1, hcu2, hcget⟩ := hcu.get
      rw [← hM] at hcu hu hsnoc hat
      rw [hu] at hcu hat
      have HSN := Lib.hid hsnoc
      obtain ⟨L, hL⟩ : ∃ L, L = M.cols := ⟨_, rfl⟩
      have hcg : ∀ j (hj : j < L.length), ∃ b o, au = some ⟨b, o, none⟩ ∧ CoAt w b (o + j * 5) L[j] := by
        subst hL
        subst hM
        exact hcget
      rw [← hL] at hat
      have HL := Lib.hid hL
      have hmc : L.length ≤ cu := by
        subst hL
        subst hM
        exact hcu1
      have HCG := Lib.hid hcg
      clear hM hu hsnoc hcget hcu hcg hL
      obtain ⟨m, hm⟩ : ∃ m, m = L.length := ⟨_, rfl⟩
      rw [← hm] at hat hmc
      have Hm := Lib.hid hm
      clear hm
      replace hat := hat.ext hE1
      obtain ⟨x0, x1, x2, x3, x4, x5, x6, x7⟩ := hat
      obtain ⟨wo, rfl⟩ : ∃ w', w' = wr := ⟨_, rfl⟩
      go_wp2_with (((guard_target =~ wpList _ _ _ (Oper.mk none (Op.store _ (Operand.tmp 5) (Operand.tmp 16)) _ _ _ _ :: _) _ _); go_must (refine storeBox rfl 26 (.tmp 5) (.tmp 16) rfl (wo.heap.size) _ _ _ (by rfl) (by rfl) ((BoxAt.made wo (ro8 ⟨⟨#[]⟩, zeroCl, 0, 0, []⟩ (.slice none 0 0)) 26)) (by kernel_rfl) (by rfl) (by simp [Value.oneCell']) ?_); intro w4 c4 g4); have hX4 : Ext wo w4 := ((Ext.refl wo).alloc _).grown g4 (fun q hq => by cases hq; omega); have d4 := c4.ro (r := ⟨M.key, M.live, M.gone, M.shade, []⟩) (v := .slice au m cu))
      have hW4 := hE1.trans hX4
      obtain ⟨t0, ht0⟩ : ∃ t0, t0 = max s (max M.live.at_ (max M.gone M.shade)) := ⟨_, rfl⟩
      have HT := Lib.hid ht0
      rw [← ht0]
      clear ht0 c4 g4 d4 x0 x1 x2 x3 x4 x5 x6 x7
      go_loopw [3, 29] (fun so i wr => ∃ (j : Nat) (t : Int), j ≤ m ∧ i = .int .i64 j ∧ so = .int .i64 t ∧ Ext w wr ∧ Hid (t = stampCos t0 (L.take j))) (fun _ i _ => m - (intOf i).toNat)
      case atStart => exact ⟨0, t0, Nat.zero_le _, rfl, rfl, hW4, rfl⟩
      case round =>
        obtain ⟨j, t, hj, rfl, rfl, hE2, HJ⟩ := hrel
        by_cases hlj : j < m
        · have hjl : j < L.length := by rw [← Hm.out]; exact hlj
          obtain ⟨b', o', rfl, hco⟩ := HCG.out j hjl
          obtain ⟨C, hC⟩ : ∃ C, C = L[j] := ⟨_, rfl⟩
          rw [← hC] at hco
          have hsn : L.take (j + 1) = L.take j ++ [C] := by rw [List.take_succ_eq_append_getElem hjl, hC]
          have HSN2 := Lib.hid hsn
          clear hC hsn
          obtain ⟨y0, y1, y2, y3, y4⟩ := hco.ext hE2
          obtain ⟨wi, rfl⟩ : ∃ w', w' = wr := ⟨_, rfl⟩
          go_wp2_with (((guard_target =~ wpList _ _ _ (Oper.mk none (Op.store _ (Operand.tmp 7) (Operand.tmp 32)) _ _ _ _ :: _) _ _); go_must (refine storeBox rfl 83 (.tmp 7) (.tmp 32) rfl (wi.heap.size) _ _ _ (by rfl) (by rfl) ((BoxAt.made wi (co5 ⟨⟨#[]⟩, zeroCl⟩) 83)) (by kernel_rfl) (by rfl) (by simp [Value.oneCell']) ?_); intro w6 c6 g6); have hX6 : Ext wi w6 := ((Ext.refl wi).alloc _).grown g6 (fun q hq => by cases hq; omega); have d6 := c6.co (c := C))
          go_roundw
          case rel =>
            refine ⟨j + 1, max t C.cell.at_, hlj, rfl, congrArg _ (by split <;> omega), hE2.trans hX6, ?_⟩
            show _ = _
            rw [HSN2.out, stampCos_snoc, ← HJ.out]
          case measure => simp [intOf]; omega
        · obtain rfl : j = m := by omega
          go_wp2_with fail
          go_roundw
          case rel =>
            refine ⟨k + 1, t, hlt, rfl, rfl, hE2, ?_⟩
            show _ = _
            rw [HSN.out, stampRs_snoc, ← HS.out, HJ.out, List.take_of_length_le (by rw [← Hm.out]; exact Nat.le_refl _), HT.out, HL.out]
            rfl
          case measure => simp [intOf]; omega
    · obtain rfl : k = n := by omega
      go_wp2_with fail
      go_ret
      refine ⟨?_, hE1⟩
      rw [HS.out, HZ.out, List.take_of_length_le (by simp; rw [← HN.out]; exact Nat.le_refl _)]
      rfl
end Go.Proofs.YtkiodandnjbhoaaDoor
