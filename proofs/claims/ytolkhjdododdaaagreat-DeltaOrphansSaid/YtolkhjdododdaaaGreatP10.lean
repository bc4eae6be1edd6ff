/- Made, Several: partitions by numbers. -/
import Derived.Test.YtolkhjdododdaaaGreatP6
import Derived.Test.YtolkhjdododdaaaGreatP8
import Derived.Test.YtolkhjdododdaaaGreatP9
import Derived.Lib.SliceRun
import Derived.Test.YtolkhjdododdaaaGreatP3
set_option linter.unusedSimpArgs false
set_option linter.unusedVariables false


/- slices.Clone of columns. -/
namespace Go.Proofs.YtolkhjdododdaaaGreat
open Go Go.RowKit
attribute [local go_sem] yields yUpon ro8 pa3 cl4

set_option maxRecDepth 100000 in
set_option maxHeartbeats 2000000 in
theorem clone_any (v : Value) (l : List Co) (w : World) (hin : ColsIn w v l) (hl : l.length ≤ 1000000) :
    Calls Tryz.prog 43 #[v] w fun e w' => ∃ v', e = .returned v' ∧ w'.ownsRow w.heap.size 57 5 v' l.length (coCells l) ∧ Ext w w' := by
  have hin0 := hin
  obtain ⟨a, c, rfl, hc, hcm, ha, _⟩ := hin
  have he := Lib.run_eql_slice_nil (P := Tryz.prog) w 52 57 a l.length c 0 0 und_Cols
  cases a with
  | none =>
    have hc0 := ha rfl
    obtain rfl : l = [] := List.eq_nil_of_length_eq_zero (by omega)
    subst hc0
    clear ha
    go_enter Tryz.func43, Tryz.ntmps43
    go_wp2_with fail
    simp only [List.length_nil] at he
    rw [he]
    simp only [Result.andThen]
    rw [Oper.upon_value]
    go_wp2_with fail
    go_ret
    exact ⟨_, rfl, World.ownsRow_nil _ _ _ _, Ext.refl w⟩
  | some ad =>
    have hX := (Ext.refl w).alloc (.cells #[] 57)
    have hm : (w.alloc (.cells #[] 57)).ownsRow w.heap.size 57 5 (.slice (some ⟨w.heap.size, 0, none⟩) 0 0) ([] : List Co).length (coCells []) := World.ownsRow_made w #[] 0 (Nat.le_refl _) (Nat.zero_le _) rfl
    clear ha
    go_enter Tryz.func43, Tryz.ntmps43
    go_wp2_with (at_builtin; go_must (refine appCols (w.alloc (.cells #[] 57)) rfl (.tmp 5) (.tmp 6) rfl w.heap.size hX.le _ [] hm (by rfl) _ l (hin0.ext hX) (by rfl) (by simp; omega) ?_); intro v3 w3 hown3 hg3)
    go_ret
    exact ⟨_, rfl, hown3, hX.grown hg3 (fun q hq => (hm.lt q hq).1)⟩

end Go.Proofs.YtolkhjdododdaaaGreat

/- part.Row. -/
namespace Go.Proofs.YtolkhjdododdaaaGreat
open Go Go.RowKit
attribute [local go_sem] yields yUpon ro8 pa3

/-- A partition's row. -/
def rowOf : List Ro → ByteArray → Ro
  | [], key => ⟨key, zeroCl, 0, 0, []⟩
  | r :: l, key => if r.key.toList == key.toList then r else rowOf l key
def hasRow : List Ro → ByteArray → Bool
  | [], _ => false
  | r :: l, key => if r.key.toList == key.toList then true else hasRow l key

set_option maxRecDepth 100000 in
set_option maxHeartbeats 4000000 in
theorem prow_typed (pk : ByteArray) (pg : Int) (pu : Value) (ps : List (Ro × Value)) (key : ByteArray) (w : World) (hin : RowsIn w pu ps) (hcl : ∀ p ∈ ps, p.1.cols.length ≤ 1000000) :
    Calls Tryz.prog 22 #[.agg #[.string pk, .int .i64 pg, pu], .string key] w fun e w' => ∃ v', e = .returned (.tuple #[(.agg #[.string (rowOf (ps.map (·.1)) key).key, .string (rowOf (ps.map (·.1)) key).live.val, .bool (rowOf (ps.map (·.1)) key).live.dead, .int .i64 (rowOf (ps.map (·.1)) key).live.at_, .int .i64 (rowOf (ps.map (·.1)) key).live.fin, .int .i64 (rowOf (ps.map (·.1)) key).gone, .int .i64 (rowOf (ps.map (·.1)) key).shade, v']), .bool (hasRow (ps.map (·.1)) key)]) ∧ ColsT w' v' (rowOf (ps.map (·.1)) key).cols ∧ Ext w w' := by
  obtain ⟨a0, a1, hE⟩ := boxes2 w (pa3 pk pg pu) (ro8 ⟨⟨#[]⟩, zeroCl, 0, 0, []⟩ (.slice none 0 0)) 39 54
  obtain ⟨aa, ca, rfl, hca, hcma, hget⟩ := hin.get
  obtain ⟨n, hn⟩ : ∃ n, n = ps.length := ⟨_, rfl⟩
  rw [← hn] at hca a0 a1 hE ⊢
  have HN := Lib.hid hn
  have HGET := Lib.hid hget
  have HC := Lib.hid hin.cols
  have HCL := Lib.hid hcl
  obtain ⟨R, hR⟩ : ∃ R, R = rowOf (ps.map (·.1)) key := ⟨_, rfl⟩
  obtain ⟨B, hB⟩ : ∃ B, B = hasRow (ps.map (·.1)) key := ⟨_, rfl⟩
  rw [← hR, ← hB]
  have HR := Lib.hid hR
  have HB := Lib.hid hB
  clear hn hget hin hcl hR hB
  go_enter Tryz.func22, Tryz.ntmps22
  go_wp2
  go_loopw [11] (fun i wr => ∃ k : Nat, k ≤ n ∧ i = .int .i64 k ∧ BoxAt wr (w.heap.size + 1) (ro8 ⟨⟨#[]⟩, zeroCl, 0, 0, []⟩ (.slice none 0 0)) 54 ∧ Ext w wr ∧ Hid (R = rowOf ((ps.map (·.1)).drop k) key) ∧ Hid (B = hasRow ((ps.map (·.1)).drop k) key)) (fun i _ => n - (intOf i).toNat)
  case atStart => exact ⟨0, Nat.zero_le _, rfl, a1, hE, HR.out, HB.out⟩
  case round =>
    obtain ⟨k, hk, rfl, b1, hE1, HRk, HBk⟩ := hrel
    clear a0 a1
    by_cases hlt : k < n
    · have hkp : k < ps.length := by rw [← HN.out]; exact hlt
      have hkc := HCL.out _ (List.getElem_mem hkp)
      have hcu := HC.out _ (List.getElem_mem hkp)
      obtain ⟨b, o, rfl, hat⟩ := HGET.out k hkp
      have hdrop : (ps.map (·.1)).drop k = ps[k].1 :: (ps.map (·.1)).drop (k + 1) := by
        rw [List.drop_eq_getElem_cons (by simpa using hkp)]
        simp
      obtain ⟨M, hM⟩ : ∃ M, M = ps[k].1 := ⟨_, rfl⟩
      obtain ⟨au, cu, hu⟩ := hcu.shape
      rw [← hM] at hkc hcu hu hdrop hat
      rw [hu] at hcu hat
      have HDR := Lib.hid hdrop
      clear hM hu hdrop
      obtain ⟨L, hL⟩ : ∃ L, L = M.cols := ⟨_, rfl⟩
      rw [← hL] at hcu hat hkc
      have HL := Lib.hid hL
      clear hL
      obtain ⟨m, hm⟩ : ∃ m, m = L.length := ⟨_, rfl⟩
      rw [← hm] at hcu hat
      clear hm
      replace hat := hat.ext hE1
      replace hcu := hcu.ext hE1
      obtain ⟨x0, x1, x2, x3, x4, x5, x6, x7⟩ := hat
      have hsz1 := b1.lt
      cases hkey : (M.key.toList == key.toList)
      · go_wp2_with (((guard_target =~ wpList _ _ _ (Oper.mk none (Op.store _ (Operand.tmp 7) (Operand.tmp 14)) _ _ _ _ :: _) _ _); go_must (refine storeBox rfl 54 (.tmp 7) (.tmp 14) rfl (wr.heap.size) _ _ _ (by rfl) (by rfl) ((BoxAt.made wr (ro8 ⟨⟨#[]⟩, zeroCl, 0, 0, []⟩ (.slice none 0 0)) 54)) (by kernel_rfl) (by rfl) (by simp [Value.oneCell']) ?_); intro w4 c4 g4); have hX4 : Ext wr w4 := ((Ext.refl wr).alloc _).grown g4 (fun q hq => by cases hq; omega); have d4 := c4.ro (r := ⟨M.key, M.live, M.gone, M.shade, []⟩) (v := .slice au m cu))
        go_roundw
        case rel =>
          refine ⟨k + 1, hlt, rfl, b1.ext hX4, hE1.trans hX4, ?_, ?_⟩
          · show _ = _
            rw [HRk.out, HDR.out, rowOf, if_neg (by rw [hkey]; decide)]
          · show _ = _
            rw [HBk.out, HDR.out, hasRow, if_neg (by rw [hkey]; decide)]
        case measure => simp [intOf]; omega
      · have hR : R = M := by rw [HRk.out, HDR.out, rowOf, if_pos hkey]
        have hB : B = true := by rw [HBk.out, HDR.out, hasRow, if_pos hkey]
        rw [hR, hB]
        go_wp2_with (((guard_target =~ wpList _ _ _ (Oper.mk none (Op.store _ (Operand.tmp 7) (Operand.tmp 14)) _ _ _ _ :: _) _ _); go_must (refine storeBox rfl 54 (.tmp 7) (.tmp 14) rfl (wr.heap.size) _ _ _ (by rfl) (by rfl) ((BoxAt.made wr (ro8 ⟨⟨#[]⟩, zeroCl, 0, 0, []⟩ (.slice none 0 0)) 54)) (by kernel_rfl) (by rfl) (by simp [Value.oneCell']) ?_); intro w4 c4 g4); have hX4 : Ext wr w4 := ((Ext.refl wr).alloc _).grown g4 (fun q hq => by cases hq; omega); have d4 := c4.ro (r := ⟨M.key, M.live, M.gone, M.shade, []⟩) (v := .slice au m cu))
        refine (clone_any _ L w4 (hcu.ext hX4) hkc).mono ?_
        rintro e w5 ⟨v5, rfl, hown5, hE5⟩
        obtain ⟨a5, c5', rfl⟩ := own_shape hown5
        have b5 := b1.ext (hX4.trans hE5)
        have r5 : BoxAt w5 wr.heap.size (ro8 ⟨M.key, M.live, M.gone, M.shade, []⟩ (.slice au m cu)) 54 := c4.ext hE5
        have d5 := r5.ro
        have f5 := r5.free 7
        have hX5 := hE1.trans (hX4.trans hE5)
        clear d4 c4 x0 x1 x2 x3 x4 x5 x6 x7
        go_wp2_with (((guard_target =~ wpList _ _ _ (Oper.mk none (Op.store _ (Operand.tmp 4) (Operand.tmp 23)) _ _ _ _ :: _) _ _); go_must (refine storeBox rfl 54 (.tmp 4) (.tmp 23) rfl (w.heap.size + 1) _ _ _ (by rfl) (by rfl) ((b5.other (by omega) _ _)) (by kernel_rfl) (by rfl) (by simp [Value.oneCell']) ?_); intro w6 c6 g6))
        have hownS := own_setCell (u := .slice a5 L.length c5') (i := 7) hown5 (own_ne_box hown5 r5 (by decide))
        have b5s := b5.other (show w.heap.size + 1 ≠ wr.heap.size by omega) 7 (.slice a5 L.length c5')
        have hown6 := hownS.kept g6 (own_ne_box hownS b5s (by decide))
        have hX6 := (hX5.setCell (p := ⟨wr.heap.size, 7, none⟩) (by show w.heap.size ≤ wr.heap.size; omega) (.slice a5 L.length c5')).grown g6 (fun q hq => by cases hq; omega)
        obtain ⟨z0, z1, z2, z3, z4, z5, z6, z7⟩ := c6.ro (r := ⟨M.key, M.live, M.gone, M.shade, []⟩) (v := .slice a5 L.length c5')
        refine bodyPost_ret (v := .tuple #[.agg #[.string M.key, .string M.live.val, .bool M.live.dead, .int .i64 M.live.at_, .int .i64 M.live.fin, .int .i64 M.gone, .int .i64 M.shade, .slice a5 L.length c5'], .bool true]) ?_ rfl ⟨_, by rw [hR, hB], ?_, hX6⟩
        · simp [results, Tryz.results22, go_sem, z0, z1, z2, z3, z4, z5, z6, z7]
        · rw [hR, ← HL.out]
          exact TIn.own hown6
    · have hR : R = ⟨key, zeroCl, 0, 0, []⟩ := by rw [HRk.out, List.drop_eq_nil_of_le (by simp; rw [← HN.out]; omega)]; rfl
      have hB : B = false := by rw [HBk.out, List.drop_eq_nil_of_le (by simp; rw [← HN.out]; omega)]; rfl
      go_wp2_with (((guard_target =~ wpList _ _ _ (Oper.mk none (Op.store _ (Operand.tmp 4) (Operand.tmp 26)) _ _ _ _ :: _) _ _); go_must (refine storeBox rfl 54 (.tmp 4) (.tmp 26) rfl (w.heap.size + 1) _ _ _ (by rfl) (by rfl) (b1) (by kernel_rfl) (by rfl) (by simp [Value.oneCell']) ?_); intro w6 c6 g6))
      obtain ⟨z0, z1, z2, z3, z4, z5, z6, z7⟩ := c6.ro (r := ⟨key, zeroCl, 0, 0, []⟩) (v := .slice none 0 0)
      refine bodyPost_ret (v := .tuple #[.agg #[.string key, .string ⟨#[]⟩, .bool false, .int .i64 0, .int .i64 0, .int .i64 0, .int .i64 0, .slice none 0 0], .bool false]) ?_ rfl ⟨_, by rw [hR, hB]; rfl, ?_, hE1.grown g6 (fun q hq => by cases hq; omega)⟩
      · simp [results, Tryz.results22, go_sem, z0, z1, z2, z3, z4, z5, z6, z7, zeroCl]
      · rw [hR]
        exact ColsT.nil _
theorem prow_any (pk : ByteArray) (pg : Int) (pu : Value) (ps : List (Ro × Value)) (key : ByteArray) (w : World) (hin : RowsIn w pu ps) (hcl : ∀ p ∈ ps, p.1.cols.length ≤ 1000000) :
    Calls Tryz.prog 22 #[.agg #[.string pk, .int .i64 pg, pu], .string key] w fun e w' => ∃ v', e = .returned (.tuple #[(.agg #[.string (rowOf (ps.map (·.1)) key).key, .string (rowOf (ps.map (·.1)) key).live.val, .bool (rowOf (ps.map (·.1)) key).live.dead, .int .i64 (rowOf (ps.map (·.1)) key).live.at_, .int .i64 (rowOf (ps.map (·.1)) key).live.fin, .int .i64 (rowOf (ps.map (·.1)) key).gone, .int .i64 (rowOf (ps.map (·.1)) key).shade, v']), .bool (hasRow (ps.map (·.1)) key)]) ∧ ColsIn w' v' (rowOf (ps.map (·.1)) key).cols ∧ Ext w w' :=
  (prow_typed pk pg pu ps key w hin hcl).mono fun _ _ ⟨v', h1, h2, h3⟩ => ⟨v', h1, h2.cols, h3⟩
end Go.Proofs.YtolkhjdododdaaaGreat

/- Alike: cells, columns (plain laws). -/
namespace Go.Proofs.YtolkhjdododdaaaGreat
open Go Go.RowKit

/-- Alike. -/
noncomputable def eqB {α : Type} (a b : α) : Bool := @decide (a = b) (Classical.propDecidable _)
theorem eqB_iff {α : Type} {a b : α} : eqB a b = true ↔ a = b := by unfold eqB; exact @decide_eq_true_iff _ (Classical.propDecidable _)
theorem eqB_true {α : Type} {a b : α} (h : a = b) : eqB a b = true := eqB_iff.2 h
theorem eqB_false {α : Type} {a b : α} (h : a ≠ b) : eqB a b = false := by
  cases e : eqB a b with
  | false => rfl
  | true => exact absurd (eqB_iff.1 e) h

theorem bytes_ext {a b : ByteArray} (h : a.toList = b.toList) : a = b := by
  rw [ByteArray.toList_eq, ByteArray.toList_eq] at h
  cases a; cases b
  simp at h
  rw [h]
theorem cl_ext {c d : Cl} (h2 : c.val.toList = d.val.toList) (h3 : c.dead = d.dead) (h4 : c.at_ = d.at_) (h5 : c.fin = d.fin) : c = d := by
  cases c; cases d
  simp only at *
  rw [bytes_ext h2, h3, h4, h5]
theorem co_ext {c d : Co} (h1 : c.name.toList = d.name.toList) (h2 : c.cell.val.toList = d.cell.val.toList) (h3 : c.cell.dead = d.cell.dead) (h4 : c.cell.at_ = d.cell.at_) (h5 : c.cell.fin = d.cell.fin) : c = d := by
  have := cl_ext h2 h3 h4 h5
  cases c; cases d
  simp only at *
  rw [bytes_ext h1, this]
end Go.Proofs.YtolkhjdododdaaaGreat
