/- slices.Clone of columns; delta.cellOf. -/
import Derived.Test.YteamiiekpjoclaaM12
import Derived.Test.YteamiiekpjoclaaM13
import Derived.Lib.SliceRun
import Derived.Test.YteamiiekpjoclaaM4
namespace Go.Proofs.Yteamiiekpjoclaa
open Go Go.RowKit
attribute [local go_sem] yields yUpon ro8 pa3 vw5 cl4

set_option maxRecDepth 100000 in
set_option maxHeartbeats 2000000 in
theorem clone_any (v : Value) (l : List Co) (w : World) (hin : ColsIn w v l) (hl : l.length ≤ 1000000) :
    Calls Try.prog 61 #[v] w fun e w' => ∃ v', e = .returned v' ∧ w'.ownsRow w.heap.size 58 5 v' l.length (coCells l) ∧ Ext w w' := by
  have hin0 := hin
  obtain ⟨a, c, rfl, hc, hcm, ha, _⟩ := hin
  have he := Lib.run_eql_slice_nil (P := Try.prog) w 53 58 a l.length c 0 0 und_Cols
  cases a with
  | none =>
    have hc0 := ha rfl
    obtain rfl : l = [] := List.eq_nil_of_length_eq_zero (by omega)
    subst hc0
    clear ha
    go_enter Try.func61, Try.ntmps61
    go_wp2_with fail
    simp only [List.length_nil] at he
    rw [he]
    simp only [Result.andThen]
    rw [Oper.upon_value]
    go_wp2_with fail
    go_ret
    exact ⟨_, rfl, World.ownsRow_nil _ _ _ _, Ext.refl w⟩
  | some ad =>
    have hX := (Ext.refl w).alloc (.cells #[] 58)
    have hm : (w.alloc (.cells #[] 58)).ownsRow w.heap.size 58 5 (.slice (some ⟨w.heap.size, 0, none⟩) 0 0) ([] : List Co).length (coCells []) := World.ownsRow_made w #[] 0 (Nat.le_refl _) (Nat.zero_le _) rfl
    clear ha
    go_enter Try.func61, Try.ntmps61
    go_wp2_with (at_builtin; go_must (refine appCols (w.alloc (.cells #[] 58)) rfl (.tmp 5) (.tmp 6) rfl w.heap.size hX.le _ [] hm (by rfl) _ l (hin0.ext hX) (by rfl) (by simp; omega) ?_); intro v3 w3 hown3 hg3)
    go_ret
    exact ⟨_, rfl, hown3, hX.grown hg3 (fun q hq => (hm.lt q hq).1)⟩

/-- A row's cell of a view's column as its one column, if it has one. -/
def cellL (x : Vw) (r : Ro) : List Co := if (cellOf r.cols x.on).at_ < 1 then [] else [⟨x.on, cellOf r.cols x.on⟩]
set_option maxRecDepth 100000 in
set_option maxHeartbeats 2000000 in
theorem cellOf_any (x : Vw) (u : Value) (r : Ro) (v : Value) (w : World) (hin : ColsIn w v r.cols) :
    Calls Try.prog 79 #[.agg #[.string x.name, .int .i64 x.id, .string x.table, .string x.on, u], (.agg #[.string r.key, .string r.live.val, .bool r.live.dead, .int .i64 r.live.at_, .int .i64 r.live.fin, .int .i64 r.gone, .int .i64 r.shade, v])] w fun e w' => ∃ a c, e = .returned (.slice a (cellL x r).length c) ∧ ColsT w' (.slice a (cellL x r).length c) (cellL x r) ∧ Ext w w' := by
  obtain ⟨a0, a1, hE⟩ := boxes2 w (vw5 x u) (ro8 r v) 31 55
  have hin' := hin.ext hE
  obtain ⟨c, hc⟩ : ∃ c, c = cellOf r.cols x.on := ⟨_, rfl⟩
  have hL : cellL x r = if c.at_ < 1 then [] else [⟨x.on, c⟩] := by rw [hc]; rfl
  have Hc := Lib.hid hc
  have HL := Lib.hid hL
  clear hc hL
  go_enter Try.func79, Try.ntmps79
  go_wp2_with fail
  refine (rcell_any r v x.on _ hin').mono ?_
  rw [← Hc.out]
  rintro e w1 ⟨rfl, hE1⟩
  have y := (a0.ext hE1).allocs
  have hX := (hE.trans hE1).alloc (.cells (cl4 c) 52)
  clear a0 a1 hE hE1 hin hin'
  cases d : decide (c.at_ < 1)
  · have e1 : cellL x r = [⟨x.on, c⟩] := by rw [HL.out, if_neg (by simpa using d)]
    have HE := Lib.hid e1
    clear e1
    go_wp2_with fail
    go_ret
    rw [HE.out]
    refine ⟨_, _, rfl, ?_, hX.alloc _⟩
    exact TIn.box (xs := coCells [⟨x.on, c⟩]) (BoxAt.madeN (co5 ⟨x.on, c⟩) 58 (by simp)) (by unfold maxLen; show 1 ≤ 2 ^ 63 - 1; decide)
  · have e1 : cellL x r = [] := by rw [HL.out, if_pos (by simpa using d)]
    have HE := Lib.hid e1
    clear e1
    go_wp2_with fail
    go_ret
    rw [HE.out]
    exact ⟨_, _, rfl, ColsT.nil _, hX⟩
end Go.Proofs.Yteamiiekpjoclaa

/- part.Row. -/
namespace Go.Proofs.Yteamiiekpjoclaa
open Go Go.RowKit
attribute [local go_sem] yields yUpon ro8 pa3

/-- A partition's row. -/
def rowOf : List Ro → ByteArray → Ro
  | [], key => ⟨key, zeroCl, 0, 0, []⟩
  | r :: l, key => if r.key.toList == key.toList then r else rowOf l key
def hasRow : List Ro → ByteArray → Bool
  | [], _ => false
  | r :: l, key => if r.key.toList == key.toList then true else hasRow l key

set_option maxRecDepth 100000 in
set_option maxHeartbeats 4000000 in
theorem prow_typed (pk : ByteArray) (pg : Int) (pu : Value) (ps : List (Ro × Value)) (key : ByteArray) (w : World) (hin : RowsIn w pu ps) (hcl : ∀ p ∈ ps, p.1.cols.length ≤ 1000000) :
    Calls Try.prog 24 #[.agg #[.string pk, .int .i64 pg, pu], .string key] w fun e w' => ∃ v', e = .returned (.tuple #[(.agg #[.string (rowOf (ps.map (·.1)) key).key, .string (rowOf (ps.map (·.1)) key).live.val, .bool (rowOf (ps.map (·.1)) key).live.dead, .int .i64 (rowOf (ps.map (·.1)) key).live.at_, .int .i64 (rowOf (ps.map (·.1)) key).live.fin, .int .i64 (rowOf (ps.map (·.1)) key).gone, .int .i64 (rowOf (ps.map (·.1)) key).shade, v']), .bool (hasRow (ps.map (·.1)) key)]) ∧ ColsT w' v' (rowOf (ps.map (·.1)) key).cols ∧ Ext w w' := by
  obtain ⟨a0, a1, hE⟩ := boxes2 w (pa3 pk pg pu) (ro8 ⟨⟨#[]⟩, zeroCl, 0, 0, []⟩ (.slice none 0 0)) 39 55
  obtain ⟨aa, ca, rfl, hca, hcma, hget⟩ := hin.get
  obtain ⟨n, hn⟩ : ∃ n, n = ps.length := ⟨_, rfl⟩
  rw [← hn] at hca a0 a1 hE ⊢
  have HN := Lib.hid hn
  have HGET := Lib.hid hget
  have HC := Lib.hid hin.cols
  have HCL := Lib.hid hcl
  obtain ⟨R, hR⟩ : ∃ R, R = rowOf (ps.map (·.1)) key := ⟨_, rfl⟩
  obtain ⟨B, hB⟩ : ∃ B, B = hasRow (ps.map (·.1)) key := ⟨_, rfl⟩
  rw [← hR, ← hB]
  have HR := Lib.hid hR
  have HB := Lib.hid hB
  clear hn hget hin hcl hR hB
  go_enter Try.func24, Try.ntmps24
  go_wp2
  go_loopw [11] (fun i wr => ∃ k : Nat, k ≤ n ∧ i = .int .i64 k ∧ BoxAt wr (w.heap.size + 1) (ro8 ⟨⟨#[]⟩, zeroCl, 0, 0, []⟩ (.slice none 0 0)) 55 ∧ Ext w wr ∧ Hid (R = rowOf ((ps.map (·.1)).drop k) key) ∧ Hid (B = hasRow ((ps.map (·.1)).drop k) key)) (fun i _ => n - (intOf i).toNat)
  case atStart => exact ⟨0, Nat.zero_le _, rfl, a1, hE, HR.out, HB.out⟩
  case round =>
    obtain ⟨k, hk, rfl, b1, hE1, HRk, HBk⟩ := hrel
    clear a0 a1
    by_cases hlt : k < n
    · have hkp : k < ps.length := by rw [← HN.out]; exact hlt
      have hkc := HCL.out _ (List.getElem_mem hkp)
      have hcu := HC.out _ (List.getElem_mem hkp)
      obtain ⟨b, o, rfl, hat⟩ := HGET.out k hkp
      have hdrop : (ps.map (·.1)).drop k = ps[k].1 :: (ps.map (·.1)).drop (k + 1) := by
        rw [List.drop_eq_getElem_cons (by simpa using hkp)]
        simp
      obtain ⟨M, hM⟩ : ∃ M, M = ps[k].1 := ⟨_, rfl⟩
      obtain ⟨au, cu, hu⟩ := hcu.shape
      rw [← hM] at hkc hcu hu hdrop hat
      rw [hu] at hcu hat
      have HDR := Lib.hid hdrop
      clear hM hu hdrop
      obtain ⟨L, hL⟩ : ∃ L, L = M.cols := ⟨_, rfl⟩
      rw [← hL] at hcu hat hkc
      have HL := Lib.hid hL
      clear hL
      obtain ⟨m, hm⟩ : ∃ m, m = L.length := ⟨_, rfl⟩
      rw [← hm] at hcu hat
      clear hm
      replace hat := hat.ext hE1
      replace hcu := hcu.ext hE1
      obtain ⟨x0, x1, x2, x3, x4, x5, x6, x7⟩ := hat
      have hsz1 := b1.lt
      cases hkey : (M.key.toList == key.toList)
      · go_wp2_with (((guard_target =~ wpList _ _ _ (Oper.mk none (Op.store _ (Operand.tmp 7) (Operand.tmp 14)) _ _ _ _ :: _) _ _); go_must (refine storeBox rfl 55 (.tmp 7) (.tmp 14) rfl (wr.heap.size) _ _ _ (by rfl) (by rfl) ((BoxAt.made wr (ro8 ⟨⟨#[]⟩, zeroCl, 0, 0, []⟩ (.slice none 0 0)) 55)) (by kernel_rfl) (by rfl) (by simp [Value.oneCell']) ?_); intro w4 c4 g4); have hX4 : Ext wr w4 := ((Ext.refl wr).alloc _).grown g4 (fun q hq => by cases hq; omega); have d4 := c4.ro (r := ⟨M.key, M.live, M.gone, M.shade, []⟩) (v := .slice au m cu))
        go_roundw
        case rel =>
          refine ⟨k + 1, hlt, rfl, b1.ext hX4, hE1.trans hX4, ?_, ?_⟩
          · show _ = _
            rw [HRk.out, HDR.out, rowOf, if_neg (by rw [hkey]; decide)]
          · show _ = _
            rw [HBk.out, HDR.out, hasRow, if_neg (by rw [hkey]; decide)]
        case measure => simp [intOf]; omega
      · have hR : R = M := by rw [HRk.out, HDR.out, rowOf, if_pos hkey]
        have hB : B = true := by rw [HBk.out, HDR.out, hasRow, if_pos hkey]
        rw [hR, hB]
        go_wp2_with (((guard_target =~ wpList _ _ _ (Oper.mk none (Op.store _ (Operand.tmp 7) (Operand.tmp 14)) _ _ _ _ :: _) _ _); go_must (refine storeBox rfl 55 (.tmp 7) (.tmp 14) rfl (wr.heap.size) _ _ _ (by rfl) (by rfl) ((BoxAt.made wr (ro8 ⟨⟨#[]⟩, zeroCl, 0, 0, []⟩ (.slice none 0 0)) 55)) (by kernel_rfl) (by rfl) (by simp [Value.oneCell']) ?_); intro w4 c4 g4); have hX4 : Ext wr w4 := ((Ext.refl wr).alloc _).grown g4 (fun q hq => by cases hq; omega); have d4 := c4.ro (r := ⟨M.key, M.live, M.gone, M.shade, []⟩) (v := .slice au m cu))
        refine (clone_any _ L w4 (hcu.ext hX4) hkc).mono ?_
        rintro e w5 ⟨v5, rfl, hown5, hE5⟩
        obtain ⟨a5, c5', rfl⟩ := own_shape hown5
        have b5 := b1.ext (hX4.trans hE5)
        have r5 : BoxAt w5 wr.heap.size (ro8 ⟨M.key, M.live, M.gone, M.shade, []⟩ (.slice au m cu)) 55 := c4.ext hE5
        have d5 := r5.ro
        have f5 := r5.free 7
        have hX5 := hE1.trans (hX4.trans hE5)
        clear d4 c4 x0 x1 x2 x3 x4 x5 x6 x7
        go_wp2_with (((guard_target =~ wpList _ _ _ (Oper.mk none (Op.store _ (Operand.tmp 4) (Operand.tmp 23)) _ _ _ _ :: _) _ _); go_must (refine storeBox rfl 55 (.tmp 4) (.tmp 23) rfl (w.heap.size + 1) _ _ _ (by rfl) (by rfl) ((b5.other (by omega) _ _)) (by kernel_rfl) (by rfl) (by simp [Value.oneCell']) ?_); intro w6 c6 g6))
        have hownS := own_setCell (u := .slice a5 L.length c5') (i := 7) hown5 (own_ne_box hown5 r5 (by decide))
        have b5s := b5.other (show w.heap.size + 1 ≠ wr.heap.size by omega) 7 (.slice a5 L.length c5')
        have hown6 := hownS.kept g6 (own_ne_box hownS b5s (by decide))
        have hX6 := (hX5.setCell (p := ⟨wr.heap.size, 7, none⟩) (by show w.heap.size ≤ wr.heap.size; omega) (.slice a5 L.length c5')).grown g6 (fun q hq => by cases hq; omega)
        obtain ⟨z0, z1, z2, z3, z4, z5, z6, z7⟩ := c6.ro (r := ⟨M.key, M.live, M.gone, M.shade, []⟩) (v := .slice a5 L.length c5')
        refine bodyPost_ret (v := .tuple #[.agg #[.string M.key, .string M.live.val, .bool M.live.dead, .int .i64 M.live.at_, .int .i64 M.live.fin, .int .i64 M.gone, .int .i64 M.shade, .slice a5 L.length c5'], .bool true]) ?_ rfl ⟨_, by rw [hR, hB], ?_, hX6⟩
        · simp [results, Try.results24, go_sem, z0, z1, z2, z3, z4, z5, z6, z7]
        · rw [hR, ← HL.out]
          exact TIn.own hown6
    · have hR : R = ⟨key, zeroCl, 0, 0, []⟩ := by rw [HRk.out, List.drop_eq_nil_of_le (by simp; rw [← HN.out]; omega)]; rfl
      have hB : B = false := by rw [HBk.out, List.drop_eq_nil_of_le (by simp; rw [← HN.out]; omega)]; rfl
      go_wp2_with (((guard_target =~ wpList _ _ _ (Oper.mk none (Op.store _ (Operand.tmp 4) (Operand.tmp 26)) _ _ _ _ :: _) _ _); go_must (refine storeBox rfl 55 (.tmp 4) (.tmp 26) rfl (w.heap.size + 1) _ _ _ (by rfl) (by rfl) (b1) (by kernel_rfl) (by rfl) (by simp [Value.oneCell']) ?_); intro w6 c6 g6))
      obtain ⟨z0, z1, z2, z3, z4, z5, z6, z7⟩ := c6.ro (r := ⟨key, zeroCl, 0, 0, []⟩) (v := .slice none 0 0)
      refine bodyPost_ret (v := .tuple #[.agg #[.string key, .string ⟨#[]⟩, .bool false, .int .i64 0, .int .i64 0, .int .i64 0, .int .i64 0, .slice none 0 0], .bool false]) ?_ rfl ⟨_, by rw [hR, hB]; rfl, ?_, hE1.grown g6 (fun q hq => by cases hq; omega)⟩
      · simp [results, Try.results24, go_sem, z0, z1, z2, z3, z4, z5, z6, z7, zeroCl]
      · rw [hR]
        exact ColsT.nil _
theorem prow_any (pk : ByteArray) (pg : Int) (pu : Value) (ps : List (Ro × Value)) (key : ByteArray) (w : World) (hin : RowsIn w pu ps) (hcl : ∀ p ∈ ps, p.1.cols.length ≤ 1000000) :
    Calls Try.prog 24 #[.agg #[.string pk, .int .i64 pg, pu], .string key] w fun e w' => ∃ v', e = .returned (.tuple #[(.agg #[.string (rowOf (ps.map (·.1)) key).key, .string (rowOf (ps.map (·.1)) key).live.val, .bool (rowOf (ps.map (·.1)) key).live.dead, .int .i64 (rowOf (ps.map (·.1)) key).live.at_, .int .i64 (rowOf (ps.map (·.1)) key).live.fin, .int .i64 (rowOf (ps.map (·.1)) key).gone, .int .i64 (rowOf (ps.map (·.1)) key).shade, v']), .bool (hasRow (ps.map (·.1)) key)]) ∧ ColsIn w' v' (rowOf (ps.map (·.1)) key).cols ∧ Ext w w' :=
  (prow_typed pk pg pu ps key w hin hcl).mono fun _ _ ⟨v', h1, h2, h3⟩ => ⟨v', h1, h2.cols, h3⟩
end Go.Proofs.Yteamiiekpjoclaa

/- slices.Equal over columns, row.Same, slices.EqualFunc over rows, part.Same. -/
namespace Go.Proofs.Yteamiiekpjoclaa
open Go Go.RowKit
attribute [local go_sem] yields yUpon ro8 pa3

/-- Alike. -/
noncomputable def eqB {α : Type} (a b : α) : Bool := @decide (a = b) (Classical.propDecidable _)
theorem eqB_iff {α : Type} {a b : α} : eqB a b = true ↔ a = b := by unfold eqB; exact @decide_eq_true_iff _ (Classical.propDecidable _)
theorem eqB_true {α : Type} {a b : α} (h : a = b) : eqB a b = true := eqB_iff.2 h
theorem eqB_false {α : Type} {a b : α} (h : a ≠ b) : eqB a b = false := by
  cases e : eqB a b with
  | false => rfl
  | true => exact absurd (eqB_iff.1 e) h

theorem bytes_ext {a b : ByteArray} (h : a.toList = b.toList) : a = b := by
  rw [ByteArray.toList_eq, ByteArray.toList_eq] at h
  cases a; cases b
  simp at h
  rw [h]
theorem cl_ext {c d : Cl} (h2 : c.val.toList = d.val.toList) (h3 : c.dead = d.dead) (h4 : c.at_ = d.at_) (h5 : c.fin = d.fin) : c = d := by
  cases c; cases d
  simp only at *
  rw [bytes_ext h2, h3, h4, h5]
theorem co_ext {c d : Co} (h1 : c.name.toList = d.name.toList) (h2 : c.cell.val.toList = d.cell.val.toList) (h3 : c.cell.dead = d.cell.dead) (h4 : c.cell.at_ = d.cell.at_) (h5 : c.cell.fin = d.cell.fin) : c = d := by
  have := cl_ext h2 h3 h4 h5
  cases c; cases d
  simp only at *
  rw [bytes_ext h1, this]

set_option maxRecDepth 100000 in
set_option maxHeartbeats 2000000 in
theorem eqCols_any (v v' : Value) (l l' : List Co) (w : World) (hin : ColsIn w v l) (hin' : ColsIn w v' l') :
    Calls Try.prog 104 #[v, v'] w fun e w' => e = .returned (.bool (eqB l l')) ∧ Ext w w' := by
  obtain ⟨a, c, rfl, hc, hcm, hcell⟩ := hin.get
  obtain ⟨a', c', rfl, hc', hcm', hcell'⟩ := hin'.get
  have HC := Lib.hid hcell
  have HC' := Lib.hid hcell'
  clear hcell hin hcell' hin'
  by_cases hlen : l.length = l'.length
  · obtain ⟨n, hn⟩ : ∃ n, n = l.length := ⟨_, rfl⟩
    rw [← hn] at hlen hc ⊢
    rw [← hlen] at hc' ⊢
    have HN := Lib.hid hn
    have HN' := Lib.hid hlen
    clear hn hlen
    go_enter Try.func104, Try.ntmps104
    go_wp2
    go_loopw [13] (fun i wr => ∃ k : Nat, k ≤ n ∧ i = .int .i64 k ∧ Ext w wr ∧ Hid (l.take k = l'.take k)) (fun i _ => n - (intOf i).toNat)
    case atStart => exact ⟨0, Nat.zero_le _, rfl, Ext.refl w, rfl⟩
    case round =>
      obtain ⟨k, hk, rfl, hE, HT⟩ := hrel
      by_cases hlt : k < n
      · have hl1 : k < l.length := by rw [← HN.out]; exact hlt
        have hl2 : k < l'.length := by rw [← HN'.out]; exact hlt
        obtain ⟨b, o, rfl, hco⟩ := HC.out k hl1
        obtain ⟨b', o', rfl, hco'⟩ := HC'.out k hl2
        obtain ⟨M, hM⟩ : ∃ M, M = l[k] := ⟨_, rfl⟩
        obtain ⟨M', hM'⟩ : ∃ M', M' = l'[k] := ⟨_, rfl⟩
        rw [← hM] at hco
        rw [← hM'] at hco'
        have HM := Lib.hid hM
        have HM' := Lib.hid hM'
        clear hM hM'
        obtain ⟨g0, g1, g2, g3, g4⟩ := hco.ext hE
        obtain ⟨y0, y1, y2, y3, y4⟩ := hco'.ext hE
        clear hco hco'
        have hki : decide ((k : Int) < (n : Int)) = true := by simpa using hlt
        replace g0 := held g0
        replace g1 := held g1
        replace g2 := held g2
        replace g3 := held g3
        replace g4 := held g4
        replace y0 := held y0
        replace y1 := held y1
        replace y2 := held y2
        replace y3 := held y3
        replace y4 := held y4
        go_wp2_with fail
        refine wp_region_tab 9 [] (by kernel_rfl) (by kernel_rfl) (by kernel_rfl) trivial ?_
        refine rg_quiet rfl rfl rfl rfl ?_; intro K hK; go_big_quiet_op; go_big_quiet_on
        refine rg_quiet rfl rfl rfl rfl ?_; intro K hK; go_big_quiet_op; go_big_quiet_on
        refine rg_quiet rfl rfl rfl rfl ?_; intro K hK; go_big_quiet_op; go_big_quiet_on
        refine rg_quiet rfl rfl rfl rfl ?_; intro K hK; go_big_quiet_op; go_big_quiet_on
        refine rg_quiet rfl rfl rfl rfl ?_; intro K hK; go_big_quiet_op; go_big_quiet_on
        refine rg_quiet rfl rfl rfl rfl ?_; intro K hK; go_big_quiet_op; go_big_quiet_on
        refine rg_quiet rfl rfl rfl rfl ?_; intro K hK; go_big_quiet_op; go_big_quiet_on
        refine rg_quiet rfl rfl rfl rfl ?_; intro K hK; go_big_quiet_op; go_big_quiet_on
        refine rg_quiet rfl rfl rfl rfl ?_; intro K hK; go_big_quiet_op
        refine ⟨.bool (!eqB M M'), fun q => ?_, hK _ ?_⟩
        · by_cases h1 : M.name.toList = M'.name.toList
          · by_cases h2 : M.cell.val.toList = M'.cell.val.toList
            · by_cases h3 : M.cell.dead = M'.cell.dead
              · by_cases h4 : M.cell.at_ = M'.cell.at_
                · by_cases h5 : M.cell.fin = M'.cell.fin
                  · have e : M = M' := co_ext h1 h2 h3 h4 h5
                    rw [if_pos h1, if_pos h2, if_pos h3, if_pos h4, if_pos h5, eqB_true e]
                    exact ⟨rfl, rfl⟩
                  · rw [if_pos h1, if_pos h2, if_pos h3, if_pos h4, if_neg h5, eqB_false (fun e => h5 (by rw [e]))]
                    exact ⟨rfl, rfl⟩
                · rw [if_pos h1, if_pos h2, if_pos h3, if_neg h4, eqB_false (fun e => h4 (by rw [e]))]
                  exact ⟨rfl, rfl⟩
              · rw [if_pos h1, if_pos h2, if_neg h3, eqB_false (fun e => h3 (by rw [e]))]
                exact ⟨rfl, rfl⟩
            · rw [if_pos h1, if_neg h2, eqB_false (fun e => h2 (by rw [e]))]
              exact ⟨rfl, rfl⟩
          · rw [if_neg h1, eqB_false (fun e => h1 (by rw [e]))]
            exact ⟨rfl, rfl⟩
        clear hK K
        refine rel_nil fun w5 hE5 _ => ?_
        clear g0 g1 g2 g3 g4 y0 y1 y2 y3 y4
        by_cases hMM : M = M'
        · rw [eqB_true hMM]
          go_wp2_with fail
          go_roundw
          case rel =>
            refine ⟨k + 1, hlt, rfl, hE.trans hE5, ?_⟩
            show _ = _
            rw [List.take_succ_eq_append_getElem hl1, List.take_succ_eq_append_getElem hl2, HT.out, ← HM.out, ← HM'.out, hMM]
          case measure => simp [intOf]; omega
        · rw [eqB_false hMM]
          go_wp2_with fail
          go_ret
          rw [eqB_false (fun e => hMM (by rw [HM.out, HM'.out]; simp only [e]))]
          exact ⟨rfl, hE.trans hE5⟩
      · go_wp2_with fail
        go_ret
        rw [eqB_true (by
          have := HT.out
          rwa [List.take_of_length_le (by rw [← HN.out]; omega), List.take_of_length_le (by rw [← HN'.out]; omega)] at this)]
        exact ⟨rfl, hE⟩
  · have hne : l ≠ l' := fun e => hlen (by rw [e])
    have HB := Lib.hid (eqB_false hne)
    go_enter Try.func104, Try.ntmps104
    go_wp2
    go_ret
    exact ⟨by rw [HB.out]; rfl, Ext.refl w⟩

theorem ro_ext {a b : Ro} (h1 : a.key.toList = b.key.toList) (h2 : a.live.val.toList = b.live.val.toList) (h3 : a.live.dead = b.live.dead) (h4 : a.live.at_ = b.live.at_) (h5 : a.live.fin = b.live.fin) (h6 : a.gone = b.gone) (h7 : a.shade = b.shade) (h8 : a.cols = b.cols) : a = b := by
  have := cl_ext h2 h3 h4 h5
  cases a; cases b
  simp only at *
  rw [bytes_ext h1, this, h6, h7, h8]

set_option maxRecDepth 100000 in
set_option maxHeartbeats 4000000 in
theorem rowSame_any (a b : Ro) (va vb : Value) (w : World) (ha : ColsIn w va a.cols) (hb : ColsIn w vb b.cols) :
    Calls Try.prog 81 #[(.agg #[.string a.key, .string a.live.val, .bool a.live.dead, .int .i64 a.live.at_, .int .i64 a.live.fin, .int .i64 a.gone, .int .i64 a.shade, va]), (.agg #[.string b.key, .string b.live.val, .bool b.live.dead, .int .i64 b.live.at_, .int .i64 b.live.fin, .int .i64 b.gone, .int .i64 b.shade, vb])] w fun e w' => e = .returned (.bool (eqB a b)) ∧ Ext w w' := by
  go_enter Try.func81, Try.ntmps81
  go_wp2_with fail
  rotate_left
  all_goals try
    rename_i h
    go_ret
    exact ⟨by rw [eqB_false (fun e => h (by rw [e]))]; rfl, ((Ext.refl w).alloc _).alloc _⟩
  rename_i h1 h2 h3 h4 h5 h6 h7 _ _
  refine (eqCols_any va vb a.cols b.cols _ (ha.ext (((Ext.refl w).alloc _).alloc _)) (hb.ext (((Ext.refl w).alloc _).alloc _))).mono ?_
  rintro e w1 ⟨rfl, hE1⟩
  have he : eqB a.cols b.cols = eqB a b := by
    by_cases h : a.cols = b.cols
    · rw [eqB_true h, eqB_true (ro_ext h1 h2 h3 h4 h5 h6 h7 h)]
    · rw [eqB_false h, eqB_false (fun e => h (by rw [e]))]
  rw [he]
  obtain ⟨B, hB⟩ : ∃ B, B = eqB a b := ⟨_, rfl⟩
  rw [← hB]
  have HB := Lib.hid hB
  clear hB he h1 h2 h3 h4 h5 h6 h7
  go_wp2_with fail
  go_ret
  exact ⟨by rw [← HB.out]; rfl, (((Ext.refl w).alloc _).alloc _).trans hE1⟩

set_option maxRecDepth 100000 in
set_option maxHeartbeats 4000000 in
theorem eqRows_any (v v' : Value) (ps ps' : List (Ro × Value)) (w : World) (hin : RowsIn w v ps) (hin' : RowsIn w v' ps') :
    Calls Try.prog 80 #[v, v', .func (.func 81) #[] #[]] w fun e w' => e = .returned (.bool (eqB (ps.map (·.1)) (ps'.map (·.1)))) ∧ Ext w w' := by
  obtain ⟨a, c, rfl, hc, hcm, hcell⟩ := hin.get
  obtain ⟨a', c', rfl, hc', hcm', hcell'⟩ := hin'.get
  have HC := Lib.hid hcell
  have HC' := Lib.hid hcell'
  have HK := Lib.hid hin.cols
  have HK' := Lib.hid hin'.cols
  clear hcell hin hcell' hin'
  by_cases hlen : ps.length = ps'.length
  · obtain ⟨n, hn⟩ : ∃ n, n = ps.length := ⟨_, rfl⟩
    rw [← hn] at hlen hc ⊢
    rw [← hlen] at hc' ⊢
    have HN := Lib.hid hn
    have HN' := Lib.hid hlen
    clear hn hlen
    obtain ⟨l, hl⟩ : ∃ l, l = ps.map (·.1) := ⟨_, rfl⟩
    obtain ⟨l', hl'⟩ : ∃ l', l' = ps'.map (·.1) := ⟨_, rfl⟩
    rw [← hl, ← hl']
    have HL := Lib.hid hl
    have HL' := Lib.hid hl'
    clear hl hl'
    go_enter Try.func80, Try.ntmps80
    go_wp2
    go_loopw [17] (fun i wr => ∃ k : Nat, k ≤ n ∧ i = .int .i64 k ∧ Ext w wr ∧ Hid (l.take k = l'.take k)) (fun i _ => n - (intOf i).toNat)
    case atStart => exact ⟨0, Nat.zero_le _, rfl, Ext.refl w, rfl⟩
    case round =>
      obtain ⟨k, hk, rfl, hE, HT⟩ := hrel
      by_cases hlt : k < n
      · have hl1 : k < ps.length := by rw [← HN.out]; exact hlt
        have hl2 : k < ps'.length := by rw [← HN'.out]; exact hlt
        have hll : k < l.length := by rw [HL.out]; simpa using hl1
        have hll' : k < l'.length := by rw [HL'.out]; simpa using hl2
        obtain ⟨b, o, rfl, hco⟩ := HC.out k hl1
        obtain ⟨b', o', rfl, hco'⟩ := HC'.out k hl2
        have hk1 := HK.out _ (List.getElem_mem hl1)
        have hk2 := HK'.out _ (List.getElem_mem hl2)
        obtain ⟨M, hM⟩ : ∃ M, M = ps[k].1 := ⟨_, rfl⟩
        obtain ⟨M', hM'⟩ : ∃ M', M' = ps'[k].1 := ⟨_, rfl⟩
        obtain ⟨au, cu, hu⟩ := hk1.shape
        obtain ⟨au', cu', hu'⟩ := hk2.shape
        rw [← hM] at hco hk1 hu
        rw [← hM'] at hco' hk2 hu'
        rw [hu] at hco hk1
        rw [hu'] at hco' hk2
        have hM1 : M = l[k] := by simp only [HL.out, List.getElem_map]; exact hM
        have hM1' : M' = l'[k] := by simp only [HL'.out, List.getElem_map]; exact hM'
        have HM := Lib.hid hM1
        have HM' := Lib.hid hM1'
        clear hM hM' hu hu' hM1 hM1'
        obtain ⟨mm, hmm⟩ : ∃ mm, mm = M.cols.length := ⟨_, rfl⟩
        obtain ⟨mm', hmm'⟩ : ∃ mm', mm' = M'.cols.length := ⟨_, rfl⟩
        rw [← hmm] at hco hk1
        rw [← hmm'] at hco' hk2
        clear hmm hmm'
        obtain ⟨g0, g1, g2, g3, g4, g5, g6, g7⟩ := hco.ext hE
        have hco2 := hco'.ext hE
        go_wp2_with (first
          | (((guard_target =~ wpList _ _ _ (Oper.mk none (Op.store _ (Operand.tmp 8) (Operand.tmp 21)) _ _ _ _ :: _) _ _); go_must (refine storeBox rfl 55 (.tmp 8) (.tmp 21) rfl (wr.heap.size) _ _ _ (by rfl) (by rfl) ((BoxAt.made wr (ro8 ⟨⟨#[]⟩, zeroCl, 0, 0, []⟩ (.slice none 0 0)) 55)) (by kernel_rfl) (by rfl) (by simp [Value.oneCell']) ?_); intro w4 c4 gg4); have hX4 : Ext wr w4 := ((Ext.refl wr).alloc _).grown gg4 (fun q hq => by cases hq; omega); obtain ⟨y0, y1, y2, y3, y4, y5, y6, y7⟩ := hco2.ext hX4)
          | (((guard_target =~ wpList _ _ _ (Oper.mk none (Op.store _ (Operand.tmp 9) (Operand.tmp 25)) _ _ _ _ :: _) _ _); go_must (refine storeBox rfl 55 (.tmp 9) (.tmp 25) rfl (w4.heap.size) _ _ _ (by rfl) (by rfl) ((BoxAt.made w4 (ro8 ⟨⟨#[]⟩, zeroCl, 0, 0, []⟩ (.slice none 0 0)) 55)) (by kernel_rfl) (by rfl) (by simp [Value.oneCell']) ?_); intro w5 c5 gg5); have hX5 : Ext w4 w5 := ((Ext.refl w4).alloc _).grown gg5 (fun q hq => by cases hq; omega); have d4 := (c4.ext hX5).ro (r := ⟨M.key, M.live, M.gone, M.shade, []⟩) (v := .slice au mm cu); have d5 := c5.ro (r := ⟨M'.key, M'.live, M'.gone, M'.shade, []⟩) (v := .slice au' mm' cu')))
        refine (rowSame_any M M' _ _ w5 (hk1.ext ((hE.trans hX4).trans hX5)) (hk2.ext ((hE.trans hX4).trans hX5))).mono ?_
        rintro e w6 ⟨rfl, hE6⟩
        have hX6 := ((hE.trans hX4).trans hX5).trans hE6
        clear d4 d5 g0 g1 g2 g3 g4 g5 g6 g7 y0 y1 y2 y3 y4 y5 y6 y7 c4 c5 gg4 gg5
        by_cases hMM : M = M'
        · rw [eqB_true hMM]
          go_wp2_with fail
          go_roundw
          case rel =>
            refine ⟨k + 1, hlt, rfl, hX6, ?_⟩
            show _ = _
            rw [List.take_succ_eq_append_getElem hll, List.take_succ_eq_append_getElem hll', HT.out, ← HM.out, ← HM'.out, hMM]
          case measure => simp [intOf]; omega
        · rw [eqB_false hMM]
          go_wp2_with fail
          go_ret
          rw [eqB_false (fun e => hMM (by rw [HM.out, HM'.out]; simp only [e]))]
          exact ⟨rfl, hX6⟩
      · go_wp2_with fail
        go_ret
        rw [eqB_true (by
          have := HT.out
          rwa [List.take_of_length_le (by rw [HL.out]; simp; rw [← HN.out]; omega), List.take_of_length_le (by rw [HL'.out]; simp; rw [← HN'.out]; omega)] at this)]
        exact ⟨rfl, hE⟩
  · have hne : ps.map (·.1) ≠ ps'.map (·.1) := fun e => hlen (by have := congrArg List.length e; simpa using this)
    have HB := Lib.hid (eqB_false hne)
    go_enter Try.func80, Try.ntmps80
    go_wp2
    go_ret
    exact ⟨by rw [HB.out]; rfl, Ext.refl w⟩

set_option maxRecDepth 100000 in
set_option maxHeartbeats 4000000 in
theorem partSame_any (k k' : ByteArray) (g g' : Int) (u u' : Value) (ps ps' : List (Ro × Value)) (w : World) (hin : RowsIn w u ps) (hin' : RowsIn w u' ps') :
    Calls Try.prog 48 #[.agg #[.string k, .int .i64 g, u], .agg #[.string k', .int .i64 g', u']] w fun e w' => e = .returned (.bool (eqB (k, g, ps.map (·.1)) (k', g', ps'.map (·.1)))) ∧ Ext w w' := by
  by_cases hg : g = g'
  · subst hg
    go_enter Try.func48, Try.ntmps48
    go_wp2_with fail
    rotate_left
    · rename_i h
      go_ret
      exact ⟨by rw [eqB_false (fun e => h (congrArg ByteArray.toList (congrArg Prod.fst e)))]; rfl, ((Ext.refl w).alloc _).alloc _⟩
    rename_i h1 _ _
    refine (eqRows_any u u' ps ps' _ (hin.ext (((Ext.refl w).alloc _).alloc _)) (hin'.ext (((Ext.refl w).alloc _).alloc _))).mono ?_
    rintro e w1 ⟨rfl, hE1⟩
    have he : eqB (ps.map (·.1)) (ps'.map (·.1)) = eqB (k, g, ps.map (·.1)) (k', g, ps'.map (·.1)) := by
      by_cases h : ps.map (·.1) = ps'.map (·.1)
      · rw [eqB_true h, eqB_true (by rw [bytes_ext h1, h])]
      · rw [eqB_false h, eqB_false (fun e => h (congrArg (fun p => p.2.2) e))]
    rw [he]
    obtain ⟨B, hB⟩ : ∃ B, B = eqB (k, g, ps.map (·.1)) (k', g, ps'.map (·.1)) := ⟨_, rfl⟩
    rw [← hB]
    have HB := Lib.hid hB
    clear hB he h1
    go_wp2_with fail
    go_ret
    exact ⟨by rw [← HB.out]; rfl, (((Ext.refl w).alloc _).alloc _).trans hE1⟩
  · have hgb : (g == g') = false := by simpa using hg
    have hne := Lib.hid (eqB_false (fun e : (k, g, ps.map (·.1)) = (k', g', ps'.map (·.1)) => hg (congrArg (fun p => p.2.1) e)))
    clear hg
    go_enter Try.func48, Try.ntmps48
    go_wp2_with fail
    all_goals
      go_ret
      exact ⟨by rw [hne.out]; rfl, ((Ext.refl w).alloc _).alloc _⟩
end Go.Proofs.Yteamiiekpjoclaa
