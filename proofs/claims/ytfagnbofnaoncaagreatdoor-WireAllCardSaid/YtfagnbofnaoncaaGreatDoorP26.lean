/- The reference's Same of any cells, columns, rows, lists of rows, partitions. -/
import Derived.Test.YtfagnbofnaoncaaGreatDoorP7
import Derived.Test.YtfagnbofnaoncaaGreatDoorP25
import Derived.Test.YtfagnbofnaoncaaGreatDoorP15
import Derived.BigQuiet
import Derived.Test.YtfagnbofnaoncaaGreatDoorP10
set_option linter.unusedSimpArgs false
set_option linter.unusedVariables false
namespace Go.Proofs.YtfagnbofnaoncaaGreatDoor
open Go Go.RowKit
attribute [local go_sem] yields yUpon ro8 pa3

theorem eqB_bool {α : Type} {a b : α} {c : Bool} (h : c = true ↔ a = b) : eqB a b = c := by
  cases c with
  | true => exact eqB_true (h.1 rfl)
  | false => exact eqB_false fun e => by have := h.2 e; cases this
theorem toList_eq {a b : ByteArray} : (a.toList == b.toList) = true ↔ a = b := by
  constructor
  · intro h; exact bytes_ext (by simpa using h)
  · rintro rfl; simp
theorem clB_eq (c d : Cl) : ((c.val.toList == d.val.toList) && (c.dead == d.dead) && (c.at_ == d.at_) && (c.fin == d.fin)) = true ↔ c = d := by
  rw [Bool.and_eq_true, Bool.and_eq_true, Bool.and_eq_true, toList_eq]
  obtain ⟨a1, a2, a3, a4⟩ := c
  obtain ⟨b1, b2, b3, b4⟩ := d
  simp [and_assoc]

set_option maxHeartbeats 1000000 in
theorem same6_any (c d : Cl) (w : World) : Calls Tryz.prog 123 #[(.agg #[.string c.val, .bool c.dead, .int .i64 c.at_, .int .i64 c.fin]), (.agg #[.string d.val, .bool d.dead, .int .i64 d.at_, .int .i64 d.fin])] w fun e w' => e = .returned (.bool (eqB c d)) ∧ Ext w w' := by
  rw [eqB_bool (clB_eq c d)]
  cases e1 : (c.val.toList == d.val.toList)
  · go_enter Tryz.func123, Tryz.ntmps123
    go_wp2
    go_ret
    exact ⟨rfl, ((Ext.refl w).alloc _).alloc _⟩
  · cases e2 : (c.dead == d.dead)
    · go_enter Tryz.func123, Tryz.ntmps123
      go_wp2
      go_ret
      exact ⟨rfl, ((Ext.refl w).alloc _).alloc _⟩
    · cases e3 : (c.at_ == d.at_)
      · go_enter Tryz.func123, Tryz.ntmps123
        go_wp2
        go_ret
        exact ⟨rfl, ((Ext.refl w).alloc _).alloc _⟩
      · go_enter Tryz.func123, Tryz.ntmps123
        go_wp2
        go_ret
        exact ⟨ret_bool (by simp), ((Ext.refl w).alloc _).alloc _⟩

theorem list_split {α : Type} {l l' : List α} {k : Nat} (h : l.take k = l'.take k) (hk : k < l.length) (hk' : k < l'.length) (he : l[k] = l'[k]) : l.take (k + 1) = l'.take (k + 1) := by
  rw [List.take_succ_eq_append_getElem hk, List.take_succ_eq_append_getElem hk', h, he]

set_option maxRecDepth 100000 in
set_option maxHeartbeats 2000000 in
theorem sameCols_any (v v' : Value) (l l' : List Co) (w : World) (hin : ColsIn w v l) (hin' : ColsIn w v' l') :
    Calls Tryz.prog 124 #[v, v'] w fun e w' => e = .returned (.bool (eqB l l')) ∧ Ext w w' := by
  obtain ⟨a, c, rfl, hc, hcm, hcell⟩ := hin.get
  obtain ⟨a', c', rfl, hc', hcm', hcell'⟩ := hin'.get
  have HC := Lib.hid hcell
  have HC' := Lib.hid hcell'
  clear hcell hin hcell' hin'
  obtain ⟨R, hR⟩ : ∃ R, R = eqB l l' := ⟨_, rfl⟩
  rw [← hR]
  have HR := Lib.hid hR
  obtain ⟨n, hn⟩ : ∃ n, n = l.length := ⟨_, rfl⟩
  obtain ⟨n', hn'⟩ : ∃ n, n = l'.length := ⟨_, rfl⟩
  rw [← hn] at hc ⊢
  rw [← hn'] at hc' ⊢
  have HN := Lib.hid hn
  have HN' := Lib.hid hn'
  clear hR hn hn'
  by_cases hnn : n = n'
  · subst hnn
    go_enter Tryz.func124, Tryz.ntmps124
    go_wp2
    go_loopw [5] (fun i wr => ∃ k : Nat, k ≤ n ∧ i = .int .i64 k ∧ Ext w wr ∧ Hid (l.take k = l'.take k)) (fun i _ => n - (intOf i).toNat)
    case atStart => exact ⟨0, Nat.zero_le _, rfl, Ext.refl w, by show _ = _; rw [List.take_zero, List.take_zero]⟩
    case round =>
      obtain ⟨k, hk, rfl, hE, HK⟩ := hrel
      by_cases hlt : k < n
      · have hkl : k < l.length := by rw [← HN.out]; exact hlt
        have hkl' : k < l'.length := by rw [← HN'.out]; exact hlt
        obtain ⟨b, o, rfl, hco⟩ := HC.out k hkl
        obtain ⟨b', o', rfl, hco'⟩ := HC'.out k hkl'
        obtain ⟨M, hM⟩ : ∃ M, M = l[k] := ⟨_, rfl⟩
        obtain ⟨N, hN⟩ : ∃ N, N = l'[k] := ⟨_, rfl⟩
        rw [← hM] at hco
        rw [← hN] at hco'
        have HM := Lib.hid hM
        have HMN := Lib.hid hN
        clear hM hN
        have hne : M ≠ N → Hid (R = false) := fun h => by
          show R = false
          rw [HR.out]
          exact eqB_false fun e => h (by rw [HM.out, HMN.out]; simp only [e])
        obtain ⟨g0, g1, g2, g3, g4⟩ := hco.ext hE
        obtain ⟨y0, y1, y2, y3, y4⟩ := hco'.ext hE
        clear hco hco'
        have hki : decide ((k : Int) < (n : Int)) = true := by simpa using hlt
        obtain ⟨B, hB⟩ : ∃ B, B = eqB M.cell N.cell := ⟨_, rfl⟩
        have HB := Lib.hid hB
        clear hB
        cases e1 : (M.name.toList == N.name.toList)
        · have HF := hne fun e => by rw [e] at e1; simp at e1
          clear hne
          go_wp2_with fail
          refine wp_region_tab 25 [] (by kernel_rfl) (by kernel_rfl) (by kernel_rfl) trivial ?_
          replace g0 := held g0
          replace y0 := held y0
          refine rg_quiet rfl rfl rfl rfl ?_; intro K hK; go_big_quiet_op; go_big_quiet_on
          refine rg_quiet rfl rfl rfl rfl ?_; intro K hK; go_big_quiet_op; go_big_quiet_on
          refine rg_quiet rfl rfl rfl rfl ?_; intro K hK; go_big_quiet_op; go_big_quiet_on
          refine rg_quiet rfl rfl rfl rfl ?_; intro K hK; go_big_quiet_op; go_big_quiet_on
          refine rg_quiet rfl rfl rfl rfl ?_; intro K hK; go_big_quiet_op; go_big_quiet_on
          refine rg_quiet rfl rfl rfl rfl ?_; intro K hK; go_big_quiet_op; go_big_quiet_on
          refine rg_quiet rfl rfl rfl rfl ?_; intro K hK; go_big_quiet_op; go_big_quiet_on
          refine rg_quiet rfl rfl rfl rfl ?_; intro K hK; go_big_quiet_op; go_big_quiet_on
          refine rg_quiet rfl rfl rfl rfl ?_; intro K hK; go_big_quiet_op; go_big_quiet_on
          refine rg_quiet rfl rfl rfl rfl ?_; intro K hK; go_big_quiet_op; go_big_quiet_on
          refine rg_quiet rfl rfl rfl rfl ?_; intro K hK; go_big_quiet_op; go_big_quiet_on
          refine rg_quiet rfl rfl rfl rfl ?_; intro K hK; go_big_quiet_op; go_big_quiet_on
          refine rel_skip rfl rfl ?_
          simp only [Act.put, List.setIfInBounds_toArray, List.set_cons_zero, List.set_cons_succ]
          refine rel_skip rfl rfl ?_
          simp only [Act.put, List.setIfInBounds_toArray, List.set_cons_zero, List.set_cons_succ]
          refine rel_skip rfl rfl ?_
          simp only [Act.put, List.setIfInBounds_toArray, List.set_cons_zero, List.set_cons_succ]
          refine rel_skip rfl rfl ?_
          simp only [Act.put, List.setIfInBounds_toArray, List.set_cons_zero, List.set_cons_succ]
          refine rel_skip rfl rfl ?_
          simp only [Act.put, List.setIfInBounds_toArray, List.set_cons_zero, List.set_cons_succ]
          refine rel_skip rfl rfl ?_
          simp only [Act.put, List.setIfInBounds_toArray, List.set_cons_zero, List.set_cons_succ]
          refine rel_skip rfl rfl ?_
          simp only [Act.put, List.setIfInBounds_toArray, List.set_cons_zero, List.set_cons_succ]
          refine rel_skip rfl rfl ?_
          simp only [Act.put, List.setIfInBounds_toArray, List.set_cons_zero, List.set_cons_succ]
          refine rel_skip rfl rfl ?_
          simp only [Act.put, List.setIfInBounds_toArray, List.set_cons_zero, List.set_cons_succ]
          refine rel_skip rfl rfl ?_
          simp only [Act.put, List.setIfInBounds_toArray, List.set_cons_zero, List.set_cons_succ]
          refine rel_skip rfl rfl ?_
          simp only [Act.put, List.setIfInBounds_toArray, List.set_cons_zero, List.set_cons_succ]
          refine rel_skip rfl rfl ?_
          simp only [Act.put, List.setIfInBounds_toArray, List.set_cons_zero, List.set_cons_succ]
          refine rg_quiet rfl rfl rfl rfl ?_; intro K hK; go_big_quiet_op; go_big_quiet_on
          refine rel_nil fun w5 hE5 _ => ?_
          clear g0 g1 g2 g3 g4 y0 y1 y2 y3 y4
          go_wp2_with fail
          go_ret
          exact ⟨ret_bool HF.out.symm, hE.trans hE5⟩
        · have en : M.name = N.name := toList_eq.1 e1
          have HEN := Lib.hid en
          clear en
          go_wp2_with fail
          refine wp_region_tab 25 [(22, fun v _ => v = .bool B)] (by kernel_rfl) (by kernel_rfl) (by kernel_rfl) ⟨stays_eq _, trivial⟩ ?_
          replace g0 := held g0
          replace g1 := held g1
          replace g2 := held g2
          replace g3 := held g3
          replace g4 := held g4
          replace y0 := held y0
          replace y1 := held y1
          replace y2 := held y2
          replace y3 := held y3
          replace y4 := held y4
          refine rg_quiet rfl rfl rfl rfl ?_; intro K hK; go_big_quiet_op; go_big_quiet_on
          refine rg_quiet rfl rfl rfl rfl ?_; intro K hK; go_big_quiet_op; go_big_quiet_on
          refine rg_quiet rfl rfl rfl rfl ?_; intro K hK; go_big_quiet_op; go_big_quiet_on
          refine rg_quiet rfl rfl rfl rfl ?_; intro K hK; go_big_quiet_op; go_big_quiet_on
          refine rg_quiet rfl rfl rfl rfl ?_; intro K hK; go_big_quiet_op; go_big_quiet_on
          refine rg_quiet rfl rfl rfl rfl ?_; intro K hK; go_big_quiet_op; go_big_quiet_on
          refine rg_quiet rfl rfl rfl rfl ?_; intro K hK; go_big_quiet_op; go_big_quiet_on
          refine rg_quiet rfl rfl rfl rfl ?_; intro K hK; go_big_quiet_op; go_big_quiet_on
          refine rg_quiet rfl rfl rfl rfl ?_; intro K hK; go_big_quiet_op; go_big_quiet_on
          refine rg_quiet rfl rfl rfl rfl ?_; intro K hK; go_big_quiet_op; go_big_quiet_on
          refine rg_quiet rfl rfl rfl rfl ?_; intro K hK; go_big_quiet_op; go_big_quiet_on
          refine rg_quiet rfl rfl rfl rfl ?_; intro K hK; go_big_quiet_op; go_big_quiet_on
          refine rg_quiet rfl rfl rfl rfl ?_; intro K hK; go_big_quiet_op; go_big_quiet_on
          refine rg_quiet rfl rfl rfl rfl ?_; intro K hK; go_big_quiet_op; go_big_quiet_on
          refine rg_quiet rfl rfl rfl rfl ?_; intro K hK; go_big_quiet_op; go_big_quiet_on
          refine rg_quiet rfl rfl rfl rfl ?_; intro K hK; go_big_quiet_op; go_big_quiet_on
          refine rg_quiet rfl rfl rfl rfl ?_; intro K hK; go_big_quiet_op; go_big_quiet_on
          refine rg_quiet rfl rfl rfl rfl ?_; intro K hK; go_big_quiet_op; go_big_quiet_on
          refine rg_quiet rfl rfl rfl rfl ?_; intro K hK; go_big_quiet_op; go_big_quiet_on
          refine rg_quiet rfl rfl rfl rfl ?_; intro K hK; go_big_quiet_op; go_big_quiet_on
          refine rg_quiet rfl rfl rfl rfl ?_; intro K hK; go_big_quiet_op; go_big_quiet_on
          refine rg_quiet rfl rfl rfl rfl ?_; intro K hK; go_big_quiet_op; go_big_quiet_on
          refine rg_val [] rfl rfl rfl (by kernel_rfl) (fun w1 hE hf => ?_) ?_
          · go_simp
            exact (same6_any M.cell N.cell w1).mono fun e w' ⟨he, hw⟩ => ⟨_, he, rg_done hE hw (by rw [HB.out])⟩
          simp only [Act.put, List.setIfInBounds_toArray, List.set_cons_zero, List.set_cons_succ]
          cases B
          · have HF := hne fun e => by
              have := HB.out
              rw [e, eqB_true rfl] at this
              cases this
            clear hne
            refine rg_quiet rfl rfl rfl rfl ?_; intro K hK; go_big_quiet_op; go_big_quiet_on
            refine rg_quiet rfl rfl rfl rfl ?_; intro K hK; go_big_quiet_op; go_big_quiet_on
            refine rel_nil fun w5 hE5 _ => ?_
            clear g0 g1 g2 g3 g4 y0 y1 y2 y3 y4
            go_wp2_with fail
            go_ret
            exact ⟨ret_bool HF.out.symm, hE.trans hE5⟩
          · clear hne
            refine rg_quiet rfl rfl rfl rfl ?_; intro K hK; go_big_quiet_op; go_big_quiet_on
            refine rg_quiet rfl rfl rfl rfl ?_; intro K hK; go_big_quiet_op; go_big_quiet_on
            refine rel_nil fun w5 hE5 _ => ?_
            clear g0 g1 g2 g3 g4 y0 y1 y2 y3 y4
            go_wp2_with fail
            go_roundw
            case rel =>
              refine ⟨k + 1, by omega, by go_num, hE.trans hE5, list_split HK.out hkl hkl' ?_⟩
              rw [← HM.out, ← HMN.out]
              have hc := eqB_iff.1 HB.out.symm
              have hn := HEN.out
              obtain ⟨m1, m2⟩ := M
              obtain ⟨n1, n2⟩ := N
              simp only at hc hn
              rw [hc, hn]
            case measure => simp [intOf] <;> omega
      · obtain rfl : k = n := by omega
        have HT : Hid (R = true) := by
          show R = true
          rw [HR.out]
          refine eqB_true ?_
          have := HK.out
          rwa [List.take_of_length_le (by rw [← HN.out]; exact Nat.le_refl _), List.take_of_length_le (by rw [← HN'.out]; exact Nat.le_refl _)] at this
        go_wp2_with fail
        go_ret
        exact ⟨ret_bool HT.out.symm, hE⟩
  · have HF : Hid (R = false) := by
      show R = false
      rw [HR.out]
      exact eqB_false fun e => hnn (by rw [HN.out, HN'.out, e])
    have t1 : ((n : Int) == (n' : Int)) = false := by simp; omega
    go_enter Tryz.func124, Tryz.ntmps124
    go_wp2
    go_ret
    exact ⟨ret_bool HF.out.symm, Ext.refl w⟩

theorem roB_eq (a b : Ro) : ((a.key.toList == b.key.toList) && eqB a.live b.live && (a.gone == b.gone) && (a.shade == b.shade) && eqB a.cols b.cols) = true ↔ a = b := by
  rw [Bool.and_eq_true, Bool.and_eq_true, Bool.and_eq_true, Bool.and_eq_true, toList_eq, eqB_iff, eqB_iff]
  obtain ⟨a1, a2, a3, a4, a5⟩ := a
  obtain ⟨b1, b2, b3, b4, b5⟩ := b
  simp [and_assoc]

set_option maxRecDepth 100000 in
set_option maxHeartbeats 2000000 in
theorem same7_any (r t : Ro) (v v' : Value) (w : World) (hin : ColsIn w v r.cols) (hin' : ColsIn w v' t.cols) :
    Calls Tryz.prog 76 #[(.agg #[.string r.key, .string r.live.val, .bool r.live.dead, .int .i64 r.live.at_, .int .i64 r.live.fin, .int .i64 r.gone, .int .i64 r.shade, v]), (.agg #[.string t.key, .string t.live.val, .bool t.live.dead, .int .i64 t.live.at_, .int .i64 t.live.fin, .int .i64 t.gone, .int .i64 t.shade, v'])] w fun e w' => e = .returned (.bool (eqB r t)) ∧ Ext w w' := by
  obtain ⟨a0, a1, hE⟩ := boxes2 w (ro8 r v) (ro8 t v') 58 58
  have hin1 := hin.ext hE
  have hin1' := hin'.ext hE
  obtain ⟨B1, hB1⟩ : ∃ B, B = eqB r.live t.live := ⟨_, rfl⟩
  obtain ⟨B2, hB2⟩ : ∃ B, B = eqB r.cols t.cols := ⟨_, rfl⟩
  have hR := eqB_bool (roB_eq r t)
  rw [← hB1, ← hB2] at hR
  rw [hR]
  have HB1 := Lib.hid hB1
  have HB2 := Lib.hid hB2
  clear hB1 hB2 hR
  cases e1 : (r.key.toList == t.key.toList)
  · go_enter Tryz.func76, Tryz.ntmps76
    go_wp2_with fail
    go_ret
    exact ⟨rfl, hE⟩
  · cases B1
    · go_enter Tryz.func76, Tryz.ntmps76
      go_wp2_with fail
      refine (same6_any r.live t.live _).mono ?_
      rw [← HB1.out]
      rintro e w1 ⟨rfl, hE1⟩
      go_wp2_with fail
      go_ret
      exact ⟨rfl, hE.trans hE1⟩
    · cases e2 : (r.gone == t.gone)
      · go_enter Tryz.func76, Tryz.ntmps76
        go_wp2_with fail
        refine (same6_any r.live t.live _).mono ?_
        rw [← HB1.out]
        rintro e w1 ⟨rfl, hE1⟩
        have y0 : ∀ i, w1.cell? ⟨w.heap.size, i, none⟩ = (ro8 r v)[i]? := fun i => (a0.ext hE1).cell i
        have y1 : ∀ i, w1.cell? ⟨w.heap.size + 1, i, none⟩ = (ro8 t v')[i]? := fun i => (a1.ext hE1).cell i
        go_wp2_with fail
        go_ret
        exact ⟨rfl, hE.trans hE1⟩
      · cases e3 : (r.shade == t.shade)
        · go_enter Tryz.func76, Tryz.ntmps76
          go_wp2_with fail
          refine (same6_any r.live t.live _).mono ?_
          rw [← HB1.out]
          rintro e w1 ⟨rfl, hE1⟩
          have y0 : ∀ i, w1.cell? ⟨w.heap.size, i, none⟩ = (ro8 r v)[i]? := fun i => (a0.ext hE1).cell i
          have y1 : ∀ i, w1.cell? ⟨w.heap.size + 1, i, none⟩ = (ro8 t v')[i]? := fun i => (a1.ext hE1).cell i
          go_wp2_with fail
          go_ret
          exact ⟨rfl, hE.trans hE1⟩
        · go_enter Tryz.func76, Tryz.ntmps76
          go_wp2_with fail
          refine (same6_any r.live t.live _).mono ?_
          rw [← HB1.out]
          rintro e w1 ⟨rfl, hE1⟩
          replace hE := hE.trans hE1
          replace hin1 := hin1.ext hE1
          replace hin1' := hin1'.ext hE1
          have y0 : ∀ i, w1.cell? ⟨w.heap.size, i, none⟩ = (ro8 r v)[i]? := fun i => (a0.ext hE1).cell i
          have y1 : ∀ i, w1.cell? ⟨w.heap.size + 1, i, none⟩ = (ro8 t v')[i]? := fun i => (a1.ext hE1).cell i
          clear hE1 hin hin' a0 a1
          go_wp2_with fail
          refine (sameCols_any v v' r.cols t.cols _ hin1 hin1').mono ?_
          rw [← HB2.out]
          rintro e w2 ⟨rfl, hE2⟩
          clear HB1 HB2 hin1 hin1' y0 y1
          go_wp2
          go_ret
          exact ⟨ret_bool (by simp), hE.trans hE2⟩

set_option maxRecDepth 100000 in
set_option maxHeartbeats 2000000 in
theorem sameRows_any (v v' : Value) (ps ps' : List (Ro × Value)) (w : World) (hin : RowsIn w v ps) (hin' : RowsIn w v' ps') :
    Calls Tryz.prog 89 #[v, v'] w fun e w' => e = .returned (.bool (eqB (ps.map (·.1)) (ps'.map (·.1)))) ∧ Ext w w' := by
  obtain ⟨a, c, rfl, hc, hcm, hcell⟩ := hin.get
  obtain ⟨a', c', rfl, hc', hcm', hcell'⟩ := hin'.get
  have HC := Lib.hid hcell
  have HC' := Lib.hid hcell'
  have HU := Lib.hid hin.cols
  have HU' := Lib.hid hin'.cols
  clear hcell hin hcell' hin'
  obtain ⟨R, hR⟩ : ∃ R, R = eqB (ps.map (·.1)) (ps'.map (·.1)) := ⟨_, rfl⟩
  rw [← hR]
  have HR := Lib.hid hR
  obtain ⟨n, hn⟩ : ∃ n, n = ps.length := ⟨_, rfl⟩
  obtain ⟨n', hn'⟩ : ∃ n, n = ps'.length := ⟨_, rfl⟩
  rw [← hn] at hc ⊢
  rw [← hn'] at hc' ⊢
  have HN := Lib.hid hn
  have HN' := Lib.hid hn'
  clear hR hn hn'
  by_cases hnn : n = n'
  · subst hnn
    go_enter Tryz.func89, Tryz.ntmps89
    go_wp2
    go_loopw [5] (fun i wr => ∃ k : Nat, k ≤ n ∧ i = .int .i64 k ∧ Ext w wr ∧ Hid ((ps.map (·.1)).take k = (ps'.map (·.1)).take k)) (fun i _ => n - (intOf i).toNat)
    case atStart => exact ⟨0, Nat.zero_le _, rfl, Ext.refl w, by show _ = _; rw [List.take_zero, List.take_zero]⟩
    case round =>
      obtain ⟨k, hk, rfl, hE, HK⟩ := hrel
      by_cases hlt : k < n
      · have hkl : k < ps.length := by rw [← HN.out]; exact hlt
        have hkl' : k < ps'.length := by rw [← HN'.out]; exact hlt
        obtain ⟨b, o, rfl, hco⟩ := HC.out k hkl
        obtain ⟨b', o', rfl, hco'⟩ := HC'.out k hkl'
        have hcu := (HU.out _ (List.getElem_mem hkl)).ext hE
        have hcu' := (HU'.out _ (List.getElem_mem hkl')).ext hE
        obtain ⟨M, hM⟩ : ∃ M, M = ps[k].1 := ⟨_, rfl⟩
        obtain ⟨N, hN⟩ : ∃ N, N = ps'[k].1 := ⟨_, rfl⟩
        rw [← hM] at hco hcu
        rw [← hN] at hco' hcu'
        obtain ⟨u, hu⟩ : ∃ u, u = ps[k].2 := ⟨_, rfl⟩
        obtain ⟨u', hu'⟩ : ∃ u, u = ps'[k].2 := ⟨_, rfl⟩
        rw [← hu] at hco hcu
        rw [← hu'] at hco' hcu'
        have HM := Lib.hid hM
        have HMN := Lib.hid hN
        clear hM hN hu hu'
        have hne : M ≠ N → Hid (R = false) := fun h => by
          show R = false
          rw [HR.out]
          refine eqB_false fun e => h ?_
          have h1 : (ps.map (·.1))[k]? = (ps'.map (·.1))[k]? := by rw [e]
          simp [hkl, hkl'] at h1
          rw [HM.out, HMN.out, h1]
        obtain ⟨g0, g1, g2, g3, g4, g5, g6, g7⟩ := hco.ext hE
        obtain ⟨y0, y1, y2, y3, y4, y5, y6, y7⟩ := hco'.ext hE
        clear hco hco'
        have hki : decide ((k : Int) < (n : Int)) = true := by simpa using hlt
        obtain ⟨B, hB⟩ : ∃ B, B = eqB M N := ⟨_, rfl⟩
        have HB := Lib.hid hB
        clear hB
        replace g0 := held g0
        replace g1 := held g1
        replace g2 := held g2
        replace g3 := held g3
        replace g4 := held g4
        replace g5 := held g5
        replace g6 := held g6
        replace g7 := held g7
        replace y0 := held y0
        replace y1 := held y1
        replace y2 := held y2
        replace y3 := held y3
        replace y4 := held y4
        replace y5 := held y5
        replace y6 := held y6
        replace y7 := held y7
        go_wp2_with fail
        refine wp_region_tab 10 [(8, fun v _ => v = .bool B)] (by kernel_rfl) (by kernel_rfl) (by kernel_rfl) ⟨stays_eq _, trivial⟩ ?_
        refine rg_quiet rfl rfl rfl rfl ?_; intro K hK; go_big_quiet_op; go_big_quiet_on
        refine rg_quiet rfl rfl rfl rfl ?_; intro K hK; go_big_quiet_op; go_big_quiet_on
        refine rg_quiet rfl rfl rfl rfl ?_; intro K hK; go_big_quiet_op; go_big_quiet_on
        refine rg_quiet rfl rfl rfl rfl ?_; intro K hK; go_big_quiet_op; go_big_quiet_on
        refine rg_quiet rfl rfl rfl rfl ?_; intro K hK; go_big_quiet_op; go_big_quiet_on
        refine rg_quiet rfl rfl rfl rfl ?_; intro K hK; go_big_quiet_op; go_big_quiet_on
        refine rg_quiet rfl rfl rfl rfl ?_; intro K hK; go_big_quiet_op; go_big_quiet_on
        refine rg_quiet rfl rfl rfl rfl ?_; intro K hK; go_big_quiet_op; go_big_quiet_on
        refine rg_val [] rfl rfl rfl (by kernel_rfl) (fun w1 hE hf => ?_) ?_
        · go_simp
          exact (same7_any M N u u' w1 (hcu.ext hE) (hcu'.ext hE)).mono fun e w' ⟨he, hw⟩ => ⟨_, he, rg_done hE hw (by rw [HB.out])⟩
        simp only [Act.put, List.setIfInBounds_toArray, List.set_cons_zero, List.set_cons_succ]
        cases B
        · have HF := hne fun e => by
            have := HB.out
            rw [e, eqB_true rfl] at this
            cases this
          clear hne
          refine rg_quiet rfl rfl rfl rfl ?_; intro K hK; go_big_quiet_op; go_big_quiet_on
          refine rel_nil fun w5 hE5 _ => ?_
          clear g0 g1 g2 g3 g4 g5 g6 g7 y0 y1 y2 y3 y4 y5 y6 y7
          go_wp2_with fail
          go_ret
          exact ⟨ret_bool HF.out.symm, hE.trans hE5⟩
        · clear hne
          refine rg_quiet rfl rfl rfl rfl ?_; intro K hK; go_big_quiet_op; go_big_quiet_on
          refine rel_nil fun w5 hE5 _ => ?_
          clear g0 g1 g2 g3 g4 g5 g6 g7 y0 y1 y2 y3 y4 y5 y6 y7
          go_wp2_with fail
          go_roundw
          case rel =>
            refine ⟨k + 1, by omega, by go_num, hE.trans hE5, list_split HK.out (by simpa using hkl) (by simpa using hkl') ?_⟩
            rw [List.getElem_map, List.getElem_map, ← HM.out, ← HMN.out]
            exact eqB_iff.1 HB.out.symm
          case measure => simp [intOf] <;> omega
      · obtain rfl : k = n := by omega
        have HT : Hid (R = true) := by
          show R = true
          rw [HR.out]
          refine eqB_true ?_
          have := HK.out
          rwa [List.take_of_length_le (by rw [List.length_map, ← HN.out]; exact Nat.le_refl _), List.take_of_length_le (by rw [List.length_map, ← HN'.out]; exact Nat.le_refl _)] at this
        go_wp2_with fail
        go_ret
        exact ⟨ret_bool HT.out.symm, hE⟩
  · have HF : Hid (R = false) := by
      show R = false
      rw [HR.out]
      exact eqB_false fun e => hnn (by rw [HN.out, HN'.out]; have := congrArg List.length e; simpa using this)
    have t1 : ((n : Int) == (n' : Int)) = false := by simp; omega
    go_enter Tryz.func89, Tryz.ntmps89
    go_wp2
    go_ret
    exact ⟨ret_bool HF.out.symm, Ext.refl w⟩

set_option maxRecDepth 100000 in
set_option maxHeartbeats 2000000 in
theorem same8_any (k k' : ByteArray) (g g' : Int) (v v' : Value) (ps ps' : List (Ro × Value)) (w : World) (hin : RowsIn w v ps) (hin' : RowsIn w v' ps') :
    Calls Tryz.prog 30 #[.agg #[.string k, .int .i64 g, v], .agg #[.string k', .int .i64 g', v']] w fun e w' => e = .returned (.bool ((k.toList == k'.toList) && (g == g') && eqB (ps.map (·.1)) (ps'.map (·.1)))) ∧ Ext w w' := by
  obtain ⟨a0, a1, hE⟩ := boxes2 w (pa3 k g v) (pa3 k' g' v') 50 50
  have hin1 := hin.ext hE
  have hin1' := hin'.ext hE
  obtain ⟨B, hB⟩ : ∃ B, B = eqB (ps.map (·.1)) (ps'.map (·.1)) := ⟨_, rfl⟩
  rw [← hB]
  have HB := Lib.hid hB
  clear a0 a1 hB
  cases e1 : (k.toList == k'.toList)
  · go_enter Tryz.func30, Tryz.ntmps30
    go_wp2_with fail
    go_ret
    exact ⟨rfl, hE⟩
  · cases e2 : (g == g')
    · go_enter Tryz.func30, Tryz.ntmps30
      go_wp2_with fail
      go_ret
      exact ⟨rfl, hE⟩
    · go_enter Tryz.func30, Tryz.ntmps30
      go_wp2_with fail
      refine (sameRows_any v v' ps ps' _ hin1 hin1').mono ?_
      rw [← HB.out]
      rintro e w1 ⟨rfl, hE1⟩
      go_wp2
      go_ret
      exact ⟨ret_bool (by simp), hE.trans hE1⟩
end Go.Proofs.YtfagnbofnaoncaaGreatDoor

/- clerestoryref08.Same of partitions that read alike. -/
namespace Go.Proofs.YtfagnbofnaoncaaGreatDoor
open Go Go.RowKit

theorem same8_alike (k : ByteArray) (g : Int) (v v' : Value) (ps ps' : List (Ro × Value)) (w : World) (hin : RowsIn w v ps) (hin' : RowsIn w v' ps') (h : ps.map (·.1) = ps'.map (·.1)) :
    Calls Tryz.prog 30 #[.agg #[.string k, .int .i64 g, v], .agg #[.string k, .int .i64 g, v']] w fun e w' => e = .returned (.bool true) ∧ Ext w w' := by
  have := same8_any k k g g v v' ps ps' w hin hin'
  rw [eqB_true h] at this
  simpa using this
end Go.Proofs.YtfagnbofnaoncaaGreatDoor

/- clerestorylaw00's SameNotes, SameInts, SameMuts, SameBatch of what reads alike. (what a smaller cut has) -/
namespace Go.Proofs.YtfagnbofnaoncaaGreatDoor
open Go Go.RowKit
attribute [local go_sem] yields yUpon

set_option maxRecDepth 100000 in
set_option maxHeartbeats 4000000 in
theorem sameMts_any (va vb : Value) (Ma Mb : List Mt) (hm : Ma.map Mt.q = Mb.map Mt.q) (w : World) (ha : MtsIn w va Ma) (hb : MtsIn w vb Mb) :
    Calls Tryz.prog 27 #[va, vb] w fun e w' => e = .returned (.bool true) ∧ Ext w w' := by
  have HRA := Lib.hid ha.rows
  have HRB := Lib.hid hb.rows
  obtain ⟨aa, ca, rfl, hca, hcma, hga⟩ := ha.get
  obtain ⟨ab, cb, rfl, hcb, hcmb, hgb⟩ := hb.get
  have HA := Lib.hid hga
  have HB := Lib.hid hgb
  have hl : Ma.length = Mb.length := by have := congrArg List.length hm; simpa using this
  have HAB := Lib.hid (fun (k : Nat) (h1 : k < Ma.length) (h2 : k < Mb.length) => (by
    have h3 : (Ma.map Mt.q)[k]? = (Mb.map Mt.q)[k]? := by rw [hm]
    simp only [List.getElem?_map, List.getElem?_eq_getElem h1, List.getElem?_eq_getElem h2, Option.map_some, Option.some.injEq] at h3
    exact h3 : (Ma[k]).q = (Mb[k]).q))
  obtain ⟨n, hn⟩ : ∃ n, n = Ma.length := ⟨_, rfl⟩
  have HN := Lib.hid hn
  have HL := Lib.hid hl
  rw [← hl] at hcb ⊢
  rw [← hn] at hca hcb ⊢
  clear hga hgb hn ha hb hm hl
  go_enter Tryz.func27, Tryz.ntmps27
  go_wp2
  go_loopw [5] (fun i wr => ∃ k : Nat, k ≤ n ∧ i = .int .i64 (k : Int) ∧ Ext w wr) (fun i _ => n - (intOf i).toNat)
  case atStart => exact ⟨0, Nat.zero_le _, rfl, Ext.refl w⟩
  case round =>
    obtain ⟨k, hk, rfl, hE⟩ := hrel
    by_cases hlt : k < n
    · have hkF : k < Ma.length := by rw [← HN.out]; exact hlt
      have hkG : k < Mb.length := by rw [← HL.out]; exact hkF
      obtain ⟨b, o, rfl, ⟨x0, x1, x2, x3⟩⟩ := HA.out k hkF
      obtain ⟨b', o', rfl, ⟨y0, y1, y2, y3⟩⟩ := HB.out k hkG
      have hq := HAB.out k hkF hkG
      have hra := (HRA.out _ (List.getElem_mem hkF)).ext hE
      have hrb := (HRB.out _ (List.getElem_mem hkG)).ext hE
      replace x0 := hE.cell x0
      replace x1 := hE.cell x1
      replace x2 := hE.cell x2
      replace x3 := hE.cell x3
      replace y0 := hE.cell y0
      replace y1 := hE.cell y1
      replace y2 := hE.cell y2
      replace y3 := hE.cell y3
      obtain ⟨M, hM⟩ : ∃ M, M = Ma[k] := ⟨_, rfl⟩
      obtain ⟨M', hM'⟩ : ∃ M, M = Mb[k] := ⟨_, rfl⟩
      rw [← hM] at x0 x1 x2 x3 hq hra
      rw [← hM'] at y0 y1 y2 y3 hq hrb
      clear hM hM'
      obtain ⟨t, ⟨ky, gn, rv, ps⟩⟩ := M
      obtain ⟨t', ⟨ky', gn', rv', ps'⟩⟩ := M'
      unfold Mt.q at hq
      simp only [Mq.mk.injEq, Pt.mk.injEq] at hq x0 x1 x2 x3 y0 y1 y2 y3 hra hrb
      obtain ⟨rfl, rfl, rfl, hps⟩ := hq
      have HPS := Lib.hid hps
      clear hps
      have t1 : decide ((k : Int) < (n : Int)) = true := by simp; omega
      replace x0 := held x0
      replace x1 := held x1
      replace x2 := held x2
      replace x3 := held x3
      replace y0 := held y0
      replace y1 := held y1
      replace y2 := held y2
      replace y3 := held y3
      have t2 : (t.toList != t.toList) = false := by simp
      go_wp2_with fail
      refine wp_region_tab 25 [(22, fun v _ => v = .bool true)] (by kernel_rfl) (by kernel_rfl) (by kernel_rfl) ⟨stays_eq _, trivial⟩ ?_
      refine rg_quiet rfl rfl rfl rfl ?_; intro K hK; go_big_quiet_op; go_big_quiet_on
      refine rg_quiet rfl rfl rfl rfl ?_; intro K hK; go_big_quiet_op; go_big_quiet_on
      refine rg_quiet rfl rfl rfl rfl ?_; intro K hK; go_big_quiet_op; go_big_quiet_on
      refine rg_quiet rfl rfl rfl rfl ?_; intro K hK; go_big_quiet_op; go_big_quiet_on
      refine rg_quiet rfl rfl rfl rfl ?_; intro K hK; go_big_quiet_op; go_big_quiet_on
      refine rg_quiet rfl rfl rfl rfl ?_; intro K hK; go_big_quiet_op; go_big_quiet_on
      refine rg_quiet rfl rfl rfl rfl ?_; intro K hK; go_big_quiet_op; go_big_quiet_on
      refine rg_quiet rfl rfl rfl rfl ?_; intro K hK; go_big_quiet_op; go_big_quiet_on
      refine rg_quiet rfl rfl rfl rfl ?_; intro K hK; go_big_quiet_op; go_big_quiet_on
      refine rg_quiet rfl rfl rfl rfl ?_; intro K hK; go_big_quiet_op; go_big_quiet_on
      refine rg_quiet rfl rfl rfl rfl ?_; intro K hK; go_big_quiet_op; go_big_quiet_on
      refine rg_quiet rfl rfl rfl rfl ?_; intro K hK; go_big_quiet_op; go_big_quiet_on
      refine rg_quiet rfl rfl rfl rfl ?_; intro K hK; go_big_quiet_op; go_big_quiet_on
      refine rg_quiet rfl rfl rfl rfl ?_; intro K hK; go_big_quiet_op; go_big_quiet_on
      refine rg_quiet rfl rfl rfl rfl ?_; intro K hK; go_big_quiet_op; go_big_quiet_on
      refine rg_quiet rfl rfl rfl rfl ?_; intro K hK; go_big_quiet_op; go_big_quiet_on
      refine rg_quiet rfl rfl rfl rfl ?_; intro K hK; go_big_quiet_op; go_big_quiet_on
      refine rg_quiet rfl rfl rfl rfl ?_; intro K hK; go_big_quiet_op; go_big_quiet_on
      refine rg_quiet rfl rfl rfl rfl ?_; intro K hK; go_big_quiet_op; go_big_quiet_on
      refine rg_quiet rfl rfl rfl rfl ?_; intro K hK; go_big_quiet_op; go_big_quiet_on
      refine rg_quiet rfl rfl rfl rfl ?_; intro K hK; go_big_quiet_op; go_big_quiet_on
      refine rg_quiet rfl rfl rfl rfl ?_; intro K hK; go_big_quiet_op; go_big_quiet_on
      refine rg_val [] rfl rfl rfl (by kernel_rfl) (fun w1 hE hf => ?_) ?_
      · go_simp
        exact (same8_alike ky gn rv rv' ps ps' w1 (hra.ext hE) (hrb.ext hE) HPS.out).mono fun e w' ⟨he, hw⟩ => ⟨_, he, rg_done hE hw (rfl)⟩
      simp only [Act.put, List.setIfInBounds_toArray, List.set_cons_zero, List.set_cons_succ]
      refine rg_quiet rfl rfl rfl rfl ?_; intro K hK; go_big_quiet_op; go_big_quiet_on
      refine rg_quiet rfl rfl rfl rfl ?_; intro K hK; go_big_quiet_op; go_big_quiet_on
      refine rel_nil fun w5 hE5 _ => ?_
      clear x0 x1 x2 x3 y0 y1 y2 y3
      go_wp2_with fail
      go_roundw
      case rel => exact ⟨k + 1, by omega, by go_num, hE.trans hE5⟩
      case measure => simp [intOf]; omega
    · obtain rfl : k = n := by omega
      go_wp2_with fail
      go_ret
      exact ⟨rfl, hE⟩
end Go.Proofs.YtfagnbofnaoncaaGreatDoor

/- clerestorylaw00's SameStrings, SameMsg of what reads alike. -/
namespace Go.Proofs.YtfagnbofnaoncaaGreatDoor
open Go Go.RowKit
attribute [local go_sem] yields yUpon

set_option maxRecDepth 100000 in
set_option maxHeartbeats 2000000 in
theorem sameTx_any (v v' : Value) (l : List ByteArray) (w : World) (hin : TxIn w v l) (hin' : TxIn w v' l) :
    Calls Tryz.prog 43 #[v, v'] w fun e w' => e = .returned (.bool true) ∧ Ext w w' := by
  obtain ⟨a, c, rfl, hc, hcm, hcell⟩ := hin.get
  obtain ⟨a', c', rfl, hc', hcm', hcell'⟩ := hin'.get
  have HC := Lib.hid hcell
  have HC' := Lib.hid hcell'
  clear hcell hin hcell' hin'
  go_enter Tryz.func43, Tryz.ntmps43
  go_wp2
  go_loopw [5] (fun i wr => ∃ k : Nat, k ≤ l.length ∧ i = .int .i64 k ∧ Ext w wr) (fun i _ => l.length - (intOf i).toNat)
  case atStart => exact ⟨0, Nat.zero_le _, rfl, Ext.refl w⟩
  case round =>
    obtain ⟨k, hk, rfl, hE⟩ := hrel
    by_cases hlt : k < l.length
    · obtain ⟨b, o, rfl, hco⟩ := HC.out k hlt
      obtain ⟨b', o', rfl, hco'⟩ := HC'.out k hlt
      obtain ⟨x, hx⟩ : ∃ x, x = l[k] := ⟨_, rfl⟩
      rw [← hx] at hco hco'
      clear hx
      replace hco := hE.cell hco
      replace hco' := hE.cell hco'
      go_wp2
      go_quiet (fail)
      go_wp2
      go_roundw
      case rel => exact ⟨k + 1, by omega, by go_num, hE.drewN _⟩
      case measure => simp [intOf]; omega
    · obtain rfl : k = l.length := by omega
      go_wp2
      go_ret
      exact ⟨rfl, hE⟩

set_option maxRecDepth 100000 in
set_option maxHeartbeats 4000000 in
theorem sameMsg_any (m : Hd) (va vb ka kb : Value) (Ma Mb : List Mt) (hm : Ma.map Mt.q = Mb.map Mt.q) (K : List ByteArray) (w : World) (h1 : MtsIn w va Ma) (h2 : MtsIn w vb Mb) (h3 : TxIn w ka K) (h4 : TxIn w kb K) :
    Calls Tryz.prog 11 #[.agg (hd7 m va ka), .agg (hd7 m vb kb)] w fun e w' => e = .returned (.bool true) ∧ Ext w w' := by
  obtain ⟨kd, fr, to, id, nm⟩ := m
  have HM := Lib.hid hm
  obtain ⟨aa, ca, rfl, _⟩ := h1.get
  obtain ⟨ab, cb, rfl, _⟩ := h2.get
  obtain ⟨ac, cc, rfl, _⟩ := h3.get
  obtain ⟨ad, cd, rfl, _⟩ := h4.get
  unfold hd7
  simp only
  obtain ⟨b0, b1, hE⟩ := boxes2 w #[.int .i64 kd, .int .i64 fr, .int .i64 to, .int .i64 id, .slice aa Ma.length ca, .slice ac K.length cc, .int .i64 nm] #[.int .i64 kd, .int .i64 fr, .int .i64 to, .int .i64 id, .slice ab Mb.length cb, .slice ad K.length cd, .int .i64 nm] 25 25
  replace h1 := h1.ext hE
  replace h2 := h2.ext hE
  replace h3 := h3.ext hE
  replace h4 := h4.ext hE
  have t1 : (kd == kd) = true := by simp
  have t2 : (fr == fr) = true := by simp
  have t3 : (to == to) = true := by simp
  have t4 : (id == id) = true := by simp
  have t5 : (nm == nm) = true := by simp
  clear hm
  go_enter Tryz.func11, Tryz.ntmps11
  go_wp2_with (first
    | (go_at_call 27; go_must (refine (sameMts_any _ _ Ma Mb HM.out _ h1 h2).mono ?_); rintro e w1 ⟨rfl, hE1⟩; have x1 : w1.cell? ⟨w.heap.size, 5, none⟩ = some (.slice ac K.length cc) := (b0.ext hE1).cell 5; have y1 : w1.cell? ⟨w.heap.size + 1, 5, none⟩ = some (.slice ad K.length cd) := (b1.ext hE1).cell 5)
    | (go_at_call 43; go_must (refine (sameTx_any _ _ K _ (h3.ext hE1) (h4.ext hE1)).mono ?_); rintro e w2 ⟨rfl, hE2⟩))
  go_ret
  exact ⟨rfl, (hE.trans hE1).trans hE2⟩
end Go.Proofs.YtfagnbofnaoncaaGreatDoor
