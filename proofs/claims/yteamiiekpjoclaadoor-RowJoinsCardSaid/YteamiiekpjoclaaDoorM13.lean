/- The reference's Same of any cells, columns, rows, lists of rows, partitions. -/
import Derived.Test.YteamiiekpjoclaaDoorM6
import Derived.Test.YteamiiekpjoclaaDoorM12
import Derived.Test.YteamiiekpjoclaaDoorM1
import Derived.ProofKit
import Derived.ChangeSlices
import Derived.WideShapes
import Derived.Test.YteamiiekpjoclaaDoorM7
import Derived.Test.YteamiiekpjoclaaDoorProg
namespace Go.Proofs.YteamiiekpjoclaaDoor
open Go Go.RowKit
attribute [local go_sem] yields yUpon ro8 pa3

theorem eqB_bool {α : Type} {a b : α} {c : Bool} (h : c = true ↔ a = b) : eqB a b = c := by
  cases c with
  | true => exact eqB_true (h.1 rfl)
  | false => exact eqB_false fun e => by have := h.2 e; cases this
theorem toList_eq {a b : ByteArray} : (a.toList == b.toList) = true ↔ a = b := by
  constructor
  · intro h; exact bytes_ext (by simpa using h)
  · rintro rfl; simp
theorem clB_eq (c d : Cl) : ((c.val.toList == d.val.toList) && (c.dead == d.dead) && (c.at_ == d.at_) && (c.fin == d.fin)) = true ↔ c = d := by
  rw [Bool.and_eq_true, Bool.and_eq_true, Bool.and_eq_true, toList_eq]
  obtain ⟨a1, a2, a3, a4⟩ := c
  obtain ⟨b1, b2, b3, b4⟩ := d
  simp [and_assoc]

set_option maxHeartbeats 1000000 in
theorem same6_any (c d : Cl) (w : World) : Calls Tryd.prog 24 #[(.agg #[.string c.val, .bool c.dead, .int .i64 c.at_, .int .i64 c.fin]), (.agg #[.string d.val, .bool d.dead, .int .i64 d.at_, .int .i64 d.fin])] w fun e w' => e = .returned (.bool (eqB c d)) ∧ Ext w w' := by
  rw [eqB_bool (clB_eq c d)]
  cases e1 : (c.val.toList == d.val.toList)
  · go_enter Tryd.func24, Tryd.ntmps24
    go_wp2
    go_ret
    exact ⟨rfl, ((Ext.refl w).alloc _).alloc _⟩
  · cases e2 : (c.dead == d.dead)
    · go_enter Tryd.func24, Tryd.ntmps24
      go_wp2
      go_ret
      exact ⟨rfl, ((Ext.refl w).alloc _).alloc _⟩
    · cases e3 : (c.at_ == d.at_)
      · go_enter Tryd.func24, Tryd.ntmps24
        go_wp2
        go_ret
        exact ⟨rfl, ((Ext.refl w).alloc _).alloc _⟩
      · go_enter Tryd.func24, Tryd.ntmps24
        go_wp2
        go_ret
        exact ⟨ret_bool (by simp), ((Ext.refl w).alloc _).alloc _⟩

theorem list_split {α : Type} {l l' : List α} {k : Nat} (h : l.take k = l'.take k) (hk : k < l.length) (hk' : k < l'.length) (he : l[k] = l'[k]) : l.take (k + 1) = l'.take (k + 1) := by
  rw [List.take_succ_eq_append_getElem hk, List.take_succ_eq_append_getElem hk', h, he]

set_option maxRecDepth 100000 in
set_option maxHeartbeats 2000000 in
theorem sameCols_any (v v' : Value) (l l' : List Co) (w : World) (hin : ColsIn w v l) (hin' : ColsIn w v' l') :
    Calls Tryd.prog 27 #[v, v'] w fun e w' => e = .returned (.bool (eqB l l')) ∧ Ext w w' := by
  obtain ⟨a, c, rfl, hc, hcm, hcell⟩ := hin.get
  obtain ⟨a', c', rfl, hc', hcm', hcell'⟩ := hin'.get
  have HC := Lib.hid hcell
  have HC' := Lib.hid hcell'
  clear hcell hin hcell' hin'
  obtain ⟨R, hR⟩ : ∃ R, R = eqB l l' := ⟨_, rfl⟩
  rw [← hR]
  have HR := Lib.hid hR
  obtain ⟨n, hn⟩ : ∃ n, n = l.length := ⟨_, rfl⟩
  obtain ⟨n', hn'⟩ : ∃ n, n = l'.length := ⟨_, rfl⟩
  rw [← hn] at hc ⊢
  rw [← hn'] at hc' ⊢
  have HN := Lib.hid hn
  have HN' := Lib.hid hn'
  clear hR hn hn'
  by_cases hnn : n = n'
  · subst hnn
    go_enter Tryd.func27, Tryd.ntmps27
    go_wp2
    go_loopw [5] (fun i wr => ∃ k : Nat, k ≤ n ∧ i = .int .i64 k ∧ Ext w wr ∧ Hid (l.take k = l'.take k)) (fun i _ => n - (intOf i).toNat)
    case atStart => exact ⟨0, Nat.zero_le _, rfl, Ext.refl w, by show _ = _; rw [List.take_zero, List.take_zero]⟩
    case round =>
      obtain ⟨k, hk, rfl, hE, HK⟩ := hrel
      by_cases hlt : k < n
      · have hkl : k < l.length := by rw [← HN.out]; exact hlt
        have hkl' : k < l'.length := by rw [← HN'.out]; exact hlt
        obtain ⟨b, o, rfl, hco⟩ := HC.out k hkl
        obtain ⟨b', o', rfl, hco'⟩ := HC'.out k hkl'
        obtain ⟨M, hM⟩ : ∃ M, M = l[k] := ⟨_, rfl⟩
        obtain ⟨N, hN⟩ : ∃ N, N = l'[k] := ⟨_, rfl⟩
        rw [← hM] at hco
        rw [← hN] at hco'
        have HM := Lib.hid hM
        have HMN := Lib.hid hN
        clear hM hN
        have hne : M ≠ N → Hid (R = false) := fun h => by
          show R = false
          rw [HR.out]
          exact eqB_false fun e => h (by rw [HM.out, HMN.out]; simp only [e])
        obtain ⟨g0, g1, g2, g3, g4⟩ := hco.ext hE
        obtain ⟨y0, y1, y2, y3, y4⟩ := hco'.ext hE
        clear hco hco'
        have hki : decide ((k : Int) < (n : Int)) = true := by simpa using hlt
        obtain ⟨B, hB⟩ : ∃ B, B = eqB M.cell N.cell := ⟨_, rfl⟩
        have HB := Lib.hid hB
        clear hB
        cases e1 : (M.name.toList == N.name.toList)
        · have HF := hne fun e => by rw [e] at e1; simp at e1
          clear hne
          go_wp2_with fail
          refine wp_region_tab 25 [] (by kernel_rfl) (by kernel_rfl) (by kernel_rfl) trivial ?_
          replace g0 := held g0
          replace y0 := held y0
          refine rg_quiet rfl rfl rfl rfl ?_; intro K hK; go_big_quiet_op; go_big_quiet_on
          refine rg_quiet rfl rfl rfl rfl ?_; intro K hK; go_big_quiet_op; go_big_quiet_on
          refine rg_quiet rfl rfl rfl rfl ?_; intro K hK; go_big_quiet_op; go_big_quiet_on
          refine rg_quiet rfl rfl rfl rfl ?_; intro K hK; go_big_quiet_op; go_big_quiet_on
          refine rg_quiet rfl rfl rfl rfl ?_; intro K hK; go_big_quiet_op; go_big_quiet_on
          refine rg_quiet rfl rfl rfl rfl ?_; intro K hK; go_big_quiet_op; go_big_quiet_on
          refine rg_quiet rfl rfl rfl rfl ?_; intro K hK; go_big_quiet_op; go_big_quiet_on
          refine rg_quiet rfl rfl rfl rfl ?_; intro K hK; go_big_quiet_op; go_big_quiet_on
          refine rg_quiet rfl rfl rfl rfl ?_; intro K hK; go_big_quiet_op; go_big_quiet_on
          refine rg_quiet rfl rfl rfl rfl ?_; intro K hK; go_big_quiet_op; go_big_quiet_on
          refine rg_quiet rfl rfl rfl rfl ?_; intro K hK; go_big_quiet_op; go_big_quiet_on
          refine rg_quiet rfl rfl rfl rfl ?_; intro K hK; go_big_quiet_op; go_big_quiet_on
          refine rel_skip rfl rfl ?_
          simp only [Act.put, List.setIfInBounds_toArray, List.set_cons_zero, List.set_cons_succ]
          refine rel_skip rfl rfl ?_
          simp only [Act.put, List.setIfInBounds_toArray, List.set_cons_zero, List.set_cons_succ]
          refine rel_skip rfl rfl ?_
          simp only [Act.put, List.setIfInBounds_toArray, List.set_cons_zero, List.set_cons_succ]
          refine rel_skip rfl rfl ?_
          simp only [Act.put, List.setIfInBounds_toArray, List.set_cons_zero, List.set_cons_succ]
          refine rel_skip rfl rfl ?_
          simp only [Act.put, List.setIfInBounds_toArray, List.set_cons_zero, List.set_cons_succ]
          refine rel_skip rfl rfl ?_
          simp only [Act.put, List.setIfInBounds_toArray, List.set_cons_zero, List.set_cons_succ]
          refine rel_skip rfl rfl ?_
          simp only [Act.put, List.setIfInBounds_toArray, List.set_cons_zero, List.set_cons_succ]
          refine rel_skip rfl rfl ?_
          simp only [Act.put, List.setIfInBounds_toArray, List.set_cons_zero, List.set_cons_succ]
          refine rel_skip rfl rfl ?_
          simp only [Act.put, List.setIfInBounds_toArray, List.set_cons_zero, List.set_cons_succ]
          refine rel_skip rfl rfl ?_
          simp only [Act.put, List.setIfInBounds_toArray, List.set_cons_zero, List.set_cons_succ]
          refine rel_skip rfl rfl ?_
          simp only [Act.put, List.setIfInBounds_toArray, List.set_cons_zero, List.set_cons_succ]
          refine rel_skip rfl rfl ?_
          simp only [Act.put, List.setIfInBounds_toArray, List.set_cons_zero, List.set_cons_succ]
          refine rg_quiet rfl rfl rfl rfl ?_; intro K hK; go_big_quiet_op; go_big_quiet_on
          refine rel_nil fun w5 hE5 _ => ?_
          clear g0 g1 g2 g3 g4 y0 y1 y2 y3 y4
          go_wp2_with fail
          go_ret
          exact ⟨ret_bool HF.out.symm, hE.trans hE5⟩
        · have en : M.name = N.name := toList_eq.1 e1
          have HEN := Lib.hid en
          clear en
          go_wp2_with fail
          refine wp_region_tab 25 [(22, fun v _ => v = .bool B)] (by kernel_rfl) (by kernel_rfl) (by kernel_rfl) ⟨stays_eq _, trivial⟩ ?_
          replace g0 := held g0
          replace g1 := held g1
          replace g2 := held g2
          replace g3 := held g3
          replace g4 := held g4
          replace y0 := held y0
          replace y1 := held y1
          replace y2 := held y2
          replace y3 := held y3
          replace y4 := held y4
          refine rg_quiet rfl rfl rfl rfl ?_; intro K hK; go_big_quiet_op; go_big_quiet_on
          refine rg_quiet rfl rfl rfl rfl ?_; intro K hK; go_big_quiet_op; go_big_quiet_on
          refine rg_quiet rfl rfl rfl rfl ?_; intro K hK; go_big_quiet_op; go_big_quiet_on
          refine rg_quiet rfl rfl rfl rfl ?_; intro K hK; go_big_quiet_op; go_big_quiet_on
          refine rg_quiet rfl rfl rfl rfl ?_; intro K hK; go_big_quiet_op; go_big_quiet_on
          refine rg_quiet rfl rfl rfl rfl ?_; intro K hK; go_big_quiet_op; go_big_quiet_on
          refine rg_quiet rfl rfl rfl rfl ?_; intro K hK; go_big_quiet_op; go_big_quiet_on
          refine rg_quiet rfl rfl rfl rfl ?_; intro K hK; go_big_quiet_op; go_big_quiet_on
          refine rg_quiet rfl rfl rfl rfl ?_; intro K hK; go_big_quiet_op; go_big_quiet_on
          refine rg_quiet rfl rfl rfl rfl ?_; intro K hK; go_big_quiet_op; go_big_quiet_on
          refine rg_quiet rfl rfl rfl rfl ?_; intro K hK; go_big_quiet_op; go_big_quiet_on
          refine rg_quiet rfl rfl rfl rfl ?_; intro K hK; go_big_quiet_op; go_big_quiet_on
          refine rg_quiet rfl rfl rfl rfl ?_; intro K hK; go_big_quiet_op; go_big_quiet_on
          refine rg_quiet rfl rfl rfl rfl ?_; intro K hK; go_big_quiet_op; go_big_quiet_on
          refine rg_quiet rfl rfl rfl rfl ?_; intro K hK; go_big_quiet_op; go_big_quiet_on
          refine rg_quiet rfl rfl rfl rfl ?_; intro K hK; go_big_quiet_op; go_big_quiet_on
          refine rg_quiet rfl rfl rfl rfl ?_; intro K hK; go_big_quiet_op; go_big_quiet_on
          refine rg_quiet rfl rfl rfl rfl ?_; intro K hK; go_big_quiet_op; go_big_quiet_on
          refine rg_quiet rfl rfl rfl rfl ?_; intro K hK; go_big_quiet_op; go_big_quiet_on
          refine rg_quiet rfl rfl rfl rfl ?_; intro K hK; go_big_quiet_op; go_big_quiet_on
          refine rg_quiet rfl rfl rfl rfl ?_; intro K hK; go_big_quiet_op; go_big_quiet_on
          refine rg_quiet rfl rfl rfl rfl ?_; intro K hK; go_big_quiet_op; go_big_quiet_on
          refine rg_val [] rfl rfl rfl (by kernel_rfl) (fun w1 hE hf => ?_) ?_
          · go_simp
            exact (same6_any M.cell N.cell w1).mono fun e w' ⟨he, hw⟩ => ⟨_, he, rg_done hE hw (by rw [HB.out])⟩
          simp only [Act.put, List.setIfInBounds_toArray, List.set_cons_zero, List.set_cons_succ]
          cases B
          · have HF := hne fun e => by
              have := HB.out
              rw [e, eqB_true rfl] at this
              cases this
            clear hne
            refine rg_quiet rfl rfl rfl rfl ?_; intro K hK; go_big_quiet_op; go_big_quiet_on
            refine rg_quiet rfl rfl rfl rfl ?_; intro K hK; go_big_quiet_op; go_big_quiet_on
            refine rel_nil fun w5 hE5 _ => ?_
            clear g0 g1 g2 g3 g4 y0 y1 y2 y3 y4
            go_wp2_with fail
            go_ret
            exact ⟨ret_bool HF.out.symm, hE.trans hE5⟩
          · clear hne
            refine rg_quiet rfl rfl rfl rfl ?_; intro K hK; go_big_quiet_op; go_big_quiet_on
            refine rg_quiet rfl rfl rfl rfl ?_; intro K hK; go_big_quiet_op; go_big_quiet_on
            refine rel_nil fun w5 hE5 _ => ?_
            clear g0 g1 g2 g3 g4 y0 y1 y2 y3 y4
            go_wp2_with fail
            go_roundw
            case rel =>
              refine ⟨k + 1, by omega, by go_num, hE.trans hE5, list_split HK.out hkl hkl' ?_⟩
              rw [← HM.out, ← HMN.out]
              have hc := eqB_iff.1 HB.out.symm
              have hn := HEN.out
              obtain ⟨m1, m2⟩ := M
              obtain ⟨n1, n2⟩ := N
              simp only at hc hn
              rw [hc, hn]
            case measure => simp [intOf] <;> omega
      · obtain rfl : k = n := by omega
        have HT : Hid (R = true) := by
          show R = true
          rw [HR.out]
          refine eqB_true ?_
          have := HK.out
          rwa [List.take_of_length_le (by rw [← HN.out]; exact Nat.le_refl _), List.take_of_length_le (by rw [← HN'.out]; exact Nat.le_refl _)] at this
        go_wp2_with fail
        go_ret
        exact ⟨ret_bool HT.out.symm, hE⟩
  · have HF : Hid (R = false) := by
      show R = false
      rw [HR.out]
      exact eqB_false fun e => hnn (by rw [HN.out, HN'.out, e])
    have t1 : ((n : Int) == (n' : Int)) = false := by simp; omega
    go_enter Tryd.func27, Tryd.ntmps27
    go_wp2
    go_ret
    exact ⟨ret_bool HF.out.symm, Ext.refl w⟩

theorem roB_eq (a b : Ro) : ((a.key.toList == b.key.toList) && eqB a.live b.live && (a.gone == b.gone) && (a.shade == b.shade) && eqB a.cols b.cols) = true ↔ a = b := by
  rw [Bool.and_eq_true, Bool.and_eq_true, Bool.and_eq_true, Bool.and_eq_true, toList_eq, eqB_iff, eqB_iff]
  obtain ⟨a1, a2, a3, a4, a5⟩ := a
  obtain ⟨b1, b2, b3, b4, b5⟩ := b
  simp [and_assoc]

set_option maxRecDepth 100000 in
set_option maxHeartbeats 2000000 in
theorem same7_any (r t : Ro) (v v' : Value) (w : World) (hin : ColsIn w v r.cols) (hin' : ColsIn w v' t.cols) :
    Calls Tryd.prog 21 #[(.agg #[.string r.key, .string r.live.val, .bool r.live.dead, .int .i64 r.live.at_, .int .i64 r.live.fin, .int .i64 r.gone, .int .i64 r.shade, v]), (.agg #[.string t.key, .string t.live.val, .bool t.live.dead, .int .i64 t.live.at_, .int .i64 t.live.fin, .int .i64 t.gone, .int .i64 t.shade, v'])] w fun e w' => e = .returned (.bool (eqB r t)) ∧ Ext w w' := by
  obtain ⟨a0, a1, hE⟩ := boxes2 w (ro8 r v) (ro8 t v') 26 26
  have hin1 := hin.ext hE
  have hin1' := hin'.ext hE
  obtain ⟨B1, hB1⟩ : ∃ B, B = eqB r.live t.live := ⟨_, rfl⟩
  obtain ⟨B2, hB2⟩ : ∃ B, B = eqB r.cols t.cols := ⟨_, rfl⟩
  have hR := eqB_bool (roB_eq r t)
  rw [← hB1, ← hB2] at hR
  rw [hR]
  have HB1 := Lib.hid hB1
  have HB2 := Lib.hid hB2
  clear hB1 hB2 hR
  cases e1 : (r.key.toList == t.key.toList)
  · go_enter Tryd.func21, Tryd.ntmps21
    go_wp2_with fail
    go_ret
    exact ⟨rfl, hE⟩
  · cases B1
    · go_enter Tryd.func21, Tryd.ntmps21
      go_wp2_with fail
      refine (same6_any r.live t.live _).mono ?_
      rw [← HB1.out]
      rintro e w1 ⟨rfl, hE1⟩
      go_wp2_with fail
      go_ret
      exact ⟨rfl, hE.trans hE1⟩
    · cases e2 : (r.gone == t.gone)
      · go_enter Tryd.func21, Tryd.ntmps21
        go_wp2_with fail
        refine (same6_any r.live t.live _).mono ?_
        rw [← HB1.out]
        rintro e w1 ⟨rfl, hE1⟩
        have y0 : ∀ i, w1.cell? ⟨w.heap.size, i, none⟩ = (ro8 r v)[i]? := fun i => (a0.ext hE1).cell i
        have y1 : ∀ i, w1.cell? ⟨w.heap.size + 1, i, none⟩ = (ro8 t v')[i]? := fun i => (a1.ext hE1).cell i
        go_wp2_with fail
        go_ret
        exact ⟨rfl, hE.trans hE1⟩
      · cases e3 : (r.shade == t.shade)
        · go_enter Tryd.func21, Tryd.ntmps21
          go_wp2_with fail
          refine (same6_any r.live t.live _).mono ?_
          rw [← HB1.out]
          rintro e w1 ⟨rfl, hE1⟩
          have y0 : ∀ i, w1.cell? ⟨w.heap.size, i, none⟩ = (ro8 r v)[i]? := fun i => (a0.ext hE1).cell i
          have y1 : ∀ i, w1.cell? ⟨w.heap.size + 1, i, none⟩ = (ro8 t v')[i]? := fun i => (a1.ext hE1).cell i
          go_wp2_with fail
          go_ret
          exact ⟨rfl, hE.trans hE1⟩
        · go_enter Tryd.func21, Tryd.ntmps21
          go_wp2_with fail
          refine (same6_any r.live t.live _).mono ?_
          rw [← HB1.out]
          rintro e w1 ⟨rfl, hE1⟩
          replace hE := hE.trans hE1
          replace hin1 := hin1.ext hE1
          replace hin1' := hin1'.ext hE1
          have y0 : ∀ i, w1.cell? ⟨w.heap.size, i, none⟩ = (ro8 r v)[i]? := fun i => (a0.ext hE1).cell i
          have y1 : ∀ i, w1.cell? ⟨w.heap.size + 1, i, none⟩ = (ro8 t v')[i]? := fun i => (a1.ext hE1).cell i
          clear hE1 hin hin' a0 a1
          go_wp2_with fail
          refine (sameCols_any v v' r.cols t.cols _ hin1 hin1').mono ?_
          rw [← HB2.out]
          rintro e w2 ⟨rfl, hE2⟩
          clear HB1 HB2 hin1 hin1' y0 y1
          go_wp2
          go_ret
          exact ⟨ret_bool (by simp), hE.trans hE2⟩

set_option maxRecDepth 100000 in
set_option maxHeartbeats 2000000 in
theorem sameRows_any (v v' : Value) (ps ps' : List (Ro × Value)) (w : World) (hin : RowsIn w v ps) (hin' : RowsIn w v' ps') :
    Calls Tryd.prog 46 #[v, v'] w fun e w' => e = .returned (.bool (eqB (ps.map (·.1)) (ps'.map (·.1)))) ∧ Ext w w' := by
  obtain ⟨a, c, rfl, hc, hcm, hcell⟩ := hin.get
  obtain ⟨a', c', rfl, hc', hcm', hcell'⟩ := hin'.get
  have HC := Lib.hid hcell
  have HC' := Lib.hid hcell'
  have HU := Lib.hid hin.cols
  have HU' := Lib.hid hin'.cols
  clear hcell hin hcell' hin'
  obtain ⟨R, hR⟩ : ∃ R, R = eqB (ps.map (·.1)) (ps'.map (·.1)) := ⟨_, rfl⟩
  rw [← hR]
  have HR := Lib.hid hR
  obtain ⟨n, hn⟩ : ∃ n, n = ps.length := ⟨_, rfl⟩
  obtain ⟨n', hn'⟩ : ∃ n, n = ps'.length := ⟨_, rfl⟩
  rw [← hn] at hc ⊢
  rw [← hn'] at hc' ⊢
  have HN := Lib.hid hn
  have HN' := Lib.hid hn'
  clear hR hn hn'
  by_cases hnn : n = n'
  · subst hnn
    go_enter Tryd.func46, Tryd.ntmps46
    go_wp2
    go_loopw [5] (fun i wr => ∃ k : Nat, k ≤ n ∧ i = .int .i64 k ∧ Ext w wr ∧ Hid ((ps.map (·.1)).take k = (ps'.map (·.1)).take k)) (fun i _ => n - (intOf i).toNat)
    case atStart => exact ⟨0, Nat.zero_le _, rfl, Ext.refl w, by show _ = _; rw [List.take_zero, List.take_zero]⟩
    case round =>
      obtain ⟨k, hk, rfl, hE, HK⟩ := hrel
      by_cases hlt : k < n
      · have hkl : k < ps.length := by rw [← HN.out]; exact hlt
        have hkl' : k < ps'.length := by rw [← HN'.out]; exact hlt
        obtain ⟨b, o, rfl, hco⟩ := HC.out k hkl
        obtain ⟨b', o', rfl, hco'⟩ := HC'.out k hkl'
        have hcu := (HU.out _ (List.getElem_mem hkl)).ext hE
        have hcu' := (HU'.out _ (List.getElem_mem hkl')).ext hE
        obtain ⟨M, hM⟩ : ∃ M, M = ps[k].1 := ⟨_, rfl⟩
        obtain ⟨N, hN⟩ : ∃ N, N = ps'[k].1 := ⟨_, rfl⟩
        rw [← hM] at hco hcu
        rw [← hN] at hco' hcu'
        obtain ⟨u, hu⟩ : ∃ u, u = ps[k].2 := ⟨_, rfl⟩
        obtain ⟨u', hu'⟩ : ∃ u, u = ps'[k].2 := ⟨_, rfl⟩
        rw [← hu] at hco hcu
        rw [← hu'] at hco' hcu'
        have HM := Lib.hid hM
        have HMN := Lib.hid hN
        clear hM hN hu hu'
        have hne : M ≠ N → Hid (R = false) := fun h => by
          show R = false
          rw [HR.out]
          refine eqB_false fun e => h ?_
          have h1 : (ps.map (·.1))[k]? = (ps'.map (·.1))[k]? := by rw [e]
          simp [hkl, hkl'] at h1
          rw [HM.out, HMN.out, h1]
        obtain ⟨g0, g1, g2, g3, g4, g5, g6, g7⟩ := hco.ext hE
        obtain ⟨y0, y1, y2, y3, y4, y5, y6, y7⟩ := hco'.ext hE
        clear hco hco'
        have hki : decide ((k : Int) < (n : Int)) = true := by simpa using hlt
        obtain ⟨B, hB⟩ : ∃ B, B = eqB M N := ⟨_, rfl⟩
        have HB := Lib.hid hB
        clear hB
        replace g0 := held g0
        replace g1 := held g1
        replace g2 := held g2
        replace g3 := held g3
        replace g4 := held g4
        replace g5 := held g5
        replace g6 := held g6
        replace g7 := held g7
        replace y0 := held y0
        replace y1 := held y1
        replace y2 := held y2
        replace y3 := held y3
        replace y4 := held y4
        replace y5 := held y5
        replace y6 := held y6
        replace y7 := held y7
        go_wp2_with fail
        refine wp_region_tab 10 [(8, fun v _ => v = .bool B)] (by kernel_rfl) (by kernel_rfl) (by kernel_rfl) ⟨stays_eq _, trivial⟩ ?_
        refine rg_quiet rfl rfl rfl rfl ?_; intro K hK; go_big_quiet_op; go_big_quiet_on
        refine rg_quiet rfl rfl rfl rfl ?_; intro K hK; go_big_quiet_op; go_big_quiet_on
        refine rg_quiet rfl rfl rfl rfl ?_; intro K hK; go_big_quiet_op; go_big_quiet_on
        refine rg_quiet rfl rfl rfl rfl ?_; intro K hK; go_big_quiet_op; go_big_quiet_on
        refine rg_quiet rfl rfl rfl rfl ?_; intro K hK; go_big_quiet_op; go_big_quiet_on
        refine rg_quiet rfl rfl rfl rfl ?_; intro K hK; go_big_quiet_op; go_big_quiet_on
        refine rg_quiet rfl rfl rfl rfl ?_; intro K hK; go_big_quiet_op; go_big_quiet_on
        refine rg_quiet rfl rfl rfl rfl ?_; intro K hK; go_big_quiet_op; go_big_quiet_on
        refine rg_val [] rfl rfl rfl (by kernel_rfl) (fun w1 hE hf => ?_) ?_
        · go_simp
          exact (same7_any M N u u' w1 (hcu.ext hE) (hcu'.ext hE)).mono fun e w' ⟨he, hw⟩ => ⟨_, he, rg_done hE hw (by rw [HB.out])⟩
        simp only [Act.put, List.setIfInBounds_toArray, List.set_cons_zero, List.set_cons_succ]
        cases B
        · have HF := hne fun e => by
            have := HB.out
            rw [e, eqB_true rfl] at this
            cases this
          clear hne
          refine rg_quiet rfl rfl rfl rfl ?_; intro K hK; go_big_quiet_op; go_big_quiet_on
          refine rel_nil fun w5 hE5 _ => ?_
          clear g0 g1 g2 g3 g4 g5 g6 g7 y0 y1 y2 y3 y4 y5 y6 y7
          go_wp2_with fail
          go_ret
          exact ⟨ret_bool HF.out.symm, hE.trans hE5⟩
        · clear hne
          refine rg_quiet rfl rfl rfl rfl ?_; intro K hK; go_big_quiet_op; go_big_quiet_on
          refine rel_nil fun w5 hE5 _ => ?_
          clear g0 g1 g2 g3 g4 g5 g6 g7 y0 y1 y2 y3 y4 y5 y6 y7
          go_wp2_with fail
          go_roundw
          case rel =>
            refine ⟨k + 1, by omega, by go_num, hE.trans hE5, list_split HK.out (by simpa using hkl) (by simpa using hkl') ?_⟩
            rw [List.getElem_map, List.getElem_map, ← HM.out, ← HMN.out]
            exact eqB_iff.1 HB.out.symm
          case measure => simp [intOf] <;> omega
      · obtain rfl : k = n := by omega
        have HT : Hid (R = true) := by
          show R = true
          rw [HR.out]
          refine eqB_true ?_
          have := HK.out
          rwa [List.take_of_length_le (by rw [List.length_map, ← HN.out]; exact Nat.le_refl _), List.take_of_length_le (by rw [List.length_map, ← HN'.out]; exact Nat.le_refl _)] at this
        go_wp2_with fail
        go_ret
        exact ⟨ret_bool HT.out.symm, hE⟩
  · have HF : Hid (R = false) := by
      show R = false
      rw [HR.out]
      exact eqB_false fun e => hnn (by rw [HN.out, HN'.out]; have := congrArg List.length e; simpa using this)
    have t1 : ((n : Int) == (n' : Int)) = false := by simp; omega
    go_enter Tryd.func46, Tryd.ntmps46
    go_wp2
    go_ret
    exact ⟨ret_bool HF.out.symm, Ext.refl w⟩

set_option maxRecDepth 100000 in
set_option maxHeartbeats 2000000 in
theorem same8_any (k k' : ByteArray) (g g' : Int) (v v' : Value) (ps ps' : List (Ro × Value)) (w : World) (hin : RowsIn w v ps) (hin' : RowsIn w v' ps') :
    Calls Tryd.prog 39 #[.agg #[.string k, .int .i64 g, v], .agg #[.string k', .int .i64 g', v']] w fun e w' => e = .returned (.bool ((k.toList == k'.toList) && (g == g') && eqB (ps.map (·.1)) (ps'.map (·.1)))) ∧ Ext w w' := by
  obtain ⟨a0, a1, hE⟩ := boxes2 w (pa3 k g v) (pa3 k' g' v') 35 35
  have hin1 := hin.ext hE
  have hin1' := hin'.ext hE
  obtain ⟨B, hB⟩ : ∃ B, B = eqB (ps.map (·.1)) (ps'.map (·.1)) := ⟨_, rfl⟩
  rw [← hB]
  have HB := Lib.hid hB
  clear a0 a1 hB
  cases e1 : (k.toList == k'.toList)
  · go_enter Tryd.func39, Tryd.ntmps39
    go_wp2_with fail
    go_ret
    exact ⟨rfl, hE⟩
  · cases e2 : (g == g')
    · go_enter Tryd.func39, Tryd.ntmps39
      go_wp2_with fail
      go_ret
      exact ⟨rfl, hE⟩
    · go_enter Tryd.func39, Tryd.ntmps39
      go_wp2_with fail
      refine (sameRows_any v v' ps ps' _ hin1 hin1').mono ?_
      rw [← HB.out]
      rintro e w1 ⟨rfl, hE1⟩
      go_wp2
      go_ret
      exact ⟨ret_bool (by simp), hE.trans hE1⟩
end Go.Proofs.YteamiiekpjoclaaDoor

/- A slice of integers that comes in, read. -/
namespace Go.Proofs.YteamiiekpjoclaaDoor
open Go Go.RowKit Go.ChangeShapes Go.WideShapes Go.ChangeAt

/-- The cells of a list of integers. -/
def kcells (k : IntKind) (l : List Int) : List Value := l.map (Value.int k)
@[simp] theorem kcells_length (k : IntKind) (l : List Int) : (kcells k l).length = l.length := by simp [kcells]
theorem kcells_get (k : IntKind) (l : List Int) (i : Nat) : (kcells k l)[i]? = l[i]?.map (Value.int k) := by simp [kcells]
/-- v is a slice of integers that reads as l. -/
def IntsIn (w : World) (v : Value) (k : IntKind) (l : List Int) : Prop := SliceIn w v l.length (kcells k l)
theorem IntsIn.ext {w w' : World} (hE : Ext w w') {v : Value} {k : IntKind} {l : List Int} (h : IntsIn w v k l) : IntsIn w' v k l := SliceIn.ext hE h

theorem read_ints {P : Program} {H : Type} {enc : TypeId × Value → H} {W : World} {base : Nat} {t e : TypeId} {k : IntKind} {v : Value} {d : DataW H} {p : List MemPlace} (ht : P.underlying t = some (.slice e)) (he : P.underlying e = some (.int k)) (hc : P.cellsOf e = 1)
    (hv : Value.okWide P W .any base t v) (h : DataW.Trod enc P W 0 (fun _ => true) true t v d p) : ∃ l : List Int, IntsIn W v k l ∧ ∀ n ∈ l, (Lit.int k n).wf = true := by
  obtain ⟨a, len, cap, rfl⟩ := okWide_slice ht hv
  obtain ⟨fuel, hf⟩ := h
  rcases open_ints ht he hc hf with ⟨hcs, _⟩ | ⟨x, l, c, zs, hcs, _, hl, hm, hz, _, hcell, hwz⟩
  · simp [Value.cells] at hcs
    obtain ⟨rfl, rfl, rfl⟩ := hcs
    exact ⟨[], SliceIn.nil W, by simp⟩
  · simp [Value.cells] at hcs
    obtain ⟨rfl, rfl, rfl⟩ := hcs
    have hz' : zs.length = cap := by simpa using hz
    refine ⟨zs.take len, ?_, fun n hn => hwz n (List.mem_of_mem_take hn)⟩
    have hlen : (zs.take len).length = len := by simp; omega
    unfold IntsIn
    rw [hlen]
    refine ⟨some x, cap, rfl, hl, hm, nofun, fun j u hj => ?_⟩
    rw [kcells_get, List.getElem?_take] at hj
    split at hj
    · rename_i hlt
      have hjz : j < zs.length := by omega
      have hc := hcell j hjz
      have h0 := hcell 0 (by omega)
      obtain ⟨b, o, s⟩ := x
      have hs : s = none := by
        cases s with
        | none => rfl
        | some s =>
          simp only [Addr.add, if_pos] at h0
          unfold World.cell? at h0
          split at h0 <;> simp at h0
      subst hs
      refine ⟨b, o, rfl, ?_⟩
      rw [Addr.add_lit] at hc
      rw [hc, List.getD_eq_getElem?_getD]
      rw [List.getElem?_eq_getElem hjz] at hj ⊢
      simp at hj ⊢
      exact hj
    · cases hj
end Go.Proofs.YteamiiekpjoclaaDoor

/- Place: any number as one below another. -/
namespace Go.Proofs.YteamiiekpjoclaaDoor
open Go Go.RowKit

set_option maxHeartbeats 400000 in
theorem place_any (v n : Int) (h : 1 ≤ n) (hn : n ≤ 9223372036854775807) (w : World) :
    Calls Tryd.prog 15 #[.int .i64 v, .int .i64 n] w fun e w' => e = .returned (.int .i64 (v % n)) ∧ w = w' := by
  have hlo := (tmod_lo (v := v) h).1
  have hhi := (tmod_lo (v := v) h).2
  by_cases h0 : v.tmod n < 0
  · have HE := Lib.hid (tmod_neg h h0)
    go_enter Tryd.func15, Tryd.ntmps15
    go_wp2
    go_ret
    exact ⟨ret_int HE.out, rfl⟩
  · have h0' : 0 ≤ v.tmod n := by omega
    have HE := Lib.hid (tmod_pos h h0')
    go_enter Tryd.func15, Tryd.ntmps15
    go_wp2
    go_ret
    exact ⟨ret_int HE.out, rfl⟩

end Go.Proofs.YteamiiekpjoclaaDoor
