/- Alike: cells, columns (plain laws). -/
import Derived.Test.YtcmgeccgahakbaaDoorS5
import Derived.Test.YtcmgeccgahakbaaDoorS13
import Derived.BigQuiet
import Derived.Lib.Hide
set_option linter.unusedSimpArgs false
set_option linter.unusedVariables false
namespace Go.Proofs.YtcmgeccgahakbaaDoor
open Go Go.RowKit

/-- Alike. -/
noncomputable def eqB {α : Type} (a b : α) : Bool := @decide (a = b) (Classical.propDecidable _)
theorem eqB_iff {α : Type} {a b : α} : eqB a b = true ↔ a = b := by unfold eqB; exact @decide_eq_true_iff _ (Classical.propDecidable _)
theorem eqB_true {α : Type} {a b : α} (h : a = b) : eqB a b = true := eqB_iff.2 h
theorem eqB_false {α : Type} {a b : α} (h : a ≠ b) : eqB a b = false := by
  cases e : eqB a b with
  | false => rfl
  | true => exact absurd (eqB_iff.1 e) h

theorem bytes_ext {a b : ByteArray} (h : a.toList = b.toList) : a = b := by
  rw [ByteArray.toList_eq, ByteArray.toList_eq] at h
  cases a; cases b
  simp at h
  rw [h]
theorem cl_ext {c d : Cl} (h2 : c.val.toList = d.val.toList) (h3 : c.dead = d.dead) (h4 : c.at_ = d.at_) (h5 : c.fin = d.fin) : c = d := by
  cases c; cases d
  simp only at *
  rw [bytes_ext h2, h3, h4, h5]
theorem co_ext {c d : Co} (h1 : c.name.toList = d.name.toList) (h2 : c.cell.val.toList = d.cell.val.toList) (h3 : c.cell.dead = d.cell.dead) (h4 : c.cell.at_ = d.cell.at_) (h5 : c.cell.fin = d.cell.fin) : c = d := by
  have := cl_ext h2 h3 h4 h5
  cases c; cases d
  simp only at *
  rw [bytes_ext h1, this]
end Go.Proofs.YtcmgeccgahakbaaDoor

/- The reference's Same of any cells, columns, rows, lists of rows, partitions. -/
namespace Go.Proofs.YtcmgeccgahakbaaDoor
open Go Go.RowKit
attribute [local go_sem] yields yUpon ro8 pa3

theorem eqB_bool {α : Type} {a b : α} {c : Bool} (h : c = true ↔ a = b) : eqB a b = c := by
  cases c with
  | true => exact eqB_true (h.1 rfl)
  | false => exact eqB_false fun e => by have := h.2 e; cases this
theorem toList_eq {a b : ByteArray} : (a.toList == b.toList) = true ↔ a = b := by
  constructor
  · intro h; exact bytes_ext (by simpa using h)
  · rintro rfl; simp
theorem clB_eq (c d : Cl) : ((c.val.toList == d.val.toList) && (c.dead == d.dead) && (c.at_ == d.at_) && (c.fin == d.fin)) = true ↔ c = d := by
  rw [Bool.and_eq_true, Bool.and_eq_true, Bool.and_eq_true, toList_eq]
  obtain ⟨a1, a2, a3, a4⟩ := c
  obtain ⟨b1, b2, b3, b4⟩ := d
  simp [and_assoc]

set_option maxHeartbeats 1000000 in
theorem same6_any (c d : Cl) (w : World) : Calls Tryd.prog 151 #[(.agg #[.string c.val, .bool c.dead, .int .i64 c.at_, .int .i64 c.fin]), (.agg #[.string d.val, .bool d.dead, .int .i64 d.at_, .int .i64 d.fin])] w fun e w' => e = .returned (.bool (eqB c d)) ∧ Ext w w' := by
  rw [eqB_bool (clB_eq c d)]
  cases e1 : (c.val.toList == d.val.toList)
  · go_enter Tryd.func151, Tryd.ntmps151
    go_wp2
    go_ret
    exact ⟨rfl, ((Ext.refl w).alloc _).alloc _⟩
  · cases e2 : (c.dead == d.dead)
    · go_enter Tryd.func151, Tryd.ntmps151
      go_wp2
      go_ret
      exact ⟨rfl, ((Ext.refl w).alloc _).alloc _⟩
    · cases e3 : (c.at_ == d.at_)
      · go_enter Tryd.func151, Tryd.ntmps151
        go_wp2
        go_ret
        exact ⟨rfl, ((Ext.refl w).alloc _).alloc _⟩
      · go_enter Tryd.func151, Tryd.ntmps151
        go_wp2
        go_ret
        exact ⟨ret_bool (by simp), ((Ext.refl w).alloc _).alloc _⟩

theorem list_split {α : Type} {l l' : List α} {k : Nat} (h : l.take k = l'.take k) (hk : k < l.length) (hk' : k < l'.length) (he : l[k] = l'[k]) : l.take (k + 1) = l'.take (k + 1) := by
  rw [List.take_succ_eq_append_getElem hk, List.take_succ_eq_append_getElem hk', h, he]

set_option maxRecDepth 100000 in
set_option maxHeartbeats 2000000 in
theorem sameCols_any (v v' : Value) (l l' : List Co) (w : World) (hin : ColsIn w v l) (hin' : ColsIn w v' l') :
    Calls Tryd.prog 152 #[v, v'] w fun e w' => e = .returned (.bool (eqB l l')) ∧ Ext w w' := by
  obtain ⟨a, c, rfl, hc, hcm, hcell⟩ := hin.get
  obtain ⟨a', c', rfl, hc', hcm', hcell'⟩ := hin'.get
  have HC := Lib.hid hcell
  have HC' := Lib.hid hcell'
  clear hcell hin hcell' hin'
  obtain ⟨R, hR⟩ : ∃ R, R = eqB l l' := ⟨_, rfl⟩
  rw [← hR]
  have HR := Lib.hid hR
  obtain ⟨n, hn⟩ : ∃ n, n = l.length := ⟨_, rfl⟩
  obtain ⟨n', hn'⟩ : ∃ n, n = l'.length := ⟨_, rfl⟩
  rw [← hn] at hc ⊢
  rw [← hn'] at hc' ⊢
  have HN := Lib.hid hn
  have HN' := Lib.hid hn'
  clear hR hn hn'
  by_cases hnn : n = n'
  · subst hnn
    go_enter Tryd.func152, Tryd.ntmps152
    go_wp2
    go_loopw [5] (fun i wr => ∃ k : Nat, k ≤ n ∧ i = .int .i64 k ∧ Ext w wr ∧ Hid (l.take k = l'.take k)) (fun i _ => n - (intOf i).toNat)
    case atStart => exact ⟨0, Nat.zero_le _, rfl, Ext.refl w, by show _ = _; rw [List.take_zero, List.take_zero]⟩
    case round =>
      obtain ⟨k, hk, rfl, hE, HK⟩ := hrel
      by_cases hlt : k < n
      · have hkl : k < l.length := by rw [← HN.out]; exact hlt
        have hkl' : k < l'.length := by rw [← HN'.out]; exact hlt
        obtain ⟨b, o, rfl, hco⟩ := HC.out k hkl
        obtain ⟨b', o', rfl, hco'⟩ := HC'.out k hkl'
        obtain ⟨M, hM⟩ : ∃ M, M = l[k] := ⟨_, rfl⟩
        obtain ⟨N, hN⟩ : ∃ N, N = l'[k] := ⟨_, rfl⟩
        rw [← hM] at hco
        rw [← hN] at hco'
        have HM := Lib.hid hM
        have HMN := Lib.hid hN
        clear hM hN
        have hne : M ≠ N → Hid (R = false) := fun h => by
          show R = false
          rw [HR.out]
          exact eqB_false fun e => h (by rw [HM.out, HMN.out]; simp only [e])
        obtain ⟨g0, g1, g2, g3, g4⟩ := hco.ext hE
        obtain ⟨y0, y1, y2, y3, y4⟩ := hco'.ext hE
        clear hco hco'
        have hki : decide ((k : Int) < (n : Int)) = true := by simpa using hlt
        obtain ⟨B, hB⟩ : ∃ B, B = eqB M.cell N.cell := ⟨_, rfl⟩
        have HB := Lib.hid hB
        clear hB
        cases e1 : (M.name.toList == N.name.toList)
        · have HF := hne fun e => by rw [e] at e1; simp at e1
          clear hne
          go_wp2_with fail
          refine wp_region_tab 25 [] (by kernel_rfl) (by kernel_rfl) (by kernel_rfl) trivial ?_
          replace g0 := held g0
          replace y0 := held y0
          refine rg_quiet rfl rfl rfl rfl ?_; intro K hK; go_big_quiet_op; go_big_quiet_on
          refine rg_quiet rfl rfl rfl rfl ?_; intro K hK; go_big_quiet_op; go_big_quiet_on
          refine rg_quiet rfl rfl rfl rfl ?_; intro K hK; go_big_quiet_op; go_big_quiet_on
          refine rg_quiet rfl rfl rfl rfl ?_; intro K hK; go_big_quiet_op; go_big_quiet_on
          refine rg_quiet rfl rfl rfl rfl ?_; intro K hK; go_big_quiet_op; go_big_quiet_on
          refine rg_quiet rfl rfl rfl rfl ?_; intro K hK; go_big_quiet_op; go_big_quiet_on
          refine rg_quiet rfl rfl rfl rfl ?_; intro K hK; go_big_quiet_op; go_big_quiet_on
          refine rg_quiet rfl rfl rfl rfl ?_; intro K hK; go_big_quiet_op; go_big_quiet_on
          refine rg_quiet rfl rfl rfl rfl ?_; intro K hK; go_big_quiet_op; go_big_quiet_on
          refine rg_quiet rfl rfl rfl rfl ?_; intro K hK; go_big_quiet_op; go_big_quiet_on
          refine rg_quiet rfl rfl rfl rfl ?_; intro K hK; go_big_quiet_op; go_big_quiet_on
          refine rg_quiet rfl rfl rfl rfl ?_; intro K hK; go_big_quiet_op; go_big_quiet_on
          refine rel_skip rfl rfl ?_
          simp only [Act.put, List.setIfInBounds_toArray, List.set_cons_zero, List.set_cons_succ]
          refine rel_skip rfl rfl ?_
          simp only [Act.put, List.setIfInBounds_toArray, List.set_cons_zero, List.set_cons_succ]
          refine rel_skip rfl rfl ?_
          simp only [Act.put, List.setIfInBounds_toArray, List.set_cons_zero, List.set_cons_succ]
          refine rel_skip rfl rfl ?_
          simp only [Act.put, List.setIfInBounds_toArray, List.set_cons_zero, List.set_cons_succ]
          refine rel_skip rfl rfl ?_
          simp only [Act.put, List.setIfInBounds_toArray, List.set_cons_zero, List.set_cons_succ]
          refine rel_skip rfl rfl ?_
          simp only [Act.put, List.setIfInBounds_toArray, List.set_cons_zero, List.set_cons_succ]
          refine rel_skip rfl rfl ?_
          simp only [Act.put, List.setIfInBounds_toArray, List.set_cons_zero, List.set_cons_succ]
          refine rel_skip rfl rfl ?_
          simp only [Act.put, List.setIfInBounds_toArray, List.set_cons_zero, List.set_cons_succ]
          refine rel_skip rfl rfl ?_
          simp only [Act.put, List.setIfInBounds_toArray, List.set_cons_zero, List.set_cons_succ]
          refine rel_skip rfl rfl ?_
          simp only [Act.put, List.setIfInBounds_toArray, List.set_cons_zero, List.set_cons_succ]
          refine rel_skip rfl rfl ?_
          simp only [Act.put, List.setIfInBounds_toArray, List.set_cons_zero, List.set_cons_succ]
          refine rel_skip rfl rfl ?_
          simp only [Act.put, List.setIfInBounds_toArray, List.set_cons_zero, List.set_cons_succ]
          refine rg_quiet rfl rfl rfl rfl ?_; intro K hK; go_big_quiet_op; go_big_quiet_on
          refine rel_nil fun w5 hE5 _ => ?_
          clear g0 g1 g2 g3 g4 y0 y1 y2 y3 y4
          go_wp2_with fail
          go_ret
          exact ⟨ret_bool HF.out.symm, hE.trans hE5⟩
        · have en : M.name = N.name := toList_eq.1 e1
          have HEN := Lib.hid en
          clear en
          go_wp2_with fail
          refine wp_region_tab 25 [(22, fun v _ => v = .bool B)] (by kernel_rfl) (by kernel_rfl) (by kernel_rfl) ⟨stays_eq _, trivial⟩ ?_
          replace g0 := held g0
          replace g1 := held g1
          replace g2 := held g2
          replace g3 := held g3
          replace g4 := held g4
          replace y0 := held y0
          replace y1 := held y1
          replace y2 := held y2
          replace y3 := held y3
          replace y4 := held y4
          refine rg_quiet rfl rfl rfl rfl ?_; intro K hK; go_big_quiet_op; go_big_quiet_on
          refine rg_quiet rfl rfl rfl rfl ?_; intro K hK; go_big_quiet_op; go_big_quiet_on
          refine rg_quiet rfl rfl rfl rfl ?_; intro K hK; go_big_quiet_op; go_big_quiet_on
          refine rg_quiet rfl rfl rfl rfl ?_; intro K hK; go_big_quiet_op; go_big_quiet_on
          refine rg_quiet rfl rfl rfl rfl ?_; intro K hK; go_big_quiet_op; go_big_quiet_on
          refine rg_quiet rfl rfl rfl rfl ?_; intro K hK; go_big_quiet_op; go_big_quiet_on
          refine rg_quiet rfl rfl rfl rfl ?_; intro K hK; go_big_quiet_op; go_big_quiet_on
          refine rg_quiet rfl rfl rfl rfl ?_; intro K hK; go_big_quiet_op; go_big_quiet_on
          refine rg_quiet rfl rfl rfl rfl ?_; intro K hK; go_big_quiet_op; go_big_quiet_on
          refine rg_quiet rfl rfl rfl rfl ?_; intro K hK; go_big_quiet_op; go_big_quiet_on
          refine rg_quiet rfl rfl rfl rfl ?_; intro K hK; go_big_quiet_op; go_big_quiet_on
          refine rg_quiet rfl rfl rfl rfl ?_; intro K hK; go_big_quiet_op; go_big_quiet_on
          refine rg_quiet rfl rfl rfl rfl ?_; intro K hK; go_big_quiet_op; go_big_quiet_on
          refine rg_quiet rfl rfl rfl rfl ?_; intro K hK; go_big_quiet_op; go_big_quiet_on
          refine rg_quiet rfl rfl rfl rfl ?_; intro K hK; go_big_quiet_op; go_big_quiet_on
          refine rg_quiet rfl rfl rfl rfl ?_; intro K hK; go_big_quiet_op; go_big_quiet_on
          refine rg_quiet rfl rfl rfl rfl ?_; intro K hK; go_big_quiet_op; go_big_quiet_on
          refine rg_quiet rfl rfl rfl rfl ?_; intro K hK; go_big_quiet_op; go_big_quiet_on
          refine rg_quiet rfl rfl rfl rfl ?_; intro K hK; go_big_quiet_op; go_big_quiet_on
          refine rg_quiet rfl rfl rfl rfl ?_; intro K hK; go_big_quiet_op; go_big_quiet_on
          refine rg_quiet rfl rfl rfl rfl ?_; intro K hK; go_big_quiet_op; go_big_quiet_on
          refine rg_quiet rfl rfl rfl rfl ?_; intro K hK; go_big_quiet_op; go_big_quiet_on
          refine rg_val [] rfl rfl rfl (by kernel_rfl) (fun w1 hE hf => ?_) ?_
          · go_simp
            exact (same6_any M.cell N.cell w1).mono fun e w' ⟨he, hw⟩ => ⟨_, he, rg_done hE hw (by rw [HB.out])⟩
          simp only [Act.put, List.setIfInBounds_toArray, List.set_cons_zero, List.set_cons_succ]
          cases B
          · have HF := hne fun e => by
              have := HB.out
              rw [e, eqB_true rfl] at this
              cases this
            clear hne
            refine rg_quiet rfl rfl rfl rfl ?_; intro K hK; go_big_quiet_op; go_big_quiet_on
            refine rg_quiet rfl rfl rfl rfl ?_; intro K hK; go_big_quiet_op; go_big_quiet_on
            refine rel_nil fun w5 hE5 _ => ?_
            clear g0 g1 g2 g3 g4 y0 y1 y2 y3 y4
            go_wp2_with fail
            go_ret
            exact ⟨ret_bool HF.out.symm, hE.trans hE5⟩
          · clear hne
            refine rg_quiet rfl rfl rfl rfl ?_; intro K hK; go_big_quiet_op; go_big_quiet_on
            refine rg_quiet rfl rfl rfl rfl ?_; intro K hK; go_big_quiet_op; go_big_quiet_on
            refine rel_nil fun w5 hE5 _ => ?_
            clear g0 g1 g2 g3 g4 y0 y1 y2 y3 y4
            go_wp2_with fail
            go_roundw
            case rel =>
              refine ⟨k + 1, by omega, by go_num, hE.trans hE5, list_split HK.out hkl hkl' ?_⟩
              rw [← HM.out, ← HMN.out]
              have hc := eqB_iff.1 HB.out.symm
              have hn := HEN.out
              obtain ⟨m1, m2⟩ := M
              obtain ⟨n1, n2⟩ := N
              simp only at hc hn
              rw [hc, hn]
            case measure => simp [intOf] <;> omega
      · obtain rfl : k = n := by omega
        have HT : Hid (R = true) := by
          show R = true
          rw [HR.out]
          refine eqB_true ?_
          have := HK.out
          rwa [List.take_of_length_le (by rw [← HN.out]; exact Nat.le_refl _), List.take_of_length_le (by rw [← HN'.out]; exact Nat.le_refl _)] at this
        go_wp2_with fail
        go_ret
        exact ⟨ret_bool HT.out.symm, hE⟩
  · have HF : Hid (R = false) := by
      show R = false
      rw [HR.out]
      exact eqB_false fun e => hnn (by rw [HN.out, HN'.out, e])
    have t1 : ((n : Int) == (n' : Int)) = false := by simp; omega
    go_enter Tryd.func152, Tryd.ntmps152
    go_wp2
    go_ret
    exact ⟨ret_bool HF.out.symm, Ext.refl w⟩

theorem roB_eq (a b : Ro) : ((a.key.toList == b.key.toList) && eqB a.live b.live && (a.gone == b.gone) && (a.shade == b.shade) && eqB a.cols b.cols) = true ↔ a = b := by
  rw [Bool.and_eq_true, Bool.and_eq_true, Bool.and_eq_true, Bool.and_eq_true, toList_eq, eqB_iff, eqB_iff]
  obtain ⟨a1, a2, a3, a4, a5⟩ := a
  obtain ⟨b1, b2, b3, b4, b5⟩ := b
  simp [and_assoc]

set_option maxRecDepth 100000 in
set_option maxHeartbeats 2000000 in
theorem same7_any (r t : Ro) (v v' : Value) (w : World) (hin : ColsIn w v r.cols) (hin' : ColsIn w v' t.cols) :
    Calls Tryd.prog 122 #[(.agg #[.string r.key, .string r.live.val, .bool r.live.dead, .int .i64 r.live.at_, .int .i64 r.live.fin, .int .i64 r.gone, .int .i64 r.shade, v]), (.agg #[.string t.key, .string t.live.val, .bool t.live.dead, .int .i64 t.live.at_, .int .i64 t.live.fin, .int .i64 t.gone, .int .i64 t.shade, v'])] w fun e w' => e = .returned (.bool (eqB r t)) ∧ Ext w w' := by
  obtain ⟨a0, a1, hE⟩ := boxes2 w (ro8 r v) (ro8 t v') 91 91
  have hin1 := hin.ext hE
  have hin1' := hin'.ext hE
  obtain ⟨B1, hB1⟩ : ∃ B, B = eqB r.live t.live := ⟨_, rfl⟩
  obtain ⟨B2, hB2⟩ : ∃ B, B = eqB r.cols t.cols := ⟨_, rfl⟩
  have hR := eqB_bool (roB_eq r t)
  rw [← hB1, ← hB2] at hR
  rw [hR]
  have HB1 := Lib.hid hB1
  have HB2 := Lib.hid hB2
  clear hB1 hB2 hR
  cases e1 : (r.key.toList == t.key.toList)
  · go_enter Tryd.func122, Tryd.ntmps122
    go_wp2_with fail
    go_ret
    exact ⟨rfl, hE⟩
  · cases B1
    · go_enter Tryd.func122, Tryd.ntmps122
      go_wp2_with fail
      refine (same6_any r.live t.live _).mono ?_
      rw [← HB1.out]
      rintro e w1 ⟨rfl, hE1⟩
      go_wp2_with fail
      go_ret
      exact ⟨rfl, hE.trans hE1⟩
    · cases e2 : (r.gone == t.gone)
      · go_enter Tryd.func122, Tryd.ntmps122
        go_wp2_with fail
        refine (same6_any r.live t.live _).mono ?_
        rw [← HB1.out]
        rintro e w1 ⟨rfl, hE1⟩
        have y0 : ∀ i, w1.cell? ⟨w.heap.size, i, none⟩ = (ro8 r v)[i]? := fun i => (a0.ext hE1).cell i
        have y1 : ∀ i, w1.cell? ⟨w.heap.size + 1, i, none⟩ = (ro8 t v')[i]? := fun i => (a1.ext hE1).cell i
        go_wp2_with fail
        go_ret
        exact ⟨rfl, hE.trans hE1⟩
      · cases e3 : (r.shade == t.shade)
        · go_enter Tryd.func122, Tryd.ntmps122
          go_wp2_with fail
          refine (same6_any r.live t.live _).mono ?_
          rw [← HB1.out]
          rintro e w1 ⟨rfl, hE1⟩
          have y0 : ∀ i, w1.cell? ⟨w.heap.size, i, none⟩ = (ro8 r v)[i]? := fun i => (a0.ext hE1).cell i
          have y1 : ∀ i, w1.cell? ⟨w.heap.size + 1, i, none⟩ = (ro8 t v')[i]? := fun i => (a1.ext hE1).cell i
          go_wp2_with fail
          go_ret
          exact ⟨rfl, hE.trans hE1⟩
        · go_enter Tryd.func122, Tryd.ntmps122
          go_wp2_with fail
          refine (same6_any r.live t.live _).mono ?_
          rw [← HB1.out]
          rintro e w1 ⟨rfl, hE1⟩
          replace hE := hE.trans hE1
          replace hin1 := hin1.ext hE1
          replace hin1' := hin1'.ext hE1
          have y0 : ∀ i, w1.cell? ⟨w.heap.size, i, none⟩ = (ro8 r v)[i]? := fun i => (a0.ext hE1).cell i
          have y1 : ∀ i, w1.cell? ⟨w.heap.size + 1, i, none⟩ = (ro8 t v')[i]? := fun i => (a1.ext hE1).cell i
          clear hE1 hin hin' a0 a1
          go_wp2_with fail
          refine (sameCols_any v v' r.cols t.cols _ hin1 hin1').mono ?_
          rw [← HB2.out]
          rintro e w2 ⟨rfl, hE2⟩
          clear HB1 HB2 hin1 hin1' y0 y1
          go_wp2
          go_ret
          exact ⟨ret_bool (by simp), hE.trans hE2⟩

set_option maxRecDepth 100000 in
set_option maxHeartbeats 2000000 in
theorem sameRows_any (v v' : Value) (ps ps' : List (Ro × Value)) (w : World) (hin : RowsIn w v ps) (hin' : RowsIn w v' ps') :
    Calls Tryd.prog 81 #[v, v'] w fun e w' => e = .returned (.bool (eqB (ps.map (·.1)) (ps'.map (·.1)))) ∧ Ext w w' := by
  obtain ⟨a, c, rfl, hc, hcm, hcell⟩ := hin.get
  obtain ⟨a', c', rfl, hc', hcm', hcell'⟩ := hin'.get
  have HC := Lib.hid hcell
  have HC' := Lib.hid hcell'
  have HU := Lib.hid hin.cols
  have HU' := Lib.hid hin'.cols
  clear hcell hin hcell' hin'
  obtain ⟨R, hR⟩ : ∃ R, R = eqB (ps.map (·.1)) (ps'.map (·.1)) := ⟨_, rfl⟩
  rw [← hR]
  have HR := Lib.hid hR
  obtain ⟨n, hn⟩ : ∃ n, n = ps.length := ⟨_, rfl⟩
  obtain ⟨n', hn'⟩ : ∃ n, n = ps'.length := ⟨_, rfl⟩
  rw [← hn] at hc ⊢
  rw [← hn'] at hc' ⊢
  have HN := Lib.hid hn
  have HN' := Lib.hid hn'
  clear hR hn hn'
  by_cases hnn : n = n'
  · subst hnn
    go_enter Tryd.func81, Tryd.ntmps81
    go_wp2
    go_loopw [5] (fun i wr => ∃ k : Nat, k ≤ n ∧ i = .int .i64 k ∧ Ext w wr ∧ Hid ((ps.map (·.1)).take k = (ps'.map (·.1)).take k)) (fun i _ => n - (intOf i).toNat)
    case atStart => exact ⟨0, Nat.zero_le _, rfl, Ext.refl w, by show _ = _; rw [List.take_zero, List.take_zero]⟩
    case round =>
      obtain ⟨k, hk, rfl, hE, HK⟩ := hrel
      by_cases hlt : k < n
      · have hkl : k < ps.length := by rw [← HN.out]; exact hlt
        have hkl' : k < ps'.length := by rw [← HN'.out]; exact hlt
        obtain ⟨b, o, rfl, hco⟩ := HC.out k hkl
        obtain ⟨b', o', rfl, hco'⟩ := HC'.out k hkl'
        have hcu := (HU.out _ (List.getElem_mem hkl)).ext hE
        have hcu' := (HU'.out _ (List.getElem_mem hkl')).ext hE
        obtain ⟨M, hM⟩ : ∃ M, M = ps[k].1 := ⟨_, rfl⟩
        obtain ⟨N, hN⟩ : ∃ N, N = ps'[k].1 := ⟨_, rfl⟩
        rw [← hM] at hco hcu
        rw [← hN] at hco' hcu'
        obtain ⟨u, hu⟩ : ∃ u, u = ps[k].2 := ⟨_, rfl⟩
        obtain ⟨u', hu'⟩ : ∃ u, u = ps'[k].2 := ⟨_, rfl⟩
        rw [← hu] at hco hcu
        rw [← hu'] at hco' hcu'
        have HM := Lib.hid hM
        have HMN := Lib.hid hN
        clear hM hN hu hu'
        have hne : M ≠ N → Hid (R = false) := fun h => by
          show R = false
          rw [HR.out]
          refine eqB_false fun e => h ?_
          have h1 : (ps.map (·.1))[k]? = (ps'.map (·.1))[k]? := by rw [e]
          simp [hkl, hkl'] at h1
          rw [HM.out, HMN.out, h1]
        obtain ⟨g0, g1, g2, g3, g4, g5, g6, g7⟩ := hco.ext hE
        obtain ⟨y0, y1, y2, y3, y4, y5, y6, y7⟩ := hco'.ext hE
        clear hco hco'
        have hki : decide ((k : Int) < (n : Int)) = true := by simpa using hlt
        obtain ⟨B, hB⟩ : ∃ B, B = eqB M N := ⟨_, rfl⟩
        have HB := Lib.hid hB
        clear hB
        replace g0 := held g0
        replace g1 := held g1
        replace g2 := held g2
        replace g3 := held g3
        replace g4 := held g4
        replace g5 := held g5
        replace g6 := held g6
        replace g7 := held g7
        replace y0 := held y0
        replace y1 := held y1
        replace y2 := held y2
        replace y3 := held y3
        replace y4 := held y4
        replace y5 := held y5
        replace y6 := held y6
        replace y7 := held y7
        go_wp2_with fail
        refine wp_region_tab 10 [(8, fun v _ => v = .bool B)] (by kernel_rfl) (by kernel_rfl) (by kernel_rfl) ⟨stays_eq _, trivial⟩ ?_
        refine rg_quiet rfl rfl rfl rfl ?_; intro K hK; go_big_quiet_op; go_big_quiet_on
        refine rg_quiet rfl rfl rfl rfl ?_; intro K hK; go_big_quiet_op; go_big_quiet_on
        refine rg_quiet rfl rfl rfl rfl ?_; intro K hK; go_big_quiet_op; go_big_quiet_on
        refine rg_quiet rfl rfl rfl rfl ?_; intro K hK; go_big_quiet_op; go_big_quiet_on
        refine rg_quiet rfl rfl rfl rfl ?_; intro K hK; go_big_quiet_op; go_big_quiet_on
        refine rg_quiet rfl rfl rfl rfl ?_; intro K hK; go_big_quiet_op; go_big_quiet_on
        refine rg_quiet rfl rfl rfl rfl ?_; intro K hK; go_big_quiet_op; go_big_quiet_on
        refine rg_quiet rfl rfl rfl rfl ?_; intro K hK; go_big_quiet_op; go_big_quiet_on
        refine rg_val [] rfl rfl rfl (by kernel_rfl) (fun w1 hE hf => ?_) ?_
        · go_simp
          exact (same7_any M N u u' w1 (hcu.ext hE) (hcu'.ext hE)).mono fun e w' ⟨he, hw⟩ => ⟨_, he, rg_done hE hw (by rw [HB.out])⟩
        simp only [Act.put, List.setIfInBounds_toArray, List.set_cons_zero, List.set_cons_succ]
        cases B
        · have HF := hne fun e => by
            have := HB.out
            rw [e, eqB_true rfl] at this
            cases this
          clear hne
          refine rg_quiet rfl rfl rfl rfl ?_; intro K hK; go_big_quiet_op; go_big_quiet_on
          refine rel_nil fun w5 hE5 _ => ?_
          clear g0 g1 g2 g3 g4 g5 g6 g7 y0 y1 y2 y3 y4 y5 y6 y7
          go_wp2_with fail
          go_ret
          exact ⟨ret_bool HF.out.symm, hE.trans hE5⟩
        · clear hne
          refine rg_quiet rfl rfl rfl rfl ?_; intro K hK; go_big_quiet_op; go_big_quiet_on
          refine rel_nil fun w5 hE5 _ => ?_
          clear g0 g1 g2 g3 g4 g5 g6 g7 y0 y1 y2 y3 y4 y5 y6 y7
          go_wp2_with fail
          go_roundw
          case rel =>
            refine ⟨k + 1, by omega, by go_num, hE.trans hE5, list_split HK.out (by simpa using hkl) (by simpa using hkl') ?_⟩
            rw [List.getElem_map, List.getElem_map, ← HM.out, ← HMN.out]
            exact eqB_iff.1 HB.out.symm
          case measure => simp [intOf] <;> omega
      · obtain rfl : k = n := by omega
        have HT : Hid (R = true) := by
          show R = true
          rw [HR.out]
          refine eqB_true ?_
          have := HK.out
          rwa [List.take_of_length_le (by rw [List.length_map, ← HN.out]; exact Nat.le_refl _), List.take_of_length_le (by rw [List.length_map, ← HN'.out]; exact Nat.le_refl _)] at this
        go_wp2_with fail
        go_ret
        exact ⟨ret_bool HT.out.symm, hE⟩
  · have HF : Hid (R = false) := by
      show R = false
      rw [HR.out]
      exact eqB_false fun e => hnn (by rw [HN.out, HN'.out]; have := congrArg List.length e; simpa using this)
    have t1 : ((n : Int) == (n' : Int)) = false := by simp; omega
    go_enter Tryd.func81, Tryd.ntmps81
    go_wp2
    go_ret
    exact ⟨ret_bool HF.out.symm, Ext.refl w⟩

set_option maxRecDepth 100000 in
set_option maxHeartbeats 2000000 in
theorem same8_any (k k' : ByteArray) (g g' : Int) (v v' : Value) (ps ps' : List (Ro × Value)) (w : World) (hin : RowsIn w v ps) (hin' : RowsIn w v' ps') :
    Calls Tryd.prog 22 #[.agg #[.string k, .int .i64 g, v], .agg #[.string k', .int .i64 g', v']] w fun e w' => e = .returned (.bool ((k.toList == k'.toList) && (g == g') && eqB (ps.map (·.1)) (ps'.map (·.1)))) ∧ Ext w w' := by
  obtain ⟨a0, a1, hE⟩ := boxes2 w (pa3 k g v) (pa3 k' g' v') 24 24
  have hin1 := hin.ext hE
  have hin1' := hin'.ext hE
  obtain ⟨B, hB⟩ : ∃ B, B = eqB (ps.map (·.1)) (ps'.map (·.1)) := ⟨_, rfl⟩
  rw [← hB]
  have HB := Lib.hid hB
  clear a0 a1 hB
  cases e1 : (k.toList == k'.toList)
  · go_enter Tryd.func22, Tryd.ntmps22
    go_wp2_with fail
    go_ret
    exact ⟨rfl, hE⟩
  · cases e2 : (g == g')
    · go_enter Tryd.func22, Tryd.ntmps22
      go_wp2_with fail
      go_ret
      exact ⟨rfl, hE⟩
    · go_enter Tryd.func22, Tryd.ntmps22
      go_wp2_with fail
      refine (sameRows_any v v' ps ps' _ hin1 hin1').mono ?_
      rw [← HB.out]
      rintro e w1 ⟨rfl, hE1⟩
      go_wp2
      go_ret
      exact ⟨ret_bool (by simp), hE.trans hE1⟩
end Go.Proofs.YtcmgeccgahakbaaDoor

/- clerestorylaw00's SameNotes, SameInts, SameMuts, SameBatch of what reads alike. -/
namespace Go.Proofs.YtcmgeccgahakbaaDoor
open Go Go.RowKit
attribute [local go_sem] yields yUpon

set_option maxRecDepth 100000 in
set_option maxHeartbeats 4000000 in
theorem sameNt_any (va vb : Value) (F : List Nt) (w : World) (ha : NtsIn w va F) (hb : NtsIn w vb F) :
    Calls Tryd.prog 83 #[va, vb] w fun e w' => e = .returned (.bool true) ∧ Ext w w' := by
  obtain ⟨aa, ca, rfl, hca, hcma, hga⟩ := ha.get
  obtain ⟨ab, cb, rfl, hcb, hcmb, hgb⟩ := hb.get
  have HA := Lib.hid hga
  have HB := Lib.hid hgb
  obtain ⟨n, hn⟩ : ∃ n, n = F.length := ⟨_, rfl⟩
  have HN := Lib.hid hn
  rw [← hn] at hca hcb ⊢
  clear hga hgb hn ha hb
  go_enter Tryd.func83, Tryd.ntmps83
  go_wp2
  go_loopw [5] (fun i wr => ∃ k : Nat, k ≤ n ∧ i = .int .i64 (k : Int) ∧ Ext w wr) (fun i _ => n - (intOf i).toNat)
  case atStart => exact ⟨0, Nat.zero_le _, rfl, Ext.refl w⟩
  case round =>
    obtain ⟨k, hk, rfl, hE⟩ := hrel
    by_cases hlt : k < n
    · have hkF : k < F.length := by rw [← HN.out]; exact hlt
      obtain ⟨b, o, rfl, x0, x1⟩ := HA.out k hkF
      obtain ⟨b', o', rfl, y0, y1⟩ := HB.out k hkF
      replace x0 := hE.cell x0
      replace x1 := hE.cell x1
      replace y0 := hE.cell y0
      replace y1 := hE.cell y1
      obtain ⟨x, hx⟩ : ∃ x, x = (F[k]).id := ⟨_, rfl⟩
      obtain ⟨s, hs⟩ : ∃ s, s = (F[k]).body := ⟨_, rfl⟩
      rw [← hx] at x0 y0
      rw [← hs] at x1 y1
      clear hx hs
      have t1 : decide ((k : Int) < (n : Int)) = true := by simp; omega
      have t2 : (x != x) = false := by simp
      go_wp2_with fail
      go_quiet (fail)
      go_wp2
      go_roundw
      case rel => exact ⟨k + 1, by omega, by go_num, hE.drewN _⟩
      case measure => simp [intOf]; omega
    · obtain rfl : k = n := by omega
      go_wp2_with fail
      go_ret
      exact ⟨rfl, hE⟩

set_option maxRecDepth 100000 in
set_option maxHeartbeats 4000000 in
theorem sameInts_alike (va vb : Value) (F : List Int) (w : World) (ha : IntsIn w va .i64 F) (hb : IntsIn w vb .i64 F) :
    Calls Tryd.prog 39 #[va, vb] w fun e w' => e = .returned (.bool true) ∧ Ext w w' := by
  obtain ⟨aa, ca, rfl, hca, hcma, _, hga⟩ := ha
  obtain ⟨ab, cb, rfl, hcb, hcmb, _, hgb⟩ := hb
  unfold maxLen at hcma hcmb
  have HA := Lib.hid hga
  have HB := Lib.hid hgb
  obtain ⟨n, hn⟩ : ∃ n, n = F.length := ⟨_, rfl⟩
  have HN := Lib.hid hn
  rw [← hn] at hca hcb ⊢
  clear hga hgb hn
  go_enter Tryd.func39, Tryd.ntmps39
  go_wp2
  go_loopw [5] (fun i wr => ∃ k : Nat, k ≤ n ∧ i = .int .i64 (k : Int) ∧ Ext w wr) (fun i _ => n - (intOf i).toNat)
  case atStart => exact ⟨0, Nat.zero_le _, rfl, Ext.refl w⟩
  case round =>
    obtain ⟨k, hk, rfl, hE⟩ := hrel
    by_cases hlt : k < n
    · have hkF : k < F.length := by rw [← HN.out]; exact hlt
      obtain ⟨b, o, rfl, x0⟩ := HA.out k (.int .i64 F[k]) (by rw [kcells_get, List.getElem?_eq_getElem hkF]; rfl)
      obtain ⟨b', o', rfl, y0⟩ := HB.out k (.int .i64 F[k]) (by rw [kcells_get, List.getElem?_eq_getElem hkF]; rfl)
      replace x0 := hE.cell x0
      replace y0 := hE.cell y0
      obtain ⟨x, hx⟩ : ∃ x, x = F[k] := ⟨_, rfl⟩
      rw [← hx] at x0 y0
      clear hx
      have t1 : decide ((k : Int) < (n : Int)) = true := by simp; omega
      have t2 : (x != x) = false := by simp
      go_wp2_with fail
      try (go_quiet (fail))
      try go_wp2
      go_roundw
      case rel => exact ⟨k + 1, by omega, by go_num, by first | exact hE | exact hE.drewN _⟩
      case measure => simp [intOf]; omega
    · obtain rfl : k = n := by omega
      go_wp2_with fail
      go_ret
      exact ⟨rfl, hE⟩

theorem same8_alike (k : ByteArray) (g : Int) (v v' : Value) (ps ps' : List (Ro × Value)) (w : World) (hin : RowsIn w v ps) (hin' : RowsIn w v' ps') (h : ps.map (·.1) = ps'.map (·.1)) :
    Calls Tryd.prog 22 #[.agg #[.string k, .int .i64 g, v], .agg #[.string k, .int .i64 g, v']] w fun e w' => e = .returned (.bool true) ∧ Ext w w' := by
  have := same8_any k k g g v v' ps ps' w hin hin'
  rw [eqB_true h] at this
  simpa using this

set_option maxRecDepth 100000 in
set_option maxHeartbeats 4000000 in
theorem sameMts_any (va vb : Value) (Ma Mb : List Mt) (hm : Ma.map Mt.q = Mb.map Mt.q) (w : World) (ha : MtsIn w va Ma) (hb : MtsIn w vb Mb) :
    Calls Tryd.prog 82 #[va, vb] w fun e w' => e = .returned (.bool true) ∧ Ext w w' := by
  have HRA := Lib.hid ha.rows
  have HRB := Lib.hid hb.rows
  obtain ⟨aa, ca, rfl, hca, hcma, hga⟩ := ha.get
  obtain ⟨ab, cb, rfl, hcb, hcmb, hgb⟩ := hb.get
  have HA := Lib.hid hga
  have HB := Lib.hid hgb
  have hl : Ma.length = Mb.length := by have := congrArg List.length hm; simpa using this
  have HAB := Lib.hid (fun (k : Nat) (h1 : k < Ma.length) (h2 : k < Mb.length) => (by
    have h3 : (Ma.map Mt.q)[k]? = (Mb.map Mt.q)[k]? := by rw [hm]
    simp only [List.getElem?_map, List.getElem?_eq_getElem h1, List.getElem?_eq_getElem h2, Option.map_some, Option.some.injEq] at h3
    exact h3 : (Ma[k]).q = (Mb[k]).q))
  obtain ⟨n, hn⟩ : ∃ n, n = Ma.length := ⟨_, rfl⟩
  have HN := Lib.hid hn
  have HL := Lib.hid hl
  rw [← hl] at hcb ⊢
  rw [← hn] at hca hcb ⊢
  clear hga hgb hn ha hb hm hl
  go_enter Tryd.func82, Tryd.ntmps82
  go_wp2
  go_loopw [5] (fun i wr => ∃ k : Nat, k ≤ n ∧ i = .int .i64 (k : Int) ∧ Ext w wr) (fun i _ => n - (intOf i).toNat)
  case atStart => exact ⟨0, Nat.zero_le _, rfl, Ext.refl w⟩
  case round =>
    obtain ⟨k, hk, rfl, hE⟩ := hrel
    by_cases hlt : k < n
    · have hkF : k < Ma.length := by rw [← HN.out]; exact hlt
      have hkG : k < Mb.length := by rw [← HL.out]; exact hkF
      obtain ⟨b, o, rfl, ⟨x0, x1, x2, x3⟩⟩ := HA.out k hkF
      obtain ⟨b', o', rfl, ⟨y0, y1, y2, y3⟩⟩ := HB.out k hkG
      have hq := HAB.out k hkF hkG
      have hra := (HRA.out _ (List.getElem_mem hkF)).ext hE
      have hrb := (HRB.out _ (List.getElem_mem hkG)).ext hE
      replace x0 := hE.cell x0
      replace x1 := hE.cell x1
      replace x2 := hE.cell x2
      replace x3 := hE.cell x3
      replace y0 := hE.cell y0
      replace y1 := hE.cell y1
      replace y2 := hE.cell y2
      replace y3 := hE.cell y3
      obtain ⟨M, hM⟩ : ∃ M, M = Ma[k] := ⟨_, rfl⟩
      obtain ⟨M', hM'⟩ : ∃ M, M = Mb[k] := ⟨_, rfl⟩
      rw [← hM] at x0 x1 x2 x3 hq hra
      rw [← hM'] at y0 y1 y2 y3 hq hrb
      clear hM hM'
      obtain ⟨t, ⟨ky, gn, rv, ps⟩⟩ := M
      obtain ⟨t', ⟨ky', gn', rv', ps'⟩⟩ := M'
      unfold Mt.q at hq
      simp only [Mq.mk.injEq, Pt.mk.injEq] at hq x0 x1 x2 x3 y0 y1 y2 y3 hra hrb
      obtain ⟨rfl, rfl, rfl, hps⟩ := hq
      have HPS := Lib.hid hps
      clear hps
      have t1 : decide ((k : Int) < (n : Int)) = true := by simp; omega
      replace x0 := held x0
      replace x1 := held x1
      replace x2 := held x2
      replace x3 := held x3
      replace y0 := held y0
      replace y1 := held y1
      replace y2 := held y2
      replace y3 := held y3
      have t2 : (t.toList != t.toList) = false := by simp
      go_wp2_with fail
      refine wp_region_tab 25 [(22, fun v _ => v = .bool true)] (by kernel_rfl) (by kernel_rfl) (by kernel_rfl) ⟨stays_eq _, trivial⟩ ?_
      refine rg_quiet rfl rfl rfl rfl ?_; intro K hK; go_big_quiet_op; go_big_quiet_on
      refine rg_quiet rfl rfl rfl rfl ?_; intro K hK; go_big_quiet_op; go_big_quiet_on
      refine rg_quiet rfl rfl rfl rfl ?_; intro K hK; go_big_quiet_op; go_big_quiet_on
      refine rg_quiet rfl rfl rfl rfl ?_; intro K hK; go_big_quiet_op; go_big_quiet_on
      refine rg_quiet rfl rfl rfl rfl ?_; intro K hK; go_big_quiet_op; go_big_quiet_on
      refine rg_quiet rfl rfl rfl rfl ?_; intro K hK; go_big_quiet_op; go_big_quiet_on
      refine rg_quiet rfl rfl rfl rfl ?_; intro K hK; go_big_quiet_op; go_big_quiet_on
      refine rg_quiet rfl rfl rfl rfl ?_; intro K hK; go_big_quiet_op; go_big_quiet_on
      refine rg_quiet rfl rfl rfl rfl ?_; intro K hK; go_big_quiet_op; go_big_quiet_on
      refine rg_quiet rfl rfl rfl rfl ?_; intro K hK; go_big_quiet_op; go_big_quiet_on
      refine rg_quiet rfl rfl rfl rfl ?_; intro K hK; go_big_quiet_op; go_big_quiet_on
      refine rg_quiet rfl rfl rfl rfl ?_; intro K hK; go_big_quiet_op; go_big_quiet_on
      refine rg_quiet rfl rfl rfl rfl ?_; intro K hK; go_big_quiet_op; go_big_quiet_on
      refine rg_quiet rfl rfl rfl rfl ?_; intro K hK; go_big_quiet_op; go_big_quiet_on
      refine rg_quiet rfl rfl rfl rfl ?_; intro K hK; go_big_quiet_op; go_big_quiet_on
      refine rg_quiet rfl rfl rfl rfl ?_; intro K hK; go_big_quiet_op; go_big_quiet_on
      refine rg_quiet rfl rfl rfl rfl ?_; intro K hK; go_big_quiet_op; go_big_quiet_on
      refine rg_quiet rfl rfl rfl rfl ?_; intro K hK; go_big_quiet_op; go_big_quiet_on
      refine rg_quiet rfl rfl rfl rfl ?_; intro K hK; go_big_quiet_op; go_big_quiet_on
      refine rg_quiet rfl rfl rfl rfl ?_; intro K hK; go_big_quiet_op; go_big_quiet_on
      refine rg_quiet rfl rfl rfl rfl ?_; intro K hK; go_big_quiet_op; go_big_quiet_on
      refine rg_quiet rfl rfl rfl rfl ?_; intro K hK; go_big_quiet_op; go_big_quiet_on
      refine rg_val [] rfl rfl rfl (by kernel_rfl) (fun w1 hE hf => ?_) ?_
      · go_simp
        exact (same8_alike ky gn rv rv' ps ps' w1 (hra.ext hE) (hrb.ext hE) HPS.out).mono fun e w' ⟨he, hw⟩ => ⟨_, he, rg_done hE hw (rfl)⟩
      simp only [Act.put, List.setIfInBounds_toArray, List.set_cons_zero, List.set_cons_succ]
      refine rg_quiet rfl rfl rfl rfl ?_; intro K hK; go_big_quiet_op; go_big_quiet_on
      refine rg_quiet rfl rfl rfl rfl ?_; intro K hK; go_big_quiet_op; go_big_quiet_on
      refine rel_nil fun w5 hE5 _ => ?_
      clear x0 x1 x2 x3 y0 y1 y2 y3
      go_wp2_with fail
      go_roundw
      case rel => exact ⟨k + 1, by omega, by go_num, hE.trans hE5⟩
      case measure => simp [intOf]; omega
    · obtain rfl : k = n := by omega
      go_wp2_with fail
      go_ret
      exact ⟨rfl, hE⟩

set_option maxRecDepth 100000 in
set_option maxHeartbeats 4000000 in
theorem sameBt_any (am bm aa ba ad bd : Value) (Ma Mb : List Mt) (hm : Ma.map Mt.q = Mb.map Mt.q) (A : List Nt) (D : List Int) (w : World) (h1 : MtsIn w am Ma) (h2 : MtsIn w bm Mb) (h3 : NtsIn w aa A) (h4 : NtsIn w ba A) (h5 : IntsIn w ad .i64 D) (h6 : IntsIn w bd .i64 D) :
    Calls Tryd.prog 23 #[.agg #[am, aa, ad], .agg #[bm, ba, bd]] w fun e w' => e = .returned (.bool true) ∧ Ext w w' := by
  obtain ⟨b0, b1, hE⟩ := boxes2 w #[am, aa, ad] #[bm, ba, bd] 29 29
  replace h1 := h1.ext hE
  replace h2 := h2.ext hE
  replace h3 := h3.ext hE
  replace h4 := h4.ext hE
  replace h5 := SliceIn.ext hE h5
  replace h6 := SliceIn.ext hE h6
  go_enter Tryd.func23, Tryd.ntmps23
  go_wp2_with fail
  refine (sameMts_any am bm Ma Mb hm _ h1 h2).mono ?_
  rintro e w1 ⟨rfl, hE1⟩
  have c0 := b0.ext hE1
  have c1 := b1.ext hE1
  have x1 : w1.cell? ⟨w.heap.size, 1, none⟩ = some aa := c0.cell 1
  have y1 : w1.cell? ⟨w.heap.size + 1, 1, none⟩ = some ba := c1.cell 1
  go_wp2_with fail
  refine (sameNt_any aa ba A w1 (h3.ext hE1) (h4.ext hE1)).mono ?_
  rintro e w2 ⟨rfl, hE2⟩
  have d0 := c0.ext hE2
  have d1 := c1.ext hE2
  have x2 : w2.cell? ⟨w.heap.size, 2, none⟩ = some ad := d0.cell 2
  have y2 : w2.cell? ⟨w.heap.size + 1, 2, none⟩ = some bd := d1.cell 2
  go_wp2_with fail
  refine (sameInts_alike ad bd D w2 (SliceIn.ext (hE1.trans hE2) h5) (SliceIn.ext (hE1.trans hE2) h6)).mono ?_
  rintro e w3 ⟨rfl, hE3⟩
  go_wp2_with fail
  go_ret
  exact ⟨rfl, ((hE.trans hE1).trans hE2).trans hE3⟩
end Go.Proofs.YtcmgeccgahakbaaDoor

/- FewRow, FewPart: not too much. -/
namespace Go.Proofs.YtcmgeccgahakbaaDoor
open Go Go.RowKit
attribute [local go_sem] yields yUpon ro8 pa3

/-- A row that is not too much. -/
structure FewR (r : Ro) : Prop where
  key : r.key.size ≤ 1000
  cols : r.cols.length ≤ 20
  val : r.live.val.size ≤ 1000
  each : ∀ c ∈ r.cols, c.name.size ≤ 300 ∧ c.cell.val.size ≤ 300

set_option maxRecDepth 100000 in
set_option maxHeartbeats 4000000 in
theorem fewRow_any (r : Ro) (v : Value) (w : World) (hin : ColsIn w v r.cols) :
    Calls Tryd.prog 52 #[(.agg #[.string r.key, .string r.live.val, .bool r.live.dead, .int .i64 r.live.at_, .int .i64 r.live.fin, .int .i64 r.gone, .int .i64 r.shade, v])] w fun e w' => ∃ b, e = .returned (.bool b) ∧ (b = true → FewR r) ∧ Ext w w' := by
  obtain ⟨a, c, rfl, hc, hcm, hcell⟩ := hin.get
  have b0 := BoxAt.made w (ro8 r (.slice a r.cols.length c)) 91
  have hE0 := (Ext.refl w).alloc (.cells (ro8 r (.slice a r.cols.length c)) 91)
  obtain ⟨n, hn⟩ : ∃ n, n = r.cols.length := ⟨_, rfl⟩
  rw [← hn] at hc b0 hE0 ⊢
  have HN := Lib.hid hn
  have HC := Lib.hid hcell
  clear hcell hin hn
  cases q1 : decide ((1000 : Int) < (r.key.size : Int))
  · cases q2 : decide ((20 : Int) < (n : Int))
    · cases q3 : decide ((1000 : Int) < (r.live.val.size : Int))
      · have HQ : Hid (r.key.size ≤ 1000 ∧ n ≤ 20 ∧ r.live.val.size ≤ 1000) := by
          simp at q1 q2 q3
          exact ⟨by omega, by omega, by omega⟩
        go_enter Tryd.func52, Tryd.ntmps52
        go_wp2_with fail
        clear q1 q2 q3
        go_loopw [3] (fun i wr => ∃ k : Nat, k ≤ n ∧ i = .int .i64 k ∧ BoxAt wr w.heap.size (ro8 r (.slice a n c)) 91 ∧ Ext w wr ∧ ∀ j (h : j < r.cols.length), j < k → (r.cols[j]'h).name.size ≤ 300 ∧ (r.cols[j]'h).cell.val.size ≤ 300) (fun i _ => n - (intOf i).toNat)
        case atStart => exact ⟨0, Nat.zero_le _, rfl, b0, hE0, fun j h hj => absurd hj (Nat.not_lt_zero _)⟩
        case round =>
          obtain ⟨k, hk, rfl, hb, hE, hall⟩ := hrel
          have HALL := Lib.hid hall
          clear hall b0 hE0
          obtain ⟨x0, x1, x2, x3, x4, x5, x6, x7⟩ := hb.ro
          by_cases hlt : k < n
          · have hkn : k < r.cols.length := by rw [← HN.out]; exact hlt
            obtain ⟨b, o, rfl, hco⟩ := HC.out k hkn
            obtain ⟨M, hM⟩ : ∃ M, M = r.cols[k] := ⟨_, rfl⟩
            rw [← hM] at hco
            have HM := Lib.hid hM
            clear hM
            obtain ⟨g0, g1, g2, g3, g4⟩ := hco.ext hE
            have hki : decide ((k : Int) < (n : Int)) = true := by simpa using hlt
            cases p1 : decide ((300 : Int) < (M.name.size : Int))
            · cases p2 : decide ((300 : Int) < (M.cell.val.size : Int))
              · have HP : Hid (M.name.size ≤ 300 ∧ M.cell.val.size ≤ 300) := by
                  simp at p1 p2
                  exact ⟨by omega, by omega⟩
                go_wp2_with fail
                go_roundw
                case rel =>
                  refine ⟨k + 1, by omega, by go_num, hb, hE, fun j h hj => ?_⟩
                  by_cases hjk : j < k
                  · exact HALL.out j h hjk
                  · obtain rfl : j = k := by omega
                    rw [← HM.out]
                    exact HP.out
                case measure => simp [intOf] <;> omega
              · go_wp2_with fail
                go_ret
                exact ⟨false, rfl, nofun, hE⟩
            · go_wp2_with fail
              go_ret
              exact ⟨false, rfl, nofun, hE⟩
          · have hki : decide ((k : Int) < (n : Int)) = false := by simp; omega
            go_wp2_with fail
            go_ret
            refine ⟨true, rfl, fun _ => ⟨HQ.out.1, by rw [← HN.out]; exact HQ.out.2.1, HQ.out.2.2, fun c hc => ?_⟩, hE⟩
            obtain ⟨j, hj, rfl⟩ := List.getElem_of_mem hc
            exact HALL.out j hj (by have := HN.out; omega)
      · go_enter Tryd.func52, Tryd.ntmps52
        go_wp2_with fail
        go_ret
        exact ⟨false, rfl, nofun, hE0⟩
    · go_enter Tryd.func52, Tryd.ntmps52
      go_wp2_with fail
      go_ret
      exact ⟨false, rfl, nofun, hE0⟩
  · go_enter Tryd.func52, Tryd.ntmps52
    go_wp2_with fail
    go_ret
    exact ⟨false, rfl, nofun, hE0⟩

set_option maxRecDepth 100000 in
set_option maxHeartbeats 4000000 in
theorem fewPart_any (pk : ByteArray) (pg : Int) (pu : Value) (ps : List (Ro × Value)) (most : Int) (w : World) (hin : RowsIn w pu ps) :
    Calls Tryd.prog 9 #[.agg #[.string pk, .int .i64 pg, pu], .int .i64 most] w fun e w' => ∃ b, e = .returned (.bool b) ∧ (b = true → pk.size ≤ 300 ∧ (ps.length : Int) ≤ most ∧ ∀ p ∈ ps, FewR p.1) ∧ Ext w w' := by
  have b0 := BoxAt.made w (pa3 pk pg pu) 24
  have hE0 := (Ext.refl w).alloc (.cells (pa3 pk pg pu) 24)
  obtain ⟨aa, ca, rfl, hca, hcma, hget⟩ := hin.get
  obtain ⟨n, hn⟩ : ∃ n, n = ps.length := ⟨_, rfl⟩
  rw [← hn] at hca b0 hE0 ⊢
  have HN := Lib.hid hn
  have HGET := Lib.hid hget
  have HC := Lib.hid hin.cols
  clear hn hget hin
  cases q1 : decide ((300 : Int) < (pk.size : Int))
  · cases q2 : decide (most < (n : Int))
    · have HQ : Hid (pk.size ≤ 300 ∧ (n : Int) ≤ most) := by
        simp at q1 q2
        exact ⟨by omega, by omega⟩
      go_enter Tryd.func9, Tryd.ntmps9
      go_wp2_with fail
      clear q1 q2
      go_loopw [5] (fun i wr => ∃ k : Nat, k ≤ n ∧ i = .int .i64 k ∧ BoxAt wr w.heap.size (pa3 pk pg (.slice aa n ca)) 24 ∧ Ext w wr ∧ ∀ j (h : j < ps.length), j < k → FewR (ps[j]'h).1) (fun i _ => n - (intOf i).toNat)
      case atStart => exact ⟨0, Nat.zero_le _, rfl, b0, hE0, fun j h hj => absurd hj (Nat.not_lt_zero _)⟩
      case round =>
        obtain ⟨k, hk, rfl, hb, hE, hall⟩ := hrel
        have HALL := Lib.hid hall
        clear hall b0 hE0
        obtain ⟨x0, x1, x2⟩ := hb.pa
        by_cases hlt : k < n
        · have hkp : k < ps.length := by rw [← HN.out]; exact hlt
          obtain ⟨b, o, rfl, hat⟩ := HGET.out k hkp
          have hcu := HC.out _ (List.getElem_mem hkp)
          obtain ⟨M, hM⟩ : ∃ M, M = ps[k].1 := ⟨_, rfl⟩
          obtain ⟨au, cu, hu⟩ := hcu.shape
          have HM := Lib.hid hM
          rw [← hM] at hat hu hcu
          rw [hu] at hat hcu
          clear hM hu
          obtain ⟨m, hm⟩ : ∃ m, m = M.cols.length := ⟨_, rfl⟩
          rw [← hm] at hat hcu
          have HMM := Lib.hid hm
          clear hm
          have hki : decide ((k : Int) < (n : Int)) = true := by simpa using hlt
          obtain ⟨y0, y1, y2, y3, y4, y5, y6, y7⟩ := hat.ext hE
          have hcu1 := hcu.ext hE
          clear hat hcu
          go_wp2_with fail
          refine (fewRow_any M _ wr hcu1).mono ?_
          rintro e w1 ⟨B, rfl, hB, hE1⟩
          have HB := Lib.hid hB
          clear hB hcu1 y0 y1 y2 y3 y4 y5 y6 y7
          cases B
          · go_wp2_with fail
            go_ret
            exact ⟨false, rfl, nofun, hE.trans hE1⟩
          · go_wp2_with fail
            go_roundw
            case rel =>
              refine ⟨k + 1, by omega, by go_num, hb.ext hE1, hE.trans hE1, fun j h hj => ?_⟩
              by_cases hjk : j < k
              · exact HALL.out j h hjk
              · obtain rfl : j = k := by omega
                rw [← HM.out]
                exact HB.out (by trivial)
            case measure => simp [intOf] <;> omega
        · have hki : decide ((k : Int) < (n : Int)) = false := by simp; omega
          go_wp2_with fail
          go_ret
          refine ⟨true, rfl, fun _ => ⟨HQ.out.1, HQ.out.2, fun p hp => ?_⟩, hE⟩
          obtain ⟨j, hj, rfl⟩ := List.getElem_of_mem hp
          exact HALL.out j hj (by have := HN.out; omega)
    · go_enter Tryd.func9, Tryd.ntmps9
      go_wp2_with fail
      go_ret
      exact ⟨false, rfl, nofun, hE0⟩
  · go_enter Tryd.func9, Tryd.ntmps9
    go_wp2_with fail
    go_ret
    exact ⟨false, rfl, nofun, hE0⟩
end Go.Proofs.YtcmgeccgahakbaaDoor
