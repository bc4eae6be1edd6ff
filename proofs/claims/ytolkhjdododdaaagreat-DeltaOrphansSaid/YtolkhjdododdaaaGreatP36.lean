/- The reference's Same of any cells, columns, rows, lists of rows, partitions. (what a smaller cut has) -/
import Derived.Test.YtolkhjdododdaaaGreatP3
import Derived.Test.YtolkhjdododdaaaGreatP10
import Derived.Test.YtolkhjdododdaaaGreatP8
import Derived.Test.YtolkhjdododdaaaGreatP11
import Derived.Test.YtolkhjdododdaaaGreatP35
import Derived.Test.YtolkhjdododdaaaGreatP26
set_option linter.unusedSimpArgs false
set_option linter.unusedVariables false
namespace Go.Proofs.YtolkhjdododdaaaGreat
open Go Go.RowKit
attribute [local go_sem] yields yUpon ro8 pa3

theorem eqB_bool {α : Type} {a b : α} {c : Bool} (h : c = true ↔ a = b) : eqB a b = c := by
  cases c with
  | true => exact eqB_true (h.1 rfl)
  | false => exact eqB_false fun e => by have := h.2 e; cases this
theorem toList_eq {a b : ByteArray} : (a.toList == b.toList) = true ↔ a = b := by
  constructor
  · intro h; exact bytes_ext (by simpa using h)
  · rintro rfl; simp
theorem clB_eq (c d : Cl) : ((c.val.toList == d.val.toList) && (c.dead == d.dead) && (c.at_ == d.at_) && (c.fin == d.fin)) = true ↔ c = d := by
  rw [Bool.and_eq_true, Bool.and_eq_true, Bool.and_eq_true, toList_eq]
  obtain ⟨a1, a2, a3, a4⟩ := c
  obtain ⟨b1, b2, b3, b4⟩ := d
  simp [and_assoc]

set_option maxHeartbeats 1000000 in
theorem same6_any (c d : Cl) (w : World) : Calls Tryz.prog 81 #[(.agg #[.string c.val, .bool c.dead, .int .i64 c.at_, .int .i64 c.fin]), (.agg #[.string d.val, .bool d.dead, .int .i64 d.at_, .int .i64 d.fin])] w fun e w' => e = .returned (.bool (eqB c d)) ∧ Ext w w' := by
  rw [eqB_bool (clB_eq c d)]
  cases e1 : (c.val.toList == d.val.toList)
  · go_enter Tryz.func81, Tryz.ntmps81
    go_wp2
    go_ret
    exact ⟨rfl, ((Ext.refl w).alloc _).alloc _⟩
  · cases e2 : (c.dead == d.dead)
    · go_enter Tryz.func81, Tryz.ntmps81
      go_wp2
      go_ret
      exact ⟨rfl, ((Ext.refl w).alloc _).alloc _⟩
    · cases e3 : (c.at_ == d.at_)
      · go_enter Tryz.func81, Tryz.ntmps81
        go_wp2
        go_ret
        exact ⟨rfl, ((Ext.refl w).alloc _).alloc _⟩
      · go_enter Tryz.func81, Tryz.ntmps81
        go_wp2
        go_ret
        exact ⟨ret_bool (by simp), ((Ext.refl w).alloc _).alloc _⟩

theorem list_split {α : Type} {l l' : List α} {k : Nat} (h : l.take k = l'.take k) (hk : k < l.length) (hk' : k < l'.length) (he : l[k] = l'[k]) : l.take (k + 1) = l'.take (k + 1) := by
  rw [List.take_succ_eq_append_getElem hk, List.take_succ_eq_append_getElem hk', h, he]

set_option maxRecDepth 100000 in
set_option maxHeartbeats 2000000 in
theorem sameCols_any (v v' : Value) (l l' : List Co) (w : World) (hin : ColsIn w v l) (hin' : ColsIn w v' l') :
    Calls Tryz.prog 82 #[v, v'] w fun e w' => e = .returned (.bool (eqB l l')) ∧ Ext w w' := by
  obtain ⟨a, c, rfl, hc, hcm, hcell⟩ := hin.get
  obtain ⟨a', c', rfl, hc', hcm', hcell'⟩ := hin'.get
  have HC := Lib.hid hcell
  have HC' := Lib.hid hcell'
  clear hcell hin hcell' hin'
  obtain ⟨R, hR⟩ : ∃ R, R = eqB l l' := ⟨_, rfl⟩
  rw [← hR]
  have HR := Lib.hid hR
  obtain ⟨n, hn⟩ : ∃ n, n = l.length := ⟨_, rfl⟩
  obtain ⟨n', hn'⟩ : ∃ n, n = l'.length := ⟨_, rfl⟩
  rw [← hn] at hc ⊢
  rw [← hn'] at hc' ⊢
  have HN := Lib.hid hn
  have HN' := Lib.hid hn'
  clear hR hn hn'
  by_cases hnn : n = n'
  · subst hnn
    go_enter Tryz.func82, Tryz.ntmps82
    go_wp2
    go_loopw [5] (fun i wr => ∃ k : Nat, k ≤ n ∧ i = .int .i64 k ∧ Ext w wr ∧ Hid (l.take k = l'.take k)) (fun i _ => n - (intOf i).toNat)
    case atStart => exact ⟨0, Nat.zero_le _, rfl, Ext.refl w, by show _ = _; rw [List.take_zero, List.take_zero]⟩
    case round =>
      obtain ⟨k, hk, rfl, hE, HK⟩ := hrel
      by_cases hlt : k < n
      · have hkl : k < l.length := by rw [← HN.out]; exact hlt
        have hkl' : k < l'.length := by rw [← HN'.out]; exact hlt
        obtain ⟨b, o, rfl, hco⟩ := HC.out k hkl
        obtain ⟨b', o', rfl, hco'⟩ := HC'.out k hkl'
        obtain ⟨M, hM⟩ : ∃ M, M = l[k] := ⟨_, rfl⟩
        obtain ⟨N, hN⟩ : ∃ N, N = l'[k] := ⟨_, rfl⟩
        rw [← hM] at hco
        rw [← hN] at hco'
        have HM := Lib.hid hM
        have HMN := Lib.hid hN
        clear hM hN
        have hne : M ≠ N → Hid (R = false) := fun h => by
          show R = false
          rw [HR.out]
          exact eqB_false fun e => h (by rw [HM.out, HMN.out]; simp only [e])
        obtain ⟨g0, g1, g2, g3, g4⟩ := hco.ext hE
        obtain ⟨y0, y1, y2, y3, y4⟩ := hco'.ext hE
        clear hco hco'
        have hki : decide ((k : Int) < (n : Int)) = true := by simpa using hlt
        obtain ⟨B, hB⟩ : ∃ B, B = eqB M.cell N.cell := ⟨_, rfl⟩
        have HB := Lib.hid hB
        clear hB
        cases e1 : (M.name.toList == N.name.toList)
        · have HF := hne fun e => by rw [e] at e1; simp at e1
          clear hne
          go_wp2_with fail
          refine wp_region_tab 25 [] (by kernel_rfl) (by kernel_rfl) (by kernel_rfl) trivial ?_
          replace g0 := held g0
          replace y0 := held y0
          refine rg_quiet rfl rfl rfl rfl ?_; intro K hK; go_big_quiet_op; go_big_quiet_on
          refine rg_quiet rfl rfl rfl rfl ?_; intro K hK; go_big_quiet_op; go_big_quiet_on
          refine rg_quiet rfl rfl rfl rfl ?_; intro K hK; go_big_quiet_op; go_big_quiet_on
          refine rg_quiet rfl rfl rfl rfl ?_; intro K hK; go_big_quiet_op; go_big_quiet_on
          refine rg_quiet rfl rfl rfl rfl ?_; intro K hK; go_big_quiet_op; go_big_quiet_on
          refine rg_quiet rfl rfl rfl rfl ?_; intro K hK; go_big_quiet_op; go_big_quiet_on
          refine rg_quiet rfl rfl rfl rfl ?_; intro K hK; go_big_quiet_op; go_big_quiet_on
          refine rg_quiet rfl rfl rfl rfl ?_; intro K hK; go_big_quiet_op; go_big_quiet_on
          refine rg_quiet rfl rfl rfl rfl ?_; intro K hK; go_big_quiet_op; go_big_quiet_on
          refine rg_quiet rfl rfl rfl rfl ?_; intro K hK; go_big_quiet_op; go_big_quiet_on
          refine rg_quiet rfl rfl rfl rfl ?_; intro K hK; go_big_quiet_op; go_big_quiet_on
          refine rg_quiet rfl rfl rfl rfl ?_; intro K hK; go_big_quiet_op; go_big_quiet_on
          refine rel_skip rfl rfl ?_
          simp only [Act.put, List.setIfInBounds_toArray, List.set_cons_zero, List.set_cons_succ]
          refine rel_skip rfl rfl ?_
          simp only [Act.put, List.setIfInBounds_toArray, List.set_cons_zero, List.set_cons_succ]
          refine rel_skip rfl rfl ?_
          simp only [Act.put, List.setIfInBounds_toArray, List.set_cons_zero, List.set_cons_succ]
          refine rel_skip rfl rfl ?_
          simp only [Act.put, List.setIfInBounds_toArray, List.set_cons_zero, List.set_cons_succ]
          refine rel_skip rfl rfl ?_
          simp only [Act.put, List.setIfInBounds_toArray, List.set_cons_zero, List.set_cons_succ]
          refine rel_skip rfl rfl ?_
          simp only [Act.put, List.setIfInBounds_toArray, List.set_cons_zero, List.set_cons_succ]
          refine rel_skip rfl rfl ?_
          simp only [Act.put, List.setIfInBounds_toArray, List.set_cons_zero, List.set_cons_succ]
          refine rel_skip rfl rfl ?_
          simp only [Act.put, List.setIfInBounds_toArray, List.set_cons_zero, List.set_cons_succ]
          refine rel_skip rfl rfl ?_
          simp only [Act.put, List.setIfInBounds_toArray, List.set_cons_zero, List.set_cons_succ]
          refine rel_skip rfl rfl ?_
          simp only [Act.put, List.setIfInBounds_toArray, List.set_cons_zero, List.set_cons_succ]
          refine rel_skip rfl rfl ?_
          simp only [Act.put, List.setIfInBounds_toArray, List.set_cons_zero, List.set_cons_succ]
          refine rel_skip rfl rfl ?_
          simp only [Act.put, List.setIfInBounds_toArray, List.set_cons_zero, List.set_cons_succ]
          refine rg_quiet rfl rfl rfl rfl ?_; intro K hK; go_big_quiet_op; go_big_quiet_on
          refine rel_nil fun w5 hE5 _ => ?_
          clear g0 g1 g2 g3 g4 y0 y1 y2 y3 y4
          go_wp2_with fail
          go_ret
          exact ⟨ret_bool HF.out.symm, hE.trans hE5⟩
        · have en : M.name = N.name := toList_eq.1 e1
          have HEN := Lib.hid en
          clear en
          go_wp2_with fail
          refine wp_region_tab 25 [(22, fun v _ => v = .bool B)] (by kernel_rfl) (by kernel_rfl) (by kernel_rfl) ⟨stays_eq _, trivial⟩ ?_
          replace g0 := held g0
          replace g1 := held g1
          replace g2 := held g2
          replace g3 := held g3
          replace g4 := held g4
          replace y0 := held y0
          replace y1 := held y1
          replace y2 := held y2
          replace y3 := held y3
          replace y4 := held y4
          refine rg_quiet rfl rfl rfl rfl ?_; intro K hK; go_big_quiet_op; go_big_quiet_on
          refine rg_quiet rfl rfl rfl rfl ?_; intro K hK; go_big_quiet_op; go_big_quiet_on
          refine rg_quiet rfl rfl rfl rfl ?_; intro K hK; go_big_quiet_op; go_big_quiet_on
          refine rg_quiet rfl rfl rfl rfl ?_; intro K hK; go_big_quiet_op; go_big_quiet_on
          refine rg_quiet rfl rfl rfl rfl ?_; intro K hK; go_big_quiet_op; go_big_quiet_on
          refine rg_quiet rfl rfl rfl rfl ?_; intro K hK; go_big_quiet_op; go_big_quiet_on
          refine rg_quiet rfl rfl rfl rfl ?_; intro K hK; go_big_quiet_op; go_big_quiet_on
          refine rg_quiet rfl rfl rfl rfl ?_; intro K hK; go_big_quiet_op; go_big_quiet_on
          refine rg_quiet rfl rfl rfl rfl ?_; intro K hK; go_big_quiet_op; go_big_quiet_on
          refine rg_quiet rfl rfl rfl rfl ?_; intro K hK; go_big_quiet_op; go_big_quiet_on
          refine rg_quiet rfl rfl rfl rfl ?_; intro K hK; go_big_quiet_op; go_big_quiet_on
          refine rg_quiet rfl rfl rfl rfl ?_; intro K hK; go_big_quiet_op; go_big_quiet_on
          refine rg_quiet rfl rfl rfl rfl ?_; intro K hK; go_big_quiet_op; go_big_quiet_on
          refine rg_quiet rfl rfl rfl rfl ?_; intro K hK; go_big_quiet_op; go_big_quiet_on
          refine rg_quiet rfl rfl rfl rfl ?_; intro K hK; go_big_quiet_op; go_big_quiet_on
          refine rg_quiet rfl rfl rfl rfl ?_; intro K hK; go_big_quiet_op; go_big_quiet_on
          refine rg_quiet rfl rfl rfl rfl ?_; intro K hK; go_big_quiet_op; go_big_quiet_on
          refine rg_quiet rfl rfl rfl rfl ?_; intro K hK; go_big_quiet_op; go_big_quiet_on
          refine rg_quiet rfl rfl rfl rfl ?_; intro K hK; go_big_quiet_op; go_big_quiet_on
          refine rg_quiet rfl rfl rfl rfl ?_; intro K hK; go_big_quiet_op; go_big_quiet_on
          refine rg_quiet rfl rfl rfl rfl ?_; intro K hK; go_big_quiet_op; go_big_quiet_on
          refine rg_quiet rfl rfl rfl rfl ?_; intro K hK; go_big_quiet_op; go_big_quiet_on
          refine rg_val [] rfl rfl rfl (by kernel_rfl) (fun w1 hE hf => ?_) ?_
          · go_simp
            exact (same6_any M.cell N.cell w1).mono fun e w' ⟨he, hw⟩ => ⟨_, he, rg_done hE hw (by rw [HB.out])⟩
          simp only [Act.put, List.setIfInBounds_toArray, List.set_cons_zero, List.set_cons_succ]
          cases B
          · have HF := hne fun e => by
              have := HB.out
              rw [e, eqB_true rfl] at this
              cases this
            clear hne
            refine rg_quiet rfl rfl rfl rfl ?_; intro K hK; go_big_quiet_op; go_big_quiet_on
            refine rg_quiet rfl rfl rfl rfl ?_; intro K hK; go_big_quiet_op; go_big_quiet_on
            refine rel_nil fun w5 hE5 _ => ?_
            clear g0 g1 g2 g3 g4 y0 y1 y2 y3 y4
            go_wp2_with fail
            go_ret
            exact ⟨ret_bool HF.out.symm, hE.trans hE5⟩
          · clear hne
            refine rg_quiet rfl rfl rfl rfl ?_; intro K hK; go_big_quiet_op; go_big_quiet_on
            refine rg_quiet rfl rfl rfl rfl ?_; intro K hK; go_big_quiet_op; go_big_quiet_on
            refine rel_nil fun w5 hE5 _ => ?_
            clear g0 g1 g2 g3 g4 y0 y1 y2 y3 y4
            go_wp2_with fail
            go_roundw
            case rel =>
              refine ⟨k + 1, by omega, by go_num, hE.trans hE5, list_split HK.out hkl hkl' ?_⟩
              rw [← HM.out, ← HMN.out]
              have hc := eqB_iff.1 HB.out.symm
              have hn := HEN.out
              obtain ⟨m1, m2⟩ := M
              obtain ⟨n1, n2⟩ := N
              simp only at hc hn
              rw [hc, hn]
            case measure => simp [intOf] <;> omega
      · obtain rfl : k = n := by omega
        have HT : Hid (R = true) := by
          show R = true
          rw [HR.out]
          refine eqB_true ?_
          have := HK.out
          rwa [List.take_of_length_le (by rw [← HN.out]; exact Nat.le_refl _), List.take_of_length_le (by rw [← HN'.out]; exact Nat.le_refl _)] at this
        go_wp2_with fail
        go_ret
        exact ⟨ret_bool HT.out.symm, hE⟩
  · have HF : Hid (R = false) := by
      show R = false
      rw [HR.out]
      exact eqB_false fun e => hnn (by rw [HN.out, HN'.out, e])
    have t1 : ((n : Int) == (n' : Int)) = false := by simp; omega
    go_enter Tryz.func82, Tryz.ntmps82
    go_wp2
    go_ret
    exact ⟨ret_bool HF.out.symm, Ext.refl w⟩

theorem roB_eq (a b : Ro) : ((a.key.toList == b.key.toList) && eqB a.live b.live && (a.gone == b.gone) && (a.shade == b.shade) && eqB a.cols b.cols) = true ↔ a = b := by
  rw [Bool.and_eq_true, Bool.and_eq_true, Bool.and_eq_true, Bool.and_eq_true, toList_eq, eqB_iff, eqB_iff]
  obtain ⟨a1, a2, a3, a4, a5⟩ := a
  obtain ⟨b1, b2, b3, b4, b5⟩ := b
  simp [and_assoc]

set_option maxRecDepth 100000 in
set_option maxHeartbeats 2000000 in
theorem same7_any (r t : Ro) (v v' : Value) (w : World) (hin : ColsIn w v r.cols) (hin' : ColsIn w v' t.cols) :
    Calls Tryz.prog 64 #[(.agg #[.string r.key, .string r.live.val, .bool r.live.dead, .int .i64 r.live.at_, .int .i64 r.live.fin, .int .i64 r.gone, .int .i64 r.shade, v]), (.agg #[.string t.key, .string t.live.val, .bool t.live.dead, .int .i64 t.live.at_, .int .i64 t.live.fin, .int .i64 t.gone, .int .i64 t.shade, v'])] w fun e w' => e = .returned (.bool (eqB r t)) ∧ Ext w w' := by
  obtain ⟨a0, a1, hE⟩ := boxes2 w (ro8 r v) (ro8 t v') 54 54
  have hin1 := hin.ext hE
  have hin1' := hin'.ext hE
  obtain ⟨B1, hB1⟩ : ∃ B, B = eqB r.live t.live := ⟨_, rfl⟩
  obtain ⟨B2, hB2⟩ : ∃ B, B = eqB r.cols t.cols := ⟨_, rfl⟩
  have hR := eqB_bool (roB_eq r t)
  rw [← hB1, ← hB2] at hR
  rw [hR]
  have HB1 := Lib.hid hB1
  have HB2 := Lib.hid hB2
  clear hB1 hB2 hR
  cases e1 : (r.key.toList == t.key.toList)
  · go_enter Tryz.func64, Tryz.ntmps64
    go_wp2_with fail
    go_ret
    exact ⟨rfl, hE⟩
  · cases B1
    · go_enter Tryz.func64, Tryz.ntmps64
      go_wp2_with fail
      refine (same6_any r.live t.live _).mono ?_
      rw [← HB1.out]
      rintro e w1 ⟨rfl, hE1⟩
      go_wp2_with fail
      go_ret
      exact ⟨rfl, hE.trans hE1⟩
    · cases e2 : (r.gone == t.gone)
      · go_enter Tryz.func64, Tryz.ntmps64
        go_wp2_with fail
        refine (same6_any r.live t.live _).mono ?_
        rw [← HB1.out]
        rintro e w1 ⟨rfl, hE1⟩
        have y0 : ∀ i, w1.cell? ⟨w.heap.size, i, none⟩ = (ro8 r v)[i]? := fun i => (a0.ext hE1).cell i
        have y1 : ∀ i, w1.cell? ⟨w.heap.size + 1, i, none⟩ = (ro8 t v')[i]? := fun i => (a1.ext hE1).cell i
        go_wp2_with fail
        go_ret
        exact ⟨rfl, hE.trans hE1⟩
      · cases e3 : (r.shade == t.shade)
        · go_enter Tryz.func64, Tryz.ntmps64
          go_wp2_with fail
          refine (same6_any r.live t.live _).mono ?_
          rw [← HB1.out]
          rintro e w1 ⟨rfl, hE1⟩
          have y0 : ∀ i, w1.cell? ⟨w.heap.size, i, none⟩ = (ro8 r v)[i]? := fun i => (a0.ext hE1).cell i
          have y1 : ∀ i, w1.cell? ⟨w.heap.size + 1, i, none⟩ = (ro8 t v')[i]? := fun i => (a1.ext hE1).cell i
          go_wp2_with fail
          go_ret
          exact ⟨rfl, hE.trans hE1⟩
        · go_enter Tryz.func64, Tryz.ntmps64
          go_wp2_with fail
          refine (same6_any r.live t.live _).mono ?_
          rw [← HB1.out]
          rintro e w1 ⟨rfl, hE1⟩
          replace hE := hE.trans hE1
          replace hin1 := hin1.ext hE1
          replace hin1' := hin1'.ext hE1
          have y0 : ∀ i, w1.cell? ⟨w.heap.size, i, none⟩ = (ro8 r v)[i]? := fun i => (a0.ext hE1).cell i
          have y1 : ∀ i, w1.cell? ⟨w.heap.size + 1, i, none⟩ = (ro8 t v')[i]? := fun i => (a1.ext hE1).cell i
          clear hE1 hin hin' a0 a1
          go_wp2_with fail
          refine (sameCols_any v v' r.cols t.cols _ hin1 hin1').mono ?_
          rw [← HB2.out]
          rintro e w2 ⟨rfl, hE2⟩
          clear HB1 HB2 hin1 hin1' y0 y1
          go_wp2
          go_ret
          exact ⟨ret_bool (by simp), hE.trans hE2⟩

set_option maxRecDepth 100000 in
set_option maxHeartbeats 2000000 in
theorem sameRows_any (v v' : Value) (ps ps' : List (Ro × Value)) (w : World) (hin : RowsIn w v ps) (hin' : RowsIn w v' ps') :
    Calls Tryz.prog 36 #[v, v'] w fun e w' => e = .returned (.bool (eqB (ps.map (·.1)) (ps'.map (·.1)))) ∧ Ext w w' := by
  obtain ⟨a, c, rfl, hc, hcm, hcell⟩ := hin.get
  obtain ⟨a', c', rfl, hc', hcm', hcell'⟩ := hin'.get
  have HC := Lib.hid hcell
  have HC' := Lib.hid hcell'
  have HU := Lib.hid hin.cols
  have HU' := Lib.hid hin'.cols
  clear hcell hin hcell' hin'
  obtain ⟨R, hR⟩ : ∃ R, R = eqB (ps.map (·.1)) (ps'.map (·.1)) := ⟨_, rfl⟩
  rw [← hR]
  have HR := Lib.hid hR
  obtain ⟨n, hn⟩ : ∃ n, n = ps.length := ⟨_, rfl⟩
  obtain ⟨n', hn'⟩ : ∃ n, n = ps'.length := ⟨_, rfl⟩
  rw [← hn] at hc ⊢
  rw [← hn'] at hc' ⊢
  have HN := Lib.hid hn
  have HN' := Lib.hid hn'
  clear hR hn hn'
  by_cases hnn : n = n'
  · subst hnn
    go_enter Tryz.func36, Tryz.ntmps36
    go_wp2
    go_loopw [5] (fun i wr => ∃ k : Nat, k ≤ n ∧ i = .int .i64 k ∧ Ext w wr ∧ Hid ((ps.map (·.1)).take k = (ps'.map (·.1)).take k)) (fun i _ => n - (intOf i).toNat)
    case atStart => exact ⟨0, Nat.zero_le _, rfl, Ext.refl w, by show _ = _; rw [List.take_zero, List.take_zero]⟩
    case round =>
      obtain ⟨k, hk, rfl, hE, HK⟩ := hrel
      by_cases hlt : k < n
      · have hkl : k < ps.length := by rw [← HN.out]; exact hlt
        have hkl' : k < ps'.length := by rw [← HN'.out]; exact hlt
        obtain ⟨b, o, rfl, hco⟩ := HC.out k hkl
        obtain ⟨b', o', rfl, hco'⟩ := HC'.out k hkl'
        have hcu := (HU.out _ (List.getElem_mem hkl)).ext hE
        have hcu' := (HU'.out _ (List.getElem_mem hkl')).ext hE
        obtain ⟨M, hM⟩ : ∃ M, M = ps[k].1 := ⟨_, rfl⟩
        obtain ⟨N, hN⟩ : ∃ N, N = ps'[k].1 := ⟨_, rfl⟩
        rw [← hM] at hco hcu
        rw [← hN] at hco' hcu'
        obtain ⟨u, hu⟩ : ∃ u, u = ps[k].2 := ⟨_, rfl⟩
        obtain ⟨u', hu'⟩ : ∃ u, u = ps'[k].2 := ⟨_, rfl⟩
        rw [← hu] at hco hcu
        rw [← hu'] at hco' hcu'
        have HM := Lib.hid hM
        have HMN := Lib.hid hN
        clear hM hN hu hu'
        have hne : M ≠ N → Hid (R = false) := fun h => by
          show R = false
          rw [HR.out]
          refine eqB_false fun e => h ?_
          have h1 : (ps.map (·.1))[k]? = (ps'.map (·.1))[k]? := by rw [e]
          simp [hkl, hkl'] at h1
          rw [HM.out, HMN.out, h1]
        obtain ⟨g0, g1, g2, g3, g4, g5, g6, g7⟩ := hco.ext hE
        obtain ⟨y0, y1, y2, y3, y4, y5, y6, y7⟩ := hco'.ext hE
        clear hco hco'
        have hki : decide ((k : Int) < (n : Int)) = true := by simpa using hlt
        obtain ⟨B, hB⟩ : ∃ B, B = eqB M N := ⟨_, rfl⟩
        have HB := Lib.hid hB
        clear hB
        replace g0 := held g0
        replace g1 := held g1
        replace g2 := held g2
        replace g3 := held g3
        replace g4 := held g4
        replace g5 := held g5
        replace g6 := held g6
        replace g7 := held g7
        replace y0 := held y0
        replace y1 := held y1
        replace y2 := held y2
        replace y3 := held y3
        replace y4 := held y4
        replace y5 := held y5
        replace y6 := held y6
        replace y7 := held y7
        go_wp2_with fail
        refine wp_region_tab 10 [(8, fun v _ => v = .bool B)] (by kernel_rfl) (by kernel_rfl) (by kernel_rfl) ⟨stays_eq _, trivial⟩ ?_
        refine rg_quiet rfl rfl rfl rfl ?_; intro K hK; go_big_quiet_op; go_big_quiet_on
        refine rg_quiet rfl rfl rfl rfl ?_; intro K hK; go_big_quiet_op; go_big_quiet_on
        refine rg_quiet rfl rfl rfl rfl ?_; intro K hK; go_big_quiet_op; go_big_quiet_on
        refine rg_quiet rfl rfl rfl rfl ?_; intro K hK; go_big_quiet_op; go_big_quiet_on
        refine rg_quiet rfl rfl rfl rfl ?_; intro K hK; go_big_quiet_op; go_big_quiet_on
        refine rg_quiet rfl rfl rfl rfl ?_; intro K hK; go_big_quiet_op; go_big_quiet_on
        refine rg_quiet rfl rfl rfl rfl ?_; intro K hK; go_big_quiet_op; go_big_quiet_on
        refine rg_quiet rfl rfl rfl rfl ?_; intro K hK; go_big_quiet_op; go_big_quiet_on
        refine rg_val [] rfl rfl rfl (by kernel_rfl) (fun w1 hE hf => ?_) ?_
        · go_simp
          exact (same7_any M N u u' w1 (hcu.ext hE) (hcu'.ext hE)).mono fun e w' ⟨he, hw⟩ => ⟨_, he, rg_done hE hw (by rw [HB.out])⟩
        simp only [Act.put, List.setIfInBounds_toArray, List.set_cons_zero, List.set_cons_succ]
        cases B
        · have HF := hne fun e => by
            have := HB.out
            rw [e, eqB_true rfl] at this
            cases this
          clear hne
          refine rg_quiet rfl rfl rfl rfl ?_; intro K hK; go_big_quiet_op; go_big_quiet_on
          refine rel_nil fun w5 hE5 _ => ?_
          clear g0 g1 g2 g3 g4 g5 g6 g7 y0 y1 y2 y3 y4 y5 y6 y7
          go_wp2_with fail
          go_ret
          exact ⟨ret_bool HF.out.symm, hE.trans hE5⟩
        · clear hne
          refine rg_quiet rfl rfl rfl rfl ?_; intro K hK; go_big_quiet_op; go_big_quiet_on
          refine rel_nil fun w5 hE5 _ => ?_
          clear g0 g1 g2 g3 g4 g5 g6 g7 y0 y1 y2 y3 y4 y5 y6 y7
          go_wp2_with fail
          go_roundw
          case rel =>
            refine ⟨k + 1, by omega, by go_num, hE.trans hE5, list_split HK.out (by simpa using hkl) (by simpa using hkl') ?_⟩
            rw [List.getElem_map, List.getElem_map, ← HM.out, ← HMN.out]
            exact eqB_iff.1 HB.out.symm
          case measure => simp [intOf] <;> omega
      · obtain rfl : k = n := by omega
        have HT : Hid (R = true) := by
          show R = true
          rw [HR.out]
          refine eqB_true ?_
          have := HK.out
          rwa [List.take_of_length_le (by rw [List.length_map, ← HN.out]; exact Nat.le_refl _), List.take_of_length_le (by rw [List.length_map, ← HN'.out]; exact Nat.le_refl _)] at this
        go_wp2_with fail
        go_ret
        exact ⟨ret_bool HT.out.symm, hE⟩
  · have HF : Hid (R = false) := by
      show R = false
      rw [HR.out]
      exact eqB_false fun e => hnn (by rw [HN.out, HN'.out]; have := congrArg List.length e; simpa using this)
    have t1 : ((n : Int) == (n' : Int)) = false := by simp; omega
    go_enter Tryz.func36, Tryz.ntmps36
    go_wp2
    go_ret
    exact ⟨ret_bool HF.out.symm, Ext.refl w⟩
end Go.Proofs.YtolkhjdododdaaaGreat

/- The reference's Same of any cells, columns, rows, lists of rows, partitions. -/


/- law19.mirrors: what is seen of a view is what the base has there. -/
namespace Go.Proofs.YtolkhjdododdaaaGreat
open Go Go.RowKit
attribute [local go_sem] yields yUpon ro8 pa3 vw5

/-- One row of a list of rows. -/
theorem rows_sub1 {w : World} {b o n c : Nat} {ps : List (Ro × Value)} (h : RowsIn w (.slice (some ⟨b, o, none⟩) n c) ps) {k : Nat} (hk : k < ps.length) (hc : k < c) : RowsIn w (.slice (some ⟨b, o + k * 8, none⟩) 1 (c - k)) [ps[k]] := by
  obtain ⟨a', c', e, hc', hcm', ha', hcell⟩ := h.rows
  cases e
  refine ⟨⟨_, _, rfl, by simp; omega, by omega, nofun, fun j u hj => ?_⟩, fun p hp => by rw [List.mem_singleton.1 hp]; exact h.cols _ (List.getElem_mem hk)⟩
  have hj8 : j < 8 := by have := (List.getElem?_eq_some_iff.1 hj).1; rw [roCells_length] at this; simpa using this
  have e : (roCells ps)[k * 8 + j]? = (roCells [ps[k]])[j]? := by
    have hsp : ps = ps.take k ++ (ps[k] :: ps.drop (k + 1)) := by rw [← List.drop_eq_getElem_cons hk, List.take_append_drop]
    conv => lhs; rw [hsp, roCells_append]
    have hl : (roCells (ps.take k)).length = k * 8 := by rw [roCells_length, List.length_take]; rw [Nat.min_eq_left (by omega)]
    rw [List.getElem?_append_right (by omega), hl, Nat.add_sub_cancel_left, show ps[k] :: ps.drop (k + 1) = [ps[k]] ++ ps.drop (k + 1) from rfl, roCells_append, List.getElem?_append_left (by rw [roCells_length]; simpa using hj8)]
  obtain ⟨b', o', e', hx⟩ := hcell (k * 8 + j) u (e.trans hj)
  cases e'
  exact ⟨b, o + k * 8, rfl, by rw [Nat.add_assoc]; exact hx⟩
theorem seenV_take {x : Vw} {t : Int} (V : Vi) (k : Nat) (hk : k < V.length) : seenV x (V.take (k + 1)) t = seenV x (V.take k) t ++ (seenRs V[k].2 0 t true).map fun r => (V[k].1, offR x r) := by
  unfold seenV
  rw [List.take_succ_eq_append_getElem hk, List.flatMap_append]
  simp
theorem seenV_le {x : Vw} {t : Int} (V : Vi) (k : Nat) : (seenV x (V.take k) t).length ≤ (seenV x V t).length := by
  conv => rhs; rw [← List.take_append_drop k V]
  unfold seenV
  rw [List.flatMap_append, List.length_append]
  omega

theorem viL_get (L : List Pa) (k : Nat) (h : k < (viL L).length) (h' : k < L.length) : (viL L)[k]'h = (L[k].key, L[k].ps.map (·.1)) := by simp [viL]
set_option maxRecDepth 100000 in
set_option maxHeartbeats 16000000 in
theorem mirrors19_any (v : Value) (L : List Pa) (x : Vw) (u : Value) (ns : List ByteArray) (pk : ByteArray) (pg : Int) (pu : Value) (ps : List (Ro × Value)) (now : Int) (w : World)
    (hL : PartsT w v L) (hLl : L.length ≤ 1000) (hLg : ∀ q ∈ L, q.gone = 0) (hLr : ∀ q ∈ L, q.ps.length ≤ 1000 ∧ ∀ p ∈ q.ps, p.1.cols.length ≤ 1000 ∧ DistN p.1.cols)
    (hrows : RowsIn w pu ps) (hlen : ps.length ≤ 1000) (hlc : ∀ p ∈ ps, p.1.cols.length ≤ 1000) (hdc : ∀ p ∈ ps, DistN p.1.cols) (hns : StrsIn w u ns) (hk : pk.size ≤ 10000000) (hkeys : ∀ p ∈ ps, p.1.key.size ≤ 10000000)
    (hmem : ∀ e, e ∈ seenV x (viL L) now → e ∈ viewF x ns pk pg now (ps.map (·.1))) (hall : (seenV x (viL L) now).length = (viewF x ns pk pg now (ps.map (·.1))).length) :
    Calls Tryz.prog 13 #[v, .agg #[.string x.name, .int .i64 x.id, .string x.table, .string x.on, u], .agg #[.string pk, .int .i64 pg, pu], .int .i64 now] w fun e w' => e = .returned (.bool true) ∧ Ext w w' := by
  obtain ⟨a0, a1, hE⟩ := boxes2 w (vw5 x u) (pa3 pk pg pu) 31 39
  obtain ⟨aa, ca, rfl, _⟩ := hrows.get
  obtain ⟨np, hnp⟩ : ∃ np, np = ps.length := ⟨_, rfl⟩
  rw [← hnp] at a0 a1 hE hrows hlen ⊢
  obtain ⟨av, cv, rfl, hcv, hcvm, hget⟩ := hL.get
  obtain ⟨nL, hnL⟩ : ∃ nL, nL = L.length := ⟨_, rfl⟩
  rw [← hnL] at hcv hLl ⊢
  obtain ⟨F, hF⟩ : ∃ F, F = viewF x ns pk pg now (ps.map (·.1)) := ⟨_, rfl⟩
  rw [← hF] at hmem hall
  have hFl : F.length ≤ 1000 := by rw [hF]; exact Nat.le_trans (List.length_filterMap_le _ _) (by rw [List.length_map]; omega)
  have HF := Lib.hid hF
  have HNP := Lib.hid hnp
  have HNL := Lib.hid hnL
  have HGET := Lib.hid hget
  have HLG := Lib.hid hLg
  have HLR := Lib.hid hLr
  have HLC := Lib.hid hlc
  have HDC := Lib.hid hdc
  have HKEYS := Lib.hid hkeys
  have HMEM := Lib.hid hmem
  have HALL := Lib.hid hall
  have HRT := Lib.hid hL.rows
  have hr0 := hrows.ext hE
  have hn0 := hns.ext hE
  clear hF hnp hnL hget hLg hLr hlc hdc hkeys hmem hall hL hrows hns
  go_enter Tryz.func13, Tryz.ntmps13
  go_wp2_with fail
  refine (seen18_any x u ns pk pg _ ps now _ hr0 (by have := HNP.out; omega) (fun p hp => by have := HLC.out p hp; omega) HDC.out hn0 hk HKEYS.out).mono ?_
  rw [← HF.out]
  rintro e w1 ⟨v1, rfl, L1, hown1, hrt1, hdat1, hE1⟩
  have hp1 : PartsT w1 v1 L1 := ⟨TIn.own hown1, hrt1⟩
  obtain ⟨a1', c1', rfl, hc1, hc1m, hget1⟩ := hp1.get
  have hl1 : L1.length = F.length := by have := congrArg List.length hdat1; simpa [outQ] using this
  obtain ⟨n1, hn1⟩ : ∃ n1, n1 = L1.length := ⟨_, rfl⟩
  rw [← hn1] at hc1 ⊢
  have hn1F : n1 = F.length := hn1.trans hl1
  have HN1 := Lib.hid hn1
  have HN1F := Lib.hid hn1F
  have HG1 := Lib.hid hget1
  have HR1 := Lib.hid hrt1
  have HD1 := Lib.hid hdat1
  have b0 := a0.ext hE1
  have b1 := a1.ext hE1
  have hX1 := hE.trans hE1
  have hn1l : n1 ≤ 1000 := by omega
  clear hn1 hl1 hn1F hget1 hrt1 hdat1 hp1 hown1 a0 a1 hE hE1 hr0 hn0
  go_wp2_with fail
  go_loopw [10, 11] (fun s i wr => ∃ (k nn : Nat), k ≤ nL ∧ i = .int .i64 k ∧ s = .int .i64 nn ∧ Ext w1 wr ∧ Hid (nn = (seenV x ((viL L).take k) now).length)) (fun _ i _ => nL - (intOf i).toNat)
  case atStart => exact ⟨0, 0, Nat.zero_le _, rfl, rfl, Ext.refl w1, rfl⟩
  case round =>
    obtain ⟨k, nn, hkn, rfl, rfl, hE, HNN⟩ := hrel
    have hnnl : nn ≤ 1000 := by
      have h1 := HNN.out
      have h2 := seenV_le (x := x) (t := now) (viL L) k
      have h3 := HALL.out
      omega
    by_cases hlt : k < nL
    · have hki : decide ((k : Int) < (nL : Int)) = true := by simpa using hlt
      have hkL : k < L.length := by rw [← HNL.out]; exact hlt
      have hkV : k < (viL L).length := by unfold viL; rw [List.length_map]; exact hkL
      obtain ⟨g, rfl, hat⟩ := HGET.out k hkL
      obtain ⟨P, hP⟩ : ∃ P, P = L[k] := ⟨_, rfl⟩
      rw [← hP] at hat
      have hPm : P ∈ L := by rw [hP]; exact List.getElem_mem hkL
      have hPr := HRT.out P hPm
      have hPg := HLG.out P hPm
      have hPb := HLR.out P hPm
      have hVk : (viL L)[k] = (P.key, P.ps.map (·.1)) := by rw [viL_get L k hkV hkL, hP]
      have hsn := seenV_take (x := x) (t := now) (viL L) k hkV
      rw [hVk] at hsn
      obtain ⟨Pk, Pgn, Prv, Pps⟩ := P
      simp only at hat hPr hPg hPb hsn
      subst hPg
      obtain ⟨ar, cr, rfl⟩ := hPr.shape
      have hEw := hX1.trans hE
      have hat1 := hat.ext hEw
      have hPr1 := hPr.ext hEw
      have c0 := b0.ext hE
      obtain ⟨g0, g1, g2⟩ := hat1
      obtain ⟨z0, z1, z2, z3, z4⟩ := c0.vw
      simp only at g0 g1 g2
      obtain ⟨A, hA⟩ : ∃ A, A = seenRs (Pps.map (·.1)) 0 now true := ⟨_, rfl⟩
      rw [← hA] at hsn
      have HA := Lib.hid hA
      have HSN := Lib.hid hsn
      have HAT := Lib.hid hat
      have hAl : A.length ≤ 1000 := by rw [hA]; unfold seenRs; rw [List.length_map]; exact Nat.le_trans (List.length_filter_le _ _) (by rw [List.length_map]; omega)
      have hPl := hPb.1
      have HPB := Lib.hid hPb.2
      clear hP hPm hVk hsn hA hat hPr hPb
      go_wp2_with fail
      refine wp_region_tab 9 [(6, fun v y => ∃ qs, RowsIn y v qs ∧ Hid (qs.map (·.1) = A)), (7, fun v y => ∃ qs, RowsIn y v qs ∧ Hid (qs.map (·.1) = A.map (offR x)))] (by kernel_rfl) (by kernel_rfl) (by kernel_rfl) ⟨fun _ _ _ hE ⟨qs, h, h'⟩ => ⟨qs, h.ext hE, h'⟩, fun _ _ _ hE ⟨qs, h, h'⟩ => ⟨qs, h.ext hE, h'⟩, trivial⟩ ?_
      replace g0 := held g0
      replace g1 := held g1
      replace g2 := held g2
      replace z0 := held z0
      replace z1 := held z1
      replace z2 := held z2
      replace z3 := held z3
      replace z4 := held z4
      refine rg_quiet rfl rfl rfl rfl ?_; intro K hK; go_big_quiet_op; go_big_quiet_on
      refine rg_quiet rfl rfl rfl rfl ?_; intro K hK; go_big_quiet_op; go_big_quiet_on
      refine rg_quiet rfl rfl rfl rfl ?_; intro K hK; go_big_quiet_op; go_big_quiet_on
      refine rg_quiet rfl rfl rfl rfl ?_; intro K hK; go_big_quiet_op; go_big_quiet_on
      refine rg_quiet rfl rfl rfl rfl ?_; intro K hK; go_big_quiet_op; go_big_quiet_on
      refine rg_quiet rfl rfl rfl rfl ?_; intro K hK; go_big_quiet_op; go_big_quiet_on
      refine rg_fact [] rfl rfl rfl (by kernel_rfl) (fun y hY hf => ?_) (fun v6 y6 hE6 hG6 h6 => ?_)
      · go_simp
        refine (seen8_any Pk 0 (.slice ar Pps.length cr) Pps now true y (hPr1.ext hY).rows (by omega) (fun p hp => by have := (HPB.out p hp).1; omega) (fun p hp => (HPB.out p hp).2)).mono ?_
        rw [← HA.out]
        rintro e y' ⟨v', he, qs, hown', hsafe, hm, hy⟩
        exact ⟨_, he, rg_doneR hY hy ⟨qs, rows_own hown' hy hsafe, hm⟩⟩
      obtain ⟨qs6, h6, _⟩ := h6
      obtain ⟨a6, c6, rfl, _⟩ := h6.get
      clear hE6 hG6 h6
      simp only [Act.put, List.setIfInBounds_toArray, List.set_cons_zero, List.set_cons_succ]
      refine rg_fact [6] rfl rfl rfl (by kernel_rfl) (fun y hY hf => ?_) (fun v7 y7 hE7 hG7 h7 => ?_)
      · obtain ⟨qs, hq, hqm⟩ := (hf 6 (by simp)).2 rfl
        have hql : qs.length = A.length := by rw [← hqm.out, List.length_map]
        go_simp
        refine (only19_any x u _ qs y hq (by omega) (fun p hp => ?_)).mono ?_
        · have h1 : p.1 ∈ A := by rw [← hqm.out]; exact List.mem_map_of_mem hp
          rw [HA.out] at h1
          unfold seenRs at h1
          obtain ⟨r, hr, he⟩ := List.mem_map.1 h1
          obtain ⟨p', hp', rfl⟩ := List.mem_map.1 (List.mem_filter.1 hr).1
          rw [← he]
          show (seenCos _ _ _).length ≤ _
          exact Nat.le_trans (List.length_filter_le _ _) (by have := (HPB.out p' hp').1; omega)
        · rintro e y' ⟨v', he, L', hown', hcs, hm, hy⟩
          rw [hqm.out] at hm
          exact ⟨_, he, rg_doneR hY hy ⟨L', (RowsT.mk (TIn.own hown') hcs).rows, hm⟩⟩
      obtain ⟨qs7, h7, _⟩ := h7
      obtain ⟨a7, c7, rfl, _⟩ := h7.get
      clear hE7 hG7 h7
      simp only [Act.put, List.setIfInBounds_toArray, List.set_cons_zero, List.set_cons_succ]
      refine rg_quiet rfl rfl rfl rfl ?_; intro K hK; go_big_quiet_op; go_big_quiet_on
      refine rel_nil fun w5 hE5 hG => ?_
      obtain ⟨S, hS, hSm⟩ := (hG 7).2 rfl
      clear hG
      obtain ⟨a7', c7', e7, hc7, hc7m, hget7⟩ := hS.get
      injection e7 with e7a e7b e7c
      subst e7a e7c
      obtain ⟨m, hm⟩ : ∃ m, m = qs7.length := ⟨_, rfl⟩
      rw [← hm] at e7b hS ⊢
      rw [← e7b] at hc7
      have hmA : m = A.length := by rw [e7b, ← List.length_map (f := (·.1)), hSm.out, List.length_map]
      have hnn2 : nn + m = (seenV x ((viL L).take (k + 1)) now).length := by rw [HSN.out, List.length_append, List.length_map, ← HNN.out, hmA]
      have hnn3 : nn + m ≤ 1000 := by rw [hnn2]; have h2 := seenV_le (x := x) (t := now) (viL L) (k + 1); have h3 := HALL.out; omega
      have HNN2 := Lib.hid hnn2
      have hE15 := hE.trans hE5
      have HS7 := Lib.hid hget7
      have HEB := Lib.hid e7b
      have hin7 : ∀ j (h : j < S.length), (Pk, S[j].1) ∈ F := fun j h => by
        refine HMEM.out _ ?_
        have h1 : (Pk, S[j].1) ∈ (seenV x ((viL L).take (k + 1)) now) := by
          rw [HSN.out]
          refine List.mem_append_right _ ?_
          have h2 : S[j].1 ∈ A.map (offR x) := by rw [← hSm.out]; exact List.mem_map_of_mem (List.getElem_mem h)
          obtain ⟨r, hr, e⟩ := List.mem_map.1 h2
          exact List.mem_map.2 ⟨r, hr, by rw [e]⟩
        unfold seenV at h1 ⊢
        obtain ⟨q, hq, h⟩ := List.mem_flatMap.1 h1
        exact List.mem_flatMap.2 ⟨q, List.mem_of_mem_take hq, h⟩
      have HIN7 := Lib.hid hin7
      clear hm hmA hnn2 hget7 e7b hin7 g0 g1 g2 z0 z1 z2 z3 z4 hPr1 c0 HA HNN hE5 hE
      go_wp2_with fail
      obtain ⟨wo, rfl⟩ : ∃ w', w' = w5 := ⟨_, rfl⟩
      go_loopw [13] (fun jv wq => ∃ (j : Nat), j ≤ m ∧ jv = .int .i64 j ∧ Ext wo wq) (fun jv _ => m - (intOf jv).toNat)
      case atStart => exact ⟨0, Nat.zero_le _, rfl, Ext.refl wo⟩
      case round =>
        obtain ⟨j, hjm, rfl, hEq⟩ := hrel
        by_cases hjl : j < m
        · have hjS : j < S.length := by rw [← HEB.out]; exact hjl
          have hji : decide ((j : Int) < (m : Int)) = true := by simpa using hjl
          have hin := HIN7.out j hjS
          obtain ⟨b7, o7, rfl, hro⟩ := HS7.out j hjS
          obtain ⟨T, hT⟩ : ∃ T, T = S[j].1 := ⟨_, rfl⟩
          rw [← hT] at hin
          obtain ⟨f0, hf0, hfe⟩ := List.getElem_of_mem hin
          have HFE : Hid (F[f0] = (Pk, T)) := hfe
          have hsub := rows_sub1 hS hjS (by omega)
          have hTm : [S[j]].map (·.1) = [T] := by rw [hT]; rfl
          have HTM := Lib.hid hTm
          clear hro hin hfe hT hTm
          go_wp2_with fail
          obtain ⟨wp, hwp⟩ : ∃ w', w' = wr := ⟨_, rfl⟩
          rw [← hwp] at hEq ⊢
          clear hwp
          go_loopw [14, 15] (fun okv tv wq => ∃ (t : Nat) (B : Bool), t ≤ n1 ∧ tv = .int .i64 t ∧ okv = .bool B ∧ Ext wo wq ∧ Hid (∀ t' (h : t' < F.length), t' < t → F[t'] = (Pk, T) → B = true)) (fun _ tv _ => n1 - (intOf tv).toNat)
          case atStart => exact ⟨0, false, Nat.zero_le _, rfl, rfl, hEq, fun t' h h0 => absurd h0 (Nat.not_lt_zero _)⟩
          case round =>
            obtain ⟨t, B, htn, rfl, rfl, hEt, HB⟩ := hrel
            by_cases htl : t < n1
            · have hti : decide ((t : Int) < (n1 : Int)) = true := by simpa using htl
              have htF : t < F.length := by rw [← HN1F.out]; exact htl
              have htL : t < L1.length := by rw [← HN1.out]; exact htl
              obtain ⟨g1', rfl, hq⟩ := HG1.out t htL
              have hqr := HR1.out _ (List.getElem_mem htL)
              have hqd : (L1[t].key, L1[t].gone, L1[t].ps.map (·.1)) = (F[t].1, 0, [F[t].2]) := by
                have h1 : (L1.map Pa.data)[t]? = (outQ F)[t]? := by rw [HD1.out]
                unfold outQ at h1
                rw [List.getElem?_map, List.getElem?_map, List.getElem?_eq_getElem htL, List.getElem?_eq_getElem htF] at h1
                exact Option.some.inj h1
              obtain ⟨Q, hQ⟩ : ∃ Q, Q = L1[t] := ⟨_, rfl⟩
              obtain ⟨E, hEe⟩ : ∃ E, E = F[t] := ⟨_, rfl⟩
              rw [← hQ] at hq hqr hqd
              rw [← hEe] at hqd
              have HEE := Lib.hid hEe
              clear hQ hEe
              obtain ⟨Qk, Qg, Qrv, Qps⟩ := Q
              simp only [Prod.mk.injEq] at hq hqr hqd
              obtain ⟨d1, d2, d3⟩ := hqd
              obtain ⟨aq, cq, rfl⟩ := hqr.shape
              have hEw2 := hE15.trans hEt
              obtain ⟨r0, r1, r2⟩ := hq.ext hEw2
              obtain ⟨p0, p1, p2⟩ := HAT.out.ext ((hX1.trans hE15).trans hEt)
              simp only at r0 r1 r2 p0 p1 p2
              have hqr2 := (hqr.ext hEw2).rows
              have hsub2 := hsub.ext hEt
              have HD1' := Lib.hid d1
              have HD3 := Lib.hid d3
              have hw : IntKind.i64.wrap ((j : Int) + 1) = (j : Int) + 1 := by rw [IntKind.wrap_i64]; omega
              obtain ⟨ql, hql⟩ : ∃ ql, ql = Qps.length := ⟨_, rfl⟩
              rw [← hql] at r2 hqr2
              clear d1 d2 d3 hq hqr hql hsub
              have NEXT : ∀ B', (E = (Pk, T) → B' = true) → (B = true → B' = true) → Hid (∀ t' (h : t' < F.length), t' < t + 1 → F[t'] = (Pk, T) → B' = true) := fun B' h1 h2 => fun t' h h0 he => by
                by_cases htt : t' < t
                · exact h2 (HB.out t' h htt he)
                · obtain rfl : t' = t := by omega
                  exact h1 (HEE.out.trans he)
              cases B
              · cases e1 : (Qk.toList == Pk.toList)
                · have HNX := NEXT false (fun e => by
                    have : Qk = Pk := by rw [HD1'.out, e]
                    rw [this] at e1
                    simp at e1) (fun h => h)
                  clear NEXT
                  go_wp2_with fail
                  refine wp_region_tab 28 [] (by kernel_rfl) (by kernel_rfl) (by kernel_rfl) trivial ?_
                  replace r0 := held r0
                  replace p0 := held p0
                  refine rg_quiet rfl rfl rfl rfl ?_; intro K hK; go_big_quiet_op; go_big_quiet_on
                  refine rg_quiet rfl rfl rfl rfl ?_; intro K hK; go_big_quiet_op; go_big_quiet_on
                  refine rg_quiet rfl rfl rfl rfl ?_; intro K hK; go_big_quiet_op; go_big_quiet_on
                  refine rg_quiet rfl rfl rfl rfl ?_; intro K hK; go_big_quiet_op; go_big_quiet_on
                  refine rg_quiet rfl rfl rfl rfl ?_; intro K hK; go_big_quiet_op; go_big_quiet_on
                  refine rg_quiet rfl rfl rfl rfl ?_; intro K hK; go_big_quiet_op; go_big_quiet_on
                  refine rg_quiet rfl rfl rfl rfl ?_; intro K hK; go_big_quiet_op; go_big_quiet_on
                  refine rg_quiet rfl rfl rfl rfl ?_; intro K hK; go_big_quiet_op; go_big_quiet_on
                  refine rg_quiet rfl rfl rfl rfl ?_; intro K hK; go_big_quiet_op; go_big_quiet_on
                  refine rg_quiet rfl rfl rfl rfl ?_; intro K hK; go_big_quiet_op; go_big_quiet_on
                  refine rg_quiet rfl rfl rfl rfl ?_; intro K hK; go_big_quiet_op; go_big_quiet_on
                  refine rg_quiet rfl rfl rfl rfl ?_; intro K hK; go_big_quiet_op; go_big_quiet_on
                  refine rg_quiet rfl rfl rfl rfl ?_; intro K hK; go_big_quiet_op; go_big_quiet_on
                  refine rg_quiet rfl rfl rfl rfl ?_; intro K hK; go_big_quiet_op; go_big_quiet_on
                  refine rel_skip rfl rfl ?_
                  simp only [Act.put, List.setIfInBounds_toArray, List.set_cons_zero, List.set_cons_succ]
                  refine rel_skip rfl rfl ?_
                  simp only [Act.put, List.setIfInBounds_toArray, List.set_cons_zero, List.set_cons_succ]
                  refine rel_skip rfl rfl ?_
                  simp only [Act.put, List.setIfInBounds_toArray, List.set_cons_zero, List.set_cons_succ]
                  refine rel_skip rfl rfl ?_
                  simp only [Act.put, List.setIfInBounds_toArray, List.set_cons_zero, List.set_cons_succ]
                  refine rel_skip rfl rfl ?_
                  simp only [Act.put, List.setIfInBounds_toArray, List.set_cons_zero, List.set_cons_succ]
                  refine rel_skip rfl rfl ?_
                  simp only [Act.put, List.setIfInBounds_toArray, List.set_cons_zero, List.set_cons_succ]
                  refine rel_skip rfl rfl ?_
                  simp only [Act.put, List.setIfInBounds_toArray, List.set_cons_zero, List.set_cons_succ]
                  refine rel_skip rfl rfl ?_
                  simp only [Act.put, List.setIfInBounds_toArray, List.set_cons_zero, List.set_cons_succ]
                  refine rel_skip rfl rfl ?_
                  simp only [Act.put, List.setIfInBounds_toArray, List.set_cons_zero, List.set_cons_succ]
                  refine rel_skip rfl rfl ?_
                  simp only [Act.put, List.setIfInBounds_toArray, List.set_cons_zero, List.set_cons_succ]
                  refine rel_skip rfl rfl ?_
                  simp only [Act.put, List.setIfInBounds_toArray, List.set_cons_zero, List.set_cons_succ]
                  refine rg_quiet rfl rfl rfl rfl ?_; intro K hK; go_big_quiet_op; go_big_quiet_on
                  refine rg_quiet rfl rfl rfl rfl ?_; intro K hK; go_big_quiet_op; go_big_quiet_on
                  refine rg_quiet rfl rfl rfl rfl ?_; intro K hK; go_big_quiet_op; go_big_quiet_on
                  refine rel_nil fun w6 hE6 _ => ?_
                  clear r0 r1 r2 p0 p1 p2
                  go_wp2_with fail
                  go_roundw
                  case rel => exact ⟨t + 1, false, by omega, by go_num, rfl, hEt.trans hE6, HNX⟩
                  case measure => simp [intOf]; omega
                · obtain ⟨B2, hB2⟩ : ∃ B2, B2 = eqB (Qps.map (·.1)) ([S[j]].map (·.1)) := ⟨_, rfl⟩
                  have HNX := NEXT B2 (fun e => by
                    rw [hB2, HTM.out, HD3.out, e]
                    exact eqB_true rfl) (fun h => by cases h)
                  have HB2 := Lib.hid hB2
                  clear NEXT hB2
                  go_wp2_with fail
                  refine wp_region_tab 28 [(24, fun v _ => v = .bool B2)] (by kernel_rfl) (by kernel_rfl) (by kernel_rfl) ⟨stays_eq _, trivial⟩ ?_
                  replace r0 := held r0
                  replace r2 := held r2
                  replace p0 := held p0
                  refine rg_quiet rfl rfl rfl rfl ?_; intro K hK; go_big_quiet_op; go_big_quiet_on
                  refine rg_quiet rfl rfl rfl rfl ?_; intro K hK; go_big_quiet_op; go_big_quiet_on
                  refine rg_quiet rfl rfl rfl rfl ?_; intro K hK; go_big_quiet_op; go_big_quiet_on
                  refine rg_quiet rfl rfl rfl rfl ?_; intro K hK; go_big_quiet_op; go_big_quiet_on
                  refine rg_quiet rfl rfl rfl rfl ?_; intro K hK; go_big_quiet_op; go_big_quiet_on
                  refine rg_quiet rfl rfl rfl rfl ?_; intro K hK; go_big_quiet_op; go_big_quiet_on
                  refine rg_quiet rfl rfl rfl rfl ?_; intro K hK; go_big_quiet_op; go_big_quiet_on
                  refine rg_quiet rfl rfl rfl rfl ?_; intro K hK; go_big_quiet_op; go_big_quiet_on
                  refine rg_quiet rfl rfl rfl rfl ?_; intro K hK; go_big_quiet_op; go_big_quiet_on
                  refine rg_quiet rfl rfl rfl rfl ?_; intro K hK; go_big_quiet_op; go_big_quiet_on
                  refine rg_quiet rfl rfl rfl rfl ?_; intro K hK; go_big_quiet_op; go_big_quiet_on
                  refine rg_quiet rfl rfl rfl rfl ?_; intro K hK; go_big_quiet_op; go_big_quiet_on
                  refine rg_quiet rfl rfl rfl rfl ?_; intro K hK; go_big_quiet_op; go_big_quiet_on
                  refine rg_quiet rfl rfl rfl rfl ?_; intro K hK; go_big_quiet_op; go_big_quiet_on
                  refine rg_quiet rfl rfl rfl rfl ?_; intro K hK; go_big_quiet_op; go_big_quiet_on
                  refine rg_quiet rfl rfl rfl rfl ?_; intro K hK; go_big_quiet_op; go_big_quiet_on
                  refine rg_quiet rfl rfl rfl rfl ?_; intro K hK; go_big_quiet_op; go_big_quiet_on
                  refine rg_quiet rfl rfl rfl rfl ?_; intro K hK; go_big_quiet_op; go_big_quiet_on
                  refine rg_quiet rfl rfl rfl rfl ?_; intro K hK; go_big_quiet_op; go_big_quiet_on
                  refine rg_quiet rfl rfl rfl rfl ?_; intro K hK; go_big_quiet_op; go_big_quiet_on
                  refine rg_quiet rfl rfl rfl rfl ?_; intro K hK; go_big_quiet_op; go_big_quiet_on
                  refine rg_quiet rfl rfl rfl rfl ?_; intro K hK; go_big_quiet_op; go_big_quiet_on
                  refine rg_quiet rfl rfl rfl rfl ?_; intro K hK; go_big_quiet_op; go_big_quiet_on
                  refine rg_quiet rfl rfl rfl rfl ?_; intro K hK; go_big_quiet_op; go_big_quiet_on
                  refine rg_val [] rfl rfl rfl (by kernel_rfl) (fun w1 hE hf => ?_) ?_
                  · go_simp
                    exact (sameRows_any _ _ Qps [S[j]] w1 (hqr2.ext hE) (hsub2.ext hE)).mono fun e w' ⟨he, hw⟩ => ⟨_, he, rg_done hE hw (by rw [HB2.out])⟩
                  simp only [Act.put, List.setIfInBounds_toArray, List.set_cons_zero, List.set_cons_succ]
                  refine rg_quiet rfl rfl rfl rfl ?_; intro K hK; go_big_quiet_op; go_big_quiet_on
                  refine rg_quiet rfl rfl rfl rfl ?_; intro K hK; go_big_quiet_op; go_big_quiet_on
                  refine rg_quiet rfl rfl rfl rfl ?_; intro K hK; go_big_quiet_op; go_big_quiet_on
                  refine rel_nil fun w6 hE6 _ => ?_
                  clear r0 r1 r2 p0 p1 p2
                  go_wp2_with fail
                  go_roundw
                  case rel => exact ⟨t + 1, B2, by omega, by go_num, rfl, hEt.trans hE6, HNX⟩
                  case measure => simp [intOf]; omega
              · clear NEXT
                go_wp2_with fail
                refine wp_region_tab 28 [] (by kernel_rfl) (by kernel_rfl) (by kernel_rfl) trivial ?_
                refine rg_quiet rfl rfl rfl rfl ?_; intro K hK; go_big_quiet_op; go_big_quiet_on
                refine rg_quiet rfl rfl rfl rfl ?_; intro K hK; go_big_quiet_op; go_big_quiet_on
                refine rel_skip rfl rfl ?_
                simp only [Act.put, List.setIfInBounds_toArray, List.set_cons_zero, List.set_cons_succ]
                refine rel_skip rfl rfl ?_
                simp only [Act.put, List.setIfInBounds_toArray, List.set_cons_zero, List.set_cons_succ]
                refine rel_skip rfl rfl ?_
                simp only [Act.put, List.setIfInBounds_toArray, List.set_cons_zero, List.set_cons_succ]
                refine rel_skip rfl rfl ?_
                simp only [Act.put, List.setIfInBounds_toArray, List.set_cons_zero, List.set_cons_succ]
                refine rel_skip rfl rfl ?_
                simp only [Act.put, List.setIfInBounds_toArray, List.set_cons_zero, List.set_cons_succ]
                refine rel_skip rfl rfl ?_
                simp only [Act.put, List.setIfInBounds_toArray, List.set_cons_zero, List.set_cons_succ]
                refine rel_skip rfl rfl ?_
                simp only [Act.put, List.setIfInBounds_toArray, List.set_cons_zero, List.set_cons_succ]
                refine rel_skip rfl rfl ?_
                simp only [Act.put, List.setIfInBounds_toArray, List.set_cons_zero, List.set_cons_succ]
                refine rel_skip rfl rfl ?_
                simp only [Act.put, List.setIfInBounds_toArray, List.set_cons_zero, List.set_cons_succ]
                refine rel_skip rfl rfl ?_
                simp only [Act.put, List.setIfInBounds_toArray, List.set_cons_zero, List.set_cons_succ]
                refine rel_skip rfl rfl ?_
                simp only [Act.put, List.setIfInBounds_toArray, List.set_cons_zero, List.set_cons_succ]
                refine rel_skip rfl rfl ?_
                simp only [Act.put, List.setIfInBounds_toArray, List.set_cons_zero, List.set_cons_succ]
                refine rel_skip rfl rfl ?_
                simp only [Act.put, List.setIfInBounds_toArray, List.set_cons_zero, List.set_cons_succ]
                refine rel_skip rfl rfl ?_
                simp only [Act.put, List.setIfInBounds_toArray, List.set_cons_zero, List.set_cons_succ]
                refine rel_skip rfl rfl ?_
                simp only [Act.put, List.setIfInBounds_toArray, List.set_cons_zero, List.set_cons_succ]
                refine rel_skip rfl rfl ?_
                simp only [Act.put, List.setIfInBounds_toArray, List.set_cons_zero, List.set_cons_succ]
                refine rel_skip rfl rfl ?_
                simp only [Act.put, List.setIfInBounds_toArray, List.set_cons_zero, List.set_cons_succ]
                refine rel_skip rfl rfl ?_
                simp only [Act.put, List.setIfInBounds_toArray, List.set_cons_zero, List.set_cons_succ]
                refine rel_skip rfl rfl ?_
                simp only [Act.put, List.setIfInBounds_toArray, List.set_cons_zero, List.set_cons_succ]
                refine rel_skip rfl rfl ?_
                simp only [Act.put, List.setIfInBounds_toArray, List.set_cons_zero, List.set_cons_succ]
                refine rel_skip rfl rfl ?_
                simp only [Act.put, List.setIfInBounds_toArray, List.set_cons_zero, List.set_cons_succ]
                refine rel_skip rfl rfl ?_
                simp only [Act.put, List.setIfInBounds_toArray, List.set_cons_zero, List.set_cons_succ]
                refine rel_skip rfl rfl ?_
                simp only [Act.put, List.setIfInBounds_toArray, List.set_cons_zero, List.set_cons_succ]
                refine rel_skip rfl rfl ?_
                simp only [Act.put, List.setIfInBounds_toArray, List.set_cons_zero, List.set_cons_succ]
                refine rg_quiet rfl rfl rfl rfl ?_; intro K hK; go_big_quiet_op; go_big_quiet_on
                refine rg_quiet rfl rfl rfl rfl ?_; intro K hK; go_big_quiet_op; go_big_quiet_on
                refine rel_nil fun w6 hE6 _ => ?_
                clear r0 r1 r2 p0 p1 p2
                go_wp2_with fail
                go_roundw
                case rel => exact ⟨t + 1, true, by omega, by go_num, rfl, hEt.trans hE6, fun _ _ _ _ => rfl⟩
                case measure => simp [intOf]; omega
            · obtain rfl : t = n1 := by omega
              have hB : B = true := HB.out f0 hf0 (by rw [HN1F.out]; exact hf0) HFE.out
              subst hB
              have hti : decide ((t : Int) < (t : Int)) = false := by simp
              go_wp2_with fail
              go_roundw
              case rel => exact ⟨j + 1, by omega, by go_num, hEt⟩
              case measure => simp [intOf]; omega
        · obtain rfl : j = m := by omega
          have hji : decide ((j : Int) < (j : Int)) = false := by simp
          go_wp2_with fail
          go_roundw
          case rel => exact ⟨k + 1, nn + j, by omega, by go_num, by go_num, hE15.trans hEq, HNN2.out⟩
          case measure => simp [intOf]; omega
    · obtain rfl : k = nL := by omega
      have hki : decide ((k : Int) < (k : Int)) = false := by simp
      have hT : nn = n1 := by
        rw [HNN.out, HN1F.out, ← HALL.out, List.take_of_length_le (by unfold viL; rw [List.length_map, ← HNL.out]; exact Nat.le_refl _)]
      subst hT
      go_wp2_with fail
      go_ret
      exact ⟨ret_bool (by simp), hX1.trans hE⟩
end Go.Proofs.YtolkhjdododdaaaGreat

/- Chapter 19's partitions of one row (the closures of DeltaMoves and of the example). -/
namespace Go.Proofs.YtolkhjdododdaaaGreat
open Go Go.RowKit
attribute [local go_sem] yields yUpon ro8 pa3 co5

/-- The row k with one cell in the column a. -/
def kRow (c : Cl) : Ro := ⟨⟨#[107]⟩, zeroCl, 0, 0, [⟨⟨#[97]⟩, c⟩]⟩
def oneC (val : ByteArray) (at_ : Int) (dead : Bool) : Cl := if dead then ⟨⟨#[]⟩, true, at_, 0⟩ else ⟨val, false, at_, 0⟩

theorem one_rows {w : World} {b c : Nat} {d : Cl} (hb : BoxAt w b (co5 ⟨⟨#[97]⟩, d⟩) 57) (hc : BoxAt w c (ro8 (kRow d) (.slice (some ⟨b, 0, none⟩) 1 1)) 54) : RowsT w (.slice (some ⟨c, 0, none⟩) 1 1) [(kRow d, .slice (some ⟨b, 0, none⟩) 1 1)] :=
  RowsT.one hc (TIn.box (xs := coCells [⟨⟨#[97]⟩, d⟩]) hb (by unfold maxLen; decide))

set_option maxRecDepth 100000 in
set_option maxHeartbeats 4000000 in
theorem one19_any (val : ByteArray) (at_ : Int) (w : World) : Calls Tryz.prog 15 #[.string val, .int .i64 at_] w fun e w' => ∃ b v', e = .returned (.agg #[.string ⟨#[109]⟩, .int .i64 0, .slice (some ⟨b, 0, none⟩) 1 1]) ∧ RowsT w' (.slice (some ⟨b, 0, none⟩) 1 1) [(kRow ⟨val, false, at_, 0⟩, v')] ∧ Ext w w' := by
  go_enter Tryz.func15, Tryz.ntmps15
  go_wp2_with (((guard_target =~ wpList _ _ _ (Oper.mk none (Op.store _ (Operand.tmp 4) (Operand.tmp 12)) _ _ _ _ :: _) _ _); go_must (refine storeBox rfl 39 (.tmp 4) (.tmp 12) rfl (w.heap.size) _ _ _ (by rfl) (by rfl) ((((BoxAt.made w (pa3 ⟨#[]⟩ 0 (.slice none 0 0)) 39).ext ((Ext.refl _).alloc _)).ext ((Ext.refl _).alloc _))) (by kernel_rfl) (by rfl) (by simp [Value.oneCell']) ?_); intro w1 c1 g1))
  have hX : Ext w w1 := ((((Ext.refl w).alloc _).alloc _).alloc _).grown g1 (fun q hq => by cases hq; omega)
  have hb : BoxAt w1 (w.heap.size + 1) (co5 ⟨⟨#[97]⟩, ⟨val, false, at_, 0⟩⟩) 57 := ((BoxAt.madeN (co5 ⟨⟨#[97]⟩, ⟨val, false, at_, 0⟩⟩) 57 (by simp)).ext ((Ext.refl _).alloc _)).grown g1 (fun e => by have := Option.some.inj e; omega)
  have hc : BoxAt w1 (w.heap.size + 1 + 1) (ro8 (kRow ⟨val, false, at_, 0⟩) (.slice (some ⟨w.heap.size + 1, 0, none⟩) 1 1)) 54 := (BoxAt.madeN (ro8 (kRow ⟨val, false, at_, 0⟩) (.slice (some ⟨w.heap.size + 1, 0, none⟩) 1 1)) 54 (by simp)).grown g1 (fun e => by have := Option.some.inj e; omega)
  obtain ⟨z0, z1, z2⟩ := c1.pa (k := ⟨#[109]⟩) (g := 0) (u := .slice (some ⟨w.heap.size + 1 + 1, 0, none⟩) 1 1)
  refine bodyPost_ret (v := .agg #[.string ⟨#[109]⟩, .int .i64 0, .slice (some ⟨w.heap.size + 1 + 1, 0, none⟩) 1 1]) ?_ rfl ⟨_, _, rfl, one_rows hb hc, hX⟩
  simp [results, Tryz.results15, go_sem, z0, z1, z2]
end Go.Proofs.YtolkhjdododdaaaGreat
