/- delta.left. -/
import Derived.Test.YtolkhjdododdaaaGreatDoorP18
import Derived.Test.YtolkhjdododdaaaGreatDoorP3
import Derived.Test.YtolkhjdododdaaaGreatDoorP8
import Derived.Test.YtolkhjdododdaaaGreatDoorP10
set_option linter.unusedSimpArgs false
set_option linter.unusedVariables false
namespace Go.Proofs.YtolkhjdododdaaaGreatDoor
open Go Go.RowKit
attribute [local go_sem] yields yUpon ro8 pa3 vw5

/-- What a view's row is that a base's row left. -/
def leftRo (x : Vw) (m r : Ro) (g : Int) : Ro := ⟨m.key, zeroCl, max r.gone g, m.live.at_, cellL x r⟩

set_option maxRecDepth 100000 in
set_option maxHeartbeats 4000000 in
theorem left_any (x : Vw) (u : Value) (m r : Ro) (vm v : Value) (g : Int) (w : World) (hin : ColsIn w v r.cols) :
  Calls Tryz.prog 40 #[.agg #[.string x.name, .int .i64 x.id, .string x.table, .string x.on, u], (.agg #[.string m.key, .string m.live.val, .bool m.live.dead, .int .i64 m.live.at_, .int .i64 m.live.fin, .int .i64 m.gone, .int .i64 m.shade, vm]), (.agg #[.string r.key, .string r.live.val, .bool r.live.dead, .int .i64 r.live.at_, .int .i64 r.live.fin, .int .i64 r.gone, .int .i64 r.shade, v]), .int .i64 g] w fun e w' => ∃ v', e = .returned (.agg #[.string (leftRo x m r g).key, .string (leftRo x m r g).live.val, .bool (leftRo x m r g).live.dead, .int .i64 (leftRo x m r g).live.at_, .int .i64 (leftRo x m r g).live.fin, .int .i64 (leftRo x m r g).gone, .int .i64 (leftRo x m r g).shade, v']) ∧ ColsT w' v' (leftRo x m r g).cols ∧ Ext w w' := by
 obtain ⟨a0, a1, a2, a3, hE⟩ := boxes4 w (vw5 x u) (ro8 m vm) (ro8 r v) (ro8 ⟨⟨#[]⟩, zeroCl, 0, 0, []⟩ (.slice none 0 0)) 31 47 47 47
 have hin' := hin.ext hE
 obtain ⟨G, hG⟩ : ∃ G, G = max r.gone g := ⟨_, rfl⟩
 obtain ⟨L, hL⟩ : ∃ L, L = cellL x r := ⟨_, rfl⟩
 unfold leftRo
 rw [← hG, ← hL]
 have HG := Lib.hid hG
 have HL := Lib.hid hL
 clear hG hL hin
 go_enter Tryz.func40, Tryz.ntmps40
 go_wp2_with fail
 refine wp_region_in 12 [(7, fun v _ => v = .int .i64 G), (10, fun v y => ∃ a c, v = .slice a L.length c ∧ ColsT y (.slice a L.length c) L)] (fun w0 => BoxAt w0 w.heap.size (vw5 x u) 31 ∧ BoxAt w0 (w.heap.size + 1) (ro8 m vm) 47 ∧ BoxAt w0 (w.heap.size + 1 + 1) (ro8 r v) 47 ∧ BoxAt w0 (w.heap.size + 1 + 1 + 1) (ro8 ⟨⟨#[]⟩, zeroCl, 0, 0, []⟩ (.slice none 0 0)) 47 ∧ ColsIn w0 v r.cols ∧ Ext w w0) (by kernel_rfl) (by kernel_rfl) (by kernel_rfl) ⟨stays_eq _, fun _ _ _ hE ⟨a, c, e, h⟩ => ⟨a, c, e, h.ext hE⟩, trivial⟩ ⟨a0, a1, a2, a3, hin', hE⟩ ?_
 clear a0 a1 a2 a3 hE hin'
 rintro w2 ⟨c0, c1, c2, c3, hin, hE⟩
 have FIN : Hid (∀ wx, Ext w2 wx → BoxAt wx (w.heap.size + 1 + 1 + 1) (ro8 ⟨⟨#[]⟩, zeroCl, 0, 0, []⟩ (.slice none 0 0)) 47 ∧ Ext w wx) := fun wx h => ⟨c3.ext h, hE.trans h⟩
 obtain ⟨x0, x1, x2, x3, x4⟩ := c0.vw
 obtain ⟨y0, y1, y2, y3, y4, y5, y6, y7⟩ := c1.ro
 obtain ⟨t0, t1, t2, t3, t4, t5, t6, t7⟩ := c2.ro
 clear c0 c1 c2 c3 hE y1 y2 y4 y5 y6 y7
 replace x0 := held x0
 replace x1 := held x1
 replace x2 := held x2
 replace x3 := held x3
 replace x4 := held x4
 replace y0 := held y0
 replace y3 := held y3
 replace t0 := held t0
 replace t1 := held t1
 replace t2 := held t2
 replace t3 := held t3
 replace t4 := held t4
 replace t5 := held t5
 replace t6 := held t6
 replace t7 := held t7
 refine rg_quiet rfl rfl rfl rfl ?_; intro K hK; go_big_quiet_op; go_big_quiet_on
 refine rg_quiet rfl rfl rfl rfl ?_; intro K hK; go_big_quiet_op; go_big_quiet_on
 refine rg_quiet rfl rfl rfl rfl ?_; intro K hK; go_big_quiet_op; go_big_quiet_on
 refine rg_quiet rfl rfl rfl rfl ?_; intro K hK; go_big_quiet_op; go_big_quiet_on
 refine rg_quiet rfl rfl rfl rfl ?_; intro K hK; go_big_quiet_op; go_big_quiet_on
 refine rg_quiet rfl rfl rfl rfl ?_; intro K hK; go_big_quiet_op; go_big_quiet_on
 refine rg_quiet rfl rfl rfl rfl ?_; intro K hK; go_big_quiet_op; go_big_quiet_on
 refine rg_val [] rfl rfl rfl (by kernel_rfl) (fun w1 hE hf => ?_) ?_
 ·go_simp
  exact (rgone_any r v g w1).mono fun e w' ⟨he, hw⟩ => ⟨_, he, rg_done hE hw (by rw [HG.out])⟩
 simp only [Act.put, List.setIfInBounds_toArray, List.set_cons_zero, List.set_cons_succ]
 refine rg_quiet rfl rfl rfl rfl ?_; intro K hK; go_big_quiet_op; go_big_quiet_on
 refine rg_quiet rfl rfl rfl rfl ?_; intro K hK; go_big_quiet_op; go_big_quiet_on
 refine rg_fact [] rfl rfl rfl (by kernel_rfl) (fun w1 hE hf => ?_) (fun v10 w1 hE hG h10 => ?_)
 ·go_simp
  refine (cellOf_any x u r v w1 (hin.ext hE)).mono ?_
  rw [← HL.out]
  rintro e w3 ⟨a, c, he, hc, hE3⟩
  exact ⟨_, he, rg_doneR hE hE3 ⟨a, c, rfl, hc⟩⟩
 obtain ⟨a10, c10, rfl, h10⟩ := h10
 simp only [Act.put, List.setIfInBounds_toArray, List.set_cons_zero, List.set_cons_succ]
 clear hE hG h10 w1
 refine rg_quiet rfl rfl rfl rfl ?_; intro K hK; go_big_quiet_op; go_big_quiet_on
 refine rel_tail rfl rfl fun w5 hE5 hG => ?_
 obtain ⟨aa, cc, e10, hcols⟩ := (hG 10).2 rfl
 cases e10
 obtain ⟨c3, hE⟩ := FIN.out w5 hE5
 clear x0 x1 x2 x3 x4 y0 y3 t0 t1 t2 t3 t4 t5 t6 t7 hE5 hG FIN
 go_wp2_with ((guard_target =~ wpList _ _ _ (Oper.mk none (Op.store _ (Operand.tmp 8) (Operand.tmp 20)) _ _ _ _ :: _) _ _); go_must (refine storeBox rfl 47 (.tmp 8) (.tmp 20) rfl (w.heap.size + 1 + 1 + 1) _ _ _ (by rfl) (by rfl) (c3) (by kernel_rfl) (by rfl) (by simp [Value.oneCell']) ?_); intro w6 c6 g6)
 have hX6 := hE.grown g6 (fun q hq => by cases hq; omega)
 have hC6 := hcols.keep g6 c3 (by decide)
 clear hE g6 c3
 obtain ⟨z0, z1, z2, z3, z4, z5, z6, z7⟩ := c6.ro (r := ⟨m.key, zeroCl, G, m.live.at_, L⟩) (v := .slice a10 L.length c10)
 refine bodyPost_ret (v := .agg #[.string m.key, .string ⟨#[]⟩, .bool false, .int .i64 0, .int .i64 0, .int .i64 G, .int .i64 m.live.at_, .slice a10 L.length c10]) ?_ rfl ⟨_, rfl, hC6, hX6⟩
 simp [results, Tryz.results40, go_sem, Act.put, z0, z1, z2, z3, z4, z5, z6, z7, zeroCl]
end Go.Proofs.YtolkhjdododdaaaGreatDoor

/- Alike: cells, columns (plain laws). -/
namespace Go.Proofs.YtolkhjdododdaaaGreatDoor
open Go Go.RowKit

/-- Alike. -/
noncomputable def eqB {α : Type} (a b : α) : Bool := @decide (a = b) (Classical.propDecidable _)
theorem eqB_iff {α : Type} {a b : α} : eqB a b = true ↔ a = b := by unfold eqB; exact @decide_eq_true_iff _ (Classical.propDecidable _)
theorem eqB_true {α : Type} {a b : α} (h : a = b) : eqB a b = true := eqB_iff.2 h
theorem eqB_false {α : Type} {a b : α} (h : a ≠ b) : eqB a b = false := by
 cases e : eqB a b with
 | false => rfl
 | true => exact absurd (eqB_iff.1 e) h

theorem bytes_ext {a b : ByteArray} (h : a.toList = b.toList) : a = b := by
 rw [ByteArray.toList_eq, ByteArray.toList_eq] at h
 cases a; cases b
 simp at h
 rw [h]
theorem cl_ext {c d : Cl} (h2 : c.val.toList = d.val.toList) (h3 : c.dead = d.dead) (h4 : c.at_ = d.at_) (h5 : c.fin = d.fin) : c = d := by
 cases c; cases d
 simp only at *
 rw [bytes_ext h2, h3, h4, h5]
theorem co_ext {c d : Co} (h1 : c.name.toList = d.name.toList) (h2 : c.cell.val.toList = d.cell.val.toList) (h3 : c.cell.dead = d.cell.dead) (h4 : c.cell.at_ = d.cell.at_) (h5 : c.cell.fin = d.cell.fin) : c = d := by
 have := cl_ext h2 h3 h4 h5
 cases c; cases d
 simp only at *
 rw [bytes_ext h1, this]
end Go.Proofs.YtolkhjdododdaaaGreatDoor

/- slices.Equal over columns, row.Same, slices.EqualFunc over rows, part.Same. -/
namespace Go.Proofs.YtolkhjdododdaaaGreatDoor
open Go Go.RowKit
attribute [local go_sem] yields yUpon ro8 pa3

set_option maxRecDepth 100000 in
set_option maxHeartbeats 2000000 in
theorem eqCols_any (v v' : Value) (l l' : List Co) (w : World) (hin : ColsIn w v l) (hin' : ColsIn w v' l') :
  Calls Tryz.prog 62 #[v, v'] w fun e w' => e = .returned (.bool (eqB l l')) ∧ Ext w w' := by
 obtain ⟨a, c, rfl, hc, hcm, hcell⟩ := hin.get
 obtain ⟨a', c', rfl, hc', hcm', hcell'⟩ := hin'.get
 have HC := Lib.hid hcell
 have HC' := Lib.hid hcell'
 clear hcell hin hcell' hin'
 by_cases hlen : l.length = l'.length
 ·obtain ⟨n, hn⟩ : ∃ n, n = l.length := ⟨_, rfl⟩
  rw [← hn] at hlen hc ⊢
  rw [← hlen] at hc' ⊢
  have HN := Lib.hid hn
  have HN' := Lib.hid hlen
  clear hn hlen
  go_enter Tryz.func62, Tryz.ntmps62
  go_wp2
  go_loopw [13] (fun i wr => ∃ k : Nat, k ≤ n ∧ i = .int .i64 k ∧ Ext w wr ∧ Hid (l.take k = l'.take k)) (fun i _ => n - (intOf i).toNat)
  case atStart => exact ⟨0, Nat.zero_le _, rfl, Ext.refl w, rfl⟩
  case round =>
   obtain ⟨k, hk, rfl, hE, HT⟩ := hrel
   by_cases hlt : k < n
   ·have hl1 : k < l.length := by rw [← HN.out]; exact hlt
    have hl2 : k < l'.length := by rw [← HN'.out]; exact hlt
    obtain ⟨b, o, rfl, hco⟩ := HC.out k hl1
    obtain ⟨b', o', rfl, hco'⟩ := HC'.out k hl2
    obtain ⟨M, hM⟩ : ∃ M, M = l[k] := ⟨_, rfl⟩
    obtain ⟨M', hM'⟩ : ∃ M', M' = l'[k] := ⟨_, rfl⟩
    rw [← hM] at hco
    rw [← hM'] at hco'
    have HM := Lib.hid hM
    have HM' := Lib.hid hM'
    clear hM hM'
    obtain ⟨g0, g1, g2, g3, g4⟩ := hco.ext hE
    obtain ⟨y0, y1, y2, y3, y4⟩ := hco'.ext hE
    clear hco hco'
    have hki : decide ((k : Int) < (n : Int)) = true := by simpa using hlt
    replace g0 := held g0
    replace g1 := held g1
    replace g2 := held g2
    replace g3 := held g3
    replace g4 := held g4
    replace y0 := held y0
    replace y1 := held y1
    replace y2 := held y2
    replace y3 := held y3
    replace y4 := held y4
    go_wp2_with fail
    refine wp_region_tab 9 [] (by kernel_rfl) (by kernel_rfl) (by kernel_rfl) trivial ?_
    refine rg_quiet rfl rfl rfl rfl ?_; intro K hK; go_big_quiet_op; go_big_quiet_on
    refine rg_quiet rfl rfl rfl rfl ?_; intro K hK; go_big_quiet_op; go_big_quiet_on
    refine rg_quiet rfl rfl rfl rfl ?_; intro K hK; go_big_quiet_op; go_big_quiet_on
    refine rg_quiet rfl rfl rfl rfl ?_; intro K hK; go_big_quiet_op; go_big_quiet_on
    refine rg_quiet rfl rfl rfl rfl ?_; intro K hK; go_big_quiet_op; go_big_quiet_on
    refine rg_quiet rfl rfl rfl rfl ?_; intro K hK; go_big_quiet_op; go_big_quiet_on
    refine rg_quiet rfl rfl rfl rfl ?_; intro K hK; go_big_quiet_op; go_big_quiet_on
    refine rg_quiet rfl rfl rfl rfl ?_; intro K hK; go_big_quiet_op; go_big_quiet_on
    refine rg_quiet rfl rfl rfl rfl ?_; intro K hK; go_big_quiet_op
    refine ⟨.bool (!eqB M M'), fun q => ?_, hK _ ?_⟩
    ·by_cases h1 : M.name.toList = M'.name.toList
     ·by_cases h2 : M.cell.val.toList = M'.cell.val.toList
      ·by_cases h3 : M.cell.dead = M'.cell.dead
       ·by_cases h4 : M.cell.at_ = M'.cell.at_
        ·by_cases h5 : M.cell.fin = M'.cell.fin
         ·have e : M = M' := co_ext h1 h2 h3 h4 h5
          rw [if_pos h1, if_pos h2, if_pos h3, if_pos h4, if_pos h5, eqB_true e]
          exact ⟨rfl, rfl⟩
         ·rw [if_pos h1, if_pos h2, if_pos h3, if_pos h4, if_neg h5, eqB_false (fun e => h5 (by rw [e]))]
          exact ⟨rfl, rfl⟩
        ·rw [if_pos h1, if_pos h2, if_pos h3, if_neg h4, eqB_false (fun e => h4 (by rw [e]))]
         exact ⟨rfl, rfl⟩
       ·rw [if_pos h1, if_pos h2, if_neg h3, eqB_false (fun e => h3 (by rw [e]))]
        exact ⟨rfl, rfl⟩
      ·rw [if_pos h1, if_neg h2, eqB_false (fun e => h2 (by rw [e]))]
       exact ⟨rfl, rfl⟩
     ·rw [if_neg h1, eqB_false (fun e => h1 (by rw [e]))]
      exact ⟨rfl, rfl⟩
    clear hK K
    refine rel_nil fun w5 hE5 _ => ?_
    clear g0 g1 g2 g3 g4 y0 y1 y2 y3 y4
    by_cases hMM : M = M'
    ·rw [eqB_true hMM]
     go_wp2_with fail
     go_roundw
     case rel =>
      refine ⟨k + 1, hlt, rfl, hE.trans hE5, ?_⟩
      show _ = _
      rw [List.take_succ_eq_append_getElem hl1, List.take_succ_eq_append_getElem hl2, HT.out, ← HM.out, ← HM'.out, hMM]
     case measure => simp [intOf]; omega
    ·rw [eqB_false hMM]
     go_wp2_with fail
     go_ret
     rw [eqB_false (fun e => hMM (by rw [HM.out, HM'.out]; simp only [e]))]
     exact ⟨rfl, hE.trans hE5⟩
   ·go_wp2_with fail
    go_ret
    rw [eqB_true (by
     have := HT.out
     rwa [List.take_of_length_le (by rw [← HN.out]; omega), List.take_of_length_le (by rw [← HN'.out]; omega)] at this)]
    exact ⟨rfl, hE⟩
 ·have hne : l ≠ l' := fun e => hlen (by rw [e])
  have HB := Lib.hid (eqB_false hne)
  go_enter Tryz.func62, Tryz.ntmps62
  go_wp2
  go_ret
  exact ⟨by rw [HB.out]; rfl, Ext.refl w⟩

theorem ro_ext {a b : Ro} (h1 : a.key.toList = b.key.toList) (h2 : a.live.val.toList = b.live.val.toList) (h3 : a.live.dead = b.live.dead) (h4 : a.live.at_ = b.live.at_) (h5 : a.live.fin = b.live.fin) (h6 : a.gone = b.gone) (h7 : a.shade = b.shade) (h8 : a.cols = b.cols) : a = b := by
 have := cl_ext h2 h3 h4 h5
 cases a; cases b
 simp only at *
 rw [bytes_ext h1, this, h6, h7, h8]

set_option maxRecDepth 100000 in
set_option maxHeartbeats 4000000 in
theorem rowSame_any (a b : Ro) (va vb : Value) (w : World) (ha : ColsIn w va a.cols) (hb : ColsIn w vb b.cols) :
  Calls Tryz.prog 34 #[(.agg #[.string a.key, .string a.live.val, .bool a.live.dead, .int .i64 a.live.at_, .int .i64 a.live.fin, .int .i64 a.gone, .int .i64 a.shade, va]), (.agg #[.string b.key, .string b.live.val, .bool b.live.dead, .int .i64 b.live.at_, .int .i64 b.live.fin, .int .i64 b.gone, .int .i64 b.shade, vb])] w fun e w' => e = .returned (.bool (eqB a b)) ∧ Ext w w' := by
 go_enter Tryz.func34, Tryz.ntmps34
 go_wp2_with fail
 rotate_left
 all_goals try
  rename_i h
  go_ret
  exact ⟨by rw [eqB_false (fun e => h (by rw [e]))]; rfl, ((Ext.refl w).alloc _).alloc _⟩
 rename_i h1 h2 h3 h4 h5 h6 h7 _ _
 refine (eqCols_any va vb a.cols b.cols _ (ha.ext (((Ext.refl w).alloc _).alloc _)) (hb.ext (((Ext.refl w).alloc _).alloc _))).mono ?_
 rintro e w1 ⟨rfl, hE1⟩
 have he : eqB a.cols b.cols = eqB a b := by
  by_cases h : a.cols = b.cols
  ·rw [eqB_true h, eqB_true (ro_ext h1 h2 h3 h4 h5 h6 h7 h)]
  ·rw [eqB_false h, eqB_false (fun e => h (by rw [e]))]
 rw [he]
 obtain ⟨B, hB⟩ : ∃ B, B = eqB a b := ⟨_, rfl⟩
 rw [← hB]
 have HB := Lib.hid hB
 clear hB he h1 h2 h3 h4 h5 h6 h7
 go_wp2_with fail
 go_ret
 exact ⟨by rw [← HB.out]; rfl, (((Ext.refl w).alloc _).alloc _).trans hE1⟩

set_option maxRecDepth 100000 in
set_option maxHeartbeats 4000000 in
theorem eqRows_any (v v' : Value) (ps ps' : List (Ro × Value)) (w : World) (hin : RowsIn w v ps) (hin' : RowsIn w v' ps') :
  Calls Tryz.prog 84 #[v, v', .func (.func 34) #[] #[]] w fun e w' => e = .returned (.bool (eqB (ps.map (·.1)) (ps'.map (·.1)))) ∧ Ext w w' := by
 obtain ⟨a, c, rfl, hc, hcm, hcell⟩ := hin.get
 obtain ⟨a', c', rfl, hc', hcm', hcell'⟩ := hin'.get
 have HC := Lib.hid hcell
 have HC' := Lib.hid hcell'
 have HK := Lib.hid hin.cols
 have HK' := Lib.hid hin'.cols
 clear hcell hin hcell' hin'
 by_cases hlen : ps.length = ps'.length
 ·obtain ⟨n, hn⟩ : ∃ n, n = ps.length := ⟨_, rfl⟩
  rw [← hn] at hlen hc ⊢
  rw [← hlen] at hc' ⊢
  have HN := Lib.hid hn
  have HN' := Lib.hid hlen
  clear hn hlen
  obtain ⟨l, hl⟩ : ∃ l, l = ps.map (·.1) := ⟨_, rfl⟩
  obtain ⟨l', hl'⟩ : ∃ l', l' = ps'.map (·.1) := ⟨_, rfl⟩
  rw [← hl, ← hl']
  have HL := Lib.hid hl
  have HL' := Lib.hid hl'
  clear hl hl'
  go_enter Tryz.func84, Tryz.ntmps84
  go_wp2
  go_loopw [17] (fun i wr => ∃ k : Nat, k ≤ n ∧ i = .int .i64 k ∧ Ext w wr ∧ Hid (l.take k = l'.take k)) (fun i _ => n - (intOf i).toNat)
  case atStart => exact ⟨0, Nat.zero_le _, rfl, Ext.refl w, rfl⟩
  case round =>
   obtain ⟨k, hk, rfl, hE, HT⟩ := hrel
   by_cases hlt : k < n
   ·have hl1 : k < ps.length := by rw [← HN.out]; exact hlt
    have hl2 : k < ps'.length := by rw [← HN'.out]; exact hlt
    have hll : k < l.length := by rw [HL.out]; simpa using hl1
    have hll' : k < l'.length := by rw [HL'.out]; simpa using hl2
    obtain ⟨b, o, rfl, hco⟩ := HC.out k hl1
    obtain ⟨b', o', rfl, hco'⟩ := HC'.out k hl2
    have hk1 := HK.out _ (List.getElem_mem hl1)
    have hk2 := HK'.out _ (List.getElem_mem hl2)
    obtain ⟨M, hM⟩ : ∃ M, M = ps[k].1 := ⟨_, rfl⟩
    obtain ⟨M', hM'⟩ : ∃ M', M' = ps'[k].1 := ⟨_, rfl⟩
    obtain ⟨au, cu, hu⟩ := hk1.shape
    obtain ⟨au', cu', hu'⟩ := hk2.shape
    rw [← hM] at hco hk1 hu
    rw [← hM'] at hco' hk2 hu'
    rw [hu] at hco hk1
    rw [hu'] at hco' hk2
    have hM1 : M = l[k] := by simp only [HL.out, List.getElem_map]; exact hM
    have hM1' : M' = l'[k] := by simp only [HL'.out, List.getElem_map]; exact hM'
    have HM := Lib.hid hM1
    have HM' := Lib.hid hM1'
    clear hM hM' hu hu' hM1 hM1'
    obtain ⟨mm, hmm⟩ : ∃ mm, mm = M.cols.length := ⟨_, rfl⟩
    obtain ⟨mm', hmm'⟩ : ∃ mm', mm' = M'.cols.length := ⟨_, rfl⟩
    rw [← hmm] at hco hk1
    rw [← hmm'] at hco' hk2
    clear hmm hmm'
    obtain ⟨g0, g1, g2, g3, g4, g5, g6, g7⟩ := hco.ext hE
    have hco2 := hco'.ext hE
    go_wp2_with (first
     | (((guard_target =~ wpList _ _ _ (Oper.mk none (Op.store _ (Operand.tmp 8) (Operand.tmp 21)) _ _ _ _ :: _) _ _); go_must (refine storeBox rfl 47 (.tmp 8) (.tmp 21) rfl (wr.heap.size) _ _ _ (by rfl) (by rfl) ((BoxAt.made wr (ro8 ⟨⟨#[]⟩, zeroCl, 0, 0, []⟩ (.slice none 0 0)) 47)) (by kernel_rfl) (by rfl) (by simp [Value.oneCell']) ?_); intro w4 c4 gg4); have hX4 : Ext wr w4 := ((Ext.refl wr).alloc _).grown gg4 (fun q hq => by cases hq; omega); obtain ⟨y0, y1, y2, y3, y4, y5, y6, y7⟩ := hco2.ext hX4)
     | (((guard_target =~ wpList _ _ _ (Oper.mk none (Op.store _ (Operand.tmp 9) (Operand.tmp 25)) _ _ _ _ :: _) _ _); go_must (refine storeBox rfl 47 (.tmp 9) (.tmp 25) rfl (w4.heap.size) _ _ _ (by rfl) (by rfl) ((BoxAt.made w4 (ro8 ⟨⟨#[]⟩, zeroCl, 0, 0, []⟩ (.slice none 0 0)) 47)) (by kernel_rfl) (by rfl) (by simp [Value.oneCell']) ?_); intro w5 c5 gg5); have hX5 : Ext w4 w5 := ((Ext.refl w4).alloc _).grown gg5 (fun q hq => by cases hq; omega); have d4 := (c4.ext hX5).ro (r := ⟨M.key, M.live, M.gone, M.shade, []⟩) (v := .slice au mm cu); have d5 := c5.ro (r := ⟨M'.key, M'.live, M'.gone, M'.shade, []⟩) (v := .slice au' mm' cu')))
    refine (rowSame_any M M' _ _ w5 (hk1.ext ((hE.trans hX4).trans hX5)) (hk2.ext ((hE.trans hX4).trans hX5))).mono ?_
    rintro e w6 ⟨rfl, hE6⟩
    have hX6 := ((hE.trans hX4).trans hX5).trans hE6
    clear d4 d5 g0 g1 g2 g3 g4 g5 g6 g7 y0 y1 y2 y3 y4 y5 y6 y7 c4 c5 gg4 gg5
    by_cases hMM : M = M'
    ·rw [eqB_true hMM]
     go_wp2_with fail
     go_roundw
     case rel =>
      refine ⟨k + 1, hlt, rfl, hX6, ?_⟩
      show _ = _
      rw [List.take_succ_eq_append_getElem hll, List.take_succ_eq_append_getElem hll', HT.out, ← HM.out, ← HM'.out, hMM]
     case measure => simp [intOf]; omega
    ·rw [eqB_false hMM]
     go_wp2_with fail
     go_ret
     rw [eqB_false (fun e => hMM (by rw [HM.out, HM'.out]; simp only [e]))]
     exact ⟨rfl, hX6⟩
   ·go_wp2_with fail
    go_ret
    rw [eqB_true (by
     have := HT.out
     rwa [List.take_of_length_le (by rw [HL.out]; simp; rw [← HN.out]; omega), List.take_of_length_le (by rw [HL'.out]; simp; rw [← HN'.out]; omega)] at this)]
    exact ⟨rfl, hE⟩
 ·have hne : ps.map (·.1) ≠ ps'.map (·.1) := fun e => hlen (by have := congrArg List.length e; simpa using this)
  have HB := Lib.hid (eqB_false hne)
  go_enter Tryz.func84, Tryz.ntmps84
  go_wp2
  go_ret
  exact ⟨by rw [HB.out]; rfl, Ext.refl w⟩

set_option maxRecDepth 100000 in
set_option maxHeartbeats 4000000 in
theorem partSame_any (k k' : ByteArray) (g g' : Int) (u u' : Value) (ps ps' : List (Ro × Value)) (w : World) (hin : RowsIn w u ps) (hin' : RowsIn w u' ps') :
  Calls Tryz.prog 51 #[.agg #[.string k, .int .i64 g, u], .agg #[.string k', .int .i64 g', u']] w fun e w' => e = .returned (.bool (eqB (k, g, ps.map (·.1)) (k', g', ps'.map (·.1)))) ∧ Ext w w' := by
 by_cases hg : g = g'
 ·subst hg
  go_enter Tryz.func51, Tryz.ntmps51
  go_wp2_with fail
  rotate_left
  ·rename_i h
   go_ret
   exact ⟨by rw [eqB_false (fun e => h (congrArg ByteArray.toList (congrArg Prod.fst e)))]; rfl, ((Ext.refl w).alloc _).alloc _⟩
  rename_i h1 _ _
  refine (eqRows_any u u' ps ps' _ (hin.ext (((Ext.refl w).alloc _).alloc _)) (hin'.ext (((Ext.refl w).alloc _).alloc _))).mono ?_
  rintro e w1 ⟨rfl, hE1⟩
  have he : eqB (ps.map (·.1)) (ps'.map (·.1)) = eqB (k, g, ps.map (·.1)) (k', g, ps'.map (·.1)) := by
   by_cases h : ps.map (·.1) = ps'.map (·.1)
   ·rw [eqB_true h, eqB_true (by rw [bytes_ext h1, h])]
   ·rw [eqB_false h, eqB_false (fun e => h (congrArg (fun p => p.2.2) e))]
  rw [he]
  obtain ⟨B, hB⟩ : ∃ B, B = eqB (k, g, ps.map (·.1)) (k', g, ps'.map (·.1)) := ⟨_, rfl⟩
  rw [← hB]
  have HB := Lib.hid hB
  clear hB he h1
  go_wp2_with fail
  go_ret
  exact ⟨by rw [← HB.out]; rfl, (((Ext.refl w).alloc _).alloc _).trans hE1⟩
 ·have hgb : (g == g') = false := by simpa using hg
  have hne := Lib.hid (eqB_false (fun e : (k, g, ps.map (·.1)) = (k', g', ps'.map (·.1)) => hg (congrArg (fun p => p.2.1) e)))
  clear hg
  go_enter Tryz.func51, Tryz.ntmps51
  go_wp2_with fail
  all_goals
   go_ret
   exact ⟨by rw [hne.out]; rfl, ((Ext.refl w).alloc _).alloc _⟩
end Go.Proofs.YtolkhjdododdaaaGreatDoor

/- project.Mirror where a row is in the view. -/
namespace Go.Proofs.YtolkhjdododdaaaGreatDoor
open Go Go.RowKit
attribute [local go_sem] yields yUpon ro8 pa3 vw5 cl4 tabV

set_option maxRecDepth 100000 in
set_option maxHeartbeats 8000000 in
theorem mirror_some (s : Value) (x : Vw) (u : Value) (ns : List ByteArray) (pk : ByteArray) (pg : Int) (pu : Value) (r : Ro) (v : Value) (w : World) (hin : ColsIn w v r.cols) (hlc : r.cols.length ≤ 1000000) (hns : StrsIn w u ns)
  (hb : bestB (cellOf r.cols x.on) (max r.gone pg) = true) (hk : pk.size ≤ 10000000) (hr : r.key.size ≤ 10000000) (hkl : (vkey pk r.key).size ≤ 400) :
  Calls Tryz.prog 39 #[tabV s, .agg #[.string x.name, .int .i64 x.id, .string x.table, .string x.on, u], .agg #[.string pk, .int .i64 pg, pu], (.agg #[.string r.key, .string r.live.val, .bool r.live.dead, .int .i64 r.live.at_, .int .i64 r.live.fin, .int .i64 r.gone, .int .i64 r.shade, v])] w fun e w' =>
   ∃ (b : Nat) (v' : Value), e = .returned (.tuple #[.agg #[.string (cellOf r.cols x.on).val, .int .i64 0, .slice (some ⟨b, 0, none⟩) 1 1], .bool true]) ∧ w.heap.size ≤ b ∧
    BoxAt w' b (ro8 ⟨vkey pk r.key, ⟨⟨#[]⟩, false, (cellOf r.cols x.on).at_, (cellOf r.cols x.on).fin⟩, max r.gone pg, 0, r.cols.filter (keeps ns)⟩ v') 47 ∧ w'.ownsRow w.heap.size 69 5 v' (r.cols.filter (keeps ns)).length (coCells (r.cols.filter (keeps ns))) ∧ Ext w w' := by
 obtain ⟨a0, a1, a2, a3, a4, hE⟩ := boxes5 w #[.string ⟨#[116]⟩, .int .i64 1, .string ⟨#[112]⟩, .int .i64 1, .string ⟨#[107]⟩, .int .i64 2, s] (vw5 x u) (pa3 pk pg pu) (ro8 r v) (pa3 ⟨#[]⟩ 0 (.slice none 0 0)) 28 31 39 47 39
 have hin' := hin.ext hE
 have hns' := hns.ext hE
 go_enter Tryz.func39, Tryz.ntmps39
 go_wp2_with fail
 refine (of_some x u ns pk pg pu r v v r.cols _ hin' hin' hlc hns' hb hk hr hkl).mono ?_
 obtain ⟨c, hc⟩ : ∃ c, c = cellOf r.cols x.on := ⟨_, rfl⟩
 rw [← hc]
 rintro e w1 ⟨b, v', rfl, hbs, hbox, hown, hE1⟩
 obtain ⟨L, hL⟩ : ∃ L, L = r.cols.filter (keeps ns) := ⟨_, rfl⟩
 rw [← hL] at hbox hown
 have Hc := Lib.hid hc
 have HL := Lib.hid hL
 have hq := a4.lt
 have hws := hE.le
 replace hown := ownsRow_base hown hws
 replace a2 := a2.ext hE1
 replace a3 := a3.ext hE1
 replace a4 := a4.ext hE1
 replace hE := hE.trans hE1
 clear hE1 hin' hns' hin hns a0 a1 hb hc hL
 have hb1 := hbox.lt
 go_wp2_with fail
 refine wp_region_in 8 [(5, fun v _ => v = .int .i64 (max r.gone pg))] (fun w0 => BoxAt w0 w1.heap.size (pa3 c.val 0 (.slice (some ⟨b, 0, none⟩) 1 1)) 39 ∧ BoxAt w0 (w.heap.size + 1 + 1) (pa3 pk pg pu) 39 ∧ BoxAt w0 (w.heap.size + 1 + 1 + 1) (ro8 r v) 47 ∧ BoxAt w0 (w.heap.size + 1 + 1 + 1 + 1) (pa3 ⟨#[]⟩ 0 (.slice none 0 0)) 39 ∧ BoxAt w0 b (ro8 ⟨vkey pk r.key, ⟨⟨#[]⟩, false, c.at_, c.fin⟩, 0, 0, L⟩ v') 47 ∧ w0.ownsRow w.heap.size 69 5 v' L.length (coCells L) ∧ Ext w w0) (by kernel_rfl) (by kernel_rfl) (by kernel_rfl) ⟨stays_eq _, trivial⟩ ?_ ?_
 ·exact ⟨BoxAt.made _ _ _, a2.ext ((Ext.refl _).alloc _), a3.ext ((Ext.refl _).alloc _), a4.ext ((Ext.refl _).alloc _), hbox.ext ((Ext.refl _).alloc _), ownsRow_ext hown ((Ext.refl _).alloc _), hE.alloc _⟩
 clear a2 a3 a4 hbox hown hE
 rintro w2 ⟨c1, c2, c3, c4, c5, hown, hE⟩
 have FIN : Hid (∀ wx, Ext w2 wx → BoxAt wx w1.heap.size (pa3 c.val 0 (.slice (some ⟨b, 0, none⟩) 1 1)) 39 ∧ BoxAt wx (w.heap.size + 1 + 1 + 1 + 1) (pa3 ⟨#[]⟩ 0 (.slice none 0 0)) 39 ∧ BoxAt wx b (ro8 ⟨vkey pk r.key, ⟨⟨#[]⟩, false, c.at_, c.fin⟩, 0, 0, L⟩ v') 47 ∧ wx.ownsRow w.heap.size 69 5 v' L.length (coCells L) ∧ Ext w wx) := fun wx h => ⟨c1.ext h, c4.ext h, c5.ext h, ownsRow_ext hown h, hE.trans h⟩
 obtain ⟨y0, y1, y2⟩ := c1.pa
 obtain ⟨z0, z1, z2⟩ := c2.pa
 obtain ⟨x0, x1, x2, x3, x4, x5, x6, x7⟩ := c3.ro
 clear c1 c2 c3 c4 c5 hown hE z0 z2 y0 y1
 replace y2 := held y2
 replace z1 := held z1
 replace x0 := held x0
 replace x1 := held x1
 replace x2 := held x2
 replace x3 := held x3
 replace x4 := held x4
 replace x5 := held x5
 replace x6 := held x6
 replace x7 := held x7
 refine rg_quiet rfl rfl rfl rfl ?_; intro K hK; go_big_quiet_op; go_big_quiet_on
 refine rg_quiet rfl rfl rfl rfl ?_; intro K hK; go_big_quiet_op; go_big_quiet_on
 refine rg_quiet rfl rfl rfl rfl ?_; intro K hK; go_big_quiet_op; go_big_quiet_on
 refine rg_quiet rfl rfl rfl rfl ?_; intro K hK; go_big_quiet_op; go_big_quiet_on
 refine rg_quiet rfl rfl rfl rfl ?_; intro K hK; go_big_quiet_op; go_big_quiet_on
 refine rg_val [] rfl rfl rfl (by kernel_rfl) (fun w1 hE hf => ?_) ?_
 ·go_simp
  exact (rgone_any r v pg w1).mono fun e w' ⟨he, hw⟩ => ⟨_, he, rg_done hE hw (rfl)⟩
 simp only [Act.put, List.setIfInBounds_toArray, List.set_cons_zero, List.set_cons_succ]
 refine rg_quiet rfl rfl rfl rfl ?_; intro K hK; go_big_quiet_op; go_big_quiet_on
 refine rg_quiet rfl rfl rfl rfl ?_; intro K hK; go_big_quiet_op; go_big_quiet_on
 refine rel_tail rfl rfl fun w5 hE5 hG => ?_
 obtain ⟨c1, c4, c5, hown, hE⟩ := FIN.out w5 hE5
 clear y2 z1 x0 x1 x2 x3 x4 x5 x6 x7 hE5 hG FIN
 have f5 := c5.cell 5
 have ff := c5.free 5
 simp [ro8] at f5
 have y : ∀ i, w5.cell? ⟨w1.heap.size, i, none⟩ = (pa3 c.val 0 (.slice (some ⟨b, 0, none⟩) 1 1))[i]? := fun i => c1.cell i
 have hbn : b ≠ w1.heap.size := by omega
 have hbn2 : w1.heap.size ≠ b := by omega
 have hcell := c5.set 5 (.int .i64 (max r.gone pg))
 have hqn : w.heap.size + 1 + 1 + 1 + 1 ≠ b := by omega
 have hres := c4.other hqn 5 (.int .i64 (max r.gone pg))
 have hownB := own_setCell (u := .int .i64 (max r.gone pg)) (i := 5) hown (own_ne_box hown c5 (by decide))
 have hXB := hE.setCell (p := ⟨b, 5, none⟩) (by show w.heap.size ≤ b; omega) (.int .i64 (max r.gone pg))
 have hrow : BoxAt (w5.setCell ⟨b, 5, none⟩ (.int .i64 (max r.gone pg))) b (ro8 ⟨vkey pk r.key, ⟨⟨#[]⟩, false, c.at_, c.fin⟩, max r.gone pg, 0, L⟩ v') 47 := hcell
 clear hcell hown c4 c5 hE
 go_wp2_with ((guard_target =~ wpList _ _ _ (Oper.mk none (Op.store _ (Operand.tmp 8) (Operand.tmp 32)) _ _ _ _ :: _) _ _); go_must (refine storeBox rfl 39 (.tmp 8) (.tmp 32) rfl (w.heap.size + 1 + 1 + 1 + 1) _ _ _ (by rfl) (by rfl) (hres) (by kernel_rfl) (by rfl) (by simp [Value.oneCell']) ?_); intro w6 c6 g6)
 have hX6 := hXB.grown g6 (fun q hq => by cases hq; omega)
 have hrow6 := hrow.grown g6 (fun e => by have := Option.some.inj e; omega)
 have hown6 := hownB.kept g6 (own_ne_box hownB hres (by decide))
 clear y c1 hrow hownB hres hXB g6 f5 ff
 have z0 := c6.cell 0
 have z1 := c6.cell 1
 have z2 := c6.cell 2
 simp at z0 z1 z2
 rw [← Hc.out, ← HL.out]
 refine bodyPost_ret (v := .tuple #[.agg #[.string c.val, .int .i64 0, .slice (some ⟨b, 0, none⟩) 1 1], .bool true]) ?_ rfl ⟨b, v', rfl, by omega, hrow6, hown6, hX6⟩
 simp [results, Tryz.results39, go_sem, Act.put, z0, z1, z2]
end Go.Proofs.YtolkhjdododdaaaGreatDoor
