/- clerestoryref07.Join. -/
import Derived.Test.YteamiiekpjoclaaP16
import Derived.Test.YteamiiekpjoclaaP26
import Derived.Test.YteamiiekpjoclaaP18
import Derived.Test.YteamiiekpjoclaaP2
import Derived.Laws.CopyOwn
import Derived.Laws.MakeOwn
import Derived.OwnWalk
set_option linter.unusedSimpArgs false
set_option linter.unusedVariables false
namespace Go.Proofs.Yteamiiekpjoclaa
open Go Go.RowKit
attribute [local go_sem] yields yUpon ro8

set_option maxRecDepth 100000 in
set_option maxHeartbeats 8000000 in
theorem join7_any (a b : Ro) (va vb : Value) (w : World) (ha : ColsT w va a.cols) (hb : ColsIn w vb b.cols) (hlen : a.cols.length + b.cols.length ≤ 300000) :
    Calls Try.prog 78 #[(.agg #[.string a.key, .string a.live.val, .bool a.live.dead, .int .i64 a.live.at_, .int .i64 a.live.fin, .int .i64 a.gone, .int .i64 a.shade, va]), (.agg #[.string b.key, .string b.live.val, .bool b.live.dead, .int .i64 b.live.at_, .int .i64 b.live.fin, .int .i64 b.gone, .int .i64 b.shade, vb])] w fun e w' => ∃ v', e = .returned (.agg #[.string (foldRo a b).key, .string (foldRo a b).live.val, .bool (foldRo a b).live.dead, .int .i64 (foldRo a b).live.at_, .int .i64 (foldRo a b).live.fin, .int .i64 (foldRo a b).gone, .int .i64 (foldRo a b).shade, v']) ∧ ColsT w' v' (foldRo a b).cols ∧ Ext w w' := by
  obtain ⟨a0, a1, a2, hE⟩ := boxes3 w (ro8 a va) (ro8 b vb) (ro8 ⟨⟨#[]⟩, zeroCl, 0, 0, []⟩ (.slice none 0 0)) 55 55 55
  have ha' := ha.ext hE
  have hb' := hb.ext hE
  obtain ⟨c, hc⟩ : ∃ c, c = joinCl a.live b.live := ⟨_, rfl⟩
  obtain ⟨g, hg⟩ : ∃ g, g = max a.gone b.gone := ⟨_, rfl⟩
  obtain ⟨s, hs⟩ : ∃ s, s = max a.shade b.shade := ⟨_, rfl⟩
  have Hc := Lib.hid hc
  have Hg := Lib.hid hg
  have Hs := Lib.hid hs
  obtain ⟨L, hL⟩ : ∃ L, L = foldG keyC joinCo a.cols b.cols := ⟨_, rfl⟩
  have HL := Lib.hid hL
  unfold foldRo
  rw [← hc, ← hg, ← hs, ← hL]
  clear hc hg hs hL ha
  obtain ⟨aa, ca, rfl⟩ := TIn.shape ha'
  obtain ⟨ab, cb, rfl, hcb, hcbm, hget⟩ := hb.get
  obtain ⟨m, hm⟩ : ∃ m, m = a.cols.length := ⟨_, rfl⟩
  obtain ⟨n, hn⟩ : ∃ n, n = b.cols.length := ⟨_, rfl⟩
  rw [← hm, ← hn] at hlen
  rw [← hm] at a0 hE ha' hb' a1 a2
  rw [← hm]
  rw [← hn] at a0 a1 a2 hE ha' hb' hb hcb
  rw [← hn]
  have HGET := Lib.hid hget
  have HM := Lib.hid hm
  have HN := Lib.hid hn
  clear hget hm hn
  go_enter Try.func78, Try.ntmps78
  go_wp2_with fail
  obtain ⟨B, hB⟩ : ∃ B, B = w.heap.size + 1 + 1 + 1 := ⟨_, rfl⟩
  have hBs := Nat.le_trans (Nat.le_of_eq hB) (Nat.succ_le_of_lt a2.lt)
  have hB2 : w.heap.size + 1 + 1 < B := by omega
  clear hB
  refine wp_region_in 22 [(6, fun v _ => v = (.agg #[.string c.val, .bool c.dead, .int .i64 c.at_, .int .i64 c.fin])), (11, fun v _ => v = .int .i64 g), (16, fun v _ => v = .int .i64 s), (19, fun v x => x.ownsRow B 58 5 v m (coCells a.cols)), (21, fun v x => ∃ q, v = .pointer (some ⟨q, 0, none⟩) ∧ B ≤ q ∧ BoxAt x q (ro8 ⟨⟨#[]⟩, zeroCl, 0, 0, []⟩ (.slice none 0 0)) 55)] (fun w0 => BoxAt w0 w.heap.size (ro8 a (.slice aa m ca)) 55 ∧ BoxAt w0 (w.heap.size + 1) (ro8 b (.slice ab n cb)) 55 ∧ BoxAt w0 (w.heap.size + 1 + 1) (ro8 ⟨⟨#[]⟩, zeroCl, 0, 0, []⟩ (.slice none 0 0)) 55 ∧ ColsT w0 (.slice aa m ca) a.cols ∧ ColsIn w0 (.slice ab n cb) b.cols ∧ Ext w w0 ∧ B ≤ w0.heap.size) (by kernel_rfl) (by kernel_rfl) (by kernel_rfl) ⟨stays_eq _, stays_eq _, stays_eq _, fun _ _ _ hE h => ownsRow_ext h hE, fun _ _ _ hE ⟨q, e, h1, h2⟩ => ⟨q, e, h1, h2.ext hE⟩, trivial⟩ ⟨a0, a1, a2, ha', hb', hE, hBs⟩ ?_
  clear a0 a1 a2 hE ha' hb' hBs
  rintro w2 ⟨c0, c1, c2, ha', hb', hE, hBw⟩
  have FIN : Hid (∀ wx, Ext w2 wx → BoxAt wx (w.heap.size + 1) (ro8 b (.slice ab n cb)) 55 ∧ BoxAt wx (w.heap.size + 1 + 1) (ro8 ⟨⟨#[]⟩, zeroCl, 0, 0, []⟩ (.slice none 0 0)) 55 ∧ ColsIn wx (.slice ab n cb) b.cols ∧ Ext w wx) := fun wx h => ⟨c1.ext h, c2.ext h, hb'.ext h, hE.trans h⟩
  obtain ⟨x0, x1, x2, x3, x4, x5, x6, x7⟩ := c0.ro
  obtain ⟨y0, y1, y2, y3, y4, y5, y6, y7⟩ := c1.ro
  clear c0 c1 c2 hE hb' y7 y0
  replace x0 := held x0
  replace x1 := held x1
  replace x2 := held x2
  replace x3 := held x3
  replace x4 := held x4
  replace x5 := held x5
  replace x6 := held x6
  replace x7 := held x7
  replace y1 := held y1
  replace y2 := held y2
  replace y3 := held y3
  replace y4 := held y4
  replace y5 := held y5
  replace y6 := held y6
  refine rg_quiet rfl rfl rfl rfl ?_; intro K hK; go_big_quiet_op; go_big_quiet_on
  refine rg_quiet rfl rfl rfl rfl ?_; intro K hK; go_big_quiet_op; go_big_quiet_on
  refine rg_quiet rfl rfl rfl rfl ?_; intro K hK; go_big_quiet_op; go_big_quiet_on
  refine rg_quiet rfl rfl rfl rfl ?_; intro K hK; go_big_quiet_op; go_big_quiet_on
  refine rg_quiet rfl rfl rfl rfl ?_; intro K hK; go_big_quiet_op; go_big_quiet_on
  refine rg_quiet rfl rfl rfl rfl ?_; intro K hK; go_big_quiet_op; go_big_quiet_on
  refine rg_val [] rfl rfl rfl (by kernel_rfl) (fun y hE hf => ?_) ?_
  · go_simp
    exact (rjoin_c a.live.val a.live.dead a.live.at_ a.live.fin b.live.val b.live.dead b.live.at_ b.live.fin y).mono fun e w' ⟨he, hw⟩ => ⟨_, he, rg_done hE hw (by rw [Hc.out])⟩
  simp only [Act.put, List.setIfInBounds_toArray, List.set_cons_zero, List.set_cons_succ]
  refine rg_quiet rfl rfl rfl rfl ?_; intro K hK; go_big_quiet_op; go_big_quiet_on
  refine rg_quiet rfl rfl rfl rfl ?_; intro K hK; go_big_quiet_op; go_big_quiet_on
  refine rg_quiet rfl rfl rfl rfl ?_; intro K hK; go_big_quiet_op; go_big_quiet_on
  refine rg_quiet rfl rfl rfl rfl ?_; intro K hK; go_big_quiet_op; go_big_quiet_on
  refine rg_val [] rfl rfl rfl (by kernel_rfl) (fun w1 hE hf => ?_) ?_
  · go_simp
    exact rg_done hE (Ext.refl w1) (by rw [Hg.out])
  simp only [Act.put, List.setIfInBounds_toArray, List.set_cons_zero, List.set_cons_succ]
  refine rg_quiet rfl rfl rfl rfl ?_; intro K hK; go_big_quiet_op; go_big_quiet_on
  refine rg_quiet rfl rfl rfl rfl ?_; intro K hK; go_big_quiet_op; go_big_quiet_on
  refine rg_quiet rfl rfl rfl rfl ?_; intro K hK; go_big_quiet_op; go_big_quiet_on
  refine rg_quiet rfl rfl rfl rfl ?_; intro K hK; go_big_quiet_op; go_big_quiet_on
  refine rg_val [] rfl rfl rfl (by kernel_rfl) (fun w1 hE hf => ?_) ?_
  · go_simp
    exact rg_done hE (Ext.refl w1) (by rw [Hs.out])
  simp only [Act.put, List.setIfInBounds_toArray, List.set_cons_zero, List.set_cons_succ]
  refine rg_quiet rfl rfl rfl rfl ?_; intro K hK; go_big_quiet_op; go_big_quiet_on
  refine rg_quiet rfl rfl rfl rfl ?_; intro K hK; go_big_quiet_op; go_big_quiet_on
  refine rg_fact [] rfl rfl rfl (by kernel_rfl) (fun y hE hf => ?_) (fun v19 y19 hE19 hG19 h19 => ?_)
  · refine yields_clone info_Col und_Cols rfl (by decide) (.const (.slice none 0 0)) (.tmp 25) rfl (by rfl) (ha'.ext hE) (by rfl) (coCells_length _) (coCells_one _) (by unfold maxLen; have := HM.out; omega) (by have := HM.out; omega) ?_
    intro v' w' h1 h2
    rw [← HM.out] at h1
    exact rg_doneR hE h2 (own_mono (Nat.le_trans hBw hE.le) h1)
  obtain ⟨a19, c19, rfl⟩ := own_shape h19
  clear hE19 hG19 h19
  simp only [Act.put, List.setIfInBounds_toArray, List.set_cons_zero, List.set_cons_succ]
  refine rg_quiet rfl rfl rfl rfl ?_; intro K hK; go_big_quiet_op; go_big_quiet_on
  refine rg_fact [] rfl rfl rfl (by kernel_rfl) (fun y hE hf => ?_) (fun v5 yy hE5 hG5 h5 => ?_)
  · go_simp
    exact rg_doneR hE ((Ext.refl y).alloc _) ⟨_, rfl, Nat.le_trans hBw hE.le, BoxAt.made y _ _⟩
  obtain ⟨q5, rfl, hq5, _⟩ := h5
  clear hE5 hG5
  simp only [Act.put, List.setIfInBounds_toArray, List.set_cons_zero, List.set_cons_succ]
  refine rel_tail rfl rfl fun w5 hE5 hG => ?_
  have hown := (hG 19).1.2 rfl
  obtain ⟨q5', e5, _, hbq⟩ := (hG 21).2 rfl
  cases e5
  obtain ⟨c1, c2, hb5, hE⟩ := FIN.out w5 hE5
  clear x0 x1 x2 x3 x4 x5 x6 x7 y1 y2 y3 y4 y5 y6 hE5 hG FIN ha'
  clear hb5
  go_wp2_with (((guard_target =~ wpList _ _ _ (Oper.mk none (Op.store _ (Operand.tmp 5) (Operand.tmp 27)) _ _ _ _ :: _) _ _); go_must (refine storeBox rfl 55 (.tmp 5) (.tmp 27) rfl (q5) _ _ _ (by rfl) (by rfl) (hbq) (by kernel_rfl) (by rfl) (by simp [Value.oneCell']) ?_); intro w6 c6 g6); have hown6 := hown.kept g6 (own_ne_box hown hbq (by decide)); have d1 := c1.grown g6 (fun e => by have := Option.some.inj e; omega); have d2 := c2.grown g6 (fun e => by have := Option.some.inj e; omega); have hX6 := hE.grown g6 (fun q hq => by cases hq; omega))
  clear hown hbq c1 c2 hE g6
  go_loopw [6] (fun i wr => ∃ (k : Nat) (Lc : List Co) (vc : Value), k ≤ n ∧ i = .int .i64 k ∧ BoxAt wr q5 (ro8 ⟨a.key, c, g, s, []⟩ vc) 55 ∧ BoxAt wr (w.heap.size + 1) (ro8 b (.slice ab n cb)) 55 ∧ BoxAt wr (w.heap.size + 1 + 1) (ro8 ⟨⟨#[]⟩, zeroCl, 0, 0, []⟩ (.slice none 0 0)) 55 ∧ ColsT wr vc Lc ∧ Hid (Lc = foldG keyC joinCo a.cols (b.cols.take k)) ∧ Ext w wr) (fun i _ => n - (intOf i).toNat)
  case atStart =>
    refine ⟨0, a.cols, _, Nat.zero_le _, rfl, c6, d1, d2, ?_, ?_, hX6⟩
    · unfold ColsT
      rw [← HM.out]
      exact TIn.own hown6
    · show _ = _
      rw [List.take_zero]
      rfl
  case round =>
    obtain ⟨k, Lc, vc, hk, rfl, hbq, hb1, hb2, hcs, HLC, hE⟩ := hrel
    have hLl : Lc.length ≤ m + k := by
      rw [HLC.out]
      have := foldG_len keyC joinCo a.cols (b.cols.take k)
      rw [List.length_take] at this
      have := HM.out
      omega
    have q7 := hbq.cell 7
    simp [ro8] at q7
    have e7 := hb1.cell 7
    simp [ro8] at e7
    obtain ⟨av, cv, rfl⟩ := TIn.shape hcs
    by_cases hlt : k < n
    · have t1 : decide ((k : Int) < (n : Int)) = true := by simp; omega
      have hkb : k < b.cols.length := by rw [← HN.out]; exact hlt
      obtain ⟨bb, oo, rfl, hat⟩ := HGET.out k hkb
      obtain ⟨y0, y1, y2, y3, y4⟩ := hat.ext hE
      obtain ⟨d, hd⟩ : ∃ d, d = b.cols[k] := ⟨_, rfl⟩
      rw [← hd] at y0 y1 y2 y3 y4
      have HD := Lib.hid hd
      obtain ⟨Lm, hLm⟩ : ∃ Lm, Lm = mergeCo Lc [d] := ⟨_, rfl⟩
      have HLM := Lib.hid hLm
      clear hd hat hLm
      go_wp2_with fail
      refine wp_region_tab 9 [(7, fun v x => ColsT x v Lm)] (by kernel_rfl) (by kernel_rfl) (by kernel_rfl) ⟨fun _ _ _ hE h => h.ext hE, trivial⟩ ?_
      replace q7 := held q7
      replace e7 := held e7
      replace y0 := held y0
      replace y1 := held y1
      replace y2 := held y2
      replace y3 := held y3
      replace y4 := held y4
      refine rg_quiet rfl rfl rfl rfl ?_; intro K hK; go_big_quiet_op; go_big_quiet_on
      refine rg_quiet rfl rfl rfl rfl ?_; intro K hK; go_big_quiet_op; go_big_quiet_on
      refine rg_quiet rfl rfl rfl rfl ?_; intro K hK; go_big_quiet_op; go_big_quiet_on
      refine rg_quiet rfl rfl rfl rfl ?_; intro K hK; go_big_quiet_op; go_big_quiet_on
      refine rg_quiet rfl rfl rfl rfl ?_; intro K hK; go_big_quiet_op; go_big_quiet_on
      refine rg_quiet rfl rfl rfl rfl ?_; intro K hK; go_big_quiet_op; go_big_quiet_on
      refine rg_quiet rfl rfl rfl rfl ?_; intro K hK; go_big_quiet_op; go_big_quiet_on
      refine rg_fact [] rfl rfl rfl (by kernel_rfl) (fun y hE hf => ?_) (fun v9 y9 hE9 hG9 h9 => ?_)
      · go_simp
        refine (put7_any _ Lc d y (hcs.ext hE).cols (by omega)).mono ?_
        rintro e y' ⟨v', rfl, ho, hE'⟩
        rw [← HLM.out] at ho
        exact ⟨_, rfl, rg_doneR hE hE' (TIn.own ho)⟩
      obtain ⟨a9, c9, rfl⟩ := TIn.shape h9
      clear hE9 hG9 h9
      simp only [Act.put, List.setIfInBounds_toArray, List.set_cons_zero, List.set_cons_succ]
      refine rg_quiet rfl rfl rfl rfl ?_; intro K hK; go_big_quiet_op; go_big_quiet_on
      refine rel_tail rfl rfl fun w7 hE7 hG => ?_
      have hcs7 : ColsT w7 (.slice a9 Lm.length c9) Lm := (hG 7).2 rfl
      have hbq7 := hbq.ext hE7
      have qf := hbq7.free 7
      clear hG q7 e7 y0 y1 y2 y3 y4 hbq
      have hq := hbq7.lt
      have qc := hbq7.cell 7
      simp [ro8] at qc
      go_wp2_with fail
      go_roundw
      case rel =>
        refine ⟨k + 1, Lm, _, by omega, by go_num, hbq7.set 7 _, (hb1.ext hE7).other (by omega) 7 _, (hb2.ext hE7).other (by omega) 7 _, TIn.set 7 _ hbq7 (by decide) hcs7, ?_, (hE.trans hE7).setCell (p := ⟨q5, 7, none⟩) (by show w.heap.size ≤ q5; omega) _⟩
        show _ = _
        rw [HLM.out, HLC.out, List.take_succ_eq_append_getElem hkb, foldG_snoc, ← HD.out]
        rfl
      case measure => simp [intOf]; omega
    · obtain rfl : k = n := by omega
      obtain ⟨z0, z1, z2, z3, z4, z5, z6, z7⟩ := hbq.ro
      go_wp2_with ((guard_target =~ wpList _ _ _ (Oper.mk none (Op.store _ (Operand.tmp 4) (Operand.tmp 44)) _ _ _ _ :: _) _ _); go_must (refine storeBox rfl 55 (.tmp 4) (.tmp 44) rfl (w.heap.size + 1 + 1) _ _ _ (by rfl) (by rfl) (hb2) (by kernel_rfl) (by rfl) (by simp [Value.oneCell']) ?_); intro w8 c8 g8)
      have hX8 := hE.grown g8 (fun q hq => by cases hq; omega)
      have hcs8 := ColsT.keep g8 hb2 (by decide) hcs
      have hLL : Lc = L := by rw [HLC.out, HL.out, List.take_of_length_le (by rw [← HN.out]; exact Nat.le_refl _)]
      rw [← hLL]
      clear z0 z1 z2 z3 z4 z5 z6 z7 hE g8 hb2 hLL hcs
      obtain ⟨z0, z1, z2, z3, z4, z5, z6, z7⟩ := BoxAt.ro (r := ⟨a.key, c, g, s, []⟩) (v := .slice av Lc.length cv) c8
      refine bodyPost_ret (v := .agg #[.string a.key, .string c.val, .bool c.dead, .int .i64 c.at_, .int .i64 c.fin, .int .i64 g, .int .i64 s, .slice av Lc.length cv]) ?_ rfl ⟨_, rfl, hcs8, hX8⟩
      simp [results, Try.results78, go_sem, Act.put, z0, z1, z2, z3, z4, z5, z6, z7]
end Go.Proofs.Yteamiiekpjoclaa

/- clerestoryref08.put. -/
namespace Go.Proofs.Yteamiiekpjoclaa
open Go Go.RowKit
attribute [local go_sem] yields yUpon ro8

theorem keyR_less (a b : Ro) : keyR a b < 0 ↔ Op.bytesLess a.key.toList b.key.toList = true := by
  unfold keyR
  rw [cmpB_less, ByteArray.toList_eq, ByteArray.toList_eq]
  unfold less
  by_cases h : Op.bytesLess a.key.data.toList b.key.data.toList = true
  · rw [if_pos h]; simp [h]
  · rw [if_neg h]
    constructor
    · intro h'; split at h' <;> omega
    · intro h'; exact absurd h' h
theorem keyR_eq0 (a b : Ro) : keyR a b = 0 ↔ (a.key.toList == b.key.toList) = true := by
  rw [ByteArray.toList_eq, ByteArray.toList_eq, beq_iff_eq]
  constructor
  · exact fun h => cmpB_zero h
  · intro h; unfold keyR; rw [h]; exact cmpB_self _
/-- What stays true while a row is put into a list that is under way. -/
structure PutR (w : World) (S B : Nat) (r : Ro) (vr : Value) (vm : Value) (P : List (Ro × Value)) (x : World) : Prop where
  extw : Ext w x
  own : x.ownsRow B 55 8 vm P.length (roCells P)
  box : BoxAt x w.heap.size (ro8 r vr) 55
  size : S ≤ x.heap.size
theorem PutR.ext {w x y : World} {S B : Nat} {r : Ro} {vr : Value} {vm : Value} {P : List (Ro × Value)} (hE : Ext x y) (h : PutR w S B r vr vm P x) : PutR w S B r vr vm P y := ⟨h.extw.trans hE, ownsRow_ext h.own hE, h.box.ext hE, Nat.le_trans h.size hE.le⟩

set_option maxRecDepth 100000 in
set_option maxHeartbeats 16000000 in
theorem put8_any (v : Value) (ps : List (Ro × Value)) (r : Ro) (vr : Value) (w : World) (h : RowsT w v ps) (hr : ColsIn w vr r.cols) (hlen : ps.length ≤ 400000) (hcl : ∀ p ∈ ps, p.1.cols.length + r.cols.length ≤ 300000) (hrl : r.cols.length ≤ 300000) :
    Calls Try.prog 45 #[v, (.agg #[.string r.key, .string r.live.val, .bool r.live.dead, .int .i64 r.live.at_, .int .i64 r.live.fin, .int .i64 r.gone, .int .i64 r.shade, vr])] w fun e w' => ∃ v', e = .returned v' ∧ ∃ qs, RowsT w' v' qs ∧ qs.map (·.1) = mergeG keyR foldRo (ps.map (·.1)) [r] ∧ Ext w w' := by
  obtain ⟨a, cp, rfl, hc, hcm, hget⟩ := h.rows.get
  obtain ⟨ar, cr, rfl⟩ := hr.shape
  have b0 := BoxAt.made w (ro8 r (.slice ar r.cols.length cr)) 55
  have hE0 := (Ext.refl w).alloc (.cells (ro8 r (.slice ar r.cols.length cr)) 55)
  obtain ⟨rn, hrn⟩ : ∃ rn, rn = r.cols.length := ⟨_, rfl⟩
  rw [← hrn] at b0 hE0 hr ⊢
  obtain ⟨n, hn⟩ : ∃ n, n = ps.length := ⟨_, rfl⟩
  rw [← hn] at h hlen hc ⊢
  have HGET := Lib.hid hget
  have HN := Lib.hid hn
  have HCL := Lib.hid hcl
  have HRN := Lib.hid hrn
  clear hget hn hcl hrn
  go_enter Try.func45, Try.ntmps45
  go_wp2_with fail
  go_loopw [5] (fun i wr => ∃ k : Nat, k ≤ n ∧ i = .int .i64 k ∧ Hid (∀ j (_ : j < k) (hl : j < ps.length), keyR (ps[j]'hl).1 r < 0) ∧ Ext (w.alloc (.cells (ro8 r (.slice ar rn cr)) 55)) wr) (fun i _ => n - (intOf i).toNat)
  case atStart => exact ⟨0, Nat.zero_le _, rfl, fun j h => by omega, Ext.refl _⟩
  case round =>
    obtain ⟨k, hk, rfl, HK, hE⟩ := hrel
    have hb := b0.ext hE
    have x0 : wr.cell? ⟨w.heap.size, 0, none⟩ = some (.string r.key) := hb.cell 0
    have HKM : Hid (∀ j (_ : j < k) (hl : j < (ps.map (·.1)).length), keyR ((ps.map (·.1))[j]'hl) r < 0) := fun j hj hl => by
      rw [List.getElem_map]
      exact HK.out j hj (by rwa [List.length_map] at hl)
    by_cases hlt : k < n
    · have t1 : decide ((k : Int) < (n : Int)) = true := by simp; omega
      have hkl : k < ps.length := by rw [← HN.out]; exact hlt
      obtain ⟨b, o, rfl, hat⟩ := HGET.out k hkl
      obtain ⟨d, hd⟩ : ∃ d, d = ps[k].1 := ⟨_, rfl⟩
      obtain ⟨vd, hvd⟩ : ∃ d, d = ps[k].2 := ⟨_, rfl⟩
      rw [← hd, ← hvd] at hat
      have y0 := (hat.ext (hE0.trans hE)).c0
      have HD := Lib.hid hd
      have HVD := Lib.hid hvd
      have HAT := Lib.hid hat
      clear hd hat hvd
      by_cases hless : Op.bytesLess d.key.toList r.key.toList = true
      · go_wp2_with fail
        refine wp_region_tab 14 [] (by kernel_rfl) (by kernel_rfl) (by kernel_rfl) trivial ?_
        replace x0 := held x0
        replace y0 := held y0
        refine rg_quiet rfl rfl rfl rfl ?_; intro K hK; go_big_quiet_op; go_big_quiet_on
        refine rg_quiet rfl rfl rfl rfl ?_; intro K hK; go_big_quiet_op; go_big_quiet_on
        refine rg_quiet rfl rfl rfl rfl ?_; intro K hK; go_big_quiet_op; go_big_quiet_on
        refine rg_quiet rfl rfl rfl rfl ?_; intro K hK; go_big_quiet_op; go_big_quiet_on
        refine rg_quiet rfl rfl rfl rfl ?_; intro K hK; go_big_quiet_op; go_big_quiet_on
        refine rg_quiet rfl rfl rfl rfl ?_; intro K hK; go_big_quiet_op; go_big_quiet_on
        refine rg_quiet rfl rfl rfl rfl ?_; intro K hK; go_big_quiet_op; go_big_quiet_on
        refine rg_quiet rfl rfl rfl rfl ?_; intro K hK; go_big_quiet_op; go_big_quiet_on
        refine rg_quiet rfl rfl rfl rfl ?_; intro K hK; go_big_quiet_op; go_big_quiet_on
        refine rg_quiet rfl rfl rfl rfl ?_; intro K hK; go_big_quiet_op; go_big_quiet_on
        refine rg_quiet rfl rfl rfl rfl ?_; intro K hK; go_big_quiet_op; go_big_quiet_on
        refine rg_quiet rfl rfl rfl rfl ?_; intro K hK; go_big_quiet_op; go_big_quiet_on
        refine rg_quiet rfl rfl rfl rfl ?_; intro K hK; go_big_quiet_op; go_big_quiet_on
        refine rg_quiet rfl rfl rfl rfl ?_; intro K hK; go_big_quiet_op; go_big_quiet_on
        refine rel_nil fun w5 hE5 _ => ?_
        clear x0 y0
        go_wp2_with fail
        go_roundw
        case rel =>
          refine ⟨k + 1, by omega, by go_num, fun j hj hl => ?_, hE.trans hE5⟩
          by_cases e : j < k
          · exact HK.out j e hl
          · obtain rfl : j = k := by omega
            rw [← HD.out]
            exact (keyR_less d r).2 hless
        case measure => simp [intOf]; omega
      · have hlf : Op.bytesLess d.key.toList r.key.toList = false := by simpa using hless
        have hin5 := rows_take (RowsIn.ext (hE0.trans hE) h.rows) hk HN.out
        obtain ⟨P, hP⟩ : ∃ P, P = ps.take k := ⟨_, rfl⟩
        have hPl : P.length ≤ n := by rw [hP, List.length_take]; omega
        rw [← hP] at hin5
        have HP := Lib.hid hP
        clear hP
        by_cases heq : (d.key.toList == r.key.toList) = true
        · go_wp2_with fail
          refine wp_region_tab 14 [] (by kernel_rfl) (by kernel_rfl) (by kernel_rfl) trivial ?_
          replace x0 := held x0
          replace y0 := held y0
          refine rg_quiet rfl rfl rfl rfl ?_; intro K hK; go_big_quiet_op; go_big_quiet_on
          refine rg_quiet rfl rfl rfl rfl ?_; intro K hK; go_big_quiet_op; go_big_quiet_on
          refine rg_quiet rfl rfl rfl rfl ?_; intro K hK; go_big_quiet_op; go_big_quiet_on
          refine rg_quiet rfl rfl rfl rfl ?_; intro K hK; go_big_quiet_op; go_big_quiet_on
          refine rg_quiet rfl rfl rfl rfl ?_; intro K hK; go_big_quiet_op; go_big_quiet_on
          refine rg_quiet rfl rfl rfl rfl ?_; intro K hK; go_big_quiet_op; go_big_quiet_on
          refine rg_quiet rfl rfl rfl rfl ?_; intro K hK; go_big_quiet_op; go_big_quiet_on
          refine rg_quiet rfl rfl rfl rfl ?_; intro K hK; go_big_quiet_op; go_big_quiet_on
          refine rg_quiet rfl rfl rfl rfl ?_; intro K hK; go_big_quiet_op; go_big_quiet_on
          refine rg_quiet rfl rfl rfl rfl ?_; intro K hK; go_big_quiet_op; go_big_quiet_on
          refine rg_quiet rfl rfl rfl rfl ?_; intro K hK; go_big_quiet_op; go_big_quiet_on
          refine rg_quiet rfl rfl rfl rfl ?_; intro K hK; go_big_quiet_op; go_big_quiet_on
          refine rg_quiet rfl rfl rfl rfl ?_; intro K hK; go_big_quiet_op; go_big_quiet_on
          refine rg_quiet rfl rfl rfl rfl ?_; intro K hK; go_big_quiet_op; go_big_quiet_on
          refine rel_nil fun w5 hE5 _ => ?_
          clear x0 y0
          replace hin5 := hin5.ext hE5
          go_wp2_with (at_builtin; go_must (refine appRows w5 rfl (.const (.slice none 0 0)) (.tmp 25) rfl w5.heap.size (Nat.le_refl _) _ [] (World.ownsRow_nil _ _ _ _) (by rfl) _ P hin5 (by rfl) (by simp; omega) ?_); intro v6 w6 hown6 hg6; rw [List.nil_append] at hown6; obtain ⟨a6, c6, rfl⟩ := own_shape hown6)
          have hE56 : Ext w5 w6 := (Ext.refl w5).grown hg6 (fun q hq => by cases hq)
          have hEw6 : Ext w w6 := ((hE0.trans hE).trans hE5).trans hE56
          have hb6 := hb.ext (hE5.trans hE56)
          have x0 : w6.cell? ⟨w.heap.size, 0, none⟩ = some (.string r.key) := hb6.cell 0
          have y0 := (HAT.out.ext hEw6).c0
          clear hin5
          refine wp_region_tab 14 [] (by kernel_rfl) (by kernel_rfl) (by kernel_rfl) trivial ?_
          replace x0 := held x0
          replace y0 := held y0
          refine rg_quiet rfl rfl rfl rfl ?_; intro K hK; go_big_quiet_op; go_big_quiet_on
          refine rg_quiet rfl rfl rfl rfl ?_; intro K hK; go_big_quiet_op; go_big_quiet_on
          refine rg_quiet rfl rfl rfl rfl ?_; intro K hK; go_big_quiet_op; go_big_quiet_on
          refine rg_quiet rfl rfl rfl rfl ?_; intro K hK; go_big_quiet_op; go_big_quiet_on
          refine rg_quiet rfl rfl rfl rfl ?_; intro K hK; go_big_quiet_op; go_big_quiet_on
          refine rg_quiet rfl rfl rfl rfl ?_; intro K hK; go_big_quiet_op; go_big_quiet_on
          refine rg_quiet rfl rfl rfl rfl ?_; intro K hK; go_big_quiet_op; go_big_quiet_on
          refine rg_quiet rfl rfl rfl rfl ?_; intro K hK; go_big_quiet_op; go_big_quiet_on
          refine rg_quiet rfl rfl rfl rfl ?_; intro K hK; go_big_quiet_op; go_big_quiet_on
          refine rg_quiet rfl rfl rfl rfl ?_; intro K hK; go_big_quiet_op; go_big_quiet_on
          refine rg_quiet rfl rfl rfl rfl ?_; intro K hK; go_big_quiet_op; go_big_quiet_on
          refine rg_quiet rfl rfl rfl rfl ?_; intro K hK; go_big_quiet_op; go_big_quiet_on
          refine rg_quiet rfl rfl rfl rfl ?_; intro K hK; go_big_quiet_op; go_big_quiet_on
          refine rg_quiet rfl rfl rfl rfl ?_; intro K hK; go_big_quiet_op; go_big_quiet_on
          refine rel_nil fun w7 hE7 _ => ?_
          clear x0 y0
          have hb7 := hb6.ext hE7
          replace hown6 := ownsRow_ext hown6 hE7
          have hEw7 := hEw6.trans hE7
          have hPT : ∀ p ∈ P, ColsT w p.2 p.1.cols := fun p hp => h.typed p (List.mem_of_mem_take (by rw [HP.out] at hp; exact hp))
          have HPT := Lib.hid hPT
          clear hPT
          have hdT : ColsT w vd d.cols := by rw [HD.out, HVD.out]; exact h.typed _ (List.getElem_mem hkl)
          have hdl : d.cols.length + r.cols.length ≤ 300000 := by rw [HD.out]; exact HCL.out _ (List.getElem_mem hkl)
          obtain ⟨ad, cd, rfl⟩ := TIn.shape hdT
          obtain ⟨x0, x1, x2, x3, x4, x5, x6, x7⟩ := hb7.ro
          obtain ⟨y0, y1, y2, y3, y4, y5, y6, y7⟩ := HAT.out.ext hEw7
          obtain ⟨R, hR⟩ : ∃ R, R = foldRo d r := ⟨_, rfl⟩
          have HR := Lib.hid hR
          clear hR
          go_wp2_with fail
          refine wp_region_tab 8 [(6, fun v x => ∃ v', v = (.agg #[.string R.key, .string R.live.val, .bool R.live.dead, .int .i64 R.live.at_, .int .i64 R.live.fin, .int .i64 R.gone, .int .i64 R.shade, v']) ∧ ColsT x v' R.cols), (7, fun v x => ∃ v' b, v = .slice (some ⟨b, 0, none⟩) 1 1 ∧ BoxAt x b (ro8 R v') 55 ∧ ColsT x v' R.cols)] (by kernel_rfl) (by kernel_rfl) (by kernel_rfl) ⟨fun _ _ _ hE ⟨v', e, h⟩ => ⟨v', e, h.ext hE⟩, fun _ _ _ hE ⟨v', b, e, h, h'⟩ => ⟨v', b, e, h.ext hE, h'.ext hE⟩, trivial⟩ ?_
          replace x0 := held x0
          replace x1 := held x1
          replace x2 := held x2
          replace x3 := held x3
          replace x4 := held x4
          replace x5 := held x5
          replace x6 := held x6
          replace x7 := held x7
          replace y0 := held y0
          replace y1 := held y1
          replace y2 := held y2
          replace y3 := held y3
          replace y4 := held y4
          replace y5 := held y5
          replace y6 := held y6
          replace y7 := held y7
          refine rg_quiet rfl rfl rfl rfl ?_; intro K hK; go_big_quiet_op; go_big_quiet_on
          refine rg_quiet rfl rfl rfl rfl ?_; intro K hK; go_big_quiet_op; go_big_quiet_on
          refine rg_quiet rfl rfl rfl rfl ?_; intro K hK; go_big_quiet_op; go_big_quiet_on
          refine rg_quiet rfl rfl rfl rfl ?_; intro K hK; go_big_quiet_op; go_big_quiet_on
          refine rg_quiet rfl rfl rfl rfl ?_; intro K hK; go_big_quiet_op; go_big_quiet_on
          refine rg_quiet rfl rfl rfl rfl ?_; intro K hK; go_big_quiet_op; go_big_quiet_on
          refine rg_fact [] rfl rfl rfl (by kernel_rfl) (fun y hE hf => ?_) (fun v11 y11 hE11 hG11 h11 => ?_)
          · go_simp
            refine (join7_any d r _ _ y (hdT.ext (hEw7.trans hE)) (ColsIn.ext (hEw7.trans hE) hr) hdl).mono ?_
            rw [← HR.out]
            rintro e y' ⟨v', rfl, h1, h2⟩
            exact ⟨_, rfl, rg_doneR hE h2 ⟨v', rfl, h1⟩⟩
          obtain ⟨v11, rfl, h11⟩ := h11
          obtain ⟨a11, c11, rfl⟩ := TIn.shape h11
          clear hE11 hG11 h11
          simp only [Act.put, List.setIfInBounds_toArray, List.set_cons_zero, List.set_cons_succ]
          refine rg_fact [6] rfl rfl rfl (by kernel_rfl) (fun y hE hf => ?_) (fun v12 y12 hE12 hG12 h12 => ?_)
          · obtain ⟨v', e, h1⟩ := (hf 6 (by simp)).2 rfl
            cases e
            go_simp
            exact rg_doneR hE ((Ext.refl y).alloc _) ⟨_, _, rfl, BoxAt.made y _ _, h1.ext ((Ext.refl y).alloc _)⟩
          obtain ⟨v12, b12, rfl, _⟩ := h12
          clear hE12 hG12
          simp only [Act.put, List.setIfInBounds_toArray, List.set_cons_zero, List.set_cons_succ]
          refine rel_tail rfl rfl fun w8 hE8 hG => ?_
          obtain ⟨v12', b12', e12, hbx, hct8⟩ := (hG 7).2 rfl
          cases e12
          replace hown6 := ownsRow_ext hown6 hE8
          have hEw8 := hEw7.trans hE8
          have hrows8 := rows_one hbx hct8.cols
          have hB : w.heap.size + 1 ≤ w5.heap.size := by have := hb.lt; have := hE5.le; omega
          clear hG x0 x1 x2 x3 x4 x5 x6 x7 y0 y1 y2 y3 y4 y5 y6 y7 hbx
          go_wp2_with (first
            | ((guard_target =~ wpList _ _ _ (Oper.mk (some 49) _ _ _ _ _ :: _) _ _); at_builtin; go_must (refine appRows w8 rfl (.tmp 41) (.tmp 48) rfl w5.heap.size (Nat.le_trans hE56.le (Nat.le_trans hE7.le hE8.le)) _ P hown6 (by rfl) _ [(R, v12')] hrows8 (by rfl) (by simp; omega) ?_); intro v9 w9 hown9 hg9; obtain ⟨P2, hP2⟩ : ∃ P2, P2 = P ++ [(R, v12')] := ⟨_, rfl⟩; rw [← hP2] at hown9; have hPl2 : P2.length ≤ n + 1 := (by rw [hP2]; simp; omega); replace hP2 := Lib.hid hP2; obtain ⟨a9, c9, rfl⟩ := own_shape hown9; have hEw9 : Ext w w9 := hEw8.grown hg9 (fun q hq => by have := (hown6.lt q hq).1; omega); have hct9 : ColsT w9 v12' R.cols := TIn.keepOwn hown6 hg9 (by decide) hct8)
            | ((guard_target =~ wpList _ _ _ (Oper.mk (some 54) _ _ _ _ _ :: _) _ _); go_must (refine wpList_from rfl und_Rows (size := 8) (by kernel_rfl) (.tmp 51) (.tmp 53) rfl rfl rfl hlt ?_); simp only [Act.put, List.setIfInBounds_toArray, List.set_cons_zero, List.set_cons_succ])
            | ((guard_target =~ wpList _ _ _ (Oper.mk (some 55) _ _ _ _ _ :: _) _ _); at_builtin; go_must (refine appRows w9 rfl (.tmp 50) (.tmp 54) rfl w5.heap.size (Nat.le_trans hE56.le (Nat.le_trans (Nat.le_trans hE7.le hE8.le) hg9.size)) _ P2 hown9 (by rfl) _ (ps.drop (k + 1)) (rows_drop (RowsIn.ext hEw9 h.rows) hlt HN.out) (by rfl) (by have := HN.out; simp; omega) ?_); intro v10 w10 hown10 hg10; have hEw10 : Ext w w10 := hEw9.grown hg10 (fun q hq => by have := (hown9.lt q hq).1; omega); have hct10 : ColsT w10 v12' R.cols := TIn.keepOwn hown9 hg10 (by decide) hct9))
          go_ret
          refine ⟨_, rfl, P2 ++ ps.drop (k + 1), ⟨TIn.own hown10, fun p hp => ?_⟩, ?_, hEw10⟩
          · rw [hP2.out] at hp
            rcases List.mem_append.1 hp with hp | hp
            · rcases List.mem_append.1 hp with hp | hp
              · exact ColsT.ext hEw10 (HPT.out p hp)
              · rw [List.mem_singleton.1 hp]; exact hct10
            · exact ColsT.ext hEw10 (h.typed p (List.mem_of_mem_drop hp))
          · have hz : keyR ((ps.map (·.1))[k]'(by rw [List.length_map]; exact hkl)) r = 0 := by rw [List.getElem_map, ← HD.out]; exact (keyR_eq0 d r).2 heq
            have e := mergeG_hit (join := foldRo) r (ps.map (·.1)) k (by rw [List.length_map]; exact hkl) (fun j h hl => HKM.out j h hl) hz
            rw [e, hP2.out, HP.out, List.getElem_map, ← HD.out, ← HR.out, List.append_assoc, List.map_append, List.map_append, List.map_take, List.map_drop]
            rfl
        · have hef : (d.key.toList == r.key.toList) = false := by simpa using heq
          go_wp2_with fail
          refine wp_region_tab 14 [] (by kernel_rfl) (by kernel_rfl) (by kernel_rfl) trivial ?_
          replace x0 := held x0
          replace y0 := held y0
          refine rg_quiet rfl rfl rfl rfl ?_; intro K hK; go_big_quiet_op; go_big_quiet_on
          refine rg_quiet rfl rfl rfl rfl ?_; intro K hK; go_big_quiet_op; go_big_quiet_on
          refine rg_quiet rfl rfl rfl rfl ?_; intro K hK; go_big_quiet_op; go_big_quiet_on
          refine rg_quiet rfl rfl rfl rfl ?_; intro K hK; go_big_quiet_op; go_big_quiet_on
          refine rg_quiet rfl rfl rfl rfl ?_; intro K hK; go_big_quiet_op; go_big_quiet_on
          refine rg_quiet rfl rfl rfl rfl ?_; intro K hK; go_big_quiet_op; go_big_quiet_on
          refine rg_quiet rfl rfl rfl rfl ?_; intro K hK; go_big_quiet_op; go_big_quiet_on
          refine rg_quiet rfl rfl rfl rfl ?_; intro K hK; go_big_quiet_op; go_big_quiet_on
          refine rg_quiet rfl rfl rfl rfl ?_; intro K hK; go_big_quiet_op; go_big_quiet_on
          refine rg_quiet rfl rfl rfl rfl ?_; intro K hK; go_big_quiet_op; go_big_quiet_on
          refine rg_quiet rfl rfl rfl rfl ?_; intro K hK; go_big_quiet_op; go_big_quiet_on
          refine rg_quiet rfl rfl rfl rfl ?_; intro K hK; go_big_quiet_op; go_big_quiet_on
          refine rg_quiet rfl rfl rfl rfl ?_; intro K hK; go_big_quiet_op; go_big_quiet_on
          refine rg_quiet rfl rfl rfl rfl ?_; intro K hK; go_big_quiet_op; go_big_quiet_on
          refine rel_nil fun w5 hE5 _ => ?_
          clear x0 y0
          replace hin5 := hin5.ext hE5
          go_wp2_with (at_builtin; go_must (refine appRows w5 rfl (.const (.slice none 0 0)) (.tmp 25) rfl w5.heap.size (Nat.le_refl _) _ [] (World.ownsRow_nil _ _ _ _) (by rfl) _ P hin5 (by rfl) (by simp; omega) ?_); intro v6 w6 hown6 hg6; rw [List.nil_append] at hown6; obtain ⟨a6, c6, rfl⟩ := own_shape hown6)
          have hE56 : Ext w5 w6 := (Ext.refl w5).grown hg6 (fun q hq => by cases hq)
          have hEw6 : Ext w w6 := ((hE0.trans hE).trans hE5).trans hE56
          have hb6 := hb.ext (hE5.trans hE56)
          have x0 : w6.cell? ⟨w.heap.size, 0, none⟩ = some (.string r.key) := hb6.cell 0
          have y0 := (HAT.out.ext hEw6).c0
          clear hin5
          refine wp_region_tab 14 [] (by kernel_rfl) (by kernel_rfl) (by kernel_rfl) trivial ?_
          replace x0 := held x0
          replace y0 := held y0
          refine rg_quiet rfl rfl rfl rfl ?_; intro K hK; go_big_quiet_op; go_big_quiet_on
          refine rg_quiet rfl rfl rfl rfl ?_; intro K hK; go_big_quiet_op; go_big_quiet_on
          refine rg_quiet rfl rfl rfl rfl ?_; intro K hK; go_big_quiet_op; go_big_quiet_on
          refine rg_quiet rfl rfl rfl rfl ?_; intro K hK; go_big_quiet_op; go_big_quiet_on
          refine rg_quiet rfl rfl rfl rfl ?_; intro K hK; go_big_quiet_op; go_big_quiet_on
          refine rg_quiet rfl rfl rfl rfl ?_; intro K hK; go_big_quiet_op; go_big_quiet_on
          refine rg_quiet rfl rfl rfl rfl ?_; intro K hK; go_big_quiet_op; go_big_quiet_on
          refine rg_quiet rfl rfl rfl rfl ?_; intro K hK; go_big_quiet_op; go_big_quiet_on
          refine rg_quiet rfl rfl rfl rfl ?_; intro K hK; go_big_quiet_op; go_big_quiet_on
          refine rg_quiet rfl rfl rfl rfl ?_; intro K hK; go_big_quiet_op; go_big_quiet_on
          refine rg_quiet rfl rfl rfl rfl ?_; intro K hK; go_big_quiet_op; go_big_quiet_on
          refine rg_quiet rfl rfl rfl rfl ?_; intro K hK; go_big_quiet_op; go_big_quiet_on
          refine rg_quiet rfl rfl rfl rfl ?_; intro K hK; go_big_quiet_op; go_big_quiet_on
          refine rg_quiet rfl rfl rfl rfl ?_; intro K hK; go_big_quiet_op; go_big_quiet_on
          refine rel_nil fun w7 hE7 _ => ?_
          clear x0 y0
          have hb7 := hb6.ext hE7
          replace hown6 := ownsRow_ext hown6 hE7
          have hEw7 := hEw6.trans hE7
          have hPT : ∀ p ∈ P, ColsT w p.2 p.1.cols := fun p hp => h.typed p (List.mem_of_mem_take (by rw [HP.out] at hp; exact hp))
          have HPT := Lib.hid hPT
          clear hPT
          have hB : w.heap.size + 1 ≤ w5.heap.size := by have := hb.lt; have := hE5.le; omega
          have hlt6 := hown6.lt
          go_wp2_with fail
          refine wp_region_relE (PutR w w7.heap.size w5.heap.size r (.slice ar rn cr) (.slice a6 P.length c6) P) (RoE (.slice a6 P.length c6) w5.heap.size 4) (Tab.atE [(1, fun v _ => v = (.agg #[.string r.key, .string r.live.val, .bool r.live.dead, .int .i64 r.live.at_, .int .i64 r.live.fin, .int .i64 r.gone, .int .i64 r.shade, (.slice ar rn cr)])), (2, fun v x => ∃ v', v = (.agg #[.string r.key, .string r.live.val, .bool r.live.dead, .int .i64 r.live.at_, .int .i64 r.live.fin, .int .i64 r.gone, .int .i64 r.shade, v']) ∧ ColsT x v' r.cols), (3, fun v x => ∃ v' b, v = .slice (some ⟨b, 0, none⟩) 1 1 ∧ w7.heap.size ≤ b ∧ BoxAt x b (ro8 r v') 55 ∧ ColsT x v' r.cols), (4, fun v x => ∃ v', ColsT x v' r.cols ∧ x.ownsRow w5.heap.size 55 8 v (P.length + 1) (roCells (P ++ [(r, v')]))), (7, fun v _ => v = dropV (some ⟨b, o, none⟩) n cp k 8)])
            (Tab.staysE ⟨fun _ _ _ _ _ _ h => h, fun _ _ _ _ _ hR ⟨v', e, h1⟩ => ⟨v', e, RoE_cols hR h1⟩, fun _ _ _ _ _ hR ⟨v', b, e, hb, hx, h1⟩ => ⟨v', b, e, hb, RoE_far hlt6 hR hb hx, RoE_cols hR h1⟩, fun _ hj _ _ _ hR ⟨v', h1, h2⟩ => ⟨v', RoE_cols hR h1, ownsRow_ext h2 (RoE_off hj hR)⟩, fun _ _ _ _ _ _ h => h, trivial⟩)
            8 (by kernel_rfl) (by kernel_rfl) (by kernel_rfl) ⟨hEw7.trans (Ext.refl w7).drew, ownsRow_ext hown6 (Ext.refl w7).drew, hb7.ext (Ext.refl w7).drew, (Ext.refl w7).drew.le⟩ ?_
          refine relE_quiet rfl rfl rfl rfl ?_; intro K hK; go_big_quiet_op; (first | refine ⟨_, fun _ _ => rfl, hK _ ?_⟩ | refine hK _ ?_); clear hK K
          refine relE_val [] rfl rfl rfl (by kernel_rfl) (fun y hy hf => ?_) ?_
          · obtain ⟨z0, z1, z2, z3, z4, z5, z6, z7⟩ := hy.box.ro
            go_simp
            exact ⟨hy, RoE_ext (by decide) (Ext.refl y), rfl⟩
          simp only [Act.put, List.setIfInBounds_toArray, List.set_cons_zero, List.set_cons_succ]
          refine relE_fact [] rfl rfl rfl (by kernel_rfl) (fun y hy hf => ?_) (fun v11 y11 hC11 hG11 h11 => ?_)
          · go_simp
            refine (copyRow_any r _ y (ColsIn.ext hy.extw hr) (by omega)).mono ?_
            rintro e y' ⟨v', rfl, h1, h2⟩
            exact ⟨_, rfl, hy.ext h2, RoE_ext (by decide) h2, v', rfl, h1⟩
          obtain ⟨v11, rfl, h11⟩ := h11
          obtain ⟨a11, c11, rfl⟩ := TIn.shape h11
          clear hC11 hG11 h11
          simp only [Act.put, List.setIfInBounds_toArray, List.set_cons_zero, List.set_cons_succ]
          refine relE_fact [2] rfl rfl rfl (by kernel_rfl) (fun y hy hf => ?_) (fun v12 y12 hC12 hG12 h12 => ?_)
          · obtain ⟨v', e, h1⟩ := (hf 2 (by simp)).2 rfl
            cases e
            go_simp
            exact ⟨hy.ext ((Ext.refl y).alloc _), RoE_ext (by decide) ((Ext.refl y).alloc _), _, _, rfl, hy.size, BoxAt.made y _ _, h1.ext ((Ext.refl y).alloc _)⟩
          obtain ⟨v12, b12, rfl, _⟩ := h12
          clear hC12 hG12
          simp only [Act.put, List.setIfInBounds_toArray, List.set_cons_zero, List.set_cons_succ]
          refine relE_fact [3] rfl rfl rfl (by kernel_rfl) (fun y hy hf => ?_) (fun v13 y13 hC13 hG13 h13 => ?_)
          · obtain ⟨v', b', e, hb', hbox, h1⟩ := (hf 3 (by simp)).2 rfl
            cases e
            obtain ⟨av, cv, rfl⟩ := TIn.shape h1
            refine yields_append info_Row und_Rows rfl (by decide) (.tmp 56) (.tmp 59) rfl w5.heap.size (by have := hy.size; have := hE7.le; have := hE56.le; omega) _ P.length (roCells P) hy.own (by rfl) b12 1 1 (ro8 r (.slice av r.cols.length cv)).toList (by rfl) (by rfl) (fun j u hj => by rw [hbox.cell j]; simpa using hj) (by simp [ro8, Value.oneCell']) (by unfold maxLen; omega) (by omega) ?_
            intro v' y' hown' hg hkeep
            have HR : RoE (.slice a6 P.length c6) w5.heap.size 4 4 y y' := by unfold RoE; rw [if_pos rfl]; exact ⟨⟨_, _, hy.own⟩, hg⟩
            refine ⟨⟨hy.extw.grown hg (fun q hq => by have := (hy.own.lt q hq).1; omega), hkeep, hy.box.grown hg (fun e => by have := (hy.own.lt _ e.symm).1; omega), Nat.le_trans hy.size hg.size⟩, HR, _, RoE_cols HR h1, ?_⟩
            rw [roCells_append]
            exact hown'
          obtain ⟨vr9, _, h13⟩ := h13
          obtain ⟨a13, c13, rfl⟩ := own_shape h13
          clear hC13 hG13 h13
          simp only [Act.put, List.setIfInBounds_toArray, List.set_cons_zero, List.set_cons_succ]
          refine relE_quiet rfl rfl rfl rfl ?_; intro K hK; go_big_quiet_op; (first | refine ⟨_, fun _ _ => rfl, hK _ ?_⟩ | refine hK _ ?_); clear hK K
          refine relE_quiet rfl rfl rfl rfl ?_; intro K hK; go_big_quiet_op; (first | refine ⟨_, fun _ _ => rfl, hK _ ?_⟩ | refine hK _ ?_); clear hK K
          refine relE_val [] rfl rfl rfl (by kernel_rfl) (fun y hy hf => ?_) ?_
          · exact yields_from und_Rows (size := 8) (by kernel_rfl) (.tmp 61) (.tmp 62) rfl rfl rfl hk ⟨hy, RoE_ext (by decide) (Ext.refl y), rfl⟩
          simp only [Act.put, List.setIfInBounds_toArray, List.set_cons_zero, List.set_cons_succ]
          refine relE_tail rfl rfl fun w8 hC hG => ?_
          obtain ⟨vr', hct8, hown8⟩ := (hG 4).2 rfl
          obtain ⟨P2, hP2⟩ : ∃ P2, P2 = P ++ [(r, vr')] := ⟨_, rfl⟩
          have hPl2 : P2.length = P.length + 1 := by rw [hP2]; simp
          rw [← hP2, ← hPl2] at hown8
          rw [← hPl2]
          have HP2 := Lib.hid hP2
          have hsz8 := hC.size
          have hEw8 := hC.extw
          have hP3 : P2.length ≤ n + 1 := by omega
          clear hG hC hP2 hPl2
          go_wp2_with (at_builtin; go_must (refine appRows w8 rfl (.tmp 60) (.tmp 63) rfl w5.heap.size (by have := hE7.le; have := hE56.le; omega) _ P2 hown8 (by rfl) _ (ps.drop k) (rows_drop (RowsIn.ext hEw8 h.rows) hk HN.out) (by rfl) (by have := HN.out; simp; omega) ?_); intro v10 w10 hown10 hg10; have hEw10 : Ext w w10 := hEw8.grown hg10 (fun q hq => by have := (hown8.lt q hq).1; omega); have hct10 : ColsT w10 vr' r.cols := TIn.keepOwn hown8 hg10 (by decide) hct8)
          go_ret
          refine ⟨_, rfl, P2 ++ ps.drop k, ⟨TIn.own hown10, fun p hp => ?_⟩, ?_, hEw10⟩
          · rw [HP2.out] at hp
            rcases List.mem_append.1 hp with hp | hp
            · rcases List.mem_append.1 hp with hp | hp
              · exact ColsT.ext hEw10 (HPT.out p hp)
              · rw [List.mem_singleton.1 hp]; exact hct10
            · exact ColsT.ext hEw10 (h.typed p (List.mem_of_mem_drop hp))
          · have hz : 0 < keyR ((ps.map (·.1))[k]'(by rw [List.length_map]; exact hkl)) r := by
              rw [List.getElem_map, ← HD.out]
              have h1 := mt (keyR_less d r).1 (by rw [hlf]; decide)
              have h2 := mt (keyR_eq0 d r).1 (by rw [hef]; decide)
              omega
            have e := mergeG_new (join := foldRo) r (ps.map (·.1)) k (by rw [List.length_map]; exact hkl) (fun j h hl => HKM.out j h hl) hz
            rw [e, HP2.out, HP.out, List.append_assoc, List.map_append, List.map_append, List.map_take, List.map_drop]
            rfl
    · obtain rfl : k = n := by omega
      have hin5 := rows_take (RowsIn.ext (hE0.trans hE) h.rows) hk HN.out
      obtain ⟨P, hP⟩ : ∃ P, P = ps.take k := ⟨_, rfl⟩
      have hPl : P.length ≤ k := by rw [hP, List.length_take]; omega
      rw [← hP] at hin5
      have HP := Lib.hid hP
      clear hP
      go_wp2_with fail
      refine wp_region_tab 14 [] (by kernel_rfl) (by kernel_rfl) (by kernel_rfl) trivial ?_
      refine rg_quiet rfl rfl rfl rfl ?_; intro K hK; go_big_quiet_op; go_big_quiet_on
      refine rg_quiet rfl rfl rfl rfl ?_; intro K hK; go_big_quiet_op; go_big_quiet_on
      refine rg_quiet rfl rfl rfl rfl ?_; intro K hK; go_big_quiet_op; go_big_quiet_on
      refine rg_quiet rfl rfl rfl rfl ?_; intro K hK; go_big_quiet_op; go_big_quiet_on
      refine rg_quiet rfl rfl rfl rfl ?_; intro K hK; go_big_quiet_op; go_big_quiet_on
      refine rel_skip rfl rfl ?_
      simp only [Act.put, List.setIfInBounds_toArray, List.set_cons_zero, List.set_cons_succ]
      refine rel_skip rfl rfl ?_
      simp only [Act.put, List.setIfInBounds_toArray, List.set_cons_zero, List.set_cons_succ]
      refine rel_skip rfl rfl ?_
      simp only [Act.put, List.setIfInBounds_toArray, List.set_cons_zero, List.set_cons_succ]
      refine rel_skip rfl rfl ?_
      simp only [Act.put, List.setIfInBounds_toArray, List.set_cons_zero, List.set_cons_succ]
      refine rel_skip rfl rfl ?_
      simp only [Act.put, List.setIfInBounds_toArray, List.set_cons_zero, List.set_cons_succ]
      refine rel_skip rfl rfl ?_
      simp only [Act.put, List.setIfInBounds_toArray, List.set_cons_zero, List.set_cons_succ]
      refine rel_skip rfl rfl ?_
      simp only [Act.put, List.setIfInBounds_toArray, List.set_cons_zero, List.set_cons_succ]
      refine rel_skip rfl rfl ?_
      simp only [Act.put, List.setIfInBounds_toArray, List.set_cons_zero, List.set_cons_succ]
      refine rg_quiet rfl rfl rfl rfl ?_; intro K hK; go_big_quiet_op; go_big_quiet_on
      refine rel_nil fun w5 hE5 _ => ?_
      clear x0
      replace hin5 := hin5.ext hE5
      go_wp2_with (at_builtin; go_must (refine appRows w5 rfl (.const (.slice none 0 0)) (.tmp 25) rfl w5.heap.size (Nat.le_refl _) _ [] (World.ownsRow_nil _ _ _ _) (by rfl) _ P hin5 (by rfl) (by simp; omega) ?_); intro v6 w6 hown6 hg6; rw [List.nil_append] at hown6; obtain ⟨a6, c6, rfl⟩ := own_shape hown6)
      have hE56 : Ext w5 w6 := (Ext.refl w5).grown hg6 (fun q hq => by cases hq)
      have hEw6 : Ext w w6 := ((hE0.trans hE).trans hE5).trans hE56
      have hb6 := hb.ext (hE5.trans hE56)
      refine wp_region_tab 14 [] (by kernel_rfl) (by kernel_rfl) (by kernel_rfl) trivial ?_
      refine rg_quiet rfl rfl rfl rfl ?_; intro K hK; go_big_quiet_op; go_big_quiet_on
      refine rg_quiet rfl rfl rfl rfl ?_; intro K hK; go_big_quiet_op; go_big_quiet_on
      refine rg_quiet rfl rfl rfl rfl ?_; intro K hK; go_big_quiet_op; go_big_quiet_on
      refine rg_quiet rfl rfl rfl rfl ?_; intro K hK; go_big_quiet_op; go_big_quiet_on
      refine rg_quiet rfl rfl rfl rfl ?_; intro K hK; go_big_quiet_op; go_big_quiet_on
      refine rel_skip rfl rfl ?_
      simp only [Act.put, List.setIfInBounds_toArray, List.set_cons_zero, List.set_cons_succ]
      refine rel_skip rfl rfl ?_
      simp only [Act.put, List.setIfInBounds_toArray, List.set_cons_zero, List.set_cons_succ]
      refine rel_skip rfl rfl ?_
      simp only [Act.put, List.setIfInBounds_toArray, List.set_cons_zero, List.set_cons_succ]
      refine rel_skip rfl rfl ?_
      simp only [Act.put, List.setIfInBounds_toArray, List.set_cons_zero, List.set_cons_succ]
      refine rel_skip rfl rfl ?_
      simp only [Act.put, List.setIfInBounds_toArray, List.set_cons_zero, List.set_cons_succ]
      refine rel_skip rfl rfl ?_
      simp only [Act.put, List.setIfInBounds_toArray, List.set_cons_zero, List.set_cons_succ]
      refine rel_skip rfl rfl ?_
      simp only [Act.put, List.setIfInBounds_toArray, List.set_cons_zero, List.set_cons_succ]
      refine rel_skip rfl rfl ?_
      simp only [Act.put, List.setIfInBounds_toArray, List.set_cons_zero, List.set_cons_succ]
      refine rg_quiet rfl rfl rfl rfl ?_; intro K hK; go_big_quiet_op; go_big_quiet_on
      refine rel_nil fun w7 hE7 _ => ?_
      have hb7 := hb6.ext hE7
      replace hown6 := ownsRow_ext hown6 hE7
      have hEw7 := hEw6.trans hE7
      have hPT : ∀ p ∈ P, ColsT w p.2 p.1.cols := fun p hp => h.typed p (List.mem_of_mem_take (by rw [HP.out] at hp; exact hp))
      have HPT := Lib.hid hPT
      clear hPT
      have hB : w.heap.size + 1 ≤ w5.heap.size := by have := hb.lt; have := hE5.le; omega
      have hlt6 := hown6.lt
      go_wp2_with fail
      refine wp_region_relE (PutR w w7.heap.size w5.heap.size r (.slice ar rn cr) (.slice a6 P.length c6) P) (RoE (.slice a6 P.length c6) w5.heap.size 4) (Tab.atE [(1, fun v _ => v = (.agg #[.string r.key, .string r.live.val, .bool r.live.dead, .int .i64 r.live.at_, .int .i64 r.live.fin, .int .i64 r.gone, .int .i64 r.shade, (.slice ar rn cr)])), (2, fun v x => ∃ v', v = (.agg #[.string r.key, .string r.live.val, .bool r.live.dead, .int .i64 r.live.at_, .int .i64 r.live.fin, .int .i64 r.gone, .int .i64 r.shade, v']) ∧ ColsT x v' r.cols), (3, fun v x => ∃ v' b, v = .slice (some ⟨b, 0, none⟩) 1 1 ∧ w7.heap.size ≤ b ∧ BoxAt x b (ro8 r v') 55 ∧ ColsT x v' r.cols), (4, fun v x => ∃ v', ColsT x v' r.cols ∧ x.ownsRow w5.heap.size 55 8 v (P.length + 1) (roCells (P ++ [(r, v')]))), (7, fun v _ => v = dropV a k cp k 8)])
        (Tab.staysE ⟨fun _ _ _ _ _ _ h => h, fun _ _ _ _ _ hR ⟨v', e, h1⟩ => ⟨v', e, RoE_cols hR h1⟩, fun _ _ _ _ _ hR ⟨v', b, e, hb, hx, h1⟩ => ⟨v', b, e, hb, RoE_far hlt6 hR hb hx, RoE_cols hR h1⟩, fun _ hj _ _ _ hR ⟨v', h1, h2⟩ => ⟨v', RoE_cols hR h1, ownsRow_ext h2 (RoE_off hj hR)⟩, fun _ _ _ _ _ _ h => h, trivial⟩)
        8 (by kernel_rfl) (by kernel_rfl) (by kernel_rfl) ⟨hEw7.trans (Ext.refl w7).drew, ownsRow_ext hown6 (Ext.refl w7).drew, hb7.ext (Ext.refl w7).drew, (Ext.refl w7).drew.le⟩ ?_
      refine relE_quiet rfl rfl rfl rfl ?_; intro K hK; go_big_quiet_op; (first | refine ⟨_, fun _ _ => rfl, hK _ ?_⟩ | refine hK _ ?_); clear hK K
      refine relE_val [] rfl rfl rfl (by kernel_rfl) (fun y hy hf => ?_) ?_
      · obtain ⟨z0, z1, z2, z3, z4, z5, z6, z7⟩ := hy.box.ro
        go_simp
        exact ⟨hy, RoE_ext (by decide) (Ext.refl y), rfl⟩
      simp only [Act.put, List.setIfInBounds_toArray, List.set_cons_zero, List.set_cons_succ]
      refine relE_fact [] rfl rfl rfl (by kernel_rfl) (fun y hy hf => ?_) (fun v11 y11 hC11 hG11 h11 => ?_)
      · go_simp
        refine (copyRow_any r _ y (ColsIn.ext hy.extw hr) (by omega)).mono ?_
        rintro e y' ⟨v', rfl, h1, h2⟩
        exact ⟨_, rfl, hy.ext h2, RoE_ext (by decide) h2, v', rfl, h1⟩
      obtain ⟨v11, rfl, h11⟩ := h11
      obtain ⟨a11, c11, rfl⟩ := TIn.shape h11
      clear hC11 hG11 h11
      simp only [Act.put, List.setIfInBounds_toArray, List.set_cons_zero, List.set_cons_succ]
      refine relE_fact [2] rfl rfl rfl (by kernel_rfl) (fun y hy hf => ?_) (fun v12 y12 hC12 hG12 h12 => ?_)
      · obtain ⟨v', e, h1⟩ := (hf 2 (by simp)).2 rfl
        cases e
        go_simp
        exact ⟨hy.ext ((Ext.refl y).alloc _), RoE_ext (by decide) ((Ext.refl y).alloc _), _, _, rfl, hy.size, BoxAt.made y _ _, h1.ext ((Ext.refl y).alloc _)⟩
      obtain ⟨v12, b12, rfl, _⟩ := h12
      clear hC12 hG12
      simp only [Act.put, List.setIfInBounds_toArray, List.set_cons_zero, List.set_cons_succ]
      refine relE_fact [3] rfl rfl rfl (by kernel_rfl) (fun y hy hf => ?_) (fun v13 y13 hC13 hG13 h13 => ?_)
      · obtain ⟨v', b', e, hb', hbox, h1⟩ := (hf 3 (by simp)).2 rfl
        cases e
        obtain ⟨av, cv, rfl⟩ := TIn.shape h1
        refine yields_append info_Row und_Rows rfl (by decide) (.tmp 56) (.tmp 59) rfl w5.heap.size (by have := hy.size; have := hE7.le; have := hE56.le; omega) _ P.length (roCells P) hy.own (by rfl) b12 1 1 (ro8 r (.slice av r.cols.length cv)).toList (by rfl) (by rfl) (fun j u hj => by rw [hbox.cell j]; simpa using hj) (by simp [ro8, Value.oneCell']) (by unfold maxLen; omega) (by omega) ?_
        intro v' y' hown' hg hkeep
        have HR : RoE (.slice a6 P.length c6) w5.heap.size 4 4 y y' := by unfold RoE; rw [if_pos rfl]; exact ⟨⟨_, _, hy.own⟩, hg⟩
        refine ⟨⟨hy.extw.grown hg (fun q hq => by have := (hy.own.lt q hq).1; omega), hkeep, hy.box.grown hg (fun e => by have := (hy.own.lt _ e.symm).1; omega), Nat.le_trans hy.size hg.size⟩, HR, _, RoE_cols HR h1, ?_⟩
        rw [roCells_append]
        exact hown'
      obtain ⟨vr9, _, h13⟩ := h13
      obtain ⟨a13, c13, rfl⟩ := own_shape h13
      clear hC13 hG13 h13
      simp only [Act.put, List.setIfInBounds_toArray, List.set_cons_zero, List.set_cons_succ]
      refine relE_quiet rfl rfl rfl rfl ?_; intro K hK; go_big_quiet_op; (first | refine ⟨_, fun _ _ => rfl, hK _ ?_⟩ | refine hK _ ?_); clear hK K
      refine relE_quiet rfl rfl rfl rfl ?_; intro K hK; go_big_quiet_op; (first | refine ⟨_, fun _ _ => rfl, hK _ ?_⟩ | refine hK _ ?_); clear hK K
      refine relE_val [] rfl rfl rfl (by kernel_rfl) (fun y hy hf => ?_) ?_
      · exact yields_from und_Rows (size := 8) (by kernel_rfl) (.tmp 61) (.tmp 62) rfl rfl rfl (Nat.le_refl _) ⟨hy, RoE_ext (by decide) (Ext.refl y), rfl⟩
      simp only [Act.put, List.setIfInBounds_toArray, List.set_cons_zero, List.set_cons_succ]
      refine relE_tail rfl rfl fun w8 hC hG => ?_
      obtain ⟨vr', hct8, hown8⟩ := (hG 4).2 rfl
      obtain ⟨P2, hP2⟩ : ∃ P2, P2 = P ++ [(r, vr')] := ⟨_, rfl⟩
      have hPl2 : P2.length = P.length + 1 := by rw [hP2]; simp
      rw [← hP2, ← hPl2] at hown8
      rw [← hPl2]
      have HP2 := Lib.hid hP2
      have hsz8 := hC.size
      have hEw8 := hC.extw
      have hP3 : P2.length ≤ k + 1 := by omega
      clear hG hC hP2 hPl2
      go_wp2_with (at_builtin; go_must (refine appRows w8 rfl (.tmp 60) (.tmp 63) rfl w5.heap.size (by have := hE7.le; have := hE56.le; omega) _ P2 hown8 (by rfl) _ (ps.drop k) (rows_drop (RowsIn.ext hEw8 h.rows) (Nat.le_refl _) HN.out) (by rfl) (by have := HN.out; simp; omega) ?_); intro v10 w10 hown10 hg10; have hEw10 : Ext w w10 := hEw8.grown hg10 (fun q hq => by have := (hown8.lt q hq).1; omega); have hct10 : ColsT w10 vr' r.cols := TIn.keepOwn hown8 hg10 (by decide) hct8)
      go_ret
      refine ⟨_, rfl, P2 ++ ps.drop k, ⟨TIn.own hown10, fun p hp => ?_⟩, ?_, hEw10⟩
      · rw [HP2.out] at hp
        rcases List.mem_append.1 hp with hp | hp
        · rcases List.mem_append.1 hp with hp | hp
          · exact ColsT.ext hEw10 (HPT.out p hp)
          · rw [List.mem_singleton.1 hp]; exact hct10
        · exact ColsT.ext hEw10 (h.typed p (List.mem_of_mem_drop hp))
      · have e := mergeG_end (cmp := keyR) (join := foldRo) r (ps.map (·.1)) (fun j hl => HKM.out j (by rw [HN.out]; rwa [List.length_map] at hl) hl)
        rw [e, HP2.out, HP.out, List.take_of_length_le (by rw [HN.out]; exact Nat.le_refl _), List.drop_of_length_le (by rw [HN.out]; exact Nat.le_refl _), List.append_nil, List.map_append]
        rfl
end Go.Proofs.Yteamiiekpjoclaa

/- 'make([]T, n)' of structs as a variable's block; 'copy' over the whole of it. -/
namespace Go.Proofs.Yteamiiekpjoclaa
open Go Go.RowKit

theorem wpList_make_box {P : Program} (w : World) {ops : Array Oper} {rest : List Oper} {o : Oper} {a : Act} {Q : Exit → Act → World → Prop} {t e : TypeId} {z : Value} {size bytes : Nat}
    (info : (P.info? e).map (fun i => (i.zero, i.size, i.bytes)) = some (some z, size, bytes)) (und : P.underlying t = some (.slice e))
    (hg : o.guard = none) (l c : Operand) (hop : o.op = Op.makeSlice t l c)
    (kl kc : IntKind) (n : Nat) (hl : a.eval l = .int kl n) (hc : a.eval c = .int kc n) (b2 : bytes * n ≤ 281474976710656) (b3 : n ≤ maxLen)
    (hK : ∀ w' Z, BoxAt w' w.heap.size Z e → Z.size = n * size → Ext w w' → wpList P ops Q rest (a.put o.dst (.slice (some ⟨w.heap.size, 0, none⟩) n n)) w') :
    wpList P ops Q (o :: rest) a w := by
  obtain ⟨i0, hi, hz0, hz1, hz2⟩ := info_parts info
  refine wpList_plain hg fun K hK' => ?_
  unfold maxLen at b3
  have hb' : (i0.bytes : Int) * (n : Int) ≤ 281474976710656 := by
    have h : ((bytes * n : Nat) : Int) ≤ 281474976710656 := by omega
    rw [hz2]
    rwa [Int.natCast_mul] at h
  have hr := run_make (P := P) w t e i0 z und hi hz0 kl kc n n (by omega) (Int.le_refl _) hb' (by omega)
  simp only [Int.toNat_natCast] at hr
  unfold Oper.wp
  simp [execOp, hop, hl, hc, hr, Result.andThen]
  exact hK' _ _ (hK _ _ (BoxAt.made w _ _) (by rw [size_madeCells, hz1]) ((Ext.refl w).alloc _))

theorem run_copyS {P : Program} (w : World) (dT sT ty elem : TypeId) (size n : Nat) (g dCap : Nat) (a : Option Addr) (sCap : Nat) (cur : Array Value) (t : TypeId) (cs : List Value)
    (hu : P.underlying dT = some (.slice elem)) (hs : (P.info? elem).map (·.size) = some size)
    (hg : BoxAt w g cur t) (hn : cs.length = n * size) (hcur : cur.size = n * size)
    (ha : a = none → n = 0) (hsrc : ∀ ad, a = some ad → ∀ j v, cs[j]? = some v → w.cell? (ad.add j) = some v) (h1 : ∀ v ∈ cs, v.oneCell' = true) :
    (Builtin.copy_ #[dT, sT] ty #[.slice (some ⟨g, 0, none⟩) n dCap, .slice a n sCap]).run P w = .ok (goInt n) (w.setRow g cs.toArray) := by
  have hst := run_storeCells_at P g 0 t cs 0 cur w hg (by omega) h1
  have e1 : cur.toList.take 0 ++ cs ++ cur.toList.drop (0 + 0 + cs.length) = cs := by
    rw [List.drop_eq_nil_of_le (by simp; omega)]
    simp
  simp only [Nat.zero_add] at hst e1
  rw [e1] at hst
  cases hq : P.info? elem with
  | none => simp [hq] at hs
  | some i =>
    have hi : i.size = size := by simpa [hq] using hs
    cases a with
    | none =>
      obtain rfl := ha rfl
      obtain rfl : cs = [] := List.eq_nil_of_length_eq_zero (by omega)
      simp [Builtin.copy_, run_underlying hu, Builtin.lenOf, Builtin.firstCells, sizeOf, typeInfo, hq, hi, hst]
    | some ad =>
      have hl := run_loadCells_list (P := P) w ad cs (hsrc ad rfl)
      rw [hn] at hl
      simp [Builtin.copy_, run_underlying hu, Builtin.lenOf, Builtin.firstCells, sizeOf, typeInfo, hq, hi, hl, hst]

theorem wpList_copy_box {P : Program} (w : World) {ops : Array Oper} {rest : List Oper} {o : Oper} {a : Act} {Q : Exit → Act → World → Prop} {dT sT elem : TypeId} {z : Value} {size bytes : Nat}
    (info : (P.info? elem).map (fun i => (i.zero, i.size, i.bytes)) = some (some z, size, bytes)) (und : P.underlying dT = some (.slice elem)) (hgd : o.guard = none) (d s : Operand)
    (ho : o.op = .call { callee := .builtin .copy, args := #[d, s], argTypes := #[dT, sT] }) (n g dCap : Nat) (hd : a.eval d = .slice (some ⟨g, 0, none⟩) n dCap) (u : Value) (hs : a.eval s = u)
    (cur : Array Value) (t : TypeId) (hb : BoxAt w g cur t) (hcur : cur.size = n * size) (xs : List Value) (hx : xs.length = n * size) (hin : SliceIn w u n xs) (h1 : ∀ v ∈ xs, v.oneCell' = true)
    (h : ∀ w', BoxAt w' g xs.toArray t → w.grownBy w' (some g) → wpList P ops Q rest (a.put o.dst (goInt n)) w') : wpList P ops Q (o :: rest) a w := by
  obtain ⟨i0, hi, hz0, hz1, hz2⟩ := info_parts info
  obtain ⟨ad, c, rfl, hc, hcm, ha, hcell⟩ := hin
  have hrun := run_copyS (P := P) w dT sT o.type elem size n g dCap ad c cur t xs und (by rw [hi]; simpa using hz1) hb hx hcur (fun e => by have := ha e; omega) (fun a' e j v hj => by
    obtain ⟨b, o', e', h'⟩ := hcell j v hj
    rw [e] at e'
    cases e'
    rw [Addr.add_lit]
    exact h') h1
  refine wpList_plain hgd fun K hK => ?_
  unfold Oper.wp
  simp [execOp, ho, resolve, invoke, builtin, hd, hs, hrun, Result.andThen]
  exact hK _ _ (h _ (setRow_heap w g _ _ t _ hb) ⟨rfl, rfl, rfl, by simp, fun k hk hne => setRow_other w g k _ (fun e => hne (by rw [e]))⟩)
end Go.Proofs.Yteamiiekpjoclaa
