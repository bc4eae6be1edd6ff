/- delta.known: what a view's row knows of a base's row. -/
import Derived.Test.YtolkhjdododdaaaGreatDoorP13
import Derived.Test.YtolkhjdododdaaaGreatDoorP15
import Derived.Test.YtolkhjdododdaaaGreatDoorP8
import Derived.Lib.SliceRun
set_option linter.unusedSimpArgs false
set_option linter.unusedVariables false
namespace Go.Proofs.YtolkhjdododdaaaGreatDoor
open Go Go.RowKit
attribute [local go_sem] yields yUpon ro8 pa3 vw5 cl4

/-- What a view's row knows of a base's row, but for where it lies. -/
def known0 (xg : Int) (r b : Ro) (g : Int) : Ro := ⟨b.key, zeroCl, if max r.gone xg ≤ max b.gone g then 0 else max r.gone xg, 0, r.cols⟩
def onR (x : Vw) (xk : ByteArray) (r : Ro) : Ro := ⟨⟨#[]⟩, zeroCl, 0, 0, [⟨x.on, ⟨xk, false, r.live.at_, r.live.fin⟩⟩]⟩
def knownRo (x : Vw) (xk : ByteArray) (xg : Int) (r b : Ro) (g : Int) : Ro := if 0 < r.live.at_ then joinRo (known0 xg r b g) (onR x xk r) else known0 xg r b g

theorem cols_oneK {w : World} {b : Nat} {c : Co} {T : TypeId} (h : BoxAt w b #[.string c.name, .string c.cell.val, .bool c.cell.dead, .int .i64 c.cell.at_, .int .i64 c.cell.fin] T) : ColsIn w (.slice (some ⟨b, 0, none⟩) 1 1) [c] := by
 unfold ColsIn
 have e : coCells [c] = (#[.string c.name, .string c.cell.val, .bool c.cell.dead, .int .i64 c.cell.at_, .int .i64 c.cell.fin] : Array Value).toList := by simp [coCells]
 rw [e]
 exact ⟨_, _, rfl, Nat.le_refl _, by unfold maxLen; simp, nofun, fun j u hj => ⟨b, 0, rfl, by rw [Nat.zero_add, h.cell j]; simpa using hj⟩⟩

set_option maxRecDepth 100000 in
set_option maxHeartbeats 8000000 in
theorem known_any (x : Vw) (u : Value) (xk : ByteArray) (xg : Int) (xu : Value) (r b : Ro) (v vb : Value) (g : Int) (w : World) (hin : ColsT w v r.cols) (hlen : r.cols.length ≤ 100000) :
  Calls Tryz.prog 33 #[.agg #[.string x.name, .int .i64 x.id, .string x.table, .string x.on, u], .agg #[.string xk, .int .i64 xg, xu], (.agg #[.string r.key, .string r.live.val, .bool r.live.dead, .int .i64 r.live.at_, .int .i64 r.live.fin, .int .i64 r.gone, .int .i64 r.shade, v]), (.agg #[.string b.key, .string b.live.val, .bool b.live.dead, .int .i64 b.live.at_, .int .i64 b.live.fin, .int .i64 b.gone, .int .i64 b.shade, vb]), .int .i64 g] w fun e w' => ∃ v', e = .returned (.agg #[.string (knownRo x xk xg r b g).key, .string (knownRo x xk xg r b g).live.val, .bool (knownRo x xk xg r b g).live.dead, .int .i64 (knownRo x xk xg r b g).live.at_, .int .i64 (knownRo x xk xg r b g).live.fin, .int .i64 (knownRo x xk xg r b g).gone, .int .i64 (knownRo x xk xg r b g).shade, v']) ∧ ColsT w' v' (knownRo x xk xg r b g).cols ∧ Ext w w' := by
 obtain ⟨av, cv, rfl⟩ := TIn.shape hin
 obtain ⟨a0, a1, a2, a3, a4, hE⟩ := boxes5 w #[.string x.name, .int .i64 x.id, .string x.table, .string x.on, u] #[.string xk, .int .i64 xg, xu] #[.string r.key, .string r.live.val, .bool r.live.dead, .int .i64 r.live.at_, .int .i64 r.live.fin, .int .i64 r.gone, .int .i64 r.shade, (.slice av r.cols.length cv)] #[.string b.key, .string b.live.val, .bool b.live.dead, .int .i64 b.live.at_, .int .i64 b.live.fin, .int .i64 b.gone, .int .i64 b.shade, vb] #[.string ⟨#[]⟩, .string ⟨#[]⟩, .bool false, .int .i64 0, .int .i64 0, .int .i64 0, .int .i64 0, .slice none 0 0] 31 39 47 47 47
 have hin0 := TIn.ext hE hin
 obtain ⟨G, hG⟩ : ∃ G, G = max r.gone xg := ⟨_, rfl⟩
 obtain ⟨H, hH⟩ : ∃ H, H = max b.gone g := ⟨_, rfl⟩
 have HG := Lib.hid hG
 have HH := Lib.hid hH
 have hg1 := fun w => Lib.hid (rgone_any r (.slice av r.cols.length cv) xg w)
 have hg2 := fun w => Lib.hid (rgone_any b vb g w)
 rw [← hG] at hg1
 rw [← hH] at hg2
 clear hG hH hin
 go_enter Tryz.func33, Tryz.ntmps33
 go_wp2_with fail
 generalize World.alloc (World.alloc (World.alloc (World.alloc (World.alloc w _) _) _) _) _ = w0 at a0 a1 a2 a3 a4 hE hin0 ⊢
 have hl4 := a4.lt
 have x0 : w0.cell? ⟨w.heap.size + 1 + 1 + 1, 0, none⟩ = some (.string b.key) := a3.cell 0
 have a2' : BoxAt w0 (w.heap.size + 1 + 1) (ro8 r (.slice av r.cols.length cv)) 47 := a2
 have a3' : BoxAt w0 (w.heap.size + 1 + 1 + 1) (ro8 b vb) 47 := a3
 have a1' : BoxAt w0 (w.heap.size + 1) (pa3 xk xg xu) 39 := a1
 have a0' : BoxAt w0 w.heap.size (vw5 x u) 31 := a0
 have a4' : BoxAt w0 (w.heap.size + 1 + 1 + 1 + 1) (ro8 ⟨⟨#[]⟩, zeroCl, 0, 0, []⟩ (.slice none 0 0)) 47 := a4
 clear a0 a1 a2 a3 a4
 obtain ⟨r0, r1, r2, r3, r4, r5, r6, r7⟩ := a2'.ro
 obtain ⟨p0, p1, p2⟩ := a1'.pa
 refine wp_region_tab 10 [(5, fun v _ => v = .int .i64 G), (9, fun v y => ∃ q, v = .pointer (some ⟨q, 0, none⟩) ∧ w0.heap.size ≤ q ∧ BoxAt y q (ro8 ⟨⟨#[]⟩, zeroCl, 0, 0, []⟩ (.slice none 0 0)) 47)] (by kernel_rfl) (by kernel_rfl) (by kernel_rfl) ⟨stays_eq _, fun _ _ _ hE ⟨q, e, h1, h2⟩ => ⟨q, e, h1, h2.ext hE⟩, trivial⟩ ?_
 replace x0 := held x0
 replace r0 := held r0
 replace r1 := held r1
 replace r2 := held r2
 replace r3 := held r3
 replace r4 := held r4
 replace r5 := held r5
 replace r6 := held r6
 replace r7 := held r7
 replace p1 := held p1
 refine rg_quiet rfl rfl rfl rfl ?_; intro K hK; go_big_quiet_op; go_big_quiet_on
 refine rg_quiet rfl rfl rfl rfl ?_; intro K hK; go_big_quiet_op; go_big_quiet_on
 refine rg_quiet rfl rfl rfl rfl ?_; intro K hK; go_big_quiet_op; go_big_quiet_on
 refine rg_quiet rfl rfl rfl rfl ?_; intro K hK; go_big_quiet_op; go_big_quiet_on
 refine rg_quiet rfl rfl rfl rfl ?_; intro K hK; go_big_quiet_op; go_big_quiet_on
 refine rg_val [] rfl rfl rfl (by kernel_rfl) (fun y hE hf => ?_) ?_
 ·go_simp
  exact (hg1 y).out.mono fun e w' ⟨he, hw⟩ => ⟨_, he, rg_done hE hw rfl⟩
 simp only [Act.put, List.setIfInBounds_toArray, List.set_cons_zero, List.set_cons_succ]
 refine rg_quiet rfl rfl rfl rfl ?_; intro K hK; go_big_quiet_op; go_big_quiet_on
 refine rg_quiet rfl rfl rfl rfl ?_; intro K hK; go_big_quiet_op; go_big_quiet_on
 refine rg_quiet rfl rfl rfl rfl ?_; intro K hK; go_big_quiet_op; go_big_quiet_on
 refine rg_fact [] rfl rfl rfl (by kernel_rfl) (fun y hY hf => ?_) (fun v12 y12 hE12 hG12 h12 => ?_)
 ·go_simp
  exact rg_doneR hY ((Ext.refl y).alloc _) ⟨_, rfl, hY.le, BoxAt.made y _ _⟩
 obtain ⟨q, rfl, _⟩ := h12
 clear hE12 hG12
 simp only [Act.put, List.setIfInBounds_toArray, List.set_cons_zero, List.set_cons_succ]
 refine rel_tail rfl rfl fun w1 hE1 hG => ?_
 obtain ⟨q', eq', hq, hbx⟩ := (hG 9).2 rfl
 cases eq'
 clear hG x0 r0 r1 r2 r3 r4 r5 r6 r7 p0 p1 p2
 go_wp2_with (((guard_target =~ wpList _ _ _ (Oper.mk none (Op.store _ (Operand.tmp 11) (Operand.tmp 20)) _ _ _ _ :: _) _ _); go_must (refine storeBox rfl 47 (.tmp 11) (.tmp 20) rfl (q) _ _ _ (by rfl) (by rfl) (hbx) (by kernel_rfl) (by rfl) (by simp [Value.oneCell']) ?_); intro w2 c2 g2))
 have hX2 : Ext w0 w2 := hE1.grown g2 (fun k hk => by cases hk; exact hq)
 have c2' : BoxAt w2 q (ro8 ⟨b.key, zeroCl, G, 0, r.cols⟩ (.slice av r.cols.length cv)) 47 := c2
 clear c2 g2 hbx hE1
 have c0 : w2.cell? ⟨q, 5, none⟩ = some (.int .i64 G) := c2'.cell 5
 obtain ⟨b0, b1, b2, b3, b4, b5, b6, b7⟩ := (a3'.ext hX2).ro
 simp only [Act.put]
 refine wp_region_tab 6 [(4, fun v _ => v = .int .i64 H)] (by kernel_rfl) (by kernel_rfl) (by kernel_rfl) ⟨stays_eq _, trivial⟩ ?_
 replace c0 := held c0
 replace b0 := held b0
 replace b1 := held b1
 replace b2 := held b2
 replace b3 := held b3
 replace b4 := held b4
 replace b5 := held b5
 replace b6 := held b6
 replace b7 := held b7
 refine rg_quiet rfl rfl rfl rfl ?_; intro K hK; go_big_quiet_op; go_big_quiet_on
 refine rg_quiet rfl rfl rfl rfl ?_; intro K hK; go_big_quiet_op; go_big_quiet_on
 refine rg_quiet rfl rfl rfl rfl ?_; intro K hK; go_big_quiet_op; go_big_quiet_on
 refine rg_quiet rfl rfl rfl rfl ?_; intro K hK; go_big_quiet_op; go_big_quiet_on
 refine rg_val [] rfl rfl rfl (by kernel_rfl) (fun y hE hf => ?_) ?_
 ·go_simp
  exact (hg2 y).out.mono fun e w' ⟨he, hw⟩ => ⟨_, he, rg_done hE hw rfl⟩
 simp only [Act.put, List.setIfInBounds_toArray, List.set_cons_zero, List.set_cons_succ]
 refine rg_quiet rfl rfl rfl rfl ?_; intro K hK; go_big_quiet_op; go_big_quiet_on
 refine rel_nil fun w3 hE3 _ => ?_
 clear c0 b0 b1 b2 b3 b4 b5 b6 b7
 have hX3 := hX2.trans hE3
 have c3 := c2'.ext hE3
 clear c2' hX2 hE3
 obtain ⟨K0, hK0⟩ : ∃ K, K = known0 xg r b g := ⟨_, rfl⟩
 have hq4 : w.heap.size + 1 + 1 + 1 + 1 < q := by omega
 go_upto_if 26 with fail
 go_cut [] from 12 (fun wc => ∃ kg, Hid (kg = if G ≤ H then 0 else G) ∧ BoxAt wc q (ro8 ⟨b.key, zeroCl, kg, 0, r.cols⟩ (.slice av r.cols.length cv)) 47 ∧ Ext w0 wc)
 case first =>
  have y5 : w3.cell? ⟨q, 5, none⟩ = some (.int .i64 G) := c3.cell 5
  have yf := c3.free 5
  by_cases hGH : G ≤ H
  ·have d0 : decide (G ≤ H) = true := by simpa using hGH
   go_wp2_with fail
   go_meet
   case rel => exact ⟨0, Lib.hid (if_pos hGH).symm, c3.set 5 (.int .i64 0), hX3.setCell (p := ⟨q, 5, none⟩) (by show w0.heap.size ≤ q; omega) _⟩
  ·have d0 : decide (G ≤ H) = false := by simpa using hGH
   go_wp2_with fail
   go_meet
   case rel => exact ⟨G, Lib.hid (if_neg (by omega)).symm, c3, hX3⟩
 case rest =>
  obtain ⟨kg, HKG, cb, hXc⟩ := hcut
  clear c3 hX3
  have HK0 : Hid (K0 = ⟨b.key, zeroCl, kg, 0, r.cols⟩) := Lib.hid (by rw [hK0, HKG.out, HG.out, HH.out]; rfl)
  have HKR : Hid (knownRo x xk xg r b g = if 0 < r.live.at_ then joinRo K0 (onR x xk r) else K0) := Lib.hid (by rw [hK0]; rfl)
  clear hK0 HKG HG HH hg1 hg2
  have hcT : ColsT wc (.slice av r.cols.length cv) r.cols := TIn.ext hXc hin0
  have a4c := a4'.ext hXc
  have hEc := hE.trans hXc
  obtain ⟨r0, r1, r2, r3, r4, r5, r6, r7⟩ := (a2'.ext hXc).ro
  obtain ⟨p0, p1, p2⟩ := (a1'.ext hXc).pa
  obtain ⟨v0, v1, v2, v3, v4⟩ := (a0'.ext hXc).vw
  obtain ⟨y0, y1, y2, y3, y4, y5, y6, y7⟩ := cb.ro
  by_cases hl : 0 < r.live.at_
  ·have d0 : decide (0 < r.live.at_) = true := by simpa using hl
   have HJ : Hid (knownRo x xk xg r b g = joinRo ⟨b.key, zeroCl, kg, 0, r.cols⟩ (onR x xk r)) := Lib.hid (by rw [HKR.out, if_pos hl, HK0.out])
   go_wp2_with fail
   refine (rowJoin_any ⟨b.key, zeroCl, kg, 0, r.cols⟩ (onR x xk r) (.slice av r.cols.length cv) (.slice (some ⟨wc.heap.size, 0, none⟩) 1 1) _ (ColsT.ext ((Ext.refl wc).alloc _) hcT).cols (cols_oneK (c := ⟨x.on, ⟨xk, false, r.live.at_, r.live.fin⟩⟩) (BoxAt.made wc _ _)) (by show r.cols.length + 1 ≤ _; omega)).mono ?_
   rintro e w6 ⟨v', rfl, hown, hE6⟩
   rw [← HJ.out] at hown ⊢
   have hTO := TIn.own hown
   clear hown
   have hEA : Ext wc w6 := ((Ext.refl wc).alloc _).trans hE6
   obtain ⟨jv, jc, rfl⟩ := TIn.shape hTO
   have a4e := a4c.ext hEA
   have cbe := cb.ext hEA
   clear r0 r1 r2 r3 r4 r5 r6 r7 p0 p1 p2 v0 v1 v2 v3 v4 y0 y1 y2 y3 y4 y5 y6 y7
   go_wp2_with (first
    | (((guard_target =~ wpList _ _ _ (Oper.mk none (Op.store _ (Operand.tmp 11) (Operand.tmp 47)) _ _ _ _ :: _) _ _); go_must (refine storeBox rfl 47 (.tmp 11) (.tmp 47) rfl (q) _ _ _ (by rfl) (by rfl) (cbe) (by kernel_rfl) (by rfl) (by simp [Value.oneCell']) ?_); intro w7 c7 g7); have hX7 : Ext w0 w7 := (hXc.trans hEA).grown g7 (fun k hk => by cases hk; exact hq); have a47 := a4'.ext hX7; have e7 := c7.ro (r := knownRo x xk xg r b g) (v := .slice jv (knownRo x xk xg r b g).cols.length jc); obtain ⟨f0, f1, f2, f3, f4, f5, f6, f7⟩ := e7)
    | (((guard_target =~ wpList _ _ _ (Oper.mk none (Op.store _ (Operand.tmp 10) (Operand.tmp 48)) _ _ _ _ :: _) _ _); go_must (refine storeBox rfl 47 (.tmp 10) (.tmp 48) rfl (w.heap.size + 1 + 1 + 1 + 1) _ _ _ (by rfl) (by rfl) (a47) (by kernel_rfl) (by rfl) (by simp [Value.oneCell']) ?_); intro w5 c5 g5)))
   obtain ⟨z0, z1, z2, z3, z4, z5, z6, z7⟩ := c5.ro (r := knownRo x xk xg r b g) (v := .slice jv (knownRo x xk xg r b g).cols.length jc)
   refine bodyPost_ret (v := (.agg #[.string (knownRo x xk xg r b g).key, .string (knownRo x xk xg r b g).live.val, .bool (knownRo x xk xg r b g).live.dead, .int .i64 (knownRo x xk xg r b g).live.at_, .int .i64 (knownRo x xk xg r b g).live.fin, .int .i64 (knownRo x xk xg r b g).gone, .int .i64 (knownRo x xk xg r b g).shade, .slice jv (knownRo x xk xg r b g).cols.length jc])) ?_ rfl ⟨_, rfl, TIn.keep g5 a47 (by decide) (TIn.keep g7 cbe (by decide) hTO), (hE.trans hX7).grown g5 (fun k hk => by cases hk; omega)⟩
   simp [results, Tryz.results33, go_sem, z0, z1, z2, z3, z4, z5, z6, z7]
  ·have d0 : decide (0 < r.live.at_) = false := by simpa using hl
   have HJ : Hid (knownRo x xk xg r b g = ⟨b.key, zeroCl, kg, 0, r.cols⟩) := Lib.hid (by rw [HKR.out, if_neg hl, HK0.out])
   go_wp2_with (((guard_target =~ wpList _ _ _ (Oper.mk none (Op.store _ (Operand.tmp 10) (Operand.tmp 48)) _ _ _ _ :: _) _ _); go_must (refine storeBox rfl 47 (.tmp 10) (.tmp 48) rfl (w.heap.size + 1 + 1 + 1 + 1) _ _ _ (by rfl) (by rfl) (a4c) (by kernel_rfl) (by rfl) (by simp [Value.oneCell']) ?_); intro w5 c5 g5))
   obtain ⟨z0, z1, z2, z3, z4, z5, z6, z7⟩ := c5.ro (r := ⟨b.key, zeroCl, kg, 0, r.cols⟩) (v := .slice av r.cols.length cv)
   refine bodyPost_ret (v := (.agg #[.string (⟨b.key, zeroCl, kg, 0, r.cols⟩ : Ro).key, .string (⟨b.key, zeroCl, kg, 0, r.cols⟩ : Ro).live.val, .bool (⟨b.key, zeroCl, kg, 0, r.cols⟩ : Ro).live.dead, .int .i64 (⟨b.key, zeroCl, kg, 0, r.cols⟩ : Ro).live.at_, .int .i64 (⟨b.key, zeroCl, kg, 0, r.cols⟩ : Ro).live.fin, .int .i64 (⟨b.key, zeroCl, kg, 0, r.cols⟩ : Ro).gone, .int .i64 (⟨b.key, zeroCl, kg, 0, r.cols⟩ : Ro).shade, .slice av r.cols.length cv])) ?_ rfl ⟨.slice av r.cols.length cv, by rw [HJ.out], by rw [HJ.out]; exact TIn.keep g5 a4c (by decide) hcT, hEc.grown g5 (fun k hk => by cases hk; omega)⟩
   simp [results, Tryz.results33, go_sem, z0, z1, z2, z3, z4, z5, z6, z7]
end Go.Proofs.YtolkhjdododdaaaGreatDoor

/- slices.Clone of columns. -/
namespace Go.Proofs.YtolkhjdododdaaaGreatDoor
open Go Go.RowKit
attribute [local go_sem] yields yUpon ro8 pa3 cl4

set_option maxRecDepth 100000 in
set_option maxHeartbeats 2000000 in
theorem clone_any (v : Value) (l : List Co) (w : World) (hin : ColsIn w v l) (hl : l.length ≤ 1000000) :
  Calls Tryz.prog 61 #[v] w fun e w' => ∃ v', e = .returned v' ∧ w'.ownsRow w.heap.size 69 5 v' l.length (coCells l) ∧ Ext w w' := by
 have hin0 := hin
 obtain ⟨a, c, rfl, hc, hcm, ha, _⟩ := hin
 have he := Lib.run_eql_slice_nil (P := Tryz.prog) w 45 69 a l.length c 0 0 und_Cols
 cases a with
 | none =>
  have hc0 := ha rfl
  obtain rfl : l = [] := List.eq_nil_of_length_eq_zero (by omega)
  subst hc0
  clear ha
  go_enter Tryz.func61, Tryz.ntmps61
  go_wp2_with fail
  simp only [List.length_nil] at he
  rw [he]
  simp only [Result.andThen]
  rw [Oper.upon_value]
  go_wp2_with fail
  go_ret
  exact ⟨_, rfl, World.ownsRow_nil _ _ _ _, Ext.refl w⟩
 | some ad =>
  have hX := (Ext.refl w).alloc (.cells #[] 69)
  have hm : (w.alloc (.cells #[] 69)).ownsRow w.heap.size 69 5 (.slice (some ⟨w.heap.size, 0, none⟩) 0 0) ([] : List Co).length (coCells []) := World.ownsRow_made w #[] 0 (Nat.le_refl _) (Nat.zero_le _) rfl
  clear ha
  go_enter Tryz.func61, Tryz.ntmps61
  go_wp2_with (at_builtin; go_must (refine appCols (w.alloc (.cells #[] 69)) rfl (.tmp 5) (.tmp 6) rfl w.heap.size hX.le _ [] hm (by rfl) _ l (hin0.ext hX) (by rfl) (by simp; omega) ?_); intro v3 w3 hown3 hg3)
  go_ret
  exact ⟨_, rfl, hown3, hX.grown hg3 (fun q hq => (hm.lt q hq).1)⟩

end Go.Proofs.YtolkhjdododdaaaGreatDoor

/- part.Row. -/
namespace Go.Proofs.YtolkhjdododdaaaGreatDoor
open Go Go.RowKit
attribute [local go_sem] yields yUpon ro8 pa3

/-- A partition's row. -/
def rowOf : List Ro → ByteArray → Ro
 | [], key => ⟨key, zeroCl, 0, 0, []⟩
 | r :: l, key => if r.key.toList == key.toList then r else rowOf l key
def hasRow : List Ro → ByteArray → Bool
 | [], _ => false
 | r :: l, key => if r.key.toList == key.toList then true else hasRow l key

set_option maxRecDepth 100000 in
set_option maxHeartbeats 4000000 in
theorem prow_typed (pk : ByteArray) (pg : Int) (pu : Value) (ps : List (Ro × Value)) (key : ByteArray) (w : World) (hin : RowsIn w pu ps) (hcl : ∀ p ∈ ps, p.1.cols.length ≤ 1000000) :
  Calls Tryz.prog 32 #[.agg #[.string pk, .int .i64 pg, pu], .string key] w fun e w' => ∃ v', e = .returned (.tuple #[(.agg #[.string (rowOf (ps.map (·.1)) key).key, .string (rowOf (ps.map (·.1)) key).live.val, .bool (rowOf (ps.map (·.1)) key).live.dead, .int .i64 (rowOf (ps.map (·.1)) key).live.at_, .int .i64 (rowOf (ps.map (·.1)) key).live.fin, .int .i64 (rowOf (ps.map (·.1)) key).gone, .int .i64 (rowOf (ps.map (·.1)) key).shade, v']), .bool (hasRow (ps.map (·.1)) key)]) ∧ ColsT w' v' (rowOf (ps.map (·.1)) key).cols ∧ Ext w w' := by
 obtain ⟨a0, a1, hE⟩ := boxes2 w (pa3 pk pg pu) (ro8 ⟨⟨#[]⟩, zeroCl, 0, 0, []⟩ (.slice none 0 0)) 39 47
 obtain ⟨aa, ca, rfl, hca, hcma, hget⟩ := hin.get
 obtain ⟨n, hn⟩ : ∃ n, n = ps.length := ⟨_, rfl⟩
 rw [← hn] at hca a0 a1 hE ⊢
 have HN := Lib.hid hn
 have HGET := Lib.hid hget
 have HC := Lib.hid hin.cols
 have HCL := Lib.hid hcl
 obtain ⟨R, hR⟩ : ∃ R, R = rowOf (ps.map (·.1)) key := ⟨_, rfl⟩
 obtain ⟨B, hB⟩ : ∃ B, B = hasRow (ps.map (·.1)) key := ⟨_, rfl⟩
 rw [← hR, ← hB]
 have HR := Lib.hid hR
 have HB := Lib.hid hB
 clear hn hget hin hcl hR hB
 go_enter Tryz.func32, Tryz.ntmps32
 go_wp2
 go_loopw [11] (fun i wr => ∃ k : Nat, k ≤ n ∧ i = .int .i64 k ∧ BoxAt wr (w.heap.size + 1) (ro8 ⟨⟨#[]⟩, zeroCl, 0, 0, []⟩ (.slice none 0 0)) 47 ∧ Ext w wr ∧ Hid (R = rowOf ((ps.map (·.1)).drop k) key) ∧ Hid (B = hasRow ((ps.map (·.1)).drop k) key)) (fun i _ => n - (intOf i).toNat)
 case atStart => exact ⟨0, Nat.zero_le _, rfl, a1, hE, HR.out, HB.out⟩
 case round =>
  obtain ⟨k, hk, rfl, b1, hE1, HRk, HBk⟩ := hrel
  clear a0 a1
  by_cases hlt : k < n
  ·have hkp : k < ps.length := by rw [← HN.out]; exact hlt
   have hkc := HCL.out _ (List.getElem_mem hkp)
   have hcu := HC.out _ (List.getElem_mem hkp)
   obtain ⟨b, o, rfl, hat⟩ := HGET.out k hkp
   have hdrop : (ps.map (·.1)).drop k = ps[k].1 :: (ps.map (·.1)).drop (k + 1) := by
    rw [List.drop_eq_getElem_cons (by simpa using hkp)]
    simp
   obtain ⟨M, hM⟩ : ∃ M, M = ps[k].1 := ⟨_, rfl⟩
   obtain ⟨au, cu, hu⟩ := hcu.shape
   rw [← hM] at hkc hcu hu hdrop hat
   rw [hu] at hcu hat
   have HDR := Lib.hid hdrop
   clear hM hu hdrop
   obtain ⟨L, hL⟩ : ∃ L, L = M.cols := ⟨_, rfl⟩
   rw [← hL] at hcu hat hkc
   have HL := Lib.hid hL
   clear hL
   obtain ⟨m, hm⟩ : ∃ m, m = L.length := ⟨_, rfl⟩
   rw [← hm] at hcu hat
   clear hm
   replace hat := hat.ext hE1
   replace hcu := hcu.ext hE1
   obtain ⟨x0, x1, x2, x3, x4, x5, x6, x7⟩ := hat
   have hsz1 := b1.lt
   cases hkey : (M.key.toList == key.toList)
   ·go_wp2_with (((guard_target =~ wpList _ _ _ (Oper.mk none (Op.store _ (Operand.tmp 7) (Operand.tmp 14)) _ _ _ _ :: _) _ _); go_must (refine storeBox rfl 47 (.tmp 7) (.tmp 14) rfl (wr.heap.size) _ _ _ (by rfl) (by rfl) ((BoxAt.made wr (ro8 ⟨⟨#[]⟩, zeroCl, 0, 0, []⟩ (.slice none 0 0)) 47)) (by kernel_rfl) (by rfl) (by simp [Value.oneCell']) ?_); intro w4 c4 g4); have hX4 : Ext wr w4 := ((Ext.refl wr).alloc _).grown g4 (fun q hq => by cases hq; omega); have d4 := c4.ro (r := ⟨M.key, M.live, M.gone, M.shade, []⟩) (v := .slice au m cu))
    go_roundw
    case rel =>
     refine ⟨k + 1, hlt, rfl, b1.ext hX4, hE1.trans hX4, ?_, ?_⟩
     ·show _ = _
      rw [HRk.out, HDR.out, rowOf, if_neg (by rw [hkey]; decide)]
     ·show _ = _
      rw [HBk.out, HDR.out, hasRow, if_neg (by rw [hkey]; decide)]
    case measure => simp [intOf]; omega
   ·have hR : R = M := by rw [HRk.out, HDR.out, rowOf, if_pos hkey]
    have hB : B = true := by rw [HBk.out, HDR.out, hasRow, if_pos hkey]
    rw [hR, hB]
    go_wp2_with (((guard_target =~ wpList _ _ _ (Oper.mk none (Op.store _ (Operand.tmp 7) (Operand.tmp 14)) _ _ _ _ :: _) _ _); go_must (refine storeBox rfl 47 (.tmp 7) (.tmp 14) rfl (wr.heap.size) _ _ _ (by rfl) (by rfl) ((BoxAt.made wr (ro8 ⟨⟨#[]⟩, zeroCl, 0, 0, []⟩ (.slice none 0 0)) 47)) (by kernel_rfl) (by rfl) (by simp [Value.oneCell']) ?_); intro w4 c4 g4); have hX4 : Ext wr w4 := ((Ext.refl wr).alloc _).grown g4 (fun q hq => by cases hq; omega); have d4 := c4.ro (r := ⟨M.key, M.live, M.gone, M.shade, []⟩) (v := .slice au m cu))
    refine (clone_any _ L w4 (hcu.ext hX4) hkc).mono ?_
    rintro e w5 ⟨v5, rfl, hown5, hE5⟩
    obtain ⟨a5, c5', rfl⟩ := own_shape hown5
    have b5 := b1.ext (hX4.trans hE5)
    have r5 : BoxAt w5 wr.heap.size (ro8 ⟨M.key, M.live, M.gone, M.shade, []⟩ (.slice au m cu)) 47 := c4.ext hE5
    have d5 := r5.ro
    have f5 := r5.free 7
    have hX5 := hE1.trans (hX4.trans hE5)
    clear d4 c4 x0 x1 x2 x3 x4 x5 x6 x7
    go_wp2_with (((guard_target =~ wpList _ _ _ (Oper.mk none (Op.store _ (Operand.tmp 4) (Operand.tmp 23)) _ _ _ _ :: _) _ _); go_must (refine storeBox rfl 47 (.tmp 4) (.tmp 23) rfl (w.heap.size + 1) _ _ _ (by rfl) (by rfl) ((b5.other (by omega) _ _)) (by kernel_rfl) (by rfl) (by simp [Value.oneCell']) ?_); intro w6 c6 g6))
    have hownS := own_setCell (u := .slice a5 L.length c5') (i := 7) hown5 (own_ne_box hown5 r5 (by decide))
    have b5s := b5.other (show w.heap.size + 1 ≠ wr.heap.size by omega) 7 (.slice a5 L.length c5')
    have hown6 := hownS.kept g6 (own_ne_box hownS b5s (by decide))
    have hX6 := (hX5.setCell (p := ⟨wr.heap.size, 7, none⟩) (by show w.heap.size ≤ wr.heap.size; omega) (.slice a5 L.length c5')).grown g6 (fun q hq => by cases hq; omega)
    obtain ⟨z0, z1, z2, z3, z4, z5, z6, z7⟩ := c6.ro (r := ⟨M.key, M.live, M.gone, M.shade, []⟩) (v := .slice a5 L.length c5')
    refine bodyPost_ret (v := .tuple #[.agg #[.string M.key, .string M.live.val, .bool M.live.dead, .int .i64 M.live.at_, .int .i64 M.live.fin, .int .i64 M.gone, .int .i64 M.shade, .slice a5 L.length c5'], .bool true]) ?_ rfl ⟨_, by rw [hR, hB], ?_, hX6⟩
    ·simp [results, Tryz.results32, go_sem, z0, z1, z2, z3, z4, z5, z6, z7]
    ·rw [hR, ← HL.out]
     exact TIn.own hown6
  ·have hR : R = ⟨key, zeroCl, 0, 0, []⟩ := by rw [HRk.out, List.drop_eq_nil_of_le (by simp; rw [← HN.out]; omega)]; rfl
   have hB : B = false := by rw [HBk.out, List.drop_eq_nil_of_le (by simp; rw [← HN.out]; omega)]; rfl
   go_wp2_with (((guard_target =~ wpList _ _ _ (Oper.mk none (Op.store _ (Operand.tmp 4) (Operand.tmp 26)) _ _ _ _ :: _) _ _); go_must (refine storeBox rfl 47 (.tmp 4) (.tmp 26) rfl (w.heap.size + 1) _ _ _ (by rfl) (by rfl) (b1) (by kernel_rfl) (by rfl) (by simp [Value.oneCell']) ?_); intro w6 c6 g6))
   obtain ⟨z0, z1, z2, z3, z4, z5, z6, z7⟩ := c6.ro (r := ⟨key, zeroCl, 0, 0, []⟩) (v := .slice none 0 0)
   refine bodyPost_ret (v := .tuple #[.agg #[.string key, .string ⟨#[]⟩, .bool false, .int .i64 0, .int .i64 0, .int .i64 0, .int .i64 0, .slice none 0 0], .bool false]) ?_ rfl ⟨_, by rw [hR, hB]; rfl, ?_, hE1.grown g6 (fun q hq => by cases hq; omega)⟩
   ·simp [results, Tryz.results32, go_sem, z0, z1, z2, z3, z4, z5, z6, z7, zeroCl]
   ·rw [hR]
    exact ColsT.nil _
theorem prow_any (pk : ByteArray) (pg : Int) (pu : Value) (ps : List (Ro × Value)) (key : ByteArray) (w : World) (hin : RowsIn w pu ps) (hcl : ∀ p ∈ ps, p.1.cols.length ≤ 1000000) :
  Calls Tryz.prog 32 #[.agg #[.string pk, .int .i64 pg, pu], .string key] w fun e w' => ∃ v', e = .returned (.tuple #[(.agg #[.string (rowOf (ps.map (·.1)) key).key, .string (rowOf (ps.map (·.1)) key).live.val, .bool (rowOf (ps.map (·.1)) key).live.dead, .int .i64 (rowOf (ps.map (·.1)) key).live.at_, .int .i64 (rowOf (ps.map (·.1)) key).live.fin, .int .i64 (rowOf (ps.map (·.1)) key).gone, .int .i64 (rowOf (ps.map (·.1)) key).shade, v']), .bool (hasRow (ps.map (·.1)) key)]) ∧ ColsIn w' v' (rowOf (ps.map (·.1)) key).cols ∧ Ext w w' :=
 (prow_typed pk pg pu ps key w hin hcl).mono fun _ _ ⟨v', h1, h2, h3⟩ => ⟨v', h1, h2.cols, h3⟩
end Go.Proofs.YtolkhjdododdaaaGreatDoor

/- A view's key split again; clerestorylaw18.awake. (what a smaller cut has) -/
namespace Go.Proofs.YtolkhjdododdaaaGreatDoor
open Go Go.RowKit
attribute [local go_sem] yields yUpon tabV viewV

theorem vkey_list (a b : ByteArray) : (vkey a b).data.toList = txt a.data.toList ++ b.data.toList := by
 unfold vkey
 rw [ByteArray.data_append]
 simp [str]
theorem vkey_size (a b : ByteArray) : (vkey a b).size = (txt a.data.toList).length + b.size := by
 show (vkey a b).data.toList.length = _
 rw [vkey_list, List.length_append]
 rfl
theorem ba_ext {a b : ByteArray} (h : a.data.toList = b.data.toList) : a = b := ByteArray.ext (Array.toList_inj.1 h)
theorem vkey_rest (a b : ByteArray) : (vkey a b).extract (txt a.data.toList).length (vkey a b).size = b := by
 apply ba_ext
 rw [ByteArray.data_extract, Array.toList_extract, vkey_list, vkey_size]
 simp only [List.extract_eq_take_drop, List.drop_left]
 rw [List.take_of_length_le]
 show b.size ≤ _
 omega
theorem split_key (a b : ByteArray) (w : World) (ha : a.size ≤ 1000000) (hb : b.size ≤ 1000000) :
  Calls Tryz.prog 31 #[.string (vkey a b)] w fun e w' => e = .returned (.tuple #[.string a, .string b, .bool true]) ∧ Ext w w' := by
 have hl : (txt a.data.toList).length ≤ 2 * a.size + 2 := txt_length_le a.data.toList
 refine (split_any (vkey a b) w (by rw [vkey_size]; omega)).mono ?_
 rw [vkey_list, getText_key, vkey_rest]
 rintro e w' ⟨h, hE⟩
 rcases h with ⟨h, _⟩ | ⟨_, h⟩
 ·exact absurd rfl h
 ·exact ⟨h, hE⟩
end Go.Proofs.YtolkhjdododdaaaGreatDoor
