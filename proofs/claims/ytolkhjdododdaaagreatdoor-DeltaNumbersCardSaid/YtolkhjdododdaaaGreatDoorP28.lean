/- The reference's views: Mirror. -/
import Derived.Test.YtolkhjdododdaaaGreatDoorP27
import Derived.Test.YtolkhjdododdaaaGreatDoorP26
import Derived.Test.YtolkhjdododdaaaGreatDoorP20
import Derived.Test.YtolkhjdododdaaaGreatDoorP23
import Derived.Test.YtolkhjdododdaaaGreatDoorP12
import Derived.Test.YtolkhjdododdaaaGreatDoorP3
import Derived.Test.YtolkhjdododdaaaGreatDoorP19
set_option linter.unusedSimpArgs false
set_option linter.unusedVariables false
namespace Go.Proofs.YtolkhjdododdaaaGreatDoor
open Go Go.RowKit
attribute [local go_sem] yields yUpon co5 vw5 ro8 pa3 cl4

/-- What mirrors a row, if its key is not too long. -/
def mirF (x : Vw) (ns : List ByteArray) (pk : ByteArray) (pg : Int) (r : Ro) : Option (ByteArray × Ro) := if 400 < (vkey pk r.key).size then none else mirOf x ns pk pg r
theorem mirF_short {x : Vw} {ns : List ByteArray} {pk : ByteArray} {pg : Int} {r : Ro} (h : (vkey pk r.key).size ≤ 400) : mirF x ns pk pg r = mirOf x ns pk pg r := by
 unfold mirF
 rw [if_neg (by omega)]

set_option maxRecDepth 100000 in
set_option maxHeartbeats 8000000 in
theorem mirror18_any (x : Vw) (u : Value) (ns : List ByteArray) (pk : ByteArray) (pg : Int) (pu : Value) (r : Ro) (v : Value) (w : World) (hin : ColsIn w v r.cols) (hlc : r.cols.length ≤ 1000000) (hns : StrsIn w u ns)
  (hk : pk.size ≤ 10000000) (hr : r.key.size ≤ 10000000) :
  Calls Tryz.prog 48 #[.agg #[.string x.name, .int .i64 x.id, .string x.table, .string x.on, u], .agg #[.string pk, .int .i64 pg, pu], (.agg #[.string r.key, .string r.live.val, .bool r.live.dead, .int .i64 r.live.at_, .int .i64 r.live.fin, .int .i64 r.gone, .int .i64 r.shade, v])] w fun e w' =>
   ∃ rv, e = .returned (.tuple #[.agg #[.string (mirK (mirF x ns pk pg r)), .int .i64 0, rv], .bool (mirF x ns pk pg r).isSome]) ∧ ∃ ps, RowsT w' rv ps ∧ ps.map (·.1) = mirR (mirF x ns pk pg r) ∧ Ext w w' := by
 obtain ⟨a0, a1, a2, a3, hE⟩ := boxes4 w (vw5 x u) (pa3 pk pg pu) (ro8 r v) (pa3 ⟨#[]⟩ 0 (.slice none 0 0)) 31 39 47 39
 obtain ⟨key, hkey⟩ : ∃ key, key = vkey pk r.key := ⟨_, rfl⟩
 obtain ⟨B, hB⟩ : ∃ B, B = bestB (cellOf r.cols x.on) (max r.gone pg) := ⟨_, rfl⟩
 obtain ⟨C, hC⟩ : ∃ C, C = bestC (cellOf r.cols x.on) (max r.gone pg) := ⟨_, rfl⟩
 obtain ⟨m, hm⟩ : ∃ m, m = mirF x ns pk pg r := ⟨_, rfl⟩
 have hm0 : B = false → m = none := by
  intro hb
  rw [hm]
  unfold mirF mirOf
  rw [← hB, hb]
  split <;> rfl
 have hm1 : 400 < key.size → m = none := by
  intro hb
  rw [hm]
  unfold mirF
  rw [← hkey, if_pos hb]
 have hm2 : B = true → ¬ 400 < key.size → m = some (C.val, ⟨key, ⟨⟨#[]⟩, false, C.at_, C.fin⟩, max r.gone pg, 0, r.cols.filter (keeps ns)⟩) := by
  intro hb hs
  rw [hm, hC]
  unfold mirF mirOf bestC
  rw [← hkey, if_neg hs, ← hB, hb, if_pos rfl, if_pos rfl]
 rw [← hm]
 have HM0 := Lib.hid hm0
 have HM1 := Lib.hid hm1
 have HM2 := Lib.hid hm2
 have HB := Lib.hid hB
 have HC := Lib.hid hC
 have HK := Lib.hid hkey
 have hin' := hin.ext hE
 have hns' := hns.ext hE
 clear hm hm0 hm1 hm2 hB hC hkey hin hns
 go_enter Tryz.func48, Tryz.ntmps48
 go_wp2_with fail
 refine (best7_any r v pg x.on _ hin').mono ?_
 rw [← HB.out, ← HC.out]
 rintro e w1 ⟨rfl, hE1⟩
 replace a0 := a0.ext hE1
 replace a1 := a1.ext hE1
 replace a2 := a2.ext hE1
 replace a3 := a3.ext hE1
 replace hin' := hin'.ext hE1
 replace hns' := hns'.ext hE1
 replace hE := hE.trans hE1
 clear hE1
 obtain ⟨s3, hs3⟩ : ∃ s, s = w.heap.size + 1 + 1 + 1 := ⟨_, rfl⟩
 go_wp2_with (((guard_target =~ wpList _ _ _ (Oper.mk none (Op.store _ (Operand.tmp 8) (Operand.tmp 19)) _ _ _ _ :: _) _ _); go_must (refine storeBox rfl 44 (.tmp 8) (.tmp 19) rfl (w1.heap.size) _ _ _ (by rfl) (by rfl) ((BoxAt.made w1 (cl4 zeroCl) 44)) (by kernel_rfl) (by rfl) (by simp [Value.oneCell']) ?_); intro w2 c2 g2); have hX2 : Ext w1 w2 := ((Ext.refl w1).alloc _).grown g2 (fun q hq => by cases hq; exact Nat.le_refl _); have y1 := (a1.ext hX2).pa; have z1 := (a2.ext hX2).ro)
 refine (key18_any pk r.key w2 hk hr).mono ?_
 rw [← HK.out]
 rintro e w3 ⟨rfl, rfl⟩
 have b0 := a0.ext hX2
 have b1 := a1.ext hX2
 have b2 := a2.ext hX2
 have b3 := a3.ext hX2
 replace hin' := hin'.ext hX2
 replace hns' := hns'.ext hX2
 replace hE := hE.trans hX2
 have d2 : BoxAt w2 w1.heap.size (cl4 C) 44 := c2
 clear a0 a1 a2 a3 c2 g2 hX2 y1 z1
 obtain ⟨x0, x1, x2, x3⟩ := d2.cl
 obtain ⟨y0, y1, y2⟩ := b1.pa
 obtain ⟨z0, z1, z2, z3, z4, z5, z6, z7⟩ := b2.ro
 obtain ⟨v0, v1, v2, v3, v4⟩ := b0.vw
 by_cases hsz : 400 < key.size
 ·obtain rfl := HM1.out hsz
  have q1 : decide ((400 : Int) < (key.size : Int)) = true := by simp; omega
  cases B
  all_goals
   go_wp2_with (((guard_target =~ wpList _ _ _ (Oper.mk none (Op.store _ (Operand.tmp 6) (Operand.tmp 33)) _ _ _ _ :: _) _ _); go_must (refine storeBox rfl 39 (.tmp 6) (.tmp 33) rfl (w.heap.size + 1 + 1 + 1) _ _ _ (by rfl) (by rfl) (b3) (by kernel_rfl) (by rfl) (by simp [Value.oneCell']) ?_); intro w4 c4 g4))
   obtain ⟨f0, f1, f2⟩ := BoxAt.pa (k := ⟨#[]⟩) (g := 0) (u := .slice none 0 0) c4
   refine bodyPost_ret (v := .tuple #[.agg #[.string ⟨#[]⟩, .int .i64 0, .slice none 0 0], .bool false]) ?_ rfl ⟨.slice none 0 0, rfl, [], RowsT.nil _, rfl, hE.grown g4 (fun q hq => by cases hq; omega)⟩
   simp [results, Tryz.results48, go_sem, f0, f1, f2]
 ·cases B
  ·obtain rfl := HM0.out rfl
   go_wp2_with (((guard_target =~ wpList _ _ _ (Oper.mk none (Op.store _ (Operand.tmp 6) (Operand.tmp 33)) _ _ _ _ :: _) _ _); go_must (refine storeBox rfl 39 (.tmp 6) (.tmp 33) rfl (w.heap.size + 1 + 1 + 1) _ _ _ (by rfl) (by rfl) (b3) (by kernel_rfl) (by rfl) (by simp [Value.oneCell']) ?_); intro w4 c4 g4))
   obtain ⟨f0, f1, f2⟩ := BoxAt.pa (k := ⟨#[]⟩) (g := 0) (u := .slice none 0 0) c4
   refine bodyPost_ret (v := .tuple #[.agg #[.string ⟨#[]⟩, .int .i64 0, .slice none 0 0], .bool false]) ?_ rfl ⟨.slice none 0 0, rfl, [], RowsT.nil _, rfl, hE.grown g4 (fun q hq => by cases hq; omega)⟩
   simp [results, Tryz.results48, go_sem, f0, f1, f2]
  ·obtain rfl := HM2.out rfl hsz
   obtain ⟨L, hL⟩ : ∃ L, L = r.cols.filter (keeps ns) := ⟨_, rfl⟩
   obtain ⟨G, hG⟩ : ∃ G, G = max r.gone pg := ⟨_, rfl⟩
   have HL := Lib.hid hL
   have HG := Lib.hid hG
   clear hL hG HM0 HM1 HM2 HB HC HK
   go_wp2_with fail
   refine wp_region_tab 16 [(9, fun v _ => v = .int .i64 G), (13, fun v y => ColsT y v L), (15, fun v y => ∃ q, v = .pointer (some ⟨q, 0, none⟩) ∧ w2.heap.size ≤ q ∧ BoxAt y q (ro8 ⟨⟨#[]⟩, zeroCl, 0, 0, []⟩ (.slice none 0 0)) 47)] (by kernel_rfl) (by kernel_rfl) (by kernel_rfl) ⟨stays_eq _, fun _ _ _ hE h => h.ext hE, fun _ _ _ hE ⟨q, e, h1, h2⟩ => ⟨q, e, h1, h2.ext hE⟩, trivial⟩ ?_
   replace x2 := held x2
   replace x3 := held x3
   replace y1 := held y1
   replace z0 := held z0
   replace z1 := held z1
   replace z2 := held z2
   replace z3 := held z3
   replace z4 := held z4
   replace z5 := held z5
   replace z6 := held z6
   replace z7 := held z7
   replace v0 := held v0
   replace v1 := held v1
   replace v2 := held v2
   replace v3 := held v3
   replace v4 := held v4
   refine rg_quiet rfl rfl rfl rfl ?_; intro K hK; go_big_quiet_op; go_big_quiet_on
   refine rg_quiet rfl rfl rfl rfl ?_; intro K hK; go_big_quiet_op; go_big_quiet_on
   refine rg_quiet rfl rfl rfl rfl ?_; intro K hK; go_big_quiet_op; go_big_quiet_on
   refine rg_quiet rfl rfl rfl rfl ?_; intro K hK; go_big_quiet_op; go_big_quiet_on
   refine rg_quiet rfl rfl rfl rfl ?_; intro K hK; go_big_quiet_op; go_big_quiet_on
   refine rg_quiet rfl rfl rfl rfl ?_; intro K hK; go_big_quiet_op; go_big_quiet_on
   refine rg_quiet rfl rfl rfl rfl ?_; intro K hK; go_big_quiet_op; go_big_quiet_on
   refine rg_quiet rfl rfl rfl rfl ?_; intro K hK; go_big_quiet_op; go_big_quiet_on
   refine rg_quiet rfl rfl rfl rfl ?_; intro K hK; go_big_quiet_op; go_big_quiet_on
   refine rg_val [] rfl rfl rfl (by kernel_rfl) (fun y hY hf => ?_) ?_
   ·go_simp
    exact (gone7_any r v pg y).mono fun e w' ⟨he, hw⟩ => ⟨_, he, rg_done hY hw (by rw [← HG.out])⟩
   simp only [Act.put, List.setIfInBounds_toArray, List.set_cons_zero, List.set_cons_succ]
   refine rg_quiet rfl rfl rfl rfl ?_; intro K hK; go_big_quiet_op; go_big_quiet_on
   refine rg_quiet rfl rfl rfl rfl ?_; intro K hK; go_big_quiet_op; go_big_quiet_on
   refine rg_quiet rfl rfl rfl rfl ?_; intro K hK; go_big_quiet_op; go_big_quiet_on
   refine rg_fact [] rfl rfl rfl (by kernel_rfl) (fun y hY hf => ?_) (fun v13 y13 hE13 hG13 h13 => ?_)
   ·go_simp
    refine (pick18_any x u ns v r.cols y (hns'.ext hY) (hin'.ext hY) hlc).mono ?_
    rw [← HL.out]
    rintro e y' ⟨v', he, hown', hy⟩
    exact ⟨_, he, rg_doneR hY hy (TIn.own hown')⟩
   obtain ⟨a13, c13, rfl⟩ := TIn.shape h13
   clear hE13 hG13 h13
   simp only [Act.put, List.setIfInBounds_toArray, List.set_cons_zero, List.set_cons_succ]
   refine rg_quiet rfl rfl rfl rfl ?_; intro K hK; go_big_quiet_op; go_big_quiet_on
   refine rg_fact [] rfl rfl rfl (by kernel_rfl) (fun y hY hf => ?_) (fun v15 y15 hE15 hG15 h15 => ?_)
   ·go_simp
    exact rg_doneR hY ((Ext.refl y).alloc _) ⟨_, rfl, hY.le, BoxAt.made y _ _⟩
   obtain ⟨q15, rfl, _⟩ := h15
   clear hE15 hG15
   simp only [Act.put, List.setIfInBounds_toArray, List.set_cons_zero, List.set_cons_succ]
   refine rel_tail rfl rfl fun w5 hE5 hG => ?_
   have hc5 : ColsT w5 (.slice a13 L.length c13) L := (hG 13).1.2 rfl
   obtain ⟨q15', e15, hq15, hbx⟩ := (hG 15).2 rfl
   cases e15
   have b5 := b3.ext hE5
   have hE25 := hE.trans hE5
   have hx5 := (d2.ext hE5).cl
   have hl3 := b3.lt
   have hl2 := d2.lt
   clear hG x0 x1 x2 x3 y0 y1 y2 z0 z1 z2 z3 z4 z5 z6 z7 v0 v1 v2 v3 v4 b0 b1 b2 b3
   obtain ⟨R, hR⟩ : ∃ R : Ro, R = ⟨key, ⟨⟨#[]⟩, false, C.at_, C.fin⟩, G, 0, L⟩ := ⟨_, rfl⟩
   have b6' := b5
   go_wp2_with (first
    | (((guard_target =~ wpList _ _ _ (Oper.mk none (Op.store _ (Operand.tmp 11) (Operand.tmp 48)) _ _ _ _ :: _) _ _); go_must (refine storeBox rfl 47 (.tmp 11) (.tmp 48) rfl (q15) _ _ _ (by rfl) (by rfl) (hbx) (by kernel_rfl) (by rfl) (by simp [Value.oneCell']) ?_); intro w6 c6 g6); have d6 : BoxAt w6 q15 (ro8 ⟨key, ⟨⟨#[]⟩, false, C.at_, C.fin⟩, G, 0, L⟩ (.slice a13 L.length c13)) 47 := c6; have f6 := d6.ro; have b6 := (b5.grown g6 (fun e => by have := Option.some.inj e; omega)); have h6 : BoxAt w6 w1.heap.size (cl4 C) 44 := (d2.ext hE5).grown g6 (fun e => by have := Option.some.inj e; omega); have k6 := h6.cl; have hc6 := hc5.keep g6 hbx (by decide); have hE6 := hE25.grown g6 (fun q hq => by cases hq; omega))
    | (((guard_target =~ wpList _ _ _ (Oper.mk none (Op.store _ (Operand.tmp 6) (Operand.tmp 53)) _ _ _ _ :: _) _ _); go_must (refine storeBox rfl 39 (.tmp 6) (.tmp 53) rfl (w.heap.size + 1 + 1 + 1) _ _ _ (by rfl) (by rfl) ((b6.ext ((Ext.refl w6).alloc _))) (by kernel_rfl) (by rfl) (by simp [Value.oneCell']) ?_); intro w7 c7 g7)))
   have d7 : BoxAt w7 (w.heap.size + 1 + 1 + 1) (pa3 C.val 0 (.slice (some ⟨w6.heap.size, 0, none⟩) 1 1)) 39 := c7
   obtain ⟨f0, f1, f2⟩ := BoxAt.pa (k := C.val) (g := 0) (u := .slice (some ⟨w6.heap.size, 0, none⟩) 1 1) d7
   have hl6 := b6.lt
   have hX := (Ext.refl w6).alloc (.cells (ro8 ⟨key, ⟨⟨#[]⟩, false, C.at_, C.fin⟩, G, 0, L⟩ (.slice a13 L.length c13)) 47)
   have hb7 : BoxAt w7 w6.heap.size (ro8 ⟨key, ⟨⟨#[]⟩, false, C.at_, C.fin⟩, G, 0, L⟩ (.slice a13 L.length c13)) 47 := (BoxAt.made w6 _ _).grown g7 (fun e => by have := Option.some.inj e; omega)
   have hc7 := (hc6.ext hX).keep g7 (b6.ext hX) (by decide)
   have hE7 := (hE6.trans hX).grown g7 (fun q hq => by cases hq; omega)
   refine bodyPost_ret (v := .tuple #[.agg #[.string C.val, .int .i64 0, .slice (some ⟨w6.heap.size, 0, none⟩) 1 1], .bool true]) ?_ rfl ⟨_, rfl, _, RowsT.one hb7 hc7, ?_, hE7⟩
   ·simp [results, Tryz.results48, go_sem, f0, f1, f2]
   ·show [_] = [_]
    rw [HL.out, HG.out]
end Go.Proofs.YtolkhjdododdaaaGreatDoor

/- clerestoryref08.Join. -/
namespace Go.Proofs.YtolkhjdododdaaaGreatDoor
open Go Go.RowKit
attribute [local go_sem] yields yUpon ro8 pa3

theorem foldRo_cols (a b : Ro) : (foldRo a b).cols.length ≤ a.cols.length + b.cols.length := foldG_len keyC joinCo a.cols b.cols
theorem put_cols {l : List Ro} {r : Ro} {N : Nat} (hl : ∀ p ∈ l, p.cols.length ≤ N) (hr : r.cols.length ≤ 1000) (hN : 1000 ≤ N) : ∀ p ∈ mergeG keyR foldRo l [r], p.cols.length ≤ N + 1000 := by
 intro p hp
 rcases mem_mergeI hp with h | h | ⟨a, ha, b, hb, _, rfl⟩
 ·have := hl p h; omega
 ·rw [List.mem_singleton.1 h]; omega
 ·rw [List.mem_singleton.1 hb]
  have := foldRo_cols a r
  have := hl a ha
  omega

set_option maxRecDepth 100000 in
set_option maxHeartbeats 8000000 in
theorem join8_any (k k' : ByteArray) (g g' : Int) (u u' : Value) (ps ps' : List (Ro × Value)) (w : World) (h : RowsIn w u ps) (h' : RowsIn w u' ps') (hlen : ps.length ≤ 1000) (hlen' : ps'.length ≤ 100) (hcl : ∀ p ∈ ps, p.1.cols.length ≤ 1000) (hcl' : ∀ p ∈ ps', p.1.cols.length ≤ 1000) :
  Calls Tryz.prog 10 #[.agg #[.string k, .int .i64 g, u], .agg #[.string k', .int .i64 g', u']] w fun e w' => JoinPost w k (max g g') (foldG keyR foldRo (ps.map (·.1)) (ps'.map (·.1))) e w' := by
 obtain ⟨a0, a1, a2, hE⟩ := boxes3 w (pa3 k g u) (pa3 k' g' u') (pa3 ⟨#[]⟩ 0 (.slice none 0 0)) 39 39 39
 obtain ⟨J, hJ⟩ : ∃ J, J = foldG keyR foldRo (ps.map (·.1)) (ps'.map (·.1)) := ⟨_, rfl⟩
 rw [← hJ]
 have HJ := Lib.hid hJ
 clear hJ
 obtain ⟨mg, hmg⟩ : ∃ mg, mg = max g g' := ⟨_, rfl⟩
 rw [← hmg]
 have HMG := Lib.hid hmg
 clear hmg
 have h0 := h.ext hE
 obtain ⟨a, c, rfl, _⟩ := h.get
 obtain ⟨ab, cb, rfl, hcb, hcbm, hget⟩ := h'.get
 obtain ⟨m, hm⟩ : ∃ m, m = ps.length := ⟨_, rfl⟩
 obtain ⟨n, hn⟩ : ∃ n, n = ps'.length := ⟨_, rfl⟩
 rw [← hm] at a0 a1 a2 hE h0 hlen
 rw [← hm]
 rw [← hn] at a0 a1 a2 hE h0 h' hlen' hcb
 rw [← hn]
 have HGET := Lib.hid hget
 have HM := Lib.hid hm
 have HN := Lib.hid hn
 have HCL := Lib.hid hcl
 have HCL2 := Lib.hid hcl'
 clear hget hm hn hcl hcl' h
 go_enter Tryz.func10, Tryz.ntmps10
 go_wp2_with fail
 refine (copy8_any k g _ ps _ h0 (by have := HM.out; omega) (fun p hp => by have := HCL.out p hp; omega)).mono ?_
 rintro e w1 ⟨v1, rfl, qs1, hq1, hm1, hE1⟩
 obtain ⟨a1', c1', rfl⟩ := hq1.shape
 have b0 := a0.ext hE1
 have b1 := a1.ext hE1
 have b2 := a2.ext hE1
 have hX1 := hE.trans hE1
 clear a0 a1 a2 hE hE1 h0
 have hsz1 := b2.lt
 go_wp2_with (first
  | (((guard_target =~ wpList _ _ _ (Oper.mk none (Op.store _ (Operand.tmp 6) (Operand.tmp 9)) _ _ _ _ :: _) _ _); go_must (refine storeBox rfl 39 (.tmp 6) (.tmp 9) rfl (w1.heap.size) _ _ _ (by rfl) (by rfl) ((BoxAt.made w1 (pa3 ⟨#[]⟩ 0 (.slice none 0 0)) 39)) (by kernel_rfl) (by rfl) (by simp [Value.oneCell']) ?_); intro w4 c4 g4); have hX14 : Ext w1 w4 := ((Ext.refl w1).alloc _).grown g4 (fun q hq => by cases hq; omega); have d0 := b0.ext hX14; have d1 := b1.ext hX14; have d2 := b2.ext hX14; have z0 : w4.cell? ⟨w.heap.size, 1, none⟩ = some (.int .i64 g) := d0.cell 1; have z1 : w4.cell? ⟨w.heap.size + 1, 1, none⟩ = some (.int .i64 g') := d1.cell 1; have z2 : w4.cell? ⟨w1.heap.size, 1, none⟩ = some (.int .i64 g) := BoxAt.cell c4 1; have zf := BoxAt.free c4 1))
 rw [← HMG.out]
 obtain ⟨q, hq⟩ : ∃ q, q = w1.heap.size := ⟨_, rfl⟩
 rw [← hq]
 rw [← hq] at c4 g4 hsz1
 have hwq : w.heap.size + 1 + 1 < q := hsz1
 obtain ⟨wA, hwA⟩ : ∃ wA, wA = w4.setCell ⟨q, 1, none⟩ (.int .i64 mg) := ⟨_, rfl⟩
 have e1 : BoxAt wA (w.heap.size + 1) (pa3 k' g' (.slice ab n cb)) 39 := by rw [hwA]; exact d1.other (by omega) 1 _
 have e2 : BoxAt wA (w.heap.size + 1 + 1) (pa3 ⟨#[]⟩ 0 (.slice none 0 0)) 39 := by rw [hwA]; exact d2.other (by omega) 1 _
 have e3 : BoxAt wA q (pa3 k mg (.slice a1' qs1.length c1')) 39 := by rw [hwA]; exact BoxAt.set c4 1 _
 have eX : Ext w wA := by rw [hwA]; exact (hX1.trans hX14).setCell (p := ⟨q, 1, none⟩) (by show w.heap.size ≤ q; omega) _
 have eR : RowsT wA (.slice a1' qs1.length c1') qs1 := by rw [hwA]; exact RowsT.set 1 _ c4 (by decide) (by decide) (hq1.ext hX14)
 rw [← hwA]
 clear hwA z0 z1 z2 zf c4 g4 d0 d1 d2 hX14 hX1 b0 b1 b2 hq1 hq hsz1
 go_loopw [7] (fun i wr => ∃ (j : Nat) (vc : Value) (qs : List (Ro × Value)), j ≤ n ∧ i = .int .i64 j ∧ BoxAt wr q (pa3 k mg vc) 39 ∧ BoxAt wr (w.heap.size + 1) (pa3 k' g' (.slice ab n cb)) 39 ∧ BoxAt wr (w.heap.size + 1 + 1) (pa3 ⟨#[]⟩ 0 (.slice none 0 0)) 39 ∧ RowsT wr vc qs ∧ Hid (qs.map (·.1) = foldG keyR foldRo (ps.map (·.1)) ((ps'.map (·.1)).take j)) ∧ Hid (∀ p ∈ qs.map (·.1), p.cols.length ≤ 1000 * (j + 1)) ∧ Ext w wr) (fun i _ => n - (intOf i).toNat)
 case atStart =>
  refine ⟨0, _, qs1, Nat.zero_le _, rfl, e3, e1, e2, eR, ?_, ?_, eX⟩
  ·show _ = _
   rw [hm1, List.take_zero]
   rfl
  ·show ∀ p ∈ qs1.map (·.1), _
   rw [hm1]
   intro p hp
   obtain ⟨x, hx, rfl⟩ := List.mem_map.1 hp
   have := HCL.out x hx
   omega
 case round =>
  obtain ⟨j, vc, qs, hj, rfl, hbq, hb1, hb2, hqs, HQ, HB, hE⟩ := hrel
  have hql : qs.length ≤ m + j := by
   have := congrArg List.length HQ.out
   have h2 := foldG_len keyR foldRo (ps.map (·.1)) ((ps'.map (·.1)).take j)
   rw [List.length_map, List.length_take] at h2
   rw [List.length_map] at this
   have := HM.out
   omega
  have q2 : wr.cell? ⟨q, 2, none⟩ = some vc := hbq.cell 2
  have f2 : wr.cell? ⟨w.heap.size + 1, 2, none⟩ = some (.slice ab n cb) := hb1.cell 2
  obtain ⟨av, cv, rfl⟩ := hqs.shape
  by_cases hlt : j < n
  ·have t1 : decide ((j : Int) < (n : Int)) = true := by simp; omega
   have hjp : j < ps'.length := by rw [← HN.out]; exact hlt
   obtain ⟨bb, oo, rfl, hat⟩ := HGET.out j hjp
   obtain ⟨r, hr⟩ : ∃ r, r = ps'[j].1 := ⟨_, rfl⟩
   obtain ⟨vr, hvr⟩ : ∃ v, v = ps'[j].2 := ⟨_, rfl⟩
   have hct : ColsIn w vr r.cols := by rw [hr, hvr]; exact h'.cols _ (List.getElem_mem hjp)
   have hrl : r.cols.length ≤ 1000 := by rw [hr]; exact HCL2.out _ (List.getElem_mem hjp)
   have hrow : (ps'.map (·.1)).take (j + 1) = (ps'.map (·.1)).take j ++ [r] := by
    rw [List.take_succ_eq_append_getElem (by rw [List.length_map]; exact hjp), List.getElem_map, hr]
   rw [← hr, ← hvr] at hat
   have HROW := Lib.hid hrow
   clear hr hvr hrow
   obtain ⟨ar, cr, rfl⟩ := hct.shape
   obtain ⟨y0, y1, y2, y3, y4, y5, y6, y7⟩ := hat.ext hE
   obtain ⟨Jm, hJm⟩ : ∃ Jm, Jm = mergeG keyR foldRo (qs.map (·.1)) [r] := ⟨_, rfl⟩
   have HJM := Lib.hid hJm
   clear hat hJm
   go_wp2_with fail
   refine wp_region_tab 9 [(7, fun v x => ∃ qs', RowsT x v qs' ∧ Hid (qs'.map (·.1) = Jm))] (by kernel_rfl) (by kernel_rfl) (by kernel_rfl) ⟨fun _ _ _ hE ⟨qs', h, h'⟩ => ⟨qs', h.ext hE, h'⟩, trivial⟩ ?_
   replace q2 := held q2
   replace f2 := held f2
   replace y0 := held y0
   replace y1 := held y1
   replace y2 := held y2
   replace y3 := held y3
   replace y4 := held y4
   replace y5 := held y5
   replace y6 := held y6
   replace y7 := held y7
   refine rg_quiet rfl rfl rfl rfl ?_; intro K hK; go_big_quiet_op; go_big_quiet_on
   refine rg_quiet rfl rfl rfl rfl ?_; intro K hK; go_big_quiet_op; go_big_quiet_on
   refine rg_quiet rfl rfl rfl rfl ?_; intro K hK; go_big_quiet_op; go_big_quiet_on
   refine rg_quiet rfl rfl rfl rfl ?_; intro K hK; go_big_quiet_op; go_big_quiet_on
   refine rg_quiet rfl rfl rfl rfl ?_; intro K hK; go_big_quiet_op; go_big_quiet_on
   refine rg_quiet rfl rfl rfl rfl ?_; intro K hK; go_big_quiet_op; go_big_quiet_on
   refine rg_quiet rfl rfl rfl rfl ?_; intro K hK; go_big_quiet_op; go_big_quiet_on
   refine rg_fact [] rfl rfl rfl (by kernel_rfl) (fun y hEy hf => ?_) (fun v9 y9 hE9 hG9 h9 => ?_)
   ·go_simp
    refine (put8_any _ qs r _ y (hqs.ext hEy) (hct.ext (hE.trans hEy)) (by omega) (fun p hp => by have := HB.out p.1 (List.mem_map_of_mem hp); omega) (by omega)).mono ?_
    rintro e y' ⟨v', rfl, qs', h1, h2, hE'⟩
    rw [← HJM.out] at h2
    exact ⟨_, rfl, rg_doneR hEy hE' ⟨qs', h1, h2⟩⟩
   obtain ⟨qs9, h9, _⟩ := h9
   obtain ⟨a9, c9, rfl⟩ := h9.shape
   clear hE9 hG9 h9
   simp only [Act.put, List.setIfInBounds_toArray, List.set_cons_zero, List.set_cons_succ]
   refine rg_quiet rfl rfl rfl rfl ?_; intro K hK; go_big_quiet_op; go_big_quiet_on
   refine rel_tail rfl rfl fun w7 hE7 hG => ?_
   obtain ⟨qs', hqs', HQ'⟩ := (hG 7).2 rfl
   have hbq7 := hbq.ext hE7
   have qf := hbq7.free 2
   have qc : w7.cell? ⟨q, 2, none⟩ = some (.slice av qs.length cv) := hbq7.cell 2
   clear hG q2 f2 y0 y1 y2 y3 y4 y5 y6 y7 hbq
   go_wp2_with fail
   go_roundw
   case rel =>
    refine ⟨j + 1, _, qs', by omega, by go_num, hbq7.set 2 _, (hb1.ext hE7).other (by omega) 2 _, (hb2.ext hE7).other (by omega) 2 _, RowsT.set 2 _ hbq7 (by decide) (by decide) hqs', ?_, ?_, (hE.trans hE7).setCell (p := ⟨q, 2, none⟩) (by show w.heap.size ≤ q; omega) _⟩
    ·show _ = _
     rw [HQ'.out, HJM.out, HQ.out, HROW.out, foldG_snoc]
    ·show ∀ p ∈ qs'.map (·.1), _
     rw [HQ'.out, HJM.out]
     intro p hp
     have := put_cols HB.out hrl (by omega) p hp
     omega
   case measure => simp [intOf]; omega
  ·obtain rfl : j = n := by omega
   have hqJ : qs.map (·.1) = J := by rw [HQ.out, HJ.out, List.take_of_length_le (by rw [List.length_map, ← HN.out]; exact Nat.le_refl _)]
   have hqn : qs.length = J.length := by rw [← hqJ, List.length_map]
   have HQN := Lib.hid hqn
   clear hqn
   obtain ⟨z0, z1, z2⟩ := hbq.pa
   clear q2
   by_cases h100 : qs.length ≤ 100
   ·go_wp2_with ((guard_target =~ wpList _ _ _ (Oper.mk none (Op.store _ (Operand.tmp 4) (Operand.tmp 37)) _ _ _ _ :: _) _ _); go_must (refine storeBox rfl 39 (.tmp 4) (.tmp 37) rfl (w.heap.size + 1 + 1) _ _ _ (by rfl) (by rfl) (hb2) (by kernel_rfl) (by rfl) (by simp [Value.oneCell']) ?_); intro w8 c8 g8)
    have hX8 := hE.grown g8 (fun q hq => by cases hq; omega)
    have hrows := hqs.keep g8 hb2 (by decide) (by decide)
    clear z0 z1 z2
    obtain ⟨z0, z1, z2⟩ := BoxAt.pa (k := k) (g := mg) (u := .slice av qs.length cv) c8
    refine bodyPost_ret (v := .tuple #[.agg #[.string k, .int .i64 mg, .slice av qs.length cv], .bool true]) ?_ rfl ⟨hX8, .inl ⟨by have := HQN.out; omega, _, rfl, qs, hrows, hqJ⟩⟩
    simp [results, Tryz.results10, go_sem, Act.put, z0, z1, z2]
   ·have t1 : decide ((100 : Int) < (qs.length : Int)) = true := by simp; omega
    go_wp2_with ((guard_target =~ wpList _ _ _ (Oper.mk none (Op.store _ (Operand.tmp 4) (Operand.tmp 36)) _ _ _ _ :: _) _ _); go_must (refine storeBox rfl 39 (.tmp 4) (.tmp 36) rfl (w.heap.size + 1 + 1) _ _ _ (by rfl) (by rfl) (hb2) (by kernel_rfl) (by rfl) (by simp [Value.oneCell']) ?_); intro w8 c8 g8)
    have hX8 := hE.grown g8 (fun q hq => by cases hq; omega)
    clear z0 z1 z2
    obtain ⟨z0, z1, z2⟩ := BoxAt.pa (k := ⟨#[]⟩) (g := 0) (u := .slice none 0 0) c8
    refine bodyPost_ret (v := .tuple #[.agg #[.string ⟨#[]⟩, .int .i64 0, .slice none 0 0], .bool false]) ?_ rfl ⟨hX8, .inr ⟨by have := HQN.out; omega, rfl⟩⟩
    simp [results, Tryz.results10, go_sem, Act.put, z0, z1, z2]
end Go.Proofs.YtolkhjdododdaaaGreatDoor

/- The reference's Join of rows, of columns that lie anywhere. -/
namespace Go.Proofs.YtolkhjdododdaaaGreatDoor
open Go Go.RowKit
attribute [local go_sem] yields yUpon ro8

section
variable {P : Program} {a : Act} {w : World} {o : Oper}
/-- append([]T(nil), s...) of any slice in memory, in a region. -/
theorem yields_cloneS {Tt e : TypeId} {z : Value} {size bytes : Nat} (info : (P.info? e).map (fun i => (i.zero, i.size, i.bytes)) = some (some z, size, bytes)) (und : P.underlying Tt = some (.slice e)) (hzs : z.cells.size = size) (hsz : 0 < size) (s x : Operand)
  (hop : o.op = Op.call { callee := Callee.builtin Builtin.append, args := #[s, x], argTypes := #[Tt, Tt] }) (hs : a.eval s = .slice none 0 0) {u : Value} {m : Nat} {xs : List Value} (hin : SliceIn w u m xs) (hx : a.eval x = u)
  (hl : xs.length = m * size) (h1 : ∀ u ∈ xs, u.oneCell' = true) (h63 : m ≤ maxLen) (hb : m * bytes ≤ 140737488355328) {R : Value → World → Prop}
  (hR : ∀ v' w', w'.ownsRow w.heap.size e size v' m xs → Ext w w' → R v' w') : yields P o a w R := by
 obtain ⟨i0, hi, hz0, hz1, hz2⟩ := info_parts info
 obtain ⟨ao, c, rfl, hc, hcm, ha, hcell⟩ := hin
 cases ao with
 | none =>
  have hc0 := ha rfl
  obtain rfl : m = 0 := by omega
  obtain rfl : xs = [] := List.eq_nil_of_length_eq_zero (by omega)
  subst hc0
  have hr := run_append_owned_none (P := P) (w := w) w.heap.size Tt o.type e i0 size und hi (.slice none 0 0) 0 [] (World.ownsRow_nil _ _ _ _)
  unfold yields execOp
  simp only [hop, resolve, invoke, builtin, Sem.run_bind, Sem.run_pure, Result.andThen_ok, List.map_toArray, List.map_cons, List.map_nil, hs, hx, hr]
  exact hR _ _ (World.ownsRow_nil _ _ _ _) (Ext.refl w)
 | some ad =>
  obtain ⟨v', w', hr, h2, h3, _⟩ := run_append_own (P := P) w w.heap.size Tt o.type e i0 z size bytes und hi hz0 hz1 hz2 hzs hsz (.slice none 0 0) 0 [] (World.ownsRow_nil _ _ _ _) ad m c xs hl (fun j u hj => by
   obtain ⟨b, o, e, h⟩ := hcell j u hj
   cases e
   rw [Addr.add_lit]
   exact h) h1 (by omega) (by rw [Nat.zero_add]; exact hb) (Nat.le_refl _)
  unfold yields execOp
  simp only [hop, resolve, invoke, builtin, Sem.run_bind, Sem.run_pure, Result.andThen_ok, List.map_toArray, List.map_cons, List.map_nil, hs, hx, hr]
  rw [Nat.zero_add, List.nil_append] at h2
  exact hR v' w' h2 ((Ext.refl w).grown h3 (fun q hq => by cases hq))
end

set_option maxRecDepth 100000 in
set_option maxHeartbeats 8000000 in
theorem join7_in (a b : Ro) (va vb : Value) (w : World) (ha : ColsIn w va a.cols) (hb : ColsIn w vb b.cols) (hlen : a.cols.length + b.cols.length ≤ 300000) :
  Calls Tryz.prog 45 #[(.agg #[.string a.key, .string a.live.val, .bool a.live.dead, .int .i64 a.live.at_, .int .i64 a.live.fin, .int .i64 a.gone, .int .i64 a.shade, va]), (.agg #[.string b.key, .string b.live.val, .bool b.live.dead, .int .i64 b.live.at_, .int .i64 b.live.fin, .int .i64 b.gone, .int .i64 b.shade, vb])] w fun e w' => ∃ v', e = .returned (.agg #[.string (foldRo a b).key, .string (foldRo a b).live.val, .bool (foldRo a b).live.dead, .int .i64 (foldRo a b).live.at_, .int .i64 (foldRo a b).live.fin, .int .i64 (foldRo a b).gone, .int .i64 (foldRo a b).shade, v']) ∧ ColsT w' v' (foldRo a b).cols ∧ Ext w w' := by
 obtain ⟨a0, a1, a2, hE⟩ := boxes3 w (ro8 a va) (ro8 b vb) (ro8 ⟨⟨#[]⟩, zeroCl, 0, 0, []⟩ (.slice none 0 0)) 47 47 47
 have ha' := ha.ext hE
 have hb' := hb.ext hE
 obtain ⟨c, hc⟩ : ∃ c, c = joinCl a.live b.live := ⟨_, rfl⟩
 obtain ⟨g, hg⟩ : ∃ g, g = max a.gone b.gone := ⟨_, rfl⟩
 obtain ⟨s, hs⟩ : ∃ s, s = max a.shade b.shade := ⟨_, rfl⟩
 have Hc := Lib.hid hc
 have Hg := Lib.hid hg
 have Hs := Lib.hid hs
 obtain ⟨L, hL⟩ : ∃ L, L = foldG keyC joinCo a.cols b.cols := ⟨_, rfl⟩
 have HL := Lib.hid hL
 unfold foldRo
 rw [← hc, ← hg, ← hs, ← hL]
 clear hc hg hs hL ha
 obtain ⟨aa, ca, rfl⟩ := ha'.shape
 obtain ⟨ab, cb, rfl, hcb, hcbm, hget⟩ := hb.get
 obtain ⟨m, hm⟩ : ∃ m, m = a.cols.length := ⟨_, rfl⟩
 obtain ⟨n, hn⟩ : ∃ n, n = b.cols.length := ⟨_, rfl⟩
 rw [← hm, ← hn] at hlen
 rw [← hm] at a0 hE ha' hb' a1 a2
 rw [← hm]
 rw [← hn] at a0 a1 a2 hE ha' hb' hb hcb
 rw [← hn]
 have HGET := Lib.hid hget
 have HM := Lib.hid hm
 have HN := Lib.hid hn
 clear hget hm hn
 go_enter Tryz.func45, Tryz.ntmps45
 go_wp2_with fail
 obtain ⟨B, hB⟩ : ∃ B, B = w.heap.size + 1 + 1 + 1 := ⟨_, rfl⟩
 have hBs := Nat.le_trans (Nat.le_of_eq hB) (Nat.succ_le_of_lt a2.lt)
 have hB2 : w.heap.size + 1 + 1 < B := by omega
 clear hB
 refine wp_region_in 22 [(6, fun v _ => v = (.agg #[.string c.val, .bool c.dead, .int .i64 c.at_, .int .i64 c.fin])), (11, fun v _ => v = .int .i64 g), (16, fun v _ => v = .int .i64 s), (19, fun v x => x.ownsRow B 69 5 v m (coCells a.cols)), (21, fun v x => ∃ q, v = .pointer (some ⟨q, 0, none⟩) ∧ B ≤ q ∧ BoxAt x q (ro8 ⟨⟨#[]⟩, zeroCl, 0, 0, []⟩ (.slice none 0 0)) 47)] (fun w0 => BoxAt w0 w.heap.size (ro8 a (.slice aa m ca)) 47 ∧ BoxAt w0 (w.heap.size + 1) (ro8 b (.slice ab n cb)) 47 ∧ BoxAt w0 (w.heap.size + 1 + 1) (ro8 ⟨⟨#[]⟩, zeroCl, 0, 0, []⟩ (.slice none 0 0)) 47 ∧ ColsIn w0 (.slice aa m ca) a.cols ∧ ColsIn w0 (.slice ab n cb) b.cols ∧ Ext w w0 ∧ B ≤ w0.heap.size) (by kernel_rfl) (by kernel_rfl) (by kernel_rfl) ⟨stays_eq _, stays_eq _, stays_eq _, fun _ _ _ hE h => ownsRow_ext h hE, fun _ _ _ hE ⟨q, e, h1, h2⟩ => ⟨q, e, h1, h2.ext hE⟩, trivial⟩ ⟨a0, a1, a2, ha', hb', hE, hBs⟩ ?_
 clear a0 a1 a2 hE ha' hb' hBs
 rintro w2 ⟨c0, c1, c2, ha', hb', hE, hBw⟩
 have FIN : Hid (∀ wx, Ext w2 wx → BoxAt wx (w.heap.size + 1) (ro8 b (.slice ab n cb)) 47 ∧ BoxAt wx (w.heap.size + 1 + 1) (ro8 ⟨⟨#[]⟩, zeroCl, 0, 0, []⟩ (.slice none 0 0)) 47 ∧ ColsIn wx (.slice ab n cb) b.cols ∧ Ext w wx) := fun wx h => ⟨c1.ext h, c2.ext h, hb'.ext h, hE.trans h⟩
 obtain ⟨x0, x1, x2, x3, x4, x5, x6, x7⟩ := c0.ro
 obtain ⟨y0, y1, y2, y3, y4, y5, y6, y7⟩ := c1.ro
 clear c0 c1 c2 hE hb' y7 y0
 replace x0 := held x0
 replace x1 := held x1
 replace x2 := held x2
 replace x3 := held x3
 replace x4 := held x4
 replace x5 := held x5
 replace x6 := held x6
 replace x7 := held x7
 replace y1 := held y1
 replace y2 := held y2
 replace y3 := held y3
 replace y4 := held y4
 replace y5 := held y5
 replace y6 := held y6
 refine rg_quiet rfl rfl rfl rfl ?_; intro K hK; go_big_quiet_op; go_big_quiet_on
 refine rg_quiet rfl rfl rfl rfl ?_; intro K hK; go_big_quiet_op; go_big_quiet_on
 refine rg_quiet rfl rfl rfl rfl ?_; intro K hK; go_big_quiet_op; go_big_quiet_on
 refine rg_quiet rfl rfl rfl rfl ?_; intro K hK; go_big_quiet_op; go_big_quiet_on
 refine rg_quiet rfl rfl rfl rfl ?_; intro K hK; go_big_quiet_op; go_big_quiet_on
 refine rg_quiet rfl rfl rfl rfl ?_; intro K hK; go_big_quiet_op; go_big_quiet_on
 refine rg_val [] rfl rfl rfl (by kernel_rfl) (fun y hE hf => ?_) ?_
 ·go_simp
  exact (rjoin_c a.live.val a.live.dead a.live.at_ a.live.fin b.live.val b.live.dead b.live.at_ b.live.fin y).mono fun e w' ⟨he, hw⟩ => ⟨_, he, rg_done hE hw (by rw [Hc.out])⟩
 simp only [Act.put, List.setIfInBounds_toArray, List.set_cons_zero, List.set_cons_succ]
 refine rg_quiet rfl rfl rfl rfl ?_; intro K hK; go_big_quiet_op; go_big_quiet_on
 refine rg_quiet rfl rfl rfl rfl ?_; intro K hK; go_big_quiet_op; go_big_quiet_on
 refine rg_quiet rfl rfl rfl rfl ?_; intro K hK; go_big_quiet_op; go_big_quiet_on
 refine rg_quiet rfl rfl rfl rfl ?_; intro K hK; go_big_quiet_op; go_big_quiet_on
 refine rg_val [] rfl rfl rfl (by kernel_rfl) (fun w1 hE hf => ?_) ?_
 ·go_simp
  exact rg_done hE (Ext.refl w1) (by rw [Hg.out])
 simp only [Act.put, List.setIfInBounds_toArray, List.set_cons_zero, List.set_cons_succ]
 refine rg_quiet rfl rfl rfl rfl ?_; intro K hK; go_big_quiet_op; go_big_quiet_on
 refine rg_quiet rfl rfl rfl rfl ?_; intro K hK; go_big_quiet_op; go_big_quiet_on
 refine rg_quiet rfl rfl rfl rfl ?_; intro K hK; go_big_quiet_op; go_big_quiet_on
 refine rg_quiet rfl rfl rfl rfl ?_; intro K hK; go_big_quiet_op; go_big_quiet_on
 refine rg_val [] rfl rfl rfl (by kernel_rfl) (fun w1 hE hf => ?_) ?_
 ·go_simp
  exact rg_done hE (Ext.refl w1) (by rw [Hs.out])
 simp only [Act.put, List.setIfInBounds_toArray, List.set_cons_zero, List.set_cons_succ]
 refine rg_quiet rfl rfl rfl rfl ?_; intro K hK; go_big_quiet_op; go_big_quiet_on
 refine rg_quiet rfl rfl rfl rfl ?_; intro K hK; go_big_quiet_op; go_big_quiet_on
 refine rg_fact [] rfl rfl rfl (by kernel_rfl) (fun y hE hf => ?_) (fun v19 y19 hE19 hG19 h19 => ?_)
 ·refine yields_cloneS info_Col und_Cols rfl (by decide) (.const (.slice none 0 0)) (.tmp 25) rfl (by rfl) (ha'.ext hE) (by rfl) (coCells_length _) (coCells_one _) (by unfold maxLen; have := HM.out; omega) (by have := HM.out; omega) ?_
  intro v' w' h1 h2
  rw [← HM.out] at h1
  exact rg_doneR hE h2 (own_mono (Nat.le_trans hBw hE.le) h1)
 obtain ⟨a19, c19, rfl⟩ := own_shape h19
 clear hE19 hG19 h19
 simp only [Act.put, List.setIfInBounds_toArray, List.set_cons_zero, List.set_cons_succ]
 refine rg_quiet rfl rfl rfl rfl ?_; intro K hK; go_big_quiet_op; go_big_quiet_on
 refine rg_fact [] rfl rfl rfl (by kernel_rfl) (fun y hE hf => ?_) (fun v5 yy hE5 hG5 h5 => ?_)
 ·go_simp
  exact rg_doneR hE ((Ext.refl y).alloc _) ⟨_, rfl, Nat.le_trans hBw hE.le, BoxAt.made y _ _⟩
 obtain ⟨q5, rfl, hq5, _⟩ := h5
 clear hE5 hG5
 simp only [Act.put, List.setIfInBounds_toArray, List.set_cons_zero, List.set_cons_succ]
 refine rel_tail rfl rfl fun w5 hE5 hG => ?_
 have hown := (hG 19).1.2 rfl
 obtain ⟨q5', e5, _, hbq⟩ := (hG 21).2 rfl
 cases e5
 obtain ⟨c1, c2, hb5, hE⟩ := FIN.out w5 hE5
 clear x0 x1 x2 x3 x4 x5 x6 x7 y1 y2 y3 y4 y5 y6 hE5 hG FIN ha'
 clear hb5
 go_wp2_with (((guard_target =~ wpList _ _ _ (Oper.mk none (Op.store _ (Operand.tmp 5) (Operand.tmp 27)) _ _ _ _ :: _) _ _); go_must (refine storeBox rfl 47 (.tmp 5) (.tmp 27) rfl (q5) _ _ _ (by rfl) (by rfl) (hbq) (by kernel_rfl) (by rfl) (by simp [Value.oneCell']) ?_); intro w6 c6 g6); have hown6 := hown.kept g6 (own_ne_box hown hbq (by decide)); have d1 := c1.grown g6 (fun e => by have := Option.some.inj e; omega); have d2 := c2.grown g6 (fun e => by have := Option.some.inj e; omega); have hX6 := hE.grown g6 (fun q hq => by cases hq; omega))
 clear hown hbq c1 c2 hE g6
 go_loopw [6] (fun i wr => ∃ (k : Nat) (Lc : List Co) (vc : Value), k ≤ n ∧ i = .int .i64 k ∧ BoxAt wr q5 (ro8 ⟨a.key, c, g, s, []⟩ vc) 47 ∧ BoxAt wr (w.heap.size + 1) (ro8 b (.slice ab n cb)) 47 ∧ BoxAt wr (w.heap.size + 1 + 1) (ro8 ⟨⟨#[]⟩, zeroCl, 0, 0, []⟩ (.slice none 0 0)) 47 ∧ ColsT wr vc Lc ∧ Hid (Lc = foldG keyC joinCo a.cols (b.cols.take k)) ∧ Ext w wr) (fun i _ => n - (intOf i).toNat)
 case atStart =>
  refine ⟨0, a.cols, _, Nat.zero_le _, rfl, c6, d1, d2, ?_, ?_, hX6⟩
  ·unfold ColsT
   rw [← HM.out]
   exact TIn.own hown6
  ·show _ = _
   rw [List.take_zero]
   rfl
 case round =>
  obtain ⟨k, Lc, vc, hk, rfl, hbq, hb1, hb2, hcs, HLC, hE⟩ := hrel
  have hLl : Lc.length ≤ m + k := by
   rw [HLC.out]
   have := foldG_len keyC joinCo a.cols (b.cols.take k)
   rw [List.length_take] at this
   have := HM.out
   omega
  have q7 := hbq.cell 7
  simp [ro8] at q7
  have e7 := hb1.cell 7
  simp [ro8] at e7
  obtain ⟨av, cv, rfl⟩ := TIn.shape hcs
  by_cases hlt : k < n
  ·have t1 : decide ((k : Int) < (n : Int)) = true := by simp; omega
   have hkb : k < b.cols.length := by rw [← HN.out]; exact hlt
   obtain ⟨bb, oo, rfl, hat⟩ := HGET.out k hkb
   obtain ⟨y0, y1, y2, y3, y4⟩ := hat.ext hE
   obtain ⟨d, hd⟩ : ∃ d, d = b.cols[k] := ⟨_, rfl⟩
   rw [← hd] at y0 y1 y2 y3 y4
   have HD := Lib.hid hd
   obtain ⟨Lm, hLm⟩ : ∃ Lm, Lm = mergeCo Lc [d] := ⟨_, rfl⟩
   have HLM := Lib.hid hLm
   clear hd hat hLm
   go_wp2_with fail
   refine wp_region_tab 9 [(7, fun v x => ColsT x v Lm)] (by kernel_rfl) (by kernel_rfl) (by kernel_rfl) ⟨fun _ _ _ hE h => h.ext hE, trivial⟩ ?_
   replace q7 := held q7
   replace e7 := held e7
   replace y0 := held y0
   replace y1 := held y1
   replace y2 := held y2
   replace y3 := held y3
   replace y4 := held y4
   refine rg_quiet rfl rfl rfl rfl ?_; intro K hK; go_big_quiet_op; go_big_quiet_on
   refine rg_quiet rfl rfl rfl rfl ?_; intro K hK; go_big_quiet_op; go_big_quiet_on
   refine rg_quiet rfl rfl rfl rfl ?_; intro K hK; go_big_quiet_op; go_big_quiet_on
   refine rg_quiet rfl rfl rfl rfl ?_; intro K hK; go_big_quiet_op; go_big_quiet_on
   refine rg_quiet rfl rfl rfl rfl ?_; intro K hK; go_big_quiet_op; go_big_quiet_on
   refine rg_quiet rfl rfl rfl rfl ?_; intro K hK; go_big_quiet_op; go_big_quiet_on
   refine rg_quiet rfl rfl rfl rfl ?_; intro K hK; go_big_quiet_op; go_big_quiet_on
   refine rg_fact [] rfl rfl rfl (by kernel_rfl) (fun y hE hf => ?_) (fun v9 y9 hE9 hG9 h9 => ?_)
   ·go_simp
    refine (put7_any _ Lc d y (hcs.ext hE).cols (by omega)).mono ?_
    rintro e y' ⟨v', rfl, ho, hE'⟩
    rw [← HLM.out] at ho
    exact ⟨_, rfl, rg_doneR hE hE' (TIn.own ho)⟩
   obtain ⟨a9, c9, rfl⟩ := TIn.shape h9
   clear hE9 hG9 h9
   simp only [Act.put, List.setIfInBounds_toArray, List.set_cons_zero, List.set_cons_succ]
   refine rg_quiet rfl rfl rfl rfl ?_; intro K hK; go_big_quiet_op; go_big_quiet_on
   refine rel_tail rfl rfl fun w7 hE7 hG => ?_
   have hcs7 : ColsT w7 (.slice a9 Lm.length c9) Lm := (hG 7).2 rfl
   have hbq7 := hbq.ext hE7
   have qf := hbq7.free 7
   clear hG q7 e7 y0 y1 y2 y3 y4 hbq
   have hq := hbq7.lt
   have qc := hbq7.cell 7
   simp [ro8] at qc
   go_wp2_with fail
   go_roundw
   case rel =>
    refine ⟨k + 1, Lm, _, by omega, by go_num, hbq7.set 7 _, (hb1.ext hE7).other (by omega) 7 _, (hb2.ext hE7).other (by omega) 7 _, TIn.set 7 _ hbq7 (by decide) hcs7, ?_, (hE.trans hE7).setCell (p := ⟨q5, 7, none⟩) (by show w.heap.size ≤ q5; omega) _⟩
    show _ = _
    rw [HLM.out, HLC.out, List.take_succ_eq_append_getElem hkb, foldG_snoc, ← HD.out]
    rfl
   case measure => simp [intOf]; omega
  ·obtain rfl : k = n := by omega
   obtain ⟨z0, z1, z2, z3, z4, z5, z6, z7⟩ := hbq.ro
   go_wp2_with ((guard_target =~ wpList _ _ _ (Oper.mk none (Op.store _ (Operand.tmp 4) (Operand.tmp 44)) _ _ _ _ :: _) _ _); go_must (refine storeBox rfl 47 (.tmp 4) (.tmp 44) rfl (w.heap.size + 1 + 1) _ _ _ (by rfl) (by rfl) (hb2) (by kernel_rfl) (by rfl) (by simp [Value.oneCell']) ?_); intro w8 c8 g8)
   have hX8 := hE.grown g8 (fun q hq => by cases hq; omega)
   have hcs8 := ColsT.keep g8 hb2 (by decide) hcs
   have hLL : Lc = L := by rw [HLC.out, HL.out, List.take_of_length_le (by rw [← HN.out]; exact Nat.le_refl _)]
   rw [← hLL]
   clear z0 z1 z2 z3 z4 z5 z6 z7 hE g8 hb2 hLL hcs
   obtain ⟨z0, z1, z2, z3, z4, z5, z6, z7⟩ := BoxAt.ro (r := ⟨a.key, c, g, s, []⟩) (v := .slice av Lc.length cv) c8
   refine bodyPost_ret (v := .agg #[.string a.key, .string c.val, .bool c.dead, .int .i64 c.at_, .int .i64 c.fin, .int .i64 g, .int .i64 s, .slice av Lc.length cv]) ?_ rfl ⟨_, rfl, hcs8, hX8⟩
   simp [results, Tryz.results45, go_sem, Act.put, z0, z1, z2, z3, z4, z5, z6, z7]
end Go.Proofs.YtolkhjdododdaaaGreatDoor

/- The reference's Same of any cells, columns, rows, lists of rows, partitions. (what a smaller cut has) -/
namespace Go.Proofs.YtolkhjdododdaaaGreatDoor
open Go Go.RowKit
attribute [local go_sem] yields yUpon ro8 pa3

theorem eqB_bool {α : Type} {a b : α} {c : Bool} (h : c = true ↔ a = b) : eqB a b = c := by
 cases c with
 | true => exact eqB_true (h.1 rfl)
 | false => exact eqB_false fun e => by have := h.2 e; cases this
theorem toList_eq {a b : ByteArray} : (a.toList == b.toList) = true ↔ a = b := by
 constructor
 ·intro h; exact bytes_ext (by simpa using h)
 ·rintro rfl; simp
theorem clB_eq (c d : Cl) : ((c.val.toList == d.val.toList) && (c.dead == d.dead) && (c.at_ == d.at_) && (c.fin == d.fin)) = true ↔ c = d := by
 rw [Bool.and_eq_true, Bool.and_eq_true, Bool.and_eq_true, toList_eq]
 obtain ⟨a1, a2, a3, a4⟩ := c
 obtain ⟨b1, b2, b3, b4⟩ := d
 simp [and_assoc]

set_option maxHeartbeats 1000000 in
theorem same6_any (c d : Cl) (w : World) : Calls Tryz.prog 79 #[(.agg #[.string c.val, .bool c.dead, .int .i64 c.at_, .int .i64 c.fin]), (.agg #[.string d.val, .bool d.dead, .int .i64 d.at_, .int .i64 d.fin])] w fun e w' => e = .returned (.bool (eqB c d)) ∧ Ext w w' := by
 rw [eqB_bool (clB_eq c d)]
 cases e1 : (c.val.toList == d.val.toList)
 ·go_enter Tryz.func79, Tryz.ntmps79
  go_wp2
  go_ret
  exact ⟨rfl, ((Ext.refl w).alloc _).alloc _⟩
 ·cases e2 : (c.dead == d.dead)
  ·go_enter Tryz.func79, Tryz.ntmps79
   go_wp2
   go_ret
   exact ⟨rfl, ((Ext.refl w).alloc _).alloc _⟩
  ·cases e3 : (c.at_ == d.at_)
   ·go_enter Tryz.func79, Tryz.ntmps79
    go_wp2
    go_ret
    exact ⟨rfl, ((Ext.refl w).alloc _).alloc _⟩
   ·go_enter Tryz.func79, Tryz.ntmps79
    go_wp2
    go_ret
    exact ⟨ret_bool (by simp), ((Ext.refl w).alloc _).alloc _⟩

theorem list_split {α : Type} {l l' : List α} {k : Nat} (h : l.take k = l'.take k) (hk : k < l.length) (hk' : k < l'.length) (he : l[k] = l'[k]) : l.take (k + 1) = l'.take (k + 1) := by
 rw [List.take_succ_eq_append_getElem hk, List.take_succ_eq_append_getElem hk', h, he]

set_option maxRecDepth 100000 in
set_option maxHeartbeats 2000000 in
theorem sameCols_any (v v' : Value) (l l' : List Co) (w : World) (hin : ColsIn w v l) (hin' : ColsIn w v' l') :
  Calls Tryz.prog 80 #[v, v'] w fun e w' => e = .returned (.bool (eqB l l')) ∧ Ext w w' := by
 obtain ⟨a, c, rfl, hc, hcm, hcell⟩ := hin.get
 obtain ⟨a', c', rfl, hc', hcm', hcell'⟩ := hin'.get
 have HC := Lib.hid hcell
 have HC' := Lib.hid hcell'
 clear hcell hin hcell' hin'
 obtain ⟨R, hR⟩ : ∃ R, R = eqB l l' := ⟨_, rfl⟩
 rw [← hR]
 have HR := Lib.hid hR
 obtain ⟨n, hn⟩ : ∃ n, n = l.length := ⟨_, rfl⟩
 obtain ⟨n', hn'⟩ : ∃ n, n = l'.length := ⟨_, rfl⟩
 rw [← hn] at hc ⊢
 rw [← hn'] at hc' ⊢
 have HN := Lib.hid hn
 have HN' := Lib.hid hn'
 clear hR hn hn'
 by_cases hnn : n = n'
 ·subst hnn
  go_enter Tryz.func80, Tryz.ntmps80
  go_wp2
  go_loopw [5] (fun i wr => ∃ k : Nat, k ≤ n ∧ i = .int .i64 k ∧ Ext w wr ∧ Hid (l.take k = l'.take k)) (fun i _ => n - (intOf i).toNat)
  case atStart => exact ⟨0, Nat.zero_le _, rfl, Ext.refl w, by show _ = _; rw [List.take_zero, List.take_zero]⟩
  case round =>
   obtain ⟨k, hk, rfl, hE, HK⟩ := hrel
   by_cases hlt : k < n
   ·have hkl : k < l.length := by rw [← HN.out]; exact hlt
    have hkl' : k < l'.length := by rw [← HN'.out]; exact hlt
    obtain ⟨b, o, rfl, hco⟩ := HC.out k hkl
    obtain ⟨b', o', rfl, hco'⟩ := HC'.out k hkl'
    obtain ⟨M, hM⟩ : ∃ M, M = l[k] := ⟨_, rfl⟩
    obtain ⟨N, hN⟩ : ∃ N, N = l'[k] := ⟨_, rfl⟩
    rw [← hM] at hco
    rw [← hN] at hco'
    have HM := Lib.hid hM
    have HMN := Lib.hid hN
    clear hM hN
    have hne : M ≠ N → Hid (R = false) := fun h => by
     show R = false
     rw [HR.out]
     exact eqB_false fun e => h (by rw [HM.out, HMN.out]; simp only [e])
    obtain ⟨g0, g1, g2, g3, g4⟩ := hco.ext hE
    obtain ⟨y0, y1, y2, y3, y4⟩ := hco'.ext hE
    clear hco hco'
    have hki : decide ((k : Int) < (n : Int)) = true := by simpa using hlt
    obtain ⟨B, hB⟩ : ∃ B, B = eqB M.cell N.cell := ⟨_, rfl⟩
    have HB := Lib.hid hB
    clear hB
    cases e1 : (M.name.toList == N.name.toList)
    ·have HF := hne fun e => by rw [e] at e1; simp at e1
     clear hne
     go_wp2_with fail
     refine wp_region_tab 25 [] (by kernel_rfl) (by kernel_rfl) (by kernel_rfl) trivial ?_
     replace g0 := held g0
     replace y0 := held y0
     refine rg_quiet rfl rfl rfl rfl ?_; intro K hK; go_big_quiet_op; go_big_quiet_on
     refine rg_quiet rfl rfl rfl rfl ?_; intro K hK; go_big_quiet_op; go_big_quiet_on
     refine rg_quiet rfl rfl rfl rfl ?_; intro K hK; go_big_quiet_op; go_big_quiet_on
     refine rg_quiet rfl rfl rfl rfl ?_; intro K hK; go_big_quiet_op; go_big_quiet_on
     refine rg_quiet rfl rfl rfl rfl ?_; intro K hK; go_big_quiet_op; go_big_quiet_on
     refine rg_quiet rfl rfl rfl rfl ?_; intro K hK; go_big_quiet_op; go_big_quiet_on
     refine rg_quiet rfl rfl rfl rfl ?_; intro K hK; go_big_quiet_op; go_big_quiet_on
     refine rg_quiet rfl rfl rfl rfl ?_; intro K hK; go_big_quiet_op; go_big_quiet_on
     refine rg_quiet rfl rfl rfl rfl ?_; intro K hK; go_big_quiet_op; go_big_quiet_on
     refine rg_quiet rfl rfl rfl rfl ?_; intro K hK; go_big_quiet_op; go_big_quiet_on
     refine rg_quiet rfl rfl rfl rfl ?_; intro K hK; go_big_quiet_op; go_big_quiet_on
     refine rg_quiet rfl rfl rfl rfl ?_; intro K hK; go_big_quiet_op; go_big_quiet_on
     refine rel_skip rfl rfl ?_
     simp only [Act.put, List.setIfInBounds_toArray, List.set_cons_zero, List.set_cons_succ]
     refine rel_skip rfl rfl ?_
     simp only [Act.put, List.setIfInBounds_toArray, List.set_cons_zero, List.set_cons_succ]
     refine rel_skip rfl rfl ?_
     simp only [Act.put, List.setIfInBounds_toArray, List.set_cons_zero, List.set_cons_succ]
     refine rel_skip rfl rfl ?_
     simp only [Act.put, List.setIfInBounds_toArray, List.set_cons_zero, List.set_cons_succ]
     refine rel_skip rfl rfl ?_
     simp only [Act.put, List.setIfInBounds_toArray, List.set_cons_zero, List.set_cons_succ]
     refine rel_skip rfl rfl ?_
     simp only [Act.put, List.setIfInBounds_toArray, List.set_cons_zero, List.set_cons_succ]
     refine rel_skip rfl rfl ?_
     simp only [Act.put, List.setIfInBounds_toArray, List.set_cons_zero, List.set_cons_succ]
     refine rel_skip rfl rfl ?_
     simp only [Act.put, List.setIfInBounds_toArray, List.set_cons_zero, List.set_cons_succ]
     refine rel_skip rfl rfl ?_
     simp only [Act.put, List.setIfInBounds_toArray, List.set_cons_zero, List.set_cons_succ]
     refine rel_skip rfl rfl ?_
     simp only [Act.put, List.setIfInBounds_toArray, List.set_cons_zero, List.set_cons_succ]
     refine rel_skip rfl rfl ?_
     simp only [Act.put, List.setIfInBounds_toArray, List.set_cons_zero, List.set_cons_succ]
     refine rel_skip rfl rfl ?_
     simp only [Act.put, List.setIfInBounds_toArray, List.set_cons_zero, List.set_cons_succ]
     refine rg_quiet rfl rfl rfl rfl ?_; intro K hK; go_big_quiet_op; go_big_quiet_on
     refine rel_nil fun w5 hE5 _ => ?_
     clear g0 g1 g2 g3 g4 y0 y1 y2 y3 y4
     go_wp2_with fail
     go_ret
     exact ⟨ret_bool HF.out.symm, hE.trans hE5⟩
    ·have en : M.name = N.name := toList_eq.1 e1
     have HEN := Lib.hid en
     clear en
     go_wp2_with fail
     refine wp_region_tab 25 [(22, fun v _ => v = .bool B)] (by kernel_rfl) (by kernel_rfl) (by kernel_rfl) ⟨stays_eq _, trivial⟩ ?_
     replace g0 := held g0
     replace g1 := held g1
     replace g2 := held g2
     replace g3 := held g3
     replace g4 := held g4
     replace y0 := held y0
     replace y1 := held y1
     replace y2 := held y2
     replace y3 := held y3
     replace y4 := held y4
     refine rg_quiet rfl rfl rfl rfl ?_; intro K hK; go_big_quiet_op; go_big_quiet_on
     refine rg_quiet rfl rfl rfl rfl ?_; intro K hK; go_big_quiet_op; go_big_quiet_on
     refine rg_quiet rfl rfl rfl rfl ?_; intro K hK; go_big_quiet_op; go_big_quiet_on
     refine rg_quiet rfl rfl rfl rfl ?_; intro K hK; go_big_quiet_op; go_big_quiet_on
     refine rg_quiet rfl rfl rfl rfl ?_; intro K hK; go_big_quiet_op; go_big_quiet_on
     refine rg_quiet rfl rfl rfl rfl ?_; intro K hK; go_big_quiet_op; go_big_quiet_on
     refine rg_quiet rfl rfl rfl rfl ?_; intro K hK; go_big_quiet_op; go_big_quiet_on
     refine rg_quiet rfl rfl rfl rfl ?_; intro K hK; go_big_quiet_op; go_big_quiet_on
     refine rg_quiet rfl rfl rfl rfl ?_; intro K hK; go_big_quiet_op; go_big_quiet_on
     refine rg_quiet rfl rfl rfl rfl ?_; intro K hK; go_big_quiet_op; go_big_quiet_on
     refine rg_quiet rfl rfl rfl rfl ?_; intro K hK; go_big_quiet_op; go_big_quiet_on
     refine rg_quiet rfl rfl rfl rfl ?_; intro K hK; go_big_quiet_op; go_big_quiet_on
     refine rg_quiet rfl rfl rfl rfl ?_; intro K hK; go_big_quiet_op; go_big_quiet_on
     refine rg_quiet rfl rfl rfl rfl ?_; intro K hK; go_big_quiet_op; go_big_quiet_on
     refine rg_quiet rfl rfl rfl rfl ?_; intro K hK; go_big_quiet_op; go_big_quiet_on
     refine rg_quiet rfl rfl rfl rfl ?_; intro K hK; go_big_quiet_op; go_big_quiet_on
     refine rg_quiet rfl rfl rfl rfl ?_; intro K hK; go_big_quiet_op; go_big_quiet_on
     refine rg_quiet rfl rfl rfl rfl ?_; intro K hK; go_big_quiet_op; go_big_quiet_on
     refine rg_quiet rfl rfl rfl rfl ?_; intro K hK; go_big_quiet_op; go_big_quiet_on
     refine rg_quiet rfl rfl rfl rfl ?_; intro K hK; go_big_quiet_op; go_big_quiet_on
     refine rg_quiet rfl rfl rfl rfl ?_; intro K hK; go_big_quiet_op; go_big_quiet_on
     refine rg_quiet rfl rfl rfl rfl ?_; intro K hK; go_big_quiet_op; go_big_quiet_on
     refine rg_val [] rfl rfl rfl (by kernel_rfl) (fun w1 hE hf => ?_) ?_
     ·go_simp
      exact (same6_any M.cell N.cell w1).mono fun e w' ⟨he, hw⟩ => ⟨_, he, rg_done hE hw (by rw [HB.out])⟩
     simp only [Act.put, List.setIfInBounds_toArray, List.set_cons_zero, List.set_cons_succ]
     cases B
     ·have HF := hne fun e => by
       have := HB.out
       rw [e, eqB_true rfl] at this
       cases this
      clear hne
      refine rg_quiet rfl rfl rfl rfl ?_; intro K hK; go_big_quiet_op; go_big_quiet_on
      refine rg_quiet rfl rfl rfl rfl ?_; intro K hK; go_big_quiet_op; go_big_quiet_on
      refine rel_nil fun w5 hE5 _ => ?_
      clear g0 g1 g2 g3 g4 y0 y1 y2 y3 y4
      go_wp2_with fail
      go_ret
      exact ⟨ret_bool HF.out.symm, hE.trans hE5⟩
     ·clear hne
      refine rg_quiet rfl rfl rfl rfl ?_; intro K hK; go_big_quiet_op; go_big_quiet_on
      refine rg_quiet rfl rfl rfl rfl ?_; intro K hK; go_big_quiet_op; go_big_quiet_on
      refine rel_nil fun w5 hE5 _ => ?_
      clear g0 g1 g2 g3 g4 y0 y1 y2 y3 y4
      go_wp2_with fail
      go_roundw
      case rel =>
       refine ⟨k + 1, by omega, by go_num, hE.trans hE5, list_split HK.out hkl hkl' ?_⟩
       rw [← HM.out, ← HMN.out]
       have hc := eqB_iff.1 HB.out.symm
       have hn := HEN.out
       obtain ⟨m1, m2⟩ := M
       obtain ⟨n1, n2⟩ := N
       simp only at hc hn
       rw [hc, hn]
      case measure => simp [intOf] <;> omega
   ·obtain rfl : k = n := by omega
    have HT : Hid (R = true) := by
     show R = true
     rw [HR.out]
     refine eqB_true ?_
     have := HK.out
     rwa [List.take_of_length_le (by rw [← HN.out]; exact Nat.le_refl _), List.take_of_length_le (by rw [← HN'.out]; exact Nat.le_refl _)] at this
    go_wp2_with fail
    go_ret
    exact ⟨ret_bool HT.out.symm, hE⟩
 ·have HF : Hid (R = false) := by
   show R = false
   rw [HR.out]
   exact eqB_false fun e => hnn (by rw [HN.out, HN'.out, e])
  have t1 : ((n : Int) == (n' : Int)) = false := by simp; omega
  go_enter Tryz.func80, Tryz.ntmps80
  go_wp2
  go_ret
  exact ⟨ret_bool HF.out.symm, Ext.refl w⟩

theorem roB_eq (a b : Ro) : ((a.key.toList == b.key.toList) && eqB a.live b.live && (a.gone == b.gone) && (a.shade == b.shade) && eqB a.cols b.cols) = true ↔ a = b := by
 rw [Bool.and_eq_true, Bool.and_eq_true, Bool.and_eq_true, Bool.and_eq_true, toList_eq, eqB_iff, eqB_iff]
 obtain ⟨a1, a2, a3, a4, a5⟩ := a
 obtain ⟨b1, b2, b3, b4, b5⟩ := b
 simp [and_assoc]

set_option maxRecDepth 100000 in
set_option maxHeartbeats 2000000 in
theorem same7_any (r t : Ro) (v v' : Value) (w : World) (hin : ColsIn w v r.cols) (hin' : ColsIn w v' t.cols) :
  Calls Tryz.prog 44 #[(.agg #[.string r.key, .string r.live.val, .bool r.live.dead, .int .i64 r.live.at_, .int .i64 r.live.fin, .int .i64 r.gone, .int .i64 r.shade, v]), (.agg #[.string t.key, .string t.live.val, .bool t.live.dead, .int .i64 t.live.at_, .int .i64 t.live.fin, .int .i64 t.gone, .int .i64 t.shade, v'])] w fun e w' => e = .returned (.bool (eqB r t)) ∧ Ext w w' := by
 obtain ⟨a0, a1, hE⟩ := boxes2 w (ro8 r v) (ro8 t v') 47 47
 have hin1 := hin.ext hE
 have hin1' := hin'.ext hE
 obtain ⟨B1, hB1⟩ : ∃ B, B = eqB r.live t.live := ⟨_, rfl⟩
 obtain ⟨B2, hB2⟩ : ∃ B, B = eqB r.cols t.cols := ⟨_, rfl⟩
 have hR := eqB_bool (roB_eq r t)
 rw [← hB1, ← hB2] at hR
 rw [hR]
 have HB1 := Lib.hid hB1
 have HB2 := Lib.hid hB2
 clear hB1 hB2 hR
 cases e1 : (r.key.toList == t.key.toList)
 ·go_enter Tryz.func44, Tryz.ntmps44
  go_wp2_with fail
  go_ret
  exact ⟨rfl, hE⟩
 ·cases B1
  ·go_enter Tryz.func44, Tryz.ntmps44
   go_wp2_with fail
   refine (same6_any r.live t.live _).mono ?_
   rw [← HB1.out]
   rintro e w1 ⟨rfl, hE1⟩
   go_wp2_with fail
   go_ret
   exact ⟨rfl, hE.trans hE1⟩
  ·cases e2 : (r.gone == t.gone)
   ·go_enter Tryz.func44, Tryz.ntmps44
    go_wp2_with fail
    refine (same6_any r.live t.live _).mono ?_
    rw [← HB1.out]
    rintro e w1 ⟨rfl, hE1⟩
    have y0 : ∀ i, w1.cell? ⟨w.heap.size, i, none⟩ = (ro8 r v)[i]? := fun i => (a0.ext hE1).cell i
    have y1 : ∀ i, w1.cell? ⟨w.heap.size + 1, i, none⟩ = (ro8 t v')[i]? := fun i => (a1.ext hE1).cell i
    go_wp2_with fail
    go_ret
    exact ⟨rfl, hE.trans hE1⟩
   ·cases e3 : (r.shade == t.shade)
    ·go_enter Tryz.func44, Tryz.ntmps44
     go_wp2_with fail
     refine (same6_any r.live t.live _).mono ?_
     rw [← HB1.out]
     rintro e w1 ⟨rfl, hE1⟩
     have y0 : ∀ i, w1.cell? ⟨w.heap.size, i, none⟩ = (ro8 r v)[i]? := fun i => (a0.ext hE1).cell i
     have y1 : ∀ i, w1.cell? ⟨w.heap.size + 1, i, none⟩ = (ro8 t v')[i]? := fun i => (a1.ext hE1).cell i
     go_wp2_with fail
     go_ret
     exact ⟨rfl, hE.trans hE1⟩
    ·go_enter Tryz.func44, Tryz.ntmps44
     go_wp2_with fail
     refine (same6_any r.live t.live _).mono ?_
     rw [← HB1.out]
     rintro e w1 ⟨rfl, hE1⟩
     replace hE := hE.trans hE1
     replace hin1 := hin1.ext hE1
     replace hin1' := hin1'.ext hE1
     have y0 : ∀ i, w1.cell? ⟨w.heap.size, i, none⟩ = (ro8 r v)[i]? := fun i => (a0.ext hE1).cell i
     have y1 : ∀ i, w1.cell? ⟨w.heap.size + 1, i, none⟩ = (ro8 t v')[i]? := fun i => (a1.ext hE1).cell i
     clear hE1 hin hin' a0 a1
     go_wp2_with fail
     refine (sameCols_any v v' r.cols t.cols _ hin1 hin1').mono ?_
     rw [← HB2.out]
     rintro e w2 ⟨rfl, hE2⟩
     clear HB1 HB2 hin1 hin1' y0 y1
     go_wp2
     go_ret
     exact ⟨ret_bool (by simp), hE.trans hE2⟩

set_option maxRecDepth 100000 in
set_option maxHeartbeats 2000000 in
theorem sameRows_any (v v' : Value) (ps ps' : List (Ro × Value)) (w : World) (hin : RowsIn w v ps) (hin' : RowsIn w v' ps') :
  Calls Tryz.prog 57 #[v, v'] w fun e w' => e = .returned (.bool (eqB (ps.map (·.1)) (ps'.map (·.1)))) ∧ Ext w w' := by
 obtain ⟨a, c, rfl, hc, hcm, hcell⟩ := hin.get
 obtain ⟨a', c', rfl, hc', hcm', hcell'⟩ := hin'.get
 have HC := Lib.hid hcell
 have HC' := Lib.hid hcell'
 have HU := Lib.hid hin.cols
 have HU' := Lib.hid hin'.cols
 clear hcell hin hcell' hin'
 obtain ⟨R, hR⟩ : ∃ R, R = eqB (ps.map (·.1)) (ps'.map (·.1)) := ⟨_, rfl⟩
 rw [← hR]
 have HR := Lib.hid hR
 obtain ⟨n, hn⟩ : ∃ n, n = ps.length := ⟨_, rfl⟩
 obtain ⟨n', hn'⟩ : ∃ n, n = ps'.length := ⟨_, rfl⟩
 rw [← hn] at hc ⊢
 rw [← hn'] at hc' ⊢
 have HN := Lib.hid hn
 have HN' := Lib.hid hn'
 clear hR hn hn'
 by_cases hnn : n = n'
 ·subst hnn
  go_enter Tryz.func57, Tryz.ntmps57
  go_wp2
  go_loopw [5] (fun i wr => ∃ k : Nat, k ≤ n ∧ i = .int .i64 k ∧ Ext w wr ∧ Hid ((ps.map (·.1)).take k = (ps'.map (·.1)).take k)) (fun i _ => n - (intOf i).toNat)
  case atStart => exact ⟨0, Nat.zero_le _, rfl, Ext.refl w, by show _ = _; rw [List.take_zero, List.take_zero]⟩
  case round =>
   obtain ⟨k, hk, rfl, hE, HK⟩ := hrel
   by_cases hlt : k < n
   ·have hkl : k < ps.length := by rw [← HN.out]; exact hlt
    have hkl' : k < ps'.length := by rw [← HN'.out]; exact hlt
    obtain ⟨b, o, rfl, hco⟩ := HC.out k hkl
    obtain ⟨b', o', rfl, hco'⟩ := HC'.out k hkl'
    have hcu := (HU.out _ (List.getElem_mem hkl)).ext hE
    have hcu' := (HU'.out _ (List.getElem_mem hkl')).ext hE
    obtain ⟨M, hM⟩ : ∃ M, M = ps[k].1 := ⟨_, rfl⟩
    obtain ⟨N, hN⟩ : ∃ N, N = ps'[k].1 := ⟨_, rfl⟩
    rw [← hM] at hco hcu
    rw [← hN] at hco' hcu'
    obtain ⟨u, hu⟩ : ∃ u, u = ps[k].2 := ⟨_, rfl⟩
    obtain ⟨u', hu'⟩ : ∃ u, u = ps'[k].2 := ⟨_, rfl⟩
    rw [← hu] at hco hcu
    rw [← hu'] at hco' hcu'
    have HM := Lib.hid hM
    have HMN := Lib.hid hN
    clear hM hN hu hu'
    have hne : M ≠ N → Hid (R = false) := fun h => by
     show R = false
     rw [HR.out]
     refine eqB_false fun e => h ?_
     have h1 : (ps.map (·.1))[k]? = (ps'.map (·.1))[k]? := by rw [e]
     simp [hkl, hkl'] at h1
     rw [HM.out, HMN.out, h1]
    obtain ⟨g0, g1, g2, g3, g4, g5, g6, g7⟩ := hco.ext hE
    obtain ⟨y0, y1, y2, y3, y4, y5, y6, y7⟩ := hco'.ext hE
    clear hco hco'
    have hki : decide ((k : Int) < (n : Int)) = true := by simpa using hlt
    obtain ⟨B, hB⟩ : ∃ B, B = eqB M N := ⟨_, rfl⟩
    have HB := Lib.hid hB
    clear hB
    replace g0 := held g0
    replace g1 := held g1
    replace g2 := held g2
    replace g3 := held g3
    replace g4 := held g4
    replace g5 := held g5
    replace g6 := held g6
    replace g7 := held g7
    replace y0 := held y0
    replace y1 := held y1
    replace y2 := held y2
    replace y3 := held y3
    replace y4 := held y4
    replace y5 := held y5
    replace y6 := held y6
    replace y7 := held y7
    go_wp2_with fail
    refine wp_region_tab 10 [(8, fun v _ => v = .bool B)] (by kernel_rfl) (by kernel_rfl) (by kernel_rfl) ⟨stays_eq _, trivial⟩ ?_
    refine rg_quiet rfl rfl rfl rfl ?_; intro K hK; go_big_quiet_op; go_big_quiet_on
    refine rg_quiet rfl rfl rfl rfl ?_; intro K hK; go_big_quiet_op; go_big_quiet_on
    refine rg_quiet rfl rfl rfl rfl ?_; intro K hK; go_big_quiet_op; go_big_quiet_on
    refine rg_quiet rfl rfl rfl rfl ?_; intro K hK; go_big_quiet_op; go_big_quiet_on
    refine rg_quiet rfl rfl rfl rfl ?_; intro K hK; go_big_quiet_op; go_big_quiet_on
    refine rg_quiet rfl rfl rfl rfl ?_; intro K hK; go_big_quiet_op; go_big_quiet_on
    refine rg_quiet rfl rfl rfl rfl ?_; intro K hK; go_big_quiet_op; go_big_quiet_on
    refine rg_quiet rfl rfl rfl rfl ?_; intro K hK; go_big_quiet_op; go_big_quiet_on
    refine rg_val [] rfl rfl rfl (by kernel_rfl) (fun w1 hE hf => ?_) ?_
    ·go_simp
     exact (same7_any M N u u' w1 (hcu.ext hE) (hcu'.ext hE)).mono fun e w' ⟨he, hw⟩ => ⟨_, he, rg_done hE hw (by rw [HB.out])⟩
    simp only [Act.put, List.setIfInBounds_toArray, List.set_cons_zero, List.set_cons_succ]
    cases B
    ·have HF := hne fun e => by
      have := HB.out
      rw [e, eqB_true rfl] at this
      cases this
     clear hne
     refine rg_quiet rfl rfl rfl rfl ?_; intro K hK; go_big_quiet_op; go_big_quiet_on
     refine rel_nil fun w5 hE5 _ => ?_
     clear g0 g1 g2 g3 g4 g5 g6 g7 y0 y1 y2 y3 y4 y5 y6 y7
     go_wp2_with fail
     go_ret
     exact ⟨ret_bool HF.out.symm, hE.trans hE5⟩
    ·clear hne
     refine rg_quiet rfl rfl rfl rfl ?_; intro K hK; go_big_quiet_op; go_big_quiet_on
     refine rel_nil fun w5 hE5 _ => ?_
     clear g0 g1 g2 g3 g4 g5 g6 g7 y0 y1 y2 y3 y4 y5 y6 y7
     go_wp2_with fail
     go_roundw
     case rel =>
      refine ⟨k + 1, by omega, by go_num, hE.trans hE5, list_split HK.out (by simpa using hkl) (by simpa using hkl') ?_⟩
      rw [List.getElem_map, List.getElem_map, ← HM.out, ← HMN.out]
      exact eqB_iff.1 HB.out.symm
     case measure => simp [intOf] <;> omega
   ·obtain rfl : k = n := by omega
    have HT : Hid (R = true) := by
     show R = true
     rw [HR.out]
     refine eqB_true ?_
     have := HK.out
     rwa [List.take_of_length_le (by rw [List.length_map, ← HN.out]; exact Nat.le_refl _), List.take_of_length_le (by rw [List.length_map, ← HN'.out]; exact Nat.le_refl _)] at this
    go_wp2_with fail
    go_ret
    exact ⟨ret_bool HT.out.symm, hE⟩
 ·have HF : Hid (R = false) := by
   show R = false
   rw [HR.out]
   exact eqB_false fun e => hnn (by rw [HN.out, HN'.out]; have := congrArg List.length e; simpa using this)
  have t1 : ((n : Int) == (n' : Int)) = false := by simp; omega
  go_enter Tryz.func57, Tryz.ntmps57
  go_wp2
  go_ret
  exact ⟨ret_bool HF.out.symm, Ext.refl w⟩
end Go.Proofs.YtolkhjdododdaaaGreatDoor
