/- delta.Of. -/
import Derived.Test.YtolkhjdododdaaaGreatDoorP8
import Derived.Test.YtolkhjdododdaaaGreatDoorP30
import Derived.Test.YtolkhjdododdaaaGreatDoorP21
import Derived.Test.YtolkhjdododdaaaGreatDoorP5
import Derived.Test.YtolkhjdododdaaaGreatDoorP3
set_option linter.unusedSimpArgs false
set_option linter.unusedVariables false
namespace Go.Proofs.YtolkhjdododdaaaGreatDoor
open Go Go.RowKit
attribute [local go_sem] yields yUpon ro8 pa3 vw5 tabV

/-- What stays true from round to round. -/
structure DS (w : World) (s : Value) (x : Vw) (u : Value) (ok : ByteArray) (og : Int) (ou : Value) (nk : ByteArray) (ng : Int) (nu : Value) (vl : Value) (L : List Pa) (y : World) : Prop where
 ext : Ext w y
 tab : BoxAt y w.heap.size #[.string ⟨#[116]⟩, .int .i64 1, .string ⟨#[112]⟩, .int .i64 1, .string ⟨#[107]⟩, .int .i64 2, s] 28
 view : BoxAt y (w.heap.size + 1) (vw5 x u) 31
 old : BoxAt y (w.heap.size + 1 + 1) (pa3 ok og ou) 39
 now : BoxAt y (w.heap.size + 1 + 1 + 1) (pa3 nk ng nu) 39
 lbox : BoxAt y (w.heap.size + 1 + 1 + 1 + 1) #[vl] 34
 own : y.ownsRow (w.heap.size + 5) 39 3 vl L.length (paCells L)
 rows : ∀ p ∈ L, RowsT y p.rv p.ps
 size : w.heap.size + 5 ≤ y.heap.size
section
variable {w : World} {s : Value} {x : Vw} {u : Value} {ok : ByteArray} {og : Int} {ou : Value} {nk : ByteArray} {ng : Int} {nu : Value} {vl : Value} {L : List Pa}
theorem DS.ext' {y z : World} (hE : Ext y z) (h : DS w s x u ok og ou nk ng nu vl L y) : DS w s x u ok og ou nk ng nu vl L z :=
 ⟨h.ext.trans hE, h.tab.ext hE, h.view.ext hE, h.old.ext hE, h.now.ext hE, h.lbox.ext hE, ownsRow_ext h.own hE, fun p hp => (h.rows p hp).ext hE, Nat.le_trans h.size hE.le⟩
/-- Behind an append in the loop. -/
theorem DS.app {y z : World} {v' : Value} {P : Pa} (h : DS w s x u ok og ou nk ng nu vl L y) (hg : y.grownBy z vl.ownBlock) (hown : z.ownsRow (w.heap.size + 5) 39 3 v' (L.length + 1) (paCells (L ++ [P]))) (hP : RowsT y P.rv P.ps) : DS w s x u ok og ou nk ng nu v' (L ++ [P]) (z.setCell ⟨w.heap.size + 1 + 1 + 1 + 1, 0, none⟩ v') := by
 have ne : ∀ b, b < w.heap.size + 5 → some b ≠ vl.ownBlock := fun b hb e => by have := (h.own.lt _ e.symm).1; omega
 have hl := h.lbox.grown hg (ne _ (by omega))
 refine ⟨(h.ext.grown hg (fun q hq => by have := (h.own.lt q hq).1; omega)).setCell (by show w.heap.size ≤ w.heap.size + 1 + 1 + 1 + 1; omega) _, (h.tab.grown hg (ne _ (by omega))).other (by omega) _ _, (h.view.grown hg (ne _ (by omega))).other (by omega) _ _, (h.old.grown hg (ne _ (by omega))).other (by omega) _ _, (h.now.grown hg (ne _ (by omega))).other (by omega) _ _, hl.set 0 v', ?_, ?_, ?_⟩
 ·rw [List.length_append]; exact own_setCell hown (own_ne_box hown hl (by decide))
 ·intro p hp
  rcases List.mem_append.1 hp with hp | hp
  ·exact ((h.rows p hp).keepOwn h.own hg (by decide) (by decide)).set 0 v' hl (by decide) (by decide)
  ·rw [List.mem_singleton.1 hp]
   exact (hP.keepOwn h.own hg (by decide) (by decide)).set 0 v' hl (by decide) (by decide)
 ·rw [Deep.nblk_setCell]; exact Nat.le_trans h.size hg.size
/-- Behind the closure. -/
theorem DS.leave {y z : World} {v' : Value} {P : Pa} (h : DS w s x u ok og ou nk ng nu vl L y) (hE : Ext w z) (hkeep : ∀ q cs T, BoxAt y q cs T → q ≠ w.heap.size + 1 + 1 + 1 + 1 → some q ≠ vl.ownBlock → BoxAt z q cs T) (hkeepR : ∀ v qs, RowsT y v qs → RowsT z v qs)
  (hl : BoxAt z (w.heap.size + 1 + 1 + 1 + 1) #[v'] 34) (hown : z.ownsRow (w.heap.size + 5) 39 3 v' (L.length + 1) (paCells (L ++ [P]))) (hP : RowsT z P.rv P.ps) : DS w s x u ok og ou nk ng nu v' (L ++ [P]) z := by
 have ne : ∀ b, b < w.heap.size + 5 → some b ≠ vl.ownBlock := fun b hb e => by have := (h.own.lt _ e.symm).1; omega
 refine ⟨hE, hkeep _ _ _ h.tab (by omega) (ne _ (by omega)), hkeep _ _ _ h.view (by omega) (ne _ (by omega)), hkeep _ _ _ h.old (by omega) (ne _ (by omega)), hkeep _ _ _ h.now (by omega) (ne _ (by omega)), hl, by rw [List.length_append]; exact hown, ?_, by have := hl.lt; omega⟩
 intro p hp
 rcases List.mem_append.1 hp with hp | hp
 ·exact hkeepR _ _ (h.rows p hp)
 ·rw [List.mem_singleton.1 hp]; exact hP
end
set_option maxRecDepth 100000 in
set_option maxHeartbeats 16000000 in
theorem deltaOf_any (s : Value) (x : Vw) (u : Value) (ns : List ByteArray) (ok : ByteArray) (og : Int) (ou : Value) (pso : List (Ro × Value)) (nk : ByteArray) (ng : Int) (nu : Value) (psn : List (Ro × Value)) (w : World)
  (ho : RowsIn w ou pso) (hn : RowsIn w nu psn) (hns : StrsIn w u ns) (hco : ∀ p ∈ pso, p.1.cols.length ≤ 1000000) (hcn : ∀ p ∈ psn, p.1.cols.length ≤ 1000000) (hlen : psn.length ≤ 10000)
  (hok : ok.size ≤ 10000000) (hnk : nk.size ≤ 10000000) (hkey : ∀ p ∈ psn, p.1.key.size ≤ 10000000 ∧ (vkey ok p.1.key).size ≤ 400 ∧ (vkey nk p.1.key).size ≤ 400) :
  Calls Tryz.prog 15 #[tabV s, .agg #[.string x.name, .int .i64 x.id, .string x.table, .string x.on, u], .agg #[.string ok, .int .i64 og, ou], .agg #[.string nk, .int .i64 ng, nu]] w fun e w' =>
   ∃ v', e = .returned v' ∧ ∃ L, w'.ownsRow w.heap.size 39 3 v' L.length (paCells L) ∧ (∀ p ∈ L, RowsT w' p.rv p.ps) ∧ L.map Pa.data = outP (deltaRs x ns ok og nk ng (pso.map (·.1)) (psn.map (·.1))) ∧ Ext w w' := by
 obtain ⟨a0, a1, a2, a3, a4, hE⟩ := boxes5 w #[.string ⟨#[116]⟩, .int .i64 1, .string ⟨#[112]⟩, .int .i64 1, .string ⟨#[107]⟩, .int .i64 2, s] (vw5 x u) (pa3 ok og ou) (pa3 nk ng nu) #[.slice none 0 0] 28 31 39 39 34
 obtain ⟨aa, ca, rfl, hca, hcma, hget⟩ := hn.get
 obtain ⟨n, hnn⟩ : ∃ n, n = psn.length := ⟨_, rfl⟩
 rw [← hnn] at hlen hca a0 a1 a2 a3 a4 hE ⊢
 have HN := Lib.hid hnn
 have HGET := Lib.hid hget
 have HCS := Lib.hid hn.cols
 have HKEY := Lib.hid hkey
 have hds : DS w s x u ok og ou nk ng (.slice aa n ca) (.slice none 0 0) [] _ := ⟨hE, a0, a1, a2, a3, a4, World.ownsRow_nil _ _ _ _, nofun, by have := a4.lt; omega⟩
 have c3 := a3.pa
 clear hnn hget a0 a1 a2 a4 hE hkey
 unfold tabV
 go_enter Tryz.func15, Tryz.ntmps15
 go_wp2
 go_loopw [23] (fun i wr => ∃ (k : Nat) (vl : Value) (L : List Pa), k ≤ n ∧ i = .int .i64 k ∧ DS w s x u ok og ou nk ng (.slice aa n ca) vl L wr ∧ L.length ≤ 2 * k ∧ Hid (L.map Pa.data = outP (deltaRs x ns ok og nk ng (pso.map (·.1)) ((psn.map (·.1)).take k)))) (fun i _ => n - (intOf i).toNat)
 case atStart => exact ⟨0, _, [], Nat.zero_le _, rfl, hds, by simp, rfl⟩
 case round =>
  obtain ⟨k, vl, L, hk, rfl, hds, hLk, HD⟩ := hrel
  obtain ⟨al, cl, rfl⟩ := own_shape hds.own
  by_cases hlt : k < n
  ·have hkp : k < psn.length := by rw [← HN.out]; exact hlt
   have hkc := hcn _ (List.getElem_mem hkp)
   have hcu := HCS.out _ (List.getElem_mem hkp)
   obtain ⟨hky1, hky2, hky3⟩ := HKEY.out _ (List.getElem_mem hkp)
   obtain ⟨b, o, rfl, hat⟩ := HGET.out k hkp
   have hsnoc : (psn.map (·.1)).take (k + 1) = (psn.map (·.1)).take k ++ [psn[k].1] := by
    rw [List.take_succ_eq_append_getElem (by simpa using hkp)]
    simp
   obtain ⟨M, hM⟩ : ∃ M, M = psn[k].1 := ⟨_, rfl⟩
   obtain ⟨au, cu, hu⟩ := hcu.shape
   rw [← hM] at hkc hcu hu hsnoc hat hky1 hky2 hky3
   rw [hu] at hcu hat
   have HSN := Lib.hid hsnoc
   have HK3 := Lib.hid hky3
   clear hM hu hsnoc hky3
   obtain ⟨mm, hmm⟩ : ∃ mm, mm = M.cols.length := ⟨_, rfl⟩
   rw [← hmm] at hcu hat
   clear hmm
   have hcu0 := hcu
   obtain ⟨x0, x1, x2, x3, x4, x5, x6, x7⟩ := hat.ext hds.ext
   obtain ⟨R, hR⟩ : ∃ R, R = rowOf (pso.map (·.1)) M.key := ⟨_, rfl⟩
   have HR := Lib.hid hR
   have hRk : R.key = M.key := by rw [hR]; exact rowOf_is _ _
   have hRc : R.cols.length ≤ 1000000 := by
    rcases rowOf_or (pso.map (·.1)) M.key with h | h
    ·obtain ⟨p, hp, e⟩ := List.mem_map.1 h
     rw [hR, ← e]; exact hco p hp
    ·rw [hR, h]; decide
   have hk1 : R.key.size ≤ 10000000 := by rw [hRk]; exact hky1
   have hk2 : (vkey ok R.key).size ≤ 400 := by rw [hRk]; exact hky2
   have HK1 := Lib.hid hk1
   have HK2 := Lib.hid hk2
   have HY1 := Lib.hid hky1
   clear hR hRk hk1 hk2 hky2 hky1
   have hsz := hds.size
   go_wp2_with (((guard_target =~ wpList _ _ _ (Oper.mk none (Op.store _ (Operand.tmp 12) (Operand.tmp 26)) _ _ _ _ :: _) _ _); go_must (refine storeBox rfl 47 (.tmp 12) (.tmp 26) rfl (wr.heap.size) _ _ _ (by rfl) (by rfl) ((BoxAt.made wr (ro8 ⟨⟨#[]⟩, zeroCl, 0, 0, []⟩ (.slice none 0 0)) 47)) (by kernel_rfl) (by rfl) (by simp [Value.oneCell']) ?_); intro w1 c1 g1); have hX1 : Ext wr w1 := ((Ext.refl wr).alloc _).grown g1 (fun q hq => by cases hq; omega); have d1 := c1.ro (r := ⟨M.key, M.live, M.gone, M.shade, []⟩) (v := .slice au mm cu); have e1 := (hds.ext' hX1).old.pa)
   have ds1 := hds.ext' hX1
   refine (prow_any ok og ou pso M.key w1 (ho.ext ds1.ext) hco).mono ?_
   rw [← HR.out]
   rintro e w2 ⟨v2, rfl, hc2, hE2⟩
   obtain ⟨a2, cc2, rfl⟩ := hc2.shape
   have ds2 := ds1.ext' hE2
   have r2 : BoxAt w2 wr.heap.size (ro8 M (.slice au mm cu)) 47 := c1.ext hE2
   obtain ⟨rl, hrl⟩ : ∃ rl, rl = R.cols.length := ⟨_, rfl⟩
   rw [← hrl] at hc2
   rw [← hrl]
   clear hrl d1 e1 c1 g1 x0 x1 x2 x3 x4 x5 x6 x7 ds1
   go_wp2_with (((guard_target =~ wpList _ _ _ (Oper.mk none (Op.store _ (Operand.tmp 13) (Operand.tmp 32)) _ _ _ _ :: _) _ _); go_must (refine storeBox rfl 47 (.tmp 13) (.tmp 32) rfl (w2.heap.size) _ _ _ (by rfl) (by rfl) ((BoxAt.made w2 (ro8 ⟨⟨#[]⟩, zeroCl, 0, 0, []⟩ (.slice none 0 0)) 47)) (by kernel_rfl) (by rfl) (by simp [Value.oneCell']) ?_); intro w3 c3 g3); have hX3 : Ext w2 w3 := ((Ext.refl w2).alloc _).grown g3 (fun q hq => by cases hq; omega); have ds3 := ds2.ext' hX3; have d3 := c3.ro (r := ⟨R.key, R.live, R.gone, R.shade, []⟩) (v := .slice a2 rl cc2); have q1 := fun i => (ds3.tab).cell i; have q2 := ds3.view.vw; have q3 := ds3.old.pa; have z0 : w3.cell? ⟨w.heap.size, 0, none⟩ = some (.string ⟨#[116]⟩) := ds3.tab.cell 0; have z1 : w3.cell? ⟨w.heap.size, 1, none⟩ = some (.int .i64 1) := ds3.tab.cell 1; have z2 : w3.cell? ⟨w.heap.size, 2, none⟩ = some (.string ⟨#[112]⟩) := ds3.tab.cell 2; have z3 : w3.cell? ⟨w.heap.size, 3, none⟩ = some (.int .i64 1) := ds3.tab.cell 3; have z4 : w3.cell? ⟨w.heap.size, 4, none⟩ = some (.string ⟨#[107]⟩) := ds3.tab.cell 4; have z5 : w3.cell? ⟨w.heap.size, 5, none⟩ = some (.int .i64 2) := ds3.tab.cell 5; have z6 : w3.cell? ⟨w.heap.size, 6, none⟩ = some s := ds3.tab.cell 6; clear q1)
   have r3 := r2.ext hX3
   refine (mirror_any s x u ns ok og ou R _ w3 (hc2.ext hX3) hRc (hns.ext ds3.ext) hok HK1.out HK2.out).mono ?_
   obtain ⟨m1, hm1⟩ : ∃ m1, m1 = mirOf x ns ok og R := ⟨_, rfl⟩
   rw [← hm1]
   have HM1 := Lib.hid hm1
   clear hm1
   rintro e w4 ⟨rv1, rfl, ps1, hr1, hpm1, hE4⟩
   obtain ⟨ar1, cr1, rfl⟩ := hr1.shape
   have ds4 := ds3.ext' hE4
   have r4 := r3.ext hE4
   clear z0 z1 z2 z3 z4 z5 z6 q2 q3 d3 c3 g3 ds2 r2 r3 ds3
   obtain ⟨n1, hn1⟩ : ∃ n1, n1 = ps1.length := ⟨_, rfl⟩
   rw [← hn1] at hr1 ⊢
   have HN1 := Lib.hid hn1
   clear hn1
   go_wp2_with (((guard_target =~ wpList _ _ _ (Oper.mk none (Op.store _ (Operand.tmp 15) (Operand.tmp 40)) _ _ _ _ :: _) _ _); go_must (refine storeBox rfl 39 (.tmp 15) (.tmp 40) rfl (w4.heap.size) _ _ _ (by rfl) (by rfl) ((BoxAt.made w4 (pa3 ⟨#[]⟩ 0 (.slice none 0 0)) 39)) (by kernel_rfl) (by rfl) (by simp [Value.oneCell']) ?_); intro w5 c5 g5); have hX5 : Ext w4 w5 := ((Ext.refl w4).alloc _).grown g5 (fun q hq => by cases hq; omega); have ds5 := ds4.ext' hX5; have r5 := r4.ext hX5; have d5 := r5.ro; have q2 := ds5.view.vw; have q3 := ds5.now.pa; have z0 : w5.cell? ⟨w.heap.size, 0, none⟩ = some (.string ⟨#[116]⟩) := ds5.tab.cell 0; have z1 : w5.cell? ⟨w.heap.size, 1, none⟩ = some (.int .i64 1) := ds5.tab.cell 1; have z2 : w5.cell? ⟨w.heap.size, 2, none⟩ = some (.string ⟨#[112]⟩) := ds5.tab.cell 2; have z3 : w5.cell? ⟨w.heap.size, 3, none⟩ = some (.int .i64 1) := ds5.tab.cell 3; have z4 : w5.cell? ⟨w.heap.size, 4, none⟩ = some (.string ⟨#[107]⟩) := ds5.tab.cell 4; have z5 : w5.cell? ⟨w.heap.size, 5, none⟩ = some (.int .i64 2) := ds5.tab.cell 5; have z6 : w5.cell? ⟨w.heap.size, 6, none⟩ = some s := ds5.tab.cell 6)
   refine (mirror_any s x u ns nk ng _ M _ w5 (hcu0.ext ds5.ext) hkc (hns.ext ds5.ext) hnk HY1.out HK3.out).mono ?_
   obtain ⟨m2, hm2⟩ : ∃ m2, m2 = mirOf x ns nk ng M := ⟨_, rfl⟩
   rw [← hm2]
   have HM2 := Lib.hid hm2
   clear hm2
   rintro e w6 ⟨rv2, rfl, ps2, hr2, hpm2, hE6⟩
   obtain ⟨ar2, cr2, rfl⟩ := hr2.shape
   have p5 : BoxAt w5 w4.heap.size (pa3 (mirK m1) 0 (.slice ar1 n1 cr1)) 39 := c5
   have p6 := p5.ext hE6
   have ds6 := ds5.ext' hE6
   have r6 := r5.ext hE6
   have rr6 := (hr1.ext hX5).ext hE6
   have hlt4 : wr.heap.size < w4.heap.size := r4.lt
   clear z0 z1 z2 z3 z4 z5 z6 q2 q3 d5 c5 g5 ds4 r4 r5 ds5 p5 hr1
   obtain ⟨n2, hn2⟩ : ∃ n2, n2 = ps2.length := ⟨_, rfl⟩
   rw [← hn2] at hr2 ⊢
   have HN2 := Lib.hid hn2
   clear hn2
   have HSTEP : Hid (deltaRs x ns ok og nk ng (pso.map (·.1)) ((psn.map (·.1)).take (k + 1)) = deltaRs x ns ok og nk ng (pso.map (·.1)) ((psn.map (·.1)).take k) ++ stepD x ng M m1 m2) := by
    show _ = _
    rw [HSN.out, deltaRs_snoc, ← HR.out, ← HM1.out, ← HM2.out]
   cases m1 with
   | none =>
    cases m2 with
    | none =>
     go_wp2_with (((guard_target =~ wpList _ _ _ (Oper.mk none (Op.store _ (Operand.tmp 17) (Operand.tmp 48)) _ _ _ _ :: _) _ _); go_must (refine storeBox rfl 39 (.tmp 17) (.tmp 48) rfl (w6.heap.size) _ _ _ (by rfl) (by rfl) ((BoxAt.made w6 (pa3 ⟨#[]⟩ 0 (.slice none 0 0)) 39)) (by kernel_rfl) (by rfl) (by simp [Value.oneCell']) ?_); intro w7 c7 g7); have hX7 : Ext w6 w7 := ((Ext.refl w6).alloc _).grown g7 (fun q hq => by cases hq; omega); have ds7 := ds6.ext' hX7; have p7 := (p6.ext hX7).pa; have r7 := (r6.ext hX7).ro; have l7 : w7.cell? ⟨w.heap.size + 1 + 1 + 1 + 1, 0, none⟩ = some (.slice al L.length cl) := ds7.lbox.cell 0)
     go_roundw
     case rel =>
      refine ⟨k + 1, _, _, hlt, rfl, ds7, by omega, ?_⟩
      show _ = _
      rw [HSTEP.out, HD.out]
      simp [stepD, outP]
     case measure => simp [intOf]; omega
    | some q =>
     go_wp2_with (first | (((guard_target =~ wpList _ _ _ (Oper.mk none (Op.store _ (Operand.tmp 17) (Operand.tmp 48)) _ _ _ _ :: _) _ _); go_must (refine storeBox rfl 39 (.tmp 17) (.tmp 48) rfl (w6.heap.size) _ _ _ (by rfl) (by rfl) ((BoxAt.made w6 (pa3 ⟨#[]⟩ 0 (.slice none 0 0)) 39)) (by kernel_rfl) (by rfl) (by simp [Value.oneCell']) ?_); intro w7 c7 g7); have hX7 : Ext w6 w7 := ((Ext.refl w6).alloc _).grown g7 (fun q hq => by cases hq; omega); have ds7 := ds6.ext' hX7; have p7 := (p6.ext hX7).pa; have r7 := (r6.ext hX7).ro; have l7 : w7.cell? ⟨w.heap.size + 1 + 1 + 1 + 1, 0, none⟩ = some (.slice al L.length cl) := ds7.lbox.cell 0; have m7 := c7.pa (k := mirK (some q)) (g := 0) (u := .slice ar2 n2 cr2)) | (at_builtin; go_must (refine appR info_Part und_Parts rfl (by decide) w7 rfl (.tmp 76) (.tmp 78) rfl (w.heap.size + 5) ds7.size (.slice al L.length cl) L.length (paCells L) ds7.own rfl 1 (pa3 (mirK (some q)) 0 (.slice ar2 n2 cr2)) rfl rfl (by simp [pa3, Value.oneCell']) (by unfold maxLen; omega) (by omega) ?_); intro v20 w20 hown20 hg20; obtain ⟨a20, c20, rfl⟩ := own_shape hown20; have ds20 := ds7.ext' ((Ext.refl w7).alloc (.cells (pa3 (mirK (some q)) 0 (.slice ar2 n2 cr2)) 39)); have hl20 := ds20.lbox.grown hg20 (fun e => by have := (ds20.own.lt _ e.symm).1; omega); have l20 : w20.cell? ⟨w.heap.size + 1 + 1 + 1 + 1, 0, none⟩ = some (.slice al L.length cl) := hl20.cell 0; have f20 := hl20.free 0))
     go_roundw
     case rel =>
      refine ⟨k + 1, _, _, hlt, rfl, (DS.app (P := ⟨mirK (some q), 0, .slice ar2 n2 cr2, ps2⟩) ds20 hg20 (by rw [paCells_append]; exact hown20) ((hr2.ext hX7).ext ((Ext.refl _).alloc _))), by simp; omega, ?_⟩
      show _ = _
      rw [HSTEP.out, List.map_append, HD.out]
      simp [stepD, outP, Pa.data, hpm2, mirR, mirK]
     case measure => simp [intOf]; omega
   | some p =>
    cases m2 with
    | none =>
     obtain ⟨vm, bm, rfl, rfl, rfl⟩ := rr6.single hpm1
     go_wp2_with (((guard_target =~ wpList _ _ _ (Oper.mk none (Op.store _ (Operand.tmp 17) (Operand.tmp 48)) _ _ _ _ :: _) _ _); go_must (refine storeBox rfl 39 (.tmp 17) (.tmp 48) rfl (w6.heap.size) _ _ _ (by rfl) (by rfl) ((BoxAt.made w6 (pa3 ⟨#[]⟩ 0 (.slice none 0 0)) 39)) (by kernel_rfl) (by rfl) (by simp [Value.oneCell']) ?_); intro w7 c7 g7); have hX7 : Ext w6 w7 := ((Ext.refl w6).alloc _).grown g7 (fun q hq => by cases hq; omega); have ds7 := ds6.ext' hX7; have p7 := (p6.ext hX7).pa; have r7 := (r6.ext hX7).ro; have l7 : w7.cell? ⟨w.heap.size + 1 + 1 + 1 + 1, 0, none⟩ = some (.slice al L.length cl) := ds7.lbox.cell 0)
     have rr7 := rr6.ext hX7
     refine (leave_any (w.heap.size + 1 + 1 + 1 + 1) (w.heap.size + 1) (w.heap.size + 1 + 1 + 1) (w.heap.size + 5) _ L x u _ 0 p.2 vm bm cr1 M (.slice au mm cu) nk ng _ w w7 ds7.ext (by omega) ds7.size (by omega) ds7.lbox ds7.view ds7.now (by omega) ds7.own ds7.rows rr7 hcu0 (by omega)).mono ?_
     rintro e w8 ⟨⟨zz, rfl⟩, hE8, hkeep, hkeepR, vl8, rv8, ps8, hl8, hown8, hr8, hm8⟩
     obtain ⟨a8, c8, rfl⟩ := own_shape hown8
     have ds8 := DS.leave (P := ⟨mirK (some p), 0, rv8, ps8⟩) ds7 hE8 hkeep hkeepR hl8 hown8 hr8
     clear p7 r7 l7
     go_wp2_with fail
     go_roundw
     case rel =>
      refine ⟨k + 1, _, _, hlt, rfl, ds8, by simp; omega, ?_⟩
      show _ = _
      rw [HSTEP.out, List.map_append, HD.out]
      simp [stepD, outP, Pa.data, hm8, mirK]
     case measure => simp [intOf]; omega
    | some q =>
     by_cases hpk : p.1 = q.1
     ·by_cases hpq : p = q
      ·obtain ⟨vm, bm, rfl, rfl, rfl⟩ := rr6.single hpm1
       subst hpq
       clear hpk
       go_wp2_with (((guard_target =~ wpList _ _ _ (Oper.mk none (Op.store _ (Operand.tmp 17) (Operand.tmp 48)) _ _ _ _ :: _) _ _); go_must (refine storeBox rfl 39 (.tmp 17) (.tmp 48) rfl (w6.heap.size) _ _ _ (by rfl) (by rfl) ((BoxAt.made w6 (pa3 ⟨#[]⟩ 0 (.slice none 0 0)) 39)) (by kernel_rfl) (by rfl) (by simp [Value.oneCell']) ?_); intro w7 c7 g7); have hX7 : Ext w6 w7 := ((Ext.refl w6).alloc _).grown g7 (fun q hq => by cases hq; omega); have ds7 := ds6.ext' hX7; have p7 := (p6.ext hX7).pa; have r7 := (r6.ext hX7).ro; have l7 : w7.cell? ⟨w.heap.size + 1 + 1 + 1 + 1, 0, none⟩ = some (.slice al L.length cl) := ds7.lbox.cell 0; have m7 := c7.pa (k := mirK (some p)) (g := 0) (u := .slice ar2 n2 cr2))
       refine (partSame_any (mirK (some p)) (mirK (some p)) 0 0 _ _ [(p.2, vm)] ps2 w7 (rr6.ext hX7).rows (hr2.ext hX7).rows).mono ?_
       rw [hpm2, show ([(p.2, vm)] : List (Ro × Value)).map (·.1) = [p.2] from rfl]
       rw [eqB_true (show (mirK (some p), (0 : Int), [p.2]) = (mirK (some p), 0, mirR (some p)) from rfl)]
       rintro e w8 ⟨rfl, hE8⟩
       have ds8 := ds7.ext' hE8
       clear p7 r7 l7 m7
       go_wp2_with fail
       go_roundw
       case rel =>
        refine ⟨k + 1, _, _, hlt, rfl, ds8, by omega, ?_⟩
        show _ = _
        rw [HSTEP.out, HD.out]
        simp [stepD, outP, eqB_true]
       case measure => simp [intOf]; omega
      ·obtain ⟨vm, bm, rfl, rfl, rfl⟩ := rr6.single hpm1
       have hkb : ((mirK (some p)).toList == (mirK (some q)).toList) = true := by simpa [mirK] using congrArg ByteArray.toList hpk
       go_wp2_with (((guard_target =~ wpList _ _ _ (Oper.mk none (Op.store _ (Operand.tmp 17) (Operand.tmp 48)) _ _ _ _ :: _) _ _); go_must (refine storeBox rfl 39 (.tmp 17) (.tmp 48) rfl (w6.heap.size) _ _ _ (by rfl) (by rfl) ((BoxAt.made w6 (pa3 ⟨#[]⟩ 0 (.slice none 0 0)) 39)) (by kernel_rfl) (by rfl) (by simp [Value.oneCell']) ?_); intro w7 c7 g7); have hX7 : Ext w6 w7 := ((Ext.refl w6).alloc _).grown g7 (fun q hq => by cases hq; omega); have ds7 := ds6.ext' hX7; have p7 := (p6.ext hX7).pa; have r7 := (r6.ext hX7).ro; have l7 : w7.cell? ⟨w.heap.size + 1 + 1 + 1 + 1, 0, none⟩ = some (.slice al L.length cl) := ds7.lbox.cell 0; have m7 := c7.pa (k := mirK (some q)) (g := 0) (u := .slice ar2 n2 cr2))
       refine (partSame_any (mirK (some p)) (mirK (some q)) 0 0 _ _ [(p.2, vm)] ps2 w7 (rr6.ext hX7).rows (hr2.ext hX7).rows).mono ?_
       rw [hpm2, show ([(p.2, vm)] : List (Ro × Value)).map (·.1) = [p.2] from rfl]
       rw [eqB_false (show (mirK (some p), (0 : Int), [p.2]) ≠ (mirK (some q), 0, mirR (some q)) from fun e => hpq (by
        have e1 : p.1 = q.1 := (Prod.mk.inj e).1
        have e2 : [p.2] = [q.2] := (Prod.mk.inj (Prod.mk.inj e).2).2
        exact Prod.ext e1 (by simpa using e2)))]
       rintro e w8 ⟨rfl, hE8⟩
       have ds8 := ds7.ext' hE8
       have l8 : w8.cell? ⟨w.heap.size + 1 + 1 + 1 + 1, 0, none⟩ = some (.slice al L.length cl) := ds8.lbox.cell 0
       have m8 := (c7.ext hE8).pa (k := mirK (some q)) (g := 0) (u := .slice ar2 n2 cr2)
       clear p7 r7 l7 m7
       go_wp2_with (at_builtin; go_must (refine appR info_Part und_Parts rfl (by decide) w8 rfl (.tmp 76) (.tmp 78) rfl (w.heap.size + 5) ds8.size (.slice al L.length cl) L.length (paCells L) ds8.own rfl 1 (pa3 (mirK (some q)) 0 (.slice ar2 n2 cr2)) rfl rfl (by simp [pa3, Value.oneCell']) (by unfold maxLen; omega) (by omega) ?_); intro v20 w20 hown20 hg20; obtain ⟨a20, c20, rfl⟩ := own_shape hown20; have ds20 := ds8.ext' ((Ext.refl w8).alloc (.cells (pa3 (mirK (some q)) 0 (.slice ar2 n2 cr2)) 39)); have hl20 := ds20.lbox.grown hg20 (fun e => by have := (ds20.own.lt _ e.symm).1; omega); have l20 : w20.cell? ⟨w.heap.size + 1 + 1 + 1 + 1, 0, none⟩ = some (.slice al L.length cl) := hl20.cell 0; have f20 := hl20.free 0)
       go_roundw
       case rel =>
        refine ⟨k + 1, _, _, hlt, rfl, (DS.app (P := ⟨mirK (some q), 0, .slice ar2 n2 cr2, ps2⟩) ds20 hg20 (by rw [paCells_append]; exact hown20) ((hr2.ext (hX7.trans hE8)).ext ((Ext.refl _).alloc _))), by simp; omega, ?_⟩
        show _ = _
        rw [HSTEP.out, List.map_append, HD.out]
        simp [stepD, outP, Pa.data, hpm2, mirR, mirK, eqB_true hpk, eqB_false hpq]
       case measure => simp [intOf]; omega
     ·obtain ⟨vm, bm, rfl, rfl, rfl⟩ := rr6.single hpm1
      have hkb : ((mirK (some p)).toList == (mirK (some q)).toList) = false := by simp [mirK]; exact fun e => hpk (bytes_ext e)
      go_wp2_with (((guard_target =~ wpList _ _ _ (Oper.mk none (Op.store _ (Operand.tmp 17) (Operand.tmp 48)) _ _ _ _ :: _) _ _); go_must (refine storeBox rfl 39 (.tmp 17) (.tmp 48) rfl (w6.heap.size) _ _ _ (by rfl) (by rfl) ((BoxAt.made w6 (pa3 ⟨#[]⟩ 0 (.slice none 0 0)) 39)) (by kernel_rfl) (by rfl) (by simp [Value.oneCell']) ?_); intro w7 c7 g7); have hX7 : Ext w6 w7 := ((Ext.refl w6).alloc _).grown g7 (fun q hq => by cases hq; omega); have ds7 := ds6.ext' hX7; have p7 := (p6.ext hX7).pa; have r7 := (r6.ext hX7).ro; have l7 : w7.cell? ⟨w.heap.size + 1 + 1 + 1 + 1, 0, none⟩ = some (.slice al L.length cl) := ds7.lbox.cell 0; have m7 := c7.pa (k := mirK (some q)) (g := 0) (u := .slice ar2 n2 cr2))
      have rr7 := rr6.ext hX7
      refine (leave_any (w.heap.size + 1 + 1 + 1 + 1) (w.heap.size + 1) (w.heap.size + 1 + 1 + 1) (w.heap.size + 5) _ L x u _ 0 p.2 vm bm cr1 M (.slice au mm cu) nk ng _ w w7 ds7.ext (by omega) ds7.size (by omega) ds7.lbox ds7.view ds7.now (by omega) ds7.own ds7.rows rr7 hcu0 (by omega)).mono ?_
      rintro e w8 ⟨⟨zz, rfl⟩, hE8, hkeep, hkeepR, vl8, rv8, ps8, hl8, hown8, hr8, hm8⟩
      obtain ⟨a8, c8, rfl⟩ := own_shape hown8
      have ds8 := DS.leave (P := ⟨mirK (some p), 0, rv8, ps8⟩) ds7 hE8 hkeep hkeepR hl8 hown8 hr8
      have hq7 : BoxAt w7 w6.heap.size (pa3 (mirK (some q)) 0 (.slice ar2 n2 cr2)) 39 := c7
      have hlt6 := p6.lt
      have p8 := (hkeep _ _ _ (p6.ext hX7) (by omega) (fun e => by have := (hds.own.lt _ e.symm).2; omega))
      have q8 := (hkeep _ _ _ hq7 (by omega) (fun e => by have := (hds.own.lt _ e.symm).2; omega))
      have p8c := p8.pa
      have q8c := q8.pa
      have rr8 := hkeepR _ _ rr7
      have rq8 := hkeepR _ _ (hr2.ext hX7)
      clear p7 r7 l7 m7
      go_wp2_with fail
      refine (partSame_any (mirK (some p)) (mirK (some q)) 0 0 _ _ [(p.2, vm)] ps2 w8 (rr8).rows (rq8).rows).mono ?_
      rw [hpm2, show ([(p.2, vm)] : List (Ro × Value)).map (·.1) = [p.2] from rfl]
      rw [eqB_false (show (mirK (some p), (0 : Int), [p.2]) ≠ (mirK (some q), 0, mirR (some q)) from fun e => hpk (Prod.mk.inj e).1)]
      rintro e w9 ⟨rfl, hE9⟩
      have ds9 := ds8.ext' hE9
      have l9 : w9.cell? ⟨w.heap.size + 1 + 1 + 1 + 1, 0, none⟩ = some (.slice a8 (L.length + 1) c8) := ds9.lbox.cell 0
      have m9 := (q8.ext hE9).pa
      clear p8c q8c
      have hLL : (L ++ [(⟨mirK (some p), 0, rv8, ps8⟩ : Pa)]).length ≤ 30000 := by simp; omega
      go_wp2_with (at_builtin; go_must (refine appR info_Part und_Parts rfl (by decide) w9 rfl (.tmp 76) (.tmp 78) rfl (w.heap.size + 5) ds9.size (.slice a8 (L.length + 1) c8) (L ++ [(⟨mirK (some p), 0, rv8, ps8⟩ : Pa)]).length (paCells (L ++ [⟨mirK (some p), 0, rv8, ps8⟩])) ds9.own rfl 1 (pa3 (mirK (some q)) 0 (.slice ar2 n2 cr2)) rfl rfl (by simp [pa3, Value.oneCell']) (by unfold maxLen; have h30 := hLL; simp only [List.length_append, List.length_cons, List.length_nil] at h30 ⊢; omega) (by have h30 := hLL; simp only [List.length_append, List.length_cons, List.length_nil] at h30 ⊢; omega) ?_); intro v20 w20 hown20 hg20; simp only [List.length_append, List.length_cons, List.length_nil, Nat.zero_add] at hown20; obtain ⟨a20, c20, rfl⟩ := own_shape hown20; have ds20 := ds9.ext' ((Ext.refl w9).alloc (.cells (pa3 (mirK (some q)) 0 (.slice ar2 n2 cr2)) 39)); have hl20 := ds20.lbox.grown hg20 (fun e => by have := (ds20.own.lt _ e.symm).1; omega); have l20 : w20.cell? ⟨w.heap.size + 1 + 1 + 1 + 1, 0, none⟩ = some (.slice a8 (L.length + 1) c8) := hl20.cell 0; have f20 := hl20.free 0)
      go_roundw
      case rel =>
       refine ⟨k + 1, _, _, hlt, rfl, (DS.app (P := ⟨mirK (some q), 0, .slice ar2 n2 cr2, ps2⟩) ds20 hg20 (by rw [paCells_append, List.length_append]; exact hown20) ((rq8.ext hE9).ext ((Ext.refl _).alloc _))), by simp; omega, ?_⟩
       show _ = _
       rw [HSTEP.out, List.map_append, List.map_append, HD.out]
       simp [stepD, outP, Pa.data, hpm2, hm8, mirR, mirK, eqB_false hpk]
      case measure => simp [intOf]; omega
  ·obtain rfl : k = n := by omega
   have l7 : wr.cell? ⟨w.heap.size + 1 + 1 + 1 + 1, 0, none⟩ = some (.slice al L.length cl) := hds.lbox.cell 0
   go_wp2_with fail
   go_ret
   refine ⟨_, rfl, L, ownsRow_base hds.own (by omega), hds.rows, ?_, hds.ext⟩
   rw [HD.out, List.take_of_length_le (by simp; rw [← HN.out]; exact Nat.le_refl _)]
end Go.Proofs.YtolkhjdododdaaaGreatDoor

/- Mutations in memory: a table's name, a partition; 'append' to a list of them of one's own. -/
namespace Go.Proofs.YtolkhjdododdaaaGreatDoor
open Go Go.RowKit

structure Mt where
 table : ByteArray
 pa : Pa
theorem info_Mut : (Tryz.prog.info? 97).map (fun i => (i.zero, i.size, i.bytes)) = some (some (.agg #[.string ⟨#[]⟩, .string ⟨#[]⟩, .int .i64 0, .slice none 0 0]), 4, 64) := by kernel_rfl
theorem und_Muts : Tryz.prog.underlying 64 = some (.slice 97) := by kernel_rfl
def mt4 (m : Mt) : Array Value := #[.string m.table, .string m.pa.key, .int .i64 m.pa.gone, m.pa.rv]
def mtCells (l : List Mt) : List Value := l.flatMap fun m => (mt4 m).toList
theorem mtCells_length (l : List Mt) : (mtCells l).length = l.length * 4 := by
 induction l with
 | nil => rfl
 | cons c l ih => simp only [mtCells, List.flatMap_cons, List.length_append] at ih ⊢; rw [ih]; simp [mt4]; omega
theorem mtCells_append (l m : List Mt) : mtCells (l ++ m) = mtCells l ++ mtCells m := by simp [mtCells]
theorem mtCells_get : ∀ (l : List Mt) (k : Nat) (h : k < l.length) (j : Nat), j < 4 → (mtCells l)[k * 4 + j]? = (mt4 l[k])[j]?
 | c :: l, 0, _, j, hj => by
  obtain rfl | rfl | rfl | rfl : j = 0 ∨ j = 1 ∨ j = 2 ∨ j = 3 := by omega
  all_goals simp [mtCells, mt4]
 | c :: l, k + 1, h, j, hj => by
  have ih := mtCells_get l k (by simpa using h) j hj
  have e : (k + 1) * 4 + j = k * 4 + j + 4 := by omega
  have e2 : mtCells (c :: l) = .string c.table :: .string c.pa.key :: .int .i64 c.pa.gone :: c.pa.rv :: mtCells l := by simp [mtCells, mt4]
  rw [e, e2]
  simp only [List.getElem_cons_succ]
  simpa using ih
/-- Mutations in memory. -/
structure MtsIn (w : World) (v : Value) (l : List Mt) : Prop where
 sl : SliceIn w v l.length (mtCells l)
 rows : ∀ m ∈ l, RowsIn w m.pa.rv m.pa.ps
theorem MtsIn.ext {w w' : World} (hE : Ext w w') {v : Value} {l : List Mt} (h : MtsIn w v l) : MtsIn w' v l := ⟨h.sl.ext hE, fun m hm => (h.rows m hm).ext hE⟩
theorem MtsIn.nil (w : World) : MtsIn w (.slice none 0 0) [] := ⟨SliceIn.nil w, nofun⟩
structure MtAt (w : World) (b o : Nat) (m : Mt) : Prop where
 c0 : w.cell? ⟨b, o, none⟩ = some (.string m.table)
 c1 : w.cell? ⟨b, o + 1, none⟩ = some (.string m.pa.key)
 c2 : w.cell? ⟨b, o + 2, none⟩ = some (.int .i64 m.pa.gone)
 c3 : w.cell? ⟨b, o + 3, none⟩ = some m.pa.rv
theorem MtAt.ext {w w' : World} (hE : Ext w w') {b o : Nat} {m : Mt} (h : MtAt w b o m) : MtAt w' b o m := ⟨hE.cell h.c0, hE.cell h.c1, hE.cell h.c2, hE.cell h.c3⟩
theorem MtsIn.get {w : World} {v : Value} {l : List Mt} (h : MtsIn w v l) : ∃ a c, v = .slice a l.length c ∧ l.length ≤ c ∧ c ≤ 9223372036854775807 ∧ ∀ k (hk : k < l.length), ∃ b o, a = some ⟨b, o, none⟩ ∧ MtAt w b (o + k * 4) l[k] := by
 obtain ⟨a, c, rfl, hc, hcm, ha, hcell⟩ := h.sl
 unfold maxLen at hcm
 refine ⟨a, c, rfl, hc, by omega, fun k hk => ?_⟩
 have g := fun j (hj : j < 4) => mtCells_get l k hk j hj
 obtain ⟨b, o, rfl, h0⟩ := hcell (k * 4 + 0) _ (g 0 (by decide))
 obtain ⟨b1, o1, e1, h1⟩ := hcell (k * 4 + 1) _ (g 1 (by decide))
 cases e1
 obtain ⟨b1, o1, e1, h2⟩ := hcell (k * 4 + 2) _ (g 2 (by decide))
 cases e1
 obtain ⟨b1, o1, e1, h3⟩ := hcell (k * 4 + 3) _ (g 3 (by decide))
 cases e1
 exact ⟨b, o, rfl, h0, by rw [Nat.add_assoc]; exact h1, by rw [Nat.add_assoc]; exact h2, by rw [Nat.add_assoc]; exact h3⟩
/-- Mutations in blocks of their own types. -/
structure MtsT (w : World) (v : Value) (l : List Mt) : Prop where
 tin : TIn w 97 v l.length (mtCells l)
 rows : ∀ m ∈ l, RowsT w m.pa.rv m.pa.ps
theorem MtsT.ext {w w' : World} (hE : Ext w w') {v : Value} {l : List Mt} (h : MtsT w v l) : MtsT w' v l := ⟨h.tin.ext hE, fun m hm => (h.rows m hm).ext hE⟩
theorem mtCells_one (l : List Mt) (h : ∀ p ∈ l, ∃ a n c, p.pa.rv = .slice a n c) : ∀ u ∈ mtCells l, u.oneCell' = true := by
 intro u hu
 simp only [mtCells, List.mem_flatMap] at hu
 obtain ⟨p, hp, hu⟩ := hu
 obtain ⟨a, n, c, e⟩ := h p hp
 simp only [mt4, e, List.mem_cons, List.not_mem_nil, or_false] at hu
 rcases hu with rfl | rfl | rfl | rfl <;> rfl
theorem appMts {ops : Array Oper} {rest : List Oper} {o : Oper} {a : Act} {Q : Exit → Act → World → Prop} (w : World) (hg : o.guard = none) (s x : Operand)
  (hop : o.op = Op.call { callee := Callee.builtin Builtin.append, args := #[s, x], argTypes := #[64, 64] })
  (B : Nat) (hB : B ≤ w.heap.size) (v : Value) (l : List Mt) (hown : w.ownsRow B 97 4 v l.length (mtCells l)) (hs : a.eval s = v) (u : Value) (m : List Mt) (hin : SliceIn w u m.length (mtCells m)) (hsh : ∀ p ∈ m, ∃ a n c, p.pa.rv = .slice a n c) (hx : a.eval x = u) (hb : l.length + m.length ≤ 1000000)
  (hK : ∀ v' w', w'.ownsRow B 97 4 v' (l ++ m).length (mtCells (l ++ m)) → w.grownBy w' v.ownBlock → wpList Tryz.prog ops Q rest (a.put o.dst v') w') : wpList Tryz.prog ops Q (o :: rest) a w := by
 obtain ⟨i0, hi, hz0, hz1, hz2⟩ := info_parts info_Mut
 obtain ⟨ao, c, rfl, hc, hcm, ha, hcell⟩ := hin
 have hone := mtCells_one m hsh
 cases ao with
 | none =>
  have hc0 := ha rfl
  obtain rfl : m = [] := List.eq_nil_of_length_eq_zero (by omega)
  subst hc0
  refine wpList_append_own_none hg s x 64 hop B 97 i0 4 und_Muts hi v l.length (mtCells l) hs hown hx (hK _ _ (by rw [List.append_nil]; exact hown) ⟨rfl, rfl, rfl, Nat.le_refl _, fun _ _ _ => rfl⟩)
 | some ad =>
  refine wpList_append_own _ hg s x 64 hop B 97 i0 _ 4 64 und_Muts hi hz0 hz1 hz2 rfl (by decide) v l.length (mtCells l) hs hown ad m.length c (mtCells m) hx (mtCells_length m) ?_ hone (by unfold maxLen; omega) (by omega) hB ?_
  ·intro j u hj
   obtain ⟨b, o, e, h⟩ := hcell j u hj
   cases e
   rw [Addr.add_lit]
   exact h
  ·intro v' w' h2 h3 _
   refine hK v' w' ?_ h3
   rw [mtCells_append, List.length_append]
   exact h2
theorem mts_one (w : World) (m : Mt) (T : TypeId) : SliceIn (w.alloc (.cells (mt4 m) T)) (.slice (some ⟨w.heap.size, 0, none⟩) 1 1) 1 (mtCells [m]) := by
 have : mtCells [m] = (mt4 m).toList := by simp [mtCells]
 rw [this]
 exact SliceIn.made w (mt4 m) T 1 (by unfold maxLen; decide)
end Go.Proofs.YtolkhjdododdaaaGreatDoor

/- Partitions, mutations as plain data. -/
namespace Go.Proofs.YtolkhjdododdaaaGreatDoor
open Go Go.RowKit

/-- A partition: its key, what is gone, its rows. -/
structure Pt where
 key : ByteArray
 gone : Int
 rows : List Ro
/-- A mutation, whatever its memory. -/
structure Mq where
 table : ByteArray
 pt : Pt
def Mt.q (m : Mt) : Mq := ⟨m.table, ⟨m.pa.key, m.pa.gone, m.pa.ps.map (·.1)⟩⟩
end Go.Proofs.YtolkhjdododdaaaGreatDoor

/- Chapter 19's partitions of one row (the closures of DeltaMoves and of the example). -/
namespace Go.Proofs.YtolkhjdododdaaaGreatDoor
open Go Go.RowKit
attribute [local go_sem] yields yUpon ro8 pa3 co5

/-- The row k with one cell in the column a. -/
def kRow (c : Cl) : Ro := ⟨⟨#[107]⟩, zeroCl, 0, 0, [⟨⟨#[97]⟩, c⟩]⟩
def oneC (val : ByteArray) (at_ : Int) (dead : Bool) : Cl := if dead then ⟨⟨#[]⟩, true, at_, 0⟩ else ⟨val, false, at_, 0⟩

theorem one_rows {w : World} {b c : Nat} {d : Cl} (hb : BoxAt w b (co5 ⟨⟨#[97]⟩, d⟩) 69) (hc : BoxAt w c (ro8 (kRow d) (.slice (some ⟨b, 0, none⟩) 1 1)) 47) : RowsT w (.slice (some ⟨c, 0, none⟩) 1 1) [(kRow d, .slice (some ⟨b, 0, none⟩) 1 1)] :=
 RowsT.one hc (TIn.box (xs := coCells [⟨⟨#[97]⟩, d⟩]) hb (by unfold maxLen; decide))

set_option maxRecDepth 100000 in
set_option maxHeartbeats 4000000 in
theorem one19_any (val : ByteArray) (at_ : Int) (w : World) : Calls Tryz.prog 21 #[.string val, .int .i64 at_] w fun e w' => ∃ b v', e = .returned (.agg #[.string ⟨#[109]⟩, .int .i64 0, .slice (some ⟨b, 0, none⟩) 1 1]) ∧ RowsT w' (.slice (some ⟨b, 0, none⟩) 1 1) [(kRow ⟨val, false, at_, 0⟩, v')] ∧ Ext w w' := by
 go_enter Tryz.func21, Tryz.ntmps21
 go_wp2_with (((guard_target =~ wpList _ _ _ (Oper.mk none (Op.store _ (Operand.tmp 4) (Operand.tmp 12)) _ _ _ _ :: _) _ _); go_must (refine storeBox rfl 39 (.tmp 4) (.tmp 12) rfl (w.heap.size) _ _ _ (by rfl) (by rfl) ((((BoxAt.made w (pa3 ⟨#[]⟩ 0 (.slice none 0 0)) 39).ext ((Ext.refl _).alloc _)).ext ((Ext.refl _).alloc _))) (by kernel_rfl) (by rfl) (by simp [Value.oneCell']) ?_); intro w1 c1 g1))
 have hX : Ext w w1 := ((((Ext.refl w).alloc _).alloc _).alloc _).grown g1 (fun q hq => by cases hq; omega)
 have hb : BoxAt w1 (w.heap.size + 1) (co5 ⟨⟨#[97]⟩, ⟨val, false, at_, 0⟩⟩) 69 := ((BoxAt.madeN (co5 ⟨⟨#[97]⟩, ⟨val, false, at_, 0⟩⟩) 69 (by simp)).ext ((Ext.refl _).alloc _)).grown g1 (fun e => by have := Option.some.inj e; omega)
 have hc : BoxAt w1 (w.heap.size + 1 + 1) (ro8 (kRow ⟨val, false, at_, 0⟩) (.slice (some ⟨w.heap.size + 1, 0, none⟩) 1 1)) 47 := (BoxAt.madeN (ro8 (kRow ⟨val, false, at_, 0⟩) (.slice (some ⟨w.heap.size + 1, 0, none⟩) 1 1)) 47 (by simp)).grown g1 (fun e => by have := Option.some.inj e; omega)
 obtain ⟨z0, z1, z2⟩ := c1.pa (k := ⟨#[109]⟩) (g := 0) (u := .slice (some ⟨w.heap.size + 1 + 1, 0, none⟩) 1 1)
 refine bodyPost_ret (v := .agg #[.string ⟨#[109]⟩, .int .i64 0, .slice (some ⟨w.heap.size + 1 + 1, 0, none⟩) 1 1]) ?_ rfl ⟨_, _, rfl, one_rows hb hc, hX⟩
 simp [results, Tryz.results21, go_sem, z0, z1, z2]
end Go.Proofs.YtolkhjdododdaaaGreatDoor
