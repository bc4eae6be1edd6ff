/- clerestoryref19.Of. -/
import Derived.Test.YtolkhjdododdaaaGreatDoorP24
import Derived.Test.YtolkhjdododdaaaGreatDoorP27
import Derived.Test.YtolkhjdododdaaaGreatDoorP28
import Derived.Test.YtolkhjdododdaaaGreatDoorP21
import Derived.Test.YtolkhjdododdaaaGreatDoorP32
import Derived.Test.YtolkhjdododdaaaGreatDoorP30
import Derived.Test.YtolkhjdododdaaaGreatDoorP19
import Derived.Test.YtolkhjdododdaaaGreatDoorP6
import Derived.Test.YtolkhjdododdaaaGreatDoorP3
set_option linter.unusedSimpArgs false
set_option linter.unusedVariables false
namespace Go.Proofs.YtolkhjdododdaaaGreatDoor
open Go Go.RowKit
attribute [local go_sem] yields yUpon ro8 pa3 vw5

/-- What leaves a view's partition, what comes to one. -/
noncomputable def goesD (x : Vw) (ng : Int) (r : Ro) : Option (ByteArray × Ro) → Option (ByteArray × Ro) → List (ByteArray × Ro)
 | none, _ => []
 | some p, none => [(p.1, leftRo x p.2 r ng)]
 | some p, some q => if eqB p.1 q.1 then [] else [(p.1, leftRo x p.2 r ng)]
noncomputable def comesD : Option (ByteArray × Ro) → Option (ByteArray × Ro) → List (ByteArray × Ro)
 | _, none => []
 | none, some q => [q]
 | some p, some q => if eqB p q then [] else [q]
theorem stepD_is (x : Vw) (ng : Int) (r : Ro) (m1 m2 : Option (ByteArray × Ro)) : stepD x ng r m1 m2 = goesD x ng r m1 m2 ++ comesD m1 m2 := by
 cases m1 with
 | none => cases m2 <;> rfl
 | some p =>
  cases m2 with
  | none => rfl
  | some q =>
   by_cases h : p.1 = q.1
   ·simp [stepD, goesD, comesD, eqB_true h]
   ·have h2 : p ≠ q := fun e => h (by rw [e])
    simp [stepD, goesD, comesD, eqB_false h, eqB_false h2]
/-- What stays true from round to round. -/
structure DO (w : World) (x : Vw) (u : Value) (ok : ByteArray) (og : Int) (ou : Value) (nk : ByteArray) (ng : Int) (nu : Value) (vl : Value) (L : List Pa) (y : World) : Prop where
 ext : Ext w y
 view : BoxAt y w.heap.size (vw5 x u) 31
 old : BoxAt y (w.heap.size + 1) (pa3 ok og ou) 39
 now : BoxAt y (w.heap.size + 1 + 1) (pa3 nk ng nu) 39
 own : y.ownsRow (w.heap.size + 3) 39 3 vl L.length (paCells L)
 rows : ∀ p ∈ L, RowsT y p.rv p.ps
 size : w.heap.size + 3 ≤ y.heap.size
section
variable {w : World} {x : Vw} {u : Value} {ok : ByteArray} {og : Int} {ou : Value} {nk : ByteArray} {ng : Int} {nu : Value} {vl : Value} {L : List Pa}
theorem DO.ext' {y z : World} (hE : Ext y z) (h : DO w x u ok og ou nk ng nu vl L y) : DO w x u ok og ou nk ng nu vl L z :=
 ⟨h.ext.trans hE, h.view.ext hE, h.old.ext hE, h.now.ext hE, ownsRow_ext h.own hE, fun p hp => (h.rows p hp).ext hE, Nat.le_trans h.size hE.le⟩
theorem DO.app {y z : World} {v' : Value} {P : Pa} (h : DO w x u ok og ou nk ng nu vl L y) (hg : y.grownBy z vl.ownBlock) (hown : z.ownsRow (w.heap.size + 3) 39 3 v' (L ++ [P]).length (paCells (L ++ [P]))) (hP : RowsT y P.rv P.ps) : DO w x u ok og ou nk ng nu v' (L ++ [P]) z := by
 have ne : ∀ b, b < w.heap.size + 3 → some b ≠ vl.ownBlock := fun b hb e => by have := (h.own.lt _ e.symm).1; omega
 refine ⟨h.ext.grown hg (fun q hq => by have := (h.own.lt q hq).1; omega), h.view.grown hg (ne _ (by omega)), h.old.grown hg (ne _ (by omega)), h.now.grown hg (ne _ (by omega)), hown, fun p hp => ?_, Nat.le_trans h.size hg.size⟩
 rcases List.mem_append.1 hp with hp | hp
 ·exact (h.rows p hp).keepOwn h.own hg (by decide) (by decide)
 ·rw [List.mem_singleton.1 hp]
  exact hP.keepOwn h.own hg (by decide) (by decide)
end
/-- One row, one partition in new memory. -/
structure LP (JL : Ro) (v : Value) (y : World) : Prop where
 ex : ∃ b v', v = .slice (some ⟨b, 0, none⟩) 1 1 ∧ RowsT y v [(JL, v')]
theorem LP.ext {JL : Ro} {v : Value} {y z : World} (hE : Ext y z) (h : LP JL v y) : LP JL v z := by
 obtain ⟨b, v', e, h1⟩ := h.ex
 exact ⟨b, v', e, h1.ext hE⟩
structure BP (K : ByteArray) (JL : Ro) (v : Value) (y : World) : Prop where
 ex : ∃ b rv v', v = .slice (some ⟨b, 0, none⟩) 1 1 ∧ PartsT y v [⟨K, 0, rv, [(JL, v')]⟩]
theorem BP.ext {K : ByteArray} {JL : Ro} {v : Value} {y z : World} (hE : Ext y z) (h : BP K JL v y) : BP K JL v z := by
 obtain ⟨b, rv, v', e, h1⟩ := h.ex
 exact ⟨b, rv, v', e, h1.ext hE⟩
theorem LP.made {JL : Ro} {v' : Value} {y : World} (h : ColsT y v' JL.cols) : LP JL (.slice (some ⟨y.heap.size, 0, none⟩) 1 1) (y.alloc (.cells (ro8 JL v') 47)) :=
 ⟨_, v', rfl, TIn.box (xs := roCells [(JL, v')]) (BoxAt.made y (ro8 JL v') 47) (by unfold maxLen; decide), fun p hp => by rw [List.mem_singleton.1 hp]; exact TIn.ext ((Ext.refl y).alloc _) h⟩
theorem BP.made {K : ByteArray} {JL : Ro} {rv : Value} {y : World} (h : LP JL rv y) : BP K JL (.slice (some ⟨y.heap.size, 0, none⟩) 1 1) (y.alloc (.cells (pa3 K 0 rv) 39)) := by
 obtain ⟨b, v', e, h1⟩ := h.ex
 exact ⟨_, rv, v', rfl, TIn.box (xs := paCells [⟨K, 0, rv, [(JL, v')]⟩]) (BoxAt.made y (pa3 K 0 rv) 39) (by unfold maxLen; decide), fun p hp => by rw [List.mem_singleton.1 hp]; exact h1.ext ((Ext.refl y).alloc _)⟩
set_option maxRecDepth 100000 in
set_option maxHeartbeats 16000000 in
theorem of19_any (x : Vw) (u : Value) (ns : List ByteArray) (ok : ByteArray) (og : Int) (ou : Value) (pso : List (Ro × Value)) (nk : ByteArray) (ng : Int) (nu : Value) (psn : List (Ro × Value)) (w : World)
  (ho : RowsIn w ou pso) (hn : RowsIn w nu psn) (hns : StrsIn w u ns) (hco : ∀ p ∈ pso, p.1.cols.length ≤ 1000000) (hcn : ∀ p ∈ psn, p.1.cols.length ≤ 1000000) (hlen : psn.length ≤ 10000)
  (hok : ok.size ≤ 10000000) (hnk : nk.size ≤ 10000000) (hkey : ∀ p ∈ psn, p.1.key.size ≤ 10000000 ∧ (vkey ok p.1.key).size ≤ 400 ∧ (vkey nk p.1.key).size ≤ 400) :
  Calls Tryz.prog 16 #[.agg #[.string x.name, .int .i64 x.id, .string x.table, .string x.on, u], .agg #[.string ok, .int .i64 og, ou], .agg #[.string nk, .int .i64 ng, nu]] w fun e w' =>
   ∃ v', e = .returned v' ∧ ∃ L, w'.ownsRow w.heap.size 39 3 v' L.length (paCells L) ∧ (∀ p ∈ L, RowsT w' p.rv p.ps) ∧ L.map Pa.data = outP (deltaRs x ns ok og nk ng (pso.map (·.1)) (psn.map (·.1))) ∧ Ext w w' := by
 obtain ⟨a0, a1, a2, hE⟩ := boxes3 w (vw5 x u) (pa3 ok og ou) (pa3 nk ng nu) 31 39 39
 obtain ⟨aa, ca, rfl, hca, hcma, hget⟩ := hn.get
 obtain ⟨n, hnn⟩ : ∃ n, n = psn.length := ⟨_, rfl⟩
 rw [← hnn] at hlen hca a0 a1 a2 hE ⊢
 have HN := Lib.hid hnn
 have HGET := Lib.hid hget
 have HCS := Lib.hid hn.cols
 have HKEY := Lib.hid hkey
 have HCN := Lib.hid hcn
 have HCO := Lib.hid hco
 have HO := Lib.hid ho
 have hds : DO w x u ok og ou nk ng (.slice aa n ca) (.slice none 0 0) [] _ := ⟨hE, a0, a1, a2, World.ownsRow_nil _ _ _ _, nofun, by have := a2.lt; omega⟩
 clear hnn hget a0 a1 a2 hE hkey hcn hco ho hn
 go_enter Tryz.func16, Tryz.ntmps16
 go_wp2_with fail
 go_loopw [7, 8] (fun vl i wr => ∃ (k : Nat) (L : List Pa), k ≤ n ∧ i = .int .i64 k ∧ DO w x u ok og ou nk ng (.slice aa n ca) vl L wr ∧ L.length ≤ 2 * k ∧ Hid (L.map Pa.data = outP (deltaRs x ns ok og nk ng (pso.map (·.1)) ((psn.map (·.1)).take k)))) (fun _ i _ => n - (intOf i).toNat)
 case atStart => exact ⟨0, [], Nat.zero_le _, rfl, hds, by simp, rfl⟩
 case round =>
  obtain ⟨k, L, hk, rfl, hd, hLk, HD⟩ := hrel
  clear hds
  obtain ⟨al, cl, hvl⟩ := own_shape hd.own
  obtain ⟨nL, hnL⟩ : ∃ n, n = L.length := ⟨_, rfl⟩
  rw [← hnL] at hvl
  subst hvl
  have hnLk : nL ≤ 2 * k := by omega
  have HNL := Lib.hid hnL
  clear hnL
  obtain ⟨q0, q1, q2⟩ := hd.now.pa
  by_cases hlt : k < n
  ·have hkp : k < psn.length := by rw [← HN.out]; exact hlt
   have hki : decide ((k : Int) < (n : Int)) = true := by simpa using hlt
   have hkc := HCN.out _ (List.getElem_mem hkp)
   have hcu := HCS.out _ (List.getElem_mem hkp)
   obtain ⟨hky1, hky2, hky3⟩ := HKEY.out _ (List.getElem_mem hkp)
   obtain ⟨b, o, rfl, hat⟩ := HGET.out k hkp
   have hsnoc : (psn.map (·.1)).take (k + 1) = (psn.map (·.1)).take k ++ [psn[k].1] := by
    rw [List.take_succ_eq_append_getElem (by simpa using hkp)]
    simp
   obtain ⟨M, hM⟩ : ∃ M, M = psn[k].1 := ⟨_, rfl⟩
   obtain ⟨au, cu, hu⟩ := hcu.shape
   rw [← hM] at hkc hcu hu hsnoc hat hky1 hky2 hky3
   rw [hu] at hcu hat
   have HSN := Lib.hid hsnoc
   have HK3 := Lib.hid hky3
   clear hM hu hsnoc hky3
   obtain ⟨x0, x1, x2, x3, x4, x5, x6, x7⟩ := hat.ext hd.ext
   obtain ⟨R, hR⟩ : ∃ R, R = rowOf (pso.map (·.1)) M.key := ⟨_, rfl⟩
   have HR := Lib.hid hR
   have hRk : R.key = M.key := by rw [hR]; exact rowOf_is _ _
   have hRc : R.cols.length ≤ 1000000 := by
    rcases rowOf_or (pso.map (·.1)) M.key with h | h
    ·obtain ⟨p, hp, e⟩ := List.mem_map.1 h
     rw [hR, ← e]; exact HCO.out p hp
    ·rw [hR, h]; decide
   have hk1 : R.key.size ≤ 10000000 := by rw [hRk]; exact hky1
   have hk2 : (vkey ok R.key).size ≤ 400 := by rw [hRk]; exact hky2
   have HK1 := Lib.hid hk1
   have HK2 := Lib.hid hk2
   have HY1 := Lib.hid hky1
   clear hR hRk hk1 hk2 hky2 hky1 hat
   go_wp2_with (((guard_target =~ wpList _ _ _ (Oper.mk none (Op.store _ (Operand.tmp 9) (Operand.tmp 27)) _ _ _ _ :: _) _ _); go_must (refine storeBox rfl 47 (.tmp 9) (.tmp 27) rfl (wr.heap.size) _ _ _ (by rfl) (by rfl) ((BoxAt.made wr (ro8 ⟨⟨#[]⟩, zeroCl, 0, 0, []⟩ (.slice none 0 0)) 47)) (by kernel_rfl) (by rfl) (by simp [Value.oneCell']) ?_); intro w1 c1 g1); have hX1 : Ext wr w1 := ((Ext.refl wr).alloc _).grown g1 (fun q hq => by cases hq; omega); have d1 := c1.ro (r := M) (v := .slice au M.cols.length cu); have e1 := (hd.ext' hX1).old.pa)
   have hd1 := hd.ext' hX1
   have r1 : BoxAt w1 wr.heap.size (ro8 M (.slice au M.cols.length cu)) 47 := c1
   refine (row8_any ok og ou pso M.key w1 (HO.out.ext hd1.ext)).mono ?_
   rw [← HR.out]
   rintro e w2 ⟨v2, rfl, hc2, hE2⟩
   obtain ⟨a2, cc2, hv2⟩ := hc2.shape
   subst hv2
   have hd2 := hd1.ext' hE2
   have r2 := r1.ext hE2
   clear q0 q1 q2 x0 x1 x2 x3 x4 x5 x6 x7 c1 g1 d1 e1 hX1 hE2 r1 hd1
   go_wp2_with (((guard_target =~ wpList _ _ _ (Oper.mk none (Op.store _ (Operand.tmp 10) (Operand.tmp 33)) _ _ _ _ :: _) _ _); go_must (refine storeBox rfl 47 (.tmp 10) (.tmp 33) rfl (w2.heap.size) _ _ _ (by rfl) (by rfl) ((BoxAt.made w2 (ro8 ⟨⟨#[]⟩, zeroCl, 0, 0, []⟩ (.slice none 0 0)) 47)) (by kernel_rfl) (by rfl) (by simp [Value.oneCell']) ?_); intro w3 c3 g3); have hX3 : Ext w2 w3 := ((Ext.refl w2).alloc _).grown g3 (fun q hq => by cases hq; omega); have hd3 := hd2.ext' hX3; have d3 := c3.ro (r := R) (v := .slice a2 R.cols.length cc2); have q2 := hd3.view.vw; have q3 := hd3.old.pa)
   have r3 := r2.ext hX3
   refine (mirror18_any x u ns ok og ou R _ w3 (hc2.ext hX3) hRc (hns.ext hd3.ext) hok HK1.out).mono ?_
   rw [mirF_short HK2.out]
   obtain ⟨m1, hm1⟩ : ∃ m, m = mirOf x ns ok og R := ⟨_, rfl⟩
   rw [← hm1]
   have HM1 := Lib.hid hm1
   clear hm1
   rintro e w4 ⟨rv1, rfl, ps1, hr1, hpm1, hE4⟩
   obtain ⟨ar1, cr1, hvr1⟩ := hr1.shape
   obtain ⟨n1, hn1⟩ : ∃ n, n = ps1.length := ⟨_, rfl⟩
   rw [← hn1] at hvr1
   subst hvr1
   have hd4 := hd3.ext' hE4
   have r4 := r3.ext hE4
   have HPM1 := Lib.hid hpm1
   have HN1 := Lib.hid hn1
   clear q2 q3 d3 c3 g3 hX3 hE4 hd2 hd3 r2 r3 hn1 hpm1
   go_wp2_with (((guard_target =~ wpList _ _ _ (Oper.mk none (Op.store _ (Operand.tmp 12) (Operand.tmp 40)) _ _ _ _ :: _) _ _); go_must (refine storeBox rfl 39 (.tmp 12) (.tmp 40) rfl (w4.heap.size) _ _ _ (by rfl) (by rfl) ((BoxAt.made w4 (pa3 ⟨#[]⟩ 0 (.slice none 0 0)) 39)) (by kernel_rfl) (by rfl) (by simp [Value.oneCell']) ?_); intro w5 c5 g5); have hX5 : Ext w4 w5 := ((Ext.refl w4).alloc _).grown g5 (fun q hq => by cases hq; omega); have hd5 := hd4.ext' hX5; have r5 := r4.ext hX5; have d5 := r5.ro; have q2 := hd5.view.vw; have q3 := hd5.now.pa)
   refine (mirror18_any x u ns nk ng _ M _ w5 (hcu.ext hd5.ext) hkc (hns.ext hd5.ext) hnk HY1.out).mono ?_
   rw [mirF_short HK3.out]
   obtain ⟨m2, hm2⟩ : ∃ m, m = mirOf x ns nk ng M := ⟨_, rfl⟩
   rw [← hm2]
   have HM2 := Lib.hid hm2
   clear hm2
   rintro e w6 ⟨rv2, rfl, ps2, hr2, hpm2, hE6⟩
   obtain ⟨ar2, cr2, hvr2⟩ := hr2.shape
   obtain ⟨n2, hn2⟩ : ∃ n, n = ps2.length := ⟨_, rfl⟩
   rw [← hn2] at hvr2
   subst hvr2
   have p5 : BoxAt w5 w4.heap.size (pa3 (mirK m1) 0 (.slice ar1 n1 cr1)) 39 := c5
   have p6 := p5.ext hE6
   have hd6 := hd5.ext' hE6
   have r6 := r5.ext hE6
   have rr6 := (hr1.ext hX5).ext hE6
   have HPM2 := Lib.hid hpm2
   have HN2 := Lib.hid hn2
   have hltr : w.heap.size + 3 ≤ wr.heap.size := hd.size
   have hlt4 : wr.heap.size < w4.heap.size := r4.lt
   have hlt6 : w4.heap.size < w6.heap.size := p6.lt
   have hownlt : ∀ q, (Value.slice al nL cl).ownBlock = some q → q < wr.heap.size := fun q hq => (hd.own.lt q hq).2
   clear d5 q2 q3 c5 g5 hX5 hE6 hd4 hd5 r4 r5 p5 hr1 hn2 hpm2
   have HSTEP : Hid (deltaRs x ns ok og nk ng (pso.map (·.1)) ((psn.map (·.1)).take (k + 1)) = deltaRs x ns ok og nk ng (pso.map (·.1)) ((psn.map (·.1)).take k) ++ (goesD x ng M m1 m2 ++ comesD m1 m2)) := by
    show _ = _
    rw [HSN.out, deltaRs_snoc, ← HR.out, ← HM1.out, ← HM2.out, stepD_is]
   cases m1 with
   | none =>
    cases m2 with
    | none =>
     go_wp2_with (((guard_target =~ wpList _ _ _ (Oper.mk none (Op.store _ (Operand.tmp 14) (Operand.tmp 47)) _ _ _ _ :: _) _ _); go_must (refine storeBox rfl 39 (.tmp 14) (.tmp 47) rfl (w6.heap.size) _ _ _ (by rfl) (by rfl) ((BoxAt.made w6 (pa3 ⟨#[]⟩ 0 (.slice none 0 0)) 39)) (by kernel_rfl) (by rfl) (by simp [Value.oneCell']) ?_); intro w7 c7 g7); have hX7 : Ext w6 w7 := ((Ext.refl w6).alloc _).grown g7 (fun q hq => by cases hq; omega); have k7 := c7.pa (k := mirK none) (g := 0) (u := .slice ar2 n2 cr2); have l7 := (p6.ext hX7).pa; have hd7 := hd6.ext' hX7; have o7 := hd7.own)
     go_roundw
     case rel =>
      refine ⟨k + 1, L, by omega, by go_num, hd7, by omega, ?_⟩
      show _ = _
      rw [HSTEP.out, HD.out]
      simp [goesD, comesD, outP]
     case measure => simp [intOf]; omega
    | some q =>
     go_wp2_with (first | (((guard_target =~ wpList _ _ _ (Oper.mk none (Op.store _ (Operand.tmp 14) (Operand.tmp 47)) _ _ _ _ :: _) _ _); go_must (refine storeBox rfl 39 (.tmp 14) (.tmp 47) rfl (w6.heap.size) _ _ _ (by rfl) (by rfl) ((BoxAt.made w6 (pa3 ⟨#[]⟩ 0 (.slice none 0 0)) 39)) (by kernel_rfl) (by rfl) (by simp [Value.oneCell']) ?_); intro w7 c7 g7); have hX7 : Ext w6 w7 := ((Ext.refl w6).alloc _).grown g7 (fun q hq => by cases hq; omega); have k7 := c7.pa (k := mirK (some q)) (g := 0) (u := .slice ar2 n2 cr2); have l7 := (p6.ext hX7).pa; have hd7 := hd6.ext' hX7; have o7 := hd7.own) | (at_builtin; go_must (refine appR info_Part und_Parts rfl (by decide) w7 rfl (.tmp 93) (.tmp 95) rfl (w.heap.size + 3) hd7.size (.slice al nL cl) (nL) (paCells L) (by rw [HNL.out] at o7 ⊢; exact o7) rfl 1 (pa3 (mirK (some q)) 0 (.slice ar2 n2 cr2)) rfl rfl (by simp [pa3, Value.oneCell']) (by unfold maxLen; omega) (by omega) ?_); intro v20 w20 hown20 hg20; obtain ⟨a20, c20, hv20⟩ := own_shape hown20; subst hv20))
     have hd20 : DO w x u ok og ou nk ng (.slice (some ⟨b, o, none⟩) n ca) (.slice a20 (nL + 1) c20) (L ++ [⟨mirK (some q), 0, .slice ar2 n2 cr2, ps2⟩]) w20 := by
      refine DO.app (hd7.ext' ((Ext.refl w7).alloc _)) hg20 ?_ ((hr2.ext hX7).ext ((Ext.refl _).alloc _))
      rw [paCells_append, List.length_append, ← HNL.out]
      exact hown20
     go_roundw
     case rel =>
      refine ⟨k + 1, L ++ [⟨mirK (some q), 0, .slice ar2 n2 cr2, ps2⟩], by omega, by go_num, hd20, by simp; omega, ?_⟩
      show _ = _
      rw [HSTEP.out, List.map_append, HD.out]
      simp [goesD, comesD, outP, Pa.data, HPM2.out, mirR, mirK]
     case measure => simp [intOf]; omega
   | some p =>
    cases m2 with
    | none =>
     go_wp2_with (((guard_target =~ wpList _ _ _ (Oper.mk none (Op.store _ (Operand.tmp 14) (Operand.tmp 47)) _ _ _ _ :: _) _ _); go_must (refine storeBox rfl 39 (.tmp 14) (.tmp 47) rfl (w6.heap.size) _ _ _ (by rfl) (by rfl) ((BoxAt.made w6 (pa3 ⟨#[]⟩ 0 (.slice none 0 0)) 39)) (by kernel_rfl) (by rfl) (by simp [Value.oneCell']) ?_); intro w7 c7 g7); have hX7 : Ext w6 w7 := ((Ext.refl w6).alloc _).grown g7 (fun q hq => by cases hq; omega); have k7 := c7.pa (k := mirK none) (g := 0) (u := .slice ar2 n2 cr2); have l7 := (p6.ext hX7).pa; have hd7 := hd6.ext' hX7; have o7 := hd7.own)
     have p7 := p6.ext hX7
     have q7 : BoxAt w7 w6.heap.size (pa3 (mirK none) 0 (.slice ar2 n2 cr2)) 39 := c7
     have r7 := r6.ext hX7
     have rr7 := rr6.ext hX7
     have rq7 := hr2.ext hX7
     obtain ⟨vm, bm, rfl, hbm, hone⟩ := rr7.single HPM1.out
     cases hbm
     subst hone
     obtain ⟨s0, s1, s2⟩ := p7.pa
     obtain ⟨y0, y1, y2, y3, y4⟩ := hd7.view.vw
     obtain ⟨z0, z1, z2⟩ := hd7.now.pa
     obtain ⟨x0, x1, x2, x3, x4, x5, x6, x7⟩ := r7.ro
     obtain ⟨JL, hJL⟩ : ∃ J, J = leftRo x p.2 M ng := ⟨_, rfl⟩
     have HJL := Lib.hid hJL
     clear hJL k7 l7
     obtain ⟨aa', ca', ev, hca', hcma', hgx⟩ := rr7.rows.get
     have hat0 := hgx 0 (by simp)
     obtain ⟨bx, ox, eb, hat⟩ := hat0
     cases ev
     cases eb
     obtain ⟨m0, m3, m4, m5, m6, m7, m8, m9⟩ := hat
     simp only [List.getElem_cons_zero] at m0 m5
     refine wp_region_tab 21 [(17, fun v y => ∃ v', v = (.agg #[.string JL.key, .string JL.live.val, .bool JL.live.dead, .int .i64 JL.live.at_, .int .i64 JL.live.fin, .int .i64 JL.gone, .int .i64 JL.shade, v']) ∧ ColsT y v' JL.cols), (18, fun v y => LP JL v y), (20, fun v y => BP (mirK (some p)) JL v y)] (by kernel_rfl) (by kernel_rfl) (by kernel_rfl) ⟨fun _ _ _ hE ⟨v', e, h⟩ => ⟨v', e, TIn.ext hE h⟩, fun _ _ _ hE h => h.ext hE, fun _ _ _ hE h => h.ext hE, trivial⟩ ?_
     replace s0 := held s0
     replace s1 := held s1
     replace s2 := held s2
     replace y0 := held y0
     replace y1 := held y1
     replace y2 := held y2
     replace y3 := held y3
     replace y4 := held y4
     replace z0 := held z0
     replace z1 := held z1
     replace z2 := held z2
     replace x0 := held x0
     replace x1 := held x1
     replace x2 := held x2
     replace x3 := held x3
     replace x4 := held x4
     replace x5 := held x5
     replace x6 := held x6
     replace x7 := held x7
     replace m0 := held m0
     replace m5 := held m5
     refine rg_quiet rfl rfl rfl rfl ?_; intro K hK; go_big_quiet_op; go_big_quiet_on
     refine rg_quiet rfl rfl rfl rfl ?_; intro K hK; go_big_quiet_op; go_big_quiet_on
     refine rg_quiet rfl rfl rfl rfl ?_; intro K hK; go_big_quiet_op; go_big_quiet_on
     refine rg_quiet rfl rfl rfl rfl ?_; intro K hK; go_big_quiet_op; go_big_quiet_on
     refine rg_quiet rfl rfl rfl rfl ?_; intro K hK; go_big_quiet_op; go_big_quiet_on
     refine rg_quiet rfl rfl rfl rfl ?_; intro K hK; go_big_quiet_op; go_big_quiet_on
     refine rg_quiet rfl rfl rfl rfl ?_; intro K hK; go_big_quiet_op; go_big_quiet_on
     refine rg_quiet rfl rfl rfl rfl ?_; intro K hK; go_big_quiet_op; go_big_quiet_on
     refine rg_quiet rfl rfl rfl rfl ?_; intro K hK; go_big_quiet_op; go_big_quiet_on
     refine rg_quiet rfl rfl rfl rfl ?_; intro K hK; go_big_quiet_op; go_big_quiet_on
     refine rg_quiet rfl rfl rfl rfl ?_; intro K hK; go_big_quiet_op; go_big_quiet_on
     refine rg_quiet rfl rfl rfl rfl ?_; intro K hK; go_big_quiet_op; go_big_quiet_on
     refine rg_quiet rfl rfl rfl rfl ?_; intro K hK; go_big_quiet_op; go_big_quiet_on
     refine rg_quiet rfl rfl rfl rfl ?_; intro K hK; go_big_quiet_op; go_big_quiet_on
     refine rg_quiet rfl rfl rfl rfl ?_; intro K hK; go_big_quiet_op; go_big_quiet_on
     refine rg_quiet rfl rfl rfl rfl ?_; intro K hK; go_big_quiet_op; go_big_quiet_on
     refine rg_quiet rfl rfl rfl rfl ?_; intro K hK; go_big_quiet_op; go_big_quiet_on
     refine rg_fact [] rfl rfl rfl (by kernel_rfl) (fun y hY hf => ?_) (fun v17 y17 hE17 hG17 h17 => ?_)
     ·go_simp
      refine (left19_any x u p.2.key p.2.live.at_ nk ng _ M (.slice au M.cols.length cu) y (hcu.ext (hd7.ext.trans hY))).mono ?_
      rw [left19_is, ← HJL.out]
      rintro e y' ⟨v', rfl, h1, hy⟩
      exact ⟨_, rfl, rg_doneR hY hy ⟨v', rfl, h1⟩⟩
     obtain ⟨v17, rfl, h17⟩ := h17
     obtain ⟨a17, c17, rfl⟩ := TIn.shape h17
     clear hE17 hG17 h17
     simp only [Act.put, List.setIfInBounds_toArray, List.set_cons_zero, List.set_cons_succ]
     refine rg_fact [17] rfl rfl rfl (by kernel_rfl) (fun y hY hf => ?_) (fun v18 y18 hE18 hG18 h18 => ?_)
     ·obtain ⟨v', e, h1⟩ := (hf 17 (by simp)).2 rfl
      cases e
      go_simp
      exact rg_doneR hY ((Ext.refl y).alloc _) (LP.made h1)
     obtain ⟨b18, v18, rfl, _⟩ := h18.ex
     clear hE18 hG18 h18
     simp only [Act.put, List.setIfInBounds_toArray, List.set_cons_zero, List.set_cons_succ]
     refine rg_quiet rfl rfl rfl rfl ?_; intro K hK; go_big_quiet_op; go_big_quiet_on
     refine rg_fact [18] rfl rfl rfl (by kernel_rfl) (fun y hY hf => ?_) (fun v20 y20 hE20 hG20 h20 => ?_)
     ·have h1 := (hf 18 (by simp)).2 rfl
      go_simp
      exact rg_doneR hY ((Ext.refl y).alloc _) (BP.made h1)
     obtain ⟨b20, rv20, v20, rfl, _⟩ := h20.ex
     clear hE20 hG20 h20
     simp only [Act.put, List.setIfInBounds_toArray, List.set_cons_zero, List.set_cons_succ]
     refine rel_tail rfl rfl fun w8 hE8 hG => ?_
     obtain ⟨b20', rv20', v20', e20, hBP⟩ := BP.ex ((hG 20).2 rfl)
     cases e20
     clear hG s0 s1 s2 y0 y1 y2 y3 y4 z0 z1 z2 x0 x1 x2 x3 x4 x5 x6 x7 m0 m3 m4 m5 m6 m7 m8 m9
     have hd8 := hd7.ext' hE8
     have p8 := p7.ext hE8
     have q8 := q7.ext hE8
     have rr8 := rr7.ext hE8
     have rq8 := rq7.ext hE8
     have o8 := hd8.own
     obtain ⟨L9, hL9⟩ : ∃ L9, L9 = L ++ [(⟨mirK (some p), 0, rv20', [(JL, v20')]⟩ : Pa)] := ⟨_, rfl⟩
     have hl9 : L9.length = L.length + 1 := by rw [hL9]; simp
     have HL9 := Lib.hid hL9
     clear hL9
     go_wp2_with (at_builtin; go_must (refine appParts w8 rfl (.tmp 61) (.tmp 81) rfl (w.heap.size + 3) hd8.size (.slice al nL cl) L o8 rfl _ [⟨mirK (some p), 0, rv20', [(JL, v20')]⟩] hBP rfl (by simp; omega) ?_); intro v9 w9 hown9 hg9; obtain ⟨a9, c9, hv9⟩ := own_shape hown9; rw [← HL9.out] at hv9 hown9; obtain ⟨n9, hn9⟩ : ∃ n, n = L9.length := ⟨_, rfl⟩; rw [← hn9] at hv9; subst hv9; have HN9 := Lib.hid hn9; clear hn9; have hd9 : DO w x u ok og ou nk ng (.slice (some ⟨b, o, none⟩) n ca) (.slice a9 n9 c9) L9 w9 := (by rw [HL9.out]; rw [HL9.out] at hown9; exact hd8.app hg9 hown9 (hBP.rows _ (List.mem_singleton_self _))); have p9 := p8.grown hg9 (fun e => by have := hownlt _ e.symm; omega); have q9 := q8.grown hg9 (fun e => by have := hownlt _ e.symm; omega); have rr9 := rr8.keepOwn hd8.own hg9 (by decide) (by decide); have rq9 := rq8.keepOwn hd8.own hg9 (by decide) (by decide); have pc9 := p9.pa; have qc9 := q9.pa)
     go_roundw
     case rel =>
      refine ⟨k + 1, L9, by omega, by go_num, hd9, by omega, ?_⟩
      show _ = _
      rw [HSTEP.out, HL9.out, List.map_append, HD.out]
      simp [goesD, comesD, outP, Pa.data, mirK, HJL.out]
     case measure => simp [intOf]; omega
    | some q =>
     by_cases hpk : p.1 = q.1
     ·have hkb : ((mirK (some p)).toList == (mirK (some q)).toList) = true := by simpa [mirK] using congrArg ByteArray.toList hpk
      go_wp2_with (((guard_target =~ wpList _ _ _ (Oper.mk none (Op.store _ (Operand.tmp 14) (Operand.tmp 47)) _ _ _ _ :: _) _ _); go_must (refine storeBox rfl 39 (.tmp 14) (.tmp 47) rfl (w6.heap.size) _ _ _ (by rfl) (by rfl) ((BoxAt.made w6 (pa3 ⟨#[]⟩ 0 (.slice none 0 0)) 39)) (by kernel_rfl) (by rfl) (by simp [Value.oneCell']) ?_); intro w7 c7 g7); have hX7 : Ext w6 w7 := ((Ext.refl w6).alloc _).grown g7 (fun q hq => by cases hq; omega); have k7 := c7.pa (k := mirK (some q)) (g := 0) (u := .slice ar2 n2 cr2); have l7 := (p6.ext hX7).pa; have hd7 := hd6.ext' hX7; have o7 := hd7.own)
      have p7 := p6.ext hX7
      have q7 : BoxAt w7 w6.heap.size (pa3 (mirK (some q)) 0 (.slice ar2 n2 cr2)) 39 := c7
      have r7 := r6.ext hX7
      have rr7 := rr6.ext hX7
      have rq7 := hr2.ext hX7
      obtain ⟨vm, bm, rfl, hbm, hone⟩ := rr7.single HPM1.out
      cases hbm
      subst hone
      by_cases hpq : p = q
      ·subst hpq
       refine (same8_any (mirK (some p)) (mirK (some p)) 0 0 _ _ [(p.2, vm)] ps2 w7 rr7.rows rq7.rows).mono ?_
       rw [HPM2.out, show ([(p.2, vm)] : List (Ro × Value)).map (·.1) = [p.2] from rfl]
       have hsm : ((mirK (some p)).toList == (mirK (some p)).toList && (0 : Int) == 0 && eqB [p.2] (mirR (some p))) = true := by rw [eqB_true (show [p.2] = mirR (some p) from rfl)]; simp
       rw [hsm]
       clear hsm
       rintro e w10 ⟨rfl, hE10⟩
       clear k7 l7
       have hd10 := hd7.ext' hE10
       go_wp2_with fail
       go_roundw
       case rel =>
        refine ⟨k + 1, L, by omega, by go_num, hd10, by omega, ?_⟩
        show _ = _
        rw [HSTEP.out, HD.out]
        simp [goesD, comesD, outP, eqB_true]
       case measure => simp [intOf]; omega
      ·skip
       refine (same8_any (mirK (some p)) (mirK (some q)) 0 0 _ _ [(p.2, vm)] ps2 w7 rr7.rows rq7.rows).mono ?_
       rw [HPM2.out, show ([(p.2, vm)] : List (Ro × Value)).map (·.1) = [p.2] from rfl]
       have hsm : ((mirK (some p)).toList == (mirK (some q)).toList && (0 : Int) == 0 && eqB [p.2] (mirR (some q))) = false := by rw [eqB_false (show [p.2] ≠ mirR (some q) from fun e => hpq (Prod.ext hpk (by simpa [mirR] using e)))]; simp
       rw [hsm]
       clear hsm
       rintro e w10 ⟨rfl, hE10⟩
       have hd10 := hd7.ext' hE10
       have q10 := (q7.ext hE10).pa
       have o10 := hd10.own
       clear k7 l7
       go_wp2_with (at_builtin; go_must (refine appR info_Part und_Parts rfl (by decide) w10 rfl (.tmp 93) (.tmp 95) rfl (w.heap.size + 3) hd10.size (.slice al nL cl) (nL) (paCells L) (by rw [HNL.out] at o10 ⊢; exact o10) rfl 1 (pa3 (mirK (some q)) 0 (.slice ar2 n2 cr2)) rfl rfl (by simp [pa3, Value.oneCell']) (by unfold maxLen; omega) (by omega) ?_); intro v20 w20 hown20 hg20; obtain ⟨a20, c20, hv20⟩ := own_shape hown20; subst hv20)
       have hd20 : DO w x u ok og ou nk ng (.slice (some ⟨b, o, none⟩) n ca) (.slice a20 (nL + 1) c20) (L ++ [⟨mirK (some q), 0, .slice ar2 n2 cr2, ps2⟩]) w20 := by
        refine DO.app (hd10.ext' ((Ext.refl w10).alloc _)) hg20 ?_ ((rq7.ext hE10).ext ((Ext.refl _).alloc _))
        rw [paCells_append, List.length_append, ← HNL.out]
        exact hown20
       go_roundw
       case rel =>
        refine ⟨k + 1, L ++ [⟨mirK (some q), 0, .slice ar2 n2 cr2, ps2⟩], by omega, by go_num, hd20, by simp; omega, ?_⟩
        show _ = _
        rw [HSTEP.out, List.map_append, HD.out]
        simp [goesD, comesD, outP, Pa.data, HPM2.out, mirR, mirK, eqB_true hpk, eqB_false hpq]
       case measure => simp [intOf]; omega
     ·have hkb : ((mirK (some p)).toList == (mirK (some q)).toList) = false := by simp [mirK]; exact fun e => hpk (bytes_ext e)
      go_wp2_with (((guard_target =~ wpList _ _ _ (Oper.mk none (Op.store _ (Operand.tmp 14) (Operand.tmp 47)) _ _ _ _ :: _) _ _); go_must (refine storeBox rfl 39 (.tmp 14) (.tmp 47) rfl (w6.heap.size) _ _ _ (by rfl) (by rfl) ((BoxAt.made w6 (pa3 ⟨#[]⟩ 0 (.slice none 0 0)) 39)) (by kernel_rfl) (by rfl) (by simp [Value.oneCell']) ?_); intro w7 c7 g7); have hX7 : Ext w6 w7 := ((Ext.refl w6).alloc _).grown g7 (fun q hq => by cases hq; omega); have k7 := c7.pa (k := mirK (some q)) (g := 0) (u := .slice ar2 n2 cr2); have l7 := (p6.ext hX7).pa; have hd7 := hd6.ext' hX7; have o7 := hd7.own)
      have p7 := p6.ext hX7
      have q7 : BoxAt w7 w6.heap.size (pa3 (mirK (some q)) 0 (.slice ar2 n2 cr2)) 39 := c7
      have r7 := r6.ext hX7
      have rr7 := rr6.ext hX7
      have rq7 := hr2.ext hX7
      obtain ⟨vm, bm, rfl, hbm, hone⟩ := rr7.single HPM1.out
      cases hbm
      subst hone
      obtain ⟨s0, s1, s2⟩ := p7.pa
      obtain ⟨y0, y1, y2, y3, y4⟩ := hd7.view.vw
      obtain ⟨z0, z1, z2⟩ := hd7.now.pa
      obtain ⟨x0, x1, x2, x3, x4, x5, x6, x7⟩ := r7.ro
      obtain ⟨JL, hJL⟩ : ∃ J, J = leftRo x p.2 M ng := ⟨_, rfl⟩
      have HJL := Lib.hid hJL
      clear hJL k7 l7
      obtain ⟨aa', ca', ev, hca', hcma', hgx⟩ := rr7.rows.get
      have hat0 := hgx 0 (by simp)
      obtain ⟨bx, ox, eb, hat⟩ := hat0
      cases ev
      cases eb
      obtain ⟨m0, m3, m4, m5, m6, m7, m8, m9⟩ := hat
      simp only [List.getElem_cons_zero] at m0 m5
      refine wp_region_tab 21 [(17, fun v y => ∃ v', v = (.agg #[.string JL.key, .string JL.live.val, .bool JL.live.dead, .int .i64 JL.live.at_, .int .i64 JL.live.fin, .int .i64 JL.gone, .int .i64 JL.shade, v']) ∧ ColsT y v' JL.cols), (18, fun v y => LP JL v y), (20, fun v y => BP (mirK (some p)) JL v y)] (by kernel_rfl) (by kernel_rfl) (by kernel_rfl) ⟨fun _ _ _ hE ⟨v', e, h⟩ => ⟨v', e, TIn.ext hE h⟩, fun _ _ _ hE h => h.ext hE, fun _ _ _ hE h => h.ext hE, trivial⟩ ?_
      replace s0 := held s0
      replace s1 := held s1
      replace s2 := held s2
      replace y0 := held y0
      replace y1 := held y1
      replace y2 := held y2
      replace y3 := held y3
      replace y4 := held y4
      replace z0 := held z0
      replace z1 := held z1
      replace z2 := held z2
      replace x0 := held x0
      replace x1 := held x1
      replace x2 := held x2
      replace x3 := held x3
      replace x4 := held x4
      replace x5 := held x5
      replace x6 := held x6
      replace x7 := held x7
      replace m0 := held m0
      replace m5 := held m5
      refine rg_quiet rfl rfl rfl rfl ?_; intro K hK; go_big_quiet_op; go_big_quiet_on
      refine rg_quiet rfl rfl rfl rfl ?_; intro K hK; go_big_quiet_op; go_big_quiet_on
      refine rg_quiet rfl rfl rfl rfl ?_; intro K hK; go_big_quiet_op; go_big_quiet_on
      refine rg_quiet rfl rfl rfl rfl ?_; intro K hK; go_big_quiet_op; go_big_quiet_on
      refine rg_quiet rfl rfl rfl rfl ?_; intro K hK; go_big_quiet_op; go_big_quiet_on
      refine rg_quiet rfl rfl rfl rfl ?_; intro K hK; go_big_quiet_op; go_big_quiet_on
      refine rg_quiet rfl rfl rfl rfl ?_; intro K hK; go_big_quiet_op; go_big_quiet_on
      refine rg_quiet rfl rfl rfl rfl ?_; intro K hK; go_big_quiet_op; go_big_quiet_on
      refine rg_quiet rfl rfl rfl rfl ?_; intro K hK; go_big_quiet_op; go_big_quiet_on
      refine rg_quiet rfl rfl rfl rfl ?_; intro K hK; go_big_quiet_op; go_big_quiet_on
      refine rg_quiet rfl rfl rfl rfl ?_; intro K hK; go_big_quiet_op; go_big_quiet_on
      refine rg_quiet rfl rfl rfl rfl ?_; intro K hK; go_big_quiet_op; go_big_quiet_on
      refine rg_quiet rfl rfl rfl rfl ?_; intro K hK; go_big_quiet_op; go_big_quiet_on
      refine rg_quiet rfl rfl rfl rfl ?_; intro K hK; go_big_quiet_op; go_big_quiet_on
      refine rg_quiet rfl rfl rfl rfl ?_; intro K hK; go_big_quiet_op; go_big_quiet_on
      refine rg_quiet rfl rfl rfl rfl ?_; intro K hK; go_big_quiet_op; go_big_quiet_on
      refine rg_quiet rfl rfl rfl rfl ?_; intro K hK; go_big_quiet_op; go_big_quiet_on
      refine rg_fact [] rfl rfl rfl (by kernel_rfl) (fun y hY hf => ?_) (fun v17 y17 hE17 hG17 h17 => ?_)
      ·go_simp
       refine (left19_any x u p.2.key p.2.live.at_ nk ng _ M (.slice au M.cols.length cu) y (hcu.ext (hd7.ext.trans hY))).mono ?_
       rw [left19_is, ← HJL.out]
       rintro e y' ⟨v', rfl, h1, hy⟩
       exact ⟨_, rfl, rg_doneR hY hy ⟨v', rfl, h1⟩⟩
      obtain ⟨v17, rfl, h17⟩ := h17
      obtain ⟨a17, c17, rfl⟩ := TIn.shape h17
      clear hE17 hG17 h17
      simp only [Act.put, List.setIfInBounds_toArray, List.set_cons_zero, List.set_cons_succ]
      refine rg_fact [17] rfl rfl rfl (by kernel_rfl) (fun y hY hf => ?_) (fun v18 y18 hE18 hG18 h18 => ?_)
      ·obtain ⟨v', e, h1⟩ := (hf 17 (by simp)).2 rfl
       cases e
       go_simp
       exact rg_doneR hY ((Ext.refl y).alloc _) (LP.made h1)
      obtain ⟨b18, v18, rfl, _⟩ := h18.ex
      clear hE18 hG18 h18
      simp only [Act.put, List.setIfInBounds_toArray, List.set_cons_zero, List.set_cons_succ]
      refine rg_quiet rfl rfl rfl rfl ?_; intro K hK; go_big_quiet_op; go_big_quiet_on
      refine rg_fact [18] rfl rfl rfl (by kernel_rfl) (fun y hY hf => ?_) (fun v20 y20 hE20 hG20 h20 => ?_)
      ·have h1 := (hf 18 (by simp)).2 rfl
       go_simp
       exact rg_doneR hY ((Ext.refl y).alloc _) (BP.made h1)
      obtain ⟨b20, rv20, v20, rfl, _⟩ := h20.ex
      clear hE20 hG20 h20
      simp only [Act.put, List.setIfInBounds_toArray, List.set_cons_zero, List.set_cons_succ]
      refine rel_tail rfl rfl fun w8 hE8 hG => ?_
      obtain ⟨b20', rv20', v20', e20, hBP⟩ := BP.ex ((hG 20).2 rfl)
      cases e20
      clear hG s0 s1 s2 y0 y1 y2 y3 y4 z0 z1 z2 x0 x1 x2 x3 x4 x5 x6 x7 m0 m3 m4 m5 m6 m7 m8 m9
      have hd8 := hd7.ext' hE8
      have p8 := p7.ext hE8
      have q8 := q7.ext hE8
      have rr8 := rr7.ext hE8
      have rq8 := rq7.ext hE8
      have o8 := hd8.own
      obtain ⟨L9, hL9⟩ : ∃ L9, L9 = L ++ [(⟨mirK (some p), 0, rv20', [(JL, v20')]⟩ : Pa)] := ⟨_, rfl⟩
      have hl9 : L9.length = L.length + 1 := by rw [hL9]; simp
      have HL9 := Lib.hid hL9
      clear hL9
      go_wp2_with (at_builtin; go_must (refine appParts w8 rfl (.tmp 61) (.tmp 81) rfl (w.heap.size + 3) hd8.size (.slice al nL cl) L o8 rfl _ [⟨mirK (some p), 0, rv20', [(JL, v20')]⟩] hBP rfl (by simp; omega) ?_); intro v9 w9 hown9 hg9; obtain ⟨a9, c9, hv9⟩ := own_shape hown9; rw [← HL9.out] at hv9 hown9; obtain ⟨n9, hn9⟩ : ∃ n, n = L9.length := ⟨_, rfl⟩; rw [← hn9] at hv9; subst hv9; have HN9 := Lib.hid hn9; clear hn9; have hd9 : DO w x u ok og ou nk ng (.slice (some ⟨b, o, none⟩) n ca) (.slice a9 n9 c9) L9 w9 := (by rw [HL9.out]; rw [HL9.out] at hown9; exact hd8.app hg9 hown9 (hBP.rows _ (List.mem_singleton_self _))); have p9 := p8.grown hg9 (fun e => by have := hownlt _ e.symm; omega); have q9 := q8.grown hg9 (fun e => by have := hownlt _ e.symm; omega); have rr9 := rr8.keepOwn hd8.own hg9 (by decide) (by decide); have rq9 := rq8.keepOwn hd8.own hg9 (by decide) (by decide); have pc9 := p9.pa; have qc9 := q9.pa)
      refine (same8_any (mirK (some p)) (mirK (some q)) 0 0 _ _ [(p.2, vm)] ps2 w9 rr9.rows rq9.rows).mono ?_
      rw [HPM2.out, show ([(p.2, vm)] : List (Ro × Value)).map (·.1) = [p.2] from rfl]
      have hsm : ((mirK (some p)).toList == (mirK (some q)).toList && (0 : Int) == 0 && eqB [p.2] (mirR (some q))) = false := by rw [hkb]; rfl
      rw [hsm]
      clear hsm
      rintro e w10 ⟨rfl, hE10⟩
      have hd10 := hd9.ext' hE10
      have q10 := (q9.ext hE10).pa
      have o10 := hd10.own
      clear pc9 qc9
      have hn9l : n9 ≤ 2 * k + 1 := by have := HN9.out; omega
      go_wp2_with (at_builtin; go_must (refine appR info_Part und_Parts rfl (by decide) w10 rfl (.tmp 93) (.tmp 95) rfl (w.heap.size + 3) hd10.size (.slice a9 n9 c9) (n9) (paCells L9) (by rw [HN9.out] at o10 ⊢; exact o10) rfl 1 (pa3 (mirK (some q)) 0 (.slice ar2 n2 cr2)) rfl rfl (by simp [pa3, Value.oneCell']) (by unfold maxLen; omega) (by omega) ?_); intro v20 w20 hown20 hg20; obtain ⟨a20, c20, hv20⟩ := own_shape hown20; subst hv20)
      have hd20 : DO w x u ok og ou nk ng (.slice (some ⟨b, o, none⟩) n ca) (.slice a20 (n9 + 1) c20) (L9 ++ [⟨mirK (some q), 0, .slice ar2 n2 cr2, ps2⟩]) w20 := by
       refine DO.app (hd10.ext' ((Ext.refl w10).alloc _)) hg20 ?_ ((rq9.ext hE10).ext ((Ext.refl _).alloc _))
       rw [paCells_append, List.length_append, ← HN9.out]
       exact hown20
      go_roundw
      case rel =>
       refine ⟨k + 1, L9 ++ [⟨mirK (some q), 0, .slice ar2 n2 cr2, ps2⟩], by omega, by go_num, hd20, by simp; omega, ?_⟩
       show _ = _
       rw [HSTEP.out, List.map_append, HL9.out, List.map_append, HD.out]
       simp [goesD, comesD, outP, Pa.data, HPM2.out, mirR, mirK, HJL.out, eqB_false hpk, eqB_false (show p ≠ q from fun e => hpk (by rw [e]))]
      case measure => simp [intOf]; omega
  ·obtain rfl : n = k := by omega
   go_wp2_with fail
   go_ret
   refine ⟨_, rfl, L, ownsRow_base (by rw [HNL.out]; have h := hd.own; rw [HNL.out] at h; exact h) (by omega), hd.rows, ?_, hd.ext⟩
   rw [HD.out, List.take_of_length_le (by simp; rw [← HN.out]; exact Nat.le_refl _)]
end Go.Proofs.YtolkhjdododdaaaGreatDoor

/- clerestoryref19.All at the schema of the laws. -/
namespace Go.Proofs.YtolkhjdododdaaaGreatDoor
open Go Go.RowKit
attribute [local go_sem] yields yUpon pa3 vw5 tabV viewV

/-- A list of partitions of these data. -/
structure OR (D : List (ByteArray × Int × List Ro)) (n : Nat) (v : Value) (y : World) : Prop where
 ex : ∃ a c PL, v = .slice a n c ∧ PartsT y v PL ∧ PL.map Pa.data = D ∧ n = PL.length
theorem OR.ext {D : List (ByteArray × Int × List Ro)} {n : Nat} {v : Value} {y z : World} (hE : Ext y z) (h : OR D n v y) : OR D n v z := by
 obtain ⟨a, c, PL, e, h1, h2, h3⟩ := h.ex
 exact ⟨a, c, PL, e, h1.ext hE, h2, h3⟩
theorem OR.of {D : List (ByteArray × Int × List Ro)} {n : Nat} {v : Value} {y : World} {B : Nat} {PL : List Pa} (hn : n = D.length) (hown : y.ownsRow B 39 3 v PL.length (paCells PL)) (hr : ∀ p ∈ PL, RowsT y p.rv p.ps) (hd : PL.map Pa.data = D) : OR D n v y := by
 have hp : PartsT y v PL := ⟨TIn.own hown, hr⟩
 have hl : n = PL.length := by rw [hn, ← hd, List.length_map]
 obtain ⟨a, c, e, _⟩ := hp.get
 rw [← hl] at e
 exact ⟨a, c, PL, e, hp, hd, hl⟩
set_option maxRecDepth 100000 in
set_option maxHeartbeats 16000000 in
theorem all19_any (bT bV bs bu : Nat) (ok : ByteArray) (og : Int) (ou : Value) (pso : List (Ro × Value)) (nk : ByteArray) (ng : Int) (nu : Value) (psn : List (Ro × Value)) (w : World) (h : SchIn w bT bV bs bu)
  (ho : RowsIn w ou pso) (hn : RowsIn w nu psn) (hco : ∀ p ∈ pso, p.1.cols.length ≤ 1000000) (hcn : ∀ p ∈ psn, p.1.cols.length ≤ 1000000) (hlen : psn.length ≤ 10000)
  (hok : ok.size ≤ 10000000) (hnk : nk.size ≤ 10000000) (hkey : ∀ p ∈ psn, p.1.key.size ≤ 10000000 ∧ (vkey ok p.1.key).size ≤ 400 ∧ (vkey nk p.1.key).size ≤ 400) (hfew : (outP (deltaRs dV dNs ok og nk ng (pso.map (·.1)) (psn.map (·.1)))).length ≤ 20000) :
  Calls Tryz.prog 19 #[schV bT bV, .string ⟨#[116]⟩, .agg #[.string ok, .int .i64 og, ou], .agg #[.string nk, .int .i64 ng, nu]] w fun e w' =>
   ∃ v L, e = .returned v ∧ MtsIn w' v L ∧ L.map Mt.q = (outP (deltaRs dV dNs ok og nk ng (pso.map (·.1)) (psn.map (·.1)))).map mqD ∧ Ext w w' := by
 obtain ⟨a0, a1, a2, hE⟩ := boxes3 w #[.int .i64 2, .slice (some ⟨bT, 0, none⟩) 1 1, .slice (some ⟨bV, 0, none⟩) 1 1] #[.string ok, .int .i64 og, ou] #[.string nk, .int .i64 ng, nu] 58 39 39
 obtain ⟨D, hD⟩ : ∃ D, D = outP (deltaRs dV dNs ok og nk ng (pso.map (·.1)) (psn.map (·.1))) := ⟨_, rfl⟩
 rw [← hD] at hfew ⊢
 have HD := Lib.hid hD
 have HO := Lib.hid ho
 have HNN := Lib.hid hn
 have HCO := Lib.hid hco
 have HCN := Lib.hid hcn
 have HKEY := Lib.hid hkey
 have HLEN := Lib.hid hlen
 obtain ⟨T, hT⟩ : ∃ T, T = D.map mqD := ⟨_, rfl⟩
 rw [← hT]
 have HT := Lib.hid hT
 clear hD ho hn hco hcn hkey hlen hT
 unfold schV
 go_enter Tryz.func19, Tryz.ntmps19
 go_wp2_with fail
 generalize World.alloc (World.alloc (World.alloc w _) _) _ = w0 at a0 a1 a2 hE ⊢
 obtain ⟨nD, hnD⟩ : ∃ n, n = D.length := ⟨_, rfl⟩
 have HND := Lib.hid hnD
 have hnD2 : nD ≤ 20000 := by omega
 clear hnD
 refine (refOf_any bT bV bs bu w0 (h.ext hE)).mono ?_
 rintro e w3 ⟨vs, u, rfl, hV, hE3⟩
 obtain ⟨av, cv, rfl, hcv, hcvm, _, hvc⟩ := hV.views
 obtain ⟨b, o, rfl, _⟩ := hvc 0 _ rfl
 have hX3 := hE.trans hE3
 have o3 := a1.ext hE3
 have n3 := a2.ext hE3
 have hVN := hV.names
 have HVC := Lib.hid hvc
 clear a0 a1 a2 hE hE3 hvc hV
 have hVN' := hVN
 obtain ⟨au, cu, rfl, _⟩ := hVN
 have HD' := HD
 go_wp2_with fail
 go_loopw [9, 11] (fun vl i wr => ∃ k : Nat, k ≤ 1 ∧ i = .int .i64 k ∧ AO w3 T k vl wr) (fun _ i _ => 1 - (intOf i).toNat)
 case atStart => exact ⟨0, by omega, rfl, ⟨Ext.refl _, fun _ => rfl, nofun⟩⟩
 case round =>
  obtain ⟨k, hk, rfl, hS⟩ := hrel
  have hX := hS.ext
  obtain rfl | rfl : k = 0 ∨ k = 1 := by omega
  ·obtain rfl := hS.nil rfl
   rw [show ((0 : Nat) : Int) = (0 : Int) from rfl]
   have g0 : wr.cell? ⟨b, o, none⟩ = some (.string ⟨#[118]⟩) := by obtain ⟨_, _, e, h'⟩ := HVC.out 0 _ rfl; cases e; exact hX.cell h'
   have g1 : wr.cell? ⟨b, o + 1, none⟩ = some (.int .i64 2) := by obtain ⟨_, _, e, h'⟩ := HVC.out 1 _ rfl; cases e; exact hX.cell h'
   have g2 : wr.cell? ⟨b, o + 2, none⟩ = some (.string ⟨#[116]⟩) := by obtain ⟨_, _, e, h'⟩ := HVC.out 2 _ rfl; cases e; exact hX.cell h'
   have g3 : wr.cell? ⟨b, o + 3, none⟩ = some (.string ⟨#[97]⟩) := by obtain ⟨_, _, e, h'⟩ := HVC.out 3 _ rfl; cases e; exact hX.cell h'
   have g4 : wr.cell? ⟨b, o + 4, none⟩ = some (.slice au 2 cu) := by obtain ⟨_, _, e, h'⟩ := HVC.out 4 _ rfl; cases e; exact hX.cell h'
   obtain ⟨o0, o1, o2⟩ := (o3.ext hX).pa (k := ok) (g := og) (u := ou)
   obtain ⟨n0, n1, n2⟩ := (n3.ext hX).pa (k := nk) (g := ng) (u := nu)
   go_wp2_with fail
   refine wp_region_tab 8 [(6, fun v y => OR D nD v y)] (by kernel_rfl) (by kernel_rfl) (by kernel_rfl) ⟨fun _ _ _ hE h => h.ext hE, trivial⟩ ?_
   replace g0 := held g0
   replace g1 := held g1
   replace g2 := held g2
   replace g3 := held g3
   replace g4 := held g4
   replace o0 := held o0
   replace o1 := held o1
   replace o2 := held o2
   replace n0 := held n0
   replace n1 := held n1
   replace n2 := held n2
   refine rg_quiet rfl rfl rfl rfl ?_; intro K hK; go_big_quiet_op; go_big_quiet_on
   refine rg_quiet rfl rfl rfl rfl ?_; intro K hK; go_big_quiet_op; go_big_quiet_on
   refine rg_quiet rfl rfl rfl rfl ?_; intro K hK; go_big_quiet_op; go_big_quiet_on
   refine rg_quiet rfl rfl rfl rfl ?_; intro K hK; go_big_quiet_op; go_big_quiet_on
   refine rg_quiet rfl rfl rfl rfl ?_; intro K hK; go_big_quiet_op; go_big_quiet_on
   refine rg_quiet rfl rfl rfl rfl ?_; intro K hK; go_big_quiet_op; go_big_quiet_on
   refine rg_fact [] rfl rfl rfl (by kernel_rfl) (fun y hY hf => ?_) (fun v6 y6 hE6 hG6 h6 => ?_)
   ·go_simp
    refine (of19_any dV (.slice au 2 cu) dNs ok og ou pso nk ng nu psn y (HO.out.ext ((hX3.trans hX).trans hY)) (HNN.out.ext ((hX3.trans hX).trans hY)) ((hVN'.ext hX).ext hY) HCO.out HCN.out HLEN.out hok hnk HKEY.out).mono ?_
    rw [← HD.out]
    rintro e y' ⟨v', rfl, PL, hown, hrs, hdat, hy⟩
    exact ⟨_, rfl, rg_doneR hY hy (OR.of HND.out (ownsRow_base hown (Nat.le_refl _)) hrs hdat)⟩
   obtain ⟨a6, c6, PL6, rfl, hz6⟩ := h6.ex
   clear hE6 hG6 h6 hz6
   simp only [Act.put, List.setIfInBounds_toArray, List.set_cons_zero, List.set_cons_succ]
   refine rg_quiet rfl rfl rfl rfl ?_; intro K hK; go_big_quiet_op; go_big_quiet_on
   refine rel_nil fun w5 hE5 hG => ?_
   obtain ⟨a5, c5, PL, e5, hPT, hdat5, hnD⟩ := OR.ex ((hG 6).2 rfl)
   cases e5
   obtain ⟨aG, cG, ev, hc5, hcm5, hget5⟩ := hPT.get
   injection ev with ea en ec
   subst ea ec
   rw [← en] at hc5
   clear en
   have HG5 := Lib.hid hget5
   have HN5 := Lib.hid hnD
   have HDAT := Lib.hid hdat5
   have HRS5 := Lib.hid hPT.rows
   have hX5 : Ext w3 w5 := hX.trans hE5
   have v0' : w5.cell? ⟨b, o, none⟩ = some (.string ⟨#[118]⟩) := by obtain ⟨_, _, e, h'⟩ := HVC.out 0 _ rfl; cases e; exact hX5.cell h'
   have v1' : w5.cell? ⟨b, o + 1, none⟩ = some (.int .i64 2) := by obtain ⟨_, _, e, h'⟩ := HVC.out 1 _ rfl; cases e; exact hX5.cell h'
   clear hG g0 g1 g2 g3 g4 o0 o1 o2 n0 n1 n2 hget5 hnD hdat5 hPT hS hE5
   go_wp2_with fail
   obtain ⟨wo, rfl⟩ : ∃ w', w' = wr := ⟨_, rfl⟩
   go_loopw [9, 13] (fun vl i wq => ∃ (j : Nat) (L : List Mt), j ≤ nD ∧ i = .int .i64 j ∧ AI w5 vl L wq ∧ L.length ≤ j ∧ Hid (L.map Mt.q = ((PL.map Pa.data).take j).map mqD)) (fun _ i _ => nD - (intOf i).toNat)
   case atStart => exact ⟨0, [], Nat.zero_le _, rfl, ⟨Ext.refl _, World.ownsRow_nil _ _ _ _, nofun⟩, by simp, rfl⟩
   case round =>
    obtain ⟨j, L, hj, rfl, hA, hLj, HL⟩ := hrel
    obtain ⟨aL, cL, hvL⟩ := own_shape hA.own
    obtain ⟨nL, hnL⟩ : ∃ n, n = L.length := ⟨_, rfl⟩
    rw [← hnL] at hvL
    subst hvL
    have HNL := Lib.hid hnL
    have hnj : nL ≤ j := by omega
    clear hnL
    by_cases hlt : j < nD
    ·have hji : decide ((j : Int) < (nD : Int)) = true := by simpa using hlt
     have hjP : j < PL.length := by rw [← HN5.out]; exact hlt
     obtain ⟨b5, rfl, hat⟩ := HG5.out j hjP
     have hrow := HRS5.out _ (List.getElem_mem hjP)
     have hsn : ((PL.map Pa.data).take (j + 1)).map mqD = ((PL.map Pa.data).take j).map mqD ++ [mqD PL[j].data] := by
      rw [List.take_succ_eq_append_getElem (by simpa using hjP), List.map_append]
      simp
     obtain ⟨P, hP⟩ : ∃ P, P = PL[j] := ⟨_, rfl⟩
     rw [← hP] at hat hrow hsn
     obtain ⟨ar, cr, hrv⟩ := hrow.shape
     rw [hrv] at hrow
     have hat2 := hat.ext hA.ext
     obtain ⟨x0, x1, x2⟩ := hat2
     rw [hrv] at x2
     have HSN := Lib.hid hsn
     have HRV := Lib.hid hrv
     clear hP hat hrv hsn
     have hrowr := hrow.ext hA.ext
     have z0 := hA.ext.cell v0'
     have z1 := hA.ext.cell v1'
     obtain ⟨m, hm⟩ : ∃ m : Mt, m = ⟨v2B, ⟨P.key, P.gone, .slice ar P.ps.length cr, P.ps⟩⟩ := ⟨_, rfl⟩
     have hm4 : mt4 m = #[.string v2B, .string P.key, .int .i64 P.gone, .slice ar P.ps.length cr] := by rw [hm]; rfl
     have hsh : ∀ p ∈ [m], ∃ a n c, p.pa.rv = .slice a n c := fun p hp => by rw [List.mem_singleton.1 hp, hm]; exact ⟨_, _, _, rfl⟩
     have hmr : RowsT wr m.pa.rv m.pa.ps := by rw [hm]; exact hrowr
     have hmq : m.q = mqD P.data := by rw [hm]; rfl
     have HM4 := Lib.hid hm4
     have HMQ := Lib.hid hmq
     clear hm hm4 hmq
     go_wp2_with fail
     refine wp_region_tab 18 [(11, fun v _ => v = .string v2B), (17, fun v y => MB m v y)] (by kernel_rfl) (by kernel_rfl) (by kernel_rfl) ⟨stays_eq _, fun _ _ _ hE h => h.ext hE, trivial⟩ ?_
     replace x0 := held x0
     replace x1 := held x1
     replace x2 := held x2
     replace z0 := held z0
     replace z1 := held z1
     refine rg_quiet rfl rfl rfl rfl ?_; intro K hK; go_big_quiet_op; go_big_quiet_on
     refine rg_quiet rfl rfl rfl rfl ?_; intro K hK; go_big_quiet_op; go_big_quiet_on
     refine rg_quiet rfl rfl rfl rfl ?_; intro K hK; go_big_quiet_op; go_big_quiet_on
     refine rg_quiet rfl rfl rfl rfl ?_; intro K hK; go_big_quiet_op; go_big_quiet_on
     refine rg_quiet rfl rfl rfl rfl ?_; intro K hK; go_big_quiet_op; go_big_quiet_on
     refine rg_quiet rfl rfl rfl rfl ?_; intro K hK; go_big_quiet_op; go_big_quiet_on
     refine rg_quiet rfl rfl rfl rfl ?_; intro K hK; go_big_quiet_op; go_big_quiet_on
     refine rg_quiet rfl rfl rfl rfl ?_; intro K hK; go_big_quiet_op; go_big_quiet_on
     refine rg_quiet rfl rfl rfl rfl ?_; intro K hK; go_big_quiet_op; go_big_quiet_on
     refine rg_quiet rfl rfl rfl rfl ?_; intro K hK; go_big_quiet_op; go_big_quiet_on
     refine rg_quiet rfl rfl rfl rfl ?_; intro K hK; go_big_quiet_op; go_big_quiet_on
     refine rg_val [] rfl rfl rfl (by kernel_rfl) (fun w1 hE hf => ?_) ?_
     ·go_simp
      exact (refStore_any w1).mono fun e w' ⟨he, hw⟩ => ⟨_, he, rg_done hE hw (rfl)⟩
     simp only [Act.put, List.setIfInBounds_toArray, List.set_cons_zero, List.set_cons_succ]
     refine rg_quiet rfl rfl rfl rfl ?_; intro K hK; go_big_quiet_op; go_big_quiet_on
     refine rg_quiet rfl rfl rfl rfl ?_; intro K hK; go_big_quiet_op; go_big_quiet_on
     refine rg_quiet rfl rfl rfl rfl ?_; intro K hK; go_big_quiet_op; go_big_quiet_on
     refine rg_quiet rfl rfl rfl rfl ?_; intro K hK; go_big_quiet_op; go_big_quiet_on
     refine rg_quiet rfl rfl rfl rfl ?_; intro K hK; go_big_quiet_op; go_big_quiet_on
     refine rg_fact [] rfl rfl rfl (by kernel_rfl) (fun y hY hf => ?_) (fun v8 y8 hE8 hG8 h8 => ?_)
     ·have hmd := MB.made m y
      rw [HM4.out] at hmd
      go_simp
      exact rg_doneR hY ((Ext.refl y).alloc _) hmd
     obtain ⟨b8, rfl, _⟩ := h8.ex
     clear hE8 hG8 h8
     simp only [Act.put, List.setIfInBounds_toArray, List.set_cons_zero, List.set_cons_succ]
     refine rel_tail rfl rfl fun w7 hE7 hG => ?_
     obtain ⟨b8', e8, hMB⟩ := MB.ex ((hG 17).2 rfl)
     cases e8
     clear hG x0 x1 x2 z0 z1
     have hA7 := hA.ext' hE7
     have o7 := hA7.own
     have l7 : w5.heap.size ≤ w7.heap.size := hA7.ext.le
     go_wp2_with (at_builtin; go_must (refine appMts w7 rfl (.tmp 36) (.tmp 53) rfl w5.heap.size l7 (.slice aL nL cL) L o7 rfl _ [m] hMB hsh rfl (by simp; omega) ?_); intro v8 w8 hown8 hg8)
     go_roundw
     case rel =>
      refine ⟨j + 1, L ++ [m], by omega, by go_num, hA7.app hg8 hown8 (hmr.ext hE7), by simp; omega, ?_⟩
      show _ = _
      rw [HSN.out, ← HL.out, List.map_append, ← HMQ.out]
      rfl
     case measure => simp [intOf]; omega
    ·obtain rfl : nD = j := by omega
     have hLq : L.map Mt.q = T := by
      rw [HL.out, HT.out, HDAT.out, List.take_of_length_le]
      rw [← HDAT.out, List.length_map, ← HN5.out]
      exact Nat.le_refl _
     go_wp2_with fail
     exact ⟨⟨1, by omega, rfl, ⟨hX5.trans hA.ext, nofun, fun _ => ⟨L, ownsRow_base hA.own hX5.le, hA.rows, hLq⟩⟩⟩, by simp [intOf]⟩
  ·obtain ⟨L, hown, hr, hq⟩ := hS.ex rfl
   obtain ⟨aL, cL, hvL⟩ := own_shape hown
   obtain ⟨nL, hnL⟩ : ∃ n, n = L.length := ⟨_, rfl⟩
   rw [← hnL] at hvL
   subst hvL
   have HNL := Lib.hid hnL
   clear hnL
   go_wp2_with fail
   go_ret
   refine ⟨_, L, rfl, ⟨?_, fun m hm => (hr m hm).rows⟩, hq, hX3.trans hX⟩
   rw [HNL.out]
   rw [HNL.out] at hown
   exact SliceIn.of_owns hown
end Go.Proofs.YtolkhjdododdaaaGreatDoor

/- clerestoryref08.Same of partitions that read alike. -/
namespace Go.Proofs.YtolkhjdododdaaaGreatDoor
open Go Go.RowKit

theorem same8_alike (k : ByteArray) (g : Int) (v v' : Value) (ps ps' : List (Ro × Value)) (w : World) (hin : RowsIn w v ps) (hin' : RowsIn w v' ps') (h : ps.map (·.1) = ps'.map (·.1)) :
  Calls Tryz.prog 20 #[.agg #[.string k, .int .i64 g, v], .agg #[.string k, .int .i64 g, v']] w fun e w' => e = .returned (.bool true) ∧ Ext w w' := by
 have := same8_any k k g g v v' ps ps' w hin hin'
 rw [eqB_true h] at this
 simpa using this
end Go.Proofs.YtolkhjdododdaaaGreatDoor

/- Lists of partitions in memory. -/
namespace Go.Proofs.YtolkhjdododdaaaGreatDoor
open Go Go.RowKit

/-- A list of partitions anywhere in memory. -/
structure PartsIn (w : World) (v : Value) (L : List Pa) : Prop where
 cells : SliceIn w v L.length (paCells L)
 rows : ∀ p ∈ L, RowsIn w p.rv p.ps
theorem PartsIn.ext {w w' : World} (hE : Ext w w') {v : Value} {L : List Pa} (h : PartsIn w v L) : PartsIn w' v L := ⟨h.cells.ext hE, fun p hp => (h.rows p hp).ext hE⟩
theorem PartsIn.get {w : World} {v : Value} {L : List Pa} (h : PartsIn w v L) : ∃ a c, v = .slice a L.length c ∧ L.length ≤ c ∧ c ≤ 9223372036854775807 ∧ ∀ k (hk : k < L.length), ∃ b o, a = some ⟨b, o, none⟩ ∧ PaAt w b (o + k * 3) L[k] := by
 obtain ⟨a, c, rfl, hc, hcm, ha, hcell⟩ := h.cells
 unfold maxLen at hcm
 refine ⟨a, c, rfl, hc, by omega, fun k hk => ?_⟩
 obtain ⟨g0, g1, g2⟩ := paCells_get L k hk
 obtain ⟨b, o, rfl, h0⟩ := hcell _ _ g0
 obtain ⟨b1, o1, e1, h1⟩ := hcell _ _ g1
 cases e1
 obtain ⟨b2, o2, e2, h2⟩ := hcell _ _ g2
 cases e2
 exact ⟨b, o, rfl, h0, by rw [← Nat.add_assoc] at h1; exact h1, by rw [← Nat.add_assoc] at h2; exact h2⟩
end Go.Proofs.YtolkhjdododdaaaGreatDoor
