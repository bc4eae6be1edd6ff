/- The reference's Seen of a view. -/
import Derived.Test.YtolkhjdododdaaaGreatP8
import Derived.Test.YtolkhjdododdaaaGreatP34
import Derived.Test.YtolkhjdododdaaaGreatP29
import Derived.Test.YtolkhjdododdaaaGreatP28
import Derived.Test.YtolkhjdododdaaaGreatP19
import Derived.Test.YtolkhjdododdaaaGreatP18
import Derived.Test.YtolkhjdododdaaaGreatP27
import Derived.Test.YtolkhjdododdaaaGreatP23
import Derived.Test.YtolkhjdododdaaaGreatP13
import Derived.Test.YtolkhjdododdaaaGreatP14
set_option linter.unusedSimpArgs false
set_option linter.unusedVariables false
namespace Go.Proofs.YtolkhjdododdaaaGreat
open Go Go.RowKit
attribute [local go_sem] yields yUpon ro8 pa3 cl4 vw5

/-- What a view has of a row, if its key is not too long. -/
def seenF (x : Vw) (ns : List ByteArray) (pk : ByteArray) (pg now : Int) (r : Ro) : Option (ByteArray × Ro) := if 400 < (vkey pk r.key).size then none else ofSeen x ns pk pg now r
def viewF (x : Vw) (ns : List ByteArray) (pk : ByteArray) (pg now : Int) (l : List Ro) : List (ByteArray × Ro) := l.filterMap (seenF x ns pk pg now)
theorem viewF_snoc (x : Vw) (ns : List ByteArray) (pk : ByteArray) (pg now : Int) (l : List Ro) (r : Ro) : viewF x ns pk pg now (l ++ [r]) = viewF x ns pk pg now l ++ (seenF x ns pk pg now r).toList := by
  unfold viewF
  rw [List.filterMap_append]
  cases h : seenF x ns pk pg now r <;> simp [h]
theorem viewF_short {x : Vw} {ns : List ByteArray} {pk : ByteArray} {pg now : Int} {l : List Ro} (h : ∀ r ∈ l, (vkey pk r.key).size ≤ 400) : viewF x ns pk pg now l = viewRs x ns pk pg now l := by
  unfold viewF viewRs
  induction l with
  | nil => rfl
  | cons r l ih =>
    have e : seenF x ns pk pg now r = ofSeen x ns pk pg now r := by unfold seenF; rw [if_neg (by have := h r (List.mem_cons_self ..); omega)]
    rw [List.filterMap_cons, List.filterMap_cons, e, ih fun q hq => h q (List.mem_cons_of_mem _ hq)]
structure VS (w : World) (x : Vw) (u : Value) (pk : ByteArray) (pg : Int) (pu : Value) (vl : Value) (L : List Pa) (y : World) : Prop where
  ext : Ext w y
  view : BoxAt y w.heap.size (vw5 x u) 31
  part : BoxAt y (w.heap.size + 1) (pa3 pk pg pu) 39
  own : y.ownsRow (w.heap.size + 2) 39 3 vl L.length (paCells L)
  rows : ∀ p ∈ L, RowsT y p.rv p.ps
section
variable {w : World} {x : Vw} {u : Value} {pk : ByteArray} {pg : Int} {pu : Value} {vl : Value} {L : List Pa}
theorem VS.ext' {y z : World} (hE : Ext y z) (h : VS w x u pk pg pu vl L y) : VS w x u pk pg pu vl L z :=
  ⟨h.ext.trans hE, h.view.ext hE, h.part.ext hE, ownsRow_ext h.own hE, fun p hp => (h.rows p hp).ext hE⟩
theorem VS.app {y z : World} {v' : Value} {P : Pa} (h : VS w x u pk pg pu vl L y) (hg : y.grownBy z vl.ownBlock) (hown : z.ownsRow (w.heap.size + 2) 39 3 v' (L.length + 1) (paCells (L ++ [P]))) (hP : RowsT y P.rv P.ps) : VS w x u pk pg pu v' (L ++ [P]) z := by
  have hlt : ∀ q, vl.ownBlock = some q → w.heap.size + 2 ≤ q := fun q hq => (h.own.lt q hq).1
  refine ⟨h.ext.grown hg (fun q hq => by have := hlt q hq; omega), h.view.grown hg (fun e => by have := hlt _ e.symm; omega), h.part.grown hg (fun e => by have := hlt _ e.symm; omega), by rw [List.length_append]; exact hown, fun p hp => ?_⟩
  rcases List.mem_append.1 hp with hp | hp
  · exact (h.rows p hp).keepOwn h.own hg (by decide) (by decide)
  · rw [List.mem_singleton.1 hp]; exact hP.keepOwn h.own hg (by decide) (by decide)
end

set_option maxRecDepth 100000 in
set_option maxHeartbeats 8000000 in
theorem seen18_any (x : Vw) (u : Value) (ns : List ByteArray) (pk : ByteArray) (pg : Int) (pu : Value) (ps : List (Ro × Value)) (now : Int) (w : World) (hrows : RowsIn w pu ps) (hlen : ps.length ≤ 100000) (hlc : ∀ p ∈ ps, p.1.cols.length ≤ 400000) (hdc : ∀ p ∈ ps, DistN p.1.cols) (hns : StrsIn w u ns)
    (hk : pk.size ≤ 10000000) (hkeys : ∀ p ∈ ps, p.1.key.size ≤ 10000000) :
    Calls Tryz.prog 33 #[.agg #[.string x.name, .int .i64 x.id, .string x.table, .string x.on, u], .agg #[.string pk, .int .i64 pg, pu], .int .i64 now] w fun e w' => ∃ v', e = .returned v' ∧ ∃ L : List Pa,
      w'.ownsRow w.heap.size 39 3 v' L.length (paCells L) ∧ (∀ p ∈ L, RowsT w' p.rv p.ps) ∧ L.map Pa.data = outQ (viewF x ns pk pg now (ps.map (·.1))) ∧ Ext w w' := by
  obtain ⟨aa, ca, rfl, hca, hcma, hget⟩ := hrows.get
  obtain ⟨n, hn⟩ : ∃ n, n = ps.length := ⟨_, rfl⟩
  rw [← hn] at hlen hca ⊢
  obtain ⟨a0, a1, hE⟩ := boxes2 w (vw5 x u) (pa3 pk pg (.slice aa n ca)) 31 39
  have HN := Lib.hid hn
  have HGET := Lib.hid hget
  have HLC := Lib.hid hlc
  have HDC := Lib.hid hdc
  have HKEY := Lib.hid hkeys
  have HCOLS := Lib.hid hrows.cols
  clear hn hget hlc hdc hkeys hrows
  go_enter Tryz.func33, Tryz.ntmps33
  go_wp2
  go_loopw [7, 8] (fun m i wr => ∃ (k : Nat) (L : List Pa), k ≤ n ∧ i = .int .i64 k ∧ VS w x u pk pg (.slice aa n ca) m L wr ∧ Hid (L.map Pa.data = outQ (viewF x ns pk pg now ((ps.map (·.1)).take k))) ∧ L.length ≤ k) (fun _ i _ => n - (intOf i).toNat)
  case atStart => exact ⟨0, [], Nat.zero_le _, rfl, ⟨hE, a0, a1, World.ownsRow_nil _ _ _ _, nofun⟩, rfl, by simp⟩
  case round =>
    obtain ⟨k, L, hkn, rfl, hS, HO, hLk⟩ := hrel
    obtain ⟨p0, p1, p2⟩ := hS.part.pa
    obtain ⟨z0, z1, z2, z3, z4⟩ := hS.view.vw
    clear a0 a1 hE
    by_cases hlt : k < n
    · have hkp : k < ps.length := by rw [← HN.out]; exact hlt
      have hkc := HLC.out _ (List.getElem_mem hkp)
      have hkd := HDC.out _ (List.getElem_mem hkp)
      have hkk := HKEY.out _ (List.getElem_mem hkp)
      have hcu := HCOLS.out _ (List.getElem_mem hkp)
      obtain ⟨b, o, rfl, hat⟩ := HGET.out k hkp
      have hsnoc : (ps.map (·.1)).take (k + 1) = (ps.map (·.1)).take k ++ [ps[k].1] := by
        rw [List.take_succ_eq_append_getElem (by simpa using hkp)]
        simp
      obtain ⟨M, hM⟩ : ∃ M, M = ps[k].1 := ⟨_, rfl⟩
      obtain ⟨au, cu, hu⟩ := hcu.shape
      rw [← hM] at hkc hkd hcu hu hsnoc hat hkk
      rw [hu] at hcu hat
      have HSN : Hid (viewF x ns pk pg now ((ps.map (·.1)).take (k + 1)) = viewF x ns pk pg now ((ps.map (·.1)).take k) ++ (seenF x ns pk pg now M).toList) := by
        show _ = _
        rw [hsnoc, viewF_snoc]
      clear hM hu hsnoc
      obtain ⟨m, hm⟩ : ∃ m, m = M.cols.length := ⟨_, rfl⟩
      rw [← hm] at hcu hat
      have HMM := Lib.hid hm
      clear hm
      replace hcu := hcu.ext hS.ext
      have hn0 := hns.ext hS.ext
      obtain ⟨g0, g1, g2, g3, g4, g5, g6, g7⟩ := hat.ext hS.ext
      have hki : decide ((k : Int) < (n : Int)) = true := by simpa using hlt
      have HKD := Lib.hid hkd
      obtain ⟨G, hG⟩ : ∃ G, G = max M.gone pg := ⟨_, rfl⟩
      obtain ⟨C, hC⟩ : ∃ C, C = bestC (cellOf M.cols x.on) G := ⟨_, rfl⟩
      obtain ⟨S, hSe⟩ : ∃ S, S = seenCos M.cols G now := ⟨_, rfl⟩
      obtain ⟨mr, hmr⟩ : ∃ mr, mr = mirF x ns pk pg M := ⟨_, rfl⟩
      have hnone : mr = none → seenF x ns pk pg now M = none := by
        intro h
        rw [hmr] at h
        unfold mirF mirOf at h
        unfold seenF ofSeen
        by_cases h4 : 400 < (vkey pk M.key).size
        · rw [if_pos h4]
        · rw [if_neg h4] at h ⊢
          by_cases hb : bestB (cellOf M.cols x.on) (max M.gone pg) = true
          · rw [if_pos hb] at h; cases h
          · rw [if_neg hb]
      have hsome : ∀ q, mr = some q → q.1 = C.val ∧ C.dead = false ∧ q.2.key = vkey pk M.key ∧ q.2.live = ⟨⟨#[]⟩, false, C.at_, C.fin⟩ ∧ seenF x ns pk pg now M = if seenB false C.at_ C.fin now then some (C.val, ⟨vkey pk M.key, ⟨⟨#[]⟩, false, C.at_, C.fin⟩, 0, 0, S.filter (keeps ns)⟩) else none := by
        intro q h
        rw [hmr] at h
        unfold mirF mirOf at h
        unfold seenF ofSeen
        by_cases h4 : 400 < (vkey pk M.key).size
        · rw [if_pos h4] at h; cases h
        · rw [if_neg h4] at h ⊢
          by_cases hb : bestB (cellOf M.cols x.on) (max M.gone pg) = true
          · rw [if_pos hb] at h ⊢
            have hCc : C = cellOf M.cols x.on := by rw [hC, hG]; unfold bestC; rw [if_pos hb]
            have := (bestB_at hb).1
            cases h
            rw [hCc, hSe, hG]
            exact ⟨rfl, this, rfl, rfl, rfl⟩
          · rw [if_neg hb] at h; cases h
      have HNONE := Lib.hid hnone
      have HSOME := Lib.hid hsome
      have HG := Lib.hid hG
      have HC := Lib.hid hC
      have HSE := Lib.hid hSe
      have HMR := Lib.hid hmr
      obtain ⟨okB, hokB⟩ : ∃ B, B = bestB (cellOf M.cols x.on) G := ⟨_, rfl⟩
      have HOKB := Lib.hid hokB
      clear hG hC hSe hmr hnone hsome hokB
      clear hat hkd z0 z1 z2 z3 z4
      go_wp2_with (((guard_target =~ wpList _ _ _ (Oper.mk none (Op.store _ (Operand.tmp 9) (Operand.tmp 26)) _ _ _ _ :: _) _ _); go_must (refine storeBox rfl 54 (.tmp 9) (.tmp 26) rfl (wr.heap.size) _ _ _ (by rfl) (by rfl) ((BoxAt.made wr (ro8 ⟨⟨#[]⟩, zeroCl, 0, 0, []⟩ (.slice none 0 0)) 54)) (by kernel_rfl) (by rfl) (by simp [Value.oneCell']) ?_); intro w4 c4 h4); have hX4 : Ext wr w4 := ((Ext.refl wr).alloc _).grown h4 (fun q hq => by cases hq; exact Nat.le_refl _); have hS4 := hS.ext' hX4; have d4 : BoxAt w4 wr.heap.size (ro8 M (.slice au m cu)) 54 := c4; have hcu4 := hcu.ext hX4; have hn4 := hn0.ext hX4; obtain ⟨x0, x1, x2, x3, x4, x5, x6, x7⟩ := d4.ro; obtain ⟨z0, z1, z2, z3, z4⟩ := hS4.view.vw; obtain ⟨q0, q1, q2⟩ := hS4.part.pa)
      clear hS hcu hn0 g0 g1 g2 g3 g4 g5 g6 g7 c4 h4 hX4
      refine (mirror18_any x u ns pk pg _ M _ w4 hcu4 (by omega) hn4 hk hkk).mono ?_
      rw [← HMR.out]
      rintro e w5 ⟨rv, rfl, qs, hqs, hqm, hE5⟩
      obtain ⟨ar, cr, rfl⟩ := hqs.shape
      obtain ⟨ml, hml⟩ : ∃ ml, ml = qs.length := ⟨_, rfl⟩
      rw [← hml] at hqs ⊢
      have HML := Lib.hid hml
      have HQM := Lib.hid hqm
      clear hml hqm x0 x1 x2 x3 x4 x5 x6 x7 z0 z1 z2 z3 z4 q0 q1 q2
      have hS5 := hS4.ext' hE5
      have d5 := d4.ext hE5
      clear hS4 d4 p0 p1 p2
      go_wp2_with (((guard_target =~ wpList _ _ _ (Oper.mk none (Op.store _ (Operand.tmp 10) (Operand.tmp 32)) _ _ _ _ :: _) _ _); go_must (refine storeBox rfl 39 (.tmp 10) (.tmp 32) rfl (w5.heap.size) _ _ _ (by rfl) (by rfl) ((BoxAt.made w5 (pa3 ⟨#[]⟩ 0 (.slice none 0 0)) 39)) (by kernel_rfl) (by rfl) (by simp [Value.oneCell']) ?_); intro w6 c6 h6); have hX6 : Ext w5 w6 := ((Ext.refl w5).alloc _).grown h6 (fun q hq => by cases hq; exact Nat.le_refl _); have hS6 := hS5.ext' hX6; have d6 := d5.ext hX6; have e6 : BoxAt w6 w5.heap.size (pa3 (mirK mr) 0 (.slice ar ml cr)) 39 := c6; obtain ⟨x0, x1, x2, x3, x4, x5, x6, x7⟩ := d6.ro; obtain ⟨z0, z1, z2, z3, z4⟩ := hS6.view.vw; obtain ⟨q0, q1, q2⟩ := hS6.part.pa)
      have hcu6 := hcu4.ext (hE5.trans hX6)
      have hn6 := hn4.ext (hE5.trans hX6)
      have hq6 := hqs.ext hX6
      clear hcu4 hn4 hqs hE5 hX6 c6 h6 hS5 d5
      refine (best7_any M _ pg x.on w6 hcu6).mono ?_
      rw [← HG.out, ← HC.out, ← HOKB.out]
      rintro e w7 ⟨rfl, hE7⟩
      have hS7 := hS6.ext' hE7
      have d7 := d6.ext hE7
      have e7 := e6.ext hE7
      have hcu7 := hcu6.ext hE7
      have hn7 := hn6.ext hE7
      have hq7 := hq6.ext hE7
      clear hcu6 hn6 hq6 hE7 hS6 d6 e6 x0 x1 x2 x3 x4 x5 x6 x7 z0 z1 z2 z3 z4 q0 q1 q2
      cases mr with
      | none =>
        have HSN2 : Hid (viewF x ns pk pg now ((ps.map (·.1)).take (k + 1)) = viewF x ns pk pg now ((ps.map (·.1)).take k)) := by
          show _ = _
          rw [HSN.out, HNONE.out rfl]
          exact List.append_nil _
        simp only [mirK, Option.isSome]
        go_wp2_with (((guard_target =~ wpList _ _ _ (Oper.mk none (Op.store _ (Operand.tmp 12) (Operand.tmp 41)) _ _ _ _ :: _) _ _); go_must (refine storeBox rfl 51 (.tmp 12) (.tmp 41) rfl (w7.heap.size) _ _ _ (by rfl) (by rfl) ((BoxAt.made w7 (cl4 zeroCl) 51)) (by kernel_rfl) (by rfl) (by simp [Value.oneCell']) ?_); intro w8 c8 h8); have hX8 : Ext w7 w8 := ((Ext.refl w7).alloc _).grown h8 (fun q hq => by cases hq; exact Nat.le_refl _); have hS8 := hS7.ext' hX8)
        go_roundw
        case rel => exact ⟨k + 1, L, by omega, by go_num, hS8, by show _ = _; rw [HSN2.out]; exact HO.out, by omega⟩
        case measure => simp [intOf] <;> omega
      | some q =>
        obtain ⟨h1, h2, h3, h4, h5⟩ := HSOME.out q rfl
        simp only [mirK, Option.isSome]
        have H1 := Lib.hid h1
        have H2 := Lib.hid h2
        have H3 := Lib.hid h3
        have H4 := Lib.hid h4
        have H5 := Lib.hid h5
        clear h1 h2 h3 h4 h5
        go_wp2_with (((guard_target =~ wpList _ _ _ (Oper.mk none (Op.store _ (Operand.tmp 12) (Operand.tmp 41)) _ _ _ _ :: _) _ _); go_must (refine storeBox rfl 51 (.tmp 12) (.tmp 41) rfl (w7.heap.size) _ _ _ (by rfl) (by rfl) ((BoxAt.made w7 (cl4 zeroCl) 51)) (by kernel_rfl) (by rfl) (by simp [Value.oneCell']) ?_); intro w8 c8 h8); have hX8 : Ext w7 w8 := ((Ext.refl w7).alloc _).grown h8 (fun q hq => by cases hq; exact Nat.le_refl _); have hS8 := hS7.ext' hX8; have d8 := d7.ext hX8; have e8 := e7.ext hX8; have f8 : BoxAt w8 w7.heap.size (cl4 C) 51 := c8; obtain ⟨y0, y1, y2, y3⟩ := f8.cl)
        have hcu8 := hcu7.ext hX8
        have hn8 := hn7.ext hX8
        have hq8 := hq7.ext hX8
        clear hcu7 hn7 hq7 hX8 c8 h8 hS7 d7 e7
        refine (rseen_any C.val C.dead C.at_ C.fin now w8).mono ?_
        rw [H2.out]
        obtain ⟨SB, hSB⟩ : ∃ B, B = seenB false C.at_ C.fin now := ⟨_, rfl⟩
        rw [← hSB]
        have HSB := Lib.hid hSB
        clear hSB
        rintro e w9 ⟨rfl, hE9⟩
        have hS9 := hS8.ext' hE9
        have d9 := d8.ext hE9
        have e9 := e8.ext hE9
        have hcu9 := hcu8.ext hE9
        have hn9 := hn8.ext hE9
        have hq9 := hq8.ext hE9
        clear hcu8 hn8 hq8 hE9 hS8 d8 e8 f8 y0 y1 y2 y3
        cases SB
        · have HSN2 : Hid (viewF x ns pk pg now ((ps.map (·.1)).take (k + 1)) = viewF x ns pk pg now ((ps.map (·.1)).take k)) := by
            show _ = _
            rw [HSN.out, H5.out, ← HSB.out]
            exact List.append_nil _
          go_wp2_with fail
          go_roundw
          case rel => exact ⟨k + 1, L, by omega, by go_num, hS9, by show _ = _; rw [HSN2.out]; exact HO.out, by omega⟩
          case measure => simp [intOf] <;> omega
        · have HSN2 : Hid (viewF x ns pk pg now ((ps.map (·.1)).take (k + 1)) = viewF x ns pk pg now ((ps.map (·.1)).take k) ++ [(C.val, ⟨vkey pk M.key, ⟨⟨#[]⟩, false, C.at_, C.fin⟩, 0, 0, S.filter (keeps ns)⟩)]) := by
            show _ = _
            rw [HSN.out, H5.out, ← HSB.out]
            rfl
          obtain ⟨K, hK⟩ : ∃ K, K = S.filter (keeps ns) := ⟨_, rfl⟩
          rw [← hK] at HSN2
          have HK := Lib.hid hK
          have hSl : S.length ≤ 400000 := by rw [HSE.out]; exact Nat.le_trans (List.length_filter_le _ _) (by have := HMM.out; omega)
          have HSL := Lib.hid hSl
          clear hK hSl HSN
          -- the mirror's row
          obtain ⟨aq, cq, eq1, hcq, hcqm, hgq⟩ := hq9.rows.get
          have hl1 : qs.length = 1 := by have := congrArg List.length HQM.out; simpa [mirR] using this
          obtain ⟨bq, oq, e0, hrq⟩ := hgq 0 (by omega)
          have hq0 : qs[0].1 = q.2 := by
            have h := HQM.out
            simp only [mirR] at h
            have h2 : (qs.map (·.1))[0]? = some q.2 := by rw [h]; rfl
            rw [List.getElem?_map, List.getElem?_eq_getElem (by omega)] at h2
            exact Option.some.inj h2
          injection eq1 with e1 e2 e3
          subst e1 e3 e0
          have hml1 : ml = 1 := by rw [HML.out]; exact hl1
          subst hml1
          simp only [Nat.zero_mul, Nat.add_zero] at hrq
          have r0 : w9.cell? ⟨bq, oq, none⟩ = some (.string (vkey pk M.key)) := by have := hrq.c0; rw [hq0, H3.out] at this; exact this
          have r1 : w9.cell? ⟨bq, oq + 1, none⟩ = some (.string ⟨#[]⟩) := by have := hrq.c1; rw [hq0, H4.out] at this; exact this
          have r2 : w9.cell? ⟨bq, oq + 2, none⟩ = some (.bool false) := by have := hrq.c2; rw [hq0, H4.out] at this; exact this
          have r3 : w9.cell? ⟨bq, oq + 3, none⟩ = some (.int .i64 C.at_) := by have := hrq.c3; rw [hq0, H4.out] at this; exact this
          have r4 : w9.cell? ⟨bq, oq + 4, none⟩ = some (.int .i64 C.fin) := by have := hrq.c4; rw [hq0, H4.out] at this; exact this
          clear hrq hgq hq0 hcq hcqm e2 hq9
          obtain ⟨key, hkey⟩ : ∃ key, key = vkey pk M.key := ⟨_, rfl⟩
          rw [← hkey] at r0 HSN2
          clear hkey
          obtain ⟨x0, x1, x2, x3, x4, x5, x6, x7⟩ := d9.ro
          obtain ⟨z0, z1, z2, z3, z4⟩ := hS9.view.vw
          obtain ⟨q0, q1, q2⟩ := hS9.part.pa
          obtain ⟨t0, t1, t2⟩ := e9.pa
          go_wp2_with fail
          refine wp_region_tab 19 [(15, fun v y => ColsT y v S), (16, fun v y => ColsT y v K), (18, fun v y => ∃ q, v = .pointer (some ⟨q, 0, none⟩) ∧ w9.heap.size ≤ q ∧ BoxAt y q (ro8 ⟨⟨#[]⟩, zeroCl, 0, 0, []⟩ (.slice none 0 0)) 54)] (by kernel_rfl) (by kernel_rfl) (by kernel_rfl) ⟨fun _ _ _ hE h => h.ext hE, fun _ _ _ hE h => h.ext hE, fun _ _ _ hE ⟨q, e, h1, h2⟩ => ⟨q, e, h1, h2.ext hE⟩, trivial⟩ ?_
          replace r0 := held r0
          replace r1 := held r1
          replace r2 := held r2
          replace r3 := held r3
          replace r4 := held r4
          replace x0 := held x0
          replace x1 := held x1
          replace x2 := held x2
          replace x3 := held x3
          replace x4 := held x4
          replace x5 := held x5
          replace x6 := held x6
          replace x7 := held x7
          replace z0 := held z0
          replace z1 := held z1
          replace z2 := held z2
          replace z3 := held z3
          replace z4 := held z4
          replace q1 := held q1
          replace t2 := held t2
          refine rg_quiet rfl rfl rfl rfl ?_; intro K hK; go_big_quiet_op; go_big_quiet_on
          refine rg_quiet rfl rfl rfl rfl ?_; intro K hK; go_big_quiet_op; go_big_quiet_on
          refine rg_quiet rfl rfl rfl rfl ?_; intro K hK; go_big_quiet_op; go_big_quiet_on
          refine rg_quiet rfl rfl rfl rfl ?_; intro K hK; go_big_quiet_op; go_big_quiet_on
          refine rg_quiet rfl rfl rfl rfl ?_; intro K hK; go_big_quiet_op; go_big_quiet_on
          refine rg_quiet rfl rfl rfl rfl ?_; intro K hK; go_big_quiet_op; go_big_quiet_on
          refine rg_quiet rfl rfl rfl rfl ?_; intro K hK; go_big_quiet_op; go_big_quiet_on
          refine rg_quiet rfl rfl rfl rfl ?_; intro K hK; go_big_quiet_op; go_big_quiet_on
          refine rg_quiet rfl rfl rfl rfl ?_; intro K hK; go_big_quiet_op; go_big_quiet_on
          refine rg_quiet rfl rfl rfl rfl ?_; intro K hK; go_big_quiet_op; go_big_quiet_on
          refine rg_quiet rfl rfl rfl rfl ?_; intro K hK; go_big_quiet_op; go_big_quiet_on
          refine rg_quiet rfl rfl rfl rfl ?_; intro K hK; go_big_quiet_op; go_big_quiet_on
          refine rg_quiet rfl rfl rfl rfl ?_; intro K hK; go_big_quiet_op; go_big_quiet_on
          refine rg_quiet rfl rfl rfl rfl ?_; intro K hK; go_big_quiet_op; go_big_quiet_on
          refine rg_quiet rfl rfl rfl rfl ?_; intro K hK; go_big_quiet_op; go_big_quiet_on
          refine rg_fact [] rfl rfl rfl (by kernel_rfl) (fun y hY hf => ?_) (fun v15 y15 hE15 hG15 h15 => ?_)
          · go_simp
            refine (seen7_any M (.slice au m cu) pg now y (hcu9.ext hY) (by have := HMM.out; omega) HKD.out).mono ?_
            rw [← HG.out, ← HSE.out]
            rintro e y' ⟨v', he, hown', hy⟩
            exact ⟨_, he, rg_doneR hY hy (TIn.own hown')⟩
          obtain ⟨a15, c15, rfl⟩ := TIn.shape h15
          clear hE15 hG15 h15
          simp only [Act.put, List.setIfInBounds_toArray, List.set_cons_zero, List.set_cons_succ]
          refine rg_fact [15] rfl rfl rfl (by kernel_rfl) (fun y hY hf => ?_) (fun v16 y16 hE16 hG16 h16 => ?_)
          · have hc15 : ColsT y (.slice a15 S.length c15) S := (hf 15 (by simp)).2 rfl
            go_simp
            refine (pick18_any x u ns _ S y (hn9.ext hY) hc15.cols (by have := HSL.out; omega)).mono ?_
            rw [← HK.out]
            rintro e y' ⟨v', he, hown', hy⟩
            exact ⟨_, he, rg_doneR hY hy (TIn.own hown')⟩
          obtain ⟨a16, c16, rfl⟩ := TIn.shape h16
          clear hE16 hG16 h16
          simp only [Act.put, List.setIfInBounds_toArray, List.set_cons_zero, List.set_cons_succ]
          refine rg_quiet rfl rfl rfl rfl ?_; intro K hK; go_big_quiet_op; go_big_quiet_on
          refine rg_fact [] rfl rfl rfl (by kernel_rfl) (fun y hY hf => ?_) (fun v18 y18 hE18 hG18 h18 => ?_)
          · go_simp
            exact rg_doneR hY ((Ext.refl y).alloc _) ⟨_, rfl, hY.le, BoxAt.made y _ _⟩
          obtain ⟨q18, rfl, _⟩ := h18
          clear hE18 hG18
          simp only [Act.put, List.setIfInBounds_toArray, List.set_cons_zero, List.set_cons_succ]
          refine rel_tail rfl rfl fun w10 hE10 hG => ?_
          have hcT : ColsT w10 (.slice a16 K.length c16) K := (hG 16).1.2 rfl
          obtain ⟨q18', e18, hq18, hbx⟩ := (hG 18).2 rfl
          cases e18
          clear hG r0 r1 r2 r3 r4 x0 x1 x2 x3 x4 x5 x6 x7 z0 z1 z2 z3 z4 q0 q1 q2 t0 t1 t2
          obtain ⟨kl, hkl⟩ : ∃ kl, kl = K.length := ⟨_, rfl⟩
          have HKL := Lib.hid hkl
          rw [← hkl] at hcT ⊢
          clear hkl d9 hcu9 hn9
          go_wp2_with (first
            | (((guard_target =~ wpList _ _ _ (Oper.mk none (Op.store _ (Operand.tmp 14) (Operand.tmp 68)) _ _ _ _ :: _) _ _); go_must (refine storeBox rfl 54 (.tmp 14) (.tmp 68) rfl (q18) _ _ _ (by rfl) (by rfl) (hbx) (by kernel_rfl) (by rfl) (by simp [Value.oneCell']) ?_); intro w11 c11 h11); have d11 : BoxAt w11 q18 (ro8 ⟨key, ⟨⟨#[]⟩, false, C.at_, C.fin⟩, 0, 0, K⟩ (.slice a16 kl c16)) 54 := c11; have hE11 : Ext w9 w11 := hE10.grown h11 (fun q hq => by cases hq; exact hq18); have hS11 := hS9.ext' hE11; have hc11 : ColsT w11 (.slice a16 kl c16) K := hcT.keep h11 hbx (by decide); obtain ⟨t0, t1, t2⟩ := (e9.ext hE11).pa; have hl11 := hS11.part.lt; obtain ⟨y0, y1, y2, y3, y4, y5, y6, y7⟩ := d11.ro)
            | (at_builtin; go_must (refine appR info_Part und_Parts rfl (by decide) (w11.alloc (.cells (ro8 ⟨key, ⟨⟨#[]⟩, false, C.at_, C.fin⟩, 0, 0, K⟩ (.slice a16 kl c16)) 54)) rfl (.tmp 69) (.tmp 75) rfl (w.heap.size + 2) (by rw [Deep.nblk_alloc]; omega) _ L.length (paCells L) (hS11.ext' ((Ext.refl _).alloc _)).own (by rfl) 1 (pa3 q.1 0 (.slice (some ⟨w11.heap.size, 0, none⟩) 1 1)) (by rw [Deep.nblk_alloc]; rfl) (by rfl) (by simp [pa3, Value.oneCell']) (by unfold maxLen; omega) (by omega) ?_); intro m3 w13 hown13 hg13))
          have e3 : paCells L ++ [Value.string q.1, .int .i64 0, .slice (some ⟨w11.heap.size, 0, none⟩) 1 1] = paCells (L ++ [⟨q.1, 0, .slice (some ⟨w11.heap.size, 0, none⟩) 1 1, [(⟨key, ⟨⟨#[]⟩, false, C.at_, C.fin⟩, 0, 0, K⟩, .slice a16 kl c16)]⟩]) := by rw [paCells_append]; rfl
          have E3 := Lib.hid e3
          clear e3
          have hX12 : Ext w11 (w11.alloc (.cells (ro8 ⟨key, ⟨⟨#[]⟩, false, C.at_, C.fin⟩, 0, 0, K⟩ (.slice a16 kl c16)) 54)) := (Ext.refl _).alloc _
          have hrow : RowsT (w11.alloc (.cells (ro8 ⟨key, ⟨⟨#[]⟩, false, C.at_, C.fin⟩, 0, 0, K⟩ (.slice a16 kl c16)) 54)) (.slice (some ⟨w11.heap.size, 0, none⟩) 1 1) [(⟨key, ⟨⟨#[]⟩, false, C.at_, C.fin⟩, 0, 0, K⟩, .slice a16 kl c16)] :=
            RowsT.one (BoxAt.made w11 _ _) (ColsT.ext hX12 hc11)
          clear y0 y1 y2 y3 y4 y5 y6 y7 t0 t1 t2 d11 c11 h11 hbx hcT
          go_roundw
          case rel =>
            refine ⟨k + 1, _, by omega, by go_num, ((hS11.ext' hX12).ext' ((Ext.refl _).alloc _)).app hg13 (by rw [← E3.out]; exact hown13) (hrow.ext ((Ext.refl _).alloc _)), ?_, by simp; omega⟩
            show List.map Pa.data (L ++ [_]) = _
            rw [HSN2.out, List.map_append, HO.out]
            unfold outQ
            rw [List.map_append]
            simp [Pa.data, H1.out]
          case measure => simp [intOf] <;> omega
    · obtain rfl : k = n := by omega
      have hki : decide ((k : Int) < (k : Int)) = false := by simp
      go_wp2_with fail
      go_ret
      refine ⟨_, rfl, L, ownsRow_base hS.own (by omega), hS.rows, ?_, hS.ext⟩
      rw [HO.out, HN.out, List.take_of_length_le (by simp)]
end Go.Proofs.YtolkhjdododdaaaGreat

/- The reference's rows: Is; its partitions: Seen. -/
namespace Go.Proofs.YtolkhjdododdaaaGreat
open Go Go.RowKit
attribute [local go_sem] yields yUpon
set_option maxRecDepth 100000 in
set_option maxHeartbeats 4000000 in
theorem is7_any (r : Ro) (v : Value) (part now : Int) (strict : Bool) (w : World) (hin : ColsIn w v r.cols) (hlen : r.cols.length ≤ 400000) (hd : DistN r.cols) :
    Calls Tryz.prog 63 #[(.agg #[.string r.key, .string r.live.val, .bool r.live.dead, .int .i64 r.live.at_, .int .i64 r.live.fin, .int .i64 r.gone, .int .i64 r.shade, v]), .int .i64 part, .int .i64 now, .bool strict] w fun e w' => e = .returned (.bool (isB r (max r.gone part) now strict)) ∧ Ext w w' := by
  obtain ⟨G, hG⟩ : ∃ G, G = max r.gone part := ⟨_, rfl⟩
  rw [← hG]
  have HG := Lib.hid hG
  have HL := Lib.hid hlen
  have HD := Lib.hid hd
  clear hG hlen hd
  go_enter Tryz.func63, Tryz.ntmps63
  go_wp2_with fail
  refine wp_region_in 21 [(3, fun v _ => v = .bool (seenB r.live.dead r.live.at_ r.live.fin now)), (10, fun v _ => v = .int .i64 G)] (fun w0 => BoxAt w0 w.heap.size (ro8 r v) 54 ∧ Ext w w0 ∧ ColsIn w0 v r.cols) (by kernel_rfl) (by kernel_rfl) (by kernel_rfl) ⟨stays_eq _, stays_eq _, trivial⟩ ?_ ?_
  · exact ⟨BoxAt.made _ _ _, (Ext.refl w).alloc _, hin.ext ((Ext.refl w).alloc _)⟩
  clear hin
  rintro w2 ⟨b0, hE, hin⟩
  have FIN : Hid (∀ wx, Ext w2 wx → BoxAt wx w.heap.size (ro8 r v) 54 ∧ Ext w wx ∧ ColsIn wx v r.cols) := fun wx h => ⟨b0.ext h, hE.trans h, hin.ext h⟩
  obtain ⟨y0, y1, y2, y3, y4, y5, y6, y7⟩ := b0.ro
  clear b0 hE hin
  replace y0 := held y0
  replace y1 := held y1
  replace y2 := held y2
  replace y3 := held y3
  replace y4 := held y4
  replace y5 := held y5
  replace y6 := held y6
  replace y7 := held y7
  cases d0 : seenB r.live.dead r.live.at_ r.live.fin now
  · have HLV : Hid (liveB r G now = false) := by show liveB r G now = false; unfold liveB; rw [d0]; rfl
    refine rg_quiet rfl rfl rfl rfl ?_; intro K hK; go_big_quiet_op; go_big_quiet_on
    refine rg_quiet rfl rfl rfl rfl ?_; intro K hK; go_big_quiet_op; go_big_quiet_on
    refine rg_quiet rfl rfl rfl rfl ?_; intro K hK; go_big_quiet_op; go_big_quiet_on
    refine rg_val [] rfl rfl rfl (by kernel_rfl) (fun w1 hE hf => ?_) ?_
    · go_simp
      exact (rseen_any _ _ _ _ _ w1).mono fun e w' ⟨he, hw⟩ => ⟨_, he, rg_done hE hw (bool_congr d0)⟩
    simp only [Act.put, List.setIfInBounds_toArray, List.set_cons_zero, List.set_cons_succ]
    refine rg_quiet rfl rfl rfl rfl ?_; intro K hK; go_big_quiet_op; go_big_quiet_on
    refine rel_skip rfl rfl ?_
    simp only [Act.put, List.setIfInBounds_toArray, List.set_cons_zero, List.set_cons_succ]
    refine rel_skip rfl rfl ?_
    simp only [Act.put, List.setIfInBounds_toArray, List.set_cons_zero, List.set_cons_succ]
    refine rel_skip rfl rfl ?_
    simp only [Act.put, List.setIfInBounds_toArray, List.set_cons_zero, List.set_cons_succ]
    refine rel_skip rfl rfl ?_
    simp only [Act.put, List.setIfInBounds_toArray, List.set_cons_zero, List.set_cons_succ]
    refine rel_skip rfl rfl ?_
    simp only [Act.put, List.setIfInBounds_toArray, List.set_cons_zero, List.set_cons_succ]
    refine rel_skip rfl rfl ?_
    simp only [Act.put, List.setIfInBounds_toArray, List.set_cons_zero, List.set_cons_succ]
    refine rel_skip rfl rfl ?_
    simp only [Act.put, List.setIfInBounds_toArray, List.set_cons_zero, List.set_cons_succ]
    refine rg_quiet rfl rfl rfl rfl ?_; intro K hK; go_big_quiet_op; go_big_quiet_on
    refine rg_quiet rfl rfl rfl rfl ?_; intro K hK; go_big_quiet_op; go_big_quiet_on
    refine rel_skip rfl rfl ?_
    simp only [Act.put, List.setIfInBounds_toArray, List.set_cons_zero, List.set_cons_succ]
    refine rel_skip rfl rfl ?_
    simp only [Act.put, List.setIfInBounds_toArray, List.set_cons_zero, List.set_cons_succ]
    refine rel_skip rfl rfl ?_
    simp only [Act.put, List.setIfInBounds_toArray, List.set_cons_zero, List.set_cons_succ]
    refine rel_skip rfl rfl ?_
    simp only [Act.put, List.setIfInBounds_toArray, List.set_cons_zero, List.set_cons_succ]
    refine rel_skip rfl rfl ?_
    simp only [Act.put, List.setIfInBounds_toArray, List.set_cons_zero, List.set_cons_succ]
    refine rel_skip rfl rfl ?_
    simp only [Act.put, List.setIfInBounds_toArray, List.set_cons_zero, List.set_cons_succ]
    refine rg_quiet rfl rfl rfl rfl ?_; intro K hK; go_big_quiet_op; go_big_quiet_on
    refine rel_nil fun w5 hE5 _ => ?_
    obtain ⟨b0, hE, hin⟩ := FIN.out w5 hE5
    clear y0 y1 y2 y3 y4 y5 y6 y7 hE5 FIN
    clear d0
    obtain ⟨y0, y1, y2, y3, y4, y5, y6, y7⟩ := b0.ro
    cases strict
    · go_wp2_with fail
      refine (seen7_any r v part now _ hin HL.out HD.out).mono ?_
      rw [← HG.out]
      rintro e w6 ⟨v', rfl, hown, hE6⟩
      obtain ⟨a6, c6, rfl, _, _, _, _⟩ := SliceIn.of_owns hown
      have hq : isB r G now false = decide (0 < (seenCos r.cols G now).length) := by unfold isB; rw [HLV.out]; rfl
      have HQ := Lib.hid hq
      have HX := hE.trans hE6
      clear hown hq b0 hE hE6 hin
      go_wp2
      all_goals
        go_ret
        refine ⟨ret_bool (Eq.trans ?_ HQ.out.symm), HX⟩
        first | rfl | (simp; done) | (simp; omega)
    · have hq : isB r G now true = false := by unfold isB; rw [HLV.out]; rfl
      have HQ := Lib.hid hq
      clear hq
      go_wp2
      go_ret
      exact ⟨ret_bool HQ.out.symm, hE⟩
  · cases d1 : decide (G < r.live.at_)
    · have HLV : Hid (liveB r G now = false) := by show liveB r G now = false; unfold liveB; rw [d0, d1]; rfl
      refine rg_quiet rfl rfl rfl rfl ?_; intro K hK; go_big_quiet_op; go_big_quiet_on
      refine rg_quiet rfl rfl rfl rfl ?_; intro K hK; go_big_quiet_op; go_big_quiet_on
      refine rg_quiet rfl rfl rfl rfl ?_; intro K hK; go_big_quiet_op; go_big_quiet_on
      refine rg_val [] rfl rfl rfl (by kernel_rfl) (fun w1 hE hf => ?_) ?_
      · go_simp
        exact (rseen_any _ _ _ _ _ w1).mono fun e w' ⟨he, hw⟩ => ⟨_, he, rg_done hE hw (bool_congr d0)⟩
      simp only [Act.put, List.setIfInBounds_toArray, List.set_cons_zero, List.set_cons_succ]
      refine rg_quiet rfl rfl rfl rfl ?_; intro K hK; go_big_quiet_op; go_big_quiet_on
      refine rg_quiet rfl rfl rfl rfl ?_; intro K hK; go_big_quiet_op; go_big_quiet_on
      refine rg_quiet rfl rfl rfl rfl ?_; intro K hK; go_big_quiet_op; go_big_quiet_on
      refine rg_quiet rfl rfl rfl rfl ?_; intro K hK; go_big_quiet_op; go_big_quiet_on
      refine rg_quiet rfl rfl rfl rfl ?_; intro K hK; go_big_quiet_op; go_big_quiet_on
      refine rg_quiet rfl rfl rfl rfl ?_; intro K hK; go_big_quiet_op; go_big_quiet_on
      refine rg_val [] rfl rfl rfl (by kernel_rfl) (fun w1 hE hf => ?_) ?_
      · go_simp
        exact (gone7_any r v part w1).mono fun e w' ⟨he, hw⟩ => ⟨_, he, rg_done hE hw (int_congr HG.out.symm)⟩
      simp only [Act.put, List.setIfInBounds_toArray, List.set_cons_zero, List.set_cons_succ]
      refine rg_quiet rfl rfl rfl rfl ?_; intro K hK; go_big_quiet_op; go_big_quiet_on
      refine rg_quiet rfl rfl rfl rfl ?_; intro K hK; go_big_quiet_op; go_big_quiet_on
      refine rg_quiet rfl rfl rfl rfl ?_; intro K hK; go_big_quiet_op; go_big_quiet_on
      refine rel_skip rfl rfl ?_
      simp only [Act.put, List.setIfInBounds_toArray, List.set_cons_zero, List.set_cons_succ]
      refine rel_skip rfl rfl ?_
      simp only [Act.put, List.setIfInBounds_toArray, List.set_cons_zero, List.set_cons_succ]
      refine rel_skip rfl rfl ?_
      simp only [Act.put, List.setIfInBounds_toArray, List.set_cons_zero, List.set_cons_succ]
      refine rel_skip rfl rfl ?_
      simp only [Act.put, List.setIfInBounds_toArray, List.set_cons_zero, List.set_cons_succ]
      refine rel_skip rfl rfl ?_
      simp only [Act.put, List.setIfInBounds_toArray, List.set_cons_zero, List.set_cons_succ]
      refine rel_skip rfl rfl ?_
      simp only [Act.put, List.setIfInBounds_toArray, List.set_cons_zero, List.set_cons_succ]
      refine rg_quiet rfl rfl rfl rfl ?_; intro K hK; go_big_quiet_op; go_big_quiet_on
      refine rel_nil fun w5 hE5 _ => ?_
      obtain ⟨b0, hE, hin⟩ := FIN.out w5 hE5
      clear y0 y1 y2 y3 y4 y5 y6 y7 hE5 FIN
      clear d0 d1
      obtain ⟨y0, y1, y2, y3, y4, y5, y6, y7⟩ := b0.ro
      cases strict
      · go_wp2_with fail
        refine (seen7_any r v part now _ hin HL.out HD.out).mono ?_
        rw [← HG.out]
        rintro e w6 ⟨v', rfl, hown, hE6⟩
        obtain ⟨a6, c6, rfl, _, _, _, _⟩ := SliceIn.of_owns hown
        have hq : isB r G now false = decide (0 < (seenCos r.cols G now).length) := by unfold isB; rw [HLV.out]; rfl
        have HQ := Lib.hid hq
        have HX := hE.trans hE6
        clear hown hq b0 hE hE6 hin
        go_wp2
        all_goals
          go_ret
          refine ⟨ret_bool (Eq.trans ?_ HQ.out.symm), HX⟩
          first | rfl | (simp; done) | (simp; omega)
      · have hq : isB r G now true = false := by unfold isB; rw [HLV.out]; rfl
        have HQ := Lib.hid hq
        clear hq
        go_wp2
        go_ret
        exact ⟨ret_bool HQ.out.symm, hE⟩
    · cases d2 : decide (r.shade < r.live.at_)
      · have HLV : Hid (liveB r G now = false) := by show liveB r G now = false; unfold liveB; rw [d0, d1, d2]; rfl
        refine rg_quiet rfl rfl rfl rfl ?_; intro K hK; go_big_quiet_op; go_big_quiet_on
        refine rg_quiet rfl rfl rfl rfl ?_; intro K hK; go_big_quiet_op; go_big_quiet_on
        refine rg_quiet rfl rfl rfl rfl ?_; intro K hK; go_big_quiet_op; go_big_quiet_on
        refine rg_val [] rfl rfl rfl (by kernel_rfl) (fun w1 hE hf => ?_) ?_
        · go_simp
          exact (rseen_any _ _ _ _ _ w1).mono fun e w' ⟨he, hw⟩ => ⟨_, he, rg_done hE hw (bool_congr d0)⟩
        simp only [Act.put, List.setIfInBounds_toArray, List.set_cons_zero, List.set_cons_succ]
        refine rg_quiet rfl rfl rfl rfl ?_; intro K hK; go_big_quiet_op; go_big_quiet_on
        refine rg_quiet rfl rfl rfl rfl ?_; intro K hK; go_big_quiet_op; go_big_quiet_on
        refine rg_quiet rfl rfl rfl rfl ?_; intro K hK; go_big_quiet_op; go_big_quiet_on
        refine rg_quiet rfl rfl rfl rfl ?_; intro K hK; go_big_quiet_op; go_big_quiet_on
        refine rg_quiet rfl rfl rfl rfl ?_; intro K hK; go_big_quiet_op; go_big_quiet_on
        refine rg_quiet rfl rfl rfl rfl ?_; intro K hK; go_big_quiet_op; go_big_quiet_on
        refine rg_val [] rfl rfl rfl (by kernel_rfl) (fun w1 hE hf => ?_) ?_
        · go_simp
          exact (gone7_any r v part w1).mono fun e w' ⟨he, hw⟩ => ⟨_, he, rg_done hE hw (int_congr HG.out.symm)⟩
        simp only [Act.put, List.setIfInBounds_toArray, List.set_cons_zero, List.set_cons_succ]
        refine rg_quiet rfl rfl rfl rfl ?_; intro K hK; go_big_quiet_op; go_big_quiet_on
        refine rg_quiet rfl rfl rfl rfl ?_; intro K hK; go_big_quiet_op; go_big_quiet_on
        refine rg_quiet rfl rfl rfl rfl ?_; intro K hK; go_big_quiet_op; go_big_quiet_on
        refine rg_quiet rfl rfl rfl rfl ?_; intro K hK; go_big_quiet_op; go_big_quiet_on
        refine rg_quiet rfl rfl rfl rfl ?_; intro K hK; go_big_quiet_op; go_big_quiet_on
        refine rg_quiet rfl rfl rfl rfl ?_; intro K hK; go_big_quiet_op; go_big_quiet_on
        refine rg_quiet rfl rfl rfl rfl ?_; intro K hK; go_big_quiet_op; go_big_quiet_on
        refine rg_quiet rfl rfl rfl rfl ?_; intro K hK; go_big_quiet_op; go_big_quiet_on
        refine rg_quiet rfl rfl rfl rfl ?_; intro K hK; go_big_quiet_op; go_big_quiet_on
        refine rg_quiet rfl rfl rfl rfl ?_; intro K hK; go_big_quiet_op; go_big_quiet_on
        refine rel_nil fun w5 hE5 _ => ?_
        obtain ⟨b0, hE, hin⟩ := FIN.out w5 hE5
        clear y0 y1 y2 y3 y4 y5 y6 y7 hE5 FIN
        clear d0 d1 d2
        obtain ⟨y0, y1, y2, y3, y4, y5, y6, y7⟩ := b0.ro
        cases strict
        · go_wp2_with fail
          refine (seen7_any r v part now _ hin HL.out HD.out).mono ?_
          rw [← HG.out]
          rintro e w6 ⟨v', rfl, hown, hE6⟩
          obtain ⟨a6, c6, rfl, _, _, _, _⟩ := SliceIn.of_owns hown
          have hq : isB r G now false = decide (0 < (seenCos r.cols G now).length) := by unfold isB; rw [HLV.out]; rfl
          have HQ := Lib.hid hq
          have HX := hE.trans hE6
          clear hown hq b0 hE hE6 hin
          go_wp2
          all_goals
            go_ret
            refine ⟨ret_bool (Eq.trans ?_ HQ.out.symm), HX⟩
            first | rfl | (simp; done) | (simp; omega)
        · have hq : isB r G now true = false := by unfold isB; rw [HLV.out]; rfl
          have HQ := Lib.hid hq
          clear hq
          go_wp2
          go_ret
          exact ⟨ret_bool HQ.out.symm, hE⟩
      · have HLV : Hid (liveB r G now = true) := by show liveB r G now = true; unfold liveB; rw [d0, d1, d2]; rfl
        refine rg_quiet rfl rfl rfl rfl ?_; intro K hK; go_big_quiet_op; go_big_quiet_on
        refine rg_quiet rfl rfl rfl rfl ?_; intro K hK; go_big_quiet_op; go_big_quiet_on
        refine rg_quiet rfl rfl rfl rfl ?_; intro K hK; go_big_quiet_op; go_big_quiet_on
        refine rg_val [] rfl rfl rfl (by kernel_rfl) (fun w1 hE hf => ?_) ?_
        · go_simp
          exact (rseen_any _ _ _ _ _ w1).mono fun e w' ⟨he, hw⟩ => ⟨_, he, rg_done hE hw (bool_congr d0)⟩
        simp only [Act.put, List.setIfInBounds_toArray, List.set_cons_zero, List.set_cons_succ]
        refine rg_quiet rfl rfl rfl rfl ?_; intro K hK; go_big_quiet_op; go_big_quiet_on
        refine rg_quiet rfl rfl rfl rfl ?_; intro K hK; go_big_quiet_op; go_big_quiet_on
        refine rg_quiet rfl rfl rfl rfl ?_; intro K hK; go_big_quiet_op; go_big_quiet_on
        refine rg_quiet rfl rfl rfl rfl ?_; intro K hK; go_big_quiet_op; go_big_quiet_on
        refine rg_quiet rfl rfl rfl rfl ?_; intro K hK; go_big_quiet_op; go_big_quiet_on
        refine rg_quiet rfl rfl rfl rfl ?_; intro K hK; go_big_quiet_op; go_big_quiet_on
        refine rg_val [] rfl rfl rfl (by kernel_rfl) (fun w1 hE hf => ?_) ?_
        · go_simp
          exact (gone7_any r v part w1).mono fun e w' ⟨he, hw⟩ => ⟨_, he, rg_done hE hw (int_congr HG.out.symm)⟩
        simp only [Act.put, List.setIfInBounds_toArray, List.set_cons_zero, List.set_cons_succ]
        refine rg_quiet rfl rfl rfl rfl ?_; intro K hK; go_big_quiet_op; go_big_quiet_on
        refine rg_quiet rfl rfl rfl rfl ?_; intro K hK; go_big_quiet_op; go_big_quiet_on
        refine rg_quiet rfl rfl rfl rfl ?_; intro K hK; go_big_quiet_op; go_big_quiet_on
        refine rg_quiet rfl rfl rfl rfl ?_; intro K hK; go_big_quiet_op; go_big_quiet_on
        refine rg_quiet rfl rfl rfl rfl ?_; intro K hK; go_big_quiet_op; go_big_quiet_on
        refine rg_quiet rfl rfl rfl rfl ?_; intro K hK; go_big_quiet_op; go_big_quiet_on
        refine rg_quiet rfl rfl rfl rfl ?_; intro K hK; go_big_quiet_op; go_big_quiet_on
        refine rg_quiet rfl rfl rfl rfl ?_; intro K hK; go_big_quiet_op; go_big_quiet_on
        refine rg_quiet rfl rfl rfl rfl ?_; intro K hK; go_big_quiet_op; go_big_quiet_on
        refine rg_quiet rfl rfl rfl rfl ?_; intro K hK; go_big_quiet_op; go_big_quiet_on
        refine rel_nil fun w5 hE5 _ => ?_
        obtain ⟨b0, hE, hin⟩ := FIN.out w5 hE5
        clear y0 y1 y2 y3 y4 y5 y6 y7 hE5 FIN
        clear d0 d1 d2
        have hq : isB r G now strict = true := by unfold isB; rw [HLV.out]; rfl
        have HQ := Lib.hid hq
        clear hq
        go_wp2
        go_ret
        exact ⟨ret_bool HQ.out.symm, hE⟩
end Go.Proofs.YtolkhjdododdaaaGreat

/- The reference's partitions: Seen. -/
namespace Go.Proofs.YtolkhjdododdaaaGreat
open Go Go.RowKit
attribute [local go_sem] yields yUpon ro8 pa3

set_option maxRecDepth 100000 in
set_option maxHeartbeats 8000000 in
theorem seen8_any (pk : ByteArray) (pg : Int) (pu : Value) (ps : List (Ro × Value)) (now : Int) (strict : Bool) (w : World) (hin : RowsIn w pu ps) (hlen : ps.length ≤ 1000000) (hcl : ∀ p ∈ ps, p.1.cols.length ≤ 400000) (hdc : ∀ p ∈ ps, DistN p.1.cols) :
    Calls Tryz.prog 35 #[.agg #[.string pk, .int .i64 pg, pu], .int .i64 now, .bool strict] w fun e w' => ∃ v', e = .returned v' ∧ ∃ qs, w'.ownsRow w.heap.size 54 8 v' qs.length (roCells qs) ∧ (∀ p ∈ qs, SafeC w w' p) ∧ qs.map (·.1) = seenRs (ps.map (·.1)) pg now strict ∧ Ext w w' := by
  have a0 := BoxAt.made w (pa3 pk pg pu) 39
  have hE := (Ext.refl w).alloc (.cells (pa3 pk pg pu) 39)
  obtain ⟨aa, ca, rfl, hca, hcma, hget⟩ := hin.get
  have c0 := a0.pa
  obtain ⟨n, hn⟩ : ∃ n, n = ps.length := ⟨_, rfl⟩
  rw [← hn] at hlen hca a0 hE c0 ⊢
  have HN := Lib.hid hn
  have HGET := Lib.hid hget
  clear hn hget
  go_enter Tryz.func35, Tryz.ntmps35
  go_wp2
  go_loopw [7, 8] (fun so i wr => ∃ (k : Nat) (out : List (Ro × Value)), k ≤ n ∧ i = .int .i64 k ∧ wr.ownsRow w.heap.size 54 8 so out.length (roCells out) ∧ Hid (∀ p ∈ out, SafeC w wr p) ∧ Ext w wr ∧ BoxAt wr w.heap.size (pa3 pk pg (.slice aa n ca)) 39 ∧ Hid (out.map (·.1) = seenRs ((ps.map (·.1)).take k) pg now strict) ∧ out.length ≤ k) (fun _ i _ => n - (intOf i).toNat)
  case atStart => exact ⟨0, [], Nat.zero_le _, rfl, World.ownsRow_nil _ _ _ _, nofun, hE, a0, rfl, by simp⟩
  case round =>
    obtain ⟨k, out, hk, rfl, hown, HS, hE1, b0, HO, hok⟩ := hrel
    have p0 := b0.pa
    by_cases hlt : k < n
    · have hkp : k < ps.length := by rw [← HN.out]; exact hlt
      have hkc := hcl _ (List.getElem_mem hkp)
      have hdk := hdc _ (List.getElem_mem hkp)
      have hcu := hin.cols _ (List.getElem_mem hkp)
      obtain ⟨b, o, rfl, hat⟩ := HGET.out k hkp
      have hsnoc : (ps.map (·.1)).take (k + 1) = (ps.map (·.1)).take k ++ [ps[k].1] := by
        rw [List.take_succ_eq_append_getElem (by simpa using hkp)]
        simp
      obtain ⟨M, hM⟩ : ∃ M, M = ps[k].1 := ⟨_, rfl⟩
      obtain ⟨au, cu, hu⟩ := hcu.shape
      rw [← hM] at hkc hcu hu hsnoc hat hdk
      rw [hu] at hcu hat
      have HSN := Lib.hid hsnoc
      clear hM hu hsnoc
      obtain ⟨m, hm⟩ : ∃ m, m = M.cols.length := ⟨_, rfl⟩
      rw [← hm] at hcu hat
      clear hm
      have hcu0 := hcu
      replace hcu := hcu.ext hE1
      replace hat := hat.ext hE1
      obtain ⟨x0, x1, x2, x3, x4, x5, x6, x7⟩ := hat
      obtain ⟨sB, hsB⟩ : ∃ sB, sB = isB M (max M.gone pg) now strict := ⟨_, rfl⟩
      have HB := Lib.hid hsB
      clear hsB
      go_wp2_with (((guard_target =~ wpList _ _ _ (Oper.mk none (Op.store _ (Operand.tmp 9) (Operand.tmp 21)) _ _ _ _ :: _) _ _); go_must (refine storeBox rfl 54 (.tmp 9) (.tmp 21) rfl (wr.heap.size) _ _ _ (by rfl) (by rfl) ((BoxAt.made wr (ro8 ⟨⟨#[]⟩, zeroCl, 0, 0, []⟩ (.slice none 0 0)) 54)) (by kernel_rfl) (by rfl) (by simp [Value.oneCell']) ?_); intro w4 c4 g4); have hX4 : Ext wr w4 := ((Ext.refl wr).alloc _).grown g4 (fun q hq => by cases hq; omega); have d4 := c4.ro (r := M) (v := .slice au m cu); have e4 := (b0.ext hX4).pa)
      refine (is7_any M (.slice au m cu) pg now strict w4 (hcu.ext hX4) hkc hdk).mono ?_
      rw [← HB.out]
      rintro e w5 ⟨rfl, hE5⟩
      have hX5 := hX4.trans hE5
      have b5 := b0.ext hX5
      have r5 : BoxAt w5 wr.heap.size (ro8 M (.slice au m cu)) 54 := c4.ext hE5
      have hown5 := ownsRow_ext hown hX5
      have hS5 : ∀ p ∈ out, SafeC w w5 p := fun p hp => (HS.out p hp).ext hX5
      have hcu5 := hcu.ext hX5
      have hW5 := hE1.trans hX5
      have hle5 := hX5.le
      clear d4 e4 c4 x0 x1 x2 x3 x4 x5 x6 x7 hX4 hE5 b0
      cases sB with
      | false =>
        go_wp2_with fail
        go_roundw
        case rel =>
          refine ⟨k + 1, out, hlt, rfl, hown5, hS5, hW5, b5, ?_, by omega⟩
          show _ = _
          rw [HSN.out, seenRs_snoc, ← HB.out, if_neg (by decide), List.append_nil]
          exact HO.out
        case measure => simp [intOf]; omega
      | true =>
        obtain ⟨S, hS⟩ : ∃ S, S = seenCos M.cols (max M.gone pg) now := ⟨_, rfl⟩
        have HSS := Lib.hid hS
        clear hS
        go_wp2_with fail
        refine wp_region_relE (SR w wr u7 out pk pg (.slice (some ⟨b, o, none⟩) n ca) M (.slice au m cu)) (ME u7 12) (Tab.atE [(2, fun v _ => v = .string M.key), (4, fun v _ => v = (.agg #[.string M.live.val, .bool M.live.dead, .int .i64 M.live.at_, .int .i64 M.live.fin])), (5, fun v _ => v = (.agg #[.string M.key, .string M.live.val, .bool M.live.dead, .int .i64 M.live.at_, .int .i64 M.live.fin, .int .i64 M.gone, .int .i64 M.shade, (.slice au m cu)])), (7, fun v _ => v = .int .i64 pg), (9, fun v x => x.ownsRow wr.heap.size 57 5 v S.length (coCells S)), (11, fun v x => ∃ b u, v = .slice (some ⟨b, 0, none⟩) 1 1 ∧ wr.heap.size ≤ b ∧ BoxAt x b (ro8 ⟨M.key, M.live, 0, 0, S⟩ u) 54 ∧ x.ownsRow wr.heap.size 57 5 u S.length (coCells S)), (12, fun v x => ∃ u, x.ownsRow w.heap.size 54 8 v (out.length + 1) (roCells (out ++ [(⟨M.key, M.live, 0, 0, S⟩, u)])) ∧ x.ownsRow wr.heap.size 57 5 u S.length (coCells S))])
          (Tab.staysE ⟨fun _ _ _ _ _ _ h => h, fun _ _ _ _ _ _ h => h, fun _ _ _ _ _ _ h => h, fun _ _ _ _ _ _ h => h, fun j _ v x y hR h => ME_own hown hR h, fun j _ v x y hR ⟨b, u, e, hb, hx, h⟩ => ⟨b, u, e, hb, ME_box hown hR hb hx, ME_own hown hR h⟩, fun j hj v x y hR ⟨u, h, h'⟩ => ⟨u, ownsRow_ext h (ME_off hj hR), ownsRow_ext h' (ME_off hj hR)⟩, trivial⟩)
          14 (by kernel_rfl) (by kernel_rfl) (by kernel_rfl) ((⟨⟨hW5, hown5, hle5, hS5⟩, b5, r5⟩ : SR w wr u7 out pk pg (.slice (some ⟨b, o, none⟩) n ca) M (.slice au m cu) w5).ext' (Ext.refl w5).drew) ?_
        refine relE_quiet rfl rfl rfl rfl ?_; intro K hK; go_big_quiet_op; (first | refine ⟨_, fun _ _ => rfl, hK _ ?_⟩ | refine hK _ ?_); clear hK K
        refine relE_quiet rfl rfl rfl rfl ?_; intro K hK; go_big_quiet_op; (first | refine ⟨_, fun _ _ => rfl, hK _ ?_⟩ | refine hK _ ?_); clear hK K
        refine relE_val [] rfl rfl rfl (by kernel_rfl) (fun z hz hf => ?_) ?_
        · obtain ⟨x0, x1, x2, x3, x4, x5, x6, x7⟩ := hz.row.ro
          go_simp
          exact ⟨hz, ME_ext (Ext.refl z), rfl⟩
        simp only [Act.put, List.setIfInBounds_toArray, List.set_cons_zero, List.set_cons_succ]
        refine relE_quiet rfl rfl rfl rfl ?_; intro K hK; go_big_quiet_op; (first | refine ⟨_, fun _ _ => rfl, hK _ ?_⟩ | refine hK _ ?_); clear hK K
        refine relE_val [] rfl rfl rfl (by kernel_rfl) (fun z hz hf => ?_) ?_
        · obtain ⟨x0, x1, x2, x3, x4, x5, x6, x7⟩ := hz.row.ro
          go_simp
          exact ⟨hz, ME_ext (Ext.refl z), rfl⟩
        simp only [Act.put, List.setIfInBounds_toArray, List.set_cons_zero, List.set_cons_succ]
        refine relE_val [] rfl rfl rfl (by kernel_rfl) (fun z hz hf => ?_) ?_
        · obtain ⟨x0, x1, x2, x3, x4, x5, x6, x7⟩ := hz.row.ro
          go_simp
          exact ⟨hz, ME_ext (Ext.refl z), rfl⟩
        simp only [Act.put, List.setIfInBounds_toArray, List.set_cons_zero, List.set_cons_succ]
        refine relE_quiet rfl rfl rfl rfl ?_; intro K hK; go_big_quiet_op; (first | refine ⟨_, fun _ _ => rfl, hK _ ?_⟩ | refine hK _ ?_); clear hK K
        refine relE_val [] rfl rfl rfl (by kernel_rfl) (fun z hz hf => ?_) ?_
        · obtain ⟨x0, x1, x2⟩ := hz.part.pa
          go_simp
          exact ⟨hz, ME_ext (Ext.refl z), rfl⟩
        simp only [Act.put, List.setIfInBounds_toArray, List.set_cons_zero, List.set_cons_succ]
        refine relE_quiet rfl rfl rfl rfl ?_; intro K hK; go_big_quiet_op; (first | refine ⟨_, fun _ _ => rfl, hK _ ?_⟩ | refine hK _ ?_); clear hK K
        refine relE_fact [] rfl rfl rfl (by kernel_rfl) (fun z hz hf => ?_) (fun v8 z8 hC8 hG8 h8 => ?_)
        · go_simp
          refine (seen7_any M (.slice au m cu) pg now z (hcu0.ext hz.mr.ext) hkc hdk).mono ?_
          rintro e y ⟨v', he, hown', hy⟩
          rw [← HSS.out] at hown'
          exact ⟨_, he, hz.ext' hy, ME_ext hy, ownsRow_base hown' (Nat.le_trans hz.mr.size (Nat.le_succ _))⟩
        obtain ⟨a8, cc8, rfl⟩ := own_shape h8
        clear hC8 hG8 h8
        simp only [Act.put, List.setIfInBounds_toArray, List.set_cons_zero, List.set_cons_succ]
        refine relE_quiet rfl rfl rfl rfl ?_; intro K hK; go_big_quiet_op; (first | refine ⟨_, fun _ _ => rfl, hK _ ?_⟩ | refine hK _ ?_); clear hK K
        refine relE_fact [9] rfl rfl rfl (by kernel_rfl) (fun z hz hf => ?_) (fun v4 z4 hC4 hG4 h4 => ?_)
        · have hu := (hf 9 (by simp)).2 rfl
          go_simp
          exact ⟨hz.ext' ((Ext.refl z).alloc _), ME_ext ((Ext.refl z).alloc _), _, rfl, hz.mr.size, _, BoxAt.made z _ _, ownsRow_ext hu ((Ext.refl z).alloc _)⟩
        obtain ⟨b4, u4, rfl, hb4, _, _⟩ := h4
        clear hC4 hG4 hb4
        simp only [Act.put, List.setIfInBounds_toArray, List.set_cons_zero, List.set_cons_succ]
        refine relE_fact [11] rfl rfl rfl (by kernel_rfl) (fun z hz hf => ?_) (fun v5 z5 hC5 hG5 h5 => ?_)
        · obtain ⟨bb, u, e, _, hbox, hu⟩ := (hf 11 (by simp)).2 rfl
          cases e
          obtain ⟨au, cu, rfl⟩ := own_shape hu
          refine yields_append info_Row und_Rows rfl (by decide) (.tmp 28) (.tmp 39) rfl w.heap.size hz.mr.ext.le u7 out.length (roCells out) hz.mr.own (by rfl) b4 1 1 (ro8 ⟨M.key, M.live, 0, 0, S⟩ (.slice au S.length cu)).toList (by rfl) (by rfl) (fun j u hj => by rw [hbox.cell j]; simpa using hj) (by simp [ro8, Value.oneCell']) (by unfold maxLen; omega) (by omega) ?_
          intro v' y hown' hg hkeep
          refine ⟨⟨⟨hz.mr.ext.grown hg (fun q hq => (hz.mr.own.lt q hq).1), hkeep, Nat.le_trans hz.mr.size hg.size, fun p hp => (hz.mr.safe p hp).grown hz.mr.own hg⟩, ?_, ?_⟩, by unfold ME; rw [if_pos rfl]; exact hg, _, ?_, hu.kept hg (own_ne_own hu hz.mr.own (by decide))⟩
          · refine hz.part.grown hg (fun e => ?_)
            rcases own_ne_box hz.mr.own hz.part (by decide) with h | h
            · rw [h] at e; cases e
            · exact h e.symm
          · exact hz.row.grown hg (fun e => by have := (hown.lt _ e.symm).2; omega)
          · rw [roCells_append]
            exact hown'
        obtain ⟨u5, h5, _⟩ := h5
        obtain ⟨a5, c5, rfl⟩ := own_shape h5
        clear hC5 hG5 h5
        simp only [Act.put, List.setIfInBounds_toArray, List.set_cons_zero, List.set_cons_succ]
        refine relE_quiet rfl rfl rfl rfl ?_; intro K hK; go_big_quiet_op; (first | refine ⟨_, fun _ _ => rfl, hK _ ?_⟩ | refine hK _ ?_); clear hK K
        refine relE_nil fun w9 hC hG => ?_
        obtain ⟨u9, hown9, hu9'⟩ := (hG 12).2 rfl
        have hu9 := ownsRow_base hu9' hE1.le
        have hE9 := hC.mr.ext
        have hs9 := hC.mr.safe
        have b9 := hC.part
        clear hC hG hown hown5 hS5 b5 r5
        go_wp2_with fail
        go_roundw
        case rel =>
          refine ⟨k + 1, out ++ [(⟨M.key, M.live, 0, 0, S⟩, u9)], hlt, rfl, by rw [List.length_append]; exact hown9, fun p hp => ?_, hE9, b9, ?_, by simp; omega⟩
          · rcases List.mem_append.1 hp with h | h
            · exact hs9 p h
            · rw [List.mem_singleton.1 h]; exact .inr hu9
          · show _ = _
            rw [HSN.out, seenRs_snoc, ← HB.out, if_pos rfl, List.map_append, HO.out, HSS.out]
            rfl
        case measure => simp [intOf]; omega
    · go_wp2_with fail
      obtain rfl : k = n := by omega
      go_ret
      refine ⟨_, rfl, out, hown, fun p v hp => HS.out (p, v) hp, ?_, hE1⟩
      rw [HO.out, List.take_of_length_le (by simp; rw [← HN.out]; exact Nat.le_refl _)]
end Go.Proofs.YtolkhjdododdaaaGreat

/- Rows with a view's columns alone (law19.only). -/
namespace Go.Proofs.YtolkhjdododdaaaGreat
open Go Go.RowKit
attribute [local go_sem] yields yUpon ro8 vw5 co5

theorem fOff_name (x : Vw) (c : Co) : fOff x (kCo c) = !(c.name.toList == x.on.toList) := by
  unfold fOff kCo
  rw [ByteArray.toList_eq, ByteArray.toList_eq]
theorem flt_take (f : List UInt8 → Bool) (l : List Co) (k : Nat) (hk : k < l.length) : flt f (l.take (k + 1)) = flt f (l.take k) ++ if f (kCo l[k]) then [l[k]] else [] := by
  unfold flt
  rw [List.take_succ_eq_append_getElem hk, List.filter_append]
  congr 1
  cases h : f (kCo l[k]) <;> simp [h]
/-- Operation n appends to columns of one's own; the others let memory grow. -/
def CoE (vo : Value) (B n j : Nat) (x y : World) : Prop := if j = n then (∃ m xs, x.ownsRow B 57 5 vo m xs) ∧ x.grownBy y vo.ownBlock else Ext x y
section
variable {vo : Value} {B n j : Nat} {x y : World}
theorem CoE_ext (hj : j ≠ n) (h : Ext x y) : CoE vo B n j x y := by unfold CoE; rw [if_neg hj]; exact h
theorem CoE_off (hj : j ≠ n) (h : CoE vo B n j x y) : Ext x y := by unfold CoE at h; rwa [if_neg hj] at h
theorem CoE_far {S B' : Nat} (hlt : ∀ q, vo.ownBlock = some q → B' ≤ q ∧ q < S) (h : CoE vo B n j x y) {b : Nat} (hb : S ≤ b) {cs : Array Value} {e : TypeId} (hx : BoxAt x b cs e) : BoxAt y b cs e := by
  unfold CoE at h
  split at h
  · exact hx.grown h.2 (fun e => by have := (hlt _ e.symm).2; omega)
  · exact hx.ext h
end
/-- A row whose columns are put together. -/
structure OCs (w : World) (q : Nat) (M : Ro) (vc : Value) (P : List Co) (S : Nat) (y : World) : Prop where
  extw : Ext w y
  box : BoxAt y q (ro8 M vc) 54
  own : y.ownsRow (q + 1) 57 5 vc P.length (coCells P)
  size : S ≤ y.heap.size
theorem OCs.ext {w : World} {q : Nat} {M : Ro} {vc : Value} {P : List Co} {S : Nat} {x y : World} (hE : Ext x y) (h : OCs w q M vc P S x) : OCs w q M vc P S y :=
  ⟨h.extw.trans hE, h.box.ext hE, ownsRow_ext h.own hE, Nat.le_trans h.size hE.le⟩
theorem OCs.app {w : World} {q : Nat} {M : Ro} {vc : Value} {P : List Co} {S : Nat} {x y : World} (hq : w.heap.size ≤ q) (h : OCs w q M vc P S x) (hg : x.grownBy y vc.ownBlock) (hown : y.ownsRow (q + 1) 57 5 vc P.length (coCells P)) : OCs w q M vc P S y := by
  have hne : ∀ p, some p = vc.ownBlock → q + 1 ≤ p := fun p hp => (h.own.lt p hp.symm).1
  exact ⟨h.extw.grown hg (fun p hp => by have := hne p hp.symm; omega), h.box.grown hg (fun e => by have := hne _ e; omega), hown, Nat.le_trans h.size hg.size⟩
/-- What stays true from row to row. -/
structure OSs (w : World) (x : Vw) (u : Value) (vm : Value) (L : List (Ro × Value)) (y : World) : Prop where
  ext : Ext w y
  view : BoxAt y w.heap.size (vw5 x u) 31
  own : y.ownsRow (w.heap.size + 1) 54 8 vm L.length (roCells L)
  cols : ∀ p ∈ L, ColsT y p.2 p.1.cols
theorem OSs.ext' {w : World} {x : Vw} {u : Value} {vm : Value} {L : List (Ro × Value)} {y z : World} (hE : Ext y z) (h : OSs w x u vm L y) : OSs w x u vm L z :=
  ⟨h.ext.trans hE, h.view.ext hE, ownsRow_ext h.own hE, fun p hp => (h.cols p hp).ext hE⟩
theorem OSs.app {w : World} {x : Vw} {u : Value} {vm v' : Value} {L : List (Ro × Value)} {y z : World} {p : Ro × Value} (h : OSs w x u vm L y) (hg : y.grownBy z vm.ownBlock) (hown : z.ownsRow (w.heap.size + 1) 54 8 v' (L.length + 1) (roCells (L ++ [p]))) (hp : ColsT y p.2 p.1.cols) : OSs w x u v' (L ++ [p]) z := by
  have hlt : ∀ q, vm.ownBlock = some q → w.heap.size + 1 ≤ q := fun q hq => (h.own.lt q hq).1
  refine ⟨h.ext.grown hg (fun q hq => by have := hlt q hq; omega), h.view.grown hg (fun e => by have := hlt _ e.symm; omega), by rw [List.length_append]; exact hown, fun r hr => ?_⟩
  rcases List.mem_append.1 hr with hr | hr
  · exact TIn.keepOwn h.own hg (by decide) (h.cols r hr)
  · rw [List.mem_singleton.1 hr]; exact TIn.keepOwn h.own hg (by decide) hp

set_option maxRecDepth 100000 in
set_option maxHeartbeats 8000000 in
theorem only19_any (x : Vw) (u v : Value) (qs : List (Ro × Value)) (w : World) (hin : RowsIn w v qs) (hlen : qs.length ≤ 100000) (hcl : ∀ p ∈ qs, p.1.cols.length ≤ 100000) :
    Calls Tryz.prog 34 #[.agg #[.string x.name, .int .i64 x.id, .string x.table, .string x.on, u], v] w fun e w' => ∃ v', e = .returned v' ∧ ∃ L, w'.ownsRow (w.heap.size + 1) 54 8 v' L.length (roCells L) ∧ (∀ p ∈ L, ColsT w' p.2 p.1.cols) ∧ L.map (·.1) = (qs.map (·.1)).map (offR x) ∧ Ext w w' := by
  obtain ⟨aa, ca, rfl, hca, hcma, hget⟩ := hin.get
  obtain ⟨n, hn⟩ : ∃ n, n = qs.length := ⟨_, rfl⟩
  rw [← hn] at hlen hca ⊢
  have a0 := BoxAt.made w (vw5 x u) 31
  have hE := (Ext.refl w).alloc (.cells (vw5 x u) 31)
  have HN := Lib.hid hn
  have HGET := Lib.hid hget
  have HCL := Lib.hid hcl
  have HCOLS := Lib.hid hin.cols
  clear hn hget hcl hin
  go_enter Tryz.func34, Tryz.ntmps34
  go_wp2
  go_loopw [5, 6] (fun m i wr => ∃ (k : Nat) (L : List (Ro × Value)), k ≤ n ∧ i = .int .i64 k ∧ OSs w x u m L wr ∧ Hid (L.map (·.1) = ((qs.map (·.1)).take k).map (offR x)) ∧ L.length ≤ k) (fun _ i _ => n - (intOf i).toNat)
  case atStart => exact ⟨0, [], Nat.zero_le _, rfl, ⟨hE, a0, World.ownsRow_nil _ _ _ _, nofun⟩, rfl, by simp⟩
  case round =>
    obtain ⟨k, L, hkn, rfl, hS, HO, hLk⟩ := hrel
    clear a0 hE
    by_cases hlt : k < n
    · have hkp : k < qs.length := by rw [← HN.out]; exact hlt
      have hkc := HCL.out _ (List.getElem_mem hkp)
      have hcu := HCOLS.out _ (List.getElem_mem hkp)
      obtain ⟨b, o, rfl, hat⟩ := HGET.out k hkp
      obtain ⟨M, hM⟩ : ∃ M, M = qs[k].1 := ⟨_, rfl⟩
      have hsnoc : (qs.map (·.1)).take (k + 1) = (qs.map (·.1)).take k ++ [M] := by
        rw [List.take_succ_eq_append_getElem (by simpa using hkp), hM]
        simp
      rw [← hM] at hkc hcu hat
      obtain ⟨vu, hvu⟩ : ∃ v, v = qs[k].2 := ⟨_, rfl⟩
      rw [← hvu] at hcu hat
      have HSN := Lib.hid hsnoc
      clear hM hsnoc hvu
      obtain ⟨au, cu, rfl, hcc, hccm, hget2⟩ := hcu.get
      obtain ⟨m, hm⟩ : ∃ m, m = M.cols.length := ⟨_, rfl⟩
      rw [← hm] at hat hcc hkc
      have HMM := Lib.hid hm
      have HG2 := Lib.hid hget2
      clear hm hget2 hcu
      have hatr := hat.ext hS.ext
      have HAT := Lib.hid hatr
      clear hat
      obtain ⟨g0, g1, g2, g3, g4, g5, g6, g7⟩ := hatr
      have hki : decide ((k : Int) < (n : Int)) = true := by simpa using hlt
      obtain ⟨q, hq⟩ : ∃ q, q = wr.heap.size := ⟨_, rfl⟩
      go_wp2_with (((guard_target =~ wpList _ _ _ (Oper.mk none (Op.store _ (Operand.tmp 7) (Operand.tmp 18)) _ _ _ _ :: _) _ _); go_must (refine storeBox rfl 54 (.tmp 7) (.tmp 18) rfl (wr.heap.size) _ _ _ (by rfl) (by rfl) ((BoxAt.made wr (ro8 ⟨⟨#[]⟩, zeroCl, 0, 0, []⟩ (.slice none 0 0)) 54)) (by kernel_rfl) (by rfl) (by simp [Value.oneCell']) ?_); intro w4 c4 h4); have hX4 : Ext wr w4 := ((Ext.refl wr).alloc _).grown h4 (fun q hq => by cases hq; exact Nat.le_refl _); have d4 : BoxAt w4 wr.heap.size (ro8 M (.slice au m cu)) 54 := c4; have f4 := d4.free 7; obtain ⟨y0, y1, y2, y3, y4, y5, y6, y7⟩ := d4.ro)
      rw [← hq] at d4 ⊢
      obtain ⟨w5, hw5⟩ : ∃ w5, w5 = w4.setCell ⟨q, 7, none⟩ (.slice none 0 0) := ⟨_, rfl⟩
      have d5 : BoxAt w5 q (ro8 M (.slice none 0 0)) 54 := by rw [hw5]; exact BoxAt.set d4 7 _
      have hX5 : Ext wr w5 := by rw [hw5]; exact hX4.setCell (p := ⟨q, 7, none⟩) (by show wr.heap.size ≤ q; omega) _
      rw [← hw5]
      have hwq : wr.heap.size ≤ q := by omega
      have A0 : OCs wr q M (.slice none 0 0) [] 0 w5 := ⟨hX5, d5, World.ownsRow_nil _ _ _ _, Nat.zero_le _⟩
      clear hw5 d5 hX5 d4 c4 h4 hX4 f4 y0 y1 y2 y3 y4 y5 y6 y7 g0 g1 g2 g3 g4 g5 g6 g7 hq
      obtain ⟨wo, rfl⟩ : ∃ w', w' = wr := ⟨_, rfl⟩
      go_loopw [8] (fun jv wq => ∃ (j : Nat) (vc : Value) (P : List Co), j ≤ m ∧ jv = .int .i64 j ∧ OCs wo q M vc P 0 wq ∧ Hid (P = flt (fOff x) (M.cols.take j)) ∧ P.length ≤ j) (fun jv _ => m - (intOf jv).toNat)
      case atStart => exact ⟨0, _, [], Nat.zero_le _, rfl, A0, rfl, Nat.le_refl _⟩
      case round =>
        obtain ⟨j, vc, P, hjm, rfl, hC, HP, hPj⟩ := hrel
        clear A0
        obtain ⟨x0, x1, x2, x3, x4, x5, x6, x7⟩ := HAT.out.ext hC.extw
        by_cases hjl : j < m
        · have hjk : j < M.cols.length := by rw [← HMM.out]; exact hjl
          have hji : decide ((j : Int) < (m : Int)) = true := by simpa using hjl
          obtain ⟨b2, o2, rfl, hco⟩ := HG2.out j hjk
          obtain ⟨N, hN⟩ : ∃ N, N = M.cols[j] := ⟨_, rfl⟩
          have hT := flt_take (fOff x) M.cols j hjk
          rw [← hN] at hco hT
          rw [fOff_name] at hT
          obtain ⟨B, hB⟩ : ∃ B, B = (N.name.toList == x.on.toList) := ⟨_, rfl⟩
          have hBs := hB.symm
          rw [← hB] at hT
          have HT := Lib.hid hT
          have hcor := hco.ext (hS.ext.trans hC.extw)
          have HCO := Lib.hid (hco.ext hS.ext)
          obtain ⟨g0, g1, g2, g3, g4⟩ := hcor
          obtain ⟨z0, z1, z2, z3, z4⟩ := (hS.view.ext hC.extw).vw
          clear hN hT hB hco
          go_wp2_with fail
          refine wp_region_tab 12 [(11, fun v _ => v = .bool (!B))] (by kernel_rfl) (by kernel_rfl) (by kernel_rfl) ⟨stays_eq _, trivial⟩ ?_
          replace x7 := held x7
          replace g0 := held g0
          replace z3 := held z3
          refine rg_quiet rfl rfl rfl rfl ?_; intro K hK; go_big_quiet_op; go_big_quiet_on
          refine rg_quiet rfl rfl rfl rfl ?_; intro K hK; go_big_quiet_op; go_big_quiet_on
          refine rg_quiet rfl rfl rfl rfl ?_; intro K hK; go_big_quiet_op; go_big_quiet_on
          refine rg_quiet rfl rfl rfl rfl ?_; intro K hK; go_big_quiet_op; go_big_quiet_on
          refine rg_quiet rfl rfl rfl rfl ?_; intro K hK; go_big_quiet_op; go_big_quiet_on
          refine rg_quiet rfl rfl rfl rfl ?_; intro K hK; go_big_quiet_op; go_big_quiet_on
          refine rg_quiet rfl rfl rfl rfl ?_; intro K hK; go_big_quiet_op; go_big_quiet_on
          refine rg_quiet rfl rfl rfl rfl ?_; intro K hK; go_big_quiet_op; go_big_quiet_on
          refine rg_quiet rfl rfl rfl rfl ?_; intro K hK; go_big_quiet_op; go_big_quiet_on
          refine rg_quiet rfl rfl rfl rfl ?_; intro K hK; go_big_quiet_op; go_big_quiet_on
          refine rg_quiet rfl rfl rfl rfl ?_; intro K hK; go_big_quiet_op; go_big_quiet_on
          refine rg_val [] rfl rfl rfl (by kernel_rfl) (fun y hY hf => ?_) ?_
          · go_simp
            exact rg_done hY (Ext.refl y) (by first | rfl | rw [hBs])
          simp only [Act.put, List.setIfInBounds_toArray, List.set_cons_zero, List.set_cons_succ]
          refine rel_nil fun w6 hE6 _ => ?_
          have hC6 := hC.ext hE6
          clear x0 x1 x2 x3 x4 x5 x6 x7 g0 g1 g2 g3 g4 z0 z1 z2 z3 z4 hC hE6 hBs
          cases B
          · have hT2 : flt (fOff x) (M.cols.take (j + 1)) = P ++ [N] := by rw [HT.out, ← HP.out]; rfl
            have HT2 := Lib.hid hT2
            clear hT2 HT
            go_wp2_with fail
            obtain ⟨ac, cc, rfl⟩ := own_shape hC6.own
            refine wp_region_relE (OCs wo q M (.slice ac P.length cc) P w6.heap.size) (CoE (.slice ac P.length cc) (q + 1) 11) (Tab.atE [(1, fun v _ => v = .slice ac P.length cc), (6, fun v _ => v = .slice (some ⟨b2, o2, none⟩) m cu), (9, fun v _ => v = (.agg #[.string N.name, .string N.cell.val, .bool N.cell.dead, .int .i64 N.cell.at_, .int .i64 N.cell.fin])), (10, fun v x => ∃ b, v = .slice (some ⟨b, 0, none⟩) 1 1 ∧ w6.heap.size ≤ b ∧ BoxAt x b (co5 N) 57), (11, fun v x => x.ownsRow (q + 1) 57 5 v (P.length + 1) (coCells (P ++ [N])))])
              (Tab.staysE ⟨fun _ _ _ _ _ _ h => h, fun _ _ _ _ _ _ h => h, fun _ _ _ _ _ _ h => h, fun _ _ _ _ _ hR ⟨b, e, hb, hx⟩ => ⟨b, e, hb, CoE_far hC6.own.lt hR hb hx⟩, fun _ hj _ _ _ hR h2 => ownsRow_ext h2 (CoE_off hj hR), trivial⟩)
              13 (by kernel_rfl) (by kernel_rfl) (by kernel_rfl) (OCs.ext (Ext.refl w6).drew ⟨hC6.extw, hC6.box, hC6.own, Nat.le_refl _⟩) ?_
            refine relE_quiet rfl rfl rfl rfl ?_; intro K hK; go_big_quiet_op; (first | refine ⟨_, fun _ _ => rfl, hK _ ?_⟩ | refine hK _ ?_); clear hK K
            refine relE_val [] rfl rfl rfl (by kernel_rfl) (fun y hy hf => ?_) ?_
            · obtain ⟨z0, z1, z2, z3, z4, z5, z6, z7⟩ := hy.box.ro
              go_simp
              exact ⟨hy, CoE_ext (by decide) (Ext.refl y), rfl⟩
            simp only [Act.put, List.setIfInBounds_toArray, List.set_cons_zero, List.set_cons_succ]
            refine relE_quiet rfl rfl rfl rfl ?_; intro K hK; go_big_quiet_op; (first | refine ⟨_, fun _ _ => rfl, hK _ ?_⟩ | refine hK _ ?_); clear hK K
            refine relE_quiet rfl rfl rfl rfl ?_; intro K hK; go_big_quiet_op; (first | refine ⟨_, fun _ _ => rfl, hK _ ?_⟩ | refine hK _ ?_); clear hK K
            refine relE_quiet rfl rfl rfl rfl ?_; intro K hK; go_big_quiet_op; (first | refine ⟨_, fun _ _ => rfl, hK _ ?_⟩ | refine hK _ ?_); clear hK K
            refine relE_quiet rfl rfl rfl rfl ?_; intro K hK; go_big_quiet_op; (first | refine ⟨_, fun _ _ => rfl, hK _ ?_⟩ | refine hK _ ?_); clear hK K
            refine relE_val [] rfl rfl rfl (by kernel_rfl) (fun y hy hf => ?_) ?_
            · obtain ⟨z0, z1, z2, z3, z4, z5, z6, z7⟩ := HAT.out.ext hy.extw
              go_simp
              exact ⟨hy, CoE_ext (by decide) (Ext.refl y), rfl⟩
            simp only [Act.put, List.setIfInBounds_toArray, List.set_cons_zero, List.set_cons_succ]
            refine relE_quiet rfl rfl rfl rfl ?_; intro K hK; go_big_quiet_op; (first | refine ⟨_, fun _ _ => rfl, hK _ ?_⟩ | refine hK _ ?_); clear hK K
            refine relE_quiet rfl rfl rfl rfl ?_; intro K hK; go_big_quiet_op; (first | refine ⟨_, fun _ _ => rfl, hK _ ?_⟩ | refine hK _ ?_); clear hK K
            refine relE_val [] rfl rfl rfl (by kernel_rfl) (fun y hy hf => ?_) ?_
            · obtain ⟨z0, z1, z2, z3, z4⟩ := HCO.out.ext hy.extw
              go_simp
              exact ⟨hy, CoE_ext (by decide) (Ext.refl y), rfl⟩
            simp only [Act.put, List.setIfInBounds_toArray, List.set_cons_zero, List.set_cons_succ]
            refine relE_fact [] rfl rfl rfl (by kernel_rfl) (fun y hy hf => ?_) (fun v8 y8 hC8 hG8 h8 => ?_)
            · go_simp
              exact ⟨hy.ext ((Ext.refl y).alloc _), CoE_ext (by decide) ((Ext.refl y).alloc _), _, rfl, hy.size, BoxAt.made y _ _⟩
            obtain ⟨b8, rfl, _⟩ := h8
            clear hC8 hG8
            simp only [Act.put, List.setIfInBounds_toArray, List.set_cons_zero, List.set_cons_succ]
            refine relE_fact [10] rfl rfl rfl (by kernel_rfl) (fun y hy hf => ?_) (fun v9 y9 hC9 hG9 h9 => ?_)
            · obtain ⟨b', e, hb', hbox⟩ := (hf 10 (by simp)).2 rfl
              cases e
              refine yields_append info_Col und_Cols rfl (by decide) (.tmp 43) (.tmp 52) rfl (q + 1) (by have := hy.box.lt; omega) _ P.length (coCells P) hy.own (by rfl) b8 1 1 (co5 N).toList (by rfl) (by rfl) (fun j u hj => by rw [hbox.cell j]; simpa using hj) (by simp [co5, Value.oneCell']) (by unfold maxLen; omega) (by omega) ?_
              intro v' y' hown' hg hkeep
              have HR : CoE (.slice ac P.length cc) (q + 1) 11 11 y y' := by unfold CoE; rw [if_pos rfl]; exact ⟨⟨_, _, hy.own⟩, hg⟩
              refine ⟨hy.app hwq hg hkeep, HR, ?_⟩
              rw [coCells_append]
              exact hown'
            obtain ⟨a9, c9, rfl⟩ := own_shape h9
            clear hC9 hG9 h9
            simp only [Act.put, List.setIfInBounds_toArray, List.set_cons_zero, List.set_cons_succ]
            refine relE_quiet rfl rfl rfl rfl ?_; intro K hK; go_big_quiet_op; (first | refine ⟨_, fun _ _ => rfl, hK _ ?_⟩ | refine hK _ ?_); clear hK K
            refine relE_tail rfl rfl fun y hy hG => ?_
            have hown' := (hG 11).2 rfl
            clear hG
            have qf := hy.box.free 7
            obtain ⟨z0, z1, z2, z3, z4, z5, z6, z7⟩ := hy.box.ro
            go_wp2_with fail
            go_roundw
            case rel =>
              refine ⟨j + 1, _, P ++ [N], by omega, by go_num, ⟨hy.extw.setCell (p := ⟨q, 7, none⟩) (by show wo.heap.size ≤ q; exact hwq) _, hy.box.set 7 _, ?_, Nat.zero_le _⟩, HT2.out.symm, by simp; omega⟩
              rw [List.length_append]
              exact ownsRow_setCell_below hown' (a := ⟨q, 7, none⟩) (by show q < q + 1; omega) _
            case measure => simp [intOf]; omega
          · have hT2 : P = flt (fOff x) (M.cols.take (j + 1)) := by rw [HT.out, ← HP.out]; exact (List.append_nil _).symm
            have HT2 := Lib.hid hT2
            clear hT2 HT
            go_wp2_with fail
            go_roundw
            case rel => exact ⟨j + 1, _, P, by omega, by go_num, hC6, HT2.out, by omega⟩
            case measure => simp [intOf]; omega
        · obtain rfl : j = m := by omega
          have hP2 : P = (offR x M).cols := by rw [HP.out, HMM.out, List.take_length]; rfl
          have HP2 := Lib.hid hP2
          have hji : decide ((j : Int) < (j : Int)) = false := by simp
          obtain ⟨ac, cc, rfl⟩ := own_shape hC.own
          have hSq := hS.ext' hC.extw
          have hCT : ColsT wr (.slice ac P.length cc) P := TIn.own hC.own
          obtain ⟨z0, z1, z2, z3, z4, z5, z6, z7⟩ := hC.box.ro
          have hlq := hSq.view.lt
          clear hP2 HP HG2
          go_wp2_with (at_builtin; go_must (refine appR info_Row und_Rows rfl (by decide) wr rfl (.tmp 55) (.tmp 57) rfl (w.heap.size + 1) hlq _ L.length (roCells L) hSq.own (by rfl) 1 (ro8 M (.slice ac P.length cc)) (by rfl) (by rfl) (by simp [ro8, Value.oneCell']) (by unfold maxLen; omega) (by omega) ?_); intro m3 w13 hown13 hg13)
          have e3 : roCells L ++ (ro8 M (.slice ac P.length cc)).toList = roCells (L ++ [(offR x M, .slice ac P.length cc)]) := by rw [roCells_append]; rfl
          have E3 := Lib.hid e3
          clear e3 x0 x1 x2 x3 x4 x5 x6 x7 z0 z1 z2 z3 z4 z5 z6 z7
          go_roundw
          case rel =>
            refine ⟨k + 1, _, by omega, by go_num, (hSq.ext' ((Ext.refl _).alloc _)).app hg13 (by rw [← E3.out]; exact hown13) (ColsT.ext ((Ext.refl _).alloc _) (by show ColsT wr _ (offR x M).cols; rw [← HP2.out]; exact hCT)), ?_, by simp; omega⟩
            show List.map _ (L ++ [_]) = _
            rw [HSN.out, List.map_append, List.map_append, HO.out]
            rfl
          case measure => simp [intOf] <;> omega
    · obtain rfl : k = n := by omega
      have hki : decide ((k : Int) < (k : Int)) = false := by simp
      go_wp2_with fail
      go_ret
      refine ⟨_, rfl, L, hS.own, fun a b h => hS.cols (a, b) h, ?_, hS.ext⟩
      rw [HO.out, HN.out, List.take_of_length_le (by simp)]
      simp
end Go.Proofs.YtolkhjdododdaaaGreat
