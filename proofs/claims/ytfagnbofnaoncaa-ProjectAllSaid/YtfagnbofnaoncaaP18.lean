/- The reference's Seen of a view. -/
import Derived.Test.YtfagnbofnaoncaaP14
import Derived.Test.YtfagnbofnaoncaaP13
import Derived.Test.YtfagnbofnaoncaaP17
import Derived.Test.YtfagnbofnaoncaaP4
import Derived.Test.YtfagnbofnaoncaaP16
import Derived.Test.YtfagnbofnaoncaaP7
set_option linter.unusedSimpArgs false
set_option linter.unusedVariables false
namespace Go.Proofs.Ytfagnbofnaoncaa
open Go Go.RowKit
attribute [local go_sem] yields yUpon ro8 pa3 cl4 vw5

/-- What a view has of a row, if its key is not too long. -/
def seenF (x : Vw) (ns : List ByteArray) (pk : ByteArray) (pg now : Int) (r : Ro) : Option (ByteArray × Ro) := if 400 < (vkey pk r.key).size then none else ofSeen x ns pk pg now r
def viewF (x : Vw) (ns : List ByteArray) (pk : ByteArray) (pg now : Int) (l : List Ro) : List (ByteArray × Ro) := l.filterMap (seenF x ns pk pg now)
theorem viewF_snoc (x : Vw) (ns : List ByteArray) (pk : ByteArray) (pg now : Int) (l : List Ro) (r : Ro) : viewF x ns pk pg now (l ++ [r]) = viewF x ns pk pg now l ++ (seenF x ns pk pg now r).toList := by
  unfold viewF
  rw [List.filterMap_append]
  cases h : seenF x ns pk pg now r <;> simp [h]
theorem viewF_short {x : Vw} {ns : List ByteArray} {pk : ByteArray} {pg now : Int} {l : List Ro} (h : ∀ r ∈ l, (vkey pk r.key).size ≤ 400) : viewF x ns pk pg now l = viewRs x ns pk pg now l := by
  unfold viewF viewRs
  induction l with
  | nil => rfl
  | cons r l ih =>
    have e : seenF x ns pk pg now r = ofSeen x ns pk pg now r := by unfold seenF; rw [if_neg (by have := h r (List.mem_cons_self ..); omega)]
    rw [List.filterMap_cons, List.filterMap_cons, e, ih fun q hq => h q (List.mem_cons_of_mem _ hq)]
structure VS (w : World) (x : Vw) (u : Value) (pk : ByteArray) (pg : Int) (pu : Value) (vl : Value) (L : List Pa) (y : World) : Prop where
  ext : Ext w y
  view : BoxAt y w.heap.size (vw5 x u) 24
  part : BoxAt y (w.heap.size + 1) (pa3 pk pg pu) 27
  own : y.ownsRow (w.heap.size + 2) 27 3 vl L.length (paCells L)
  rows : ∀ p ∈ L, RowsT y p.rv p.ps
section
variable {w : World} {x : Vw} {u : Value} {pk : ByteArray} {pg : Int} {pu : Value} {vl : Value} {L : List Pa}
theorem VS.ext' {y z : World} (hE : Ext y z) (h : VS w x u pk pg pu vl L y) : VS w x u pk pg pu vl L z :=
  ⟨h.ext.trans hE, h.view.ext hE, h.part.ext hE, ownsRow_ext h.own hE, fun p hp => (h.rows p hp).ext hE⟩
theorem VS.app {y z : World} {v' : Value} {P : Pa} (h : VS w x u pk pg pu vl L y) (hg : y.grownBy z vl.ownBlock) (hown : z.ownsRow (w.heap.size + 2) 27 3 v' (L.length + 1) (paCells (L ++ [P]))) (hP : RowsT y P.rv P.ps) : VS w x u pk pg pu v' (L ++ [P]) z := by
  have hlt : ∀ q, vl.ownBlock = some q → w.heap.size + 2 ≤ q := fun q hq => (h.own.lt q hq).1
  refine ⟨h.ext.grown hg (fun q hq => by have := hlt q hq; omega), h.view.grown hg (fun e => by have := hlt _ e.symm; omega), h.part.grown hg (fun e => by have := hlt _ e.symm; omega), by rw [List.length_append]; exact hown, fun p hp => ?_⟩
  rcases List.mem_append.1 hp with hp | hp
  · exact (h.rows p hp).keepOwn h.own hg (by decide) (by decide)
  · rw [List.mem_singleton.1 hp]; exact hP.keepOwn h.own hg (by decide) (by decide)
end

set_option maxRecDepth 100000 in
set_option maxHeartbeats 8000000 in
theorem seen18_any (x : Vw) (u : Value) (ns : List ByteArray) (pk : ByteArray) (pg : Int) (pu : Value) (ps : List (Ro × Value)) (now : Int) (w : World) (hrows : RowsIn w pu ps) (hlen : ps.length ≤ 100000) (hlc : ∀ p ∈ ps, p.1.cols.length ≤ 400000) (hdc : ∀ p ∈ ps, DistN p.1.cols) (hns : StrsIn w u ns)
    (hk : pk.size ≤ 10000000) (hkeys : ∀ p ∈ ps, p.1.key.size ≤ 10000000) :
    Calls Try.prog 20 #[.agg #[.string x.name, .int .i64 x.id, .string x.table, .string x.on, u], .agg #[.string pk, .int .i64 pg, pu], .int .i64 now] w fun e w' => ∃ v', e = .returned v' ∧ ∃ L : List Pa,
      w'.ownsRow w.heap.size 27 3 v' L.length (paCells L) ∧ (∀ p ∈ L, RowsT w' p.rv p.ps) ∧ L.map Pa.data = outQ (viewF x ns pk pg now (ps.map (·.1))) ∧ Ext w w' := by
  obtain ⟨aa, ca, rfl, hca, hcma, hget⟩ := hrows.get
  obtain ⟨n, hn⟩ : ∃ n, n = ps.length := ⟨_, rfl⟩
  rw [← hn] at hlen hca ⊢
  obtain ⟨a0, a1, hE⟩ := boxes2 w (vw5 x u) (pa3 pk pg (.slice aa n ca)) 24 27
  have HN := Lib.hid hn
  have HGET := Lib.hid hget
  have HLC := Lib.hid hlc
  have HDC := Lib.hid hdc
  have HKEY := Lib.hid hkeys
  have HCOLS := Lib.hid hrows.cols
  clear hn hget hlc hdc hkeys hrows
  go_enter Try.func20, Try.ntmps20
  go_wp2
  go_loopw [7, 8] (fun m i wr => ∃ (k : Nat) (L : List Pa), k ≤ n ∧ i = .int .i64 k ∧ VS w x u pk pg (.slice aa n ca) m L wr ∧ Hid (L.map Pa.data = outQ (viewF x ns pk pg now ((ps.map (·.1)).take k))) ∧ L.length ≤ k) (fun _ i _ => n - (intOf i).toNat)
  case atStart => exact ⟨0, [], Nat.zero_le _, rfl, ⟨hE, a0, a1, World.ownsRow_nil _ _ _ _, nofun⟩, rfl, by simp⟩
  case round =>
    obtain ⟨k, L, hkn, rfl, hS, HO, hLk⟩ := hrel
    obtain ⟨p0, p1, p2⟩ := hS.part.pa
    obtain ⟨z0, z1, z2, z3, z4⟩ := hS.view.vw
    clear a0 a1 hE
    by_cases hlt : k < n
    · have hkp : k < ps.length := by rw [← HN.out]; exact hlt
      have hkc := HLC.out _ (List.getElem_mem hkp)
      have hkd := HDC.out _ (List.getElem_mem hkp)
      have hkk := HKEY.out _ (List.getElem_mem hkp)
      have hcu := HCOLS.out _ (List.getElem_mem hkp)
      obtain ⟨b, o, rfl, hat⟩ := HGET.out k hkp
      have hsnoc : (ps.map (·.1)).take (k + 1) = (ps.map (·.1)).take k ++ [ps[k].1] := by
        rw [List.take_succ_eq_append_getElem (by simpa using hkp)]
        simp
      obtain ⟨M, hM⟩ : ∃ M, M = ps[k].1 := ⟨_, rfl⟩
      obtain ⟨au, cu, hu⟩ := hcu.shape
      rw [← hM] at hkc hkd hcu hu hsnoc hat hkk
      rw [hu] at hcu hat
      have HSN : Hid (viewF x ns pk pg now ((ps.map (·.1)).take (k + 1)) = viewF x ns pk pg now ((ps.map (·.1)).take k) ++ (seenF x ns pk pg now M).toList) := by
        show _ = _
        rw [hsnoc, viewF_snoc]
      clear hM hu hsnoc
      obtain ⟨m, hm⟩ : ∃ m, m = M.cols.length := ⟨_, rfl⟩
      rw [← hm] at hcu hat
      have HMM := Lib.hid hm
      clear hm
      replace hcu := hcu.ext hS.ext
      have hn0 := hns.ext hS.ext
      obtain ⟨g0, g1, g2, g3, g4, g5, g6, g7⟩ := hat.ext hS.ext
      have hki : decide ((k : Int) < (n : Int)) = true := by simpa using hlt
      have HKD := Lib.hid hkd
      obtain ⟨G, hG⟩ : ∃ G, G = max M.gone pg := ⟨_, rfl⟩
      obtain ⟨C, hC⟩ : ∃ C, C = bestC (cellOf M.cols x.on) G := ⟨_, rfl⟩
      obtain ⟨S, hSe⟩ : ∃ S, S = seenCos M.cols G now := ⟨_, rfl⟩
      obtain ⟨mr, hmr⟩ : ∃ mr, mr = mirF x ns pk pg M := ⟨_, rfl⟩
      have hnone : mr = none → seenF x ns pk pg now M = none := by
        intro h
        rw [hmr] at h
        unfold mirF mirOf at h
        unfold seenF ofSeen
        by_cases h4 : 400 < (vkey pk M.key).size
        · rw [if_pos h4]
        · rw [if_neg h4] at h ⊢
          by_cases hb : bestB (cellOf M.cols x.on) (max M.gone pg) = true
          · rw [if_pos hb] at h; cases h
          · rw [if_neg hb]
      have hsome : ∀ q, mr = some q → q.1 = C.val ∧ C.dead = false ∧ q.2.key = vkey pk M.key ∧ q.2.live = ⟨⟨#[]⟩, false, C.at_, C.fin⟩ ∧ seenF x ns pk pg now M = if seenB false C.at_ C.fin now then some (C.val, ⟨vkey pk M.key, ⟨⟨#[]⟩, false, C.at_, C.fin⟩, 0, 0, S.filter (keeps ns)⟩) else none := by
        intro q h
        rw [hmr] at h
        unfold mirF mirOf at h
        unfold seenF ofSeen
        by_cases h4 : 400 < (vkey pk M.key).size
        · rw [if_pos h4] at h; cases h
        · rw [if_neg h4] at h ⊢
          by_cases hb : bestB (cellOf M.cols x.on) (max M.gone pg) = true
          · rw [if_pos hb] at h ⊢
            have hCc : C = cellOf M.cols x.on := by rw [hC, hG]; unfold bestC; rw [if_pos hb]
            have := (bestB_at hb).1
            cases h
            rw [hCc, hSe, hG]
            exact ⟨rfl, this, rfl, rfl, rfl⟩
          · rw [if_neg hb] at h; cases h
      have HNONE := Lib.hid hnone
      have HSOME := Lib.hid hsome
      have HG := Lib.hid hG
      have HC := Lib.hid hC
      have HSE := Lib.hid hSe
      have HMR := Lib.hid hmr
      obtain ⟨okB, hokB⟩ : ∃ B, B = bestB (cellOf M.cols x.on) G := ⟨_, rfl⟩
      have HOKB := Lib.hid hokB
      clear hG hC hSe hmr hnone hsome hokB
      clear hat hkd z0 z1 z2 z3 z4
      go_wp2_with (((guard_target =~ wpList _ _ _ (Oper.mk none (Op.store _ (Operand.tmp 9) (Operand.tmp 26)) _ _ _ _ :: _) _ _); go_must (refine storeBox rfl 48 (.tmp 9) (.tmp 26) rfl (wr.heap.size) _ _ _ (by rfl) (by rfl) ((BoxAt.made wr (ro8 ⟨⟨#[]⟩, zeroCl, 0, 0, []⟩ (.slice none 0 0)) 48)) (by kernel_rfl) (by rfl) (by simp [Value.oneCell']) ?_); intro w4 c4 h4); have hX4 : Ext wr w4 := ((Ext.refl wr).alloc _).grown h4 (fun q hq => by cases hq; exact Nat.le_refl _); have hS4 := hS.ext' hX4; have d4 : BoxAt w4 wr.heap.size (ro8 M (.slice au m cu)) 48 := c4; have hcu4 := hcu.ext hX4; have hn4 := hn0.ext hX4; obtain ⟨x0, x1, x2, x3, x4, x5, x6, x7⟩ := d4.ro; obtain ⟨z0, z1, z2, z3, z4⟩ := hS4.view.vw; obtain ⟨q0, q1, q2⟩ := hS4.part.pa)
      clear hS hcu hn0 g0 g1 g2 g3 g4 g5 g6 g7 c4 h4 hX4
      refine (mirror18_any x u ns pk pg _ M _ w4 hcu4 (by omega) hn4 hk hkk).mono ?_
      rw [← HMR.out]
      rintro e w5 ⟨rv, rfl, qs, hqs, hqm, hE5⟩
      obtain ⟨ar, cr, rfl⟩ := hqs.shape
      obtain ⟨ml, hml⟩ : ∃ ml, ml = qs.length := ⟨_, rfl⟩
      rw [← hml] at hqs ⊢
      have HML := Lib.hid hml
      have HQM := Lib.hid hqm
      clear hml hqm x0 x1 x2 x3 x4 x5 x6 x7 z0 z1 z2 z3 z4 q0 q1 q2
      have hS5 := hS4.ext' hE5
      have d5 := d4.ext hE5
      clear hS4 d4 p0 p1 p2
      go_wp2_with (((guard_target =~ wpList _ _ _ (Oper.mk none (Op.store _ (Operand.tmp 10) (Operand.tmp 32)) _ _ _ _ :: _) _ _); go_must (refine storeBox rfl 27 (.tmp 10) (.tmp 32) rfl (w5.heap.size) _ _ _ (by rfl) (by rfl) ((BoxAt.made w5 (pa3 ⟨#[]⟩ 0 (.slice none 0 0)) 27)) (by kernel_rfl) (by rfl) (by simp [Value.oneCell']) ?_); intro w6 c6 h6); have hX6 : Ext w5 w6 := ((Ext.refl w5).alloc _).grown h6 (fun q hq => by cases hq; exact Nat.le_refl _); have hS6 := hS5.ext' hX6; have d6 := d5.ext hX6; have e6 : BoxAt w6 w5.heap.size (pa3 (mirK mr) 0 (.slice ar ml cr)) 27 := c6; obtain ⟨x0, x1, x2, x3, x4, x5, x6, x7⟩ := d6.ro; obtain ⟨z0, z1, z2, z3, z4⟩ := hS6.view.vw; obtain ⟨q0, q1, q2⟩ := hS6.part.pa)
      have hcu6 := hcu4.ext (hE5.trans hX6)
      have hn6 := hn4.ext (hE5.trans hX6)
      have hq6 := hqs.ext hX6
      clear hcu4 hn4 hqs hE5 hX6 c6 h6 hS5 d5
      refine (best7_any M _ pg x.on w6 hcu6).mono ?_
      rw [← HG.out, ← HC.out, ← HOKB.out]
      rintro e w7 ⟨rfl, hE7⟩
      have hS7 := hS6.ext' hE7
      have d7 := d6.ext hE7
      have e7 := e6.ext hE7
      have hcu7 := hcu6.ext hE7
      have hn7 := hn6.ext hE7
      have hq7 := hq6.ext hE7
      clear hcu6 hn6 hq6 hE7 hS6 d6 e6 x0 x1 x2 x3 x4 x5 x6 x7 z0 z1 z2 z3 z4 q0 q1 q2
      cases mr with
      | none =>
        have HSN2 : Hid (viewF x ns pk pg now ((ps.map (·.1)).take (k + 1)) = viewF x ns pk pg now ((ps.map (·.1)).take k)) := by
          show _ = _
          rw [HSN.out, HNONE.out rfl]
          exact List.append_nil _
        simp only [mirK, Option.isSome]
        go_wp2_with (((guard_target =~ wpList _ _ _ (Oper.mk none (Op.store _ (Operand.tmp 12) (Operand.tmp 41)) _ _ _ _ :: _) _ _); go_must (refine storeBox rfl 45 (.tmp 12) (.tmp 41) rfl (w7.heap.size) _ _ _ (by rfl) (by rfl) ((BoxAt.made w7 (cl4 zeroCl) 45)) (by kernel_rfl) (by rfl) (by simp [Value.oneCell']) ?_); intro w8 c8 h8); have hX8 : Ext w7 w8 := ((Ext.refl w7).alloc _).grown h8 (fun q hq => by cases hq; exact Nat.le_refl _); have hS8 := hS7.ext' hX8)
        go_roundw
        case rel => exact ⟨k + 1, L, by omega, by go_num, hS8, by show _ = _; rw [HSN2.out]; exact HO.out, by omega⟩
        case measure => simp [intOf] <;> omega
      | some q =>
        obtain ⟨h1, h2, h3, h4, h5⟩ := HSOME.out q rfl
        simp only [mirK, Option.isSome]
        have H1 := Lib.hid h1
        have H2 := Lib.hid h2
        have H3 := Lib.hid h3
        have H4 := Lib.hid h4
        have H5 := Lib.hid h5
        clear h1 h2 h3 h4 h5
        go_wp2_with (((guard_target =~ wpList _ _ _ (Oper.mk none (Op.store _ (Operand.tmp 12) (Operand.tmp 41)) _ _ _ _ :: _) _ _); go_must (refine storeBox rfl 45 (.tmp 12) (.tmp 41) rfl (w7.heap.size) _ _ _ (by rfl) (by rfl) ((BoxAt.made w7 (cl4 zeroCl) 45)) (by kernel_rfl) (by rfl) (by simp [Value.oneCell']) ?_); intro w8 c8 h8); have hX8 : Ext w7 w8 := ((Ext.refl w7).alloc _).grown h8 (fun q hq => by cases hq; exact Nat.le_refl _); have hS8 := hS7.ext' hX8; have d8 := d7.ext hX8; have e8 := e7.ext hX8; have f8 : BoxAt w8 w7.heap.size (cl4 C) 45 := c8; obtain ⟨y0, y1, y2, y3⟩ := f8.cl)
        have hcu8 := hcu7.ext hX8
        have hn8 := hn7.ext hX8
        have hq8 := hq7.ext hX8
        clear hcu7 hn7 hq7 hX8 c8 h8 hS7 d7 e7
        refine (rseen_any C.val C.dead C.at_ C.fin now w8).mono ?_
        rw [H2.out]
        obtain ⟨SB, hSB⟩ : ∃ B, B = seenB false C.at_ C.fin now := ⟨_, rfl⟩
        rw [← hSB]
        have HSB := Lib.hid hSB
        clear hSB
        rintro e w9 ⟨rfl, hE9⟩
        have hS9 := hS8.ext' hE9
        have d9 := d8.ext hE9
        have e9 := e8.ext hE9
        have hcu9 := hcu8.ext hE9
        have hn9 := hn8.ext hE9
        have hq9 := hq8.ext hE9
        clear hcu8 hn8 hq8 hE9 hS8 d8 e8 f8 y0 y1 y2 y3
        cases SB
        · have HSN2 : Hid (viewF x ns pk pg now ((ps.map (·.1)).take (k + 1)) = viewF x ns pk pg now ((ps.map (·.1)).take k)) := by
            show _ = _
            rw [HSN.out, H5.out, ← HSB.out]
            exact List.append_nil _
          go_wp2_with fail
          go_roundw
          case rel => exact ⟨k + 1, L, by omega, by go_num, hS9, by show _ = _; rw [HSN2.out]; exact HO.out, by omega⟩
          case measure => simp [intOf] <;> omega
        · have HSN2 : Hid (viewF x ns pk pg now ((ps.map (·.1)).take (k + 1)) = viewF x ns pk pg now ((ps.map (·.1)).take k) ++ [(C.val, ⟨vkey pk M.key, ⟨⟨#[]⟩, false, C.at_, C.fin⟩, 0, 0, S.filter (keeps ns)⟩)]) := by
            show _ = _
            rw [HSN.out, H5.out, ← HSB.out]
            rfl
          obtain ⟨K, hK⟩ : ∃ K, K = S.filter (keeps ns) := ⟨_, rfl⟩
          rw [← hK] at HSN2
          have HK := Lib.hid hK
          have hSl : S.length ≤ 400000 := by rw [HSE.out]; exact Nat.le_trans (List.length_filter_le _ _) (by have := HMM.out; omega)
          have HSL := Lib.hid hSl
          clear hK hSl HSN
          -- the mirror's row
          obtain ⟨aq, cq, eq1, hcq, hcqm, hgq⟩ := hq9.rows.get
          have hl1 : qs.length = 1 := by have := congrArg List.length HQM.out; simpa [mirR] using this
          obtain ⟨bq, oq, e0, hrq⟩ := hgq 0 (by omega)
          have hq0 : qs[0].1 = q.2 := by
            have h := HQM.out
            simp only [mirR] at h
            have h2 : (qs.map (·.1))[0]? = some q.2 := by rw [h]; rfl
            rw [List.getElem?_map, List.getElem?_eq_getElem (by omega)] at h2
            exact Option.some.inj h2
          injection eq1 with e1 e2 e3
          subst e1 e3 e0
          have hml1 : ml = 1 := by rw [HML.out]; exact hl1
          subst hml1
          simp only [Nat.zero_mul, Nat.add_zero] at hrq
          have r0 : w9.cell? ⟨bq, oq, none⟩ = some (.string (vkey pk M.key)) := by have := hrq.c0; rw [hq0, H3.out] at this; exact this
          have r1 : w9.cell? ⟨bq, oq + 1, none⟩ = some (.string ⟨#[]⟩) := by have := hrq.c1; rw [hq0, H4.out] at this; exact this
          have r2 : w9.cell? ⟨bq, oq + 2, none⟩ = some (.bool false) := by have := hrq.c2; rw [hq0, H4.out] at this; exact this
          have r3 : w9.cell? ⟨bq, oq + 3, none⟩ = some (.int .i64 C.at_) := by have := hrq.c3; rw [hq0, H4.out] at this; exact this
          have r4 : w9.cell? ⟨bq, oq + 4, none⟩ = some (.int .i64 C.fin) := by have := hrq.c4; rw [hq0, H4.out] at this; exact this
          clear hrq hgq hq0 hcq hcqm e2 hq9
          obtain ⟨key, hkey⟩ : ∃ key, key = vkey pk M.key := ⟨_, rfl⟩
          rw [← hkey] at r0 HSN2
          clear hkey
          obtain ⟨x0, x1, x2, x3, x4, x5, x6, x7⟩ := d9.ro
          obtain ⟨z0, z1, z2, z3, z4⟩ := hS9.view.vw
          obtain ⟨q0, q1, q2⟩ := hS9.part.pa
          obtain ⟨t0, t1, t2⟩ := e9.pa
          go_wp2_with fail
          refine wp_region_tab 19 [(15, fun v y => ColsT y v S), (16, fun v y => ColsT y v K), (18, fun v y => ∃ q, v = .pointer (some ⟨q, 0, none⟩) ∧ w9.heap.size ≤ q ∧ BoxAt y q (ro8 ⟨⟨#[]⟩, zeroCl, 0, 0, []⟩ (.slice none 0 0)) 48)] (by kernel_rfl) (by kernel_rfl) (by kernel_rfl) ⟨fun _ _ _ hE h => h.ext hE, fun _ _ _ hE h => h.ext hE, fun _ _ _ hE ⟨q, e, h1, h2⟩ => ⟨q, e, h1, h2.ext hE⟩, trivial⟩ ?_
          replace r0 := held r0
          replace r1 := held r1
          replace r2 := held r2
          replace r3 := held r3
          replace r4 := held r4
          replace x0 := held x0
          replace x1 := held x1
          replace x2 := held x2
          replace x3 := held x3
          replace x4 := held x4
          replace x5 := held x5
          replace x6 := held x6
          replace x7 := held x7
          replace z0 := held z0
          replace z1 := held z1
          replace z2 := held z2
          replace z3 := held z3
          replace z4 := held z4
          replace q1 := held q1
          replace t2 := held t2
          refine rg_quiet rfl rfl rfl rfl ?_; intro K hK; go_big_quiet_op; go_big_quiet_on
          refine rg_quiet rfl rfl rfl rfl ?_; intro K hK; go_big_quiet_op; go_big_quiet_on
          refine rg_quiet rfl rfl rfl rfl ?_; intro K hK; go_big_quiet_op; go_big_quiet_on
          refine rg_quiet rfl rfl rfl rfl ?_; intro K hK; go_big_quiet_op; go_big_quiet_on
          refine rg_quiet rfl rfl rfl rfl ?_; intro K hK; go_big_quiet_op; go_big_quiet_on
          refine rg_quiet rfl rfl rfl rfl ?_; intro K hK; go_big_quiet_op; go_big_quiet_on
          refine rg_quiet rfl rfl rfl rfl ?_; intro K hK; go_big_quiet_op; go_big_quiet_on
          refine rg_quiet rfl rfl rfl rfl ?_; intro K hK; go_big_quiet_op; go_big_quiet_on
          refine rg_quiet rfl rfl rfl rfl ?_; intro K hK; go_big_quiet_op; go_big_quiet_on
          refine rg_quiet rfl rfl rfl rfl ?_; intro K hK; go_big_quiet_op; go_big_quiet_on
          refine rg_quiet rfl rfl rfl rfl ?_; intro K hK; go_big_quiet_op; go_big_quiet_on
          refine rg_quiet rfl rfl rfl rfl ?_; intro K hK; go_big_quiet_op; go_big_quiet_on
          refine rg_quiet rfl rfl rfl rfl ?_; intro K hK; go_big_quiet_op; go_big_quiet_on
          refine rg_quiet rfl rfl rfl rfl ?_; intro K hK; go_big_quiet_op; go_big_quiet_on
          refine rg_quiet rfl rfl rfl rfl ?_; intro K hK; go_big_quiet_op; go_big_quiet_on
          refine rg_fact [] rfl rfl rfl (by kernel_rfl) (fun y hY hf => ?_) (fun v15 y15 hE15 hG15 h15 => ?_)
          · go_simp
            refine (seen7_any M (.slice au m cu) pg now y (hcu9.ext hY) (by have := HMM.out; omega) HKD.out).mono ?_
            rw [← HG.out, ← HSE.out]
            rintro e y' ⟨v', he, hown', hy⟩
            exact ⟨_, he, rg_doneR hY hy (TIn.own hown')⟩
          obtain ⟨a15, c15, rfl⟩ := TIn.shape h15
          clear hE15 hG15 h15
          simp only [Act.put, List.setIfInBounds_toArray, List.set_cons_zero, List.set_cons_succ]
          refine rg_fact [15] rfl rfl rfl (by kernel_rfl) (fun y hY hf => ?_) (fun v16 y16 hE16 hG16 h16 => ?_)
          · have hc15 : ColsT y (.slice a15 S.length c15) S := (hf 15 (by simp)).2 rfl
            go_simp
            refine (pick18_any x u ns _ S y (hn9.ext hY) hc15.cols (by have := HSL.out; omega)).mono ?_
            rw [← HK.out]
            rintro e y' ⟨v', he, hown', hy⟩
            exact ⟨_, he, rg_doneR hY hy (TIn.own hown')⟩
          obtain ⟨a16, c16, rfl⟩ := TIn.shape h16
          clear hE16 hG16 h16
          simp only [Act.put, List.setIfInBounds_toArray, List.set_cons_zero, List.set_cons_succ]
          refine rg_quiet rfl rfl rfl rfl ?_; intro K hK; go_big_quiet_op; go_big_quiet_on
          refine rg_fact [] rfl rfl rfl (by kernel_rfl) (fun y hY hf => ?_) (fun v18 y18 hE18 hG18 h18 => ?_)
          · go_simp
            exact rg_doneR hY ((Ext.refl y).alloc _) ⟨_, rfl, hY.le, BoxAt.made y _ _⟩
          obtain ⟨q18, rfl, _⟩ := h18
          clear hE18 hG18
          simp only [Act.put, List.setIfInBounds_toArray, List.set_cons_zero, List.set_cons_succ]
          refine rel_tail rfl rfl fun w10 hE10 hG => ?_
          have hcT : ColsT w10 (.slice a16 K.length c16) K := (hG 16).1.2 rfl
          obtain ⟨q18', e18, hq18, hbx⟩ := (hG 18).2 rfl
          cases e18
          clear hG r0 r1 r2 r3 r4 x0 x1 x2 x3 x4 x5 x6 x7 z0 z1 z2 z3 z4 q0 q1 q2 t0 t1 t2
          obtain ⟨kl, hkl⟩ : ∃ kl, kl = K.length := ⟨_, rfl⟩
          have HKL := Lib.hid hkl
          rw [← hkl] at hcT ⊢
          clear hkl d9 hcu9 hn9
          go_wp2_with (first
            | (((guard_target =~ wpList _ _ _ (Oper.mk none (Op.store _ (Operand.tmp 14) (Operand.tmp 68)) _ _ _ _ :: _) _ _); go_must (refine storeBox rfl 48 (.tmp 14) (.tmp 68) rfl (q18) _ _ _ (by rfl) (by rfl) (hbx) (by kernel_rfl) (by rfl) (by simp [Value.oneCell']) ?_); intro w11 c11 h11); have d11 : BoxAt w11 q18 (ro8 ⟨key, ⟨⟨#[]⟩, false, C.at_, C.fin⟩, 0, 0, K⟩ (.slice a16 kl c16)) 48 := c11; have hE11 : Ext w9 w11 := hE10.grown h11 (fun q hq => by cases hq; exact hq18); have hS11 := hS9.ext' hE11; have hc11 : ColsT w11 (.slice a16 kl c16) K := hcT.keep h11 hbx (by decide); obtain ⟨t0, t1, t2⟩ := (e9.ext hE11).pa; have hl11 := hS11.part.lt; obtain ⟨y0, y1, y2, y3, y4, y5, y6, y7⟩ := d11.ro)
            | (at_builtin; go_must (refine appR info_Part und_Parts rfl (by decide) (w11.alloc (.cells (ro8 ⟨key, ⟨⟨#[]⟩, false, C.at_, C.fin⟩, 0, 0, K⟩ (.slice a16 kl c16)) 48)) rfl (.tmp 69) (.tmp 75) rfl (w.heap.size + 2) (by rw [Deep.nblk_alloc]; omega) _ L.length (paCells L) (hS11.ext' ((Ext.refl _).alloc _)).own (by rfl) 1 (pa3 q.1 0 (.slice (some ⟨w11.heap.size, 0, none⟩) 1 1)) (by rw [Deep.nblk_alloc]; rfl) (by rfl) (by simp [pa3, Value.oneCell']) (by unfold maxLen; omega) (by omega) ?_); intro m3 w13 hown13 hg13))
          have e3 : paCells L ++ [Value.string q.1, .int .i64 0, .slice (some ⟨w11.heap.size, 0, none⟩) 1 1] = paCells (L ++ [⟨q.1, 0, .slice (some ⟨w11.heap.size, 0, none⟩) 1 1, [(⟨key, ⟨⟨#[]⟩, false, C.at_, C.fin⟩, 0, 0, K⟩, .slice a16 kl c16)]⟩]) := by rw [paCells_append]; rfl
          have E3 := Lib.hid e3
          clear e3
          have hX12 : Ext w11 (w11.alloc (.cells (ro8 ⟨key, ⟨⟨#[]⟩, false, C.at_, C.fin⟩, 0, 0, K⟩ (.slice a16 kl c16)) 48)) := (Ext.refl _).alloc _
          have hrow : RowsT (w11.alloc (.cells (ro8 ⟨key, ⟨⟨#[]⟩, false, C.at_, C.fin⟩, 0, 0, K⟩ (.slice a16 kl c16)) 48)) (.slice (some ⟨w11.heap.size, 0, none⟩) 1 1) [(⟨key, ⟨⟨#[]⟩, false, C.at_, C.fin⟩, 0, 0, K⟩, .slice a16 kl c16)] :=
            RowsT.one (BoxAt.made w11 _ _) (ColsT.ext hX12 hc11)
          clear y0 y1 y2 y3 y4 y5 y6 y7 t0 t1 t2 d11 c11 h11 hbx hcT
          go_roundw
          case rel =>
            refine ⟨k + 1, _, by omega, by go_num, ((hS11.ext' hX12).ext' ((Ext.refl _).alloc _)).app hg13 (by rw [← E3.out]; exact hown13) (hrow.ext ((Ext.refl _).alloc _)), ?_, by simp; omega⟩
            show List.map Pa.data (L ++ [_]) = _
            rw [HSN2.out, List.map_append, HO.out]
            unfold outQ
            rw [List.map_append]
            simp [Pa.data, H1.out]
          case measure => simp [intOf] <;> omega
    · obtain rfl : k = n := by omega
      have hki : decide ((k : Int) < (k : Int)) = false := by simp
      go_wp2_with fail
      go_ret
      refine ⟨_, rfl, L, ownsRow_base hS.own (by omega), hS.rows, ?_, hS.ext⟩
      rw [HO.out, HN.out, List.take_of_length_le (by simp)]
end Go.Proofs.Ytfagnbofnaoncaa

/- The reference's Full of a view. -/
namespace Go.Proofs.Ytfagnbofnaoncaa
open Go Go.RowKit
attribute [local go_sem] yields yUpon ro8 pa3 cl4 vw5

def fullF (x : Vw) (ns : List ByteArray) (pk : ByteArray) (pg : Int) (l : List Ro) : List (ByteArray × Ro) := l.filterMap (mirF x ns pk pg)
theorem fullF_snoc (x : Vw) (ns : List ByteArray) (pk : ByteArray) (pg : Int) (l : List Ro) (r : Ro) : fullF x ns pk pg (l ++ [r]) = fullF x ns pk pg l ++ (mirF x ns pk pg r).toList := by
  unfold fullF
  rw [List.filterMap_append]
  cases h : mirF x ns pk pg r <;> simp [h]
theorem fullF_short {x : Vw} {ns : List ByteArray} {pk : ByteArray} {pg : Int} {l : List Ro} (h : ∀ r ∈ l, (vkey pk r.key).size ≤ 400) : fullF x ns pk pg l = fullRs x ns pk pg l := by
  unfold fullF fullRs
  induction l with
  | nil => rfl
  | cons r l ih => rw [List.filterMap_cons, List.filterMap_cons, mirF_short (h r (List.mem_cons_self ..)), ih fun q hq => h q (List.mem_cons_of_mem _ hq)]

theorem VS.keep {w : World} {x : Vw} {u : Value} {pk : ByteArray} {pg : Int} {pu : Value} {vl : Value} {L : List Pa} {y z : World} {q : Nat} {W : Array Value} (h : VS w x u pk pg pu vl L y) (hq : w.heap.size + 2 ≤ q) (hg : y.grownBy z (some q)) (hb : BoxAt y q W 27) (hne : vl.ownBlock ≠ some q) : VS w x u pk pg pu vl L z :=
  ⟨h.ext.grown hg (fun p hp => by cases hp; omega), h.view.grown hg (fun e => by cases e; omega), h.part.grown hg (fun e => by cases e; omega), h.own.kept hg (.inr hne), fun p hp => (h.rows p hp).keep hg hb (by decide) (by decide)⟩

set_option maxRecDepth 100000 in
set_option maxHeartbeats 8000000 in
theorem full18_any (x : Vw) (u : Value) (ns : List ByteArray) (pk : ByteArray) (pg : Int) (pu : Value) (ps : List (Ro × Value)) (w : World) (hrows : RowsIn w pu ps) (hlen : ps.length ≤ 1000000) (hlc : ∀ p ∈ ps, p.1.cols.length ≤ 1000000) (hns : StrsIn w u ns)
    (hk : pk.size ≤ 10000000) (hkeys : ∀ p ∈ ps, p.1.key.size ≤ 10000000) :
    Calls Try.prog 18 #[.agg #[.string x.name, .int .i64 x.id, .string x.table, .string x.on, u], .agg #[.string pk, .int .i64 pg, pu]] w fun e w' => ∃ v', e = .returned v' ∧ ∃ L : List Pa,
      w'.ownsRow w.heap.size 27 3 v' L.length (paCells L) ∧ (∀ p ∈ L, RowsT w' p.rv p.ps) ∧ L.map Pa.data = outQ (fullF x ns pk pg (ps.map (·.1))) ∧ Ext w w' := by
  obtain ⟨aa, ca, rfl, hca, hcma, hget⟩ := hrows.get
  obtain ⟨n, hn⟩ : ∃ n, n = ps.length := ⟨_, rfl⟩
  rw [← hn] at hlen hca ⊢
  obtain ⟨a0, a1, hE⟩ := boxes2 w (vw5 x u) (pa3 pk pg (.slice aa n ca)) 24 27
  have HN := Lib.hid hn
  have HGET := Lib.hid hget
  clear hn hget
  go_enter Try.func18, Try.ntmps18
  go_wp2
  go_loopw [5, 6] (fun m i wr => ∃ (k : Nat) (L : List Pa), k ≤ n ∧ i = .int .i64 k ∧ VS w x u pk pg (.slice aa n ca) m L wr ∧ Hid (L.map Pa.data = outQ (fullF x ns pk pg ((ps.map (·.1)).take k))) ∧ L.length ≤ k) (fun _ i _ => n - (intOf i).toNat)
  case atStart => exact ⟨0, [], Nat.zero_le _, rfl, ⟨hE, a0, a1, World.ownsRow_nil _ _ _ _, nofun⟩, rfl, by simp⟩
  case round =>
    obtain ⟨k, L, hkn, rfl, hS, HO, hLk⟩ := hrel
    by_cases hlt : k < n
    · have hkp : k < ps.length := by rw [← HN.out]; exact hlt
      have hkc := hlc _ (List.getElem_mem hkp)
      have hkk := hkeys _ (List.getElem_mem hkp)
      have hcu := hrows.cols _ (List.getElem_mem hkp)
      obtain ⟨b, o, rfl, hat⟩ := HGET.out k hkp
      have hsnoc : (ps.map (·.1)).take (k + 1) = (ps.map (·.1)).take k ++ [ps[k].1] := by
        rw [List.take_succ_eq_append_getElem (by simpa using hkp)]
        simp
      obtain ⟨M, hM⟩ : ∃ M, M = ps[k].1 := ⟨_, rfl⟩
      obtain ⟨au, cu, hu⟩ := hcu.shape
      rw [← hM] at hkc hcu hu hsnoc hat hkk
      rw [hu] at hcu hat
      have HSN : Hid (fullF x ns pk pg ((ps.map (·.1)).take (k + 1)) = fullF x ns pk pg ((ps.map (·.1)).take k) ++ (mirF x ns pk pg M).toList) := by
        show _ = _
        rw [hsnoc, fullF_snoc]
      clear hM hu hsnoc
      obtain ⟨m, hm⟩ : ∃ m, m = M.cols.length := ⟨_, rfl⟩
      rw [← hm] at hcu hat
      clear hm
      replace hcu := hcu.ext hS.ext
      have hn0 := hns.ext hS.ext
      obtain ⟨g0, g1, g2, g3, g4, g5, g6, g7⟩ := hat.ext hS.ext
      clear hat
      obtain ⟨mr, hmr⟩ : ∃ mr, mr = mirF x ns pk pg M := ⟨_, rfl⟩
      rw [← hmr] at HSN
      have HMR := Lib.hid hmr
      clear hmr
      have hne : ∀ q, wr.heap.size ≤ q → u5.ownBlock ≠ some q := fun q hq e => by have := (hS.own.lt q e).2; omega
      obtain ⟨z0, z1, z2, z3, z4⟩ := hS.view.vw
      obtain ⟨p0, p1, p2⟩ := hS.part.pa
      have t1 : decide ((k : Int) < (n : Int)) = true := by simpa using hlt
      go_wp2_with fail
      refine wp_region_late_in 12 10 12 [(7, fun v y => ∃ rv qs, v = .tuple #[.agg #[.string (mirK mr), .int .i64 0, rv], .bool mr.isSome] ∧ RowsT y rv qs ∧ qs.map (·.1) = mirR mr), (11, fun v y => ∃ q, v = .pointer (some ⟨q, 0, none⟩) ∧ wr.heap.size ≤ q ∧ BoxAt y q (pa3 ⟨#[]⟩ 0 (.slice none 0 0)) 27)] (by kernel_rfl) (by kernel_rfl) (by kernel_rfl) (by kernel_rfl) (fun c a d v w h => by cases d <;> exact h) ⟨fun _ _ _ hE ⟨rv, qs, e, h, h'⟩ => ⟨rv, qs, e, h.ext hE, h'⟩, fun _ _ _ hE ⟨q, e, h1, h2⟩ => ⟨q, e, h1, h2.ext hE⟩, trivial⟩ ?_
      simp only [late, List.modify_succ_cons, List.modify_zero_cons, List.push_toArray, List.cons_append, List.nil_append]
      replace z0 := held z0
      replace z1 := held z1
      replace z2 := held z2
      replace z3 := held z3
      replace z4 := held z4
      replace p0 := held p0
      replace p1 := held p1
      replace p2 := held p2
      replace g0 := held g0
      replace g1 := held g1
      replace g2 := held g2
      replace g3 := held g3
      replace g4 := held g4
      replace g5 := held g5
      replace g6 := held g6
      replace g7 := held g7
      refine rg_quiet rfl rfl rfl rfl ?_; intro K hK; go_big_quiet_op; go_big_quiet_on
      refine rg_quiet rfl rfl rfl rfl ?_; intro K hK; go_big_quiet_op; go_big_quiet_on
      refine rg_quiet rfl rfl rfl rfl ?_; intro K hK; go_big_quiet_op; go_big_quiet_on
      refine rg_quiet rfl rfl rfl rfl ?_; intro K hK; go_big_quiet_op; go_big_quiet_on
      refine rg_quiet rfl rfl rfl rfl ?_; intro K hK; go_big_quiet_op; go_big_quiet_on
      refine rg_quiet rfl rfl rfl rfl ?_; intro K hK; go_big_quiet_op; go_big_quiet_on
      refine rg_quiet rfl rfl rfl rfl ?_; intro K hK; go_big_quiet_op; go_big_quiet_on
      refine rg_fact [] rfl rfl rfl (by kernel_rfl) (fun y hY hf => ?_) (fun v8 y8 hE8 hG8 h8 => ?_)
      · go_simp
        refine (mirror18_any x u ns pk pg (.slice (some ⟨b, o, none⟩) n ca) M (.slice au m cu) y (hcu.ext hY) hkc (hn0.ext hY) hk hkk).mono ?_
        rw [← HMR.out]
        rintro e y' ⟨rv, he, qs, hqs, hqm, hy⟩
        exact ⟨_, he, rg_doneR hY hy ⟨rv, rfl, qs, hqs, hqm⟩⟩
      obtain ⟨rv, qs, rfl, hqs, _⟩ := h8
      obtain ⟨a8, cc8, rfl⟩ := hqs.shape
      clear hE8 hG8 hqs
      simp only [Act.put, List.setIfInBounds_toArray, List.set_cons_zero, List.set_cons_succ]
      refine rg_quiet rfl rfl rfl rfl ?_; intro K hK; go_big_quiet_op; go_big_quiet_on
      refine rg_quiet rfl rfl rfl rfl ?_; intro K hK; go_big_quiet_op; go_big_quiet_on
      refine rg_quiet rfl rfl rfl rfl ?_; intro K hK; go_big_quiet_op; go_big_quiet_on
      refine rg_fact [] rfl rfl rfl (by kernel_rfl) (fun y hY hf => ?_) (fun v12 y12 hE12 hG12 h12 => ?_)
      · go_simp
        exact rg_doneR hY ((Ext.refl y).alloc _) ⟨_, rfl, hY.le, BoxAt.made y _ _⟩
      obtain ⟨q12, rfl, _⟩ := h12
      clear hE12 hG12
      simp only [Act.put, List.setIfInBounds_toArray, List.set_cons_zero, List.set_cons_succ]
      refine rel_tail rfl rfl fun w5 hE5 hG => ?_
      obtain ⟨rv, qs', e8, hqs, hqm⟩ := (hG 7).1.2 rfl
      obtain ⟨q12', e12, hq12, hbx⟩ := (hG 11).2 rfl
      cases e8
      cases e12
      have hS5 := hS.ext' hE5
      have hq3 : w.heap.size + 2 ≤ q12 := by have := hS.part.lt; omega
      have HNE := Lib.hid (hne q12 hq12)
      clear hne
      clear hG g0 g1 g2 g3 g4 g5 g6 g7 z0 z1 z2 z3 z4 p0 p1 p2 hS hcu hn0
      have hqn : qs.length = qs'.length := by
        obtain ⟨_, _, e⟩ := hqs.shape
        exact congrArg (fun v => match v with | .slice _ n _ => n | _ => 0) e
      rw [hqn] at hqs ⊢
      clear hqn
      obtain ⟨nq, hnq⟩ : ∃ nq, nq = qs'.length := ⟨_, rfl⟩
      rw [← hnq] at hqs ⊢
      have HNQ := Lib.hid hnq
      have HQM := Lib.hid hqm
      clear hnq hqm
      cases mr with
      | none =>
        simp only [mirK, Option.isSome]
        go_wp2_with (((guard_target =~ wpList _ _ _ (Oper.mk none (Op.store _ (Operand.tmp 7) (Operand.tmp 25)) _ _ _ _ :: _) _ _); go_must (refine storeBox rfl 27 (.tmp 7) (.tmp 25) rfl (q12) _ _ _ (by rfl) (by rfl) (hbx) (by kernel_rfl) (by rfl) (by simp [Value.oneCell']) ?_); intro w6 c6 h6))
        go_roundw
        case rel => exact ⟨k + 1, L, by omega, by go_num, hS5.keep hq3 h6 hbx HNE.out, by show _ = _; rw [HSN.out, Option.toList_none, List.append_nil]; exact HO.out, by omega⟩
        case measure => simp [intOf] <;> omega
      | some q =>
        simp only [mirK, Option.isSome]
        go_wp2_with (first
          | (((guard_target =~ wpList _ _ _ (Oper.mk none (Op.store _ (Operand.tmp 7) (Operand.tmp 25)) _ _ _ _ :: _) _ _); go_must (refine storeBox rfl 27 (.tmp 7) (.tmp 25) rfl (q12) _ _ _ (by rfl) (by rfl) (hbx) (by kernel_rfl) (by rfl) (by simp [Value.oneCell']) ?_); intro w6 c6 h6); have d6 : w6.cell? ⟨q12, 0, none⟩ = some (.string q.1) ∧ w6.cell? ⟨q12, 1, none⟩ = some (.int .i64 0) ∧ w6.cell? ⟨q12, 2, none⟩ = some (.slice a8 nq cc8) := BoxAt.pa c6; have hS6 := hS5.keep hq3 h6 hbx HNE.out; have hr6 := hqs.keep h6 hbx (by decide) (by decide); have hl6 := hS6.part.lt)
          | (at_builtin; go_must (refine appR info_Part und_Parts rfl (by decide) w6 rfl (.tmp 28) (.tmp 30) rfl (w.heap.size + 2) (by omega) _ L.length (paCells L) hS6.own (by rfl) 1 _ (by rfl) (by rfl) (by simp [Value.oneCell']) (by unfold maxLen; omega) (by omega) ?_); intro m3 w3 hown3 hg3))
        have e3 : paCells L ++ [Value.string q.1, .int .i64 0, .slice a8 nq cc8] = paCells (L ++ [⟨q.1, 0, .slice a8 nq cc8, qs'⟩]) := by rw [paCells_append]; rfl
        have E3 := Lib.hid e3
        clear e3
        go_roundw
        case rel =>
          refine ⟨k + 1, L ++ [⟨q.1, 0, .slice a8 nq cc8, qs'⟩], by omega, by go_num, (hS6.ext' ((Ext.refl _).alloc _)).app hg3 (by rw [← E3.out]; exact hown3) (hr6.ext ((Ext.refl _).alloc _)), ?_, by simp; omega⟩
          show List.map Pa.data (L ++ [_]) = _
          rw [HSN.out, List.map_append, HO.out]
          unfold outQ
          rw [List.map_append]
          simp [Pa.data, HQM.out, mirR]
        case measure => simp [intOf] <;> omega
    · obtain rfl : k = n := by omega
      obtain ⟨p0, p1, p2⟩ := hS.part.pa
      go_wp2_with fail
      go_ret
      refine ⟨_, rfl, L, ownsRow_base hS.own (by omega), hS.rows, ?_, hS.ext⟩
      rw [HO.out, HN.out, List.take_of_length_le (by simp)]
end Go.Proofs.Ytfagnbofnaoncaa

/- project.Full of any rows, whatever their keys. -/
namespace Go.Proofs.Ytfagnbofnaoncaa
open Go Go.RowKit
attribute [local go_sem] yields yUpon ro8 pa3 vw5 cl4 tabV

set_option maxRecDepth 100000 in
set_option maxHeartbeats 8000000 in
theorem fullL_any (s : Value) (x : Vw) (u : Value) (ns : List ByteArray) (pk : ByteArray) (pg : Int) (pu : Value) (ps : List (Ro × Value)) (w : World) (hrows : RowsIn w pu ps) (hlen : ps.length ≤ 1000000) (hlc : ∀ p ∈ ps, p.1.cols.length ≤ 1000000) (hns : StrsIn w u ns)
    (hk : pk.size ≤ 10000000) (hkeys : ∀ p ∈ ps, p.1.key.size ≤ 10000000) :
    Calls Try.prog 17 #[tabV s, .agg #[.string x.name, .int .i64 x.id, .string x.table, .string x.on, u], .agg #[.string pk, .int .i64 pg, pu]] w fun e w' => ∃ v', e = .returned v' ∧ ∃ L : List Pa,
      w'.ownsRow w.heap.size 27 3 v' L.length (paCells L) ∧ (∀ p ∈ L, RowsT w' p.rv p.ps) ∧ L.map Pa.data = outQ (fullF x ns pk pg (ps.map (·.1))) ∧ Ext w w' := by
  obtain ⟨aa, ca, rfl, hca, hcma, hget⟩ := hrows.get
  obtain ⟨n, hn⟩ : ∃ n, n = ps.length := ⟨_, rfl⟩
  rw [← hn] at hlen hca ⊢
  obtain ⟨a0, a1, a2, hE⟩ := boxes3 w #[.string ⟨#[116]⟩, .int .i64 1, .string ⟨#[112]⟩, .int .i64 1, .string ⟨#[107]⟩, .int .i64 2, s] (vw5 x u) (pa3 pk pg (.slice aa n ca)) 35 24 27
  have HN := Lib.hid hn
  have HGET := Lib.hid hget
  clear hn hget
  unfold tabV
  go_enter Try.func17, Try.ntmps17
  go_wp2
  go_loopw [7, 15] (fun m i wr => ∃ (k : Nat) (L : List Pa), k ≤ n ∧ i = .int .i64 k ∧ FS w s x u pk pg (.slice aa n ca) m L wr ∧ Hid (L.map Pa.data = outQ (fullF x ns pk pg ((ps.map (·.1)).take k))) ∧ L.length ≤ k) (fun _ i _ => n - (intOf i).toNat)
  case atStart => exact ⟨0, [], Nat.zero_le _, rfl, ⟨hE, a0, a1, a2, World.ownsRow_nil _ _ _ _, nofun⟩, rfl, by simp⟩
  case round =>
    obtain ⟨k, L, hkn, rfl, hS, HO, hLk⟩ := hrel
    by_cases hlt : k < n
    · have hkp : k < ps.length := by rw [← HN.out]; exact hlt
      have hkc := hlc _ (List.getElem_mem hkp)
      have hkk := hkeys _ (List.getElem_mem hkp)
      have hcu := hrows.cols _ (List.getElem_mem hkp)
      obtain ⟨b, o, rfl, hat⟩ := HGET.out k hkp
      have hsnoc : (ps.map (·.1)).take (k + 1) = (ps.map (·.1)).take k ++ [ps[k].1] := by
        rw [List.take_succ_eq_append_getElem (by simpa using hkp)]
        simp
      obtain ⟨M, hM⟩ : ∃ M, M = ps[k].1 := ⟨_, rfl⟩
      obtain ⟨au, cu, hu⟩ := hcu.shape
      rw [← hM] at hkc hcu hu hsnoc hat hkk
      rw [hu] at hcu hat
      have HSN : Hid (fullF x ns pk pg ((ps.map (·.1)).take (k + 1)) = fullF x ns pk pg ((ps.map (·.1)).take k) ++ (mirF x ns pk pg M).toList) := by
        show _ = _
        rw [hsnoc, fullF_snoc]
      clear hM hu hsnoc
      obtain ⟨m, hm⟩ : ∃ m, m = M.cols.length := ⟨_, rfl⟩
      rw [← hm] at hcu hat
      clear hm
      replace hcu := hcu.ext hS.ext
      have hn0 := hns.ext hS.ext
      obtain ⟨g0, g1, g2, g3, g4, g5, g6, g7⟩ := hat.ext hS.ext
      clear hat
      have y0 := hS.tab.allocs
      have y1 := hS.view.allocs
      have y2 := hS.part.allocs
      go_wp2_with fail
      refine (mirrorF_any s x u ns pk pg (.slice (some ⟨b, o, none⟩) n ca) M (.slice au m cu) _ (hcu.ext ((Ext.refl _).alloc _)) hkc (hn0.ext ((Ext.refl _).alloc _)) hk hkk).mono ?_
      rintro e w1 ⟨rv, rfl, qs, hqs, hqm, hE1⟩
      replace hE1 := ((Ext.refl wr).alloc (.cells (ro8 M (.slice au m cu)) 48)).trans hE1
      obtain ⟨ar, cr, rfl⟩ := hqs.shape
      obtain ⟨mr, hmr⟩ : ∃ mr, mr = mirF x ns pk pg M := ⟨_, rfl⟩
      rw [← hmr] at HSN hqm ⊢
      clear hmr g0 g1 g2 g3 g4 g5 g6 g7 y0 y1 y2 hcu hn0
      cases mr with
      | none =>
        simp only [mirK, Option.isSome]
        go_wp2_with fail
        go_roundw
        case rel => exact ⟨k + 1, L, by omega, by go_num, hS.ext' (hE1.alloc _), by show _ = _; rw [HSN.out, Option.toList_none, List.append_nil]; exact HO.out, by omega⟩
        case measure => simp [intOf] <;> omega
      | some q =>
        simp only [mirK, Option.isSome]
        have hS1 := hS.ext' (hE1.alloc (.cells (pa3 q.1 0 (.slice ar qs.length cr)) 27))
        have hq1 := hqs.ext ((Ext.refl w1).alloc (.cells (pa3 q.1 0 (.slice ar qs.length cr)) 27))
        obtain ⟨ml, hml⟩ : ∃ ml, ml = qs.length := ⟨_, rfl⟩
        rw [← hml] at hS1 hq1 ⊢
        have HML := Lib.hid hml
        have HQM := Lib.hid hqm
        have hl1 := hS1.part.lt
        clear hml hqm hqs hS hE1
        go_wp2_with (at_builtin; go_must (refine appR info_Part und_Parts rfl (by decide) (w1.alloc (.cells (pa3 q.1 0 (.slice ar ml cr)) 27)) rfl (.tmp 28) (.tmp 30) rfl (w.heap.size + 3) (by omega) _ L.length (paCells L) hS1.own (by rfl) 1 _ (by rw [Deep.nblk_alloc]; rfl) (by rfl) (by simp [Value.oneCell']) (by unfold maxLen; omega) (by omega) ?_); intro m3 w3 hown3 hg3)
        have e3 : paCells L ++ [Value.string q.1, .int .i64 0, .slice ar ml cr] = paCells (L ++ [⟨q.1, 0, .slice ar ml cr, qs⟩]) := by rw [paCells_append]; rfl
        have E3 := Lib.hid e3
        clear e3
        go_roundw
        case rel =>
          refine ⟨k + 1, L ++ [⟨q.1, 0, .slice ar ml cr, qs⟩], by omega, by go_num, (hS1.ext' ((Ext.refl _).alloc _)).app hg3 (by rw [← E3.out]; exact hown3) (hq1.ext ((Ext.refl _).alloc _)), ?_, by simp; omega⟩
          show List.map Pa.data (L ++ [_]) = _
          rw [HSN.out, List.map_append, HO.out]
          unfold outQ
          rw [List.map_append]
          simp [Pa.data, HQM.out, mirR]
        case measure => simp [intOf] <;> omega
    · obtain rfl : k = n := by omega
      go_wp2_with fail
      go_ret
      refine ⟨_, rfl, L, ownsRow_base hS.own (by omega), hS.rows, ?_, hS.ext⟩
      rw [HO.out, HN.out, List.take_of_length_le (by simp)]
end Go.Proofs.Ytfagnbofnaoncaa

/- project.Seen of any rows, whatever their keys. -/
namespace Go.Proofs.Ytfagnbofnaoncaa
open Go Go.RowKit
attribute [local go_sem] yields yUpon ro8 pa3 vw5 cl4 tabV

theorem seenF_of (x : Vw) (ns : List ByteArray) (pk : ByteArray) (pg now : Int) (r : Ro) : seenF x ns pk pg now r = (ofRowF x ns pk pg r (seenCos r.cols (max r.gone pg) now)).bind fun q => if seenB q.2.live.dead q.2.live.at_ q.2.live.fin now then some q else none := by
  unfold seenF ofRowF
  by_cases hl : 400 < (vkey pk r.key).size
  · rw [if_pos hl, if_pos hl]; rfl
  · rw [if_neg hl, if_neg hl, ofSeen_of]
set_option maxRecDepth 100000 in
set_option maxHeartbeats 8000000 in
theorem projseenL_any (s : Value) (x : Vw) (u : Value) (ns : List ByteArray) (pk : ByteArray) (pg : Int) (pu : Value) (ps : List (Ro × Value)) (now : Int) (w : World) (hrows : RowsIn w pu ps) (hlen : ps.length ≤ 1000000) (hlc : ∀ p ∈ ps, p.1.cols.length ≤ 1000000) (hns : StrsIn w u ns)
    (hk : pk.size ≤ 10000000) (hkeys : ∀ p ∈ ps, p.1.key.size ≤ 10000000) :
    Calls Try.prog 19 #[tabV s, .agg #[.string x.name, .int .i64 x.id, .string x.table, .string x.on, u], .agg #[.string pk, .int .i64 pg, pu], .int .i64 now] w fun e w' => ∃ v', e = .returned v' ∧ ∃ L : List Pa,
      w'.ownsRow w.heap.size 27 3 v' L.length (paCells L) ∧ (∀ p ∈ L, RowsT w' p.rv p.ps) ∧ L.map Pa.data = outQ (viewF x ns pk pg now (ps.map (·.1))) ∧ Ext w w' := by
  obtain ⟨aa, ca, rfl, hca, hcma, hget⟩ := hrows.get
  obtain ⟨n, hn⟩ : ∃ n, n = ps.length := ⟨_, rfl⟩
  rw [← hn] at hlen hca ⊢
  obtain ⟨a0, a1, a2, hE⟩ := boxes3 w #[.string ⟨#[116]⟩, .int .i64 1, .string ⟨#[112]⟩, .int .i64 1, .string ⟨#[107]⟩, .int .i64 2, s] (vw5 x u) (pa3 pk pg (.slice aa n ca)) 35 24 27
  have HN := Lib.hid hn
  have HGET := Lib.hid hget
  clear hn hget
  have p0 := a2.pa
  unfold tabV
  go_enter Try.func19, Try.ntmps19
  go_wp2
  clear p0
  go_loopw [9, 17] (fun m i wr => ∃ (k : Nat) (L : List Pa), k ≤ n ∧ i = .int .i64 k ∧ FS w s x u pk pg (.slice aa n ca) m L wr ∧ Hid (L.map Pa.data = outQ (viewF x ns pk pg now ((ps.map (·.1)).take k))) ∧ L.length ≤ k) (fun _ i _ => n - (intOf i).toNat)
  case atStart => exact ⟨0, [], Nat.zero_le _, rfl, ⟨hE, a0, a1, a2, World.ownsRow_nil _ _ _ _, nofun⟩, rfl, by simp⟩
  case round =>
    obtain ⟨k, L, hkn, rfl, hS, HO, hLk⟩ := hrel
    by_cases hlt : k < n
    · have hkp : k < ps.length := by rw [← HN.out]; exact hlt
      have hkc := hlc _ (List.getElem_mem hkp)
      have hkk := hkeys _ (List.getElem_mem hkp)
      have hcu := hrows.cols _ (List.getElem_mem hkp)
      obtain ⟨b, o, rfl, hat⟩ := HGET.out k hkp
      have hsnoc : (ps.map (·.1)).take (k + 1) = (ps.map (·.1)).take k ++ [ps[k].1] := by
        rw [List.take_succ_eq_append_getElem (by simpa using hkp)]
        simp
      obtain ⟨M, hM⟩ : ∃ M, M = ps[k].1 := ⟨_, rfl⟩
      obtain ⟨au, cu, hu⟩ := hcu.shape
      rw [← hM] at hkc hcu hu hsnoc hat hkk
      rw [hu] at hcu hat
      obtain ⟨S, hSS⟩ : ∃ S, S = seenCos M.cols (max M.gone pg) now := ⟨_, rfl⟩
      obtain ⟨mr, hmr⟩ : ∃ mr, mr = ofRowF x ns pk pg M S := ⟨_, rfl⟩
      have HSN : Hid (viewF x ns pk pg now ((ps.map (·.1)).take (k + 1)) = viewF x ns pk pg now ((ps.map (·.1)).take k) ++ (mr.bind fun q => if seenB q.2.live.dead q.2.live.at_ q.2.live.fin now then some q else none).toList) := by
        show _ = _
        rw [hsnoc, viewF_snoc, seenF_of, hmr, hSS]
      have hSl : S.length ≤ 1000000 := by rw [hSS]; exact Nat.le_trans (List.length_filter_le _ _) hkc
      have HSS := Lib.hid hSS
      have HMR := Lib.hid hmr
      have HSL := Lib.hid hSl
      clear hM hu hsnoc hSS hmr hSl
      obtain ⟨m, hm⟩ : ∃ m, m = M.cols.length := ⟨_, rfl⟩
      rw [← hm] at hcu hat
      clear hm
      replace hcu := hcu.ext hS.ext
      have hn0 := hns.ext hS.ext
      obtain ⟨g0, g1, g2, g3, g4, g5, g6, g7⟩ := hat.ext hS.ext
      clear hat
      have HCU := Lib.hid hcu
      clear hcu
      go_wp2_with (((guard_target =~ wpList _ _ _ (Oper.mk none (Op.store _ (Operand.tmp 11) (Operand.tmp 20)) _ _ _ _ :: _) _ _); go_must (refine storeBox rfl 48 (.tmp 11) (.tmp 20) rfl (wr.heap.size) _ _ _ (by rfl) (by rfl) ((BoxAt.made wr (ro8 ⟨⟨#[]⟩, zeroCl, 0, 0, []⟩ (.slice none 0 0)) 48)) (by kernel_rfl) (by rfl) (by simp [Value.oneCell']) ?_); intro w4 c4 h4))
      have hX4 : Ext wr w4 := ((Ext.refl wr).alloc _).grown h4 (fun q hq => by cases hq; exact Nat.le_refl _)
      have hne : ∀ q, w4.heap.size ≤ q → u9.ownBlock ≠ some q := fun q hq e => by have := (hS.own.lt q e).2; have := hX4.le; omega
      have hS4 := hS.ext' hX4
      have hcu4 := HCU.out.ext hX4
      have hn4 := hn0.ext hX4
      have d4 := c4.ro (r := M) (v := .slice au m cu)
      obtain ⟨x0, x1, x2, x3, x4, x5, x6, x7⟩ := d4
      obtain ⟨z0, z1, z2, z3, z4⟩ := hS4.view.vw
      obtain ⟨p0, p1, p2⟩ := hS4.part.pa
      clear g0 g1 g2 g3 g4 g5 g6 g7 c4 h4 hX4 hS hn0 HCU
      refine wp_region_late_in 13 11 13 [(7, fun v y => ColsT y v S), (8, fun v y => ∃ rv qs, v = .tuple #[.agg #[.string (mirK mr), .int .i64 0, rv], .bool mr.isSome] ∧ RowsT y rv qs ∧ qs.map (·.1) = mirR mr), (12, fun v y => ∃ q, v = .pointer (some ⟨q, 0, none⟩) ∧ w4.heap.size ≤ q ∧ BoxAt y q (pa3 ⟨#[]⟩ 0 (.slice none 0 0)) 27)] (by kernel_rfl) (by kernel_rfl) (by kernel_rfl) (by kernel_rfl) (fun c a d v w h => by cases d <;> exact h) ⟨fun _ _ _ hE h => h.ext hE, fun _ _ _ hE ⟨rv, qs, e, h, h'⟩ => ⟨rv, qs, e, h.ext hE, h'⟩, fun _ _ _ hE ⟨q, e, h1, h2⟩ => ⟨q, e, h1, h2.ext hE⟩, trivial⟩ ?_
      simp only [late, List.modify_succ_cons, List.modify_zero_cons, List.push_toArray, List.cons_append, List.nil_append]
      replace x0 := held x0
      replace x1 := held x1
      replace x2 := held x2
      replace x3 := held x3
      replace x4 := held x4
      replace x5 := held x5
      replace x6 := held x6
      replace x7 := held x7
      replace z0 := held z0
      replace z1 := held z1
      replace z2 := held z2
      replace z3 := held z3
      replace z4 := held z4
      replace p0 := held p0
      replace p1 := held p1
      replace p2 := held p2
      refine rg_quiet rfl rfl rfl rfl ?_; intro K hK; go_big_quiet_op; go_big_quiet_on
      refine rg_quiet rfl rfl rfl rfl ?_; intro K hK; go_big_quiet_op; go_big_quiet_on
      refine rg_quiet rfl rfl rfl rfl ?_; intro K hK; go_big_quiet_op; go_big_quiet_on
      refine rg_quiet rfl rfl rfl rfl ?_; intro K hK; go_big_quiet_op; go_big_quiet_on
      refine rg_quiet rfl rfl rfl rfl ?_; intro K hK; go_big_quiet_op; go_big_quiet_on
      refine rg_quiet rfl rfl rfl rfl ?_; intro K hK; go_big_quiet_op; go_big_quiet_on
      refine rg_quiet rfl rfl rfl rfl ?_; intro K hK; go_big_quiet_op; go_big_quiet_on
      refine rg_fact [] rfl rfl rfl (by kernel_rfl) (fun y hY hf => ?_) (fun v7 y7 hE7 hG7 h7 => ?_)
      · go_simp
        refine (rwseen_any M (.slice au m cu) pg now y (hcu4.ext hY) hkc).mono ?_
        rw [← HSS.out]
        rintro e y' ⟨v', he, hown', hy⟩
        exact ⟨_, he, rg_doneR hY hy (TIn.own hown')⟩
      obtain ⟨a7, c7, rfl⟩ := TIn.shape h7
      clear hE7 hG7 h7
      simp only [Act.put, List.setIfInBounds_toArray, List.set_cons_zero, List.set_cons_succ]
      refine rg_fact [7] rfl rfl rfl (by kernel_rfl) (fun y hY hf => ?_) (fun v8 y8 hE8 hG8 h8 => ?_)
      · have hc7 : ColsT y (.slice a7 S.length c7) S := (hf 7 (by simp)).2 rfl
        go_simp
        refine (ofF_any18 x u ns pk pg (.slice (some ⟨b, o, none⟩) n ca) M (.slice au m cu) _ S y (hcu4.ext hY) hc7.cols HSL.out (hn4.ext hY) hk hkk).mono ?_
        rw [← HMR.out]
        rintro e y' ⟨rv, he, qs, hqs, hqm, hy⟩
        exact ⟨_, he, rg_doneR hY hy ⟨rv, rfl, qs, hqs, hqm⟩⟩
      obtain ⟨rv, qs, rfl, hqs, _⟩ := h8
      obtain ⟨a8, cc8, rfl⟩ := hqs.shape
      clear hE8 hG8 hqs
      simp only [Act.put, List.setIfInBounds_toArray, List.set_cons_zero, List.set_cons_succ]
      refine rg_quiet rfl rfl rfl rfl ?_; intro K hK; go_big_quiet_op; go_big_quiet_on
      refine rg_quiet rfl rfl rfl rfl ?_; intro K hK; go_big_quiet_op; go_big_quiet_on
      refine rg_quiet rfl rfl rfl rfl ?_; intro K hK; go_big_quiet_op; go_big_quiet_on
      refine rg_fact [] rfl rfl rfl (by kernel_rfl) (fun y hY hf => ?_) (fun v12 y12 hE12 hG12 h12 => ?_)
      · go_simp
        exact rg_doneR hY ((Ext.refl y).alloc _) ⟨_, rfl, hY.le, BoxAt.made y _ _⟩
      obtain ⟨q12, rfl, _⟩ := h12
      clear hE12 hG12
      simp only [Act.put, List.setIfInBounds_toArray, List.set_cons_zero, List.set_cons_succ]
      refine rel_tail rfl rfl fun w5 hE5 hG => ?_
      obtain ⟨rv, qs', e8, hqs, hqm⟩ := (hG 8).1.2 rfl
      obtain ⟨q12', e12, hq12, hbx⟩ := (hG 12).2 rfl
      cases e8
      cases e12
      have hS5 := hS4.ext' hE5
      have hq3 : w.heap.size + 3 ≤ q12 := by have := hS4.part.lt; omega
      have HNE := Lib.hid (hne q12 hq12)
      clear hne
      clear hG x0 x1 x2 x3 x4 x5 x6 x7 z0 z1 z2 z3 z4 p0 p1 p2 hS4 hcu4 hn4
      have hqn : qs.length = qs'.length := by
        obtain ⟨_, _, e⟩ := hqs.shape
        exact congrArg (fun v => match v with | .slice _ n _ => n | _ => 0) e
      rw [hqn] at hqs ⊢
      clear hqn
      cases mr with
      | none =>
        simp only [mirK, Option.isSome]
        obtain ⟨nq, hnq⟩ : ∃ nq, nq = qs'.length := ⟨_, rfl⟩
        rw [← hnq]
        go_wp2_with (((guard_target =~ wpList _ _ _ (Oper.mk none (Op.store _ (Operand.tmp 12) (Operand.tmp 31)) _ _ _ _ :: _) _ _); go_must (refine storeBox rfl 27 (.tmp 12) (.tmp 31) rfl (q12) _ _ _ (by rfl) (by rfl) (hbx) (by kernel_rfl) (by rfl) (by simp [Value.oneCell']) ?_); intro w6 c6 h6))
        go_roundw
        case rel => exact ⟨k + 1, L, by omega, by go_num, hS5.keep hq3 h6 hbx HNE.out, by show _ = _; rw [HSN.out, Option.bind_none, Option.toList_none, List.append_nil]; exact HO.out, by omega⟩
        case measure => simp [intOf] <;> omega
      | some q =>
        obtain ⟨vm, bm, rfl, rfl, _⟩ := hqs.single hqm
        simp only [mirK, Option.isSome, List.length_cons, List.length_nil, Nat.zero_add] at hqs ⊢
        obtain ⟨qk, qr⟩ := q
        obtain ⟨rk, ⟨lv, ld, la, lf⟩, rg, rsh, rc⟩ := qr
        go_wp2_with (((guard_target =~ wpList _ _ _ (Oper.mk none (Op.store _ (Operand.tmp 12) (Operand.tmp 31)) _ _ _ _ :: _) _ _); go_must (refine storeBox rfl 27 (.tmp 12) (.tmp 31) rfl (q12) _ _ _ (by rfl) (by rfl) (hbx) (by kernel_rfl) (by rfl) (by simp [Value.oneCell']) ?_); intro w6 c6 h6); have hr6 := hqs.keep h6 hbx (by decide) (by decide); have hr7 : w6.cell? ⟨bm, 1, none⟩ = some (.string lv) ∧ w6.cell? ⟨bm, 2, none⟩ = some (.bool ld) ∧ w6.cell? ⟨bm, 3, none⟩ = some (.int .i64 la) ∧ w6.cell? ⟨bm, 4, none⟩ = some (.int .i64 lf) := (by obtain ⟨_, r1, r2, r3, r4, _⟩ := hr6.at0; exact ⟨r1, r2, r3, r4⟩); clear hr6; have d6 : w6.cell? ⟨q12, 0, none⟩ = some (.string qk) ∧ w6.cell? ⟨q12, 1, none⟩ = some (.int .i64 0) ∧ w6.cell? ⟨q12, 2, none⟩ = some (.slice (some ⟨bm, 0, none⟩) 1 cc8) := BoxAt.pa c6)
        have hS6 := hS5.keep hq3 h6 hbx HNE.out
        have hr6 := hqs.keep h6 hbx (by decide) (by decide)
        clear hqs hS5 hbx h6
        refine (seen_any lv ld la lf now w6).mono ?_
        obtain ⟨B, hB⟩ : ∃ B, B = seenB ld la lf now := ⟨_, rfl⟩
        rw [← hB]
        rintro e w7 ⟨rfl, hE7⟩
        have HB := Lib.hid hB
        have hS7 := hS6.ext' hE7
        have hr7' := hr6.ext hE7
        have c7 := BoxAt.ext hE7 c6
        have d7 : w7.cell? ⟨q12, 0, none⟩ = some (.string qk) ∧ w7.cell? ⟨q12, 1, none⟩ = some (.int .i64 0) ∧ w7.cell? ⟨q12, 2, none⟩ = some (.slice (some ⟨bm, 0, none⟩) 1 cc8) := BoxAt.pa c7
        clear hB hS6 hr6 d6 hr7 hE7 c6 c7
        cases B with
        | false =>
          have hq : Hid (((some (qk, (⟨rk, ⟨lv, ld, la, lf⟩, rg, rsh, rc⟩ : Ro)) : Option (ByteArray × Ro)).bind fun q => if seenB q.2.live.dead q.2.live.at_ q.2.live.fin now then some q else none) = none) := by
            show (if seenB ld la lf now then _ else none) = none
            rw [← HB.out, if_neg (by decide)]
          go_wp2_with fail
          go_roundw
          case rel => exact ⟨k + 1, L, by omega, by go_num, hS7, by show _ = _; rw [HSN.out, hq.out, Option.toList_none, List.append_nil]; exact HO.out, by omega⟩
          case measure => simp [intOf] <;> omega
        | true =>
          have hq : Hid (((some (qk, (⟨rk, ⟨lv, ld, la, lf⟩, rg, rsh, rc⟩ : Ro)) : Option (ByteArray × Ro)).bind fun q => if seenB q.2.live.dead q.2.live.at_ q.2.live.fin now then some q else none) = some (qk, (⟨rk, ⟨lv, ld, la, lf⟩, rg, rsh, rc⟩ : Ro))) := by
            show (if seenB ld la lf now then _ else none) = _
            rw [← HB.out, if_pos rfl]
          have hl7 := hS7.part.lt
          go_wp2_with (at_builtin; go_must (refine appR info_Part und_Parts rfl (by decide) w7 rfl (.tmp 43) (.tmp 45) rfl (w.heap.size + 3) (by omega) _ L.length (paCells L) hS7.own (by rfl) 1 _ (by rfl) (by rfl) (by simp [Value.oneCell']) (by unfold maxLen; omega) (by omega) ?_); intro m3 w3 hown3 hg3)
          have e3 : paCells L ++ [Value.string qk, .int .i64 0, .slice (some ⟨bm, 0, none⟩) 1 cc8] = paCells (L ++ [⟨qk, 0, .slice (some ⟨bm, 0, none⟩) 1 cc8, [(⟨rk, ⟨lv, ld, la, lf⟩, rg, rsh, rc⟩, vm)]⟩]) := by rw [paCells_append]; rfl
          have E3 := Lib.hid e3
          clear e3
          go_roundw
          case rel =>
            refine ⟨k + 1, L ++ [⟨qk, 0, .slice (some ⟨bm, 0, none⟩) 1 cc8, [(⟨rk, ⟨lv, ld, la, lf⟩, rg, rsh, rc⟩, vm)]⟩], by omega, by go_num, (hS7.ext' ((Ext.refl _).alloc _)).app hg3 (by rw [← E3.out]; exact hown3) (hr7'.ext ((Ext.refl _).alloc _)), ?_, by simp; omega⟩
            show List.map Pa.data (L ++ [_]) = _
            rw [HSN.out, hq.out, List.map_append, HO.out]
            unfold outQ
            rw [List.map_append]
            simp [Pa.data]
          case measure => simp [intOf] <;> omega
    · obtain rfl : k = n := by omega
      go_wp2_with fail
      go_ret
      refine ⟨_, rfl, L, ownsRow_base hS.own (by omega), hS.rows, ?_, hS.ext⟩
      rw [HO.out, HN.out, List.take_of_length_le (by simp)]
end Go.Proofs.Ytfagnbofnaoncaa
