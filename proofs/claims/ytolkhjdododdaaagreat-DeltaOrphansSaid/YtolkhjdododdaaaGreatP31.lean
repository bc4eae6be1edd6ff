/- A partition put into a view (law19.put). -/
import Derived.Test.YtolkhjdododdaaaGreatP26
import Derived.Test.YtolkhjdododdaaaGreatP30
import Derived.Test.YtolkhjdododdaaaGreatP24
import Derived.Test.YtolkhjdododdaaaGreatP14
import Derived.Test.YtolkhjdododdaaaGreatP8
import Derived.Test.YtolkhjdododdaaaGreatP10
import Derived.Test.YtolkhjdododdaaaGreatP2
set_option linter.unusedSimpArgs false
set_option linter.unusedVariables false
namespace Go.Proofs.YtolkhjdododdaaaGreat
open Go Go.RowKit
attribute [local go_sem] yields yUpon ro8 pa3

theorem putP_at {a : ByteArray} {ss : List Ro} : ∀ (L : List Pa) (k : Nat) (P : Pa), (hk : k < L.length) → (∀ j (h : j < L.length), j < k → (L[j].key.toList == a.toList) = false) → (L[k].key.toList == a.toList) = true →
    P.key = L[k].key → P.ps.map (·.1) = mergeRo (L[k].ps.map (·.1)) ss → putP (viL L) (a, ss) = viL (L.set k P)
  | q :: L, 0, P, _, _, h1, h2, h3 => by
    show putP ((q.key, q.ps.map (·.1)) :: viL L) (a, ss) = (P.key, P.ps.map (·.1)) :: viL L
    unfold putP
    rw [if_pos (by simpa using h1), h2, h3]
    rfl
  | q :: L, k + 1, P, hk, h0, h1, h2, h3 => by
    show putP ((q.key, q.ps.map (·.1)) :: viL L) (a, ss) = (q.key, q.ps.map (·.1)) :: viL (L.set k P)
    unfold putP
    have := h0 0 (by simp) (by omega)
    rw [if_neg (by simpa using this), putP_at L k P (by simpa using hk) (fun j h hj => by have := h0 (j + 1) (by simpa using h) (by omega); simpa using this) (by simpa using h1) (by simpa using h2) (by simpa using h3)]
theorem putP_not {a : ByteArray} {ss : List Ro} : ∀ (L : List Pa), (∀ j (h : j < L.length), (L[j].key.toList == a.toList) = false) → putP (viL L) (a, ss) = viL L ++ [(a, ss)]
  | [], _ => rfl
  | q :: L, h0 => by
    show putP ((q.key, q.ps.map (·.1)) :: viL L) (a, ss) = (q.key, q.ps.map (·.1)) :: (viL L ++ [(a, ss)])
    unfold putP
    have := h0 0 (by simp)
    rw [if_neg (by simpa using this), putP_not L fun j h => by have := h0 (j + 1) (by simpa using h); simpa using this]
theorem putV_putP : ∀ (V : Vi) (d : ByteArray × Ro), putV V d = putP V (d.1, [d.2])
  | [], _ => rfl
  | q :: V, d => by
    unfold putV putP
    rw [putV_putP V d]

set_option maxRecDepth 100000 in
set_option maxHeartbeats 8000000 in
theorem put19p_any (B : Nat) (v : Value) (L : List Pa) (a : ByteArray) (pu : Value) (pq : List (Ro × Value)) (ss : List Ro) (w : World) (hB : B ≤ w.heap.size) (hown : w.ownsRow B 39 3 v L.length (paCells L)) (hL : ∀ q ∈ L, RowsT w q.rv q.ps) (hg0 : ∀ q ∈ L, q.gone = 0) (hp : RowsIn w pu pq) (hps : pq.map (·.1) = ss)
    (hlen : L.length ≤ 1000) (hgood : ∀ q ∈ L, GoodRs (q.ps.map (·.1))) (hup : GoodRs ss) (hcl : ∀ q ∈ L, ∀ p ∈ q.ps, p.1.cols.length ≤ 1000) (hsl : ∀ r ∈ ss, r.cols.length ≤ 1000) (hss : ss.length ≤ 20) (hroom : ∀ q ∈ L, q.ps.length ≤ 80) :
    Calls Tryz.prog 11 #[v, .agg #[.string a, .int .i64 0, pu]] w fun e w' => ∃ v' L', e = .returned (.tuple #[v', .bool true]) ∧ w'.ownsRow B 39 3 v' L'.length (paCells L') ∧ (∀ q ∈ L', RowsT w' q.rv q.ps) ∧ (∀ q ∈ L', q.gone = 0) ∧ viL L' = putP (viL L) (a, ss) ∧ w.grownBy w' v.ownBlock ∧ ∀ k, v'.ownBlock = some k → v.ownBlock = some k ∨ w.heap.size ≤ k := by
  have a0 := BoxAt.made w (pa3 a 0 pu) 39
  have hE0 := (Ext.refl w).alloc (.cells (pa3 a 0 pu) 39)
  have hpt : PartsT w v L := ⟨TIn.own hown, hL⟩
  obtain ⟨av, cv, rfl, hcv, hcvm, hget⟩ := hpt.get
  obtain ⟨ap, cp, rfl, _⟩ := hp.get
  have hpl : pq.length ≤ 20 := by have := congrArg List.length hps; simp at this; omega
  have HPL := Lib.hid hpl
  obtain ⟨n, hn⟩ : ∃ n, n = L.length := ⟨_, rfl⟩
  rw [← hn] at hown hcv hlen ⊢
  obtain ⟨np, hnp⟩ : ∃ np, np = pq.length := ⟨_, rfl⟩
  rw [← hnp] at a0 hE0 hp ⊢
  have HN := Lib.hid hn
  have HG := Lib.hid hget
  have HL := Lib.hid hL
  have HG0 := Lib.hid hg0
  have HPS := Lib.hid hps
  have HGOOD := Lib.hid hgood
  have HCL := Lib.hid hcl
  have HROOM := Lib.hid hroom
  clear hn hget hL hg0 hps hgood hcl hroom hpt hpl hnp
  go_enter Tryz.func11, Tryz.ntmps11
  go_wp2_with fail
  go_loopw [6] (fun i wr => ∃ k : Nat, k ≤ n ∧ i = .int .i64 k ∧ BoxAt wr w.heap.size (pa3 a 0 (.slice ap np cp)) 39 ∧ Ext w wr ∧ Hid (∀ j (h : j < L.length), j < k → (L[j].key.toList == a.toList) = false)) (fun i _ => n - (intOf i).toNat)
  case atStart => exact ⟨0, Nat.zero_le _, rfl, a0, hE0, fun j h hj => absurd hj (Nat.not_lt_zero _)⟩
  case round =>
    obtain ⟨k, hk, rfl, hb, hE, HK⟩ := hrel
    clear a0 hE0
    obtain ⟨x0, x1, x2⟩ := hb.pa
    by_cases hlt : k < n
    · have hki : decide ((k : Int) < (n : Int)) = true := by simpa using hlt
      have hkL : k < L.length := by rw [← HN.out]; exact hlt
      obtain ⟨g, rfl, hat⟩ := HG.out k hkL
      obtain ⟨P, hP⟩ : ∃ P, P = L[k] := ⟨_, rfl⟩
      rw [← hP] at hat
      have HP := Lib.hid hP
      have hPr := HL.out P (by rw [hP]; exact List.getElem_mem hkL)
      have hPg := HG0.out P (by rw [hP]; exact List.getElem_mem hkL)
      have hPgood := HGOOD.out P (by rw [hP]; exact List.getElem_mem hkL)
      have hPcl := HCL.out P (by rw [hP]; exact List.getElem_mem hkL)
      have hProom := HROOM.out P (by rw [hP]; exact List.getElem_mem hkL)
      clear hP
      obtain ⟨Pk, Pgn, Prv, Pps⟩ := P
      simp only at hat hPr hPg hPgood hPcl hProom
      subst hPg
      obtain ⟨ar, cr, rfl⟩ := hPr.shape
      have hat1 := hat.ext hE
      obtain ⟨g0, g1, g2⟩ := hat1
      simp only at g0 g1 g2
      obtain ⟨BK, hBK⟩ : ∃ B, B = (Pk.toList == a.toList) := ⟨_, rfl⟩
      have HBK := Lib.hid hBK
      have hBKs := hBK.symm
      clear hBK
      go_wp2_with fail
      refine wp_region_tab 8 [(7, fun v _ => v = .bool BK)] (by kernel_rfl) (by kernel_rfl) (by kernel_rfl) ⟨stays_eq _, trivial⟩ ?_
      replace g0 := held g0
      replace x0 := held x0
      refine rg_quiet rfl rfl rfl rfl ?_; intro K hK; go_big_quiet_op; go_big_quiet_on
      refine rg_quiet rfl rfl rfl rfl ?_; intro K hK; go_big_quiet_op; go_big_quiet_on
      refine rg_quiet rfl rfl rfl rfl ?_; intro K hK; go_big_quiet_op; go_big_quiet_on
      refine rg_quiet rfl rfl rfl rfl ?_; intro K hK; go_big_quiet_op; go_big_quiet_on
      refine rg_quiet rfl rfl rfl rfl ?_; intro K hK; go_big_quiet_op; go_big_quiet_on
      refine rg_quiet rfl rfl rfl rfl ?_; intro K hK; go_big_quiet_op; go_big_quiet_on
      refine rg_quiet rfl rfl rfl rfl ?_; intro K hK; go_big_quiet_op; go_big_quiet_on
      refine rg_val [] rfl rfl rfl (by kernel_rfl) (fun y hY hf => ?_) ?_
      · go_simp
        exact rg_done hY (Ext.refl y) rfl
      simp only [Act.put, List.setIfInBounds_toArray, List.set_cons_zero, List.set_cons_succ]
      refine rel_nil fun w5 hE5 _ => ?_
      have hE5w := hE.trans hE5
      have hb5 := hb.ext hE5
      clear x0 x1 x2 g0 g1 g2 hb hE hE5 hBKs
      cases BK
      · clear hat hPr hPgood hPcl hProom
        obtain ⟨z0, z1, z2⟩ := hb5.pa
        go_wp2_with fail
        go_roundw
        case rel =>
          refine ⟨k + 1, by omega, by go_num, hb5, hE5w, fun j h hj => ?_⟩
          by_cases hjk : j < k
          · exact HK.out j h hjk
          · obtain rfl : j = k := by omega
            rw [← HP.out]
            exact HBK.out.symm
        case measure => simp [intOf] <;> omega
      · have hsg := hup
        have hJe : foldG keyR foldRo (Pps.map (·.1)) (pq.map (·.1)) = mergeRo (Pps.map (·.1)) ss := by rw [HPS.out]; exact fold_merge hPgood hsg
        obtain ⟨J, hJ⟩ : ∃ J, J = mergeRo (Pps.map (·.1)) ss := ⟨_, rfl⟩
        have hJl : J.length ≤ 100 := by rw [hJ]; have := mergeG_len keyR joinRo (Pps.map (·.1)) ss; unfold mergeRo; simp only [List.length_map] at this; omega
        rw [← hJ] at hJe
        have HJ := Lib.hid hJ
        have HJE := Lib.hid hJe
        have hat5 := hat.ext hE5w
        have hr5 := hPr.ext hE5w
        have hp5 := hp.ext hE5w
        have hown5 := ownsRow_ext hown hE5w
        have hpq1 : ∀ p ∈ pq, p.1.cols.length ≤ 1000 := fun p hpm => by
          have : p.1 ∈ pq.map (·.1) := List.mem_map_of_mem hpm
          rw [HPS.out] at this
          exact hsl _ this
        have hpql : pq.length ≤ 100 := by have := HPL.out; omega
        have HQ1 := Lib.hid hpq1
        have HPC := Lib.hid hPcl
        clear hJ hJe hat hPr hPgood hsg hpq1 hPcl hp hown
        obtain ⟨z0, z1, z2⟩ := hb5.pa
        go_wp2_with fail
        clear z0 z1 z2
        refine wp_region_relE (fun x => Ext w5 x) (SE w5.heap.size 10) (TabP.at [(3, fun _ v _ => v = .agg #[.string Pk, .int .i64 0, .slice ar Pps.length cr]), (4, fun _ v _ => v = .agg #[.string a, .int .i64 0, .slice ap np cp]), (5, fun _ v x => ∃ v' qs, v = .tuple #[.agg #[.string Pk, .int .i64 0, v'], .bool true] ∧ RowsT x v' qs ∧ Hid (qs.map (·.1) = J)), (9, fun _ v x => ∃ b, v = .pointer (some ⟨b, 0, none⟩) ∧ w5.heap.size ≤ b ∧ ∃ Z, BoxAt x b Z 39 ∧ Z.size = 3), (10, fun L _ x => ∃ b Z, L = [.pointer (some ⟨b, 0, none⟩), .agg Z] ∧ BoxAt x b Z 39)])
          (TabP.staysE ⟨fun _ _ _ _ _ _ _ h => h, fun _ _ _ _ _ _ _ h => h, fun _ _ _ _ _ _ hR ⟨v', qs, e, hr, hm⟩ => ⟨v', qs, e, SE_rows hR hr, hm⟩, fun _ _ _ _ _ _ hR ⟨b, e, hb, hz⟩ => ⟨b, e, hb, SE_part hR hz⟩, fun _ _ hj _ _ _ hR ⟨b, Z, e, hb⟩ => ⟨b, Z, e, hb.ext (SE_off hj hR)⟩, trivial⟩)
          12 (by kernel_rfl) (by kernel_rfl) (by kernel_rfl) (Ext.refl w5).drew ?_
        refine relE_quiet rfl rfl rfl rfl ?_; intro K hK; go_big_quiet_op; (first | refine ⟨_, fun _ _ => rfl, hK _ ?_⟩ | refine hK _ ?_); clear hK K
        refine relE_quiet rfl rfl rfl rfl ?_; intro K hK; go_big_quiet_op; (first | refine ⟨_, fun _ _ => rfl, hK _ ?_⟩ | refine hK _ ?_); clear hK K
        refine relE_quiet rfl rfl rfl rfl ?_; intro K hK; go_big_quiet_op; (first | refine ⟨_, fun _ _ => rfl, hK _ ?_⟩ | refine hK _ ?_); clear hK K
        refine relE_val [] rfl rfl rfl (by kernel_rfl) (fun y hy hf => ?_) ?_
        · obtain ⟨q0, q1, q2⟩ := hat5.ext hy
          simp only at q0 q1 q2
          go_simp
          exact ⟨hy, SE_ext (by decide) (Ext.refl y), rfl⟩
        simp only [Act.put, List.setIfInBounds_toArray, List.set_cons_zero, List.set_cons_succ]
        refine relE_val [] rfl rfl rfl (by kernel_rfl) (fun y hy hf => ?_) ?_
        · obtain ⟨q0, q1, q2⟩ := (hb5.ext hy).pa
          go_simp
          exact ⟨hy, SE_ext (by decide) (Ext.refl y), rfl⟩
        simp only [Act.put, List.setIfInBounds_toArray, List.set_cons_zero, List.set_cons_succ]
        refine relE_fact [] rfl rfl rfl (by kernel_rfl) (fun y hy hf => ?_) (fun v8 z8 hC8 hG8 h8 => ?_)
        · go_simp
          refine (join8_any Pk a 0 0 _ _ Pps pq y (hr5.ext hy).rows (hp5.ext hy) (by omega) hpql HPC.out HQ1.out).mono ?_
          rw [HJE.out, show max (0 : Int) 0 = 0 by decide]
          rintro e y' ⟨hE', ⟨_, v', rfl, qs, hqs, hqm⟩ | ⟨hbad, _⟩⟩
          · exact ⟨_, rfl, hy.trans hE', SE_ext (by decide) hE', v', rfl, qs, hqs, hqm⟩
          · omega
        obtain ⟨v9, qs9, rfl, hqs9, _⟩ := h8
        obtain ⟨a9, c9, rfl⟩ := hqs9.shape
        clear hC8 hG8 hqs9
        simp only [Act.put, List.setIfInBounds_toArray, List.set_cons_zero, List.set_cons_succ]
        refine relE_quiet rfl rfl rfl rfl ?_; intro K hK; go_big_quiet_op; (first | refine ⟨_, fun _ _ => rfl, hK _ ?_⟩ | refine hK _ ?_); clear hK K
        refine relE_quiet rfl rfl rfl rfl ?_; intro K hK; go_big_quiet_op; (first | refine ⟨_, fun _ _ => rfl, hK _ ?_⟩ | refine hK _ ?_); clear hK K
        refine relE_quiet rfl rfl rfl rfl ?_; intro K hK; go_big_quiet_op; (first | refine ⟨_, fun _ _ => rfl, hK _ ?_⟩ | refine hK _ ?_); clear hK K
        refine relE_fact [] rfl rfl rfl (by kernel_rfl) (fun y hy hf => ?_) (fun v6 z6 hC6 hG6 h6 => ?_)
        · go_simp
          exact ⟨hy.trans ((Ext.refl y).alloc _), SE_ext (by decide) ((Ext.refl y).alloc _), _, rfl, hy.le, _, BoxAt.made y _ _, rfl⟩
        obtain ⟨b12, rfl, _, _⟩ := h6
        clear hC6 hG6
        simp only [Act.put, List.setIfInBounds_toArray, List.set_cons_zero, List.set_cons_succ]
        refine relE_factP [9] rfl rfl rfl (by kernel_rfl) (fun y hy hf => ?_) (fun v6 z6 hC6 hG6 h6 => ?_)
        · obtain ⟨b, e, hb, Z, hbox, hZ⟩ := (hf 9 (by simp)).2 rfl
          cases e
          refine yields_storeBox 39 (.tmp 7) (.tmp 30) rfl b12 #[.string Pk, .int .i64 0, .slice a9 qs9.length c9] Z _ rfl rfl hbox (by kernel_rfl) hZ (by simp [Value.oneCell']) ?_
          intro y' hb' hg'
          have hR : SE w5.heap.size 10 10 y y' := SE_at hb hbox hb' rfl hg'
          exact ⟨SE_to (Nat.le_refl _) hR hy, hR, b12, _, rfl, hb'⟩
        clear h6 hC6 hG6
        simp only [Act.put, List.setIfInBounds_toArray, List.set_cons_zero, List.set_cons_succ]
        refine relE_quiet rfl rfl rfl rfl ?_; intro K hK; go_big_quiet_op; (first | refine ⟨_, fun _ _ => rfl, hK _ ?_⟩ | refine hK _ ?_); clear hK K
        refine relE_nil fun w9 hC hG => ?_
        obtain ⟨v8, qs, e8, hrows9, HQ⟩ := (hG 5).1.1.2 rfl
        obtain ⟨b13, Z13, e13, hbox9⟩ := (hG 10).2 rfl
        have e13' : [Value.pointer (some ⟨b12, 0, none⟩), Value.agg #[.string Pk, .int .i64 0, .slice a9 qs9.length c9]] = [.pointer (some ⟨b13, 0, none⟩), .agg Z13] := e13
        cases e13'
        cases e8
        have hE9 : Ext w w9 := hE5w.trans hC
        have hown9 := ownsRow_ext hown5 hC
        obtain ⟨y0, y1, y2⟩ := BoxAt.pa (k := Pk) (g := 0) (u := .slice a9 qs9.length c9) hbox9
        obtain ⟨n9, hn9⟩ : ∃ n9, n9 = qs9.length := ⟨_, rfl⟩
        rw [← hn9] at hrows9 hbox9 y2 ⊢
        clear hC hG e13 hn9
        go_wp2_with ((guard_target =~ wpList _ _ _ (Oper.mk none (Op.store _ (Operand.tmp 35) _) _ _ _ _ :: _) _ _); go_must (refine wpList_store_mid rfl 39 (.tmp 35) (.tmp 34) rfl g (k * 3) (pa3 Pk 0 (.slice a9 n9 c9)) (by rfl) (by rfl) (own_thereP hown9 (k * 3) 3 (by omega)) (by kernel_rfl) (by simp [pa3, Value.oneCell']) ?_))
        obtain ⟨ho, hgr⟩ := own_putP hown9 k hkL ⟨Pk, 0, .slice a9 n9 c9, qs⟩
        refine bodyPost_ret (v := .tuple #[.slice (some ⟨g, 0, none⟩) n cv, .bool true]) ?_ rfl ⟨_, L.set k ⟨Pk, 0, .slice a9 n9 c9, qs⟩, rfl, by rw [List.length_set, ← HN.out]; exact ho, fun q hq => ?_, fun q hq => ?_, ?_, ext_grownBy hE9 hgr, fun k hk => .inl hk⟩
        · simp [results, Tryz.results11, go_sem]
        · rcases List.mem_or_eq_of_mem_set hq with h | rfl
          · exact ((HL.out q h).ext hE9).keepOwn hown9 hgr (by decide) (by decide)
          · exact hrows9.keepOwn hown9 hgr (by decide) (by decide)
        · rcases List.mem_or_eq_of_mem_set hq with h | rfl
          · exact HG0.out q h
          · rfl
        · exact (putP_at L k ⟨Pk, 0, .slice a9 n9 c9, qs⟩ hkL (fun j h hj => HK.out j h hj) (by rw [← HP.out]; exact HBK.out.symm) (by rw [← HP.out]) (by rw [← HP.out]; exact HQ.out.trans HJ.out)).symm
    · obtain rfl : k = n := by omega
      have hki : decide ((k : Int) < (k : Int)) = false := by simp
      have hpql := HPL.out
      go_wp2_with fail
      refine (copy8_any a 0 (.slice ap np cp) pq wr (hp.ext hE) (by omega) (fun p hpm => ?_)).mono ?_
      · have : p.1 ∈ pq.map (·.1) := List.mem_map_of_mem hpm
        rw [HPS.out] at this
        have := hsl _ this
        omega
      rintro e w1 ⟨v1, rfl, qs, hqs, hqm, hE1⟩
      rw [HPS.out] at hqm
      have hown1 := ownsRow_ext hown (hE.trans hE1)
      have hE1w := hE.trans hE1
      have hB1 : B ≤ w1.heap.size := by have := hE1w.le; omega
      obtain ⟨a1, c1, rfl⟩ := hqs.shape
      obtain ⟨n1, hn1⟩ : ∃ n1, n1 = qs.length := ⟨_, rfl⟩
      rw [← hn1] at hqs ⊢
      clear hn1
      have HQM := Lib.hid hqm
      clear hqm x0 x1 x2
      go_wp2_with (at_builtin; go_must (refine appRw info_Part und_Parts rfl (by decide) w1 rfl (.tmp 38) (.tmp 41) rfl B hB1 _ k _ hown1 (by rfl) 1 (pa3 a 0 (.slice a1 n1 c1)) (by rfl) (by rfl) (by simp [pa3, Value.oneCell']) (by unfold maxLen; omega) (by omega) ?_); intro m3 w3 hown3 hg3 hw3)
      have hX := (Ext.refl w1).alloc (.cells (pa3 a 0 (.slice a1 n1 c1)) 39)
      have hownA := ownsRow_ext hown1 hX
      refine bodyPost_ret (v := .tuple #[m3, .bool true]) ?_ rfl ⟨_, L ++ [⟨a, 0, .slice a1 n1 c1, qs⟩], rfl, ?_, fun q hq => ?_, fun q hq => ?_, ?_, ext_grownBy (hE1w.trans hX) hg3, fun k hk => (hw3 k hk).imp_right fun h => by have := hE1w.le; omega⟩
      · simp [results, Tryz.results11, go_sem]
      · rw [List.length_append, ← HN.out, paCells_append]; exact hown3
      · rcases List.mem_append.1 hq with h | h
        · exact (((HL.out q h).ext hE1w).ext hX).keepOwn hownA hg3 (by decide) (by decide)
        · rw [List.mem_singleton.1 h]; exact (hqs.ext hX).keepOwn hownA hg3 (by decide) (by decide)
      · rcases List.mem_append.1 hq with h | h
        · exact HG0.out q h
        · rw [List.mem_singleton.1 h]
      · rw [putP_not L fun j h => HK.out j h (by have := HN.out; omega)]
        unfold viL
        rw [List.map_append]
        simp [HQM.out]
end Go.Proofs.YtolkhjdododdaaaGreat

/- delta.known: what a view's row knows of a base's row. -/
namespace Go.Proofs.YtolkhjdododdaaaGreat
open Go Go.RowKit
attribute [local go_sem] yields yUpon ro8 pa3 vw5 cl4

/-- What a view's row knows of a base's row, but for where it lies. -/
def known0 (xg : Int) (r b : Ro) (g : Int) : Ro := ⟨b.key, zeroCl, if max r.gone xg ≤ max b.gone g then 0 else max r.gone xg, 0, r.cols⟩
def onR (x : Vw) (xk : ByteArray) (r : Ro) : Ro := ⟨⟨#[]⟩, zeroCl, 0, 0, [⟨x.on, ⟨xk, false, r.live.at_, r.live.fin⟩⟩]⟩
def knownRo (x : Vw) (xk : ByteArray) (xg : Int) (r b : Ro) (g : Int) : Ro := if 0 < r.live.at_ then joinRo (known0 xg r b g) (onR x xk r) else known0 xg r b g

theorem cols_oneK {w : World} {b : Nat} {c : Co} {T : TypeId} (h : BoxAt w b #[.string c.name, .string c.cell.val, .bool c.cell.dead, .int .i64 c.cell.at_, .int .i64 c.cell.fin] T) : ColsIn w (.slice (some ⟨b, 0, none⟩) 1 1) [c] := by
  unfold ColsIn
  have e : coCells [c] = (#[.string c.name, .string c.cell.val, .bool c.cell.dead, .int .i64 c.cell.at_, .int .i64 c.cell.fin] : Array Value).toList := by simp [coCells]
  rw [e]
  exact ⟨_, _, rfl, Nat.le_refl _, by unfold maxLen; simp, nofun, fun j u hj => ⟨b, 0, rfl, by rw [Nat.zero_add, h.cell j]; simpa using hj⟩⟩

set_option maxRecDepth 100000 in
set_option maxHeartbeats 8000000 in
theorem known_any (x : Vw) (u : Value) (xk : ByteArray) (xg : Int) (xu : Value) (r b : Ro) (v vb : Value) (g : Int) (w : World) (hin : ColsT w v r.cols) (hlen : r.cols.length ≤ 100000) :
    Calls Tryz.prog 27 #[.agg #[.string x.name, .int .i64 x.id, .string x.table, .string x.on, u], .agg #[.string xk, .int .i64 xg, xu], (.agg #[.string r.key, .string r.live.val, .bool r.live.dead, .int .i64 r.live.at_, .int .i64 r.live.fin, .int .i64 r.gone, .int .i64 r.shade, v]), (.agg #[.string b.key, .string b.live.val, .bool b.live.dead, .int .i64 b.live.at_, .int .i64 b.live.fin, .int .i64 b.gone, .int .i64 b.shade, vb]), .int .i64 g] w fun e w' => ∃ v', e = .returned (.agg #[.string (knownRo x xk xg r b g).key, .string (knownRo x xk xg r b g).live.val, .bool (knownRo x xk xg r b g).live.dead, .int .i64 (knownRo x xk xg r b g).live.at_, .int .i64 (knownRo x xk xg r b g).live.fin, .int .i64 (knownRo x xk xg r b g).gone, .int .i64 (knownRo x xk xg r b g).shade, v']) ∧ ColsT w' v' (knownRo x xk xg r b g).cols ∧ Ext w w' := by
  obtain ⟨av, cv, rfl⟩ := TIn.shape hin
  obtain ⟨a0, a1, a2, a3, a4, hE⟩ := boxes5 w #[.string x.name, .int .i64 x.id, .string x.table, .string x.on, u] #[.string xk, .int .i64 xg, xu] #[.string r.key, .string r.live.val, .bool r.live.dead, .int .i64 r.live.at_, .int .i64 r.live.fin, .int .i64 r.gone, .int .i64 r.shade, (.slice av r.cols.length cv)] #[.string b.key, .string b.live.val, .bool b.live.dead, .int .i64 b.live.at_, .int .i64 b.live.fin, .int .i64 b.gone, .int .i64 b.shade, vb] #[.string ⟨#[]⟩, .string ⟨#[]⟩, .bool false, .int .i64 0, .int .i64 0, .int .i64 0, .int .i64 0, .slice none 0 0] 31 39 54 54 54
  have hin0 := TIn.ext hE hin
  obtain ⟨G, hG⟩ : ∃ G, G = max r.gone xg := ⟨_, rfl⟩
  obtain ⟨H, hH⟩ : ∃ H, H = max b.gone g := ⟨_, rfl⟩
  have HG := Lib.hid hG
  have HH := Lib.hid hH
  have hg1 := fun w => Lib.hid (rgone_any r (.slice av r.cols.length cv) xg w)
  have hg2 := fun w => Lib.hid (rgone_any b vb g w)
  rw [← hG] at hg1
  rw [← hH] at hg2
  clear hG hH hin
  go_enter Tryz.func27, Tryz.ntmps27
  go_wp2_with fail
  generalize World.alloc (World.alloc (World.alloc (World.alloc (World.alloc w _) _) _) _) _ = w0 at a0 a1 a2 a3 a4 hE hin0 ⊢
  have hl4 := a4.lt
  have x0 : w0.cell? ⟨w.heap.size + 1 + 1 + 1, 0, none⟩ = some (.string b.key) := a3.cell 0
  have a2' : BoxAt w0 (w.heap.size + 1 + 1) (ro8 r (.slice av r.cols.length cv)) 54 := a2
  have a3' : BoxAt w0 (w.heap.size + 1 + 1 + 1) (ro8 b vb) 54 := a3
  have a1' : BoxAt w0 (w.heap.size + 1) (pa3 xk xg xu) 39 := a1
  have a0' : BoxAt w0 w.heap.size (vw5 x u) 31 := a0
  have a4' : BoxAt w0 (w.heap.size + 1 + 1 + 1 + 1) (ro8 ⟨⟨#[]⟩, zeroCl, 0, 0, []⟩ (.slice none 0 0)) 54 := a4
  clear a0 a1 a2 a3 a4
  obtain ⟨r0, r1, r2, r3, r4, r5, r6, r7⟩ := a2'.ro
  obtain ⟨p0, p1, p2⟩ := a1'.pa
  refine wp_region_tab 10 [(5, fun v _ => v = .int .i64 G), (9, fun v y => ∃ q, v = .pointer (some ⟨q, 0, none⟩) ∧ w0.heap.size ≤ q ∧ BoxAt y q (ro8 ⟨⟨#[]⟩, zeroCl, 0, 0, []⟩ (.slice none 0 0)) 54)] (by kernel_rfl) (by kernel_rfl) (by kernel_rfl) ⟨stays_eq _, fun _ _ _ hE ⟨q, e, h1, h2⟩ => ⟨q, e, h1, h2.ext hE⟩, trivial⟩ ?_
  replace x0 := held x0
  replace r0 := held r0
  replace r1 := held r1
  replace r2 := held r2
  replace r3 := held r3
  replace r4 := held r4
  replace r5 := held r5
  replace r6 := held r6
  replace r7 := held r7
  replace p1 := held p1
  refine rg_quiet rfl rfl rfl rfl ?_; intro K hK; go_big_quiet_op; go_big_quiet_on
  refine rg_quiet rfl rfl rfl rfl ?_; intro K hK; go_big_quiet_op; go_big_quiet_on
  refine rg_quiet rfl rfl rfl rfl ?_; intro K hK; go_big_quiet_op; go_big_quiet_on
  refine rg_quiet rfl rfl rfl rfl ?_; intro K hK; go_big_quiet_op; go_big_quiet_on
  refine rg_quiet rfl rfl rfl rfl ?_; intro K hK; go_big_quiet_op; go_big_quiet_on
  refine rg_val [] rfl rfl rfl (by kernel_rfl) (fun y hE hf => ?_) ?_
  · go_simp
    exact (hg1 y).out.mono fun e w' ⟨he, hw⟩ => ⟨_, he, rg_done hE hw rfl⟩
  simp only [Act.put, List.setIfInBounds_toArray, List.set_cons_zero, List.set_cons_succ]
  refine rg_quiet rfl rfl rfl rfl ?_; intro K hK; go_big_quiet_op; go_big_quiet_on
  refine rg_quiet rfl rfl rfl rfl ?_; intro K hK; go_big_quiet_op; go_big_quiet_on
  refine rg_quiet rfl rfl rfl rfl ?_; intro K hK; go_big_quiet_op; go_big_quiet_on
  refine rg_fact [] rfl rfl rfl (by kernel_rfl) (fun y hY hf => ?_) (fun v12 y12 hE12 hG12 h12 => ?_)
  · go_simp
    exact rg_doneR hY ((Ext.refl y).alloc _) ⟨_, rfl, hY.le, BoxAt.made y _ _⟩
  obtain ⟨q, rfl, _⟩ := h12
  clear hE12 hG12
  simp only [Act.put, List.setIfInBounds_toArray, List.set_cons_zero, List.set_cons_succ]
  refine rel_tail rfl rfl fun w1 hE1 hG => ?_
  obtain ⟨q', eq', hq, hbx⟩ := (hG 9).2 rfl
  cases eq'
  clear hG x0 r0 r1 r2 r3 r4 r5 r6 r7 p0 p1 p2
  go_wp2_with (((guard_target =~ wpList _ _ _ (Oper.mk none (Op.store _ (Operand.tmp 11) (Operand.tmp 20)) _ _ _ _ :: _) _ _); go_must (refine storeBox rfl 54 (.tmp 11) (.tmp 20) rfl (q) _ _ _ (by rfl) (by rfl) (hbx) (by kernel_rfl) (by rfl) (by simp [Value.oneCell']) ?_); intro w2 c2 g2))
  have hX2 : Ext w0 w2 := hE1.grown g2 (fun k hk => by cases hk; exact hq)
  have c2' : BoxAt w2 q (ro8 ⟨b.key, zeroCl, G, 0, r.cols⟩ (.slice av r.cols.length cv)) 54 := c2
  clear c2 g2 hbx hE1
  have c0 : w2.cell? ⟨q, 5, none⟩ = some (.int .i64 G) := c2'.cell 5
  obtain ⟨b0, b1, b2, b3, b4, b5, b6, b7⟩ := (a3'.ext hX2).ro
  simp only [Act.put]
  refine wp_region_tab 6 [(4, fun v _ => v = .int .i64 H)] (by kernel_rfl) (by kernel_rfl) (by kernel_rfl) ⟨stays_eq _, trivial⟩ ?_
  replace c0 := held c0
  replace b0 := held b0
  replace b1 := held b1
  replace b2 := held b2
  replace b3 := held b3
  replace b4 := held b4
  replace b5 := held b5
  replace b6 := held b6
  replace b7 := held b7
  refine rg_quiet rfl rfl rfl rfl ?_; intro K hK; go_big_quiet_op; go_big_quiet_on
  refine rg_quiet rfl rfl rfl rfl ?_; intro K hK; go_big_quiet_op; go_big_quiet_on
  refine rg_quiet rfl rfl rfl rfl ?_; intro K hK; go_big_quiet_op; go_big_quiet_on
  refine rg_quiet rfl rfl rfl rfl ?_; intro K hK; go_big_quiet_op; go_big_quiet_on
  refine rg_val [] rfl rfl rfl (by kernel_rfl) (fun y hE hf => ?_) ?_
  · go_simp
    exact (hg2 y).out.mono fun e w' ⟨he, hw⟩ => ⟨_, he, rg_done hE hw rfl⟩
  simp only [Act.put, List.setIfInBounds_toArray, List.set_cons_zero, List.set_cons_succ]
  refine rg_quiet rfl rfl rfl rfl ?_; intro K hK; go_big_quiet_op; go_big_quiet_on
  refine rel_nil fun w3 hE3 _ => ?_
  clear c0 b0 b1 b2 b3 b4 b5 b6 b7
  have hX3 := hX2.trans hE3
  have c3 := c2'.ext hE3
  clear c2' hX2 hE3
  obtain ⟨K0, hK0⟩ : ∃ K, K = known0 xg r b g := ⟨_, rfl⟩
  have hq4 : w.heap.size + 1 + 1 + 1 + 1 < q := by omega
  go_upto_if 26 with fail
  go_cut [] from 12 (fun wc => ∃ kg, Hid (kg = if G ≤ H then 0 else G) ∧ BoxAt wc q (ro8 ⟨b.key, zeroCl, kg, 0, r.cols⟩ (.slice av r.cols.length cv)) 54 ∧ Ext w0 wc)
  case first =>
    have y5 : w3.cell? ⟨q, 5, none⟩ = some (.int .i64 G) := c3.cell 5
    have yf := c3.free 5
    by_cases hGH : G ≤ H
    · have d0 : decide (G ≤ H) = true := by simpa using hGH
      go_wp2_with fail
      go_meet
      case rel => exact ⟨0, Lib.hid (if_pos hGH).symm, c3.set 5 (.int .i64 0), hX3.setCell (p := ⟨q, 5, none⟩) (by show w0.heap.size ≤ q; omega) _⟩
    · have d0 : decide (G ≤ H) = false := by simpa using hGH
      go_wp2_with fail
      go_meet
      case rel => exact ⟨G, Lib.hid (if_neg (by omega)).symm, c3, hX3⟩
  case rest =>
    obtain ⟨kg, HKG, cb, hXc⟩ := hcut
    clear c3 hX3
    have HK0 : Hid (K0 = ⟨b.key, zeroCl, kg, 0, r.cols⟩) := Lib.hid (by rw [hK0, HKG.out, HG.out, HH.out]; rfl)
    have HKR : Hid (knownRo x xk xg r b g = if 0 < r.live.at_ then joinRo K0 (onR x xk r) else K0) := Lib.hid (by rw [hK0]; rfl)
    clear hK0 HKG HG HH hg1 hg2
    have hcT : ColsT wc (.slice av r.cols.length cv) r.cols := TIn.ext hXc hin0
    have a4c := a4'.ext hXc
    have hEc := hE.trans hXc
    obtain ⟨r0, r1, r2, r3, r4, r5, r6, r7⟩ := (a2'.ext hXc).ro
    obtain ⟨p0, p1, p2⟩ := (a1'.ext hXc).pa
    obtain ⟨v0, v1, v2, v3, v4⟩ := (a0'.ext hXc).vw
    obtain ⟨y0, y1, y2, y3, y4, y5, y6, y7⟩ := cb.ro
    by_cases hl : 0 < r.live.at_
    · have d0 : decide (0 < r.live.at_) = true := by simpa using hl
      have HJ : Hid (knownRo x xk xg r b g = joinRo ⟨b.key, zeroCl, kg, 0, r.cols⟩ (onR x xk r)) := Lib.hid (by rw [HKR.out, if_pos hl, HK0.out])
      go_wp2_with fail
      refine (rowJoin_any ⟨b.key, zeroCl, kg, 0, r.cols⟩ (onR x xk r) (.slice av r.cols.length cv) (.slice (some ⟨wc.heap.size, 0, none⟩) 1 1) _ (ColsT.ext ((Ext.refl wc).alloc _) hcT).cols (cols_oneK (c := ⟨x.on, ⟨xk, false, r.live.at_, r.live.fin⟩⟩) (BoxAt.made wc _ _)) (by show r.cols.length + 1 ≤ _; omega)).mono ?_
      rintro e w6 ⟨v', rfl, hown, hE6⟩
      rw [← HJ.out] at hown ⊢
      have hTO := TIn.own hown
      clear hown
      have hEA : Ext wc w6 := ((Ext.refl wc).alloc _).trans hE6
      obtain ⟨jv, jc, rfl⟩ := TIn.shape hTO
      have a4e := a4c.ext hEA
      have cbe := cb.ext hEA
      clear r0 r1 r2 r3 r4 r5 r6 r7 p0 p1 p2 v0 v1 v2 v3 v4 y0 y1 y2 y3 y4 y5 y6 y7
      go_wp2_with (first
        | (((guard_target =~ wpList _ _ _ (Oper.mk none (Op.store _ (Operand.tmp 11) (Operand.tmp 47)) _ _ _ _ :: _) _ _); go_must (refine storeBox rfl 54 (.tmp 11) (.tmp 47) rfl (q) _ _ _ (by rfl) (by rfl) (cbe) (by kernel_rfl) (by rfl) (by simp [Value.oneCell']) ?_); intro w7 c7 g7); have hX7 : Ext w0 w7 := (hXc.trans hEA).grown g7 (fun k hk => by cases hk; exact hq); have a47 := a4'.ext hX7; have e7 := c7.ro (r := knownRo x xk xg r b g) (v := .slice jv (knownRo x xk xg r b g).cols.length jc); obtain ⟨f0, f1, f2, f3, f4, f5, f6, f7⟩ := e7)
        | (((guard_target =~ wpList _ _ _ (Oper.mk none (Op.store _ (Operand.tmp 10) (Operand.tmp 48)) _ _ _ _ :: _) _ _); go_must (refine storeBox rfl 54 (.tmp 10) (.tmp 48) rfl (w.heap.size + 1 + 1 + 1 + 1) _ _ _ (by rfl) (by rfl) (a47) (by kernel_rfl) (by rfl) (by simp [Value.oneCell']) ?_); intro w5 c5 g5)))
      obtain ⟨z0, z1, z2, z3, z4, z5, z6, z7⟩ := c5.ro (r := knownRo x xk xg r b g) (v := .slice jv (knownRo x xk xg r b g).cols.length jc)
      refine bodyPost_ret (v := (.agg #[.string (knownRo x xk xg r b g).key, .string (knownRo x xk xg r b g).live.val, .bool (knownRo x xk xg r b g).live.dead, .int .i64 (knownRo x xk xg r b g).live.at_, .int .i64 (knownRo x xk xg r b g).live.fin, .int .i64 (knownRo x xk xg r b g).gone, .int .i64 (knownRo x xk xg r b g).shade, .slice jv (knownRo x xk xg r b g).cols.length jc])) ?_ rfl ⟨_, rfl, TIn.keep g5 a47 (by decide) (TIn.keep g7 cbe (by decide) hTO), (hE.trans hX7).grown g5 (fun k hk => by cases hk; omega)⟩
      simp [results, Tryz.results27, go_sem, z0, z1, z2, z3, z4, z5, z6, z7]
    · have d0 : decide (0 < r.live.at_) = false := by simpa using hl
      have HJ : Hid (knownRo x xk xg r b g = ⟨b.key, zeroCl, kg, 0, r.cols⟩) := Lib.hid (by rw [HKR.out, if_neg hl, HK0.out])
      go_wp2_with (((guard_target =~ wpList _ _ _ (Oper.mk none (Op.store _ (Operand.tmp 10) (Operand.tmp 48)) _ _ _ _ :: _) _ _); go_must (refine storeBox rfl 54 (.tmp 10) (.tmp 48) rfl (w.heap.size + 1 + 1 + 1 + 1) _ _ _ (by rfl) (by rfl) (a4c) (by kernel_rfl) (by rfl) (by simp [Value.oneCell']) ?_); intro w5 c5 g5))
      obtain ⟨z0, z1, z2, z3, z4, z5, z6, z7⟩ := c5.ro (r := ⟨b.key, zeroCl, kg, 0, r.cols⟩) (v := .slice av r.cols.length cv)
      refine bodyPost_ret (v := (.agg #[.string (⟨b.key, zeroCl, kg, 0, r.cols⟩ : Ro).key, .string (⟨b.key, zeroCl, kg, 0, r.cols⟩ : Ro).live.val, .bool (⟨b.key, zeroCl, kg, 0, r.cols⟩ : Ro).live.dead, .int .i64 (⟨b.key, zeroCl, kg, 0, r.cols⟩ : Ro).live.at_, .int .i64 (⟨b.key, zeroCl, kg, 0, r.cols⟩ : Ro).live.fin, .int .i64 (⟨b.key, zeroCl, kg, 0, r.cols⟩ : Ro).gone, .int .i64 (⟨b.key, zeroCl, kg, 0, r.cols⟩ : Ro).shade, .slice av r.cols.length cv])) ?_ rfl ⟨.slice av r.cols.length cv, by rw [HJ.out], by rw [HJ.out]; exact TIn.keep g5 a4c (by decide) hcT, hEc.grown g5 (fun k hk => by cases hk; omega)⟩
      simp [results, Tryz.results27, go_sem, z0, z1, z2, z3, z4, z5, z6, z7]
end Go.Proofs.YtolkhjdododdaaaGreat

/- A view's key split again; clerestorylaw18.awake. (what a smaller cut has) -/
namespace Go.Proofs.YtolkhjdododdaaaGreat
open Go Go.RowKit
attribute [local go_sem] yields yUpon tabV viewV

theorem vkey_list (a b : ByteArray) : (vkey a b).data.toList = txt a.data.toList ++ b.data.toList := by
  unfold vkey
  rw [ByteArray.data_append]
  simp [str]
theorem vkey_size (a b : ByteArray) : (vkey a b).size = (txt a.data.toList).length + b.size := by
  show (vkey a b).data.toList.length = _
  rw [vkey_list, List.length_append]
  rfl
theorem ba_ext {a b : ByteArray} (h : a.data.toList = b.data.toList) : a = b := ByteArray.ext (Array.toList_inj.1 h)
theorem vkey_rest (a b : ByteArray) : (vkey a b).extract (txt a.data.toList).length (vkey a b).size = b := by
  apply ba_ext
  rw [ByteArray.data_extract, Array.toList_extract, vkey_list, vkey_size]
  simp only [List.extract_eq_take_drop, List.drop_left]
  rw [List.take_of_length_le]
  show b.size ≤ _
  omega
theorem split_key (a b : ByteArray) (w : World) (ha : a.size ≤ 1000000) (hb : b.size ≤ 1000000) :
    Calls Tryz.prog 26 #[.string (vkey a b)] w fun e w' => e = .returned (.tuple #[.string a, .string b, .bool true]) ∧ Ext w w' := by
  have hl : (txt a.data.toList).length ≤ 2 * a.size + 2 := txt_length_le a.data.toList
  refine (split_any (vkey a b) w (by rw [vkey_size]; omega)).mono ?_
  rw [vkey_list, getText_key, vkey_rest]
  rintro e w' ⟨h, hE⟩
  rcases h with ⟨h, _⟩ | ⟨_, h⟩
  · exact absurd rfl h
  · exact ⟨h, hE⟩
end Go.Proofs.YtolkhjdododdaaaGreat

/- delta.Orphan's closure: the base's row that a view's row is of. -/
namespace Go.Proofs.YtolkhjdododdaaaGreat
open Go Go.RowKit
attribute [local go_sem] yields yUpon ro8 pa3

set_option maxRecDepth 100000 in
set_option maxHeartbeats 4000000 in
theorem ownRow_any (bb : Nat) (pk : ByteArray) (pg : Int) (pu : Value) (ps : List (Ro × Value)) (r : Ro) (v : Value) (c : ByteArray) (w : World) (hb : BoxAt w bb (pa3 pk pg pu) 39) (hin : RowsIn w pu ps) (hcl : ∀ p ∈ ps, p.1.cols.length ≤ 1000000) (hk : r.key = vkey pk c) (h1 : pk.size ≤ 1000000) (h2 : c.size ≤ 1000000) :
    Calls Tryz.prog 25 #[(.agg #[.string r.key, .string r.live.val, .bool r.live.dead, .int .i64 r.live.at_, .int .i64 r.live.fin, .int .i64 r.gone, .int .i64 r.shade, v]), .pointer (some ⟨bb, 0, none⟩)] w fun e w' => ∃ v', e = .returned (.tuple #[(.agg #[.string (rowOf (ps.map (·.1)) c).key, .string (rowOf (ps.map (·.1)) c).live.val, .bool (rowOf (ps.map (·.1)) c).live.dead, .int .i64 (rowOf (ps.map (·.1)) c).live.at_, .int .i64 (rowOf (ps.map (·.1)) c).live.fin, .int .i64 (rowOf (ps.map (·.1)) c).gone, .int .i64 (rowOf (ps.map (·.1)) c).shade, v']), .bool true]) ∧ ColsT w' v' (rowOf (ps.map (·.1)) c).cols ∧ Ext w w' := by
  obtain ⟨a0, a1, hE⟩ := boxes2 w (ro8 r v) (ro8 ⟨⟨#[]⟩, zeroCl, 0, 0, []⟩ (.slice none 0 0)) 54 54
  have hb0 := hb.ext hE
  have hin0 := hin.ext hE
  have hs := fun w => Lib.hid (split_key pk c w h1 h2)
  rw [← hk] at hs
  have hbb : ¬ bb = w.heap.size + 1 := by have := hb.lt; omega
  have hbb2 : ¬ w.heap.size + 1 = bb := by omega
  obtain ⟨R, hR⟩ : ∃ R, R = rowOf (ps.map (·.1)) c := ⟨_, rfl⟩
  have hrow := fun w1 (hE1 : Ext ((w.alloc (.cells (ro8 r v) 54)).alloc (.cells (ro8 ⟨⟨#[]⟩, zeroCl, 0, 0, []⟩ (.slice none 0 0)) 54)) w1) => Lib.hid (prow_typed pk pg pu ps c w1 (hin0.ext hE1) hcl)
  rw [← hR] at hrow ⊢
  obtain ⟨au, cu, rfl, _⟩ := hin.get
  obtain ⟨n, hn⟩ : ∃ n, n = ps.length := ⟨_, rfl⟩
  rw [← hn] at hb0 hrow
  clear hR hn hin hin0 hb hk
  have tk : (pk.toList == pk.toList) = true := by simp
  go_enter Tryz.func25, Tryz.ntmps25
  go_wp2_with fail
  refine (hs _).out.mono ?_
  rintro e w1 ⟨rfl, hE1⟩
  obtain ⟨p0, p1, p2⟩ := (hb0.ext hE1).pa
  go_wp2_with fail
  refine (hrow _ hE1).out.mono ?_
  rintro e w2 ⟨v2, rfl, hc2, hE2⟩
  obtain ⟨a2, c2, rfl⟩ := TIn.shape hc2
  have hE02 := (hE.trans hE1).trans hE2
  have hb2 := (hb0.ext hE1).ext hE2
  have a12 := (a1.ext hE1).ext hE2
  clear p0 p1 p2 hb0 a0 a1
  go_wp2_with (((guard_target =~ wpList _ _ _ (Oper.mk none (Op.store _ (Operand.tmp 8) (Operand.tmp 21)) _ _ _ _ :: _) _ _); go_must (refine storeBox rfl 54 (.tmp 8) (.tmp 21) rfl (w2.heap.size) _ _ _ (by rfl) (by rfl) ((BoxAt.made w2 (ro8 ⟨⟨#[]⟩, zeroCl, 0, 0, []⟩ (.slice none 0 0)) 54)) (by kernel_rfl) (by rfl) (by simp [Value.oneCell']) ?_); intro w3 c3 g3))
  have hX3 : Ext w2 w3 := ((Ext.refl w2).alloc _).grown g3 (fun q hq => by cases hq; exact Nat.le_refl _)
  have hb3 := hb2.ext hX3
  have a13 := a12.ext hX3
  have hc3 : TIn w3 57 (.slice a2 R.cols.length c2) R.cols.length (coCells R.cols) := hc2.ext hX3
  have hE03 := hE02.trans hX3
  obtain ⟨x0, x1, x2, x3, x4, x5, x6, x7⟩ := c3.ro (r := R) (v := .slice a2 R.cols.length c2)
  obtain ⟨p0, p1, p2⟩ := hb3.pa
  have yf := a13.free
  obtain ⟨y0, y1, y2, y3, y4, y5, y6, y7⟩ := a13.ro
  clear c3 g3 hb3 p1 p2
  go_region
  have g0_0 := TIn.set 0 (.string R.key) a13 (by decide) hc3
  have bx_0 := a13.set 0 (.string R.key)
  have ex_0 := hE03.setCell (p := ⟨w.heap.size + 1, 0, none⟩) (Nat.le_succ _) (.string R.key)
  have g0_1 := TIn.set 1 (.string R.live.val) bx_0 (by decide) g0_0
  have bx_1 := bx_0.set 1 (.string R.live.val)
  have ex_1 := ex_0.setCell (p := ⟨w.heap.size + 1, 1, none⟩) (Nat.le_succ _) (.string R.live.val)
  have g0_2 := TIn.set 2 (.bool R.live.dead) bx_1 (by decide) g0_1
  have bx_2 := bx_1.set 2 (.bool R.live.dead)
  have ex_2 := ex_1.setCell (p := ⟨w.heap.size + 1, 2, none⟩) (Nat.le_succ _) (.bool R.live.dead)
  have g0_3 := TIn.set 3 (.int .i64 R.live.at_) bx_2 (by decide) g0_2
  have bx_3 := bx_2.set 3 (.int .i64 R.live.at_)
  have ex_3 := ex_2.setCell (p := ⟨w.heap.size + 1, 3, none⟩) (Nat.le_succ _) (.int .i64 R.live.at_)
  have g0_4 := TIn.set 4 (.int .i64 R.live.fin) bx_3 (by decide) g0_3
  have bx_4 := bx_3.set 4 (.int .i64 R.live.fin)
  have ex_4 := ex_3.setCell (p := ⟨w.heap.size + 1, 4, none⟩) (Nat.le_succ _) (.int .i64 R.live.fin)
  have g0_5 := TIn.set 5 (.int .i64 R.gone) bx_4 (by decide) g0_4
  have bx_5 := bx_4.set 5 (.int .i64 R.gone)
  have ex_5 := ex_4.setCell (p := ⟨w.heap.size + 1, 5, none⟩) (Nat.le_succ _) (.int .i64 R.gone)
  have g0_6 := TIn.set 6 (.int .i64 R.shade) bx_5 (by decide) g0_5
  have bx_6 := bx_5.set 6 (.int .i64 R.shade)
  have ex_6 := ex_5.setCell (p := ⟨w.heap.size + 1, 6, none⟩) (Nat.le_succ _) (.int .i64 R.shade)
  have g0_7 := TIn.set 7 (.slice a2 R.cols.length c2) bx_6 (by decide) g0_6
  have bx_7 := bx_6.set 7 (.slice a2 R.cols.length c2)
  have ex_7 := ex_6.setCell (p := ⟨w.heap.size + 1, 7, none⟩) (Nat.le_succ _) (.slice a2 R.cols.length c2)
  clear bx_0 bx_1 bx_2 bx_3 bx_4 bx_5 bx_6 ex_0 ex_1 ex_2 ex_3 ex_4 ex_5 ex_6 g0_0 g0_1 g0_2 g0_3 g0_4 g0_5 g0_6
  generalize World.setCell (World.setCell (World.setCell (World.setCell (World.setCell (World.setCell (World.setCell (World.setCell w3 _ _) _ _) _ _) _ _) _ _) _ _) _ _) _ _ = w9 at bx_7 ex_7 g0_7 ⊢
  replace bx_7 : BoxAt w9 (w.heap.size + 1) (ro8 R (.slice a2 R.cols.length c2)) 54 := bx_7
  obtain ⟨y0, y1, y2, y3, y4, y5, y6, y7⟩ := (bx_7.ext (Ext.refl w9).drew).ro
  go_wp2
  refine bodyPost_ret (v := .tuple #[(.agg #[.string R.key, .string R.live.val, .bool R.live.dead, .int .i64 R.live.at_, .int .i64 R.live.fin, .int .i64 R.gone, .int .i64 R.shade, .slice a2 R.cols.length c2]), .bool true]) ?_ rfl ⟨_, rfl, TIn.ext (Ext.refl w9).drew g0_7, ex_7.drew⟩
  simp [results, Tryz.results25, go_sem, y0, y1, y2, y3, y4, y5, y6, y7]
end Go.Proofs.YtolkhjdododdaaaGreat
