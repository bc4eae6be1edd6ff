/- DeltaMirrors: all deltas of any mutations, joined in any order, some twice, mirror the base: the law's walk. -/
import Derived.Test.YteamiiekpjoclaaP36
import Derived.Test.YteamiiekpjoclaaP37
import Derived.Test.YteamiiekpjoclaaP35
import Derived.Test.YteamiiekpjoclaaP29
set_option linter.unusedSimpArgs false
set_option linter.unusedVariables false
namespace Go.Proofs.Yteamiiekpjoclaa
open Go Go.RowKit
attribute [local go_sem] yields yUpon ro8 pa3 vw5 tabV viewV

/-- The worlds in which the base and the next mutation are joined. -/
structure MJ (w6 : World) (bp S : Nat) (Z : Array Value) (pv : Value) (ps : List (Ro × Value)) (va : Value) (L : List Pa) (y : World) : Prop where
  ext : Ext w6 y
  base : BoxAt y bp Z 39
  rows : RowsT y pv ps
  own : y.ownsRow (w6.heap.size + 1) 39 3 va L.length (paCells L)
  all : ∀ q ∈ L, RowsT y q.rv q.ps
  size : S ≤ y.heap.size
theorem MJ.ext' {w6 : World} {bp S : Nat} {Z : Array Value} {pv : Value} {ps : List (Ro × Value)} {va : Value} {L : List Pa} {y z : World} (hE : Ext y z) (h : MJ w6 bp S Z pv ps va L y) : MJ w6 bp S Z pv ps va L z :=
  ⟨h.ext.trans hE, h.base.ext hE, h.rows.ext hE, ownsRow_ext h.own hE, fun q hq => (h.all q hq).ext hE, Nat.le_trans h.size hE.le⟩
theorem outP_app (l m : List (ByteArray × Ro)) : outP (l ++ m) = outP l ++ outP m := List.map_append ..
theorem NumRs.small {p : Dp} (h : NumRs p.2) {ps : List (Ro × Value)} (hm : ps.map (·.1) = p.2) : ps.length ≤ 4 ∧ (∀ q ∈ ps, q.1.cols.length ≤ 4) ∧ ∀ q ∈ ps, q.1.key.size ≤ 10000000 ∧ (vkey ⟨#[109]⟩ q.1.key).size ≤ 400 := by
  rw [← hm] at h
  refine ⟨by have := h.len; rwa [List.length_map] at this, fun q hq => (h.row q.1 (List.mem_map_of_mem hq)).len, fun q hq => ?_⟩
  obtain ⟨i, hi, e⟩ := h.key q.1 (List.mem_map_of_mem hq)
  obtain ⟨h1, h2⟩ := ik_small9 i hi
  rw [e]
  exact ⟨by omega, h2⟩

/-- What put19 asks of a view. -/
theorem ch_ask {p : Dp} {D PP : List (ByteArray × Ro)} {V : List Pa} (h : Ch dV dNs ⟨#[109]⟩ p D) (hv : VInv D PP (viL V)) : (∀ q ∈ V, GoodRs (q.ps.map (·.1))) ∧ (∀ q ∈ V, ∀ r ∈ q.ps, r.1.cols.length ≤ 1000) ∧ ∀ q ∈ V, q.ps.length ≤ 99 := by
  have h1 := h.view hv
  refine ⟨fun q hq => (h1 _ (viL_mem hq)).1, fun q hq r hr => ?_, fun q hq => ?_⟩
  · have := (h1 _ (viL_mem hq)).2.2 r.1 (List.mem_map_of_mem hr)
    omega
  · have := (h1 _ (viL_mem hq)).2.1
    simp only [List.length_map] at this
    omega
/-- A delta of the list, as it lies in memory. -/
structure At19 (wA : World) (av : Option Addr) (D : List (ByteArray × Ro)) (j : Nat) (g : Nat) (d : ByteArray × Ro) (aq : Option Addr) (ql cq : Nat) (Qps : List (Ro × Value)) : Prop where
  ha : av = some ⟨g, 0, none⟩
  hd : D[j]? = some d
  mem : d ∈ D
  at_ : PaAt wA g (j * 3) ⟨d.1, 0, .slice aq ql cq, Qps⟩
  rows : RowsT wA (.slice aq ql cq) Qps
  map : Qps.map (·.1) = [d.2]

/-- What is seen of a view that all deltas were put into. -/
theorem mir_end {pg : Int} {P : List Ro} {D PP : List (ByteArray × Ro)} {V : List Pa} {v pu : Value} {ps : List (Ro × Value)} {bu : Nat} {W : World} (hch : Ch dV dNs ⟨#[109]⟩ (pg, P) D) (hv : VInv D PP (viL V)) (hcov : ∀ d ∈ D, d ∈ PP) (hpt : PartsT W v V) (hVl : V.length ≤ 1000) (hg : ∀ q ∈ V, q.gone = 0)
    (hr : RowsT W pu ps) (hm : ps.map (·.1) = P) (hns : StrsIn W (.slice (some ⟨bu, 0, none⟩) 2 2) dNs) (t : Int) :
    Calls Try.prog 16 #[v, .agg #[.string dV.name, .int .i64 dV.id, .string dV.table, .string dV.on, .slice (some ⟨bu, 0, none⟩) 2 2], .agg #[.string ⟨#[109]⟩, .int .i64 pg, pu], .int .i64 t] W fun e w' => e = .returned (.bool true) ∧ Ext W w' := by
  obtain ⟨s1, s2, s3⟩ := NumRs.small (p := (pg, P)) hch.num hm
  obtain ⟨p2, p3, p4⟩ := ch_ask hch hv
  obtain ⟨m1, m2⟩ := hch.end_ (by decide) hv hcov t
  have hvF : viewF dV dNs ⟨#[109]⟩ pg t (ps.map (·.1)) = viewRs dV dNs ⟨#[109]⟩ pg t P := by
    rw [viewF_short fun r hr => ?_, hm]
    obtain ⟨p, hp, rfl⟩ := List.mem_map.1 hr
    exact (s3 p hp).2
  refine mirrors19_any v V dV _ dNs ⟨#[109]⟩ pg pu ps t W hpt hVl hg (fun q hq => ⟨by have := p4 q hq; omega, fun p hp => ⟨p3 q hq p hp, distN_of_up ((p2 q hq).2 p.1 (List.mem_map_of_mem hp))⟩⟩) hr.rows (by omega) (fun p hp => by have := s2 p hp; omega) (fun p hp => distN_of_up (hch.num.good.2 p.1 (by show p.1 ∈ P; rw [← hm]; exact List.mem_map_of_mem hp))) hns (by decide) (fun p hp => (s3 p hp).1) (fun e he => by rw [hvF]; exact (m1 e).1 he) (by rw [hvF]; exact m2)
set_option maxRecDepth 100000 in
set_option maxHeartbeats 16000000 in
theorem law_deltaMirrors (v0 : Value) (z : List Int) (many by_ twice now : Int) (w : World) (hin : IntsIn w v0 .i64 z) (hz : z.length ≤ 150) :
    Calls Try.prog 3 #[v0, .int .i64 many, .int .i64 by_, .int .i64 twice, .int .i64 now] w fun e w' => e = .returned (.bool true) ∧ Ext w w' := by
  obtain ⟨a, c, rfl, hc, hcm, ha⟩ := hin.block
  have t0 : decide ((150 : Int) < (z.length : Int)) = false := by simp; omega
  go_enter Try.func3, Try.ntmps3
  go_wp2_with fail
  refine (view_any w).mono ?_
  rintro e w3 ⟨bs, bu, rfl, hns, hE3⟩
  go_wp2_with (first
    | (((guard_target =~ wpList _ _ _ (Oper.mk none (Op.store _ (Operand.tmp 11) (Operand.tmp 31)) _ _ _ _ :: _) _ _); go_must (refine storeBox rfl 28 (.tmp 11) (.tmp 31) rfl (w3.heap.size) _ _ _ (by rfl) (by rfl) (((BoxAt.made w3 #[.string ⟨#[]⟩, .int .i64 0, .string ⟨#[]⟩, .int .i64 0, .string ⟨#[]⟩, .int .i64 0, .slice none 0 0] 28).ext ((Ext.refl _).alloc _))) (by kernel_rfl) (by rfl) (by simp [Value.oneCell']) ?_); intro w4 c4 g4); have hX4 : Ext w3 w4 := (((Ext.refl w3).alloc _).alloc _).grown g4 (fun q hq => by cases hq; omega); have hv4 := (BoxAt.madeN #[.string ⟨#[]⟩, .int .i64 0, .string ⟨#[]⟩, .string ⟨#[]⟩, .slice none 0 0] 31 (show (w3.alloc (.cells #[.string ⟨#[]⟩, .int .i64 0, .string ⟨#[]⟩, .int .i64 0, .string ⟨#[]⟩, .int .i64 0, .slice none 0 0] 28)).heap.size = w3.heap.size + 1 by simp)).grown g4 (fun e => by have := Option.some.inj e; omega))
    | (((guard_target =~ wpList _ _ _ (Oper.mk none (Op.store _ (Operand.tmp 12) (Operand.tmp 32)) _ _ _ _ :: _) _ _); go_must (refine storeBox rfl 31 (.tmp 12) (.tmp 32) rfl (w3.heap.size + 1) _ _ _ (by rfl) (by rfl) (hv4) (by kernel_rfl) (by rfl) (by simp [Value.oneCell']) ?_); intro w5 c5 g5); have hX5 : Ext w3 w5 := hX4.grown g5 (fun q hq => by cases hq; omega); have b7 : BoxAt w5 w3.heap.size #[.string ⟨#[116]⟩, .int .i64 1, .string ⟨#[112]⟩, .int .i64 1, .string ⟨#[107]⟩, .int .i64 2, .slice (some ⟨bs, 0, none⟩) 4 4] 28 := c4.grown g5 (fun e => by have := Option.some.inj e; omega); have b8 : BoxAt w5 (w3.heap.size + 1) (vw5 dV (.slice (some ⟨bu, 0, none⟩) 2 2)) 31 := c5))
  have hE5 : Ext w w5 := hE3.trans hX5
  obtain ⟨bt, hbt⟩ : ∃ b, b = w3.heap.size := ⟨_, rfl⟩
  obtain ⟨bv, hbv⟩ : ∃ b, b = w3.heap.size + 1 := ⟨_, rfl⟩
  rw [← hbv] at b8
  rw [← hbt] at b7
  rw [← hbv, ← hbt]
  replace hns := hns.ext hX5
  have hin5 := hin.ext hE5
  clear hbt hbv c4 g4 hX4 hv4 c5 g5 hX5 hE3 hin
  refine (place_any many 8 (by decide) (by decide) w5).mono ?_
  obtain ⟨K, hK⟩ : ∃ K : Nat, many % 8 = (K : Int) := ⟨(many % 8).toNat, by omega⟩
  have hK7 : K ≤ 7 := by omega
  rw [hK]
  rintro e w5' ⟨rfl, rfl⟩
  clear hK
  go_wp2_with fail
  refine (several_any _ z K (by omega) ⟨#[109]⟩ w5 hin5).mono ?_
  rintro e w6 ⟨v6, PL, rfl, hPLl, hPL, hgen, hE6⟩
  obtain ⟨a6, c6, rfl, hc6, hc6m, hget6⟩ := hPL.get
  rw [hPLl] at hc6
  have hPLb : ∀ q, (Value.slice a6 PL.length c6).ownBlock = some q → q < w6.heap.size := fun q hq => by
    rcases hPL.tin with ⟨e, _, _⟩ | ⟨b, c, Z, e, hb, _⟩
    · rw [e] at hq; cases hq
    · rw [e] at hq; cases hq; exact hb.lt
  obtain ⟨TB, hTB⟩ : ∃ T : Array Value, T = #[.string ⟨#[116]⟩, .int .i64 1, .string ⟨#[112]⟩, .int .i64 1, .string ⟨#[107]⟩, .int .i64 2, .slice (some ⟨bs, 0, none⟩) 4 4] := ⟨_, rfl⟩
  have HTB := Lib.hid hTB
  rw [← hTB] at b7
  clear hTB hin5
  have d7 := b7.ext hE6
  have d8 := b8.ext hE6
  have hns6 := hns.ext hE6
  have hE06 := hE5.trans hE6
  rw [show (Value.slice a6 PL.length c6) = .slice a6 K c6 from by rw [hPLl]] at hPL hPLb ⊢
  have HPLL := Lib.hid hPLl
  have HGEN := Lib.hid hgen
  have HG6 := Lib.hid hget6
  have HPLB := Lib.hid hPLb
  clear b7 b8 hns hE5 hE6 hPLl hgen hget6 hPLb
  go_wp2_with fail
  generalize hW7 : w6.alloc _ = w7
  have hX7 : Ext w6 w7 := by rw [← hW7]; exact (Ext.refl w6).alloc _
  have d15 : BoxAt w7 w6.heap.size (pa3 ⟨#[109]⟩ 0 (.slice none 0 0)) 39 := by rw [← hW7]; exact BoxAt.made w6 _ _
  clear hW7
  go_loopw [16, 17] (fun all i wr => ∃ (k : Nat) (L : List Pa) (p : Dp) (D : List (ByteArray × Ro)) (pv : Value) (ps : List (Ro × Value)), k ≤ K ∧ i = .int .i64 k ∧ Ext w6 wr ∧ wr.ownsRow (w6.heap.size + 1) 39 3 all L.length (paCells L) ∧ (∀ q ∈ L, RowsT wr q.rv q.ps) ∧ Hid (L.map Pa.data = outP D) ∧ BoxAt wr w6.heap.size (pa3 ⟨#[109]⟩ p.1 pv) 39 ∧ RowsT wr pv ps ∧ Hid (ps.map (·.1) = p.2) ∧ Hid (Ch dV dNs ⟨#[109]⟩ p D) ∧ D.length ≤ 8 * k ∧ w6.heap.size + 1 ≤ wr.heap.size) (fun _ i _ => K - (intOf i).toNat)
  case atStart => exact ⟨0, [], (0, []), [], _, [], Nat.zero_le _, rfl, hX7, World.ownsRow_nil _ _ _ _, nofun, rfl, d15, RowsT.nil _, rfl, Ch.start, Nat.le_refl _, d15.lt⟩
  case round =>
    obtain ⟨k, L, p, D, pv, ps, hk, rfl, hE, hown, hLr, HL, hb, hr, HM, HC, hD, hsz⟩ := hrel
    clear d15 hX7
    by_cases hlt : k < K
    · have hki : decide ((k : Int) < (K : Int)) = true := by simpa using hlt
      have hkP : k < PL.length := by rw [HPLL.out]; exact hlt
      obtain ⟨g6, rfl, hat⟩ := HG6.out k hkP
      have hqr := hPL.rows _ (List.getElem_mem hkP)
      obtain ⟨hgk, hgg, hgr⟩ := HGEN.out _ (List.getElem_mem hkP)
      obtain ⟨Q, hQ⟩ : ∃ Q, Q = PL[k] := ⟨_, rfl⟩
      rw [← hQ] at hat hqr hgk hgg hgr
      obtain ⟨Qk, Qg, Qrv, Qps⟩ := Q
      simp only at hat hqr hgk hgg hgr
      subst hgk
      obtain ⟨aq, cq, rfl⟩ := hqr.shape
      obtain ⟨ql, hql⟩ : ∃ ql, ql = Qps.length := ⟨_, rfl⟩
      rw [← hql] at hqr hat
      obtain ⟨pg, P⟩ := p
      simp only at hb HM
      obtain ⟨ap, cp, rfl⟩ := hr.shape
      obtain ⟨np, hnp⟩ : ∃ np, np = ps.length := ⟨_, rfl⟩
      rw [← hnp] at hr hb
      obtain ⟨av, cv, rfl⟩ := own_shape hown
      have hnum := hgr.num
      obtain ⟨J, hJ⟩ : ∃ J, J = joinD (pg, P) (Qg, Qps.map (·.1)) := ⟨_, rfl⟩
      obtain ⟨hC2, hlen2⟩ := HC.out.step (q := (Qg, Qps.map (·.1))) hgg.1 hnum
      rw [← hJ] at hC2 hlen2
      have hs1 := NumRs.small (p := (pg, P)) HC.out.num HM.out
      have hs2 := NumRs.small (p := (Qg, Qps.map (·.1))) hnum rfl
      have hJf : foldG keyR foldRo (ps.map (·.1)) (Qps.map (·.1)) = J.2 := by
        rw [HM.out, hJ]
        exact fold_merge HC.out.num.good hnum.good
      have hJ1 : max pg Qg = J.1 := by rw [hJ]; rfl
      have hJl : J.2.length ≤ 4 := hC2.num.len
      have HJF := Lib.hid hJf
      have HJ1 := Lib.hid hJ1
      have HC2 := Lib.hid hC2
      have HS1 := Lib.hid hs1
      have HS2 := Lib.hid hs2
      have HQL := Lib.hid hql
      have HNP := Lib.hid hnp
      have HJ := Lib.hid hJ
      have hle := hE.le
      have hltb := hb.lt
      have howl : ∀ q, (Value.slice av L.length cv).ownBlock = some q → w6.heap.size + 1 ≤ q ∧ q < wr.heap.size := hown.lt
      clear hQ hql hnp hnum hgg hgr hJ hC2 hs1 hs2 hJf hJ1
      go_wp2_with fail
      refine wp_region_relE (MJ w6 w6.heap.size wr.heap.size (pa3 ⟨#[109]⟩ pg (.slice ap np cp)) (.slice ap np cp) ps (.slice av L.length cv) L) (SE wr.heap.size 10) (TabP.at [(0, fun _ v _ => v = .agg #[.string ⟨#[109]⟩, .int .i64 pg, .slice ap np cp]), (4, fun _ v _ => v = .agg #[.string ⟨#[109]⟩, .int .i64 Qg, .slice aq ql cq]), (5, fun _ v y => ∃ v', v = .tuple #[.agg #[.string ⟨#[109]⟩, .int .i64 J.1, v'], .bool true] ∧ ∃ l, RowsT y v' l ∧ l.map (·.1) = J.2), (9, fun _ v y => ∃ b, v = .pointer (some ⟨b, 0, none⟩) ∧ wr.heap.size ≤ b ∧ ∃ Z, BoxAt y b Z 39 ∧ Z.size = 3), (10, fun L _ y => ∃ b Z, L = [.pointer (some ⟨b, 0, none⟩), .agg Z] ∧ BoxAt y b Z 39)])
        (TabP.staysE ⟨fun _ _ _ _ _ _ _ h => h, fun _ _ _ _ _ _ _ h => h, fun _ _ _ _ _ _ hR ⟨v', e, l, hr, hm⟩ => ⟨v', e, l, SE_rows hR hr, hm⟩, fun _ _ _ _ _ _ hR ⟨b, e, hb, hz⟩ => ⟨b, e, hb, SE_part hR hz⟩, fun _ _ hj _ _ _ hR ⟨b, Z, e, hb⟩ => ⟨b, Z, e, hb.ext (SE_off hj hR)⟩, trivial⟩)
        12 (by kernel_rfl) (by kernel_rfl) (by kernel_rfl) ((⟨hE, hb, hr, hown, hLr, Nat.le_refl _⟩ : MJ w6 w6.heap.size wr.heap.size (pa3 ⟨#[109]⟩ pg (.slice ap np cp)) (.slice ap np cp) ps (.slice av L.length cv) L wr).ext' (Ext.refl wr).drew) ?_
      clear hE hb hr hown hLr
      refine relE_val [] rfl rfl rfl (by kernel_rfl) (fun y hy hf => ?_) ?_
      · have x := hy.base.pa
        go_simp
        exact ⟨hy, SE_ext (by decide) (Ext.refl y), rfl⟩
      simp only [Act.put, List.setIfInBounds_toArray, List.set_cons_zero, List.set_cons_succ]
      refine relE_quiet rfl rfl rfl rfl ?_; intro K hK; go_big_quiet_op; (first | refine ⟨_, fun _ _ => rfl, hK _ ?_⟩ | refine hK _ ?_); clear hK K
      refine relE_quiet rfl rfl rfl rfl ?_; intro K hK; go_big_quiet_op; (first | refine ⟨_, fun _ _ => rfl, hK _ ?_⟩ | refine hK _ ?_); clear hK K
      refine relE_quiet rfl rfl rfl rfl ?_; intro K hK; go_big_quiet_op; (first | refine ⟨_, fun _ _ => rfl, hK _ ?_⟩ | refine hK _ ?_); clear hK K
      refine relE_val [] rfl rfl rfl (by kernel_rfl) (fun y hy hf => ?_) ?_
      · obtain ⟨x0, x1, x2⟩ := hat.ext hy.ext
        simp only at x0 x1 x2
        go_simp
        exact ⟨hy, SE_ext (by decide) (Ext.refl y), rfl⟩
      simp only [Act.put, List.setIfInBounds_toArray, List.set_cons_zero, List.set_cons_succ]
      refine relE_fact [] rfl rfl rfl (by kernel_rfl) (fun y hy hf => ?_) (fun v5 z5 hC5 hG5 h5 => ?_)
      · go_simp
        refine (join8_any ⟨#[109]⟩ ⟨#[109]⟩ pg Qg _ _ ps Qps y hy.rows.rows (hqr.ext hy.ext).rows (by have := HS1.out.1; omega) (by have := HS2.out.1; omega) (fun p hp => by have := HS1.out.2.1 p hp; omega) (fun p hp => by have := HS2.out.2.1 p hp; omega)).mono ?_
        rw [HJF.out, HJ1.out]
        rintro e y' ⟨hE', ⟨_, v', rfl, l, hr, hm⟩ | ⟨hbad, _⟩⟩
        · exact ⟨_, rfl, hy.ext' hE', SE_ext (by decide) hE', v', rfl, l, hr, hm⟩
        · omega
      obtain ⟨v5, rfl, l5, h5, _⟩ := h5
      obtain ⟨a5, c5, rfl⟩ := h5.shape
      clear hC5 hG5 h5
      simp only [Act.put, List.setIfInBounds_toArray, List.set_cons_zero, List.set_cons_succ]
      refine relE_quiet rfl rfl rfl rfl ?_; intro K hK; go_big_quiet_op; (first | refine ⟨_, fun _ _ => rfl, hK _ ?_⟩ | refine hK _ ?_); clear hK K
      refine relE_quiet rfl rfl rfl rfl ?_; intro K hK; go_big_quiet_op; (first | refine ⟨_, fun _ _ => rfl, hK _ ?_⟩ | refine hK _ ?_); clear hK K
      refine relE_quiet rfl rfl rfl rfl ?_; intro K hK; go_big_quiet_op; (first | refine ⟨_, fun _ _ => rfl, hK _ ?_⟩ | refine hK _ ?_); clear hK K
      refine relE_fact [] rfl rfl rfl (by kernel_rfl) (fun y hy hf => ?_) (fun v9 z9 hC9 hG9 h9 => ?_)
      · go_simp
        exact ⟨hy.ext' ((Ext.refl y).alloc _), SE_ext (by decide) ((Ext.refl y).alloc _), _, rfl, hy.size, _, BoxAt.made y _ _, rfl⟩
      obtain ⟨b12, rfl, hb12, _⟩ := h9
      clear hC9 hG9
      simp only [Act.put, List.setIfInBounds_toArray, List.set_cons_zero, List.set_cons_succ]
      refine relE_factP [9] rfl rfl rfl (by kernel_rfl) (fun y hy hf => ?_) (fun v9 z9 hC9 hG9 h9 => ?_)
      · obtain ⟨b, e, hb, Z, hbox, hZ⟩ := (hf 9 (by simp)).2 rfl
        cases e
        refine yields_storeBox 39 (.tmp 18) (.tmp 51) rfl b12 #[.string ⟨#[109]⟩, .int .i64 J.1, .slice a5 l5.length c5] Z _ rfl rfl hbox (by kernel_rfl) hZ (by simp [Value.oneCell']) ?_
        intro y' hb' hg'
        have hR : SE wr.heap.size 10 10 y y' := SE_at hb hbox hb' rfl hg'
        exact ⟨⟨SE_to hle hR hy.ext, SE_old hR hltb hy.base, SE_rows hR hy.rows, hy.own.kept hg' (.inr fun e => by have := (howl b12 e).2; omega), fun q hq => SE_rows hR (hy.all q hq), Nat.le_trans hy.size (SE_size hR)⟩, hR, b12, _, rfl, hb'⟩
      clear h9 hC9 hG9
      simp only [Act.put]
      refine relE_quiet rfl rfl rfl rfl ?_; intro K hK; go_big_quiet_op; (first | refine ⟨_, fun _ _ => rfl, hK _ ?_⟩ | refine hK _ ?_); clear hK K
      refine relE_nil fun w9 hC hG9 => ?_
      obtain ⟨v5, e5, k5, hr9, hm9⟩ := (hG9 5).1.1.2 rfl
      obtain ⟨b13, Z13, e13, hbox9⟩ := (hG9 10).2 rfl
      have e13' : [Value.pointer (some ⟨b12, 0, none⟩), Value.agg #[.string ⟨#[109]⟩, .int .i64 J.1, .slice a5 l5.length c5]] = [.pointer (some ⟨b13, 0, none⟩), .agg Z13] := e13
      cases e13'
      cases e5
      obtain ⟨hE9, hb9, hrb9, hown9, hL9, hsz9⟩ := hC
      have f12 : BoxAt w9 b12 (pa3 ⟨#[109]⟩ J.1 (.slice a5 l5.length c5)) 39 := hbox9
      obtain ⟨n5, hn5⟩ : ∃ n, n = l5.length := ⟨_, rfl⟩
      rw [← hn5] at f12 hr9 ⊢
      have hJ2 : k5.map (·.1) = J.2 := hm9
      have HJ2 := Lib.hid hJ2
      have hs5 := NumRs.small (p := J) HC2.out.num hJ2
      have HS5 := Lib.hid hs5
      clear hG9 e13 hbox9 hm9 hn5 hJ2 hs5
      have yt : ∀ i, w9.cell? ⟨bt, i, none⟩ = TB[i]? := fun i => (d7.ext hE9).cell i
      have yv : ∀ i, w9.cell? ⟨bv, i, none⟩ = (vw5 dV (.slice (some ⟨bu, 0, none⟩) 2 2))[i]? := fun i => (d8.ext hE9).cell i
      have yp : ∀ i, w9.cell? ⟨w6.heap.size, i, none⟩ = (pa3 ⟨#[109]⟩ pg (.slice ap np cp))[i]? := fun i => hb9.cell i
      have yq : ∀ i, w9.cell? ⟨b12, i, none⟩ = (pa3 ⟨#[109]⟩ J.1 (.slice a5 n5 c5))[i]? := fun i => f12.cell i
      rw [HTB.out] at yt
      have hns9 := hns6.ext hE9
      go_wp2_with fail
      refine (deltaOf_any (.slice (some ⟨bs, 0, none⟩) 4 4) dV (.slice (some ⟨bu, 0, none⟩) 2 2) dNs ⟨#[109]⟩ pg _ ps ⟨#[109]⟩ J.1 _ k5 w9 hrb9.rows hr9.rows hns9 (fun p hp => by have := HS1.out.2.1 p hp; omega) (fun p hp => by have := HS5.out.2.1 p hp; omega) (by have := HS5.out.1; omega) (by decide) (by decide) (fun p hp => ⟨(HS5.out.2.2 p hp).1, (HS5.out.2.2 p hp).2, (HS5.out.2.2 p hp).2⟩)).mono ?_
      rintro e w10 ⟨v10, rfl, L10, hown10, hrs10, hdata10, hE10⟩
      have hpt10 : PartsT w10 v10 L10 := ⟨TIn.own hown10, hrs10⟩
      obtain ⟨S10, hS10⟩ : ∃ S, S = stepL dV dNs ⟨#[109]⟩ (pg, P) J := ⟨_, rfl⟩
      have hd10 : L10.map Pa.data = outP S10 := by rw [hS10]; rw [HM.out, HJ2.out] at hdata10; exact hdata10
      rw [← hS10] at hlen2
      have hDS : (D ++ S10).length ≤ 8 * (k + 1) := by rw [List.length_append]; omega
      have hbd : L.length + L10.length ≤ 1000 := by
        have h1 : L10.length = S10.length := (outP_at hd10).1
        have h2 : L.length = D.length := (outP_at HL.out).1
        omega
      have HC3 : Hid (Ch dV dNs ⟨#[109]⟩ J (D ++ S10)) := by rw [hS10]; exact HC2
      have HD10 := Lib.hid hd10
      have hownA := ownsRow_ext hown9 hE10
      have hb10 := hb9.ext hE10
      have f10 := f12.ext hE10
      have hr10 := hr9.ext hE10
      have hLA : ∀ q ∈ L, RowsT w10 q.rv q.ps := fun q hq => (hL9 q hq).ext hE10
      have hE610 := hE9.trans hE10
      have hB10 : w6.heap.size + 1 ≤ w10.heap.size := by have := hE10.le; omega
      have HLA := Lib.hid hLA
      have HRS := Lib.hid hrs10
      have HOWL := Lib.hid howl
      clear hown10 hrs10 hdata10 hd10 hown9 hb9 f12 hr9 hL9 hE9 hE10 hns9 yt yv yp yq hS10 hLA howl hrb9 hat hqr
      have hgrA : ∀ (w20 : World) (b : Nat) (Z : Array Value), w10.grownBy w20 (Value.slice av L.length cv).ownBlock → b = w6.heap.size ∨ b = b12 → BoxAt w10 b Z 39 → BoxAt w20 b Z 39 := fun w20 b Z hg h hb => hb.grown hg (fun e => by
        have := HOWL.out _ e.symm
        rcases h with rfl | rfl <;> omega)
      have HGRA := Lib.hid hgrA
      clear hgrA
      go_wp2_with (first
        | (at_builtin; go_must (refine appParts w10 rfl (.tmp 55) (.tmp 60) rfl (w6.heap.size + 1) hB10 (.slice av L.length cv) L hownA rfl v10 L10 hpt10 rfl (by omega) ?_); intro v20 w20 hown20 hg20; have hb20 := HGRA.out _ _ _ hg20 (.inl rfl) hb10; have f20 := HGRA.out _ _ _ hg20 (.inr rfl) f10; obtain ⟨x0, x1, x2⟩ := f20.pa)
        | (((guard_target =~ wpList _ _ _ (Oper.mk none (Op.store _ (Operand.tmp 15) (Operand.tmp 62)) _ _ _ _ :: _) _ _); go_must (refine storeBox rfl 39 (.tmp 15) (.tmp 62) rfl (w6.heap.size) _ _ _ (by rfl) (by rfl) (hb20) (by kernel_rfl) (by rfl) (by simp [Value.oneCell']) ?_); intro w21 c21 g21)))
      go_roundw
      case rel =>
        refine ⟨k + 1, L ++ L10, J, D ++ S10, _, k5, by omega, by go_num, ((hE610.grown hg20 (fun q hq => by have := (HOWL.out q hq).1; omega)).grown g21 (fun q hq => by cases hq; exact Nat.le_refl _)), hown20.kept g21 (.inr fun e => by have := (hown20.lt _ e).1; omega), fun q hq => ?_, ?_, c21, ?_, HJ2.out, HC3.out, ?_, ?_⟩
        · rcases List.mem_append.1 hq with hq | hq
          · exact ((HLA.out q hq).keepOwn hownA hg20 (by decide) (by decide)).keep g21 hb20 (by decide) (by decide)
          · exact ((HRS.out q hq).keepOwn hownA hg20 (by decide) (by decide)).keep g21 hb20 (by decide) (by decide)
        · show _ = _
          rw [List.map_append, HL.out, HD10.out, outP_app]
        · exact (hr10.keepOwn hownA hg20 (by decide) (by decide)).keep g21 hb20 (by decide) (by decide)
        · exact hDS
        · have := hg20.size
          have := g21.size
          omega
      case measure => simp [intOf]; omega
    · obtain rfl : k = K := by omega
      obtain ⟨av, cv, rfl⟩ := own_shape hown
      have hat1 := outP_at HL.out
      obtain ⟨n, hn⟩ : ∃ n, n = L.length := ⟨_, rfl⟩
      have hnD : n = D.length := hn.trans hat1.1
      have hn56 : n ≤ 56 := by omega
      have hall : PartsT wr (.slice av L.length cv) L := ⟨TIn.own hown, hLr⟩
      rw [← hn] at hall ⊢
      have hget : ∀ j, j < n → ∃ g d aq ql cq Qps, At19 wr av D j g d aq ql cq Qps := fun j hj => by
        obtain ⟨aa, ca, ea, _, _, hgA⟩ := hall.get
        injection ea with ea1 ea2 ea3
        subst ea1 ea3
        have h1 : j < L.length := by rw [← hn]; exact hj
        have h2 : j < D.length := by rw [← hnD]; exact hj
        obtain ⟨g, e, hat⟩ := hgA j h1
        obtain ⟨k1, k2, k3⟩ := hat1.2 j h1 h2
        have hqr := hall.rows _ (List.getElem_mem h1)
        obtain ⟨Q, hQ⟩ : ∃ Q, Q = L[j] := ⟨_, rfl⟩
        rw [← hQ] at hat k1 k2 k3 hqr
        obtain ⟨Qk, Qg, Qrv, Qps⟩ := Q
        simp only at hat k1 k2 k3 hqr
        obtain ⟨aq, cq, rfl⟩ := hqr.shape
        refine ⟨g, D[j], aq, Qps.length, cq, Qps, e, List.getElem?_eq_getElem h2, List.getElem_mem h2, ?_, hqr, k3⟩
        rw [← k1, ← k2]
        exact hat
      have HGET := Lib.hid hget
      obtain ⟨aa, ca, ea, hca, hcam, hgA⟩ := hall.get
      injection ea with ea1 ea2 ea3
      subst ea1 ea3
      have HGA := Lib.hid hgA
      have HND := Lib.hid hnD
      have HNL := Lib.hid hn
      have HAT := Lib.hid hat1.2
      obtain ⟨pg, P⟩ := p
      simp only at hb HM
      obtain ⟨ap, cp, rfl⟩ := hr.shape
      clear hget hgA hnD hn hat1 hown hLr hsz hD ea2 HL
      go_wp2_with fail
      refine (place_any by_ ((n : Int) + 1) (by omega) (by omega) wr).mono ?_
      obtain ⟨C, hC⟩ : ∃ C : Nat, by_ % ((n : Int) + 1) = (C : Int) := ⟨(by_ % ((n : Int) + 1)).toNat, by have := Int.emod_nonneg by_ (show ((n : Int) + 1) ≠ 0 by omega); omega⟩
      have hCn : C ≤ n := by have := Int.emod_lt_of_pos by_ (show 0 < ((n : Int) + 1) by omega); omega
      rw [hC]
      rintro e wA ⟨rfl, rfl⟩
      clear hC
      obtain ⟨wA, rfl⟩ : ∃ w', w' = wr := ⟨_, rfl⟩
      go_wp2_with fail
      go_loopw [20, 21, 23] (fun vv ok i wr => ∃ (k : Nat) (V : List Pa) (PP : List (ByteArray × Ro)), k ≤ n ∧ i = .int .i64 k ∧ ok = .bool true ∧ Ext wA wr ∧ wr.ownsRow wA.heap.size 39 3 vv V.length (paCells V) ∧ (∀ q ∈ V, RowsT wr q.rv q.ps) ∧ (∀ q ∈ V, q.gone = 0) ∧ Hid (VInv D PP (viL V)) ∧ Hid (∀ e ∈ PP, e ∈ D) ∧ V.length ≤ 2 * k ∧ Hid (∀ (i : Nat) (d : ByteArray × Ro), i < k → (D[(i * 7 + C) % n]? = some d → d ∈ PP) ∧ (n % 7 = 0 → D[(i + C) % n]? = some d → d ∈ PP))) (fun _ _ i _ => n - (intOf i).toNat)
      case atStart => exact ⟨0, [], [], Nat.zero_le _, rfl, rfl, Ext.refl wA, World.ownsRow_nil _ _ _ _, nofun, nofun, VInv.start D, nofun, Nat.le_refl _, fun i d h => absurd h (Nat.not_lt_zero _)⟩
      case round =>
        obtain ⟨k, V, PP, hkn, rfl, rfl, hEV, hown, hVr, hVg, HV, HPP, hVl, HCOV⟩ := hrel
        by_cases hlt : k < n
        · have hki : decide ((k : Int) < (n : Int)) = true := by simpa using hlt
          have HVR := Lib.hid hVr
          have HVG := Lib.hid hVg
          obtain ⟨j, hjN⟩ : ∃ j, j = (k * 7 + C) % n := ⟨_, rfl⟩
          have hj : ((k : Int) * 7 + (C : Int)) % (n : Int) = (j : Int) := by rw [hjN]; push_cast; rfl
          have hjn : j < n := by rw [hjN]; exact Nat.mod_lt _ (by omega)
          have hji : decide ((j : Int) < (n : Int)) = true := by simpa using hjn
          have HJN := Lib.hid hjN
          obtain ⟨g, d, aq, ql, cq, Qps, HA⟩ := HGET.out j hjn
          obtain ⟨da, ds⟩ := d
          obtain ⟨y0, y1, y2⟩ := HA.at_.ext hEV
          simp only at y0 y1 y2
          obtain ⟨av', cv', rfl⟩ := own_shape hown
          have hav := HA.ha
          subst hav
          have HA' := Lib.hid HA
          obtain ⟨p2, p3, p4⟩ := ch_ask HC.out HV.out
          have hdu := HC.out.up _ HA.mem
          have hP2 := Lib.hid p2
          have hP3 := Lib.hid p3
          have hP4 := Lib.hid p4
          have HDU := Lib.hid hdu
          clear hVr hVg hjN HA p2 p3 p4 hdu
          go_wp2_with fail
          refine (put19_any wA.heap.size _ V da _ Qps ds wr hEV.le hown HVR.out HVG.out (HA'.out.rows.ext hEV).rows HA'.out.map (by omega) hP2.out HDU.out.1 hP3.out (by have := HDU.out.2; omega) hP4.out).mono ?_
          rintro e w9 ⟨v9, V9, rfl, hown9, hr9, hg9, hv9, hgr9, _⟩
          have hE9 : Ext wA w9 := hEV.grown hgr9 (fun q hq => (hown.lt q hq).1)
          obtain ⟨q1, q2, q3⟩ := HC.out.put HPP.out HV.out HA'.out.mem
          rw [← hv9] at q1 q3
          have hV9l : V9.length ≤ V.length + 1 := by simpa [viL] using q3
          have HV9 := Lib.hid q1
          have HP9 := Lib.hid q2
          obtain ⟨a9, c9, rfl⟩ := own_shape hown9
          have hc1 : ∀ e, D[(k * 7 + C) % n]? = some e → e = (da, ds) := fun e h => by
            rw [← HJN.out, HA'.out.hd] at h
            exact (Option.some.inj h).symm
          have HC1 := Lib.hid hc1
          have HR9 := Lib.hid hr9
          have HG9 := Lib.hid hg9
          clear q1 q2 q3 hv9 hgr9 y0 y1 y2 hown hj hji hc1 hr9 hg9
          by_cases h7 : n % 7 = 0
          · have h7i : (n : Int) % 7 = 0 := by omega
            obtain ⟨j2, hjN2⟩ : ∃ j, j = (k + C) % n := ⟨_, rfl⟩
            have hj2 : ((k : Int) + (C : Int)) % (n : Int) = (j2 : Int) := by rw [hjN2]; push_cast; rfl
            have hjn2 : j2 < n := by rw [hjN2]; exact Nat.mod_lt _ (by omega)
            have hji2 : decide ((j2 : Int) < (n : Int)) = true := by simpa using hjn2
            have HJN2 := Lib.hid hjN2
            obtain ⟨g2, d2, aq2, ql2, cq2, Qps2, HA2⟩ := HGET.out j2 hjn2
            obtain ⟨da2, ds2⟩ := d2
            obtain rfl : g = g2 := by have := HA2.ha; simpa using this
            obtain ⟨y0, y1, y2⟩ := HA2.at_.ext hE9
            simp only at y0 y1 y2
            have HA2' := Lib.hid HA2
            obtain ⟨p2, p3, p4⟩ := ch_ask HC.out HV9.out
            have hdu := HC.out.up _ HA2.mem
            have hP2' := Lib.hid p2
            have hP3' := Lib.hid p3
            have hP4' := Lib.hid p4
            have HDU2 := Lib.hid hdu
            clear hjN2 HA2 p2 p3 p4 hdu
            go_wp2_with fail
            refine (put19_any wA.heap.size _ V9 da2 _ Qps2 ds2 w9 hE9.le hown9 HR9.out HG9.out (HA2'.out.rows.ext hE9).rows HA2'.out.map (by omega) hP2'.out HDU2.out.1 hP3'.out (by have := HDU2.out.2; omega) hP4'.out).mono ?_
            rintro e w11 ⟨v11, V11, rfl, hown11, hr11, hg11, hv11, hgr11, _⟩
            have hE11 : Ext wA w11 := hE9.grown hgr11 (fun q hq => (hown9.lt q hq).1)
            obtain ⟨q1, q2, q3⟩ := HC.out.put HP9.out HV9.out HA2'.out.mem
            rw [← hv11] at q1 q3
            have hV11l : V11.length ≤ V9.length + 1 := by simpa [viL] using q3
            have HV11 := Lib.hid q1
            have HP11 := Lib.hid q2
            have HR11 := Lib.hid hr11
            have HG11 := Lib.hid hg11
            have hc2 : ∀ e, D[(k + C) % n]? = some e → e = (da2, ds2) := fun e h => by
              rw [← HJN2.out, HA2'.out.hd] at h
              exact (Option.some.inj h).symm
            have HC2 := Lib.hid hc2
            obtain ⟨a11, c11, rfl⟩ := own_shape hown11
            clear q1 q2 q3 hv11 hgr11 y0 y1 y2 hj2 hji2 hr11 hg11 hc2 hown9
            go_wp2_with fail
            go_roundw
            case rel =>
              refine ⟨k + 1, V11, (PP ++ [(da, ds)]) ++ [(da2, ds2)], by omega, by go_num, rfl, hE11, hown11, HR11.out, HG11.out, HV11.out, HP11.out, by omega, fun i e hi => ?_⟩
              by_cases hik : i < k
              · obtain ⟨c1, c2⟩ := HCOV.out i e hik
                exact ⟨fun h => List.mem_append_left _ (List.mem_append_left _ (c1 h)), fun h0 h => List.mem_append_left _ (List.mem_append_left _ (c2 h0 h))⟩
              · obtain rfl : i = k := by omega
                exact ⟨fun h => by rw [HC1.out e h]; exact List.mem_append_left _ (List.mem_append_right _ (List.mem_singleton_self _)), fun _ h => by rw [HC2.out e h]; exact List.mem_append_right _ (List.mem_singleton_self _)⟩
            case measure => simp [intOf]; omega
          · have h7i : ¬ (n : Int) % 7 = 0 := by omega
            have h7d : decide ((n : Int) % 7 = 0) = false := by simpa using h7i
            go_wp2_with fail
            go_roundw
            case rel =>
              refine ⟨k + 1, V9, PP ++ [(da, ds)], by omega, by go_num, rfl, hE9, hown9, HR9.out, HG9.out, HV9.out, HP9.out, by omega, fun i e hi => ?_⟩
              by_cases hik : i < k
              · obtain ⟨c1, c2⟩ := HCOV.out i e hik
                exact ⟨fun h => List.mem_append_left _ (c1 h), fun h0 => absurd h0 h7⟩
              · obtain rfl : i = k := by omega
                exact ⟨fun h => by rw [HC1.out e h]; exact List.mem_append_right _ (List.mem_singleton_self _), fun h0 => absurd h0 h7⟩
            case measure => simp [intOf]; omega
        · obtain rfl : n = k := by omega
          have hki : decide ((n : Int) < (n : Int)) = false := by simp
          have hcov : ∀ d ∈ D, d ∈ PP := fun d hd => by
            obtain ⟨j, hj, rfl⟩ := List.getElem_of_mem hd
            have hjn : j < n := by rw [HND.out]; exact hj
            have he : D[j]? = some D[j] := List.getElem?_eq_getElem hj
            by_cases h7 : n % 7 = 0
            · obtain ⟨i, hi, e⟩ := reach_off hjn hCn
              exact (HCOV.out i _ hi).2 h7 (by rw [e]; exact he)
            · obtain ⟨i, hi, e⟩ := reach_seven (by omega) h7 hjn hCn
              exact (HCOV.out i _ hi).1 (by rw [e]; exact he)
          have HCV := Lib.hid hcov
          clear hcov HCOV
          by_cases hn0 : 0 < n
          · have hni : decide ((0 : Int) < (n : Int)) = true := by simpa using hn0
            go_wp2_with fail
            refine (place_any twice (n : Int) (by omega) (by omega) wr).mono ?_
            obtain ⟨j, hj⟩ : ∃ j : Nat, twice % (n : Int) = (j : Int) := ⟨(twice % (n : Int)).toNat, by have := Int.emod_nonneg twice (show (n : Int) ≠ 0 by omega); omega⟩
            have hjn : j < n := by have := Int.emod_lt_of_pos twice (show 0 < (n : Int) by omega); omega
            have hji : decide ((j : Int) < (n : Int)) = true := by simpa using hjn
            rw [hj]
            rintro e w' ⟨rfl, rfl⟩
            have HVR := Lib.hid hVr
            have HVG := Lib.hid hVg
            obtain ⟨g, d, aq, ql, cq, Qps, HA⟩ := HGET.out j hjn
            obtain ⟨da, ds⟩ := d
            obtain ⟨y0, y1, y2⟩ := HA.at_.ext hEV
            simp only at y0 y1 y2
            obtain ⟨av', cv', rfl⟩ := own_shape hown
            have hav := HA.ha
            subst hav
            have HA' := Lib.hid HA
            obtain ⟨p2, p3, p4⟩ := ch_ask HC.out HV.out
            have hdu := HC.out.up _ HA.mem
            have hP2 := Lib.hid p2
            have hP3 := Lib.hid p3
            have hP4 := Lib.hid p4
            have HDU := Lib.hid hdu
            clear hVr hVg HA p2 p3 p4 hdu hj
            go_wp2_with fail
            refine (put19_any wA.heap.size _ V da _ Qps ds wr hEV.le hown HVR.out HVG.out (HA'.out.rows.ext hEV).rows HA'.out.map (by omega) hP2.out HDU.out.1 hP3.out (by have := HDU.out.2; omega) hP4.out).mono ?_
            rintro e w9 ⟨v9, V9, rfl, hown9, hr9, hg9, hv9, hgr9, _⟩
            have hE9 : Ext wA w9 := hEV.grown hgr9 (fun q hq => (hown.lt q hq).1)
            obtain ⟨q1, q2, q3⟩ := HC.out.put HPP.out HV.out HA'.out.mem
            rw [← hv9] at q1 q3
            have hV9l : V9.length ≤ V.length + 1 := by simpa [viL] using q3
            have HV9 := Lib.hid q1
            clear q1 q2 q3 hv9 hgr9 y0 y1 y2 hown hji
            go_wp2_with fail
            refine (place_any now 14 (by decide) (by decide) w9).mono ?_
            obtain ⟨T, hT⟩ : ∃ T : Int, T = now % 14 := ⟨_, rfl⟩
            have hT0 : 0 ≤ T := by omega
            have hT14 : T < 14 := by omega
            rw [← hT]
            rintro e w' ⟨rfl, rfl⟩
            have hZ := hE.trans hE9
            obtain ⟨av3, cv3, rfl⟩ := own_shape hown9
            have hptV : PartsT w9 _ V9 := ⟨TIn.own hown9, hr9⟩
            have hrZ := hr.ext hE9
            have hnsZ := hns6.ext hZ
            have e12 := d8.ext hZ
            have e15 := hb.ext hE9
            have hPTV := Lib.hid hptV
            have HGZ := Lib.hid hg9
            have yv : ∀ i, (w9).cell? ⟨bv, i, none⟩ = (vw5 dV (.slice (some ⟨bu, 0, none⟩) 2 2))[i]? := fun i => e12.cell i
            have yp : ∀ i, (w9).cell? ⟨w6.heap.size, i, none⟩ = (pa3 ⟨#[109]⟩ pg (.slice ap ps.length cp))[i]? := fun i => e15.cell i
            clear hT hptV hown9 hr9 hg9
            go_wp2_with fail
            refine (mir_end HC.out HV9.out (fun d hd => List.mem_append_left _ (HCV.out d hd)) hPTV.out (by omega) HGZ.out hrZ HM.out hnsZ T).mono ?_
            rintro e w13 ⟨rfl, hE13⟩
            have yv3 : ∀ i, w13.cell? ⟨bv, i, none⟩ = (vw5 dV (.slice (some ⟨bu, 0, none⟩) 2 2))[i]? := fun i => (e12.ext hE13).cell i
            have yp3 : ∀ i, w13.cell? ⟨w6.heap.size, i, none⟩ = (pa3 ⟨#[109]⟩ pg (.slice ap ps.length cp))[i]? := fun i => (e15.ext hE13).cell i
            clear yv yp
            go_wp2_with fail
            refine (mir_end HC.out HV9.out (fun d hd => List.mem_append_left _ (HCV.out d hd)) (hPTV.out.ext hE13) (by omega) HGZ.out (hrZ.ext hE13) HM.out (hnsZ.ext hE13) (T + 7)).mono ?_
            rintro e w14 ⟨rfl, hE14⟩
            go_wp2_with fail
            refine (awake19_any w14).mono ?_
            rintro e w15 ⟨rfl, hE15⟩
            go_wp2_with fail
            go_ret
            exact ⟨rfl, (((hE06.trans hZ).trans hE13).trans hE14).trans hE15⟩
          · have hni : decide ((0 : Int) < (n : Int)) = false := by simpa using hn0
            go_wp2_with fail
            refine (place_any now 14 (by decide) (by decide) wr).mono ?_
            obtain ⟨T, hT⟩ : ∃ T : Int, T = now % 14 := ⟨_, rfl⟩
            have hT0 : 0 ≤ T := by omega
            have hT14 : T < 14 := by omega
            rw [← hT]
            rintro e w' ⟨rfl, rfl⟩
            have hZ := hE.trans hEV
            obtain ⟨av3, cv3, rfl⟩ := own_shape hown
            have hptV : PartsT wr _ V := ⟨TIn.own hown, hVr⟩
            have hrZ := hr.ext hEV
            have hnsZ := hns6.ext hZ
            have e12 := d8.ext hZ
            have e15 := hb.ext hEV
            have hPTV := Lib.hid hptV
            have HGZ := Lib.hid hVg
            have yv : ∀ i, (wr).cell? ⟨bv, i, none⟩ = (vw5 dV (.slice (some ⟨bu, 0, none⟩) 2 2))[i]? := fun i => e12.cell i
            have yp : ∀ i, (wr).cell? ⟨w6.heap.size, i, none⟩ = (pa3 ⟨#[109]⟩ pg (.slice ap ps.length cp))[i]? := fun i => e15.cell i
            clear hT hptV hown hVr hVg
            go_wp2_with fail
            refine (mir_end HC.out HV.out HCV.out hPTV.out (by omega) HGZ.out hrZ HM.out hnsZ T).mono ?_
            rintro e w13 ⟨rfl, hE13⟩
            have yv3 : ∀ i, w13.cell? ⟨bv, i, none⟩ = (vw5 dV (.slice (some ⟨bu, 0, none⟩) 2 2))[i]? := fun i => (e12.ext hE13).cell i
            have yp3 : ∀ i, w13.cell? ⟨w6.heap.size, i, none⟩ = (pa3 ⟨#[109]⟩ pg (.slice ap ps.length cp))[i]? := fun i => (e15.ext hE13).cell i
            clear yv yp
            go_wp2_with fail
            refine (mir_end HC.out HV.out HCV.out (hPTV.out.ext hE13) (by omega) HGZ.out (hrZ.ext hE13) HM.out (hnsZ.ext hE13) (T + 7)).mono ?_
            rintro e w14 ⟨rfl, hE14⟩
            go_wp2_with fail
            refine (awake19_any w14).mono ?_
            rintro e w15 ⟨rfl, hE15⟩
            go_wp2_with fail
            go_ret
            exact ⟨rfl, (((hE06.trans hZ).trans hE13).trans hE14).trans hE15⟩
theorem law_deltaMirrors_long (v0 : Value) (z : List Int) (many by_ twice now : Int) (w : World) (hin : IntsIn w v0 .i64 z) (hz : 150 < z.length) :
    Calls Try.prog 3 #[v0, .int .i64 many, .int .i64 by_, .int .i64 twice, .int .i64 now] w fun e w' => e = .returned (.bool true) ∧ Ext w w' := by
  obtain ⟨a, c, rfl, hc, hcm, ha⟩ := hin.block
  have k1 : decide ((150 : Int) < (z.length : Int)) = true := by simp; omega
  go_enter Try.func3, Try.ntmps3
  go_wp2_with fail
  refine (awake19_any _).mono ?_
  rintro e w10 ⟨rfl, hE10⟩
  go_wp2_with fail
  go_ret
  exact ⟨rfl, hE10⟩
theorem walk_deltaMirrors (v : Value) (many by_ twice now : Int) (W : World) (w0 : ∃ l : List Int, IntsIn W v .i64 l ∧ ∀ n ∈ l, (Lit.int .i64 n).wf = true) (_ : (Lit.int .i64 many).wf = true) (_ : (Lit.int .i64 by_).wf = true) (_ : (Lit.int .i64 twice).wf = true) (_ : (Lit.int .i64 now).wf = true) :
    Calls Try.prog 3 #[v, .int .i64 many, .int .i64 by_, .int .i64 twice, .int .i64 now] W fun e w' => e = .returned (.bool true) ∧ Ext W w' := by
  obtain ⟨z, hin, _⟩ := w0
  by_cases hz : z.length ≤ 150
  · exact law_deltaMirrors v z many by_ twice now W hin hz
  · exact law_deltaMirrors_long v z many by_ twice now W hin (by omega)
end Go.Proofs.Yteamiiekpjoclaa
