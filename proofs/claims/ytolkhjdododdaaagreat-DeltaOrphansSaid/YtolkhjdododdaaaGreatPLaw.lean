/- DeltaOrphans: what Orphan answers, joined to both sides, with all deltas, mirrors: the law's walk. -/
import Derived.Test.YtolkhjdododdaaaGreatP2
import Derived.Test.YtolkhjdododdaaaGreatP6
import Derived.Test.YtolkhjdododdaaaGreatP10
import Derived.Test.YtolkhjdododdaaaGreatP37
import Derived.Test.YtolkhjdododdaaaGreatP38
set_option linter.unusedSimpArgs false
set_option linter.unusedVariables false
namespace Go.Proofs.YtolkhjdododdaaaGreat
open Go Go.RowKit
attribute [local go_sem] yields yUpon ro8 pa3 vw5 tabV viewV

/-- Another base is laid. -/
theorem LS.rebase {w w0 y z : World} {bb bo bv : Nat} {pg g' : Int} {pv pv' : Value} {ps ps' : List (Ro × Value)} {vv : Value} {V : List Pa} (h : LS w w0 bb bo bv pg pv ps vv V y) (hg : y.grownBy z (some bb)) (hb : BoxAt z bb (pa3 ⟨#[109]⟩ g' pv') 39) (hr : RowsT z pv' ps') (hbw : w.heap.size ≤ bb) (hbb : bb < w0.heap.size) : LS w w0 bb bo bv g' pv' ps' vv V z := by
  have e1 := box_ne h.base h.ok (by decide)
  have e2 := box_ne h.base h.view (by decide)
  exact ⟨h.ext.grown hg (fun q hq => by cases hq; exact hbw), fun q cs T h1 h2 h3 h4 => (h.keep q cs T h1 h2 h3 h4).grown hg (fun e => h2 (Option.some.inj e)), hb, h.ok.grown hg (fun e => e1 (Option.some.inj e).symm), h.view.grown hg (fun e => e2 (Option.some.inj e).symm), h.own.kept hg (.inr fun e => by have := (h.own.lt _ e).1; omega), hr, fun q hq => (h.vrow q hq).keep hg h.base (by decide) (by decide), h.gone, Nat.le_trans h.size hg.size⟩
theorem PB.backBs {x : Vw} {ns : List ByteArray} {pk : ByteArray} {p : Dp} {a : ByteArray} {rs : List Ro} (h : PB x ns pk p a rs) : BsOk x (0, backRs x a 0 p.1 p.2 (cofK pk) rs) := by
  refine ⟨h.backOk, fun q hq => ?_, fun q hq c hc => ?_⟩
  · obtain ⟨r, hr, rfl⟩ := mem_back h hq
    rw [(known_parts (x := x) a r _ _ (h.ir r hr).gone).1, rowOf_is]
    exact (cofK_spec (h.ir r hr).key).2
  · obtain ⟨r, hr, rfl⟩ := mem_back h hq
    obtain ⟨c1, _, c3⟩ := known_cols (h.ir r hr) c hc
    exact ⟨c1, c3⟩
theorem PB.shadeFew {x : Vw} {ns : List ByteArray} {pk : ByteArray} {p : Dp} {a : ByteArray} {rs : List Ro} (h : PB x ns pk p a rs) : ∀ s ∈ shadeD x ns pk p a rs, s.cols.length ≤ 5 := fun s hs => by
  have hi := (h.shadeIr.2 s hs).1
  exact NmL.len (x := x) (fun c hc => (hi.cols c hc).1) hi.up
/-- What is seen of the view is what the base has. -/
theorem mir_st {p : Dp} {V : List Pa} {v pu : Value} {ps : List (Ro × Value)} {bu : Nat} {W : World} (hs : St dV dNs ⟨#[109]⟩ p (viL V)) (hf : Fine dV dNs ⟨#[109]⟩ p (viL V) fun _ => True) (hpt : PartsT W v V) (hg : ∀ q ∈ V, q.gone = 0)
    (hr : RowsT W pu ps) (hm : ps.map (·.1) = p.2) (hns : StrsIn W (.slice (some ⟨bu, 0, none⟩) 2 2) dNs) (t : Int) :
    Calls Tryz.prog 13 #[v, .agg #[.string dV.name, .int .i64 dV.id, .string dV.table, .string dV.on, .slice (some ⟨bu, 0, none⟩) 2 2], .agg #[.string ⟨#[109]⟩, .int .i64 p.1, pu], .int .i64 t] W fun e w' => e = .returned (.bool true) ∧ Ext W w' := by
  obtain ⟨s1, s2⟩ := hs.base.small
  rw [← hm] at s1 s2
  rw [List.length_map] at s1
  have s3 : ∀ r ∈ ps, r.1.key.size ≤ 10 ∧ (vkey ⟨#[109]⟩ r.1.key).size ≤ 400 := fun r hr' => by
    obtain ⟨i, hi, e⟩ := hs.base.keys r.1 (by rw [← hm]; exact List.mem_map_of_mem hr')
    rw [e]
    exact ik_small9 i hi
  obtain ⟨m1, m2⟩ := hs.seen (by decide) hf t
  have hvF : viewF dV dNs ⟨#[109]⟩ p.1 t (ps.map (·.1)) = viewRs dV dNs ⟨#[109]⟩ p.1 t p.2 := by
    rw [viewF_short fun r hr => ?_, hm]
    obtain ⟨q, hq, rfl⟩ := List.mem_map.1 hr
    exact (s3 q hq).2
  have hVl : V.length ≤ 4 := by have := hs.way.len; simpa [viL] using this
  refine mirrors19_any v V dV _ dNs ⟨#[109]⟩ p.1 pu ps t W hpt (by omega) hg (fun q hq => ?_) hr.rows (by omega) (fun r hr' => by have := s2 r.1 (List.mem_map_of_mem hr'); omega) (fun r hr' => distN_of_up (hs.base.ok.good.2 r.1 (by rw [← hm]; exact List.mem_map_of_mem hr'))) hns (by decide) (fun r hr' => by have := (s3 r hr').1; omega) (fun e he => by rw [hvF]; exact (m1 e).1 he) (by rw [hvF]; exact m2)
  obtain ⟨l1, l2⟩ := hs.view.rowsLen _ (viL_mem hq)
  refine ⟨by simp only [List.length_map] at l1; omega, fun r hr' => ⟨by have := l2 r.1 (List.mem_map_of_mem hr'); omega, distN_of_up ((hs.view.good _ (viL_mem hq)).2 r.1 (List.mem_map_of_mem hr'))⟩⟩
set_option maxRecDepth 100000 in
set_option maxHeartbeats 16000000 in
theorem law_deltaOrphans (v0 : Value) (z : List Int) (many lost now : Int) (w : World) (hin : IntsIn w v0 .i64 z) (hz : z.length ≤ 150) :
    Calls Tryz.prog 3 #[v0, .int .i64 many, .int .i64 lost, .int .i64 now] w fun e w' => e = .returned (.bool true) ∧ Ext w w' := by
  obtain ⟨a, c, rfl, hc, hcm, ha⟩ := hin.block
  have t0 : decide ((150 : Int) < (z.length : Int)) = false := by simp; omega
  go_enter Tryz.func3, Tryz.ntmps3
  go_wp2_with fail
  refine (view_any w).mono ?_
  rintro e w3 ⟨bs, bu, rfl, hns, hE3⟩
  go_wp2_with (first
    | (((guard_target =~ wpList _ _ _ (Oper.mk none (Op.store _ (Operand.tmp 9) (Operand.tmp 31)) _ _ _ _ :: _) _ _); go_must (refine storeBox rfl 28 (.tmp 9) (.tmp 31) rfl (w3.heap.size) _ _ _ (by rfl) (by rfl) (((BoxAt.made w3 #[.string ⟨#[]⟩, .int .i64 0, .string ⟨#[]⟩, .int .i64 0, .string ⟨#[]⟩, .int .i64 0, .slice none 0 0] 28).ext ((Ext.refl _).alloc _))) (by kernel_rfl) (by rfl) (by simp [Value.oneCell']) ?_); intro w4 c4 g4); have hX4 : Ext w3 w4 := (((Ext.refl w3).alloc _).alloc _).grown g4 (fun q hq => by cases hq; omega); have hv4 := (BoxAt.madeN #[.string ⟨#[]⟩, .int .i64 0, .string ⟨#[]⟩, .string ⟨#[]⟩, .slice none 0 0] 31 (show (w3.alloc (.cells #[.string ⟨#[]⟩, .int .i64 0, .string ⟨#[]⟩, .int .i64 0, .string ⟨#[]⟩, .int .i64 0, .slice none 0 0] 28)).heap.size = w3.heap.size + 1 by simp)).grown g4 (fun e => by have := Option.some.inj e; omega))
    | (((guard_target =~ wpList _ _ _ (Oper.mk none (Op.store _ (Operand.tmp 10) (Operand.tmp 32)) _ _ _ _ :: _) _ _); go_must (refine storeBox rfl 31 (.tmp 10) (.tmp 32) rfl (w3.heap.size + 1) _ _ _ (by rfl) (by rfl) (hv4) (by kernel_rfl) (by rfl) (by simp [Value.oneCell']) ?_); intro w5 c5 g5); have hX5 : Ext w3 w5 := hX4.grown g5 (fun q hq => by cases hq; omega); have b7 : BoxAt w5 w3.heap.size #[.string ⟨#[116]⟩, .int .i64 1, .string ⟨#[112]⟩, .int .i64 1, .string ⟨#[107]⟩, .int .i64 2, .slice (some ⟨bs, 0, none⟩) 4 4] 28 := c4.grown g5 (fun e => by have := Option.some.inj e; omega); have b8 : BoxAt w5 (w3.heap.size + 1) (vw5 dV (.slice (some ⟨bu, 0, none⟩) 2 2)) 31 := c5))
  have hE5 : Ext w w5 := hE3.trans hX5
  obtain ⟨bt, hbt⟩ : ∃ b, b = w3.heap.size := ⟨_, rfl⟩
  obtain ⟨bv, hbv⟩ : ∃ b, b = w3.heap.size + 1 := ⟨_, rfl⟩
  rw [← hbv] at b8
  rw [← hbt] at b7
  rw [← hbv, ← hbt]
  replace hns := hns.ext hX5
  have hin5 := hin.ext hE5
  clear hbt hbv c4 g4 hX4 hv4 c5 g5 hX5 hE3 hin
  refine (place_any many 8 (by decide) (by decide) w5).mono ?_
  obtain ⟨K, hK⟩ : ∃ K : Nat, many % 8 = (K : Int) := ⟨(many % 8).toNat, by omega⟩
  have hK7 : K ≤ 7 := by omega
  rw [hK]
  rintro e w5' ⟨rfl, rfl⟩
  clear hK
  go_wp2_with fail
  refine (several_any _ z K (by omega) ⟨#[109]⟩ w5 hin5).mono ?_
  rintro e w6 ⟨v6, PL, rfl, hPLl, hPL, hgen, hE6⟩
  obtain ⟨a6, c6, rfl, hc6, hc6m, hget6⟩ := hPL.get
  rw [hPLl] at hc6
  have hPLb : ∀ q, (Value.slice a6 PL.length c6).ownBlock = some q → q < w6.heap.size := fun q hq => by
    rcases hPL.tin with ⟨e, _, _⟩ | ⟨b, c, Z, e, hb, _⟩
    · rw [e] at hq; cases hq
    · rw [e] at hq; cases hq; exact hb.lt
  obtain ⟨TB, hTB⟩ : ∃ T : Array Value, T = #[.string ⟨#[116]⟩, .int .i64 1, .string ⟨#[112]⟩, .int .i64 1, .string ⟨#[107]⟩, .int .i64 2, .slice (some ⟨bs, 0, none⟩) 4 4] := ⟨_, rfl⟩
  have HTB := Lib.hid hTB
  rw [← hTB] at b7
  clear hTB hin5
  have d7 := b7.ext hE6
  have d8 := b8.ext hE6
  have hns6 := hns.ext hE6
  have hE06 := hE5.trans hE6
  rw [show (Value.slice a6 PL.length c6) = .slice a6 K c6 from by rw [hPLl]] at hPL hPLb ⊢
  have HPLL := Lib.hid hPLl
  have HGEN := Lib.hid hgen
  have HG6 := Lib.hid hget6
  have HPLB := Lib.hid hPLb
  clear b7 b8 hns hE5 hE6 hPLl hgen hget6 hPLb
  obtain ⟨m0, m1, m2, hE0⟩ := boxes3 w6 #[.string ⟨#[109]⟩, .int .i64 0, .slice none 0 0] #[.bool true] #[.slice none 0 0] 39 4 35
  go_wp2_with fail
  generalize World.alloc (World.alloc (World.alloc w6 _) _) _ = w0 at m0 m1 m2 hE0 ⊢
  have hls : LS w6 w0 w6.heap.size (w6.heap.size + 1) (w6.heap.size + 1 + 1) 0 (.slice none 0 0) [] (.slice none 0 0) [] w0 := ⟨hE0, fun _ _ _ h _ _ _ => h, m0, m1, m2, World.ownsRow_nil _ _ _ _, RowsT.nil _, nofun, nofun, Nat.le_refl _⟩
  have t7 := d7.ext hE0
  have t8 := d8.ext hE0
  rw [HTB.out] at t7
  have HSTEP := Lib.hid (fun (p : Dp) (pv : Value) (ps : List (Ro × Value)) (vv : Value) (V : List Pa) (qg : Int) (au : Value) (qs : List (Ro × Value)) (y : World) h1 h2 h3 h3' h4 h5 => orphStep_any w6.heap.size (w6.heap.size + 1) (w6.heap.size + 1 + 1) bt bv bs bu p pv ps vv V qg au qs w6 w0 y h1 h2 h3 h3' h4 h5 hE0.le (by omega) (by omega) (by omega) m0 m1 m2 t7 t8 hns6)
  go_loopw [17] (fun i wr => ∃ (k : Nat) (p : Dp) (pv : Value) (ps : List (Ro × Value)) (vv : Value) (V : List Pa), k ≤ K ∧ i = .int .i64 k ∧ LS w6 w0 w6.heap.size (w6.heap.size + 1) (w6.heap.size + 1 + 1) p.1 pv ps vv V wr ∧ Hid (ps.map (·.1) = p.2) ∧ Hid (St dV dNs ⟨#[109]⟩ p (viL V))) (fun i _ => K - (intOf i).toNat)
  case atStart => exact ⟨0, (0, []), _, [], _, [], Nat.zero_le _, rfl, hls, rfl, St.start⟩
  case round =>
    obtain ⟨k, p, pv, ps, vv, V, hk, rfl, hL, HM, HS⟩ := hrel
    by_cases hlt : k < K
    · have hki : decide ((k : Int) < (K : Int)) = true := by simpa using hlt
      have hkP : k < PL.length := by rw [HPLL.out]; exact hlt
      obtain ⟨g6, rfl, hat⟩ := HG6.out k hkP
      have hqr := hPL.rows _ (List.getElem_mem hkP)
      obtain ⟨hgk, hgg, hgr⟩ := HGEN.out _ (List.getElem_mem hkP)
      obtain ⟨Q, hQ⟩ : ∃ Q, Q = PL[k] := ⟨_, rfl⟩
      rw [← hQ] at hat hqr hgk hgg hgr
      obtain ⟨Qk, Qg, Qrv, Qps⟩ := Q
      simp only at hat hqr hgk hgg hgr
      subst hgk
      have o0 : wr.cell? ⟨w6.heap.size + 1, 0, none⟩ = some (.bool true) := hL.ok.cell 0
      obtain ⟨x0, x1, x2⟩ := hat.ext hL.ext
      simp only at x0 x1 x2
      clear hQ
      go_wp2_with fail
      refine (HSTEP.out p pv ps vv V Qg Qrv Qps wr hL HM.out HS.out.base (HS.out.step (gen_bs hgg.1 hgr)).1 (hqr.ext hL.ext) (gen_bs hgg.1 hgr)).mono ?_
      rintro e w9 ⟨⟨zz, rfl⟩, pv', ps', vv', V', hL', hm', hv'⟩
      have hS' := (HS.out.step (gen_bs (x := dV) hgg.1 hgr)).2.1
      rw [← hv'] at hS'
      go_wp2_with fail
      go_roundw
      case rel => exact ⟨k + 1, _, pv', ps', vv', V', by omega, by go_num, hL', hm', hS'⟩
      case measure => simp [intOf]; omega
    · obtain rfl : K = k := by omega
      obtain ⟨p1, pv1, ps1, vv1, V1, hL1, HM1, HS1⟩ : ∃ p1 pv1 ps1 vv1 V1, LS w6 w0 w6.heap.size (w6.heap.size + 1) (w6.heap.size + 1 + 1) (Prod.fst (α := Int) (β := List Ro) p1) pv1 ps1 vv1 V1 wr ∧ Hid (ps1.map (·.1) = p1.2) ∧ Hid (St dV dNs ⟨#[109]⟩ p1 (viL V1)) := ⟨p, pv, ps, vv, V, hL, HM, HS⟩
      have o0 : wr.cell? ⟨w6.heap.size + 1, 0, none⟩ = some (.bool true) := hL.ok.cell 0
      have hst1 := HS1.out.lost
      have hltb := m0.lt
      go_wp2_with (((guard_target =~ wpList _ _ _ (Oper.mk none (Op.store _ (Operand.tmp 13) (Operand.tmp 54)) _ _ _ _ :: _) _ _); go_must (refine storeBox rfl 39 (.tmp 13) (.tmp 54) rfl (w6.heap.size) _ _ _ (by rfl) (by rfl) (hL1.base) (by kernel_rfl) (by rfl) (by simp [Value.oneCell']) ?_); intro wb cb gb))
      have hls2 : LS w6 w0 w6.heap.size (w6.heap.size + 1) (w6.heap.size + 1 + 1) 0 (.slice none 0 0) [] vv1 V1 wb := hL1.rebase gb cb (RowsT.nil _) (Nat.le_refl _) hltb
      refine (place_any lost ((K : Int) + 1) (by omega) (by omega) wb).mono ?_
      obtain ⟨Hf, hHf⟩ : ∃ C : Nat, lost % ((K : Int) + 1) = (C : Int) := ⟨(lost % ((K : Int) + 1)).toNat, by have := Int.emod_nonneg lost (show ((K : Int) + 1) ≠ 0 by omega); omega⟩
      have hHk : Hf ≤ K := by have := Int.emod_lt_of_pos lost (show 0 < ((K : Int) + 1) by omega); omega
      rw [hHf]
      rintro e wb' ⟨rfl, rfl⟩
      clear hHf hL hL1 cb gb o0 HM HS
      go_wp2_with fail
      go_loopw [19] (fun i wr => ∃ (k : Nat) (p : Dp) (pv : Value) (ps : List (Ro × Value)) (vv : Value) (V : List Pa), k ≤ Hf ∧ i = .int .i64 k ∧ LS w6 w0 w6.heap.size (w6.heap.size + 1) (w6.heap.size + 1 + 1) p.1 pv ps vv V wr ∧ Hid (ps.map (·.1) = p.2) ∧ Hid (St dV dNs ⟨#[109]⟩ p (viL V))) (fun i _ => Hf - (intOf i).toNat)
      case atStart => exact ⟨0, (0, []), _, [], _, V1, Nat.zero_le _, rfl, hls2, rfl, hst1⟩
      case round =>
        obtain ⟨k, p, pv, ps, vv, V, hk, rfl, hL, HM, HS⟩ := hrel
        by_cases hlt : k < Hf
        · have hki : decide ((k : Int) < (Hf : Int)) = true := by simpa using hlt
          have hkP : k < PL.length := by rw [HPLL.out]; omega
          obtain ⟨g6, rfl, hat⟩ := HG6.out k hkP
          have hqr := hPL.rows _ (List.getElem_mem hkP)
          obtain ⟨hgk, hgg, hgr⟩ := HGEN.out _ (List.getElem_mem hkP)
          obtain ⟨Q, hQ⟩ : ∃ Q, Q = PL[k] := ⟨_, rfl⟩
          rw [← hQ] at hat hqr hgk hgg hgr
          obtain ⟨Qk, Qg, Qrv, Qps⟩ := Q
          simp only at hat hqr hgk hgg hgr
          subst hgk
          have o0 : wr.cell? ⟨w6.heap.size + 1, 0, none⟩ = some (.bool true) := hL.ok.cell 0
          obtain ⟨x0, x1, x2⟩ := hat.ext hL.ext
          simp only at x0 x1 x2
          clear hQ
          go_wp2_with fail
          refine (HSTEP.out p pv ps vv V Qg Qrv Qps wr hL HM.out HS.out.base (HS.out.step (gen_bs hgg.1 hgr)).1 (hqr.ext hL.ext) (gen_bs hgg.1 hgr)).mono ?_
          rintro e w9 ⟨⟨zz, rfl⟩, pv', ps', vv', V', hL', hm', hv'⟩
          have hS' := (HS.out.step (gen_bs (x := dV) hgg.1 hgr)).2.1
          rw [← hv'] at hS'
          go_wp2_with fail
          go_roundw
          case rel => exact ⟨k + 1, _, pv', ps', vv', V', by omega, by go_num, hL', hm', hS'⟩
          case measure => simp [intOf]; omega
        · obtain rfl : Hf = k := by omega
          have hL2 := hL
          have hd0 := Done.zero (x := dV) (ns := dNs) (pk := ⟨#[109]⟩) p (viL V)
          have HS2 := HS
          have HM2 := HM
          have o0 : wr.cell? ⟨w6.heap.size + 1, 0, none⟩ = some (.bool true) := hL.ok.cell 0
          go_wp2_with fail
          clear hls2 hst1
          go_loopw [20] (fun i wr => ∃ (j : Nat) (p : Dp) (pv : Value) (ps : List (Ro × Value)) (vv : Value) (V : List Pa), j ≤ 4 ∧ i = .int .i64 j ∧ LS w6 w0 w6.heap.size (w6.heap.size + 1) (w6.heap.size + 1 + 1) p.1 pv ps vv V wr ∧ Hid (ps.map (·.1) = p.2) ∧ Hid (St dV dNs ⟨#[109]⟩ p (viL V)) ∧ Hid (Done dV dNs ⟨#[109]⟩ p (viL V) j)) (fun i _ => 4 - (intOf i).toNat)
          case atStart => exact ⟨0, p, _, ps, _, V, by omega, rfl, hL2, HM2.out, HS2.out, hd0⟩
          case round =>
            clear hL2 HM2 HS2 hd0 hL HM HS
            obtain ⟨j, p, pv, ps, vv, V, hj4, rfl, hL, HM, HS, HD⟩ := hrel
            obtain ⟨av, cv, rfl⟩ := own_shape hL.own
            have o0 : wr.cell? ⟨w6.heap.size + 1, 0, none⟩ = some (.bool true) := hL.ok.cell 0
            have v0 : wr.cell? ⟨w6.heap.size + 1 + 1, 0, none⟩ = some (.slice av V.length cv) := hL.view.cell 0
            have hV4 : V.length ≤ 4 := by have := HS.out.way.len; simpa [viL] using this
            obtain ⟨nV, hnV⟩ : ∃ n, n = V.length := ⟨_, rfl⟩
            by_cases hjV : j < V.length
            · have hji : decide ((j : Int) < (V.length : Int)) = true := by simpa using hjV
              have hpt : PartsT wr (.slice av V.length cv) V := ⟨TIn.own hL.own, hL.vrow⟩
              obtain ⟨aa, ca, ea, _, _, hgA⟩ := hpt.get
              injection ea with ea1 ea2 ea3
              subst ea1 ea3
              clear ea2
              obtain ⟨g, rfl, hat⟩ := hgA j hjV
              have hVj : j < (viL V).length := by simpa [viL] using hjV
              have hgn := hL.gone _ (List.getElem_mem hjV)
              have hQr := hL.vrow _ (List.getElem_mem hjV)
              obtain ⟨Q, hQ⟩ : ∃ Q, Q = V[j] := ⟨_, rfl⟩
              have hvj : (viL V)[j] = (Q.key, Q.ps.map (·.1)) := by rw [hQ]; simp [viL]
              have HVM : Hid ((Q.key, Q.ps.map (·.1)) ∈ viL V) := Lib.hid (by rw [← hvj]; exact List.getElem_mem hVj)
              obtain ⟨nx, hnx⟩ : ∃ n, n = nextD dV ⟨#[109]⟩ p Q.key (Q.ps.map (·.1)) := ⟨_, rfl⟩
              obtain ⟨sh, hsh⟩ : ∃ n, n = shadeD dV dNs ⟨#[109]⟩ p Q.key (Q.ps.map (·.1)) := ⟨_, rfl⟩
              obtain ⟨r1, r2, r3, r4, r5, r6⟩ := HS.out.orph HD.out hVj (p' := nx) (sh := sh) (by rw [hvj]; exact hnx) (by rw [hvj]; exact hsh)
              rw [hvj] at r1 r3 r4 r5 r6
              simp only at r1 r3 r4 r5 r6
              rw [← hQ] at hat hgn hQr
              have HR1 := Lib.hid r1
              have HR2 := Lib.hid r2
              have HR3 := Lib.hid r3
              have HR4 := Lib.hid r4
              have HR5 := Lib.hid r5
              have HR6 := Lib.hid r6
              have HNX := Lib.hid hnx
              have HSH := Lib.hid hsh
              clear r1 r2 r3 r4 r5 r6 hnx hsh hgA hvj hQ
              obtain ⟨Qk, Qg, Qrv, Qps⟩ := Q
              simp only at hat hgn hQr HR1 HR3 HR4 HR5 HR6 HNX HSH HVM
              subst hgn
              obtain ⟨aq, cq, rfl⟩ := hQr.shape
              obtain ⟨g0, g1, g2⟩ := hat
              simp only at g0 g1 g2
              obtain ⟨z0, z1, z2, z3, z4⟩ := (hL.keep _ _ _ t8 (box_ne t8 m0 (by decide)) (box_ne t8 m1 (by decide)) (box_ne t8 m2 (by decide))).vw
              obtain ⟨p0, p1, p2⟩ := hL.base.pa
              have tb := hL.keep _ _ _ t7 (box_ne t7 m0 (by decide)) (box_ne t7 m1 (by decide)) (box_ne t7 m2 (by decide))
              have y0 : wr.cell? ⟨bt, 0, none⟩ = some (.string ⟨#[116]⟩) := tb.cell 0
              have y1 : wr.cell? ⟨bt, 1, none⟩ = some (.int .i64 1) := tb.cell 1
              have y2 : wr.cell? ⟨bt, 2, none⟩ = some (.string ⟨#[112]⟩) := tb.cell 2
              have y3 : wr.cell? ⟨bt, 3, none⟩ = some (.int .i64 1) := tb.cell 3
              have y4 : wr.cell? ⟨bt, 4, none⟩ = some (.string ⟨#[107]⟩) := tb.cell 4
              have y5 : wr.cell? ⟨bt, 5, none⟩ = some (.int .i64 2) := tb.cell 5
              have y6 : wr.cell? ⟨bt, 6, none⟩ = some (.slice (some ⟨bs, 0, none⟩) 4 4) := tb.cell 6
              go_wp2_with fail
              refine wp_region_lateD 13 10 13 [(11, 21), (12, 22)] [(7, fun v y => ∃ v1 v2 q1 q2, v = .tuple #[.agg #[.string Qk, .int .i64 0, v1], .agg #[.string ⟨#[109]⟩, .int .i64 0, v2]] ∧ RowsT y v1 q1 ∧ Hid (q1.map (·.1) = sh) ∧ RowsT y v2 q2 ∧ Hid (q2.map (·.1) = backRs dV Qk 0 p.1 p.2 (cofK ⟨#[109]⟩) (Qps.map (·.1)))), (11, fun v y => ∃ q, v = .pointer (some ⟨q, 0, none⟩) ∧ wr.heap.size ≤ q ∧ BoxAt y q (pa3 ⟨#[]⟩ 0 (.slice none 0 0)) 39), (12, fun v y => ∃ q, v = .pointer (some ⟨q, 0, none⟩) ∧ wr.heap.size ≤ q ∧ BoxAt y q (pa3 ⟨#[]⟩ 0 (.slice none 0 0)) 39)] (by kernel_rfl) (by kernel_rfl) (by kernel_rfl) (by kernel_rfl) (by kernel_rfl) (fun c a d v w h => by cases d <;> exact h)
                ⟨fun _ _ _ _ _ hE ⟨v1, v2, q1, q2, e, h1, h2, h3, h5⟩ => ⟨v1, v2, q1, q2, e, h1.ext hE, h2, h3.ext hE, h5⟩, fun _ _ _ _ _ hE ⟨q, e, h1, h2⟩ => ⟨q, e, h1, h2.ext hE⟩, fun _ _ _ _ _ hE ⟨q, e, h1, h2⟩ => ⟨q, e, h1, h2.ext hE⟩, trivial⟩
                (AlOK.of (T := 39) (i := (Tryz.prog.info? 39).get!) (z := .agg (pa3 ⟨#[]⟩ 0 (.slice none 0 0))) (by kernel_rfl) (by kernel_rfl) (by kernel_rfl)) (by intro p hp; simp at hp; rcases hp with rfl | rfl <;> exact nofun) (by decide) (by intro p hp; simp at hp; rcases hp with rfl | rfl <;> simp) ?_
              simp only [late, List.modify_succ_cons, List.modify_zero_cons, List.push_toArray, List.cons_append, List.nil_append]
              replace z0 := held z0
              replace z1 := held z1
              replace z2 := held z2
              replace z3 := held z3
              replace z4 := held z4
              replace p0 := held p0
              replace p1 := held p1
              replace p2 := held p2
              replace g0 := held g0
              replace g1 := held g1
              replace g2 := held g2
              replace y0 := held y0
              replace y1 := held y1
              replace y2 := held y2
              replace y3 := held y3
              replace y4 := held y4
              replace y5 := held y5
              replace y6 := held y6
              replace v0 := held v0
              refine rgE_quiet rfl rfl rfl rfl ?_; intro K hK; go_big_quiet_op; go_big_quiet_on
              refine rgE_quiet rfl rfl rfl rfl ?_; intro K hK; go_big_quiet_op; go_big_quiet_on
              refine rgE_quiet rfl rfl rfl rfl ?_; intro K hK; go_big_quiet_op; go_big_quiet_on
              refine rgE_quiet rfl rfl rfl rfl ?_; intro K hK; go_big_quiet_op; go_big_quiet_on
              refine rgE_quiet rfl rfl rfl rfl ?_; intro K hK; go_big_quiet_op; go_big_quiet_on
              refine rgE_quiet rfl rfl rfl rfl ?_; intro K hK; go_big_quiet_op; go_big_quiet_on
              refine rgE_quiet rfl rfl rfl rfl ?_; intro K hK; go_big_quiet_op; go_big_quiet_on
              have hMP := HM.out
              have hir := HR1.out.ir
              have hbk : ∀ r ∈ Qps, Ir dV dNs ⟨#[109]⟩ Qk r.1 := fun r hr => hir r.1 (List.mem_map_of_mem hr)
              have hsp := HS.out.base.small
              have lps : ps.length ≤ 4 := by have := hsp.1; rw [← hMP, List.length_map] at this; exact this
              have cps : ∀ r ∈ ps, r.1.cols.length ≤ 5 := fun r hr => hsp.2 r.1 (by rw [← hMP]; exact List.mem_map_of_mem hr)
              have lqs : Qps.length ≤ 4 := by
                have := HR1.out.good.1.len (K := [(vkey ⟨#[109]⟩ (ik 0)).data.toList, (vkey ⟨#[109]⟩ (ik 1)).data.toList, (vkey ⟨#[109]⟩ (ik 2)).data.toList, (vkey ⟨#[109]⟩ (ik 3)).data.toList]) fun r hr => by
                  obtain ⟨i, hi, ei⟩ := (hir r hr).key
                  unfold kRo
                  rw [ei]
                  obtain rfl | rfl | rfl | rfl : i = 0 ∨ i = 1 ∨ i = 2 ∨ i = 3 := by omega
                  all_goals simp
                simpa using this
              have cqs : ∀ r ∈ Qps, r.1.cols.length ≤ 5 := fun r hr => NmL.len (x := dV) (fun c hc => ((hbk r hr).cols c hc).1) (hbk r hr).up
              have hkx : ∀ r ∈ Qps, r.1.key = vkey ⟨#[109]⟩ (cofK ⟨#[109]⟩ r.1) ∧ (cofK ⟨#[109]⟩ r.1).size ≤ 1000000 ∧ (vkey ⟨#[109]⟩ (cofK ⟨#[109]⟩ r.1)).size ≤ 400 := fun r hr => by
                obtain ⟨e1, i, hi, e2⟩ := cofK_spec (hbk r hr).key
                obtain ⟨s1, s2⟩ := ik_small9 i hi
                refine ⟨e1, ?_, ?_⟩
                · rw [e2]; omega
                · rw [e2]; exact s2
              refine relE_fact [] rfl rfl rfl (by kernel_rfl) (fun y hY hf => ?_) (fun v7 y7 hE7 hG7 h7 => ?_)
              · go_simp
                refine (orphan_any (.slice (some ⟨bs, 0, none⟩) 4 4) dV (.slice (some ⟨bu, 0, none⟩) 2 2) dNs ⟨#[109]⟩ p.1 pv ps Qk 0 (.slice aq Qps.length cq) Qps (cofK ⟨#[109]⟩) y (hL.prow.ext hY) (hQr.ext hY) (hns6.ext (hL.ext.trans hY)) (fun r hr => by have := cps r hr; omega) (fun r hr => by have := cqs r hr; omega) HS.out.base.ok.gone (by omega) (by omega) (by decide) hkx
                  (fun l hl => by rw [hl, hMP]; exact up_hup HR1.out.backUp) (fun l hl => by
                    have h5 := HR1.out.shadeUp
                    unfold shadeD nextD joinD at h5
                    rw [hl, hMP]
                    exact up_hup h5)).mono ?_
                rintro e y' ⟨v1, v2, q1, q2, he, h1, h2, h3, h5, hy⟩
                refine ⟨_, he, hY.trans hy, hy, v1, v2, rfl, q1, h1, ?_, q2, h3, ?_⟩
                · show _ = _
                  rw [h2, HSH.out, hMP]
                  rfl
                · show _ = _
                  rw [h5, hMP]
              obtain ⟨v1, v2, q1, q2, rfl, h71, _, h73, _⟩ := h7
              obtain ⟨s1a, s1c, rfl⟩ := h71.shape
              obtain ⟨s2a, s2c, rfl⟩ := h73.shape
              clear hE7 hG7 h71 h73
              simp only [Act.put, List.setIfInBounds_toArray, List.set_cons_zero, List.set_cons_succ]
              refine rgE_quiet rfl rfl rfl rfl ?_; intro K hK; go_big_quiet_op; go_big_quiet_on
              refine rgE_quiet rfl rfl rfl rfl ?_; intro K hK; go_big_quiet_op; go_big_quiet_on
              refine rgE_quiet rfl rfl rfl rfl ?_; intro K hK; go_big_quiet_op; go_big_quiet_on
              refine relE_fact [] rfl rfl rfl (by kernel_rfl) (fun y hY hf => ?_) (fun v11 y11 hE11 hG11 h11 => ?_)
              · go_simp
                exact ⟨hY.trans ((Ext.refl y).alloc _), (Ext.refl y).alloc _, _, rfl, hY.le, BoxAt.made y _ _⟩
              obtain ⟨b11, rfl, _⟩ := h11
              clear hE11 hG11
              simp only [Act.put, List.setIfInBounds_toArray, List.set_cons_zero, List.set_cons_succ]
              refine relE_fact [] rfl rfl rfl (by kernel_rfl) (fun y hY hf => ?_) (fun v12 y12 hE12 hG12 h12 => ?_)
              · go_simp
                exact ⟨hY.trans ((Ext.refl y).alloc _), (Ext.refl y).alloc _, _, rfl, hY.le, BoxAt.made y _ _⟩
              obtain ⟨b12, rfl, _⟩ := h12
              clear hE12 hG12
              simp only [Act.put, List.setIfInBounds_toArray, List.set_cons_zero, List.set_cons_succ]
              refine relE_tail rfl rfl fun w5 hE5 hG => ?_
              obtain ⟨v1, v2, t1, t2, e7, h71, HQ1, h73, HQ2⟩ := (hG 7).1.1.2 rfl
              obtain ⟨c1, e11, hc1, hx1⟩ := (hG 11).1.2 rfl
              obtain ⟨c2, e12, hc2, hx2⟩ := (hG 12).2 rfl
              cases e7
              cases e11
              cases e12
              have hl1 : q1.length = t1.length := by
                obtain ⟨_, _, e⟩ := h71.shape
                exact congrArg (fun v => match v with | .slice _ n _ => n | _ => 0) e
              have hl2 : q2.length = t2.length := by
                obtain ⟨_, _, e⟩ := h73.shape
                exact congrArg (fun v => match v with | .slice _ n _ => n | _ => 0) e
              rw [hl1, hl2]
              rw [hl1] at h71
              rw [hl2] at h73
              obtain ⟨n1, hn1⟩ : ∃ n, n = t1.length := ⟨_, rfl⟩
              obtain ⟨n2, hn2⟩ : ∃ n, n = t2.length := ⟨_, rfl⟩
              rw [← hn1] at h71 ⊢
              rw [← hn2] at h73 ⊢
              have HN1 := Lib.hid hn1
              have HN2 := Lib.hid hn2
              have HBK := Lib.hid hbk
              have HCQS := Lib.hid cqs
              clear hG hl1 hl2 hn1 hn2 z0 z1 z2 z3 z4 p0 p1 p2 g0 g1 g2 y0 y1 y2 y3 y4 y5 y6 v0 tb hMP hir hbk hsp lps cps lqs cqs hkx
              refine storeBox rfl 39 (.tmp 21) (.tmp 91) rfl b11 _ _ _ (by rfl) (by rfl) hx1 (by kernel_rfl) (by rfl) (by simp [Value.oneCell']) ?_
              intro w7 c7 g7
              have m7 : BoxAt w7 b11 (pa3 Qk 0 (.slice s1a n1 s1c)) 39 := c7
              obtain ⟨Z2, hy2, hZ2⟩ := box_still (m := 3) g7 m7 (by rfl) hx2 (by rfl)
              have hE7 : Ext wr w7 := Ext.grown hE5 g7 (fun q hq => by cases hq; omega)
              have r17 := h71.keep g7 hx1 (by decide) (by decide)
              have r27 := h73.keep g7 hx1 (by decide) (by decide)
              refine storeBox rfl 39 (.tmp 22) (.tmp 92) rfl b12 (pa3 ⟨#[109]⟩ 0 (.slice s2a n2 s2c)) _ _ (by rfl) (by rfl) hy2 (by kernel_rfl) hZ2 (by simp [pa3, Value.oneCell']) ?_
              intro w8 c8 g8
              have m8 : BoxAt w8 b12 (pa3 ⟨#[109]⟩ 0 (.slice s2a n2 s2c)) 39 := c8
              have m7b : b11 ≠ b12 → BoxAt w8 b11 (pa3 Qk 0 (.slice s1a n1 s1c)) 39 := (fun hne => m7.grown g8 (fun e => hne (Option.some.inj e)))
              have hE8 : Ext wr w8 := Ext.grown hE7 g8 (fun q hq => by cases hq; omega)
              have r18 := r17.keep g8 hy2 (by decide) (by decide)
              have r28 := r27.keep g8 hy2 (by decide) (by decide)
              refine (fun hap => ?_ : Apart _ _ → _)
              have hne12 : b11 ≠ b12 := fun e => hap (11, 21) (by simp) (12, 22) (by simp) (by decide) (by show Value.pointer (some ⟨b11, 0, none⟩) = Value.pointer (some ⟨b12, 0, none⟩); rw [e])
              have m11 := m7b hne12
              clear hap m7b m7 c7 g7 hx1 hx2 hy2 c8 g8 h71 h73 r17 r27 hE7 hE5
              have hL8 := hL.ext' hE8
              have q0 : w8.cell? ⟨w6.heap.size + 1 + 1, 0, none⟩ = some (.slice (some ⟨g, 0, none⟩) V.length cv) := hL8.view.cell 0
              obtain ⟨a0, a1, a2⟩ := m11.pa
              simp only [Act.put]
              go_wp2_with fail
              refine (put19p_any w0.heap.size _ V Qk (.slice s1a n1 s1c) t1 sh w8 hL8.size hL8.own hL8.vrow hL8.gone r18.rows HQ1.out (by omega) (fun q hq => HS.out.view.good _ (viL_mem hq)) HR2.out (fun q hq r hrr => by
                have := (HS.out.view.rowsLen _ (viL_mem hq)).2 r.1 (List.mem_map_of_mem hrr)
                omega) (fun r hr => by
                have := HR1.out.shadeFew r (by rw [← HSH.out]; exact hr)
                omega) (by
                rw [HSH.out]
                have h1 := shadeRs_len dV dNs Qk 0 ⟨#[109]⟩ p.1 (nextD dV ⟨#[109]⟩ p Qk (Qps.map (·.1))).2 (cofK ⟨#[109]⟩) (Qps.map (·.1))
                have h2 := (HS.out.view.rowsLen _ HVM.out).1
                simp only [List.length_map] at h1 h2
                exact Nat.le_trans h1 (by omega)) (fun q hq => by
                have := (HS.out.view.rowsLen _ (viL_mem hq)).1
                simp only [List.length_map] at this
                omega)).mono ?_
              rintro e w9 ⟨v9, V9, rfl, hown9, hr9, hg9, hv9, hgr9, hob9⟩
              obtain ⟨a9, c9, rfl⟩ := own_shape hown9
              have ne9 : ∀ b, b < w0.heap.size → some b ≠ (Value.slice (some ⟨g, 0, none⟩) V.length cv).ownBlock := fun b hb e => by have := (hL8.own.lt _ e.symm).1; omega
              have z3 := hL8.view.grown hgr9 (ne9 _ m2.lt)
              have z2 := hL8.ok.grown hgr9 (ne9 _ m1.lt)
              have u0 := z3.cell 0
              have u1 := z2.cell 0
              have u2 := z3.free 0
              have u3 := z2.free 0
              have e32 := box_ne z2 z3 (by decide)
              have hL10 := hL8.put hE0.le m0.lt ⟨by omega, m1.lt⟩ ⟨by omega, m2.lt⟩ hgr9 hown9 hr9 hg9
              have hnob : some b12 ≠ (Value.slice (some ⟨g, 0, none⟩) V.length cv).ownBlock := fun e => by have := (hL.own.lt _ e.symm).2; omega
              have hb12v : b12 ≠ w6.heap.size + 1 + 1 := by have := hL.view.lt; omega
              have hb12o : b12 ≠ w6.heap.size + 1 := by have := hL.ok.lt; omega
              have m10 := (((m8.grown hgr9 hnob).other hb12v 0 (.slice a9 V9.length c9)).other hb12o 0 (.bool true))
              have r10 := ((r28.keepOwn hL8.own hgr9 (by decide) (by decide)).set 0 (.slice a9 V9.length c9) z3 (by decide) (by decide)).set 0 (.bool true) (z2.other e32 0 (.slice a9 V9.length c9)) (by decide) (by decide)
              have o10 := hL10.ok.cell 0
              obtain ⟨k0, k1, k2⟩ := m10.pa
              have HV9 := Lib.hid hv9
              clear hr9 hg9 hgr9 hob9 ne9 hown9 z3 z2 hnob m8 m11 r18 r28 hL8 hE8 a0 a1 a2 q0 hv9
              go_wp2_with fail
              have eback : ((0 : Int), t2.map (·.1)) = (0, backRs dV Qk 0 p.1 p.2 (cofK ⟨#[109]⟩) (Qps.map (·.1))) := by rw [HQ2.out]
              have enx : joinD p (0, t2.map (·.1)) = nx := by rw [eback, HNX.out]; rfl
              have hbb : BsOk dV (0, t2.map (·.1)) := by rw [eback]; exact HR1.out.backBs
              refine (HSTEP.out p pv ps _ V9 0 (.slice s2a n2 s2c) t2 _ hL10 HM.out HS.out.base (by rw [enx, HV9.out]; exact HR4.out) r10 hbb).mono ?_
              rintro e w11 ⟨⟨zz, rfl⟩, pv', ps', vv', V', hL', hm', hv'⟩
              rw [enx] at hL' hm' hv'
              rw [HV9.out] at hv'
              have hS' := HR5.out
              have hD' := HR6.out
              rw [← hv'] at hS' hD'
              clear u0 u1 u2 u3 hL10 m10 r10 o10 k0 k1 k2 eback enx hbb
              go_wp2_with fail
              go_roundw
              case rel => exact ⟨j + 1, nx, pv', ps', vv', V', by omega, by go_num, hL', hm', hS', hD'⟩
              case measure => simp [intOf]; omega
            · have hji : decide ((j : Int) < (V.length : Int)) = false := by simpa using hjV
              have hfin : Fine dV dNs ⟨#[109]⟩ p (viL V) fun _ => True := Done.all (i := j) (by simpa [viL] using hjV) HD.out
              have HFIN := Lib.hid hfin
              clear hfin HD
              go_wp2_with fail
              refine (place_any now 14 (by decide) (by decide) wr).mono ?_
              obtain ⟨T, hT⟩ : ∃ T : Int, T = now % 14 := ⟨_, rfl⟩
              have hT0 : 0 ≤ T := by omega
              have hT14 : T < 14 := by omega
              rw [← hT]
              rintro e w' ⟨rfl, rfl⟩
              clear hT
              have hpt : PartsT wr (.slice av V.length cv) V := ⟨TIn.own hL.own, hL.vrow⟩
              obtain ⟨z0, z1, z2, z3, z4⟩ := (hL.keep _ _ _ t8 (box_ne t8 m0 (by decide)) (box_ne t8 m1 (by decide)) (box_ne t8 m2 (by decide))).vw
              obtain ⟨p0, p1, p2⟩ := hL.base.pa
              have hMI := mir_st HS.out HFIN.out hpt hL.gone hL.prow HM.out (hns6.ext hL.ext) T
              have HMI := Lib.hid hMI
              clear hMI
              go_wp2_with fail
              refine HMI.out.mono ?_
              rintro e w13 ⟨rfl, hE13⟩
              have hL13 := hL.ext' hE13
              clear HMI hL z0 z1 z2 z3 z4 p0 p1 p2 hpt v0
              have o13 : w13.cell? ⟨w6.heap.size + 1, 0, none⟩ = some (.bool true) := hL13.ok.cell 0
              clear o0
              go_wp2_with fail
              clear hji
              go_loopw [24] (fun i wr => ∃ (k : Nat) (p : Dp) (pv : Value) (ps : List (Ro × Value)) (vv : Value) (V : List Pa), k ≤ K ∧ i = .int .i64 k ∧ LS w6 w0 w6.heap.size (w6.heap.size + 1) (w6.heap.size + 1 + 1) p.1 pv ps vv V wr ∧ Hid (ps.map (·.1) = p.2) ∧ Hid (St dV dNs ⟨#[109]⟩ p (viL V)) ∧ Hid (Fine dV dNs ⟨#[109]⟩ p (viL V) fun _ => True)) (fun i _ => K - (intOf i).toNat)
              case atStart => exact ⟨Hf, p, pv, ps, _, V, hHk, rfl, hL13, HM.out, HS.out, HFIN.out⟩
              case round =>
                clear hL13 HM HS HFIN hjV hV4 o13
                obtain ⟨k, p, pv, ps, vv, V, hk, rfl, hL, HM, HS, HFI⟩ := hrel
                have o0 : wr.cell? ⟨w6.heap.size + 1, 0, none⟩ = some (.bool true) := hL.ok.cell 0
                by_cases hlt : k < K
                · have hki : decide ((k : Int) < (K : Int)) = true := by simpa using hlt
                  have hkP : k < PL.length := by rw [HPLL.out]; exact hlt
                  obtain ⟨g6, rfl, hat⟩ := HG6.out k hkP
                  have hqr := hPL.rows _ (List.getElem_mem hkP)
                  obtain ⟨hgk, hgg, hgr⟩ := HGEN.out _ (List.getElem_mem hkP)
                  obtain ⟨Q, hQ⟩ : ∃ Q, Q = PL[k] := ⟨_, rfl⟩
                  rw [← hQ] at hat hqr hgk hgg hgr
                  obtain ⟨Qk, Qg, Qrv, Qps⟩ := Q
                  simp only at hat hqr hgk hgg hgr
                  subst hgk
                  obtain ⟨x0, x1, x2⟩ := hat.ext hL.ext
                  simp only at x0 x1 x2
                  clear hQ
                  go_wp2_with fail
                  refine (HSTEP.out p pv ps vv V Qg Qrv Qps wr hL HM.out HS.out.base (HS.out.step (gen_bs hgg.1 hgr)).1 (hqr.ext hL.ext) (gen_bs hgg.1 hgr)).mono ?_
                  rintro e w9 ⟨⟨zz, rfl⟩, pv', ps', vv', V', hL', hm', hv'⟩
                  have hS' := (HS.out.step (gen_bs (x := dV) hgg.1 hgr)).2.1
                  have hF' := (HS.out.step (gen_bs (x := dV) hgg.1 hgr)).2.2 _ HFI.out
                  rw [← hv'] at hS' hF'
                  go_wp2_with fail
                  go_roundw
                  case rel => exact ⟨k + 1, _, pv', ps', vv', V', by omega, by go_num, hL', hm', hS', hF'⟩
                  case measure => simp [intOf]; omega
                · obtain rfl : K = k := by omega
                  obtain ⟨av, cv, rfl⟩ := own_shape hL.own
                  have v0 : wr.cell? ⟨w6.heap.size + 1 + 1, 0, none⟩ = some (.slice av V.length cv) := hL.view.cell 0
                  have hpt : PartsT wr (.slice av V.length cv) V := ⟨TIn.own hL.own, hL.vrow⟩
                  obtain ⟨z0, z1, z2, z3, z4⟩ := (hL.keep _ _ _ t8 (box_ne t8 m0 (by decide)) (box_ne t8 m1 (by decide)) (box_ne t8 m2 (by decide))).vw
                  obtain ⟨p0, p1, p2⟩ := hL.base.pa
                  have hMI := mir_st HS.out HFI.out hpt hL.gone hL.prow HM.out (hns6.ext hL.ext) T
                  have HMI := Lib.hid hMI
                  clear hMI
                  go_wp2_with fail
                  refine HMI.out.mono ?_
                  rintro e w14 ⟨rfl, hE14⟩
                  go_wp2_with fail
                  refine (gone7_any ⟨⟨#[]⟩, zeroCl, 5, 0, []⟩ (.slice none 0 0) 3 w14).mono ?_
                  rintro e w15 ⟨rfl, hE15⟩
                  go_wp2_with fail
                  refine (awake19_any w15).mono ?_
                  rintro e w16 ⟨rfl, hE16⟩
                  go_wp2_with fail
                  go_ret
                  exact ⟨rfl, (((hE06.trans hL.ext).trans hE14).trans hE15).trans hE16⟩
theorem law_deltaOrphans_long (v0 : Value) (z : List Int) (many lost now : Int) (w : World) (hin : IntsIn w v0 .i64 z) (hz : 150 < z.length) :
    Calls Tryz.prog 3 #[v0, .int .i64 many, .int .i64 lost, .int .i64 now] w fun e w' => e = .returned (.bool true) ∧ Ext w w' := by
  obtain ⟨a, c, rfl, hc, hcm, ha⟩ := hin.block
  have k1 : decide ((150 : Int) < (z.length : Int)) = true := by simp; omega
  go_enter Tryz.func3, Tryz.ntmps3
  go_wp2_with fail
  refine (awake19_any _).mono ?_
  rintro e w10 ⟨rfl, hE10⟩
  go_wp2_with fail
  go_ret
  exact ⟨rfl, hE10⟩
theorem walk_deltaOrphans (v : Value) (many lost now : Int) (W : World) (w0 : ∃ l : List Int, IntsIn W v .i64 l ∧ ∀ n ∈ l, (Lit.int .i64 n).wf = true) (_ : (Lit.int .i64 many).wf = true) (_ : (Lit.int .i64 lost).wf = true) (_ : (Lit.int .i64 now).wf = true) :
    Calls Tryz.prog 3 #[v, .int .i64 many, .int .i64 lost, .int .i64 now] W fun e w' => e = .returned (.bool true) ∧ Ext W w' := by
  obtain ⟨z, hin, _⟩ := w0
  by_cases hz : z.length ≤ 150
  · exact law_deltaOrphans v z many lost now W hin hz
  · exact law_deltaOrphans_long v z many lost now W hin (by omega)
end Go.Proofs.YtolkhjdododdaaaGreat
