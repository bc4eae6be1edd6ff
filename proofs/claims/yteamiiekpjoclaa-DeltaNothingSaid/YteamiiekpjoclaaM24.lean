/- clerestoryref08.Join. -/
import Derived.Test.YteamiiekpjoclaaM23
import Derived.Test.YteamiiekpjoclaaM20
import Derived.Test.YteamiiekpjoclaaM18
namespace Go.Proofs.Yteamiiekpjoclaa
open Go Go.RowKit
attribute [local go_sem] yields yUpon ro8 pa3

theorem foldRo_cols (a b : Ro) : (foldRo a b).cols.length ≤ a.cols.length + b.cols.length := foldG_len keyC joinCo a.cols b.cols
theorem put_cols {l : List Ro} {r : Ro} {N : Nat} (hl : ∀ p ∈ l, p.cols.length ≤ N) (hr : r.cols.length ≤ 1000) (hN : 1000 ≤ N) : ∀ p ∈ mergeG keyR foldRo l [r], p.cols.length ≤ N + 1000 := by
  intro p hp
  rcases mem_mergeI hp with h | h | ⟨a, ha, b, hb, _, rfl⟩
  · have := hl p h; omega
  · rw [List.mem_singleton.1 h]; omega
  · rw [List.mem_singleton.1 hb]
    have := foldRo_cols a r
    have := hl a ha
    omega

set_option maxRecDepth 100000 in
set_option maxHeartbeats 8000000 in
theorem join8_any (k k' : ByteArray) (g g' : Int) (u u' : Value) (ps ps' : List (Ro × Value)) (w : World) (h : RowsT w u ps) (h' : RowsT w u' ps') (hlen : ps.length ≤ 1000) (hlen' : ps'.length ≤ 100) (hcl : ∀ p ∈ ps, p.1.cols.length ≤ 1000) (hcl' : ∀ p ∈ ps', p.1.cols.length ≤ 1000) :
    Calls Try.prog 13 #[.agg #[.string k, .int .i64 g, u], .agg #[.string k', .int .i64 g', u']] w fun e w' => JoinPost w k (max g g') (foldG keyR foldRo (ps.map (·.1)) (ps'.map (·.1))) e w' := by
  obtain ⟨a0, a1, a2, hE⟩ := boxes3 w (pa3 k g u) (pa3 k' g' u') (pa3 ⟨#[]⟩ 0 (.slice none 0 0)) 39 39 39
  obtain ⟨J, hJ⟩ : ∃ J, J = foldG keyR foldRo (ps.map (·.1)) (ps'.map (·.1)) := ⟨_, rfl⟩
  rw [← hJ]
  have HJ := Lib.hid hJ
  clear hJ
  obtain ⟨mg, hmg⟩ : ∃ mg, mg = max g g' := ⟨_, rfl⟩
  rw [← hmg]
  have HMG := Lib.hid hmg
  clear hmg
  have h0 := h.ext hE
  obtain ⟨a, c, rfl⟩ := h.shape
  obtain ⟨ab, cb, rfl, hcb, hcbm, hget⟩ := h'.rows.get
  obtain ⟨m, hm⟩ : ∃ m, m = ps.length := ⟨_, rfl⟩
  obtain ⟨n, hn⟩ : ∃ n, n = ps'.length := ⟨_, rfl⟩
  rw [← hm] at a0 a1 a2 hE h0 hlen
  rw [← hm]
  rw [← hn] at a0 a1 a2 hE h0 h' hlen' hcb
  rw [← hn]
  have HGET := Lib.hid hget
  have HM := Lib.hid hm
  have HN := Lib.hid hn
  have HCL := Lib.hid hcl
  have HCL2 := Lib.hid hcl'
  clear hget hm hn hcl hcl' h
  go_enter Try.func13, Try.ntmps13
  go_wp2_with fail
  refine (copy8_any k g _ ps _ h0 (by have := HM.out; omega) (fun p hp => by have := HCL.out p hp; omega)).mono ?_
  rintro e w1 ⟨v1, rfl, qs1, hq1, hm1, hE1⟩
  obtain ⟨a1', c1', rfl⟩ := hq1.shape
  have b0 := a0.ext hE1
  have b1 := a1.ext hE1
  have b2 := a2.ext hE1
  have hX1 := hE.trans hE1
  clear a0 a1 a2 hE hE1 h0
  have hsz1 := b2.lt
  go_wp2_with (first
    | (((guard_target =~ wpList _ _ _ (Oper.mk none (Op.store _ (Operand.tmp 6) (Operand.tmp 9)) _ _ _ _ :: _) _ _); go_must (refine storeBox rfl 39 (.tmp 6) (.tmp 9) rfl (w1.heap.size) _ _ _ (by rfl) (by rfl) ((BoxAt.made w1 (pa3 ⟨#[]⟩ 0 (.slice none 0 0)) 39)) (by kernel_rfl) (by rfl) (by simp [Value.oneCell']) ?_); intro w4 c4 g4); have hX14 : Ext w1 w4 := ((Ext.refl w1).alloc _).grown g4 (fun q hq => by cases hq; omega); have d0 := b0.ext hX14; have d1 := b1.ext hX14; have d2 := b2.ext hX14; have z0 : w4.cell? ⟨w.heap.size, 1, none⟩ = some (.int .i64 g) := d0.cell 1; have z1 : w4.cell? ⟨w.heap.size + 1, 1, none⟩ = some (.int .i64 g') := d1.cell 1; have z2 : w4.cell? ⟨w1.heap.size, 1, none⟩ = some (.int .i64 g) := BoxAt.cell c4 1; have zf := BoxAt.free c4 1))
  rw [← HMG.out]
  obtain ⟨q, hq⟩ : ∃ q, q = w1.heap.size := ⟨_, rfl⟩
  rw [← hq]
  rw [← hq] at c4 g4 hsz1
  have hwq : w.heap.size + 1 + 1 < q := hsz1
  obtain ⟨wA, hwA⟩ : ∃ wA, wA = w4.setCell ⟨q, 1, none⟩ (.int .i64 mg) := ⟨_, rfl⟩
  have e1 : BoxAt wA (w.heap.size + 1) (pa3 k' g' (.slice ab n cb)) 39 := by rw [hwA]; exact d1.other (by omega) 1 _
  have e2 : BoxAt wA (w.heap.size + 1 + 1) (pa3 ⟨#[]⟩ 0 (.slice none 0 0)) 39 := by rw [hwA]; exact d2.other (by omega) 1 _
  have e3 : BoxAt wA q (pa3 k mg (.slice a1' qs1.length c1')) 39 := by rw [hwA]; exact BoxAt.set c4 1 _
  have eX : Ext w wA := by rw [hwA]; exact (hX1.trans hX14).setCell (p := ⟨q, 1, none⟩) (by show w.heap.size ≤ q; omega) _
  have eR : RowsT wA (.slice a1' qs1.length c1') qs1 := by rw [hwA]; exact RowsT.set 1 _ c4 (by decide) (by decide) (hq1.ext hX14)
  rw [← hwA]
  clear hwA z0 z1 z2 zf c4 g4 d0 d1 d2 hX14 hX1 b0 b1 b2 hq1 hq hsz1
  go_loopw [7] (fun i wr => ∃ (j : Nat) (vc : Value) (qs : List (Ro × Value)), j ≤ n ∧ i = .int .i64 j ∧ BoxAt wr q (pa3 k mg vc) 39 ∧ BoxAt wr (w.heap.size + 1) (pa3 k' g' (.slice ab n cb)) 39 ∧ BoxAt wr (w.heap.size + 1 + 1) (pa3 ⟨#[]⟩ 0 (.slice none 0 0)) 39 ∧ RowsT wr vc qs ∧ Hid (qs.map (·.1) = foldG keyR foldRo (ps.map (·.1)) ((ps'.map (·.1)).take j)) ∧ Hid (∀ p ∈ qs.map (·.1), p.cols.length ≤ 1000 * (j + 1)) ∧ Ext w wr) (fun i _ => n - (intOf i).toNat)
  case atStart =>
    refine ⟨0, _, qs1, Nat.zero_le _, rfl, e3, e1, e2, eR, ?_, ?_, eX⟩
    · show _ = _
      rw [hm1, List.take_zero]
      rfl
    · show ∀ p ∈ qs1.map (·.1), _
      rw [hm1]
      intro p hp
      obtain ⟨x, hx, rfl⟩ := List.mem_map.1 hp
      have := HCL.out x hx
      omega
  case round =>
    obtain ⟨j, vc, qs, hj, rfl, hbq, hb1, hb2, hqs, HQ, HB, hE⟩ := hrel
    have hql : qs.length ≤ m + j := by
      have := congrArg List.length HQ.out
      have h2 := foldG_len keyR foldRo (ps.map (·.1)) ((ps'.map (·.1)).take j)
      rw [List.length_map, List.length_take] at h2
      rw [List.length_map] at this
      have := HM.out
      omega
    have q2 : wr.cell? ⟨q, 2, none⟩ = some vc := hbq.cell 2
    have f2 : wr.cell? ⟨w.heap.size + 1, 2, none⟩ = some (.slice ab n cb) := hb1.cell 2
    obtain ⟨av, cv, rfl⟩ := hqs.shape
    by_cases hlt : j < n
    · have t1 : decide ((j : Int) < (n : Int)) = true := by simp; omega
      have hjp : j < ps'.length := by rw [← HN.out]; exact hlt
      obtain ⟨bb, oo, rfl, hat⟩ := HGET.out j hjp
      obtain ⟨r, hr⟩ : ∃ r, r = ps'[j].1 := ⟨_, rfl⟩
      obtain ⟨vr, hvr⟩ : ∃ v, v = ps'[j].2 := ⟨_, rfl⟩
      have hct : ColsT w vr r.cols := by rw [hr, hvr]; exact h'.typed _ (List.getElem_mem hjp)
      have hrl : r.cols.length ≤ 1000 := by rw [hr]; exact HCL2.out _ (List.getElem_mem hjp)
      have hrow : (ps'.map (·.1)).take (j + 1) = (ps'.map (·.1)).take j ++ [r] := by
        rw [List.take_succ_eq_append_getElem (by rw [List.length_map]; exact hjp), List.getElem_map, hr]
      rw [← hr, ← hvr] at hat
      have HROW := Lib.hid hrow
      clear hr hvr hrow
      obtain ⟨ar, cr, rfl⟩ := TIn.shape hct
      obtain ⟨y0, y1, y2, y3, y4, y5, y6, y7⟩ := hat.ext hE
      obtain ⟨Jm, hJm⟩ : ∃ Jm, Jm = mergeG keyR foldRo (qs.map (·.1)) [r] := ⟨_, rfl⟩
      have HJM := Lib.hid hJm
      clear hat hJm
      go_wp2_with fail
      refine wp_region_tab 9 [(7, fun v x => ∃ qs', RowsT x v qs' ∧ Hid (qs'.map (·.1) = Jm))] (by kernel_rfl) (by kernel_rfl) (by kernel_rfl) ⟨fun _ _ _ hE ⟨qs', h, h'⟩ => ⟨qs', h.ext hE, h'⟩, trivial⟩ ?_
      replace q2 := held q2
      replace f2 := held f2
      replace y0 := held y0
      replace y1 := held y1
      replace y2 := held y2
      replace y3 := held y3
      replace y4 := held y4
      replace y5 := held y5
      replace y6 := held y6
      replace y7 := held y7
      refine rg_quiet rfl rfl rfl rfl ?_; intro K hK; go_big_quiet_op; go_big_quiet_on
      refine rg_quiet rfl rfl rfl rfl ?_; intro K hK; go_big_quiet_op; go_big_quiet_on
      refine rg_quiet rfl rfl rfl rfl ?_; intro K hK; go_big_quiet_op; go_big_quiet_on
      refine rg_quiet rfl rfl rfl rfl ?_; intro K hK; go_big_quiet_op; go_big_quiet_on
      refine rg_quiet rfl rfl rfl rfl ?_; intro K hK; go_big_quiet_op; go_big_quiet_on
      refine rg_quiet rfl rfl rfl rfl ?_; intro K hK; go_big_quiet_op; go_big_quiet_on
      refine rg_quiet rfl rfl rfl rfl ?_; intro K hK; go_big_quiet_op; go_big_quiet_on
      refine rg_fact [] rfl rfl rfl (by kernel_rfl) (fun y hEy hf => ?_) (fun v9 y9 hE9 hG9 h9 => ?_)
      · go_simp
        refine (put8_any _ qs r _ y (hqs.ext hEy) (hct.ext (hE.trans hEy)) (by omega) (fun p hp => by have := HB.out p.1 (List.mem_map_of_mem hp); omega) (by omega)).mono ?_
        rintro e y' ⟨v', rfl, qs', h1, h2, hE'⟩
        rw [← HJM.out] at h2
        exact ⟨_, rfl, rg_doneR hEy hE' ⟨qs', h1, h2⟩⟩
      obtain ⟨qs9, h9, _⟩ := h9
      obtain ⟨a9, c9, rfl⟩ := h9.shape
      clear hE9 hG9 h9
      simp only [Act.put, List.setIfInBounds_toArray, List.set_cons_zero, List.set_cons_succ]
      refine rg_quiet rfl rfl rfl rfl ?_; intro K hK; go_big_quiet_op; go_big_quiet_on
      refine rel_tail rfl rfl fun w7 hE7 hG => ?_
      obtain ⟨qs', hqs', HQ'⟩ := (hG 7).2 rfl
      have hbq7 := hbq.ext hE7
      have qf := hbq7.free 2
      have qc : w7.cell? ⟨q, 2, none⟩ = some (.slice av qs.length cv) := hbq7.cell 2
      clear hG q2 f2 y0 y1 y2 y3 y4 y5 y6 y7 hbq
      go_wp2_with fail
      go_roundw
      case rel =>
        refine ⟨j + 1, _, qs', by omega, by go_num, hbq7.set 2 _, (hb1.ext hE7).other (by omega) 2 _, (hb2.ext hE7).other (by omega) 2 _, RowsT.set 2 _ hbq7 (by decide) (by decide) hqs', ?_, ?_, (hE.trans hE7).setCell (p := ⟨q, 2, none⟩) (by show w.heap.size ≤ q; omega) _⟩
        · show _ = _
          rw [HQ'.out, HJM.out, HQ.out, HROW.out, foldG_snoc]
        · show ∀ p ∈ qs'.map (·.1), _
          rw [HQ'.out, HJM.out]
          intro p hp
          have := put_cols HB.out hrl (by omega) p hp
          omega
      case measure => simp [intOf]; omega
    · obtain rfl : j = n := by omega
      have hqJ : qs.map (·.1) = J := by rw [HQ.out, HJ.out, List.take_of_length_le (by rw [List.length_map, ← HN.out]; exact Nat.le_refl _)]
      have hqn : qs.length = J.length := by rw [← hqJ, List.length_map]
      have HQN := Lib.hid hqn
      clear hqn
      obtain ⟨z0, z1, z2⟩ := hbq.pa
      clear q2
      by_cases h100 : qs.length ≤ 100
      · go_wp2_with ((guard_target =~ wpList _ _ _ (Oper.mk none (Op.store _ (Operand.tmp 4) (Operand.tmp 37)) _ _ _ _ :: _) _ _); go_must (refine storeBox rfl 39 (.tmp 4) (.tmp 37) rfl (w.heap.size + 1 + 1) _ _ _ (by rfl) (by rfl) (hb2) (by kernel_rfl) (by rfl) (by simp [Value.oneCell']) ?_); intro w8 c8 g8)
        have hX8 := hE.grown g8 (fun q hq => by cases hq; omega)
        have hrows := hqs.keep g8 hb2 (by decide) (by decide)
        clear z0 z1 z2
        obtain ⟨z0, z1, z2⟩ := BoxAt.pa (k := k) (g := mg) (u := .slice av qs.length cv) c8
        refine bodyPost_ret (v := .tuple #[.agg #[.string k, .int .i64 mg, .slice av qs.length cv], .bool true]) ?_ rfl ⟨hX8, .inl ⟨by have := HQN.out; omega, _, rfl, qs, hrows, hqJ⟩⟩
        simp [results, Try.results13, go_sem, Act.put, z0, z1, z2]
      · have t1 : decide ((100 : Int) < (qs.length : Int)) = true := by simp; omega
        go_wp2_with ((guard_target =~ wpList _ _ _ (Oper.mk none (Op.store _ (Operand.tmp 4) (Operand.tmp 36)) _ _ _ _ :: _) _ _); go_must (refine storeBox rfl 39 (.tmp 4) (.tmp 36) rfl (w.heap.size + 1 + 1) _ _ _ (by rfl) (by rfl) (hb2) (by kernel_rfl) (by rfl) (by simp [Value.oneCell']) ?_); intro w8 c8 g8)
        have hX8 := hE.grown g8 (fun q hq => by cases hq; omega)
        clear z0 z1 z2
        obtain ⟨z0, z1, z2⟩ := BoxAt.pa (k := ⟨#[]⟩) (g := 0) (u := .slice none 0 0) c8
        refine bodyPost_ret (v := .tuple #[.agg #[.string ⟨#[]⟩, .int .i64 0, .slice none 0 0], .bool false]) ?_ rfl ⟨hX8, .inr ⟨by have := HQN.out; omega, rfl⟩⟩
        simp [results, Try.results13, go_sem, Act.put, z0, z1, z2]
end Go.Proofs.Yteamiiekpjoclaa

/- Made, Several: partitions by numbers. -/
namespace Go.Proofs.Yteamiiekpjoclaa
open Go Go.RowKit
attribute [local go_sem] yields yUpon ro8 pa3

/-- A partition by numbers, of a key. -/
structure GenPa (key : ByteArray) (p : Pa) : Prop where
  key : p.key = key
  gone : 0 ≤ p.gone ∧ p.gone ≤ 7
  rows : GenRows 4 (p.ps.map (·.1))

set_option maxRecDepth 100000 in
set_option maxHeartbeats 4000000 in
theorem several_any (v : Value) (l : List Int) (many : Nat) (hm : many ≤ 1000) (key : ByteArray) (w : World) (hin : IntsIn w v .i64 l) :
    Calls Try.prog 12 #[v, .int .i64 (many : Int), .string key] w fun e w' => ∃ (v' : Value) (L : List Pa), e = .returned v' ∧ L.length = many ∧ PartsT w' v' L ∧ (∀ p ∈ L, GenPa key p) ∧ Ext w w' := by
  have a0 := BoxAt.made w #[v] 83
  have hE0 := (Ext.refl w).alloc (.cells #[v] 83)
  obtain ⟨av, cv, rfl, _⟩ := hin.block
  go_enter Try.func12, Try.ntmps12
  go_wp2_with fail
  go_loopw [8, 9] (fun m i wr => ∃ (k : Nat) (vo : Value) (L : List Pa), k ≤ many ∧ i = .int .i64 k ∧ m = vo ∧ L.length = k ∧ wr.ownsRow (w.heap.size + 1) 39 3 vo L.length (paCells L) ∧ (∀ p ∈ L, RowsT wr p.rv p.ps) ∧ (∀ p ∈ L, GenPa key p) ∧ LeftIn w wr w.heap.size ∧ w.heap.size < wr.heap.size ∧ Ext w wr) (fun _ i _ => many - (intOf i).toNat)
  case atStart => exact ⟨0, _, [], Nat.zero_le _, rfl, rfl, rfl, World.ownsRow_nil _ _ _ _, nofun, nofun, ⟨_, l, a0, hin⟩, a0.lt, hE0⟩
  case round =>
    obtain ⟨k, vo, L, hk, rfl, rfl, hLk, hown, hrows, hgen, hleft, hlt0, hE⟩ := hrel
    clear a0 hE0
    subst hLk
    obtain ⟨ao, co, rfl⟩ := own_shape hown
    by_cases hlt : L.length < many
    · have t1 : decide ((L.length : Int) < (many : Int)) = true := by simp; omega
      go_wp2_with fail
      refine (lpart_any w w.heap.size (Nat.le_refl _) key wr hE hleft).mono ?_
      rintro e w1 ⟨g, v1, qs, rfl, hg8, hgr, hq, hg, hleft1⟩
      obtain ⟨v0, hb0⟩ := hleft.box
      have hrows1 : ∀ p ∈ L, RowsT w1 p.rv p.ps := fun p hp => (hrows p hp).keep hg hb0 (by decide) (by decide)
      have hown1 : w1.ownsRow (w.heap.size + 1) 39 3 (.slice ao L.length co) L.length (paCells L) := hown.kept hg (own_ne_box hown hb0 (by decide))
      have hX1 : Ext w w1 := hE.grown hg (fun q hq => by cases hq; omega)
      have hsz1 : w.heap.size + 1 ≤ w1.heap.size := by have := hg.size; omega
      obtain ⟨aq, cq, rfl⟩ := hq.shape
      obtain ⟨nq, hnq⟩ : ∃ nq, nq = qs.length := ⟨_, rfl⟩
      rw [← hnq] at hq ⊢
      clear hnq hown hrows hleft hb0 hg
      go_wp2_with (at_builtin; go_must (refine appR info_Part und_Parts rfl (by decide) w1 rfl (.tmp 18) (.tmp 22) rfl (w.heap.size + 1) hsz1 (.slice ao L.length co) L.length (paCells L) hown1 rfl 1 (pa3 key g (.slice aq nq cq)) rfl rfl (by simp [pa3, Value.oneCell']) (by unfold maxLen; omega) (by omega) ?_); intro v20 w20 hown20 hg20)
      go_roundw
      case rel =>
        have hXa := (Ext.refl w1).alloc (.cells (pa3 key g (.slice aq nq cq)) 39)
        have howna := ownsRow_ext hown1 hXa
        have hkr : ∀ {rv ps}, RowsT w1 rv ps → RowsT w20 rv ps := fun h => (h.ext hXa).keepOwn howna hg20 (by decide) (by decide)
        refine ⟨L.length + 1, _, L ++ [⟨key, g, .slice aq nq cq, qs⟩], by omega, by go_num, rfl, by simp, ?_, fun p hp => ?_, fun p hp => ?_, ?_, ?_, ?_⟩
        · rw [paCells_append, List.length_append]
          exact hown20
        · rcases List.mem_append.1 hp with hp | hp
          · exact hkr (hrows1 p hp)
          · rw [List.mem_singleton.1 hp]
            exact hkr hq
        · rcases List.mem_append.1 hp with hp | hp
          · exact hgen p hp
          · rw [List.mem_singleton.1 hp]
            exact ⟨rfl, hg8, hgr⟩
        · obtain ⟨vl, ll, hv, hli⟩ := hleft1.ext hXa
          exact ⟨vl, ll, hv.grown hg20 (fun e => by have := (howna.lt _ e.symm).1; omega), hli⟩
        · have := hg20.size
          have := hXa.le
          omega
        · exact (hX1.trans hXa).grown hg20 (fun q hq => by have := (howna.lt _ hq).1; omega)
      case measure => simp [intOf]; omega
    · go_wp2_with fail
      have hkm : L.length = many := by omega
      go_ret
      exact ⟨_, L, rfl, hkm, ⟨TIn.own hown, hrows⟩, hgen, hE⟩
end Go.Proofs.Yteamiiekpjoclaa

/- Made: a partition by numbers. -/
namespace Go.Proofs.Yteamiiekpjoclaa
open Go Go.RowKit
attribute [local go_sem] yields yUpon ro8 pa3

set_option maxRecDepth 100000 in
set_option maxHeartbeats 4000000 in
theorem made_any (v : Value) (l : List Int) (key : ByteArray) (w : World) (hin : IntsIn w v .i64 l) :
    Calls Try.prog 19 #[v, .string key] w fun e w' => ∃ p : Pa, e = .returned (.agg #[.string key, .int .i64 p.gone, p.rv]) ∧ GenPa key p ∧ RowsT w' p.rv p.ps ∧ Ext w w' := by
  obtain ⟨a0, a1, hE0⟩ := boxes2 w (pa3 ⟨#[]⟩ 0 (.slice none 0 0)) #[v] 39 83
  obtain ⟨av, cv, rfl, _⟩ := hin.block
  go_enter Try.func19, Try.ntmps19
  go_wp2_with fail
  refine (lpart_any w (w.heap.size + 1) (Nat.le_succ _) key _ hE0 ⟨_, l, a1, hin⟩).mono ?_
  rintro e w1 ⟨g, v1, qs, rfl, hg8, hgr, hrows, hg, _⟩
  have hX : Ext w w1 := hE0.grown hg (fun q hq => by cases hq; omega)
  obtain ⟨aq, cq, rfl⟩ := hrows.shape
  have a0' := a0.grown hg (by simp)
  go_wp2_with (((guard_target =~ wpList _ _ _ (Oper.mk none (Op.store _ (Operand.tmp 4) (Operand.tmp 11)) _ _ _ _ :: _) _ _); go_must (refine storeBox rfl 39 (.tmp 4) (.tmp 11) rfl (w.heap.size) _ _ _ (by rfl) (by rfl) (a0') (by kernel_rfl) (by rfl) (by simp [Value.oneCell']) ?_); intro w3 c3 g3))
  obtain ⟨z0, z1, z2⟩ := BoxAt.pa (k := key) (g := g) (u := .slice aq qs.length cq) c3
  refine bodyPost_ret (v := .agg #[.string key, .int .i64 g, .slice aq qs.length cq]) ?_ rfl ⟨⟨key, g, _, qs⟩, rfl, ⟨rfl, hg8, hgr⟩, hrows.keep g3 a0' (by decide) (by decide), hX.grown g3 (fun q hq => by cases hq; omega)⟩
  simp [results, Try.results19, go_sem, Act.put, z0, z1, z2]

end Go.Proofs.Yteamiiekpjoclaa
