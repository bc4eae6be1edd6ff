/- clerestoryref08.Join. -/
import Derived.Test.YtolkhjdododdaaaGreatP24
import Derived.Test.YtolkhjdododdaaaGreatP25
import Derived.Test.YtolkhjdododdaaaGreatP8
import Derived.Test.YtolkhjdododdaaaGreatP2
import Derived.ArgAppend
import Derived.Test.YtolkhjdododdaaaGreatP20
import Derived.Deep.MidRow
set_option linter.unusedSimpArgs false
set_option linter.unusedVariables false
namespace Go.Proofs.YtolkhjdododdaaaGreat
open Go Go.RowKit
attribute [local go_sem] yields yUpon ro8 pa3

theorem foldRo_cols (a b : Ro) : (foldRo a b).cols.length ≤ a.cols.length + b.cols.length := foldG_len keyC joinCo a.cols b.cols
theorem put_cols {l : List Ro} {r : Ro} {N : Nat} (hl : ∀ p ∈ l, p.cols.length ≤ N) (hr : r.cols.length ≤ 1000) (hN : 1000 ≤ N) : ∀ p ∈ mergeG keyR foldRo l [r], p.cols.length ≤ N + 1000 := by
  intro p hp
  rcases mem_mergeI hp with h | h | ⟨a, ha, b, hb, _, rfl⟩
  · have := hl p h; omega
  · rw [List.mem_singleton.1 h]; omega
  · rw [List.mem_singleton.1 hb]
    have := foldRo_cols a r
    have := hl a ha
    omega

set_option maxRecDepth 100000 in
set_option maxHeartbeats 8000000 in
theorem join8_any (k k' : ByteArray) (g g' : Int) (u u' : Value) (ps ps' : List (Ro × Value)) (w : World) (h : RowsIn w u ps) (h' : RowsIn w u' ps') (hlen : ps.length ≤ 1000) (hlen' : ps'.length ≤ 100) (hcl : ∀ p ∈ ps, p.1.cols.length ≤ 1000) (hcl' : ∀ p ∈ ps', p.1.cols.length ≤ 1000) :
    Calls Tryz.prog 9 #[.agg #[.string k, .int .i64 g, u], .agg #[.string k', .int .i64 g', u']] w fun e w' => JoinPost w k (max g g') (foldG keyR foldRo (ps.map (·.1)) (ps'.map (·.1))) e w' := by
  obtain ⟨a0, a1, a2, hE⟩ := boxes3 w (pa3 k g u) (pa3 k' g' u') (pa3 ⟨#[]⟩ 0 (.slice none 0 0)) 39 39 39
  obtain ⟨J, hJ⟩ : ∃ J, J = foldG keyR foldRo (ps.map (·.1)) (ps'.map (·.1)) := ⟨_, rfl⟩
  rw [← hJ]
  have HJ := Lib.hid hJ
  clear hJ
  obtain ⟨mg, hmg⟩ : ∃ mg, mg = max g g' := ⟨_, rfl⟩
  rw [← hmg]
  have HMG := Lib.hid hmg
  clear hmg
  have h0 := h.ext hE
  obtain ⟨a, c, rfl, _⟩ := h.get
  obtain ⟨ab, cb, rfl, hcb, hcbm, hget⟩ := h'.get
  obtain ⟨m, hm⟩ : ∃ m, m = ps.length := ⟨_, rfl⟩
  obtain ⟨n, hn⟩ : ∃ n, n = ps'.length := ⟨_, rfl⟩
  rw [← hm] at a0 a1 a2 hE h0 hlen
  rw [← hm]
  rw [← hn] at a0 a1 a2 hE h0 h' hlen' hcb
  rw [← hn]
  have HGET := Lib.hid hget
  have HM := Lib.hid hm
  have HN := Lib.hid hn
  have HCL := Lib.hid hcl
  have HCL2 := Lib.hid hcl'
  clear hget hm hn hcl hcl' h
  go_enter Tryz.func9, Tryz.ntmps9
  go_wp2_with fail
  refine (copy8_any k g _ ps _ h0 (by have := HM.out; omega) (fun p hp => by have := HCL.out p hp; omega)).mono ?_
  rintro e w1 ⟨v1, rfl, qs1, hq1, hm1, hE1⟩
  obtain ⟨a1', c1', rfl⟩ := hq1.shape
  have b0 := a0.ext hE1
  have b1 := a1.ext hE1
  have b2 := a2.ext hE1
  have hX1 := hE.trans hE1
  clear a0 a1 a2 hE hE1 h0
  have hsz1 := b2.lt
  go_wp2_with (first
    | (((guard_target =~ wpList _ _ _ (Oper.mk none (Op.store _ (Operand.tmp 6) (Operand.tmp 9)) _ _ _ _ :: _) _ _); go_must (refine storeBox rfl 39 (.tmp 6) (.tmp 9) rfl (w1.heap.size) _ _ _ (by rfl) (by rfl) ((BoxAt.made w1 (pa3 ⟨#[]⟩ 0 (.slice none 0 0)) 39)) (by kernel_rfl) (by rfl) (by simp [Value.oneCell']) ?_); intro w4 c4 g4); have hX14 : Ext w1 w4 := ((Ext.refl w1).alloc _).grown g4 (fun q hq => by cases hq; omega); have d0 := b0.ext hX14; have d1 := b1.ext hX14; have d2 := b2.ext hX14; have z0 : w4.cell? ⟨w.heap.size, 1, none⟩ = some (.int .i64 g) := d0.cell 1; have z1 : w4.cell? ⟨w.heap.size + 1, 1, none⟩ = some (.int .i64 g') := d1.cell 1; have z2 : w4.cell? ⟨w1.heap.size, 1, none⟩ = some (.int .i64 g) := BoxAt.cell c4 1; have zf := BoxAt.free c4 1))
  rw [← HMG.out]
  obtain ⟨q, hq⟩ : ∃ q, q = w1.heap.size := ⟨_, rfl⟩
  rw [← hq]
  rw [← hq] at c4 g4 hsz1
  have hwq : w.heap.size + 1 + 1 < q := hsz1
  obtain ⟨wA, hwA⟩ : ∃ wA, wA = w4.setCell ⟨q, 1, none⟩ (.int .i64 mg) := ⟨_, rfl⟩
  have e1 : BoxAt wA (w.heap.size + 1) (pa3 k' g' (.slice ab n cb)) 39 := by rw [hwA]; exact d1.other (by omega) 1 _
  have e2 : BoxAt wA (w.heap.size + 1 + 1) (pa3 ⟨#[]⟩ 0 (.slice none 0 0)) 39 := by rw [hwA]; exact d2.other (by omega) 1 _
  have e3 : BoxAt wA q (pa3 k mg (.slice a1' qs1.length c1')) 39 := by rw [hwA]; exact BoxAt.set c4 1 _
  have eX : Ext w wA := by rw [hwA]; exact (hX1.trans hX14).setCell (p := ⟨q, 1, none⟩) (by show w.heap.size ≤ q; omega) _
  have eR : RowsT wA (.slice a1' qs1.length c1') qs1 := by rw [hwA]; exact RowsT.set 1 _ c4 (by decide) (by decide) (hq1.ext hX14)
  rw [← hwA]
  clear hwA z0 z1 z2 zf c4 g4 d0 d1 d2 hX14 hX1 b0 b1 b2 hq1 hq hsz1
  go_loopw [7] (fun i wr => ∃ (j : Nat) (vc : Value) (qs : List (Ro × Value)), j ≤ n ∧ i = .int .i64 j ∧ BoxAt wr q (pa3 k mg vc) 39 ∧ BoxAt wr (w.heap.size + 1) (pa3 k' g' (.slice ab n cb)) 39 ∧ BoxAt wr (w.heap.size + 1 + 1) (pa3 ⟨#[]⟩ 0 (.slice none 0 0)) 39 ∧ RowsT wr vc qs ∧ Hid (qs.map (·.1) = foldG keyR foldRo (ps.map (·.1)) ((ps'.map (·.1)).take j)) ∧ Hid (∀ p ∈ qs.map (·.1), p.cols.length ≤ 1000 * (j + 1)) ∧ Ext w wr) (fun i _ => n - (intOf i).toNat)
  case atStart =>
    refine ⟨0, _, qs1, Nat.zero_le _, rfl, e3, e1, e2, eR, ?_, ?_, eX⟩
    · show _ = _
      rw [hm1, List.take_zero]
      rfl
    · show ∀ p ∈ qs1.map (·.1), _
      rw [hm1]
      intro p hp
      obtain ⟨x, hx, rfl⟩ := List.mem_map.1 hp
      have := HCL.out x hx
      omega
  case round =>
    obtain ⟨j, vc, qs, hj, rfl, hbq, hb1, hb2, hqs, HQ, HB, hE⟩ := hrel
    have hql : qs.length ≤ m + j := by
      have := congrArg List.length HQ.out
      have h2 := foldG_len keyR foldRo (ps.map (·.1)) ((ps'.map (·.1)).take j)
      rw [List.length_map, List.length_take] at h2
      rw [List.length_map] at this
      have := HM.out
      omega
    have q2 : wr.cell? ⟨q, 2, none⟩ = some vc := hbq.cell 2
    have f2 : wr.cell? ⟨w.heap.size + 1, 2, none⟩ = some (.slice ab n cb) := hb1.cell 2
    obtain ⟨av, cv, rfl⟩ := hqs.shape
    by_cases hlt : j < n
    · have t1 : decide ((j : Int) < (n : Int)) = true := by simp; omega
      have hjp : j < ps'.length := by rw [← HN.out]; exact hlt
      obtain ⟨bb, oo, rfl, hat⟩ := HGET.out j hjp
      obtain ⟨r, hr⟩ : ∃ r, r = ps'[j].1 := ⟨_, rfl⟩
      obtain ⟨vr, hvr⟩ : ∃ v, v = ps'[j].2 := ⟨_, rfl⟩
      have hct : ColsIn w vr r.cols := by rw [hr, hvr]; exact h'.cols _ (List.getElem_mem hjp)
      have hrl : r.cols.length ≤ 1000 := by rw [hr]; exact HCL2.out _ (List.getElem_mem hjp)
      have hrow : (ps'.map (·.1)).take (j + 1) = (ps'.map (·.1)).take j ++ [r] := by
        rw [List.take_succ_eq_append_getElem (by rw [List.length_map]; exact hjp), List.getElem_map, hr]
      rw [← hr, ← hvr] at hat
      have HROW := Lib.hid hrow
      clear hr hvr hrow
      obtain ⟨ar, cr, rfl⟩ := hct.shape
      obtain ⟨y0, y1, y2, y3, y4, y5, y6, y7⟩ := hat.ext hE
      obtain ⟨Jm, hJm⟩ : ∃ Jm, Jm = mergeG keyR foldRo (qs.map (·.1)) [r] := ⟨_, rfl⟩
      have HJM := Lib.hid hJm
      clear hat hJm
      go_wp2_with fail
      refine wp_region_tab 9 [(7, fun v x => ∃ qs', RowsT x v qs' ∧ Hid (qs'.map (·.1) = Jm))] (by kernel_rfl) (by kernel_rfl) (by kernel_rfl) ⟨fun _ _ _ hE ⟨qs', h, h'⟩ => ⟨qs', h.ext hE, h'⟩, trivial⟩ ?_
      replace q2 := held q2
      replace f2 := held f2
      replace y0 := held y0
      replace y1 := held y1
      replace y2 := held y2
      replace y3 := held y3
      replace y4 := held y4
      replace y5 := held y5
      replace y6 := held y6
      replace y7 := held y7
      refine rg_quiet rfl rfl rfl rfl ?_; intro K hK; go_big_quiet_op; go_big_quiet_on
      refine rg_quiet rfl rfl rfl rfl ?_; intro K hK; go_big_quiet_op; go_big_quiet_on
      refine rg_quiet rfl rfl rfl rfl ?_; intro K hK; go_big_quiet_op; go_big_quiet_on
      refine rg_quiet rfl rfl rfl rfl ?_; intro K hK; go_big_quiet_op; go_big_quiet_on
      refine rg_quiet rfl rfl rfl rfl ?_; intro K hK; go_big_quiet_op; go_big_quiet_on
      refine rg_quiet rfl rfl rfl rfl ?_; intro K hK; go_big_quiet_op; go_big_quiet_on
      refine rg_quiet rfl rfl rfl rfl ?_; intro K hK; go_big_quiet_op; go_big_quiet_on
      refine rg_fact [] rfl rfl rfl (by kernel_rfl) (fun y hEy hf => ?_) (fun v9 y9 hE9 hG9 h9 => ?_)
      · go_simp
        refine (put8_any _ qs r _ y (hqs.ext hEy) (hct.ext (hE.trans hEy)) (by omega) (fun p hp => by have := HB.out p.1 (List.mem_map_of_mem hp); omega) (by omega)).mono ?_
        rintro e y' ⟨v', rfl, qs', h1, h2, hE'⟩
        rw [← HJM.out] at h2
        exact ⟨_, rfl, rg_doneR hEy hE' ⟨qs', h1, h2⟩⟩
      obtain ⟨qs9, h9, _⟩ := h9
      obtain ⟨a9, c9, rfl⟩ := h9.shape
      clear hE9 hG9 h9
      simp only [Act.put, List.setIfInBounds_toArray, List.set_cons_zero, List.set_cons_succ]
      refine rg_quiet rfl rfl rfl rfl ?_; intro K hK; go_big_quiet_op; go_big_quiet_on
      refine rel_tail rfl rfl fun w7 hE7 hG => ?_
      obtain ⟨qs', hqs', HQ'⟩ := (hG 7).2 rfl
      have hbq7 := hbq.ext hE7
      have qf := hbq7.free 2
      have qc : w7.cell? ⟨q, 2, none⟩ = some (.slice av qs.length cv) := hbq7.cell 2
      clear hG q2 f2 y0 y1 y2 y3 y4 y5 y6 y7 hbq
      go_wp2_with fail
      go_roundw
      case rel =>
        refine ⟨j + 1, _, qs', by omega, by go_num, hbq7.set 2 _, (hb1.ext hE7).other (by omega) 2 _, (hb2.ext hE7).other (by omega) 2 _, RowsT.set 2 _ hbq7 (by decide) (by decide) hqs', ?_, ?_, (hE.trans hE7).setCell (p := ⟨q, 2, none⟩) (by show w.heap.size ≤ q; omega) _⟩
        · show _ = _
          rw [HQ'.out, HJM.out, HQ.out, HROW.out, foldG_snoc]
        · show ∀ p ∈ qs'.map (·.1), _
          rw [HQ'.out, HJM.out]
          intro p hp
          have := put_cols HB.out hrl (by omega) p hp
          omega
      case measure => simp [intOf]; omega
    · obtain rfl : j = n := by omega
      have hqJ : qs.map (·.1) = J := by rw [HQ.out, HJ.out, List.take_of_length_le (by rw [List.length_map, ← HN.out]; exact Nat.le_refl _)]
      have hqn : qs.length = J.length := by rw [← hqJ, List.length_map]
      have HQN := Lib.hid hqn
      clear hqn
      obtain ⟨z0, z1, z2⟩ := hbq.pa
      clear q2
      by_cases h100 : qs.length ≤ 100
      · go_wp2_with ((guard_target =~ wpList _ _ _ (Oper.mk none (Op.store _ (Operand.tmp 4) (Operand.tmp 37)) _ _ _ _ :: _) _ _); go_must (refine storeBox rfl 39 (.tmp 4) (.tmp 37) rfl (w.heap.size + 1 + 1) _ _ _ (by rfl) (by rfl) (hb2) (by kernel_rfl) (by rfl) (by simp [Value.oneCell']) ?_); intro w8 c8 g8)
        have hX8 := hE.grown g8 (fun q hq => by cases hq; omega)
        have hrows := hqs.keep g8 hb2 (by decide) (by decide)
        clear z0 z1 z2
        obtain ⟨z0, z1, z2⟩ := BoxAt.pa (k := k) (g := mg) (u := .slice av qs.length cv) c8
        refine bodyPost_ret (v := .tuple #[.agg #[.string k, .int .i64 mg, .slice av qs.length cv], .bool true]) ?_ rfl ⟨hX8, .inl ⟨by have := HQN.out; omega, _, rfl, qs, hrows, hqJ⟩⟩
        simp [results, Tryz.results9, go_sem, Act.put, z0, z1, z2]
      · have t1 : decide ((100 : Int) < (qs.length : Int)) = true := by simp; omega
        go_wp2_with ((guard_target =~ wpList _ _ _ (Oper.mk none (Op.store _ (Operand.tmp 4) (Operand.tmp 36)) _ _ _ _ :: _) _ _); go_must (refine storeBox rfl 39 (.tmp 4) (.tmp 36) rfl (w.heap.size + 1 + 1) _ _ _ (by rfl) (by rfl) (hb2) (by kernel_rfl) (by rfl) (by simp [Value.oneCell']) ?_); intro w8 c8 g8)
        have hX8 := hE.grown g8 (fun q hq => by cases hq; omega)
        clear z0 z1 z2
        obtain ⟨z0, z1, z2⟩ := BoxAt.pa (k := ⟨#[]⟩) (g := 0) (u := .slice none 0 0) c8
        refine bodyPost_ret (v := .tuple #[.agg #[.string ⟨#[]⟩, .int .i64 0, .slice none 0 0], .bool false]) ?_ rfl ⟨hX8, .inr ⟨by have := HQN.out; omega, rfl⟩⟩
        simp [results, Tryz.results9, go_sem, Act.put, z0, z1, z2]
end Go.Proofs.YtolkhjdododdaaaGreat

/- Regions that draw their order, with a store of a whole partition into a variable made in the region. -/
namespace Go.Proofs.YtolkhjdododdaaaGreat
open Go Go.RowKit

/-- Operation n stores into a partition's variable that was made in the region (behind S blocks); the others let memory grow. -/
def SE (S n j : Nat) (x y : World) : Prop := if j = n then ∃ q Z Z', S ≤ q ∧ BoxAt x q Z 39 ∧ BoxAt y q Z' 39 ∧ Z'.size = 3 ∧ x.grownBy y (some q) else Ext x y
theorem SE_ext {S n j : Nat} {x y : World} (hj : j ≠ n) (h : Ext x y) : SE S n j x y := by unfold SE; rw [if_neg hj]; exact h
theorem SE_off {S n j : Nat} {x y : World} (hj : j ≠ n) (h : SE S n j x y) : Ext x y := by unfold SE at h; rwa [if_neg hj] at h
theorem SE_at {S n : Nat} {x y : World} {q : Nat} {Z Z' : Array Value} (hq : S ≤ q) (h1 : BoxAt x q Z 39) (h2 : BoxAt y q Z' 39) (h3 : Z'.size = 3) (hg : x.grownBy y (some q)) : SE S n n x y := by
  unfold SE; rw [if_pos rfl]; exact ⟨q, Z, Z', hq, h1, h2, h3, hg⟩
theorem SE_to {S n j : Nat} {w x y : World} (hS : w.heap.size ≤ S) (h : SE S n j x y) (hE : Ext w x) : Ext w y := by
  unfold SE at h
  split at h
  · obtain ⟨q, Z, Z', hq, _, _, _, hg⟩ := h
    exact hE.grown hg (fun p hp => by cases hp; omega)
  · exact hE.trans h
theorem SE_box {S n j : Nat} {x y : World} (h : SE S n j x y) {b : Nat} {cs : Array Value} {T : TypeId} (hT : T ≠ 39) (hb : BoxAt x b cs T) : BoxAt y b cs T := by
  unfold SE at h
  split at h
  · obtain ⟨q, Z, Z', hq, h1, _, _, hg⟩ := h
    exact hb.grown hg (fun e => box_ne hb h1 hT (Option.some.inj e))
  · exact hb.ext h
theorem SE_old {S n j : Nat} {x y : World} (h : SE S n j x y) {b : Nat} {cs : Array Value} {T : TypeId} (hS : b < S) (hb : BoxAt x b cs T) : BoxAt y b cs T := by
  unfold SE at h
  split at h
  · obtain ⟨q, Z, Z', hq, h1, _, _, hg⟩ := h
    exact hb.grown hg (fun e => by have := Option.some.inj e; omega)
  · exact hb.ext h
theorem SE_rows {S n j : Nat} {x y : World} (h : SE S n j x y) {v : Value} {qs : List (Ro × Value)} (hr : RowsT x v qs) : RowsT y v qs := by
  unfold SE at h
  split at h
  · obtain ⟨q, Z, Z', hq, h1, _, _, hg⟩ := h
    exact hr.keep hg h1 (by decide) (by decide)
  · exact hr.ext h
theorem SE_size {S n j : Nat} {x y : World} (h : SE S n j x y) : x.heap.size ≤ y.heap.size := by
  unfold SE at h
  split at h
  · obtain ⟨q, Z, Z', hq, h1, _, _, hg⟩ := h
    exact hg.size
  · exact h.le
theorem SE_part {S n j : Nat} {x y : World} (h : SE S n j x y) {b : Nat} (hb : ∃ Z, BoxAt x b Z 39 ∧ Z.size = 3) : ∃ Z, BoxAt y b Z 39 ∧ Z.size = 3 := by
  obtain ⟨Z, hb, hZ⟩ := hb
  unfold SE at h
  split at h
  · obtain ⟨q, Z1, Z2, hq, h1, h2, h3, hg⟩ := h
    by_cases e : b = q
    · subst e; exact ⟨Z2, h2, h3⟩
    · exact ⟨Z, hb.grown hg (fun e' => e (Option.some.inj e')), hZ⟩
  · exact ⟨Z, hb.ext h, hZ⟩
end Go.Proofs.YtolkhjdododdaaaGreat

/- 'append' to a row of one's own: where the row lies then. -/
namespace Go.Proofs.YtolkhjdododdaaaGreat
open Go Go.RowKit

theorem run_append_where {P : Program} (w : World) (base : Nat) (t ty e : TypeId) (i : TypeInfo) (z : Value) (size bytes : Nat) (ht : P.underlying t = some (.slice e)) (hi : P.info? e = some i) (hz : i.zero = some z)
    (hsize : i.size = size) (hby : i.bytes = bytes) (hzs : z.cells.size = size) (hsz : 0 < size)
    (v : Value) (n : Nat) (xs : List Value) (hown : w.ownsRow base e size v n xs)
    (a : Addr) (m c : Nat) (news : List Value) (hl : news.length = m * size) (hnews : ∀ j u, news[j]? = some u → w.cell? (a.add j) = some u) (h1 : ∀ u ∈ news, u.oneCell' = true)
    (h63 : n + m ≤ maxLen) (hbytes : (n + m) * bytes ≤ 140737488355328) (hbase : base ≤ w.heap.size) :
    ∃ v' w', (Builtin.append_ #[t, t] ty #[v, .slice (some a) m c]).run P w = .ok v' w' ∧ w'.ownsRow base e size v' (n + m) (xs ++ news) ∧ w.grownBy w' v.ownBlock ∧ ∀ k, v'.ownBlock = some k → v.ownBlock = some k ∨ w.heap.size ≤ k := by
  obtain ⟨v', w', hr, ho, hg, _⟩ := run_append_own (P := P) w base t ty e i z size bytes ht hi hz hsize hby hzs hsz v n xs hown a m c news hl hnews h1 h63 hbytes hbase
  refine ⟨v', w', hr, ho, hg, ?_⟩
  rcases hown.2 with ⟨rfl, rfl⟩ | ⟨g, cap, cur, rfl, hb, hcur, hn, hm, hcs, htake⟩
  · have hx0 := List.eq_nil_of_length_eq_zero (show xs.length = 0 by have := hown.1; simpa using this)
    subst hx0
    obtain ⟨v2, w2, hr2, ho2, _, _⟩ := run_append_own (P := P) w w.heap.size t ty e i z size bytes ht hi hz hsize hby hzs hsz (.slice none 0 0) 0 [] (World.ownsRow_nil _ _ _ _) a m c news hl hnews h1 h63 hbytes (Nat.le_refl _)
    rw [hr] at hr2
    injection hr2 with e1 e2
    subst e1 e2
    exact fun k hk => .inr (ho2.lt k hk).1
  · by_cases hroom : n + m ≤ cap
    · have hfit : n * i.size + news.length ≤ cur.size := by
        rw [hl, hsize, ← Nat.add_mul, hcs]
        exact Nat.mul_le_mul_right _ hroom
      have hr2 := run_append_room (P := P) w t ty e i ht hi g n cap cur hcur a m c news (by rw [hsize]; exact hl) hnews h1 hroom hfit
      rw [hr] at hr2
      injection hr2 with e1 e2
      subst e1
      exact fun k hk => .inl hk
    · obtain ⟨v2, w2, hr2, ho2, _⟩ := run_append_arg_grows (P := P) w t ty e i z size bytes ht hi hz hsize hby hzs hsz ⟨g, 0, none⟩ n cap xs hown.1 (fun j u hj => by
        rw [Addr.add_lit, Nat.zero_add, cell_of_row w g j cur e (0, 0) hcur]
        rw [← htake, List.getElem?_take] at hj
        split at hj
        · simpa using hj
        · cases hj) a m c news hl hnews (by omega) h63 hbytes
      rw [hr] at hr2
      injection hr2 with e1 e2
      subst e1 e2
      exact fun k hk => .inr (ho2.lt k hk).1
/-- As appR; and where the row lies then. -/
theorem appRw {P : Program} {T e : TypeId} {z : Value} {size bytes : Nat} (info : (P.info? e).map (fun i => (i.zero, i.size, i.bytes)) = some (some z, size, bytes)) (und : P.underlying T = some (.slice e)) (hzs : z.cells.size = size) (hsz : 0 < size)
    {ops : Array Oper} {rest : List Oper} {o : Oper} {a : Act} {Q : Exit → Act → World → Prop} (w : World) (hg : o.guard = none) (s x : Operand)
    (hop : o.op = Op.call { callee := Callee.builtin Builtin.append, args := #[s, x], argTypes := #[T, T] })
    (B : Nat) (hB : B ≤ w.heap.size) (v : Value) (n : Nat) (xs : List Value) (hown : w.ownsRow B e size v n xs) (hs : a.eval s = v) (m : Nat) (cs : Array Value) (hx : a.eval x = .slice (some ⟨w.heap.size, 0, none⟩) m m)
    (hcs : cs.size = m * size) (h1c : ∀ u ∈ cs.toList, u.oneCell' = true) (hb1 : n + m ≤ maxLen) (hb : (n + m) * bytes ≤ 140737488355328)
    (hK : ∀ v' w', w'.ownsRow B e size v' (n + m) (xs ++ cs.toList) → (w.alloc (.cells cs e)).grownBy w' v.ownBlock → (∀ k, v'.ownBlock = some k → v.ownBlock = some k ∨ w.heap.size ≤ k) → wpList P ops Q rest (a.put o.dst v') w') : wpList P ops Q (o :: rest) a (w.alloc (.cells cs e)) := by
  obtain ⟨i0, hi, hz0, hz1, hz2⟩ := info_parts info
  refine wpList_plain hg fun K hK' => ?_
  obtain ⟨v', w', hrun, r1, r2, r3⟩ := run_append_where (P := P) (w.alloc (.cells cs e)) B T o.type e i0 z size bytes und hi hz0 hz1 hz2 hzs hsz v n xs (hown.alloc _) ⟨w.heap.size, 0, none⟩ m m cs.toList (by simpa using hcs) (fun j u hj => by
    rw [Addr.add_lit, Nat.zero_add, cell_of_row _ w.heap.size j cs e (0, 0) (heap_alloc_new w _)]
    simpa using hj) h1c hb1 hb (by simp; omega)
  unfold Oper.wp
  simp [execOp, hop, resolve, invoke, builtin, hs, hx, hrun, Result.andThen]
  exact hK' _ _ (hK v' w' r1 r2 fun k hk => (r3 k hk).imp_right fun h => by simp at h; omega)
end Go.Proofs.YtolkhjdododdaaaGreat

/- A delta put into a view (law19.put). -/
namespace Go.Proofs.YtolkhjdododdaaaGreat
open Go Go.RowKit
attribute [local go_sem] yields yUpon ro8 pa3

/-- A view's partitions as plain data. -/
def viL (L : List Pa) : Vi := L.map fun q => (q.key, q.ps.map (·.1))
theorem paCells_set (P : Pa) : ∀ (l : List Pa) (i : Nat), i < l.length → paCells (l.set i P) = (((paCells l).set (i * 3) (.string P.key)).set (i * 3 + 1) (.int .i64 P.gone)).set (i * 3 + 2) P.rv
  | d :: l, 0, _ => by simp [paCells]
  | d :: l, i + 1, h => by
    have ih := paCells_set P l i (by simpa using h)
    have e : (i + 1) * 3 = i * 3 + 3 := by omega
    simp only [e, List.set_cons_succ, paCells, ih]
theorem own_putP {B g n cap : Nat} {w : World} {X : List Pa} (h : w.ownsRow B 39 3 (.slice (some ⟨g, 0, none⟩) n cap) n (paCells X)) (i : Nat) (hi : i < X.length) (P : Pa) :
    (w.setCells g (i * 3) (pa3 P.key P.gone P.rv).toList).ownsRow B 39 3 (.slice (some ⟨g, 0, none⟩) n cap) n (paCells (X.set i P)) ∧ w.grownBy (w.setCells g (i * 3) (pa3 P.key P.gone P.rv).toList) (some g) := by
  rw [paCells_set P X i hi]
  obtain ⟨h1, g1⟩ := h.stored (i * 3) (.string P.key)
  obtain ⟨h2, g2⟩ := h1.stored (i * 3 + 1) (.int .i64 P.gone)
  obtain ⟨h3, g3⟩ := h2.stored (i * 3 + 2) P.rv
  exact ⟨h3, grownBy_trans g1 (grownBy_trans g2 g3)⟩
theorem own_thereP {B g n cap : Nat} {w : World} {X : List Value} (h : w.ownsRow B 39 3 (.slice (some ⟨g, 0, none⟩) n cap) n X) (o m : Nat) (hm : o + m ≤ n * 3) : w.there g o m := by
  rcases h.2 with ⟨h', _⟩ | ⟨g', cap', cur, h', hb, hg, hnc, hcm, hcs, htake⟩
  · cases h'
  · cases h'
    exact fun j hj => ⟨by rw [var_cell hg]; simp; omega, var_free hg _⟩
theorem putV_at {a : ByteArray} {s : Ro} : ∀ (L : List Pa) (k : Nat) (P : Pa), (hk : k < L.length) → (∀ j (h : j < L.length), j < k → (L[j].key.toList == a.toList) = false) → (L[k].key.toList == a.toList) = true →
    P.key = L[k].key → P.ps.map (·.1) = mergeRo (L[k].ps.map (·.1)) [s] → putV (viL L) (a, s) = viL (L.set k P)
  | q :: L, 0, P, _, _, h1, h2, h3 => by
    show putV ((q.key, q.ps.map (·.1)) :: viL L) (a, s) = (P.key, P.ps.map (·.1)) :: viL L
    unfold putV
    rw [if_pos (by simpa using h1), h2, h3]
    rfl
  | q :: L, k + 1, P, hk, h0, h1, h2, h3 => by
    show putV ((q.key, q.ps.map (·.1)) :: viL L) (a, s) = (q.key, q.ps.map (·.1)) :: viL (L.set k P)
    unfold putV
    have := h0 0 (by simp) (by omega)
    rw [if_neg (by simpa using this), putV_at L k P (by simpa using hk) (fun j h hj => by have := h0 (j + 1) (by simpa using h) (by omega); simpa using this) (by simpa using h1) (by simpa using h2) (by simpa using h3)]
theorem putV_not {a : ByteArray} {s : Ro} : ∀ (L : List Pa), (∀ j (h : j < L.length), (L[j].key.toList == a.toList) = false) → putV (viL L) (a, s) = viL L ++ [(a, [s])]
  | [], _ => rfl
  | q :: L, h0 => by
    show putV ((q.key, q.ps.map (·.1)) :: viL L) (a, s) = (q.key, q.ps.map (·.1)) :: (viL L ++ [(a, [s])])
    unfold putV
    have := h0 0 (by simp)
    rw [if_neg (by simpa using this), putV_not L fun j h => by have := h0 (j + 1) (by simpa using h); simpa using this]

set_option maxRecDepth 100000 in
set_option maxHeartbeats 8000000 in
theorem put19_any (B : Nat) (v : Value) (L : List Pa) (a : ByteArray) (pu : Value) (pq : List (Ro × Value)) (s : Ro) (w : World) (hB : B ≤ w.heap.size) (hown : w.ownsRow B 39 3 v L.length (paCells L)) (hL : ∀ q ∈ L, RowsT w q.rv q.ps) (hg0 : ∀ q ∈ L, q.gone = 0) (hp : RowsIn w pu pq) (hps : pq.map (·.1) = [s])
    (hlen : L.length ≤ 1000) (hgood : ∀ q ∈ L, GoodRs (q.ps.map (·.1))) (hup : Up kCo s.cols) (hcl : ∀ q ∈ L, ∀ p ∈ q.ps, p.1.cols.length ≤ 1000) (hsl : s.cols.length ≤ 1000) (hroom : ∀ q ∈ L, q.ps.length ≤ 99) :
    Calls Tryz.prog 11 #[v, .agg #[.string a, .int .i64 0, pu]] w fun e w' => ∃ v' L', e = .returned (.tuple #[v', .bool true]) ∧ w'.ownsRow B 39 3 v' L'.length (paCells L') ∧ (∀ q ∈ L', RowsT w' q.rv q.ps) ∧ (∀ q ∈ L', q.gone = 0) ∧ viL L' = putV (viL L) (a, s) ∧ w.grownBy w' v.ownBlock ∧ ∀ k, v'.ownBlock = some k → v.ownBlock = some k ∨ w.heap.size ≤ k := by
  have a0 := BoxAt.made w (pa3 a 0 pu) 39
  have hE0 := (Ext.refl w).alloc (.cells (pa3 a 0 pu) 39)
  have hpt : PartsT w v L := ⟨TIn.own hown, hL⟩
  obtain ⟨av, cv, rfl, hcv, hcvm, hget⟩ := hpt.get
  obtain ⟨ap, cp, rfl, _⟩ := hp.get
  have hpl : pq.length = 1 := by have := congrArg List.length hps; simpa using this
  obtain ⟨n, hn⟩ : ∃ n, n = L.length := ⟨_, rfl⟩
  rw [← hn] at hown hcv hlen ⊢
  rw [hpl] at a0 hE0 hp ⊢
  have HN := Lib.hid hn
  have HG := Lib.hid hget
  have HL := Lib.hid hL
  have HG0 := Lib.hid hg0
  have HPS := Lib.hid hps
  have HGOOD := Lib.hid hgood
  have HCL := Lib.hid hcl
  have HROOM := Lib.hid hroom
  clear hn hget hL hg0 hps hgood hcl hroom hpt hpl
  go_enter Tryz.func11, Tryz.ntmps11
  go_wp2_with fail
  go_loopw [6] (fun i wr => ∃ k : Nat, k ≤ n ∧ i = .int .i64 k ∧ BoxAt wr w.heap.size (pa3 a 0 (.slice ap 1 cp)) 39 ∧ Ext w wr ∧ Hid (∀ j (h : j < L.length), j < k → (L[j].key.toList == a.toList) = false)) (fun i _ => n - (intOf i).toNat)
  case atStart => exact ⟨0, Nat.zero_le _, rfl, a0, hE0, fun j h hj => absurd hj (Nat.not_lt_zero _)⟩
  case round =>
    obtain ⟨k, hk, rfl, hb, hE, HK⟩ := hrel
    clear a0 hE0
    obtain ⟨x0, x1, x2⟩ := hb.pa
    by_cases hlt : k < n
    · have hki : decide ((k : Int) < (n : Int)) = true := by simpa using hlt
      have hkL : k < L.length := by rw [← HN.out]; exact hlt
      obtain ⟨g, rfl, hat⟩ := HG.out k hkL
      obtain ⟨P, hP⟩ : ∃ P, P = L[k] := ⟨_, rfl⟩
      rw [← hP] at hat
      have HP := Lib.hid hP
      have hPr := HL.out P (by rw [hP]; exact List.getElem_mem hkL)
      have hPg := HG0.out P (by rw [hP]; exact List.getElem_mem hkL)
      have hPgood := HGOOD.out P (by rw [hP]; exact List.getElem_mem hkL)
      have hPcl := HCL.out P (by rw [hP]; exact List.getElem_mem hkL)
      have hProom := HROOM.out P (by rw [hP]; exact List.getElem_mem hkL)
      clear hP
      obtain ⟨Pk, Pgn, Prv, Pps⟩ := P
      simp only at hat hPr hPg hPgood hPcl hProom
      subst hPg
      obtain ⟨ar, cr, rfl⟩ := hPr.shape
      have hat1 := hat.ext hE
      obtain ⟨g0, g1, g2⟩ := hat1
      simp only at g0 g1 g2
      obtain ⟨BK, hBK⟩ : ∃ B, B = (Pk.toList == a.toList) := ⟨_, rfl⟩
      have HBK := Lib.hid hBK
      have hBKs := hBK.symm
      clear hBK
      go_wp2_with fail
      refine wp_region_tab 8 [(7, fun v _ => v = .bool BK)] (by kernel_rfl) (by kernel_rfl) (by kernel_rfl) ⟨stays_eq _, trivial⟩ ?_
      replace g0 := held g0
      replace x0 := held x0
      refine rg_quiet rfl rfl rfl rfl ?_; intro K hK; go_big_quiet_op; go_big_quiet_on
      refine rg_quiet rfl rfl rfl rfl ?_; intro K hK; go_big_quiet_op; go_big_quiet_on
      refine rg_quiet rfl rfl rfl rfl ?_; intro K hK; go_big_quiet_op; go_big_quiet_on
      refine rg_quiet rfl rfl rfl rfl ?_; intro K hK; go_big_quiet_op; go_big_quiet_on
      refine rg_quiet rfl rfl rfl rfl ?_; intro K hK; go_big_quiet_op; go_big_quiet_on
      refine rg_quiet rfl rfl rfl rfl ?_; intro K hK; go_big_quiet_op; go_big_quiet_on
      refine rg_quiet rfl rfl rfl rfl ?_; intro K hK; go_big_quiet_op; go_big_quiet_on
      refine rg_val [] rfl rfl rfl (by kernel_rfl) (fun y hY hf => ?_) ?_
      · go_simp
        exact rg_done hY (Ext.refl y) rfl
      simp only [Act.put, List.setIfInBounds_toArray, List.set_cons_zero, List.set_cons_succ]
      refine rel_nil fun w5 hE5 _ => ?_
      have hE5w := hE.trans hE5
      have hb5 := hb.ext hE5
      clear x0 x1 x2 g0 g1 g2 hb hE hE5 hBKs
      cases BK
      · clear hat hPr hPgood hPcl hProom
        obtain ⟨z0, z1, z2⟩ := hb5.pa
        go_wp2_with fail
        go_roundw
        case rel =>
          refine ⟨k + 1, by omega, by go_num, hb5, hE5w, fun j h hj => ?_⟩
          by_cases hjk : j < k
          · exact HK.out j h hjk
          · obtain rfl : j = k := by omega
            rw [← HP.out]
            exact HBK.out.symm
        case measure => simp [intOf] <;> omega
      · have hsg := good_one hup
        have hJe : foldG keyR foldRo (Pps.map (·.1)) (pq.map (·.1)) = mergeRo (Pps.map (·.1)) [s] := by rw [HPS.out]; exact fold_merge hPgood hsg
        obtain ⟨J, hJ⟩ : ∃ J, J = mergeRo (Pps.map (·.1)) [s] := ⟨_, rfl⟩
        have hJl : J.length ≤ 100 := by rw [hJ]; have := mergeG_len keyR joinRo (Pps.map (·.1)) [s]; unfold mergeRo; simp only [List.length_map, List.length_cons, List.length_nil] at this; omega
        rw [← hJ] at hJe
        have HJ := Lib.hid hJ
        have HJE := Lib.hid hJe
        have hat5 := hat.ext hE5w
        have hr5 := hPr.ext hE5w
        have hp5 := hp.ext hE5w
        have hown5 := ownsRow_ext hown hE5w
        have hpq1 : ∀ p ∈ pq, p.1.cols.length ≤ 1000 := fun p hpm => by
          have : p.1 ∈ pq.map (·.1) := List.mem_map_of_mem hpm
          rw [HPS.out] at this
          rw [List.mem_singleton.1 this]
          exact hsl
        have hpql : pq.length ≤ 100 := by have := congrArg List.length HPS.out; simp at this; omega
        have HQ1 := Lib.hid hpq1
        have HPC := Lib.hid hPcl
        clear hJ hJe hat hPr hPgood hsg hpq1 hPcl hp hown
        obtain ⟨z0, z1, z2⟩ := hb5.pa
        go_wp2_with fail
        clear z0 z1 z2
        refine wp_region_relE (fun x => Ext w5 x) (SE w5.heap.size 10) (TabP.at [(3, fun _ v _ => v = .agg #[.string Pk, .int .i64 0, .slice ar Pps.length cr]), (4, fun _ v _ => v = .agg #[.string a, .int .i64 0, .slice ap 1 cp]), (5, fun _ v x => ∃ v' qs, v = .tuple #[.agg #[.string Pk, .int .i64 0, v'], .bool true] ∧ RowsT x v' qs ∧ Hid (qs.map (·.1) = J)), (9, fun _ v x => ∃ b, v = .pointer (some ⟨b, 0, none⟩) ∧ w5.heap.size ≤ b ∧ ∃ Z, BoxAt x b Z 39 ∧ Z.size = 3), (10, fun L _ x => ∃ b Z, L = [.pointer (some ⟨b, 0, none⟩), .agg Z] ∧ BoxAt x b Z 39)])
          (TabP.staysE ⟨fun _ _ _ _ _ _ _ h => h, fun _ _ _ _ _ _ _ h => h, fun _ _ _ _ _ _ hR ⟨v', qs, e, hr, hm⟩ => ⟨v', qs, e, SE_rows hR hr, hm⟩, fun _ _ _ _ _ _ hR ⟨b, e, hb, hz⟩ => ⟨b, e, hb, SE_part hR hz⟩, fun _ _ hj _ _ _ hR ⟨b, Z, e, hb⟩ => ⟨b, Z, e, hb.ext (SE_off hj hR)⟩, trivial⟩)
          12 (by kernel_rfl) (by kernel_rfl) (by kernel_rfl) (Ext.refl w5).drew ?_
        refine relE_quiet rfl rfl rfl rfl ?_; intro K hK; go_big_quiet_op; (first | refine ⟨_, fun _ _ => rfl, hK _ ?_⟩ | refine hK _ ?_); clear hK K
        refine relE_quiet rfl rfl rfl rfl ?_; intro K hK; go_big_quiet_op; (first | refine ⟨_, fun _ _ => rfl, hK _ ?_⟩ | refine hK _ ?_); clear hK K
        refine relE_quiet rfl rfl rfl rfl ?_; intro K hK; go_big_quiet_op; (first | refine ⟨_, fun _ _ => rfl, hK _ ?_⟩ | refine hK _ ?_); clear hK K
        refine relE_val [] rfl rfl rfl (by kernel_rfl) (fun y hy hf => ?_) ?_
        · obtain ⟨q0, q1, q2⟩ := hat5.ext hy
          simp only at q0 q1 q2
          go_simp
          exact ⟨hy, SE_ext (by decide) (Ext.refl y), rfl⟩
        simp only [Act.put, List.setIfInBounds_toArray, List.set_cons_zero, List.set_cons_succ]
        refine relE_val [] rfl rfl rfl (by kernel_rfl) (fun y hy hf => ?_) ?_
        · obtain ⟨q0, q1, q2⟩ := (hb5.ext hy).pa
          go_simp
          exact ⟨hy, SE_ext (by decide) (Ext.refl y), rfl⟩
        simp only [Act.put, List.setIfInBounds_toArray, List.set_cons_zero, List.set_cons_succ]
        refine relE_fact [] rfl rfl rfl (by kernel_rfl) (fun y hy hf => ?_) (fun v8 z8 hC8 hG8 h8 => ?_)
        · go_simp
          refine (join8_any Pk a 0 0 _ _ Pps pq y (hr5.ext hy).rows (hp5.ext hy) (by omega) hpql HPC.out HQ1.out).mono ?_
          rw [HJE.out, show max (0 : Int) 0 = 0 by decide]
          rintro e y' ⟨hE', ⟨_, v', rfl, qs, hqs, hqm⟩ | ⟨hbad, _⟩⟩
          · exact ⟨_, rfl, hy.trans hE', SE_ext (by decide) hE', v', rfl, qs, hqs, hqm⟩
          · omega
        obtain ⟨v9, qs9, rfl, hqs9, _⟩ := h8
        obtain ⟨a9, c9, rfl⟩ := hqs9.shape
        clear hC8 hG8 hqs9
        simp only [Act.put, List.setIfInBounds_toArray, List.set_cons_zero, List.set_cons_succ]
        refine relE_quiet rfl rfl rfl rfl ?_; intro K hK; go_big_quiet_op; (first | refine ⟨_, fun _ _ => rfl, hK _ ?_⟩ | refine hK _ ?_); clear hK K
        refine relE_quiet rfl rfl rfl rfl ?_; intro K hK; go_big_quiet_op; (first | refine ⟨_, fun _ _ => rfl, hK _ ?_⟩ | refine hK _ ?_); clear hK K
        refine relE_quiet rfl rfl rfl rfl ?_; intro K hK; go_big_quiet_op; (first | refine ⟨_, fun _ _ => rfl, hK _ ?_⟩ | refine hK _ ?_); clear hK K
        refine relE_fact [] rfl rfl rfl (by kernel_rfl) (fun y hy hf => ?_) (fun v6 z6 hC6 hG6 h6 => ?_)
        · go_simp
          exact ⟨hy.trans ((Ext.refl y).alloc _), SE_ext (by decide) ((Ext.refl y).alloc _), _, rfl, hy.le, _, BoxAt.made y _ _, rfl⟩
        obtain ⟨b12, rfl, _, _⟩ := h6
        clear hC6 hG6
        simp only [Act.put, List.setIfInBounds_toArray, List.set_cons_zero, List.set_cons_succ]
        refine relE_factP [9] rfl rfl rfl (by kernel_rfl) (fun y hy hf => ?_) (fun v6 z6 hC6 hG6 h6 => ?_)
        · obtain ⟨b, e, hb, Z, hbox, hZ⟩ := (hf 9 (by simp)).2 rfl
          cases e
          refine yields_storeBox 39 (.tmp 7) (.tmp 30) rfl b12 #[.string Pk, .int .i64 0, .slice a9 qs9.length c9] Z _ rfl rfl hbox (by kernel_rfl) hZ (by simp [Value.oneCell']) ?_
          intro y' hb' hg'
          have hR : SE w5.heap.size 10 10 y y' := SE_at hb hbox hb' rfl hg'
          exact ⟨SE_to (Nat.le_refl _) hR hy, hR, b12, _, rfl, hb'⟩
        clear h6 hC6 hG6
        simp only [Act.put, List.setIfInBounds_toArray, List.set_cons_zero, List.set_cons_succ]
        refine relE_quiet rfl rfl rfl rfl ?_; intro K hK; go_big_quiet_op; (first | refine ⟨_, fun _ _ => rfl, hK _ ?_⟩ | refine hK _ ?_); clear hK K
        refine relE_nil fun w9 hC hG => ?_
        obtain ⟨v8, qs, e8, hrows9, HQ⟩ := (hG 5).1.1.2 rfl
        obtain ⟨b13, Z13, e13, hbox9⟩ := (hG 10).2 rfl
        have e13' : [Value.pointer (some ⟨b12, 0, none⟩), Value.agg #[.string Pk, .int .i64 0, .slice a9 qs9.length c9]] = [.pointer (some ⟨b13, 0, none⟩), .agg Z13] := e13
        cases e13'
        cases e8
        have hE9 : Ext w w9 := hE5w.trans hC
        have hown9 := ownsRow_ext hown5 hC
        obtain ⟨y0, y1, y2⟩ := BoxAt.pa (k := Pk) (g := 0) (u := .slice a9 qs9.length c9) hbox9
        obtain ⟨n9, hn9⟩ : ∃ n9, n9 = qs9.length := ⟨_, rfl⟩
        rw [← hn9] at hrows9 hbox9 y2 ⊢
        clear hC hG e13 hn9
        go_wp2_with ((guard_target =~ wpList _ _ _ (Oper.mk none (Op.store _ (Operand.tmp 35) _) _ _ _ _ :: _) _ _); go_must (refine wpList_store_mid rfl 39 (.tmp 35) (.tmp 34) rfl g (k * 3) (pa3 Pk 0 (.slice a9 n9 c9)) (by rfl) (by rfl) (own_thereP hown9 (k * 3) 3 (by omega)) (by kernel_rfl) (by simp [pa3, Value.oneCell']) ?_))
        obtain ⟨ho, hgr⟩ := own_putP hown9 k hkL ⟨Pk, 0, .slice a9 n9 c9, qs⟩
        refine bodyPost_ret (v := .tuple #[.slice (some ⟨g, 0, none⟩) n cv, .bool true]) ?_ rfl ⟨_, L.set k ⟨Pk, 0, .slice a9 n9 c9, qs⟩, rfl, by rw [List.length_set, ← HN.out]; exact ho, fun q hq => ?_, fun q hq => ?_, ?_, ext_grownBy hE9 hgr, fun k hk => .inl hk⟩
        · simp [results, Tryz.results11, go_sem]
        · rcases List.mem_or_eq_of_mem_set hq with h | rfl
          · exact ((HL.out q h).ext hE9).keepOwn hown9 hgr (by decide) (by decide)
          · exact hrows9.keepOwn hown9 hgr (by decide) (by decide)
        · rcases List.mem_or_eq_of_mem_set hq with h | rfl
          · exact HG0.out q h
          · rfl
        · exact (putV_at L k ⟨Pk, 0, .slice a9 n9 c9, qs⟩ hkL (fun j h hj => HK.out j h hj) (by rw [← HP.out]; exact HBK.out.symm) (by rw [← HP.out]) (by rw [← HP.out]; exact HQ.out.trans HJ.out)).symm
    · obtain rfl : k = n := by omega
      have hki : decide ((k : Int) < (k : Int)) = false := by simp
      have hpql : pq.length = 1 := by have := congrArg List.length HPS.out; simpa using this
      go_wp2_with fail
      refine (copy8_any a 0 (.slice ap 1 cp) pq wr (hp.ext hE) (by omega) (fun p hpm => ?_)).mono ?_
      · have : p.1 ∈ pq.map (·.1) := List.mem_map_of_mem hpm
        rw [HPS.out] at this
        rw [List.mem_singleton.1 this]
        omega
      rintro e w1 ⟨v1, rfl, qs, hqs, hqm, hE1⟩
      rw [HPS.out] at hqm
      have hown1 := ownsRow_ext hown (hE.trans hE1)
      have hE1w := hE.trans hE1
      have hB1 : B ≤ w1.heap.size := by have := hE1w.le; omega
      obtain ⟨a1, c1, rfl⟩ := hqs.shape
      obtain ⟨n1, hn1⟩ : ∃ n1, n1 = qs.length := ⟨_, rfl⟩
      rw [← hn1] at hqs ⊢
      clear hn1
      have HQM := Lib.hid hqm
      clear hqm x0 x1 x2
      go_wp2_with (at_builtin; go_must (refine appRw info_Part und_Parts rfl (by decide) w1 rfl (.tmp 38) (.tmp 41) rfl B hB1 _ k _ hown1 (by rfl) 1 (pa3 a 0 (.slice a1 n1 c1)) (by rfl) (by rfl) (by simp [pa3, Value.oneCell']) (by unfold maxLen; omega) (by omega) ?_); intro m3 w3 hown3 hg3 hw3)
      have hX := (Ext.refl w1).alloc (.cells (pa3 a 0 (.slice a1 n1 c1)) 39)
      have hownA := ownsRow_ext hown1 hX
      refine bodyPost_ret (v := .tuple #[m3, .bool true]) ?_ rfl ⟨_, L ++ [⟨a, 0, .slice a1 n1 c1, qs⟩], rfl, ?_, fun q hq => ?_, fun q hq => ?_, ?_, ext_grownBy (hE1w.trans hX) hg3, fun k hk => (hw3 k hk).imp_right fun h => by have := hE1w.le; omega⟩
      · simp [results, Tryz.results11, go_sem]
      · rw [List.length_append, ← HN.out, paCells_append]; exact hown3
      · rcases List.mem_append.1 hq with h | h
        · exact (((HL.out q h).ext hE1w).ext hX).keepOwn hownA hg3 (by decide) (by decide)
        · rw [List.mem_singleton.1 h]; exact (hqs.ext hX).keepOwn hownA hg3 (by decide) (by decide)
      · rcases List.mem_append.1 hq with h | h
        · exact HG0.out q h
        · rw [List.mem_singleton.1 h]
      · rw [putV_not L fun j h => HK.out j h (by have := HN.out; omega)]
        unfold viL
        rw [List.map_append]
        simp [HQM.out]
end Go.Proofs.YtolkhjdododdaaaGreat
