/- PartSees: what is seen of a join: the law's walk. -/
import Derived.Test.YteamiiekpjoclaaM7
import Derived.Test.YteamiiekpjoclaaM19
import Derived.Test.YteamiiekpjoclaaM20
import Derived.Test.YteamiiekpjoclaaM21
namespace Go.Proofs.Yteamiiekpjoclaa
open Go Go.RowKit
attribute [local go_sem] yields yUpon ro8 pa3

/-- One row of a list of rows. -/
theorem rows_sub {w : World} {b o n c : Nat} {ps : List (Ro × Value)} (h : RowsIn w (.slice (some ⟨b, o, none⟩) n c) ps) {k : Nat} (hk : k < ps.length) (hc : k < c) : RowsIn w (.slice (some ⟨b, o + k * 8, none⟩) 1 (c - k)) [ps[k]] := by
  obtain ⟨a', c', e, hc', hcm', ha', hcell⟩ := h.rows
  cases e
  refine ⟨⟨_, _, rfl, by simp; omega, by omega, nofun, fun j u hj => ?_⟩, fun p hp => by rw [List.mem_singleton.1 hp]; exact h.cols _ (List.getElem_mem hk)⟩
  have hj8 : j < 8 := by have := (List.getElem?_eq_some_iff.1 hj).1; rw [roCells_length] at this; simpa using this
  have e : (roCells ps)[k * 8 + j]? = (roCells [ps[k]])[j]? := by
    have hsp : ps = ps.take k ++ (ps[k] :: ps.drop (k + 1)) := by rw [← List.drop_eq_getElem_cons hk, List.take_append_drop]
    conv => lhs; rw [hsp, roCells_append]
    have hl : (roCells (ps.take k)).length = k * 8 := by rw [roCells_length, List.length_take]; rw [Nat.min_eq_left (by omega)]
    rw [List.getElem?_append_right (by omega), hl, Nat.add_sub_cancel_left, show ps[k] :: ps.drop (k + 1) = [ps[k]] ++ ps.drop (k + 1) from rfl, roCells_append, List.getElem?_append_left (by rw [roCells_length]; simpa using hj8)]
  obtain ⟨b', o', e', hx⟩ := hcell (k * 8 + j) u (e.trans hj)
  cases e'
  exact ⟨b, o + k * 8, rfl, by rw [Nat.add_assoc]; exact hx⟩

theorem rowOf_few {l : List Ro} (h : FewCols l) (k : ByteArray) : (rowOf l k).cols.length ≤ 500000 := by
  induction l with
  | nil => exact Nat.zero_le _
  | cons a l ih =>
    unfold rowOf
    split
    · exact h a (List.mem_cons_self ..)
    · exact ih fun r hr => h r (List.mem_cons_of_mem _ hr)

set_option maxRecDepth 100000 in
set_option maxHeartbeats 8000000 in
theorem law_partSees (v0 : Value) (z : List Int) (now : Int) (strict : Bool) (w : World) (hin : IntsIn w v0 .i64 z) :
    Calls Try.prog 6 #[v0, .int .i64 now, .bool strict] w fun e w' => e = .returned (.bool true) ∧ Ext w w' := by
  obtain ⟨a, c, rfl, hc, hcm, ha⟩ := hin.block
  by_cases hz : z.length ≤ 60
  · go_enter Try.func6, Try.ntmps6
    go_wp2_with fail
    refine (several_any _ z 2 (by decide) ⟨#[107]⟩ w hin).mono ?_
    rintro e w1 ⟨v1, L, rfl, hL2, hparts, hgen, hE1⟩
    obtain ⟨p0, p1, rfl⟩ : ∃ p0 p1, L = [p0, p1] := by
      match L, hL2 with
      | [p, q], _ => exact ⟨p, q, rfl⟩
    obtain ⟨a1, c1, rfl, hc1, hcm1, hget⟩ := hparts.get
    obtain ⟨b1, rfl, pa0⟩ := hget 0 (by simp)
    obtain ⟨b1', e1, pa1⟩ := hget 1 (by simp)
    cases e1
    have hr0 := hparts.rows p0 (by simp)
    have hr1 := hparts.rows p1 (by simp)
    obtain ⟨k0, g0, gr0⟩ := hgen p0 (by simp)
    obtain ⟨k1, g1, gr1⟩ := hgen p1 (by simp)
    simp only [List.length_cons, List.length_nil, Nat.zero_add, Nat.reduceAdd, Nat.zero_mul, Nat.one_mul] at pa0 pa1 hc1
    clear hget hparts hgen hin hL2
    obtain ⟨pk0, pg0, prv0, ps0⟩ := p0
    obtain ⟨pk1, pg1, prv1, ps1⟩ := p1
    simp only at k0 g0 gr0 k1 g1 gr1 hr0 hr1
    subst k0 k1
    go_wp2_with fail
    obtain ⟨J, hJ⟩ : ∃ J, J = mergeRo (ps0.map (·.1)) (ps1.map (·.1)) := ⟨_, rfl⟩
    obtain ⟨G, hG⟩ : ∃ G, G = max pg0 pg1 := ⟨_, rfl⟩
    have hl0 : ps0.length ≤ 4 := by have := gr0.len; rwa [List.length_map] at this
    have hl1 : ps1.length ≤ 4 := by have := gr1.len; rwa [List.length_map] at this
    have hJl : J.length ≤ 8 := by rw [hJ]; have := mergeG_len keyR joinRo (ps0.map (·.1)) (ps1.map (·.1)); unfold mergeRo; simp only [List.length_map] at this; omega
    have hG0 : 0 ≤ G := by omega
    have HJ := Lib.hid hJ
    have HG := Lib.hid hG
    clear hJ hG
    obtain ⟨ar0, cr0, rfl⟩ := hr0.shape
    obtain ⟨ar1, cr1, rfl⟩ := hr1.shape
    refine wp_region_relE (fun x => Ext w1 x) (SE w1.heap.size 11) (TabP.at [(2, fun _ v _ => v = .agg #[.string ⟨#[107]⟩, .int .i64 pg0, .slice ar0 ps0.length cr0]), (5, fun _ v _ => v = .agg #[.string ⟨#[107]⟩, .int .i64 pg1, .slice ar1 ps1.length cr1]), (6, fun _ v x => ∃ v' qs, v = .tuple #[.agg #[.string ⟨#[107]⟩, .int .i64 G, v'], .bool true] ∧ RowsT x v' qs ∧ Hid (qs.map (·.1) = J)), (10, fun _ v x => ∃ b, v = .pointer (some ⟨b, 0, none⟩) ∧ w1.heap.size ≤ b ∧ ∃ Z, BoxAt x b Z 39 ∧ Z.size = 3), (11, fun L _ x => ∃ b Z, L = [.pointer (some ⟨b, 0, none⟩), .agg Z] ∧ BoxAt x b Z 39)])
      (TabP.staysE ⟨fun _ _ _ _ _ _ _ h => h, fun _ _ _ _ _ _ _ h => h, fun _ _ _ _ _ _ hR ⟨v', qs, e, hr, hm⟩ => ⟨v', qs, e, SE_rows hR hr, hm⟩, fun _ _ _ _ _ _ hR ⟨b, e, hb, hz⟩ => ⟨b, e, hb, SE_part hR hz⟩, fun _ _ hj _ _ _ hR ⟨b, Z, e, hb⟩ => ⟨b, Z, e, hb.ext (SE_off hj hR)⟩, trivial⟩)
      13 (by kernel_rfl) (by kernel_rfl) (by kernel_rfl) (Ext.refl w1).drew ?_
    refine relE_quiet rfl rfl rfl rfl ?_; intro K hK; go_big_quiet_op; (first | refine ⟨_, fun _ _ => rfl, hK _ ?_⟩ | refine hK _ ?_); clear hK K
    refine relE_quiet rfl rfl rfl rfl ?_; intro K hK; go_big_quiet_op; (first | refine ⟨_, fun _ _ => rfl, hK _ ?_⟩ | refine hK _ ?_); clear hK K
    refine relE_val [] rfl rfl rfl (by kernel_rfl) (fun y hy hf => ?_) ?_
    · obtain ⟨q0, q1, q2⟩ := pa0.ext hy
      go_simp
      exact ⟨hy, SE_ext (by decide) (Ext.refl y), rfl⟩
    simp only [Act.put, List.setIfInBounds_toArray, List.set_cons_zero, List.set_cons_succ]
    refine relE_quiet rfl rfl rfl rfl ?_; intro K hK; go_big_quiet_op; (first | refine ⟨_, fun _ _ => rfl, hK _ ?_⟩ | refine hK _ ?_); clear hK K
    refine relE_quiet rfl rfl rfl rfl ?_; intro K hK; go_big_quiet_op; (first | refine ⟨_, fun _ _ => rfl, hK _ ?_⟩ | refine hK _ ?_); clear hK K
    refine relE_val [] rfl rfl rfl (by kernel_rfl) (fun y hy hf => ?_) ?_
    · obtain ⟨q0, q1, q2⟩ := pa1.ext hy
      go_simp
      exact ⟨hy, SE_ext (by decide) (Ext.refl y), rfl⟩
    simp only [Act.put, List.setIfInBounds_toArray, List.set_cons_zero, List.set_cons_succ]
    refine relE_fact [] rfl rfl rfl (by kernel_rfl) (fun y hy hf => ?_) (fun v8 z8 hC8 hG8 h8 => ?_)
    · go_simp
      refine (pjoin_walk ⟨#[107]⟩ ⟨#[107]⟩ pg0 pg1 _ _ ps0 ps1 y (hr0.ext hy).rows (hr1.ext hy).rows (by omega) gr0.few gr1.few).mono ?_
      rw [← HJ.out, ← HG.out]
      rintro e y' ⟨hE', ⟨_, v', rfl, qs, hqs, hqm⟩ | ⟨hbad, _⟩⟩
      · exact ⟨_, rfl, hy.trans hE', SE_ext (by decide) hE', v', rfl, qs, hqs, hqm⟩
      · omega
    obtain ⟨v9, qs9, rfl, hqs9, _⟩ := h8
    obtain ⟨a9, c9, rfl⟩ := hqs9.shape
    clear hC8 hG8 hqs9
    simp only [Act.put, List.setIfInBounds_toArray, List.set_cons_zero, List.set_cons_succ]
    refine relE_quiet rfl rfl rfl rfl ?_; intro K hK; go_big_quiet_op; (first | refine ⟨_, fun _ _ => rfl, hK _ ?_⟩ | refine hK _ ?_); clear hK K
    refine relE_quiet rfl rfl rfl rfl ?_; intro K hK; go_big_quiet_op; (first | refine ⟨_, fun _ _ => rfl, hK _ ?_⟩ | refine hK _ ?_); clear hK K
    refine relE_quiet rfl rfl rfl rfl ?_; intro K hK; go_big_quiet_op; (first | refine ⟨_, fun _ _ => rfl, hK _ ?_⟩ | refine hK _ ?_); clear hK K
    refine relE_fact [] rfl rfl rfl (by kernel_rfl) (fun y hy hf => ?_) (fun v6 z6 hC6 hG6 h6 => ?_)
    · go_simp
      exact ⟨hy.trans ((Ext.refl y).alloc _), SE_ext (by decide) ((Ext.refl y).alloc _), _, rfl, hy.le, _, BoxAt.made y _ _, rfl⟩
    obtain ⟨b12, rfl, _, _⟩ := h6
    clear hC6 hG6
    simp only [Act.put, List.setIfInBounds_toArray, List.set_cons_zero, List.set_cons_succ]
    refine relE_factP [10] rfl rfl rfl (by kernel_rfl) (fun y hy hf => ?_) (fun v6 z6 hC6 hG6 h6 => ?_)
    · obtain ⟨b, e, hb, Z, hbox, hZ⟩ := (hf 10 (by simp)).2 rfl
      cases e
      refine yields_storeBox 39 (.tmp 8) (.tmp 37) rfl b12 #[.string ⟨#[107]⟩, .int .i64 G, .slice a9 qs9.length c9] Z _ rfl rfl hbox (by kernel_rfl) hZ (by simp [Value.oneCell']) ?_
      intro y' hb' hg'
      have hR : SE w1.heap.size 11 11 y y' := SE_at hb hbox hb' rfl hg'
      exact ⟨SE_to (Nat.le_refl _) hR hy, hR, b12, _, rfl, hb'⟩
    clear h6 hC6 hG6
    simp only [Act.put, List.setIfInBounds_toArray, List.set_cons_zero, List.set_cons_succ]
    refine relE_quiet rfl rfl rfl rfl ?_; intro K hK; go_big_quiet_op; (first | refine ⟨_, fun _ _ => rfl, hK _ ?_⟩ | refine hK _ ?_); clear hK K
    refine relE_nil fun w9 hC hG => ?_
    obtain ⟨v8, qs, e8, hrows9, HQ⟩ := (hG 6).1.1.2 rfl
    obtain ⟨b13, Z13, e13, hbox9⟩ := (hG 11).2 rfl
    have e13' : [Value.pointer (some ⟨b12, 0, none⟩), Value.agg #[.string ⟨#[107]⟩, .int .i64 G, .slice a9 qs9.length c9]] = [.pointer (some ⟨b13, 0, none⟩), .agg Z13] := e13
    cases e13'
    cases e8
    have hlen9 : qs9.length = qs.length := by
      obtain ⟨a', c', e'⟩ := hrows9.shape
      injection e'
    have hqJ : qs.length = J.length := by rw [← HQ.out, List.length_map]
    obtain ⟨n, hn⟩ : ∃ n, n = J.length := ⟨_, rfl⟩
    rw [hlen9, hqJ, ← hn] at hrows9 hbox9
    rw [hlen9, hqJ, ← hn]
    have hE9 : Ext w1 w9 := hC
    have d9 := hbox9.pa
    clear hC hG e13
    have hn8 : n ≤ 8 := by omega
    have HN := Lib.hid hn
    have hcl : ∀ p ∈ qs, p.1.cols.length ≤ 1000000 := fun p hp => by
      have h1 : p.1 ∈ J := by rw [← HQ.out]; exact List.mem_map_of_mem hp
      rw [HJ.out] at h1
      exact few_merge gr0.few gr1.few _ h1
    have HCL := Lib.hid hcl
    have hqn : qs.length = n := by rw [hqJ, hn]
    clear hn hcl hlen9 hqJ hJl d9
    go_wp2_with fail
    refine (place_any now 14 (by decide) (by decide) w9).mono ?_
    obtain ⟨T, hT⟩ : ∃ T, T = now % 14 := ⟨_, rfl⟩
    have hT14 : 0 ≤ T ∧ T < 14 := by omega
    rw [← hT]
    clear hT
    rintro e w2 ⟨rfl, rfl⟩
    have d9 := hbox9.pa
    go_wp2_with fail
    refine (pseen_any ⟨#[107]⟩ G _ qs T strict w9 hrows9.rows (by omega) HCL.out).mono ?_
    rintro e w3 ⟨v3, rfl, q3, hown3, hsafe3, hm3, hE3⟩
    have hs3 := rows_own hown3 hE3 hsafe3
    obtain ⟨a3, c3, rfl⟩ := own_shape hown3
    rw [HQ.out] at hm3
    have HM3 := Lib.hid hm3
    clear hown3 hsafe3 hm3
    go_wp2_with fail
    go_loopw [12, 13] (fun t i wr => ∃ (k N : Nat), k ≤ n ∧ i = .int .i64 k ∧ t = .int .i64 N ∧ N ≤ k ∧ Hid (N = (seenRs (J.take k) G T strict).length) ∧ Ext w3 wr) (fun _ i _ => n - (intOf i).toNat)
    case atStart => exact ⟨0, 0, Nat.zero_le _, rfl, rfl, Nat.le_refl _, by show _ = _; rw [List.take_zero]; rfl, Ext.refl w3⟩
    case round =>
      obtain ⟨k, N, hk, rfl, rfl, hNk, HNN, hE⟩ := hrel
      have hbr := hbox9.ext (hE3.trans hE)
      have dr := hbr.pa
      by_cases hlt : k < n
      · have t1 : decide ((k : Int) < (n : Int)) = true := by simp; omega
        obtain ⟨a', c', e', _, hcm', hget⟩ := hrows9.rows.get
        injection e' with e1 e2 e3
        subst e1
        subst e3
        clear e2
        have hkq : k < qs.length := by omega
        have hcu := hrows9.typed _ (List.getElem_mem hkq)
        obtain ⟨b, o, rfl, hat⟩ := hget k hkq
        obtain ⟨M, hM⟩ : ∃ M, M = qs[k].1 := ⟨_, rfl⟩
        obtain ⟨u, hu⟩ : ∃ u, u = qs[k].2 := ⟨_, rfl⟩
        have hJk : ∃ h : k < J.length, J[k] = M := by
          have h1 : (qs.map (·.1))[k]? = some M := by rw [List.getElem?_map, List.getElem?_eq_getElem hkq, hM]; rfl
          rw [HQ.out] at h1
          exact List.getElem?_eq_some_iff.1 h1
        rw [← hM, ← hu] at hcu hat
        have HJK := Lib.hid hJk
        have HMC : Hid (M.cols.length ≤ 1000000) := by rw [hM]; exact HCL.out _ (List.getElem_mem hkq)
        clear hM hu hget hJk
        obtain ⟨au, cu, rfl⟩ := TIn.shape hcu
        have hat' := hat.ext (hE3.trans hE)
        obtain ⟨x0, x1, x2, x3, x4, x5, x6, x7⟩ := hat'
        obtain ⟨m, hm⟩ : ∃ m, m = M.cols.length := ⟨_, rfl⟩
        rw [← hm] at x7
        have HMm := Lib.hid hm
        clear hm
        go_wp2_with (((guard_target =~ wpList _ _ _ (Oper.mk none (Op.store _ (Operand.tmp 14) (Operand.tmp 56)) _ _ _ _ :: _) _ _); go_must (refine storeBox rfl 55 (.tmp 14) (.tmp 56) rfl (wr.heap.size) _ _ _ (by rfl) (by rfl) ((BoxAt.made wr (ro8 ⟨⟨#[]⟩, zeroCl, 0, 0, []⟩ (.slice none 0 0)) 55)) (by kernel_rfl) (by rfl) (by simp [Value.oneCell']) ?_); intro w4 c4 g4); have hX4 : Ext wr w4 := ((Ext.refl wr).alloc _).grown g4 (fun q hq => by cases hq; omega))
        have rbox : BoxAt w4 wr.heap.size (ro8 M (.slice au m cu)) 55 := c4
        have hE39 : Ext w9 w4 := (hE3.trans hE).trans hX4
        have hE19 : Ext w1 w4 := hE9.trans hE39
        clear x0 x1 x2 x3 x4 x5 x6 x7 c4 g4 dr hat hcu t1
        obtain ⟨R0, hR0⟩ : ∃ R, R = rowOf (ps0.map (·.1)) M.key := ⟨_, rfl⟩
        obtain ⟨B0, hB0⟩ : ∃ B, B = hasRow (ps0.map (·.1)) M.key := ⟨_, rfl⟩
        have HR0 := Lib.hid hR0
        have HB0 := Lib.hid hB0
        clear hR0 hB0
        have hfc0 : ∀ p ∈ ps0, p.1.cols.length ≤ 1000000 := fun p hp => Nat.le_trans (gr0.few _ (List.mem_map_of_mem hp)) (by decide)
        have HFC0 := Lib.hid hfc0
        clear hfc0
        simp only [Act.put, List.setIfInBounds_toArray, List.set_cons_zero, List.set_cons_succ]
        refine wp_region_relE (fun x => Ext w4 x) (SG 55 8 w4.heap.size 10) (TabP.at [(2, fun _ v _ => v = .agg #[.string ⟨#[107]⟩, .int .i64 pg0, .slice ar0 ps0.length cr0]), (4, fun _ v _ => v = .string M.key), (5, fun _ v x => ∃ v', v = .tuple #[(.agg #[.string R0.key, .string R0.live.val, .bool R0.live.dead, .int .i64 R0.live.at_, .int .i64 R0.live.fin, .int .i64 R0.gone, .int .i64 R0.shade, v']), .bool B0] ∧ ColsT x v' R0.cols), (9, fun _ v x => ∃ b, v = .pointer (some ⟨b, 0, none⟩) ∧ w4.heap.size ≤ b ∧ ∃ Z, BoxAt x b Z 55 ∧ Z.size = 8), (10, fun L _ x => ∃ b Z, L = [.pointer (some ⟨b, 0, none⟩), .agg Z] ∧ BoxAt x b Z 55)])
          (TabP.staysE ⟨fun _ _ _ _ _ _ _ h => h, fun _ _ _ _ _ _ _ h => h, fun _ _ _ _ _ _ hR ⟨v', e, hr⟩ => ⟨v', e, SG_cols hR (by decide) hr⟩, fun _ _ _ _ _ _ hR ⟨b, e, hb, hz⟩ => ⟨b, e, hb, SG_part hR hz⟩, fun _ _ hj _ _ _ hR ⟨b, Z, e, hb⟩ => ⟨b, Z, e, hb.ext (SG_off hj hR)⟩, trivial⟩)
          12 (by kernel_rfl) (by kernel_rfl) (by kernel_rfl) (Ext.refl w4).drew ?_
        refine relE_quiet rfl rfl rfl rfl ?_; intro K hK; go_big_quiet_op; (first | refine ⟨_, fun _ _ => rfl, hK _ ?_⟩ | refine hK _ ?_); clear hK K
        refine relE_quiet rfl rfl rfl rfl ?_; intro K hK; go_big_quiet_op; (first | refine ⟨_, fun _ _ => rfl, hK _ ?_⟩ | refine hK _ ?_); clear hK K
        refine relE_val [] rfl rfl rfl (by kernel_rfl) (fun y hy hf => ?_) ?_
        · obtain ⟨q0, q1, q2⟩ := pa0.ext (hE19.trans hy)
          go_simp
          exact ⟨hy, SG_ext (by decide) (Ext.refl y), rfl⟩
        simp only [Act.put, List.setIfInBounds_toArray, List.set_cons_zero, List.set_cons_succ]
        refine relE_quiet rfl rfl rfl rfl ?_; intro K hK; go_big_quiet_op; (first | refine ⟨_, fun _ _ => rfl, hK _ ?_⟩ | refine hK _ ?_); clear hK K
        refine relE_val [] rfl rfl rfl (by kernel_rfl) (fun y hy hf => ?_) ?_
        · have q0 := (rbox.ext hy).cell 0
          simp [ro8] at q0
          go_simp
          exact ⟨hy, SG_ext (by decide) (Ext.refl y), rfl⟩
        simp only [Act.put, List.setIfInBounds_toArray, List.set_cons_zero, List.set_cons_succ]
        refine relE_fact [] rfl rfl rfl (by kernel_rfl) (fun y hy hf => ?_) (fun v8 z8 hC8 hG8 h8 => ?_)
        · go_simp
          refine (prow_typed ⟨#[107]⟩ pg0 _ ps0 M.key y (hr0.ext (hE19.trans hy)).rows HFC0.out).mono ?_
          rw [← HR0.out, ← HB0.out]
          rintro e y' ⟨v', rfl, hcols, hE'⟩
          exact ⟨_, rfl, hy.trans hE', SG_ext (by decide) hE', v', rfl, hcols⟩
        obtain ⟨u0, rfl, hcs0⟩ := h8
        obtain ⟨au0, cu0, rfl⟩ := TIn.shape hcs0
        clear hC8 hG8 hcs0
        simp only [Act.put, List.setIfInBounds_toArray, List.set_cons_zero, List.set_cons_succ]
        refine relE_quiet rfl rfl rfl rfl ?_; intro K hK; go_big_quiet_op; (first | refine ⟨_, fun _ _ => rfl, hK _ ?_⟩ | refine hK _ ?_); clear hK K
        refine relE_quiet rfl rfl rfl rfl ?_; intro K hK; go_big_quiet_op; (first | refine ⟨_, fun _ _ => rfl, hK _ ?_⟩ | refine hK _ ?_); clear hK K
        refine relE_quiet rfl rfl rfl rfl ?_; intro K hK; go_big_quiet_op; (first | refine ⟨_, fun _ _ => rfl, hK _ ?_⟩ | refine hK _ ?_); clear hK K
        refine relE_fact [] rfl rfl rfl (by kernel_rfl) (fun y hy hf => ?_) (fun v6 z6 hC6 hG6 h6 => ?_)
        · go_simp
          exact ⟨hy.trans ((Ext.refl y).alloc _), SG_ext (by decide) ((Ext.refl y).alloc _), _, rfl, hy.le, _, BoxAt.made y _ _, rfl⟩
        obtain ⟨b12, rfl, _, _⟩ := h6
        clear hC6 hG6
        simp only [Act.put, List.setIfInBounds_toArray, List.set_cons_zero, List.set_cons_succ]
        refine relE_factP [9] rfl rfl rfl (by kernel_rfl) (fun y hy hf => ?_) (fun v6 z6 hC6 hG6 h6 => ?_)
        · obtain ⟨b, e, hb, Z, hbox, hZ⟩ := (hf 9 (by simp)).2 rfl
          cases e
          refine yields_storeBox 55 (.tmp 15) (.tmp 64) rfl b12 (ro8 R0 (.slice au0 R0.cols.length cu0)) Z _ rfl rfl hbox (by kernel_rfl) hZ (by simp [ro8, Value.oneCell']) ?_
          intro y' hb' hg'
          have hR : SG 55 8 w4.heap.size 10 10 y y' := SG_at hb hbox hb' rfl hg'
          exact ⟨SG_to (Nat.le_refl _) hR hy, hR, b12, _, rfl, hb'⟩
        clear h6 hC6 hG6
        simp only [Act.put, List.setIfInBounds_toArray, List.set_cons_zero, List.set_cons_succ]
        refine relE_quiet rfl rfl rfl rfl ?_; intro K hK; go_big_quiet_op; (first | refine ⟨_, fun _ _ => rfl, hK _ ?_⟩ | refine hK _ ?_); clear hK K
        refine relE_nil fun w5 hC hG => ?_
        obtain ⟨v8, e8, hcs0⟩ := (hG 5).1.1.2 rfl
        obtain ⟨b13, Z13, e13, hbx0⟩ := (hG 10).2 rfl
        have e13' : [Value.pointer (some ⟨b12, 0, none⟩), Value.agg (ro8 R0 (.slice au0 R0.cols.length cu0))] = [.pointer (some ⟨b13, 0, none⟩), .agg Z13] := e13
        cases e13'
        cases e8
        obtain ⟨bb0, hbb0⟩ : ∃ b, b = b12 := ⟨_, rfl⟩
        rw [← hbb0] at hbx0
        rw [← hbb0]
        clear hbb0 e13
        have hEw5 : Ext w4 w5 := hC
        clear hC hG
        have hE15 : Ext w1 w5 := hE19.trans hEw5
        have rbox5 := rbox.ext hEw5
        obtain ⟨R1, hR1⟩ : ∃ R, R = rowOf (ps1.map (·.1)) M.key := ⟨_, rfl⟩
        obtain ⟨B1, hB1⟩ : ∃ B, B = hasRow (ps1.map (·.1)) M.key := ⟨_, rfl⟩
        have HR1 := Lib.hid hR1
        have HB1 := Lib.hid hB1
        clear hR1 hB1
        have hfc1 : ∀ p ∈ ps1, p.1.cols.length ≤ 1000000 := fun p hp => Nat.le_trans (gr1.few _ (List.mem_map_of_mem hp)) (by decide)
        have HFC1 := Lib.hid hfc1
        clear hfc1
        go_wp2_with fail
        refine wp_region_relE (fun x => Ext w5 x) (SG 55 8 w5.heap.size 10) (TabP.at [(2, fun _ v _ => v = .agg #[.string ⟨#[107]⟩, .int .i64 pg1, .slice ar1 ps1.length cr1]), (4, fun _ v _ => v = .string M.key), (5, fun _ v x => ∃ v', v = .tuple #[(.agg #[.string R1.key, .string R1.live.val, .bool R1.live.dead, .int .i64 R1.live.at_, .int .i64 R1.live.fin, .int .i64 R1.gone, .int .i64 R1.shade, v']), .bool B1] ∧ ColsT x v' R1.cols), (9, fun _ v x => ∃ b, v = .pointer (some ⟨b, 0, none⟩) ∧ w5.heap.size ≤ b ∧ ∃ Z, BoxAt x b Z 55 ∧ Z.size = 8), (10, fun L _ x => ∃ b Z, L = [.pointer (some ⟨b, 0, none⟩), .agg Z] ∧ BoxAt x b Z 55)])
          (TabP.staysE ⟨fun _ _ _ _ _ _ _ h => h, fun _ _ _ _ _ _ _ h => h, fun _ _ _ _ _ _ hR ⟨v', e, hr⟩ => ⟨v', e, SG_cols hR (by decide) hr⟩, fun _ _ _ _ _ _ hR ⟨b, e, hb, hz⟩ => ⟨b, e, hb, SG_part hR hz⟩, fun _ _ hj _ _ _ hR ⟨b, Z, e, hb⟩ => ⟨b, Z, e, hb.ext (SG_off hj hR)⟩, trivial⟩)
          12 (by kernel_rfl) (by kernel_rfl) (by kernel_rfl) (Ext.refl w5).drew ?_
        refine relE_quiet rfl rfl rfl rfl ?_; intro K hK; go_big_quiet_op; (first | refine ⟨_, fun _ _ => rfl, hK _ ?_⟩ | refine hK _ ?_); clear hK K
        refine relE_quiet rfl rfl rfl rfl ?_; intro K hK; go_big_quiet_op; (first | refine ⟨_, fun _ _ => rfl, hK _ ?_⟩ | refine hK _ ?_); clear hK K
        refine relE_val [] rfl rfl rfl (by kernel_rfl) (fun y hy hf => ?_) ?_
        · obtain ⟨q0, q1, q2⟩ := pa1.ext (hE15.trans hy)
          go_simp
          exact ⟨hy, SG_ext (by decide) (Ext.refl y), rfl⟩
        simp only [Act.put, List.setIfInBounds_toArray, List.set_cons_zero, List.set_cons_succ]
        refine relE_quiet rfl rfl rfl rfl ?_; intro K hK; go_big_quiet_op; (first | refine ⟨_, fun _ _ => rfl, hK _ ?_⟩ | refine hK _ ?_); clear hK K
        refine relE_val [] rfl rfl rfl (by kernel_rfl) (fun y hy hf => ?_) ?_
        · have q0 := (rbox5.ext hy).cell 0
          simp [ro8] at q0
          go_simp
          exact ⟨hy, SG_ext (by decide) (Ext.refl y), rfl⟩
        simp only [Act.put, List.setIfInBounds_toArray, List.set_cons_zero, List.set_cons_succ]
        refine relE_fact [] rfl rfl rfl (by kernel_rfl) (fun y hy hf => ?_) (fun v8 z8 hC8 hG8 h8 => ?_)
        · go_simp
          refine (prow_typed ⟨#[107]⟩ pg1 _ ps1 M.key y (hr1.ext (hE15.trans hy)).rows HFC1.out).mono ?_
          rw [← HR1.out, ← HB1.out]
          rintro e y' ⟨v', rfl, hcols, hE'⟩
          exact ⟨_, rfl, hy.trans hE', SG_ext (by decide) hE', v', rfl, hcols⟩
        obtain ⟨u1, rfl, hcs1⟩ := h8
        obtain ⟨au1, cu1, rfl⟩ := TIn.shape hcs1
        clear hC8 hG8 hcs1
        simp only [Act.put, List.setIfInBounds_toArray, List.set_cons_zero, List.set_cons_succ]
        refine relE_quiet rfl rfl rfl rfl ?_; intro K hK; go_big_quiet_op; (first | refine ⟨_, fun _ _ => rfl, hK _ ?_⟩ | refine hK _ ?_); clear hK K
        refine relE_quiet rfl rfl rfl rfl ?_; intro K hK; go_big_quiet_op; (first | refine ⟨_, fun _ _ => rfl, hK _ ?_⟩ | refine hK _ ?_); clear hK K
        refine relE_quiet rfl rfl rfl rfl ?_; intro K hK; go_big_quiet_op; (first | refine ⟨_, fun _ _ => rfl, hK _ ?_⟩ | refine hK _ ?_); clear hK K
        refine relE_fact [] rfl rfl rfl (by kernel_rfl) (fun y hy hf => ?_) (fun v6 z6 hC6 hG6 h6 => ?_)
        · go_simp
          exact ⟨hy.trans ((Ext.refl y).alloc _), SG_ext (by decide) ((Ext.refl y).alloc _), _, rfl, hy.le, _, BoxAt.made y _ _, rfl⟩
        obtain ⟨b12, rfl, _, _⟩ := h6
        clear hC6 hG6
        simp only [Act.put, List.setIfInBounds_toArray, List.set_cons_zero, List.set_cons_succ]
        refine relE_factP [9] rfl rfl rfl (by kernel_rfl) (fun y hy hf => ?_) (fun v6 z6 hC6 hG6 h6 => ?_)
        · obtain ⟨b, e, hb, Z, hbox, hZ⟩ := (hf 9 (by simp)).2 rfl
          cases e
          refine yields_storeBox 55 (.tmp 17) (.tmp 73) rfl b12 (ro8 R1 (.slice au1 R1.cols.length cu1)) Z _ rfl rfl hbox (by kernel_rfl) hZ (by simp [ro8, Value.oneCell']) ?_
          intro y' hb' hg'
          have hR : SG 55 8 w5.heap.size 10 10 y y' := SG_at hb hbox hb' rfl hg'
          exact ⟨SG_to (Nat.le_refl _) hR hy, hR, b12, _, rfl, hb'⟩
        clear h6 hC6 hG6
        simp only [Act.put, List.setIfInBounds_toArray, List.set_cons_zero, List.set_cons_succ]
        refine relE_quiet rfl rfl rfl rfl ?_; intro K hK; go_big_quiet_op; (first | refine ⟨_, fun _ _ => rfl, hK _ ?_⟩ | refine hK _ ?_); clear hK K
        refine relE_nil fun w6 hC hG => ?_
        obtain ⟨v8, e8, hcs1⟩ := (hG 5).1.1.2 rfl
        obtain ⟨b13, Z13, e13, hbx1⟩ := (hG 10).2 rfl
        have e13' : [Value.pointer (some ⟨b12, 0, none⟩), Value.agg (ro8 R1 (.slice au1 R1.cols.length cu1))] = [.pointer (some ⟨b13, 0, none⟩), .agg Z13] := e13
        cases e13'
        cases e8
        obtain ⟨bb1, hbb1⟩ : ∃ b, b = b12 := ⟨_, rfl⟩
        rw [← hbb1] at hbx1
        rw [← hbb1]
        clear hbb1 e13
        have hEw6 : Ext w5 w6 := hC
        clear hC hG
        have hE96 : Ext w9 w6 := hE39.trans (hEw5.trans hEw6)
        have d6 := (hbox9.ext hE96).pa
        have yx0 : ∀ i, w6.cell? ⟨bb0, i, none⟩ = (ro8 R0 (.slice au0 R0.cols.length cu0))[i]? := fun i => (hbx0.ext hEw6).cell i
        have yx1 := hbx1.allocs
        replace hcs0 := hcs0.ext hEw6
        have hRM : mergeRo [R0] [R1] = [M] := by
          obtain ⟨hk', e'⟩ := HJK.out
          have hmem : M ∈ mergeRo (ps0.map (·.1)) (ps1.map (·.1)) := by rw [← HJ.out, ← e']; exact List.getElem_mem hk'
          rw [merge_one (by rw [HR0.out, HR1.out, rowOf_key, rowOf_key]), HR0.out, HR1.out, join_rows gr0 gr1 (by decide) (by decide) hmem]
        have hRf : R0.cols.length ≤ 500000 ∧ R1.cols.length ≤ 500000 := by
          rw [HR0.out, HR1.out]
          exact ⟨rowOf_few gr0.few _, rowOf_few gr1.few _⟩
        have HRM := Lib.hid hRM
        have HRF := Lib.hid hRf
        clear hRM hRf
        go_wp2_with fail
        refine (pjoin_walk ⟨#[107]⟩ ⟨#[]⟩ G 0 _ _ [(R0, .slice au0 R0.cols.length cu0)] [(R1, .slice au1 R1.cols.length cu1)] _ (rows_one ((BoxAt.made w6 (ro8 R0 (.slice au0 R0.cols.length cu0)) 55).ext ((Ext.refl _).alloc _)) (ColsT.cols (ColsT.ext (((Ext.refl w6).alloc _).alloc _) hcs0))) (rows_one (BoxAt.madeN _ _ (by simp only [Deep.nblk_alloc])) (ColsT.cols (ColsT.ext (((Ext.refl w6).alloc _).alloc _) hcs1))) (by simp) (by intro r hr; rw [List.mem_singleton.1 hr]; exact HRF.out.1) (by intro r hr; rw [List.mem_singleton.1 hr]; exact HRF.out.2)).mono ?_
        rw [show mergeRo ([(R0, Value.slice au0 R0.cols.length cu0)].map (·.1)) ([(R1, Value.slice au1 R1.cols.length cu1)].map (·.1)) = [M] from HRM.out, show max G 0 = G by omega]
        rintro e w7 ⟨hE7, ⟨_, v7, rfl, q7, hq7, hm7⟩ | ⟨hbad, _⟩⟩
        · have hl7 : q7.length = 1 := by have := congrArg List.length hm7; simpa using this
          obtain ⟨a7, c7, rfl⟩ := hq7.shape
          have HM7 := Lib.hid hm7
          have HL7 := Lib.hid hl7
          clear hm7 hl7 d6 yx0 yx1 hbx0 hbx1
          have hE97 : Ext w9 w7 := hE96.trans ((((Ext.refl w6).alloc _).alloc _).trans hE7)
          go_wp2_with (((guard_target =~ wpList _ _ _ (Oper.mk none (Op.store _ (Operand.tmp 19) (Operand.tmp 85)) _ _ _ _ :: _) _ _); go_must (refine storeBox rfl 39 (.tmp 19) (.tmp 85) rfl (w7.heap.size) _ _ _ (by rfl) (by rfl) ((BoxAt.made w7 (pa3 ⟨#[]⟩ 0 (.slice none 0 0)) 39)) (by kernel_rfl) (by rfl) (by simp [Value.oneCell']) ?_); intro w8 c8 g8); have hX8 : Ext w7 w8 := ((Ext.refl w7).alloc _).grown g8 (fun q hq => by cases hq; omega); obtain ⟨z0, z1, z2⟩ := BoxAt.pa (k := ⟨#[107]⟩) (g := G) (u := .slice a7 q7.length c7) c8)
          replace hq7 := hq7.ext hX8
          refine (pseen_any ⟨#[107]⟩ G _ q7 T strict w8 hq7.rows (by have := HL7.out; omega) (by
            intro p hp
            have h1 : p.1 ∈ q7.map (·.1) := List.mem_map_of_mem hp
            rw [HM7.out] at h1
            rw [List.mem_singleton.1 h1]
            exact HMC.out)).mono ?_
          rintro e w10 ⟨v10, rfl, q10, hown10, hsafe10, hm10, hE10⟩
          have hs10 := rows_own hown10 hE10 hsafe10
          obtain ⟨a10, c10, rfl⟩ := own_shape hown10
          rw [HM7.out, seenRs_one] at hm10
          have hE710 : Ext w7 w10 := hX8.trans hE10
          have hE310 : Ext w3 w10 := (((((hE.trans hX4).trans hEw5).trans hEw6).trans (((Ext.refl w6).alloc _).alloc _)).trans hE7).trans hE710
          have hs3' := hs3.ext hE310
          clear hown10 hsafe10 hq7 z0 z1 z2 c8 g8 hcs0 hcs1
          by_cases hb : isB M (max M.gone G) T strict = true
          · rw [if_pos hb] at hm10
            have hl10 : q10.length = 1 := by have := congrArg List.length hm10; simpa using this
            obtain ⟨hN3, hNe⟩ : ∃ h : N < q3.length, q3[N].1 = seenRo M G T := by
              obtain ⟨hkJ, hJM⟩ := HJK.out
              have hat := seenRs_at (l := J) (k := k) hkJ (g := G) (t := T) (s := strict) (by rw [hJM]; exact hb)
              rw [← HNN.out, ← HM3.out, List.getElem?_map] at hat
              cases e3 : q3[N]? with
              | none => rw [e3] at hat; cases hat
              | some p =>
                rw [e3] at hat
                obtain ⟨h, e⟩ := List.getElem?_eq_some_iff.1 e3
                refine ⟨h, ?_⟩
                rw [e]
                have := Option.some.inj hat
                rw [hJM] at this
                exact this
            have hpN : [q3[N]].map (·.1) = q10.map (·.1) := by rw [hm10, ← hNe]; rfl
            obtain ⟨ax, cx, ex, hcx, hcxm, hgx⟩ := hs3'.get
            injection ex with ex1 ex2 ex3
            subst ex1 ex3
            obtain ⟨bx, ox, rfl, _⟩ := hgx N hN3
            have hsub := rows_sub hs3' hN3 (by omega)
            rw [hl10] at hs10 ⊢
            have HPN := Lib.hid hpN
            clear hpN hNe hm10 hgx ex2
            go_wp2_with fail
            refine (sameRows_self _ _ q10 [q3[N]] w10 hs10 hsub HPN.out.symm).mono ?_
            rintro e w11 ⟨rfl, hE11⟩
            go_wp2_with fail
            go_roundw
            case rel =>
              refine ⟨k + 1, N + 1, by omega, by go_num, by go_num, by omega, ?_, hE310.trans hE11⟩
              show N + 1 = _
              obtain ⟨hkJ, hJM⟩ := HJK.out
              rw [seenRs_take hkJ, List.length_append, ← HNN.out, hJM, seenRs_one, if_pos hb]
              rfl
            case measure => simp [intOf]; omega
          · rw [if_neg hb] at hm10
            have hl10 : q10.length = 0 := by have := congrArg List.length hm10; simpa using this
            rw [hl10]
            clear hm10 hs10
            go_wp2_with fail
            go_roundw
            case rel =>
              refine ⟨k + 1, N, by omega, by go_num, rfl, by omega, ?_, hE310⟩
              show N = _
              obtain ⟨hkJ, hJM⟩ := HJK.out
              rw [seenRs_take hkJ, List.length_append, ← HNN.out, hJM, seenRs_one, if_neg hb]
              rfl
            case measure => simp [intOf]; omega
        · simp at hbad
      · obtain rfl : k = n := by omega
        have wT : IntKind.i64.wrap (T + 20) = T + 20 := by rw [IntKind.wrap_i64]; omega
        have hNs : N = q3.length := by
          have e1 := HNN.out
          have e2 := congrArg List.length HM3.out
          rw [List.length_map] at e2
          rw [e1, e2, List.take_of_length_le (by have := HN.out; omega)]
        subst hNs
        go_wp2_with fail
        refine (pseen_any ⟨#[107]⟩ G _ qs (T + 20) strict wr (hrows9.ext (hE3.trans hE)).rows (by omega) HCL.out).mono ?_
        rintro e w12 ⟨v12, rfl, q12, hown12, _, hm12, hE12⟩
        obtain ⟨a12, c12, rfl⟩ := own_shape hown12
        have hle : q12.length ≤ q3.length := by
          have e1 := congrArg List.length hm12
          have e2 := congrArg List.length HM3.out
          rw [List.length_map] at e1 e2
          rw [e1, e2, HQ.out]
          exact seenRs_later J (by omega)
        have tle : decide ((q12.length : Int) ≤ (q3.length : Int)) = true := by simp; omega
        clear hown12 hm12
        go_wp2_with fail
        refine (awake8_any w12).mono ?_
        rintro e w13 ⟨rfl, hE13⟩
        go_wp2_with fail
        go_ret
        exact ⟨rfl, (hE1.trans (hE9.trans ((hE3.trans hE).trans hE12))).trans hE13⟩
  · have k1 : decide ((60 : Int) < (z.length : Int)) = true := by simp; omega
    go_enter Try.func6, Try.ntmps6
    go_wp2_with fail
    refine (awake8_any w).mono ?_
    rintro e w10 ⟨rfl, hE10⟩
    go_wp2_with fail
    go_ret
    exact ⟨rfl, hE10⟩
theorem walk_partSees (v : Value) (now : Int) (strict : Bool) (W : World) (w0 : ∃ l : List Int, IntsIn W v .i64 l ∧ ∀ n ∈ l, (Lit.int .i64 n).wf = true) (_ : (Lit.int .i64 now).wf = true) :
    Calls Try.prog 6 #[v, .int .i64 now, .bool strict] W fun e w' => e = .returned (.bool true) ∧ Ext W w' := by
  obtain ⟨z, hin, _⟩ := w0
  exact law_partSees v z now strict W hin
end Go.Proofs.Yteamiiekpjoclaa
