/- clerestoryref07.Join. -/
import Derived.Test.YteamiiekpjoclaaDoorM11
import Derived.Test.YteamiiekpjoclaaDoorM6
import Derived.Test.YteamiiekpjoclaaDoorM8
namespace Go.Proofs.YteamiiekpjoclaaDoor
open Go Go.RowKit
attribute [local go_sem] yields yUpon ro8

set_option maxRecDepth 100000 in
set_option maxHeartbeats 8000000 in
theorem join7_any (a b : Ro) (va vb : Value) (w : World) (ha : ColsT w va a.cols) (hb : ColsIn w vb b.cols) (hlen : a.cols.length + b.cols.length ≤ 300000) :
    Calls Tryd.prog 12 #[(.agg #[.string a.key, .string a.live.val, .bool a.live.dead, .int .i64 a.live.at_, .int .i64 a.live.fin, .int .i64 a.gone, .int .i64 a.shade, va]), (.agg #[.string b.key, .string b.live.val, .bool b.live.dead, .int .i64 b.live.at_, .int .i64 b.live.fin, .int .i64 b.gone, .int .i64 b.shade, vb])] w fun e w' => ∃ v', e = .returned (.agg #[.string (foldRo a b).key, .string (foldRo a b).live.val, .bool (foldRo a b).live.dead, .int .i64 (foldRo a b).live.at_, .int .i64 (foldRo a b).live.fin, .int .i64 (foldRo a b).gone, .int .i64 (foldRo a b).shade, v']) ∧ ColsT w' v' (foldRo a b).cols ∧ Ext w w' := by
  obtain ⟨a0, a1, a2, hE⟩ := boxes3 w (ro8 a va) (ro8 b vb) (ro8 ⟨⟨#[]⟩, zeroCl, 0, 0, []⟩ (.slice none 0 0)) 26 26 26
  have ha' := ha.ext hE
  have hb' := hb.ext hE
  obtain ⟨c, hc⟩ : ∃ c, c = joinCl a.live b.live := ⟨_, rfl⟩
  obtain ⟨g, hg⟩ : ∃ g, g = max a.gone b.gone := ⟨_, rfl⟩
  obtain ⟨s, hs⟩ : ∃ s, s = max a.shade b.shade := ⟨_, rfl⟩
  have Hc := Lib.hid hc
  have Hg := Lib.hid hg
  have Hs := Lib.hid hs
  obtain ⟨L, hL⟩ : ∃ L, L = foldG keyC joinCo a.cols b.cols := ⟨_, rfl⟩
  have HL := Lib.hid hL
  unfold foldRo
  rw [← hc, ← hg, ← hs, ← hL]
  clear hc hg hs hL ha
  obtain ⟨aa, ca, rfl⟩ := TIn.shape ha'
  obtain ⟨ab, cb, rfl, hcb, hcbm, hget⟩ := hb.get
  obtain ⟨m, hm⟩ : ∃ m, m = a.cols.length := ⟨_, rfl⟩
  obtain ⟨n, hn⟩ : ∃ n, n = b.cols.length := ⟨_, rfl⟩
  rw [← hm, ← hn] at hlen
  rw [← hm] at a0 hE ha' hb' a1 a2
  rw [← hm]
  rw [← hn] at a0 a1 a2 hE ha' hb' hb hcb
  rw [← hn]
  have HGET := Lib.hid hget
  have HM := Lib.hid hm
  have HN := Lib.hid hn
  clear hget hm hn
  go_enter Tryd.func12, Tryd.ntmps12
  go_wp2_with fail
  obtain ⟨B, hB⟩ : ∃ B, B = w.heap.size + 1 + 1 + 1 := ⟨_, rfl⟩
  have hBs := Nat.le_trans (Nat.le_of_eq hB) (Nat.succ_le_of_lt a2.lt)
  have hB2 : w.heap.size + 1 + 1 < B := by omega
  clear hB
  refine wp_region_in 22 [(6, fun v _ => v = (.agg #[.string c.val, .bool c.dead, .int .i64 c.at_, .int .i64 c.fin])), (11, fun v _ => v = .int .i64 g), (16, fun v _ => v = .int .i64 s), (19, fun v x => x.ownsRow B 80 5 v m (coCells a.cols)), (21, fun v x => ∃ q, v = .pointer (some ⟨q, 0, none⟩) ∧ B ≤ q ∧ BoxAt x q (ro8 ⟨⟨#[]⟩, zeroCl, 0, 0, []⟩ (.slice none 0 0)) 26)] (fun w0 => BoxAt w0 w.heap.size (ro8 a (.slice aa m ca)) 26 ∧ BoxAt w0 (w.heap.size + 1) (ro8 b (.slice ab n cb)) 26 ∧ BoxAt w0 (w.heap.size + 1 + 1) (ro8 ⟨⟨#[]⟩, zeroCl, 0, 0, []⟩ (.slice none 0 0)) 26 ∧ ColsT w0 (.slice aa m ca) a.cols ∧ ColsIn w0 (.slice ab n cb) b.cols ∧ Ext w w0 ∧ B ≤ w0.heap.size) (by kernel_rfl) (by kernel_rfl) (by kernel_rfl) ⟨stays_eq _, stays_eq _, stays_eq _, fun _ _ _ hE h => ownsRow_ext h hE, fun _ _ _ hE ⟨q, e, h1, h2⟩ => ⟨q, e, h1, h2.ext hE⟩, trivial⟩ ⟨a0, a1, a2, ha', hb', hE, hBs⟩ ?_
  clear a0 a1 a2 hE ha' hb' hBs
  rintro w2 ⟨c0, c1, c2, ha', hb', hE, hBw⟩
  have FIN : Hid (∀ wx, Ext w2 wx → BoxAt wx (w.heap.size + 1) (ro8 b (.slice ab n cb)) 26 ∧ BoxAt wx (w.heap.size + 1 + 1) (ro8 ⟨⟨#[]⟩, zeroCl, 0, 0, []⟩ (.slice none 0 0)) 26 ∧ ColsIn wx (.slice ab n cb) b.cols ∧ Ext w wx) := fun wx h => ⟨c1.ext h, c2.ext h, hb'.ext h, hE.trans h⟩
  obtain ⟨x0, x1, x2, x3, x4, x5, x6, x7⟩ := c0.ro
  obtain ⟨y0, y1, y2, y3, y4, y5, y6, y7⟩ := c1.ro
  clear c0 c1 c2 hE hb' y7 y0
  replace x0 := held x0
  replace x1 := held x1
  replace x2 := held x2
  replace x3 := held x3
  replace x4 := held x4
  replace x5 := held x5
  replace x6 := held x6
  replace x7 := held x7
  replace y1 := held y1
  replace y2 := held y2
  replace y3 := held y3
  replace y4 := held y4
  replace y5 := held y5
  replace y6 := held y6
  refine rg_quiet rfl rfl rfl rfl ?_; intro K hK; go_big_quiet_op; go_big_quiet_on
  refine rg_quiet rfl rfl rfl rfl ?_; intro K hK; go_big_quiet_op; go_big_quiet_on
  refine rg_quiet rfl rfl rfl rfl ?_; intro K hK; go_big_quiet_op; go_big_quiet_on
  refine rg_quiet rfl rfl rfl rfl ?_; intro K hK; go_big_quiet_op; go_big_quiet_on
  refine rg_quiet rfl rfl rfl rfl ?_; intro K hK; go_big_quiet_op; go_big_quiet_on
  refine rg_quiet rfl rfl rfl rfl ?_; intro K hK; go_big_quiet_op; go_big_quiet_on
  refine rg_val [] rfl rfl rfl (by kernel_rfl) (fun y hE hf => ?_) ?_
  · go_simp
    exact (rjoin_c a.live.val a.live.dead a.live.at_ a.live.fin b.live.val b.live.dead b.live.at_ b.live.fin y).mono fun e w' ⟨he, hw⟩ => ⟨_, he, rg_done hE hw (by rw [Hc.out])⟩
  simp only [Act.put, List.setIfInBounds_toArray, List.set_cons_zero, List.set_cons_succ]
  refine rg_quiet rfl rfl rfl rfl ?_; intro K hK; go_big_quiet_op; go_big_quiet_on
  refine rg_quiet rfl rfl rfl rfl ?_; intro K hK; go_big_quiet_op; go_big_quiet_on
  refine rg_quiet rfl rfl rfl rfl ?_; intro K hK; go_big_quiet_op; go_big_quiet_on
  refine rg_quiet rfl rfl rfl rfl ?_; intro K hK; go_big_quiet_op; go_big_quiet_on
  refine rg_val [] rfl rfl rfl (by kernel_rfl) (fun w1 hE hf => ?_) ?_
  · go_simp
    exact rg_done hE (Ext.refl w1) (by rw [Hg.out])
  simp only [Act.put, List.setIfInBounds_toArray, List.set_cons_zero, List.set_cons_succ]
  refine rg_quiet rfl rfl rfl rfl ?_; intro K hK; go_big_quiet_op; go_big_quiet_on
  refine rg_quiet rfl rfl rfl rfl ?_; intro K hK; go_big_quiet_op; go_big_quiet_on
  refine rg_quiet rfl rfl rfl rfl ?_; intro K hK; go_big_quiet_op; go_big_quiet_on
  refine rg_quiet rfl rfl rfl rfl ?_; intro K hK; go_big_quiet_op; go_big_quiet_on
  refine rg_val [] rfl rfl rfl (by kernel_rfl) (fun w1 hE hf => ?_) ?_
  · go_simp
    exact rg_done hE (Ext.refl w1) (by rw [Hs.out])
  simp only [Act.put, List.setIfInBounds_toArray, List.set_cons_zero, List.set_cons_succ]
  refine rg_quiet rfl rfl rfl rfl ?_; intro K hK; go_big_quiet_op; go_big_quiet_on
  refine rg_quiet rfl rfl rfl rfl ?_; intro K hK; go_big_quiet_op; go_big_quiet_on
  refine rg_fact [] rfl rfl rfl (by kernel_rfl) (fun y hE hf => ?_) (fun v19 y19 hE19 hG19 h19 => ?_)
  · refine yields_clone info_Col und_Cols rfl (by decide) (.const (.slice none 0 0)) (.tmp 25) rfl (by rfl) (ha'.ext hE) (by rfl) (coCells_length _) (coCells_one _) (by unfold maxLen; have := HM.out; omega) (by have := HM.out; omega) ?_
    intro v' w' h1 h2
    rw [← HM.out] at h1
    exact rg_doneR hE h2 (own_mono (Nat.le_trans hBw hE.le) h1)
  obtain ⟨a19, c19, rfl⟩ := own_shape h19
  clear hE19 hG19 h19
  simp only [Act.put, List.setIfInBounds_toArray, List.set_cons_zero, List.set_cons_succ]
  refine rg_quiet rfl rfl rfl rfl ?_; intro K hK; go_big_quiet_op; go_big_quiet_on
  refine rg_fact [] rfl rfl rfl (by kernel_rfl) (fun y hE hf => ?_) (fun v5 yy hE5 hG5 h5 => ?_)
  · go_simp
    exact rg_doneR hE ((Ext.refl y).alloc _) ⟨_, rfl, Nat.le_trans hBw hE.le, BoxAt.made y _ _⟩
  obtain ⟨q5, rfl, hq5, _⟩ := h5
  clear hE5 hG5
  simp only [Act.put, List.setIfInBounds_toArray, List.set_cons_zero, List.set_cons_succ]
  refine rel_tail rfl rfl fun w5 hE5 hG => ?_
  have hown := (hG 19).1.2 rfl
  obtain ⟨q5', e5, _, hbq⟩ := (hG 21).2 rfl
  cases e5
  obtain ⟨c1, c2, hb5, hE⟩ := FIN.out w5 hE5
  clear x0 x1 x2 x3 x4 x5 x6 x7 y1 y2 y3 y4 y5 y6 hE5 hG FIN ha'
  clear hb5
  go_wp2_with (((guard_target =~ wpList _ _ _ (Oper.mk none (Op.store _ (Operand.tmp 5) (Operand.tmp 27)) _ _ _ _ :: _) _ _); go_must (refine storeBox rfl 26 (.tmp 5) (.tmp 27) rfl (q5) _ _ _ (by rfl) (by rfl) (hbq) (by kernel_rfl) (by rfl) (by simp [Value.oneCell']) ?_); intro w6 c6 g6); have hown6 := hown.kept g6 (own_ne_box hown hbq (by decide)); have d1 := c1.grown g6 (fun e => by have := Option.some.inj e; omega); have d2 := c2.grown g6 (fun e => by have := Option.some.inj e; omega); have hX6 := hE.grown g6 (fun q hq => by cases hq; omega))
  clear hown hbq c1 c2 hE g6
  go_loopw [6] (fun i wr => ∃ (k : Nat) (Lc : List Co) (vc : Value), k ≤ n ∧ i = .int .i64 k ∧ BoxAt wr q5 (ro8 ⟨a.key, c, g, s, []⟩ vc) 26 ∧ BoxAt wr (w.heap.size + 1) (ro8 b (.slice ab n cb)) 26 ∧ BoxAt wr (w.heap.size + 1 + 1) (ro8 ⟨⟨#[]⟩, zeroCl, 0, 0, []⟩ (.slice none 0 0)) 26 ∧ ColsT wr vc Lc ∧ Hid (Lc = foldG keyC joinCo a.cols (b.cols.take k)) ∧ Ext w wr) (fun i _ => n - (intOf i).toNat)
  case atStart =>
    refine ⟨0, a.cols, _, Nat.zero_le _, rfl, c6, d1, d2, ?_, ?_, hX6⟩
    · unfold ColsT
      rw [← HM.out]
      exact TIn.own hown6
    · show _ = _
      rw [List.take_zero]
      rfl
  case round =>
    obtain ⟨k, Lc, vc, hk, rfl, hbq, hb1, hb2, hcs, HLC, hE⟩ := hrel
    have hLl : Lc.length ≤ m + k := by
      rw [HLC.out]
      have := foldG_len keyC joinCo a.cols (b.cols.take k)
      rw [List.length_take] at this
      have := HM.out
      omega
    have q7 := hbq.cell 7
    simp [ro8] at q7
    have e7 := hb1.cell 7
    simp [ro8] at e7
    obtain ⟨av, cv, rfl⟩ := TIn.shape hcs
    by_cases hlt : k < n
    · have t1 : decide ((k : Int) < (n : Int)) = true := by simp; omega
      have hkb : k < b.cols.length := by rw [← HN.out]; exact hlt
      obtain ⟨bb, oo, rfl, hat⟩ := HGET.out k hkb
      obtain ⟨y0, y1, y2, y3, y4⟩ := hat.ext hE
      obtain ⟨d, hd⟩ : ∃ d, d = b.cols[k] := ⟨_, rfl⟩
      rw [← hd] at y0 y1 y2 y3 y4
      have HD := Lib.hid hd
      obtain ⟨Lm, hLm⟩ : ∃ Lm, Lm = mergeCo Lc [d] := ⟨_, rfl⟩
      have HLM := Lib.hid hLm
      clear hd hat hLm
      go_wp2_with fail
      refine wp_region_tab 9 [(7, fun v x => ColsT x v Lm)] (by kernel_rfl) (by kernel_rfl) (by kernel_rfl) ⟨fun _ _ _ hE h => h.ext hE, trivial⟩ ?_
      replace q7 := held q7
      replace e7 := held e7
      replace y0 := held y0
      replace y1 := held y1
      replace y2 := held y2
      replace y3 := held y3
      replace y4 := held y4
      refine rg_quiet rfl rfl rfl rfl ?_; intro K hK; go_big_quiet_op; go_big_quiet_on
      refine rg_quiet rfl rfl rfl rfl ?_; intro K hK; go_big_quiet_op; go_big_quiet_on
      refine rg_quiet rfl rfl rfl rfl ?_; intro K hK; go_big_quiet_op; go_big_quiet_on
      refine rg_quiet rfl rfl rfl rfl ?_; intro K hK; go_big_quiet_op; go_big_quiet_on
      refine rg_quiet rfl rfl rfl rfl ?_; intro K hK; go_big_quiet_op; go_big_quiet_on
      refine rg_quiet rfl rfl rfl rfl ?_; intro K hK; go_big_quiet_op; go_big_quiet_on
      refine rg_quiet rfl rfl rfl rfl ?_; intro K hK; go_big_quiet_op; go_big_quiet_on
      refine rg_fact [] rfl rfl rfl (by kernel_rfl) (fun y hE hf => ?_) (fun v9 y9 hE9 hG9 h9 => ?_)
      · go_simp
        refine (put7_any _ Lc d y (hcs.ext hE).cols (by omega)).mono ?_
        rintro e y' ⟨v', rfl, ho, hE'⟩
        rw [← HLM.out] at ho
        exact ⟨_, rfl, rg_doneR hE hE' (TIn.own ho)⟩
      obtain ⟨a9, c9, rfl⟩ := TIn.shape h9
      clear hE9 hG9 h9
      simp only [Act.put, List.setIfInBounds_toArray, List.set_cons_zero, List.set_cons_succ]
      refine rg_quiet rfl rfl rfl rfl ?_; intro K hK; go_big_quiet_op; go_big_quiet_on
      refine rel_tail rfl rfl fun w7 hE7 hG => ?_
      have hcs7 : ColsT w7 (.slice a9 Lm.length c9) Lm := (hG 7).2 rfl
      have hbq7 := hbq.ext hE7
      have qf := hbq7.free 7
      clear hG q7 e7 y0 y1 y2 y3 y4 hbq
      have hq := hbq7.lt
      have qc := hbq7.cell 7
      simp [ro8] at qc
      go_wp2_with fail
      go_roundw
      case rel =>
        refine ⟨k + 1, Lm, _, by omega, by go_num, hbq7.set 7 _, (hb1.ext hE7).other (by omega) 7 _, (hb2.ext hE7).other (by omega) 7 _, TIn.set 7 _ hbq7 (by decide) hcs7, ?_, (hE.trans hE7).setCell (p := ⟨q5, 7, none⟩) (by show w.heap.size ≤ q5; omega) _⟩
        show _ = _
        rw [HLM.out, HLC.out, List.take_succ_eq_append_getElem hkb, foldG_snoc, ← HD.out]
        rfl
      case measure => simp [intOf]; omega
    · obtain rfl : k = n := by omega
      obtain ⟨z0, z1, z2, z3, z4, z5, z6, z7⟩ := hbq.ro
      go_wp2_with ((guard_target =~ wpList _ _ _ (Oper.mk none (Op.store _ (Operand.tmp 4) (Operand.tmp 44)) _ _ _ _ :: _) _ _); go_must (refine storeBox rfl 26 (.tmp 4) (.tmp 44) rfl (w.heap.size + 1 + 1) _ _ _ (by rfl) (by rfl) (hb2) (by kernel_rfl) (by rfl) (by simp [Value.oneCell']) ?_); intro w8 c8 g8)
      have hX8 := hE.grown g8 (fun q hq => by cases hq; omega)
      have hcs8 := ColsT.keep g8 hb2 (by decide) hcs
      have hLL : Lc = L := by rw [HLC.out, HL.out, List.take_of_length_le (by rw [← HN.out]; exact Nat.le_refl _)]
      rw [← hLL]
      clear z0 z1 z2 z3 z4 z5 z6 z7 hE g8 hb2 hLL hcs
      obtain ⟨z0, z1, z2, z3, z4, z5, z6, z7⟩ := BoxAt.ro (r := ⟨a.key, c, g, s, []⟩) (v := .slice av Lc.length cv) c8
      refine bodyPost_ret (v := .agg #[.string a.key, .string c.val, .bool c.dead, .int .i64 c.at_, .int .i64 c.fin, .int .i64 g, .int .i64 s, .slice av Lc.length cv]) ?_ rfl ⟨_, rfl, hcs8, hX8⟩
      simp [results, Tryd.results12, go_sem, Act.put, z0, z1, z2, z3, z4, z5, z6, z7]
end Go.Proofs.YteamiiekpjoclaaDoor

/- The reference's Join of rows, of columns that lie anywhere. -/
namespace Go.Proofs.YteamiiekpjoclaaDoor
open Go Go.RowKit
attribute [local go_sem] yields yUpon ro8

section
variable {P : Program} {a : Act} {w : World} {o : Oper}
/-- append([]T(nil), s...) of any slice in memory, in a region. -/
theorem yields_cloneS {Tt e : TypeId} {z : Value} {size bytes : Nat} (info : (P.info? e).map (fun i => (i.zero, i.size, i.bytes)) = some (some z, size, bytes)) (und : P.underlying Tt = some (.slice e)) (hzs : z.cells.size = size) (hsz : 0 < size) (s x : Operand)
    (hop : o.op = Op.call { callee := Callee.builtin Builtin.append, args := #[s, x], argTypes := #[Tt, Tt] }) (hs : a.eval s = .slice none 0 0) {u : Value} {m : Nat} {xs : List Value} (hin : SliceIn w u m xs) (hx : a.eval x = u)
    (hl : xs.length = m * size) (h1 : ∀ u ∈ xs, u.oneCell' = true) (h63 : m ≤ maxLen) (hb : m * bytes ≤ 140737488355328) {R : Value → World → Prop}
    (hR : ∀ v' w', w'.ownsRow w.heap.size e size v' m xs → Ext w w' → R v' w') : yields P o a w R := by
  obtain ⟨i0, hi, hz0, hz1, hz2⟩ := info_parts info
  obtain ⟨ao, c, rfl, hc, hcm, ha, hcell⟩ := hin
  cases ao with
  | none =>
    have hc0 := ha rfl
    obtain rfl : m = 0 := by omega
    obtain rfl : xs = [] := List.eq_nil_of_length_eq_zero (by omega)
    subst hc0
    have hr := run_append_owned_none (P := P) (w := w) w.heap.size Tt o.type e i0 size und hi (.slice none 0 0) 0 [] (World.ownsRow_nil _ _ _ _)
    unfold yields execOp
    simp only [hop, resolve, invoke, builtin, Sem.run_bind, Sem.run_pure, Result.andThen_ok, List.map_toArray, List.map_cons, List.map_nil, hs, hx, hr]
    exact hR _ _ (World.ownsRow_nil _ _ _ _) (Ext.refl w)
  | some ad =>
    obtain ⟨v', w', hr, h2, h3, _⟩ := run_append_own (P := P) w w.heap.size Tt o.type e i0 z size bytes und hi hz0 hz1 hz2 hzs hsz (.slice none 0 0) 0 [] (World.ownsRow_nil _ _ _ _) ad m c xs hl (fun j u hj => by
      obtain ⟨b, o, e, h⟩ := hcell j u hj
      cases e
      rw [Addr.add_lit]
      exact h) h1 (by omega) (by rw [Nat.zero_add]; exact hb) (Nat.le_refl _)
    unfold yields execOp
    simp only [hop, resolve, invoke, builtin, Sem.run_bind, Sem.run_pure, Result.andThen_ok, List.map_toArray, List.map_cons, List.map_nil, hs, hx, hr]
    rw [Nat.zero_add, List.nil_append] at h2
    exact hR v' w' h2 ((Ext.refl w).grown h3 (fun q hq => by cases hq))
end

set_option maxRecDepth 100000 in
set_option maxHeartbeats 8000000 in
theorem join7_in (a b : Ro) (va vb : Value) (w : World) (ha : ColsIn w va a.cols) (hb : ColsIn w vb b.cols) (hlen : a.cols.length + b.cols.length ≤ 300000) :
    Calls Tryd.prog 12 #[(.agg #[.string a.key, .string a.live.val, .bool a.live.dead, .int .i64 a.live.at_, .int .i64 a.live.fin, .int .i64 a.gone, .int .i64 a.shade, va]), (.agg #[.string b.key, .string b.live.val, .bool b.live.dead, .int .i64 b.live.at_, .int .i64 b.live.fin, .int .i64 b.gone, .int .i64 b.shade, vb])] w fun e w' => ∃ v', e = .returned (.agg #[.string (foldRo a b).key, .string (foldRo a b).live.val, .bool (foldRo a b).live.dead, .int .i64 (foldRo a b).live.at_, .int .i64 (foldRo a b).live.fin, .int .i64 (foldRo a b).gone, .int .i64 (foldRo a b).shade, v']) ∧ ColsT w' v' (foldRo a b).cols ∧ Ext w w' := by
  obtain ⟨a0, a1, a2, hE⟩ := boxes3 w (ro8 a va) (ro8 b vb) (ro8 ⟨⟨#[]⟩, zeroCl, 0, 0, []⟩ (.slice none 0 0)) 26 26 26
  have ha' := ha.ext hE
  have hb' := hb.ext hE
  obtain ⟨c, hc⟩ : ∃ c, c = joinCl a.live b.live := ⟨_, rfl⟩
  obtain ⟨g, hg⟩ : ∃ g, g = max a.gone b.gone := ⟨_, rfl⟩
  obtain ⟨s, hs⟩ : ∃ s, s = max a.shade b.shade := ⟨_, rfl⟩
  have Hc := Lib.hid hc
  have Hg := Lib.hid hg
  have Hs := Lib.hid hs
  obtain ⟨L, hL⟩ : ∃ L, L = foldG keyC joinCo a.cols b.cols := ⟨_, rfl⟩
  have HL := Lib.hid hL
  unfold foldRo
  rw [← hc, ← hg, ← hs, ← hL]
  clear hc hg hs hL ha
  obtain ⟨aa, ca, rfl⟩ := ha'.shape
  obtain ⟨ab, cb, rfl, hcb, hcbm, hget⟩ := hb.get
  obtain ⟨m, hm⟩ : ∃ m, m = a.cols.length := ⟨_, rfl⟩
  obtain ⟨n, hn⟩ : ∃ n, n = b.cols.length := ⟨_, rfl⟩
  rw [← hm, ← hn] at hlen
  rw [← hm] at a0 hE ha' hb' a1 a2
  rw [← hm]
  rw [← hn] at a0 a1 a2 hE ha' hb' hb hcb
  rw [← hn]
  have HGET := Lib.hid hget
  have HM := Lib.hid hm
  have HN := Lib.hid hn
  clear hget hm hn
  go_enter Tryd.func12, Tryd.ntmps12
  go_wp2_with fail
  obtain ⟨B, hB⟩ : ∃ B, B = w.heap.size + 1 + 1 + 1 := ⟨_, rfl⟩
  have hBs := Nat.le_trans (Nat.le_of_eq hB) (Nat.succ_le_of_lt a2.lt)
  have hB2 : w.heap.size + 1 + 1 < B := by omega
  clear hB
  refine wp_region_in 22 [(6, fun v _ => v = (.agg #[.string c.val, .bool c.dead, .int .i64 c.at_, .int .i64 c.fin])), (11, fun v _ => v = .int .i64 g), (16, fun v _ => v = .int .i64 s), (19, fun v x => x.ownsRow B 80 5 v m (coCells a.cols)), (21, fun v x => ∃ q, v = .pointer (some ⟨q, 0, none⟩) ∧ B ≤ q ∧ BoxAt x q (ro8 ⟨⟨#[]⟩, zeroCl, 0, 0, []⟩ (.slice none 0 0)) 26)] (fun w0 => BoxAt w0 w.heap.size (ro8 a (.slice aa m ca)) 26 ∧ BoxAt w0 (w.heap.size + 1) (ro8 b (.slice ab n cb)) 26 ∧ BoxAt w0 (w.heap.size + 1 + 1) (ro8 ⟨⟨#[]⟩, zeroCl, 0, 0, []⟩ (.slice none 0 0)) 26 ∧ ColsIn w0 (.slice aa m ca) a.cols ∧ ColsIn w0 (.slice ab n cb) b.cols ∧ Ext w w0 ∧ B ≤ w0.heap.size) (by kernel_rfl) (by kernel_rfl) (by kernel_rfl) ⟨stays_eq _, stays_eq _, stays_eq _, fun _ _ _ hE h => ownsRow_ext h hE, fun _ _ _ hE ⟨q, e, h1, h2⟩ => ⟨q, e, h1, h2.ext hE⟩, trivial⟩ ⟨a0, a1, a2, ha', hb', hE, hBs⟩ ?_
  clear a0 a1 a2 hE ha' hb' hBs
  rintro w2 ⟨c0, c1, c2, ha', hb', hE, hBw⟩
  have FIN : Hid (∀ wx, Ext w2 wx → BoxAt wx (w.heap.size + 1) (ro8 b (.slice ab n cb)) 26 ∧ BoxAt wx (w.heap.size + 1 + 1) (ro8 ⟨⟨#[]⟩, zeroCl, 0, 0, []⟩ (.slice none 0 0)) 26 ∧ ColsIn wx (.slice ab n cb) b.cols ∧ Ext w wx) := fun wx h => ⟨c1.ext h, c2.ext h, hb'.ext h, hE.trans h⟩
  obtain ⟨x0, x1, x2, x3, x4, x5, x6, x7⟩ := c0.ro
  obtain ⟨y0, y1, y2, y3, y4, y5, y6, y7⟩ := c1.ro
  clear c0 c1 c2 hE hb' y7 y0
  replace x0 := held x0
  replace x1 := held x1
  replace x2 := held x2
  replace x3 := held x3
  replace x4 := held x4
  replace x5 := held x5
  replace x6 := held x6
  replace x7 := held x7
  replace y1 := held y1
  replace y2 := held y2
  replace y3 := held y3
  replace y4 := held y4
  replace y5 := held y5
  replace y6 := held y6
  refine rg_quiet rfl rfl rfl rfl ?_; intro K hK; go_big_quiet_op; go_big_quiet_on
  refine rg_quiet rfl rfl rfl rfl ?_; intro K hK; go_big_quiet_op; go_big_quiet_on
  refine rg_quiet rfl rfl rfl rfl ?_; intro K hK; go_big_quiet_op; go_big_quiet_on
  refine rg_quiet rfl rfl rfl rfl ?_; intro K hK; go_big_quiet_op; go_big_quiet_on
  refine rg_quiet rfl rfl rfl rfl ?_; intro K hK; go_big_quiet_op; go_big_quiet_on
  refine rg_quiet rfl rfl rfl rfl ?_; intro K hK; go_big_quiet_op; go_big_quiet_on
  refine rg_val [] rfl rfl rfl (by kernel_rfl) (fun y hE hf => ?_) ?_
  · go_simp
    exact (rjoin_c a.live.val a.live.dead a.live.at_ a.live.fin b.live.val b.live.dead b.live.at_ b.live.fin y).mono fun e w' ⟨he, hw⟩ => ⟨_, he, rg_done hE hw (by rw [Hc.out])⟩
  simp only [Act.put, List.setIfInBounds_toArray, List.set_cons_zero, List.set_cons_succ]
  refine rg_quiet rfl rfl rfl rfl ?_; intro K hK; go_big_quiet_op; go_big_quiet_on
  refine rg_quiet rfl rfl rfl rfl ?_; intro K hK; go_big_quiet_op; go_big_quiet_on
  refine rg_quiet rfl rfl rfl rfl ?_; intro K hK; go_big_quiet_op; go_big_quiet_on
  refine rg_quiet rfl rfl rfl rfl ?_; intro K hK; go_big_quiet_op; go_big_quiet_on
  refine rg_val [] rfl rfl rfl (by kernel_rfl) (fun w1 hE hf => ?_) ?_
  · go_simp
    exact rg_done hE (Ext.refl w1) (by rw [Hg.out])
  simp only [Act.put, List.setIfInBounds_toArray, List.set_cons_zero, List.set_cons_succ]
  refine rg_quiet rfl rfl rfl rfl ?_; intro K hK; go_big_quiet_op; go_big_quiet_on
  refine rg_quiet rfl rfl rfl rfl ?_; intro K hK; go_big_quiet_op; go_big_quiet_on
  refine rg_quiet rfl rfl rfl rfl ?_; intro K hK; go_big_quiet_op; go_big_quiet_on
  refine rg_quiet rfl rfl rfl rfl ?_; intro K hK; go_big_quiet_op; go_big_quiet_on
  refine rg_val [] rfl rfl rfl (by kernel_rfl) (fun w1 hE hf => ?_) ?_
  · go_simp
    exact rg_done hE (Ext.refl w1) (by rw [Hs.out])
  simp only [Act.put, List.setIfInBounds_toArray, List.set_cons_zero, List.set_cons_succ]
  refine rg_quiet rfl rfl rfl rfl ?_; intro K hK; go_big_quiet_op; go_big_quiet_on
  refine rg_quiet rfl rfl rfl rfl ?_; intro K hK; go_big_quiet_op; go_big_quiet_on
  refine rg_fact [] rfl rfl rfl (by kernel_rfl) (fun y hE hf => ?_) (fun v19 y19 hE19 hG19 h19 => ?_)
  · refine yields_cloneS info_Col und_Cols rfl (by decide) (.const (.slice none 0 0)) (.tmp 25) rfl (by rfl) (ha'.ext hE) (by rfl) (coCells_length _) (coCells_one _) (by unfold maxLen; have := HM.out; omega) (by have := HM.out; omega) ?_
    intro v' w' h1 h2
    rw [← HM.out] at h1
    exact rg_doneR hE h2 (own_mono (Nat.le_trans hBw hE.le) h1)
  obtain ⟨a19, c19, rfl⟩ := own_shape h19
  clear hE19 hG19 h19
  simp only [Act.put, List.setIfInBounds_toArray, List.set_cons_zero, List.set_cons_succ]
  refine rg_quiet rfl rfl rfl rfl ?_; intro K hK; go_big_quiet_op; go_big_quiet_on
  refine rg_fact [] rfl rfl rfl (by kernel_rfl) (fun y hE hf => ?_) (fun v5 yy hE5 hG5 h5 => ?_)
  · go_simp
    exact rg_doneR hE ((Ext.refl y).alloc _) ⟨_, rfl, Nat.le_trans hBw hE.le, BoxAt.made y _ _⟩
  obtain ⟨q5, rfl, hq5, _⟩ := h5
  clear hE5 hG5
  simp only [Act.put, List.setIfInBounds_toArray, List.set_cons_zero, List.set_cons_succ]
  refine rel_tail rfl rfl fun w5 hE5 hG => ?_
  have hown := (hG 19).1.2 rfl
  obtain ⟨q5', e5, _, hbq⟩ := (hG 21).2 rfl
  cases e5
  obtain ⟨c1, c2, hb5, hE⟩ := FIN.out w5 hE5
  clear x0 x1 x2 x3 x4 x5 x6 x7 y1 y2 y3 y4 y5 y6 hE5 hG FIN ha'
  clear hb5
  go_wp2_with (((guard_target =~ wpList _ _ _ (Oper.mk none (Op.store _ (Operand.tmp 5) (Operand.tmp 27)) _ _ _ _ :: _) _ _); go_must (refine storeBox rfl 26 (.tmp 5) (.tmp 27) rfl (q5) _ _ _ (by rfl) (by rfl) (hbq) (by kernel_rfl) (by rfl) (by simp [Value.oneCell']) ?_); intro w6 c6 g6); have hown6 := hown.kept g6 (own_ne_box hown hbq (by decide)); have d1 := c1.grown g6 (fun e => by have := Option.some.inj e; omega); have d2 := c2.grown g6 (fun e => by have := Option.some.inj e; omega); have hX6 := hE.grown g6 (fun q hq => by cases hq; omega))
  clear hown hbq c1 c2 hE g6
  go_loopw [6] (fun i wr => ∃ (k : Nat) (Lc : List Co) (vc : Value), k ≤ n ∧ i = .int .i64 k ∧ BoxAt wr q5 (ro8 ⟨a.key, c, g, s, []⟩ vc) 26 ∧ BoxAt wr (w.heap.size + 1) (ro8 b (.slice ab n cb)) 26 ∧ BoxAt wr (w.heap.size + 1 + 1) (ro8 ⟨⟨#[]⟩, zeroCl, 0, 0, []⟩ (.slice none 0 0)) 26 ∧ ColsT wr vc Lc ∧ Hid (Lc = foldG keyC joinCo a.cols (b.cols.take k)) ∧ Ext w wr) (fun i _ => n - (intOf i).toNat)
  case atStart =>
    refine ⟨0, a.cols, _, Nat.zero_le _, rfl, c6, d1, d2, ?_, ?_, hX6⟩
    · unfold ColsT
      rw [← HM.out]
      exact TIn.own hown6
    · show _ = _
      rw [List.take_zero]
      rfl
  case round =>
    obtain ⟨k, Lc, vc, hk, rfl, hbq, hb1, hb2, hcs, HLC, hE⟩ := hrel
    have hLl : Lc.length ≤ m + k := by
      rw [HLC.out]
      have := foldG_len keyC joinCo a.cols (b.cols.take k)
      rw [List.length_take] at this
      have := HM.out
      omega
    have q7 := hbq.cell 7
    simp [ro8] at q7
    have e7 := hb1.cell 7
    simp [ro8] at e7
    obtain ⟨av, cv, rfl⟩ := TIn.shape hcs
    by_cases hlt : k < n
    · have t1 : decide ((k : Int) < (n : Int)) = true := by simp; omega
      have hkb : k < b.cols.length := by rw [← HN.out]; exact hlt
      obtain ⟨bb, oo, rfl, hat⟩ := HGET.out k hkb
      obtain ⟨y0, y1, y2, y3, y4⟩ := hat.ext hE
      obtain ⟨d, hd⟩ : ∃ d, d = b.cols[k] := ⟨_, rfl⟩
      rw [← hd] at y0 y1 y2 y3 y4
      have HD := Lib.hid hd
      obtain ⟨Lm, hLm⟩ : ∃ Lm, Lm = mergeCo Lc [d] := ⟨_, rfl⟩
      have HLM := Lib.hid hLm
      clear hd hat hLm
      go_wp2_with fail
      refine wp_region_tab 9 [(7, fun v x => ColsT x v Lm)] (by kernel_rfl) (by kernel_rfl) (by kernel_rfl) ⟨fun _ _ _ hE h => h.ext hE, trivial⟩ ?_
      replace q7 := held q7
      replace e7 := held e7
      replace y0 := held y0
      replace y1 := held y1
      replace y2 := held y2
      replace y3 := held y3
      replace y4 := held y4
      refine rg_quiet rfl rfl rfl rfl ?_; intro K hK; go_big_quiet_op; go_big_quiet_on
      refine rg_quiet rfl rfl rfl rfl ?_; intro K hK; go_big_quiet_op; go_big_quiet_on
      refine rg_quiet rfl rfl rfl rfl ?_; intro K hK; go_big_quiet_op; go_big_quiet_on
      refine rg_quiet rfl rfl rfl rfl ?_; intro K hK; go_big_quiet_op; go_big_quiet_on
      refine rg_quiet rfl rfl rfl rfl ?_; intro K hK; go_big_quiet_op; go_big_quiet_on
      refine rg_quiet rfl rfl rfl rfl ?_; intro K hK; go_big_quiet_op; go_big_quiet_on
      refine rg_quiet rfl rfl rfl rfl ?_; intro K hK; go_big_quiet_op; go_big_quiet_on
      refine rg_fact [] rfl rfl rfl (by kernel_rfl) (fun y hE hf => ?_) (fun v9 y9 hE9 hG9 h9 => ?_)
      · go_simp
        refine (put7_any _ Lc d y (hcs.ext hE).cols (by omega)).mono ?_
        rintro e y' ⟨v', rfl, ho, hE'⟩
        rw [← HLM.out] at ho
        exact ⟨_, rfl, rg_doneR hE hE' (TIn.own ho)⟩
      obtain ⟨a9, c9, rfl⟩ := TIn.shape h9
      clear hE9 hG9 h9
      simp only [Act.put, List.setIfInBounds_toArray, List.set_cons_zero, List.set_cons_succ]
      refine rg_quiet rfl rfl rfl rfl ?_; intro K hK; go_big_quiet_op; go_big_quiet_on
      refine rel_tail rfl rfl fun w7 hE7 hG => ?_
      have hcs7 : ColsT w7 (.slice a9 Lm.length c9) Lm := (hG 7).2 rfl
      have hbq7 := hbq.ext hE7
      have qf := hbq7.free 7
      clear hG q7 e7 y0 y1 y2 y3 y4 hbq
      have hq := hbq7.lt
      have qc := hbq7.cell 7
      simp [ro8] at qc
      go_wp2_with fail
      go_roundw
      case rel =>
        refine ⟨k + 1, Lm, _, by omega, by go_num, hbq7.set 7 _, (hb1.ext hE7).other (by omega) 7 _, (hb2.ext hE7).other (by omega) 7 _, TIn.set 7 _ hbq7 (by decide) hcs7, ?_, (hE.trans hE7).setCell (p := ⟨q5, 7, none⟩) (by show w.heap.size ≤ q5; omega) _⟩
        show _ = _
        rw [HLM.out, HLC.out, List.take_succ_eq_append_getElem hkb, foldG_snoc, ← HD.out]
        rfl
      case measure => simp [intOf]; omega
    · obtain rfl : k = n := by omega
      obtain ⟨z0, z1, z2, z3, z4, z5, z6, z7⟩ := hbq.ro
      go_wp2_with ((guard_target =~ wpList _ _ _ (Oper.mk none (Op.store _ (Operand.tmp 4) (Operand.tmp 44)) _ _ _ _ :: _) _ _); go_must (refine storeBox rfl 26 (.tmp 4) (.tmp 44) rfl (w.heap.size + 1 + 1) _ _ _ (by rfl) (by rfl) (hb2) (by kernel_rfl) (by rfl) (by simp [Value.oneCell']) ?_); intro w8 c8 g8)
      have hX8 := hE.grown g8 (fun q hq => by cases hq; omega)
      have hcs8 := ColsT.keep g8 hb2 (by decide) hcs
      have hLL : Lc = L := by rw [HLC.out, HL.out, List.take_of_length_le (by rw [← HN.out]; exact Nat.le_refl _)]
      rw [← hLL]
      clear z0 z1 z2 z3 z4 z5 z6 z7 hE g8 hb2 hLL hcs
      obtain ⟨z0, z1, z2, z3, z4, z5, z6, z7⟩ := BoxAt.ro (r := ⟨a.key, c, g, s, []⟩) (v := .slice av Lc.length cv) c8
      refine bodyPost_ret (v := .agg #[.string a.key, .string c.val, .bool c.dead, .int .i64 c.at_, .int .i64 c.fin, .int .i64 g, .int .i64 s, .slice av Lc.length cv]) ?_ rfl ⟨_, rfl, hcs8, hX8⟩
      simp [results, Tryd.results12, go_sem, Act.put, z0, z1, z2, z3, z4, z5, z6, z7]
end Go.Proofs.YteamiiekpjoclaaDoor

/- slices.Equal over columns, row.Same, slices.EqualFunc over rows, part.Same. -/
namespace Go.Proofs.YteamiiekpjoclaaDoor
open Go Go.RowKit
attribute [local go_sem] yields yUpon ro8 pa3

/-- Alike. -/
noncomputable def eqB {α : Type} (a b : α) : Bool := @decide (a = b) (Classical.propDecidable _)
theorem eqB_iff {α : Type} {a b : α} : eqB a b = true ↔ a = b := by unfold eqB; exact @decide_eq_true_iff _ (Classical.propDecidable _)
theorem eqB_true {α : Type} {a b : α} (h : a = b) : eqB a b = true := eqB_iff.2 h
theorem eqB_false {α : Type} {a b : α} (h : a ≠ b) : eqB a b = false := by
  cases e : eqB a b with
  | false => rfl
  | true => exact absurd (eqB_iff.1 e) h

theorem bytes_ext {a b : ByteArray} (h : a.toList = b.toList) : a = b := by
  rw [ByteArray.toList_eq, ByteArray.toList_eq] at h
  cases a; cases b
  simp at h
  rw [h]
theorem cl_ext {c d : Cl} (h2 : c.val.toList = d.val.toList) (h3 : c.dead = d.dead) (h4 : c.at_ = d.at_) (h5 : c.fin = d.fin) : c = d := by
  cases c; cases d
  simp only at *
  rw [bytes_ext h2, h3, h4, h5]
theorem co_ext {c d : Co} (h1 : c.name.toList = d.name.toList) (h2 : c.cell.val.toList = d.cell.val.toList) (h3 : c.cell.dead = d.cell.dead) (h4 : c.cell.at_ = d.cell.at_) (h5 : c.cell.fin = d.cell.fin) : c = d := by
  have := cl_ext h2 h3 h4 h5
  cases c; cases d
  simp only at *
  rw [bytes_ext h1, this]

set_option maxRecDepth 100000 in
set_option maxHeartbeats 2000000 in
theorem eqCols_any (v v' : Value) (l l' : List Co) (w : World) (hin : ColsIn w v l) (hin' : ColsIn w v' l') :
    Calls Tryd.prog 64 #[v, v'] w fun e w' => e = .returned (.bool (eqB l l')) ∧ Ext w w' := by
  obtain ⟨a, c, rfl, hc, hcm, hcell⟩ := hin.get
  obtain ⟨a', c', rfl, hc', hcm', hcell'⟩ := hin'.get
  have HC := Lib.hid hcell
  have HC' := Lib.hid hcell'
  clear hcell hin hcell' hin'
  by_cases hlen : l.length = l'.length
  · obtain ⟨n, hn⟩ : ∃ n, n = l.length := ⟨_, rfl⟩
    rw [← hn] at hlen hc ⊢
    rw [← hlen] at hc' ⊢
    have HN := Lib.hid hn
    have HN' := Lib.hid hlen
    clear hn hlen
    go_enter Tryd.func64, Tryd.ntmps64
    go_wp2
    go_loopw [13] (fun i wr => ∃ k : Nat, k ≤ n ∧ i = .int .i64 k ∧ Ext w wr ∧ Hid (l.take k = l'.take k)) (fun i _ => n - (intOf i).toNat)
    case atStart => exact ⟨0, Nat.zero_le _, rfl, Ext.refl w, rfl⟩
    case round =>
      obtain ⟨k, hk, rfl, hE, HT⟩ := hrel
      by_cases hlt : k < n
      · have hl1 : k < l.length := by rw [← HN.out]; exact hlt
        have hl2 : k < l'.length := by rw [← HN'.out]; exact hlt
        obtain ⟨b, o, rfl, hco⟩ := HC.out k hl1
        obtain ⟨b', o', rfl, hco'⟩ := HC'.out k hl2
        obtain ⟨M, hM⟩ : ∃ M, M = l[k] := ⟨_, rfl⟩
        obtain ⟨M', hM'⟩ : ∃ M', M' = l'[k] := ⟨_, rfl⟩
        rw [← hM] at hco
        rw [← hM'] at hco'
        have HM := Lib.hid hM
        have HM' := Lib.hid hM'
        clear hM hM'
        obtain ⟨g0, g1, g2, g3, g4⟩ := hco.ext hE
        obtain ⟨y0, y1, y2, y3, y4⟩ := hco'.ext hE
        clear hco hco'
        have hki : decide ((k : Int) < (n : Int)) = true := by simpa using hlt
        replace g0 := held g0
        replace g1 := held g1
        replace g2 := held g2
        replace g3 := held g3
        replace g4 := held g4
        replace y0 := held y0
        replace y1 := held y1
        replace y2 := held y2
        replace y3 := held y3
        replace y4 := held y4
        go_wp2_with fail
        refine wp_region_tab 9 [] (by kernel_rfl) (by kernel_rfl) (by kernel_rfl) trivial ?_
        refine rg_quiet rfl rfl rfl rfl ?_; intro K hK; go_big_quiet_op; go_big_quiet_on
        refine rg_quiet rfl rfl rfl rfl ?_; intro K hK; go_big_quiet_op; go_big_quiet_on
        refine rg_quiet rfl rfl rfl rfl ?_; intro K hK; go_big_quiet_op; go_big_quiet_on
        refine rg_quiet rfl rfl rfl rfl ?_; intro K hK; go_big_quiet_op; go_big_quiet_on
        refine rg_quiet rfl rfl rfl rfl ?_; intro K hK; go_big_quiet_op; go_big_quiet_on
        refine rg_quiet rfl rfl rfl rfl ?_; intro K hK; go_big_quiet_op; go_big_quiet_on
        refine rg_quiet rfl rfl rfl rfl ?_; intro K hK; go_big_quiet_op; go_big_quiet_on
        refine rg_quiet rfl rfl rfl rfl ?_; intro K hK; go_big_quiet_op; go_big_quiet_on
        refine rg_quiet rfl rfl rfl rfl ?_; intro K hK; go_big_quiet_op
        refine ⟨.bool (!eqB M M'), fun q => ?_, hK _ ?_⟩
        · by_cases h1 : M.name.toList = M'.name.toList
          · by_cases h2 : M.cell.val.toList = M'.cell.val.toList
            · by_cases h3 : M.cell.dead = M'.cell.dead
              · by_cases h4 : M.cell.at_ = M'.cell.at_
                · by_cases h5 : M.cell.fin = M'.cell.fin
                  · have e : M = M' := co_ext h1 h2 h3 h4 h5
                    rw [if_pos h1, if_pos h2, if_pos h3, if_pos h4, if_pos h5, eqB_true e]
                    exact ⟨rfl, rfl⟩
                  · rw [if_pos h1, if_pos h2, if_pos h3, if_pos h4, if_neg h5, eqB_false (fun e => h5 (by rw [e]))]
                    exact ⟨rfl, rfl⟩
                · rw [if_pos h1, if_pos h2, if_pos h3, if_neg h4, eqB_false (fun e => h4 (by rw [e]))]
                  exact ⟨rfl, rfl⟩
              · rw [if_pos h1, if_pos h2, if_neg h3, eqB_false (fun e => h3 (by rw [e]))]
                exact ⟨rfl, rfl⟩
            · rw [if_pos h1, if_neg h2, eqB_false (fun e => h2 (by rw [e]))]
              exact ⟨rfl, rfl⟩
          · rw [if_neg h1, eqB_false (fun e => h1 (by rw [e]))]
            exact ⟨rfl, rfl⟩
        clear hK K
        refine rel_nil fun w5 hE5 _ => ?_
        clear g0 g1 g2 g3 g4 y0 y1 y2 y3 y4
        by_cases hMM : M = M'
        · rw [eqB_true hMM]
          go_wp2_with fail
          go_roundw
          case rel =>
            refine ⟨k + 1, hlt, rfl, hE.trans hE5, ?_⟩
            show _ = _
            rw [List.take_succ_eq_append_getElem hl1, List.take_succ_eq_append_getElem hl2, HT.out, ← HM.out, ← HM'.out, hMM]
          case measure => simp [intOf]; omega
        · rw [eqB_false hMM]
          go_wp2_with fail
          go_ret
          rw [eqB_false (fun e => hMM (by rw [HM.out, HM'.out]; simp only [e]))]
          exact ⟨rfl, hE.trans hE5⟩
      · go_wp2_with fail
        go_ret
        rw [eqB_true (by
          have := HT.out
          rwa [List.take_of_length_le (by rw [← HN.out]; omega), List.take_of_length_le (by rw [← HN'.out]; omega)] at this)]
        exact ⟨rfl, hE⟩
  · have hne : l ≠ l' := fun e => hlen (by rw [e])
    have HB := Lib.hid (eqB_false hne)
    go_enter Tryd.func64, Tryd.ntmps64
    go_wp2
    go_ret
    exact ⟨by rw [HB.out]; rfl, Ext.refl w⟩

theorem ro_ext {a b : Ro} (h1 : a.key.toList = b.key.toList) (h2 : a.live.val.toList = b.live.val.toList) (h3 : a.live.dead = b.live.dead) (h4 : a.live.at_ = b.live.at_) (h5 : a.live.fin = b.live.fin) (h6 : a.gone = b.gone) (h7 : a.shade = b.shade) (h8 : a.cols = b.cols) : a = b := by
  have := cl_ext h2 h3 h4 h5
  cases a; cases b
  simp only at *
  rw [bytes_ext h1, this, h6, h7, h8]

set_option maxRecDepth 100000 in
set_option maxHeartbeats 4000000 in
theorem rowSame_any (a b : Ro) (va vb : Value) (w : World) (ha : ColsIn w va a.cols) (hb : ColsIn w vb b.cols) :
    Calls Tryd.prog 14 #[(.agg #[.string a.key, .string a.live.val, .bool a.live.dead, .int .i64 a.live.at_, .int .i64 a.live.fin, .int .i64 a.gone, .int .i64 a.shade, va]), (.agg #[.string b.key, .string b.live.val, .bool b.live.dead, .int .i64 b.live.at_, .int .i64 b.live.fin, .int .i64 b.gone, .int .i64 b.shade, vb])] w fun e w' => e = .returned (.bool (eqB a b)) ∧ Ext w w' := by
  go_enter Tryd.func14, Tryd.ntmps14
  go_wp2_with fail
  rotate_left
  all_goals try
    rename_i h
    go_ret
    exact ⟨by rw [eqB_false (fun e => h (by rw [e]))]; rfl, ((Ext.refl w).alloc _).alloc _⟩
  rename_i h1 h2 h3 h4 h5 h6 h7 _ _
  refine (eqCols_any va vb a.cols b.cols _ (ha.ext (((Ext.refl w).alloc _).alloc _)) (hb.ext (((Ext.refl w).alloc _).alloc _))).mono ?_
  rintro e w1 ⟨rfl, hE1⟩
  have he : eqB a.cols b.cols = eqB a b := by
    by_cases h : a.cols = b.cols
    · rw [eqB_true h, eqB_true (ro_ext h1 h2 h3 h4 h5 h6 h7 h)]
    · rw [eqB_false h, eqB_false (fun e => h (by rw [e]))]
  rw [he]
  obtain ⟨B, hB⟩ : ∃ B, B = eqB a b := ⟨_, rfl⟩
  rw [← hB]
  have HB := Lib.hid hB
  clear hB he h1 h2 h3 h4 h5 h6 h7
  go_wp2_with fail
  go_ret
  exact ⟨by rw [← HB.out]; rfl, (((Ext.refl w).alloc _).alloc _).trans hE1⟩

set_option maxRecDepth 100000 in
set_option maxHeartbeats 4000000 in
theorem eqRows_any (v v' : Value) (ps ps' : List (Ro × Value)) (w : World) (hin : RowsIn w v ps) (hin' : RowsIn w v' ps') :
    Calls Tryd.prog 74 #[v, v', .func (.func 14) #[] #[]] w fun e w' => e = .returned (.bool (eqB (ps.map (·.1)) (ps'.map (·.1)))) ∧ Ext w w' := by
  obtain ⟨a, c, rfl, hc, hcm, hcell⟩ := hin.get
  obtain ⟨a', c', rfl, hc', hcm', hcell'⟩ := hin'.get
  have HC := Lib.hid hcell
  have HC' := Lib.hid hcell'
  have HK := Lib.hid hin.cols
  have HK' := Lib.hid hin'.cols
  clear hcell hin hcell' hin'
  by_cases hlen : ps.length = ps'.length
  · obtain ⟨n, hn⟩ : ∃ n, n = ps.length := ⟨_, rfl⟩
    rw [← hn] at hlen hc ⊢
    rw [← hlen] at hc' ⊢
    have HN := Lib.hid hn
    have HN' := Lib.hid hlen
    clear hn hlen
    obtain ⟨l, hl⟩ : ∃ l, l = ps.map (·.1) := ⟨_, rfl⟩
    obtain ⟨l', hl'⟩ : ∃ l', l' = ps'.map (·.1) := ⟨_, rfl⟩
    rw [← hl, ← hl']
    have HL := Lib.hid hl
    have HL' := Lib.hid hl'
    clear hl hl'
    go_enter Tryd.func74, Tryd.ntmps74
    go_wp2
    go_loopw [17] (fun i wr => ∃ k : Nat, k ≤ n ∧ i = .int .i64 k ∧ Ext w wr ∧ Hid (l.take k = l'.take k)) (fun i _ => n - (intOf i).toNat)
    case atStart => exact ⟨0, Nat.zero_le _, rfl, Ext.refl w, rfl⟩
    case round =>
      obtain ⟨k, hk, rfl, hE, HT⟩ := hrel
      by_cases hlt : k < n
      · have hl1 : k < ps.length := by rw [← HN.out]; exact hlt
        have hl2 : k < ps'.length := by rw [← HN'.out]; exact hlt
        have hll : k < l.length := by rw [HL.out]; simpa using hl1
        have hll' : k < l'.length := by rw [HL'.out]; simpa using hl2
        obtain ⟨b, o, rfl, hco⟩ := HC.out k hl1
        obtain ⟨b', o', rfl, hco'⟩ := HC'.out k hl2
        have hk1 := HK.out _ (List.getElem_mem hl1)
        have hk2 := HK'.out _ (List.getElem_mem hl2)
        obtain ⟨M, hM⟩ : ∃ M, M = ps[k].1 := ⟨_, rfl⟩
        obtain ⟨M', hM'⟩ : ∃ M', M' = ps'[k].1 := ⟨_, rfl⟩
        obtain ⟨au, cu, hu⟩ := hk1.shape
        obtain ⟨au', cu', hu'⟩ := hk2.shape
        rw [← hM] at hco hk1 hu
        rw [← hM'] at hco' hk2 hu'
        rw [hu] at hco hk1
        rw [hu'] at hco' hk2
        have hM1 : M = l[k] := by simp only [HL.out, List.getElem_map]; exact hM
        have hM1' : M' = l'[k] := by simp only [HL'.out, List.getElem_map]; exact hM'
        have HM := Lib.hid hM1
        have HM' := Lib.hid hM1'
        clear hM hM' hu hu' hM1 hM1'
        obtain ⟨mm, hmm⟩ : ∃ mm, mm = M.cols.length := ⟨_, rfl⟩
        obtain ⟨mm', hmm'⟩ : ∃ mm', mm' = M'.cols.length := ⟨_, rfl⟩
        rw [← hmm] at hco hk1
        rw [← hmm'] at hco' hk2
        clear hmm hmm'
        obtain ⟨g0, g1, g2, g3, g4, g5, g6, g7⟩ := hco.ext hE
        have hco2 := hco'.ext hE
        go_wp2_with (first
          | (((guard_target =~ wpList _ _ _ (Oper.mk none (Op.store _ (Operand.tmp 8) (Operand.tmp 21)) _ _ _ _ :: _) _ _); go_must (refine storeBox rfl 26 (.tmp 8) (.tmp 21) rfl (wr.heap.size) _ _ _ (by rfl) (by rfl) ((BoxAt.made wr (ro8 ⟨⟨#[]⟩, zeroCl, 0, 0, []⟩ (.slice none 0 0)) 26)) (by kernel_rfl) (by rfl) (by simp [Value.oneCell']) ?_); intro w4 c4 gg4); have hX4 : Ext wr w4 := ((Ext.refl wr).alloc _).grown gg4 (fun q hq => by cases hq; omega); obtain ⟨y0, y1, y2, y3, y4, y5, y6, y7⟩ := hco2.ext hX4)
          | (((guard_target =~ wpList _ _ _ (Oper.mk none (Op.store _ (Operand.tmp 9) (Operand.tmp 25)) _ _ _ _ :: _) _ _); go_must (refine storeBox rfl 26 (.tmp 9) (.tmp 25) rfl (w4.heap.size) _ _ _ (by rfl) (by rfl) ((BoxAt.made w4 (ro8 ⟨⟨#[]⟩, zeroCl, 0, 0, []⟩ (.slice none 0 0)) 26)) (by kernel_rfl) (by rfl) (by simp [Value.oneCell']) ?_); intro w5 c5 gg5); have hX5 : Ext w4 w5 := ((Ext.refl w4).alloc _).grown gg5 (fun q hq => by cases hq; omega); have d4 := (c4.ext hX5).ro (r := ⟨M.key, M.live, M.gone, M.shade, []⟩) (v := .slice au mm cu); have d5 := c5.ro (r := ⟨M'.key, M'.live, M'.gone, M'.shade, []⟩) (v := .slice au' mm' cu')))
        refine (rowSame_any M M' _ _ w5 (hk1.ext ((hE.trans hX4).trans hX5)) (hk2.ext ((hE.trans hX4).trans hX5))).mono ?_
        rintro e w6 ⟨rfl, hE6⟩
        have hX6 := ((hE.trans hX4).trans hX5).trans hE6
        clear d4 d5 g0 g1 g2 g3 g4 g5 g6 g7 y0 y1 y2 y3 y4 y5 y6 y7 c4 c5 gg4 gg5
        by_cases hMM : M = M'
        · rw [eqB_true hMM]
          go_wp2_with fail
          go_roundw
          case rel =>
            refine ⟨k + 1, hlt, rfl, hX6, ?_⟩
            show _ = _
            rw [List.take_succ_eq_append_getElem hll, List.take_succ_eq_append_getElem hll', HT.out, ← HM.out, ← HM'.out, hMM]
          case measure => simp [intOf]; omega
        · rw [eqB_false hMM]
          go_wp2_with fail
          go_ret
          rw [eqB_false (fun e => hMM (by rw [HM.out, HM'.out]; simp only [e]))]
          exact ⟨rfl, hX6⟩
      · go_wp2_with fail
        go_ret
        rw [eqB_true (by
          have := HT.out
          rwa [List.take_of_length_le (by rw [HL.out]; simp; rw [← HN.out]; omega), List.take_of_length_le (by rw [HL'.out]; simp; rw [← HN'.out]; omega)] at this)]
        exact ⟨rfl, hE⟩
  · have hne : ps.map (·.1) ≠ ps'.map (·.1) := fun e => hlen (by have := congrArg List.length e; simpa using this)
    have HB := Lib.hid (eqB_false hne)
    go_enter Tryd.func74, Tryd.ntmps74
    go_wp2
    go_ret
    exact ⟨by rw [HB.out]; rfl, Ext.refl w⟩

set_option maxRecDepth 100000 in
set_option maxHeartbeats 4000000 in
theorem partSame_any (k k' : ByteArray) (g g' : Int) (u u' : Value) (ps ps' : List (Ro × Value)) (w : World) (hin : RowsIn w u ps) (hin' : RowsIn w u' ps') :
    Calls Tryd.prog 38 #[.agg #[.string k, .int .i64 g, u], .agg #[.string k', .int .i64 g', u']] w fun e w' => e = .returned (.bool (eqB (k, g, ps.map (·.1)) (k', g', ps'.map (·.1)))) ∧ Ext w w' := by
  by_cases hg : g = g'
  · subst hg
    go_enter Tryd.func38, Tryd.ntmps38
    go_wp2_with fail
    rotate_left
    · rename_i h
      go_ret
      exact ⟨by rw [eqB_false (fun e => h (congrArg ByteArray.toList (congrArg Prod.fst e)))]; rfl, ((Ext.refl w).alloc _).alloc _⟩
    rename_i h1 _ _
    refine (eqRows_any u u' ps ps' _ (hin.ext (((Ext.refl w).alloc _).alloc _)) (hin'.ext (((Ext.refl w).alloc _).alloc _))).mono ?_
    rintro e w1 ⟨rfl, hE1⟩
    have he : eqB (ps.map (·.1)) (ps'.map (·.1)) = eqB (k, g, ps.map (·.1)) (k', g, ps'.map (·.1)) := by
      by_cases h : ps.map (·.1) = ps'.map (·.1)
      · rw [eqB_true h, eqB_true (by rw [bytes_ext h1, h])]
      · rw [eqB_false h, eqB_false (fun e => h (congrArg (fun p => p.2.2) e))]
    rw [he]
    obtain ⟨B, hB⟩ : ∃ B, B = eqB (k, g, ps.map (·.1)) (k', g, ps'.map (·.1)) := ⟨_, rfl⟩
    rw [← hB]
    have HB := Lib.hid hB
    clear hB he h1
    go_wp2_with fail
    go_ret
    exact ⟨by rw [← HB.out]; rfl, (((Ext.refl w).alloc _).alloc _).trans hE1⟩
  · have hgb : (g == g') = false := by simpa using hg
    have hne := Lib.hid (eqB_false (fun e : (k, g, ps.map (·.1)) = (k', g', ps'.map (·.1)) => hg (congrArg (fun p => p.2.1) e)))
    clear hg
    go_enter Tryd.func38, Tryd.ntmps38
    go_wp2_with fail
    all_goals
      go_ret
      exact ⟨by rw [hne.out]; rfl, ((Ext.refl w).alloc _).alloc _⟩
end Go.Proofs.YteamiiekpjoclaaDoor
