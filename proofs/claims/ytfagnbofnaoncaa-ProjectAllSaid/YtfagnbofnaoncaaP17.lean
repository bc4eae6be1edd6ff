/- project.Seen of any rows. -/
import Derived.Test.YtfagnbofnaoncaaP14
import Derived.Test.YtfagnbofnaoncaaP16
import Derived.Test.YtfagnbofnaoncaaP13
import Derived.Test.YtfagnbofnaoncaaP5
import Derived.Test.YtfagnbofnaoncaaP3
import Derived.Test.YtfagnbofnaoncaaP15
set_option linter.unusedSimpArgs false
set_option linter.unusedVariables false
namespace Go.Proofs.Ytfagnbofnaoncaa
open Go Go.RowKit
attribute [local go_sem] yields yUpon ro8 pa3 vw5 cl4 tabV

/-- A row in a view, with those columns. -/
def ofRow (x : Vw) (ns : List ByteArray) (pk : ByteArray) (pg : Int) (r : Ro) (lc : List Co) : Option (ByteArray × Ro) :=
  if bestB (cellOf r.cols x.on) (max r.gone pg) then some ((cellOf r.cols x.on).val, ⟨vkey pk r.key, ⟨⟨#[]⟩, false, (cellOf r.cols x.on).at_, (cellOf r.cols x.on).fin⟩, 0, 0, lc.filter (keeps ns)⟩) else none
theorem of_any (x : Vw) (u : Value) (ns : List ByteArray) (pk : ByteArray) (pg : Int) (pu : Value) (r : Ro) (v cv : Value) (lc : List Co) (w : World) (hin : ColsIn w v r.cols) (hcv : ColsIn w cv lc) (hlc : lc.length ≤ 1000000) (hns : StrsIn w u ns)
    (hk : pk.size ≤ 10000000) (hr : r.key.size ≤ 10000000) (hkl : (vkey pk r.key).size ≤ 400) :
    Calls Try.prog 28 #[.agg #[.string x.name, .int .i64 x.id, .string x.table, .string x.on, u], .agg #[.string pk, .int .i64 pg, pu], (.agg #[.string r.key, .string r.live.val, .bool r.live.dead, .int .i64 r.live.at_, .int .i64 r.live.fin, .int .i64 r.gone, .int .i64 r.shade, v]), cv] w fun e w' =>
      ∃ rv, e = .returned (.tuple #[.agg #[.string (mirK (ofRow x ns pk pg r lc)), .int .i64 0, rv], .bool (ofRow x ns pk pg r lc).isSome]) ∧ ∃ ps, RowsT w' rv ps ∧ ps.map (·.1) = mirR (ofRow x ns pk pg r lc) ∧ Ext w w' := by
  cases hb : bestB (cellOf r.cols x.on) (max r.gone pg) with
  | true =>
    have e : ofRow x ns pk pg r lc = some ((cellOf r.cols x.on).val, ⟨vkey pk r.key, ⟨⟨#[]⟩, false, (cellOf r.cols x.on).at_, (cellOf r.cols x.on).fin⟩, 0, 0, lc.filter (keeps ns)⟩) := by unfold ofRow; rw [if_pos hb]
    rw [e]
    refine (of_some x u ns pk pg pu r v cv lc w hin hcv hlc hns hb hk hr hkl).mono ?_
    rintro e w' ⟨b, v', rfl, hwb, hbox, hown, hE⟩
    exact ⟨_, rfl, _, RowsT.one hbox (TIn.own hown), rfl, hE⟩
  | false =>
    have e : ofRow x ns pk pg r lc = none := by unfold ofRow; rw [if_neg (by rw [hb]; decide)]
    rw [e]
    refine (of_none x u pk pg pu r v cv w hin hb hk hr).mono ?_
    rintro e w' ⟨rfl, hE⟩
    exact ⟨_, rfl, [], RowsT.nil _, rfl, hE⟩
theorem ofSeen_of (x : Vw) (ns : List ByteArray) (pk : ByteArray) (pg now : Int) (r : Ro) : ofSeen x ns pk pg now r = (ofRow x ns pk pg r (seenCos r.cols (max r.gone pg) now)).bind fun q => if seenB q.2.live.dead q.2.live.at_ q.2.live.fin now then some q else none := by
  unfold ofSeen ofRow
  cases bestB (cellOf r.cols x.on) (max r.gone pg) with
  | true => rfl
  | false => rfl

theorem FS.keep {w : World} {s : Value} {x : Vw} {u : Value} {pk : ByteArray} {pg : Int} {pu : Value} {vl : Value} {L : List Pa} {y z : World} {q : Nat} {W : Array Value} (h : FS w s x u pk pg pu vl L y) (hq : w.heap.size + 3 ≤ q) (hg : y.grownBy z (some q)) (hb : BoxAt y q W 27) (hne : vl.ownBlock ≠ some q) : FS w s x u pk pg pu vl L z :=
  ⟨h.ext.grown hg (fun p hp => by cases hp; omega), h.tab.grown hg (fun e => by cases e; omega), h.view.grown hg (fun e => by cases e; omega), h.part.grown hg (fun e => by cases e; omega), h.own.kept hg (.inr hne), fun p hp => (h.rows p hp).keep hg hb (by decide) (by decide)⟩

set_option maxRecDepth 100000 in
set_option maxHeartbeats 8000000 in
theorem projseen_any (s : Value) (x : Vw) (u : Value) (ns : List ByteArray) (pk : ByteArray) (pg : Int) (pu : Value) (ps : List (Ro × Value)) (now : Int) (w : World) (hrows : RowsIn w pu ps) (hlen : ps.length ≤ 1000000) (hlc : ∀ p ∈ ps, p.1.cols.length ≤ 1000000) (hns : StrsIn w u ns)
    (hk : pk.size ≤ 10000000) (hkeys : ∀ p ∈ ps, p.1.key.size ≤ 10000000 ∧ (vkey pk p.1.key).size ≤ 400) :
    Calls Try.prog 19 #[tabV s, .agg #[.string x.name, .int .i64 x.id, .string x.table, .string x.on, u], .agg #[.string pk, .int .i64 pg, pu], .int .i64 now] w fun e w' => ∃ v', e = .returned v' ∧ ∃ L : List Pa,
      w'.ownsRow w.heap.size 27 3 v' L.length (paCells L) ∧ (∀ p ∈ L, RowsT w' p.rv p.ps) ∧ L.map Pa.data = outQ (viewRs x ns pk pg now (ps.map (·.1))) ∧ Ext w w' := by
  obtain ⟨aa, ca, rfl, hca, hcma, hget⟩ := hrows.get
  obtain ⟨n, hn⟩ : ∃ n, n = ps.length := ⟨_, rfl⟩
  rw [← hn] at hlen hca ⊢
  obtain ⟨a0, a1, a2, hE⟩ := boxes3 w #[.string ⟨#[116]⟩, .int .i64 1, .string ⟨#[112]⟩, .int .i64 1, .string ⟨#[107]⟩, .int .i64 2, s] (vw5 x u) (pa3 pk pg (.slice aa n ca)) 35 24 27
  have HN := Lib.hid hn
  have HGET := Lib.hid hget
  clear hn hget
  have p0 := a2.pa
  unfold tabV
  go_enter Try.func19, Try.ntmps19
  go_wp2
  clear p0
  go_loopw [9, 17] (fun m i wr => ∃ (k : Nat) (L : List Pa), k ≤ n ∧ i = .int .i64 k ∧ FS w s x u pk pg (.slice aa n ca) m L wr ∧ Hid (L.map Pa.data = outQ (viewRs x ns pk pg now ((ps.map (·.1)).take k))) ∧ L.length ≤ k) (fun _ i _ => n - (intOf i).toNat)
  case atStart => exact ⟨0, [], Nat.zero_le _, rfl, ⟨hE, a0, a1, a2, World.ownsRow_nil _ _ _ _, nofun⟩, rfl, by simp⟩
  case round =>
    obtain ⟨k, L, hkn, rfl, hS, HO, hLk⟩ := hrel
    by_cases hlt : k < n
    · have hkp : k < ps.length := by rw [← HN.out]; exact hlt
      have hkc := hlc _ (List.getElem_mem hkp)
      have hkk := hkeys _ (List.getElem_mem hkp)
      have hcu := hrows.cols _ (List.getElem_mem hkp)
      obtain ⟨b, o, rfl, hat⟩ := HGET.out k hkp
      have hsnoc : (ps.map (·.1)).take (k + 1) = (ps.map (·.1)).take k ++ [ps[k].1] := by
        rw [List.take_succ_eq_append_getElem (by simpa using hkp)]
        simp
      obtain ⟨M, hM⟩ : ∃ M, M = ps[k].1 := ⟨_, rfl⟩
      obtain ⟨au, cu, hu⟩ := hcu.shape
      rw [← hM] at hkc hcu hu hsnoc hat hkk
      rw [hu] at hcu hat
      obtain ⟨S, hSS⟩ : ∃ S, S = seenCos M.cols (max M.gone pg) now := ⟨_, rfl⟩
      obtain ⟨mr, hmr⟩ : ∃ mr, mr = ofRow x ns pk pg M S := ⟨_, rfl⟩
      have HSN : Hid (viewRs x ns pk pg now ((ps.map (·.1)).take (k + 1)) = viewRs x ns pk pg now ((ps.map (·.1)).take k) ++ (mr.bind fun q => if seenB q.2.live.dead q.2.live.at_ q.2.live.fin now then some q else none).toList) := by
        show _ = _
        rw [hsnoc, viewRs_snoc, ofSeen_of, hmr, hSS]
      have hSl : S.length ≤ 1000000 := by rw [hSS]; exact Nat.le_trans (List.length_filter_le _ _) hkc
      have HSS := Lib.hid hSS
      have HMR := Lib.hid hmr
      have HSL := Lib.hid hSl
      clear hM hu hsnoc hSS hmr hSl
      obtain ⟨m, hm⟩ : ∃ m, m = M.cols.length := ⟨_, rfl⟩
      rw [← hm] at hcu hat
      clear hm
      replace hcu := hcu.ext hS.ext
      have hn0 := hns.ext hS.ext
      obtain ⟨g0, g1, g2, g3, g4, g5, g6, g7⟩ := hat.ext hS.ext
      clear hat
      have HCU := Lib.hid hcu
      clear hcu
      go_wp2_with (((guard_target =~ wpList _ _ _ (Oper.mk none (Op.store _ (Operand.tmp 11) (Operand.tmp 20)) _ _ _ _ :: _) _ _); go_must (refine storeBox rfl 48 (.tmp 11) (.tmp 20) rfl (wr.heap.size) _ _ _ (by rfl) (by rfl) ((BoxAt.made wr (ro8 ⟨⟨#[]⟩, zeroCl, 0, 0, []⟩ (.slice none 0 0)) 48)) (by kernel_rfl) (by rfl) (by simp [Value.oneCell']) ?_); intro w4 c4 h4))
      have hX4 : Ext wr w4 := ((Ext.refl wr).alloc _).grown h4 (fun q hq => by cases hq; exact Nat.le_refl _)
      have hne : ∀ q, w4.heap.size ≤ q → u9.ownBlock ≠ some q := fun q hq e => by have := (hS.own.lt q e).2; have := hX4.le; omega
      have hS4 := hS.ext' hX4
      have hcu4 := HCU.out.ext hX4
      have hn4 := hn0.ext hX4
      have d4 := c4.ro (r := M) (v := .slice au m cu)
      obtain ⟨x0, x1, x2, x3, x4, x5, x6, x7⟩ := d4
      obtain ⟨z0, z1, z2, z3, z4⟩ := hS4.view.vw
      obtain ⟨p0, p1, p2⟩ := hS4.part.pa
      clear g0 g1 g2 g3 g4 g5 g6 g7 c4 h4 hX4 hS hn0 HCU
      refine wp_region_late_in 13 11 13 [(7, fun v y => ColsT y v S), (8, fun v y => ∃ rv qs, v = .tuple #[.agg #[.string (mirK mr), .int .i64 0, rv], .bool mr.isSome] ∧ RowsT y rv qs ∧ qs.map (·.1) = mirR mr), (12, fun v y => ∃ q, v = .pointer (some ⟨q, 0, none⟩) ∧ w4.heap.size ≤ q ∧ BoxAt y q (pa3 ⟨#[]⟩ 0 (.slice none 0 0)) 27)] (by kernel_rfl) (by kernel_rfl) (by kernel_rfl) (by kernel_rfl) (fun c a d v w h => by cases d <;> exact h) ⟨fun _ _ _ hE h => h.ext hE, fun _ _ _ hE ⟨rv, qs, e, h, h'⟩ => ⟨rv, qs, e, h.ext hE, h'⟩, fun _ _ _ hE ⟨q, e, h1, h2⟩ => ⟨q, e, h1, h2.ext hE⟩, trivial⟩ ?_
      simp only [late, List.modify_succ_cons, List.modify_zero_cons, List.push_toArray, List.cons_append, List.nil_append]
      replace x0 := held x0
      replace x1 := held x1
      replace x2 := held x2
      replace x3 := held x3
      replace x4 := held x4
      replace x5 := held x5
      replace x6 := held x6
      replace x7 := held x7
      replace z0 := held z0
      replace z1 := held z1
      replace z2 := held z2
      replace z3 := held z3
      replace z4 := held z4
      replace p0 := held p0
      replace p1 := held p1
      replace p2 := held p2
      refine rg_quiet rfl rfl rfl rfl ?_; intro K hK; go_big_quiet_op; go_big_quiet_on
      refine rg_quiet rfl rfl rfl rfl ?_; intro K hK; go_big_quiet_op; go_big_quiet_on
      refine rg_quiet rfl rfl rfl rfl ?_; intro K hK; go_big_quiet_op; go_big_quiet_on
      refine rg_quiet rfl rfl rfl rfl ?_; intro K hK; go_big_quiet_op; go_big_quiet_on
      refine rg_quiet rfl rfl rfl rfl ?_; intro K hK; go_big_quiet_op; go_big_quiet_on
      refine rg_quiet rfl rfl rfl rfl ?_; intro K hK; go_big_quiet_op; go_big_quiet_on
      refine rg_quiet rfl rfl rfl rfl ?_; intro K hK; go_big_quiet_op; go_big_quiet_on
      refine rg_fact [] rfl rfl rfl (by kernel_rfl) (fun y hY hf => ?_) (fun v7 y7 hE7 hG7 h7 => ?_)
      · go_simp
        refine (rwseen_any M (.slice au m cu) pg now y (hcu4.ext hY) hkc).mono ?_
        rw [← HSS.out]
        rintro e y' ⟨v', he, hown', hy⟩
        exact ⟨_, he, rg_doneR hY hy (TIn.own hown')⟩
      obtain ⟨a7, c7, rfl⟩ := TIn.shape h7
      clear hE7 hG7 h7
      simp only [Act.put, List.setIfInBounds_toArray, List.set_cons_zero, List.set_cons_succ]
      refine rg_fact [7] rfl rfl rfl (by kernel_rfl) (fun y hY hf => ?_) (fun v8 y8 hE8 hG8 h8 => ?_)
      · have hc7 : ColsT y (.slice a7 S.length c7) S := (hf 7 (by simp)).2 rfl
        go_simp
        refine (of_any x u ns pk pg (.slice (some ⟨b, o, none⟩) n ca) M (.slice au m cu) _ S y (hcu4.ext hY) hc7.cols HSL.out (hn4.ext hY) hk hkk.1 hkk.2).mono ?_
        rw [← HMR.out]
        rintro e y' ⟨rv, he, qs, hqs, hqm, hy⟩
        exact ⟨_, he, rg_doneR hY hy ⟨rv, rfl, qs, hqs, hqm⟩⟩
      obtain ⟨rv, qs, rfl, hqs, _⟩ := h8
      obtain ⟨a8, cc8, rfl⟩ := hqs.shape
      clear hE8 hG8 hqs
      simp only [Act.put, List.setIfInBounds_toArray, List.set_cons_zero, List.set_cons_succ]
      refine rg_quiet rfl rfl rfl rfl ?_; intro K hK; go_big_quiet_op; go_big_quiet_on
      refine rg_quiet rfl rfl rfl rfl ?_; intro K hK; go_big_quiet_op; go_big_quiet_on
      refine rg_quiet rfl rfl rfl rfl ?_; intro K hK; go_big_quiet_op; go_big_quiet_on
      refine rg_fact [] rfl rfl rfl (by kernel_rfl) (fun y hY hf => ?_) (fun v12 y12 hE12 hG12 h12 => ?_)
      · go_simp
        exact rg_doneR hY ((Ext.refl y).alloc _) ⟨_, rfl, hY.le, BoxAt.made y _ _⟩
      obtain ⟨q12, rfl, _⟩ := h12
      clear hE12 hG12
      simp only [Act.put, List.setIfInBounds_toArray, List.set_cons_zero, List.set_cons_succ]
      refine rel_tail rfl rfl fun w5 hE5 hG => ?_
      obtain ⟨rv, qs', e8, hqs, hqm⟩ := (hG 8).1.2 rfl
      obtain ⟨q12', e12, hq12, hbx⟩ := (hG 12).2 rfl
      cases e8
      cases e12
      have hS5 := hS4.ext' hE5
      have hq3 : w.heap.size + 3 ≤ q12 := by have := hS4.part.lt; omega
      have HNE := Lib.hid (hne q12 hq12)
      clear hne
      clear hG x0 x1 x2 x3 x4 x5 x6 x7 z0 z1 z2 z3 z4 p0 p1 p2 hS4 hcu4 hn4
      have hqn : qs.length = qs'.length := by
        obtain ⟨_, _, e⟩ := hqs.shape
        exact congrArg (fun v => match v with | .slice _ n _ => n | _ => 0) e
      rw [hqn] at hqs ⊢
      clear hqn
      cases mr with
      | none =>
        simp only [mirK, Option.isSome]
        obtain ⟨nq, hnq⟩ : ∃ nq, nq = qs'.length := ⟨_, rfl⟩
        rw [← hnq]
        go_wp2_with (((guard_target =~ wpList _ _ _ (Oper.mk none (Op.store _ (Operand.tmp 12) (Operand.tmp 31)) _ _ _ _ :: _) _ _); go_must (refine storeBox rfl 27 (.tmp 12) (.tmp 31) rfl (q12) _ _ _ (by rfl) (by rfl) (hbx) (by kernel_rfl) (by rfl) (by simp [Value.oneCell']) ?_); intro w6 c6 h6))
        go_roundw
        case rel => exact ⟨k + 1, L, by omega, by go_num, hS5.keep hq3 h6 hbx HNE.out, by show _ = _; rw [HSN.out, Option.bind_none, Option.toList_none, List.append_nil]; exact HO.out, by omega⟩
        case measure => simp [intOf] <;> omega
      | some q =>
        obtain ⟨vm, bm, rfl, rfl, _⟩ := hqs.single hqm
        simp only [mirK, Option.isSome, List.length_cons, List.length_nil, Nat.zero_add] at hqs ⊢
        obtain ⟨qk, qr⟩ := q
        obtain ⟨rk, ⟨lv, ld, la, lf⟩, rg, rsh, rc⟩ := qr
        go_wp2_with (((guard_target =~ wpList _ _ _ (Oper.mk none (Op.store _ (Operand.tmp 12) (Operand.tmp 31)) _ _ _ _ :: _) _ _); go_must (refine storeBox rfl 27 (.tmp 12) (.tmp 31) rfl (q12) _ _ _ (by rfl) (by rfl) (hbx) (by kernel_rfl) (by rfl) (by simp [Value.oneCell']) ?_); intro w6 c6 h6); have hr6 := hqs.keep h6 hbx (by decide) (by decide); have hr7 : w6.cell? ⟨bm, 1, none⟩ = some (.string lv) ∧ w6.cell? ⟨bm, 2, none⟩ = some (.bool ld) ∧ w6.cell? ⟨bm, 3, none⟩ = some (.int .i64 la) ∧ w6.cell? ⟨bm, 4, none⟩ = some (.int .i64 lf) := (by obtain ⟨_, r1, r2, r3, r4, _⟩ := hr6.at0; exact ⟨r1, r2, r3, r4⟩); clear hr6; have d6 : w6.cell? ⟨q12, 0, none⟩ = some (.string qk) ∧ w6.cell? ⟨q12, 1, none⟩ = some (.int .i64 0) ∧ w6.cell? ⟨q12, 2, none⟩ = some (.slice (some ⟨bm, 0, none⟩) 1 cc8) := BoxAt.pa c6)
        have hS6 := hS5.keep hq3 h6 hbx HNE.out
        have hr6 := hqs.keep h6 hbx (by decide) (by decide)
        clear hqs hS5 hbx h6
        refine (seen_any lv ld la lf now w6).mono ?_
        obtain ⟨B, hB⟩ : ∃ B, B = seenB ld la lf now := ⟨_, rfl⟩
        rw [← hB]
        rintro e w7 ⟨rfl, hE7⟩
        have HB := Lib.hid hB
        have hS7 := hS6.ext' hE7
        have hr7' := hr6.ext hE7
        have c7 := BoxAt.ext hE7 c6
        have d7 : w7.cell? ⟨q12, 0, none⟩ = some (.string qk) ∧ w7.cell? ⟨q12, 1, none⟩ = some (.int .i64 0) ∧ w7.cell? ⟨q12, 2, none⟩ = some (.slice (some ⟨bm, 0, none⟩) 1 cc8) := BoxAt.pa c7
        clear hB hS6 hr6 d6 hr7 hE7 c6 c7
        cases B with
        | false =>
          have hq : Hid (((some (qk, (⟨rk, ⟨lv, ld, la, lf⟩, rg, rsh, rc⟩ : Ro)) : Option (ByteArray × Ro)).bind fun q => if seenB q.2.live.dead q.2.live.at_ q.2.live.fin now then some q else none) = none) := by
            show (if seenB ld la lf now then _ else none) = none
            rw [← HB.out, if_neg (by decide)]
          go_wp2_with fail
          go_roundw
          case rel => exact ⟨k + 1, L, by omega, by go_num, hS7, by show _ = _; rw [HSN.out, hq.out, Option.toList_none, List.append_nil]; exact HO.out, by omega⟩
          case measure => simp [intOf] <;> omega
        | true =>
          have hq : Hid (((some (qk, (⟨rk, ⟨lv, ld, la, lf⟩, rg, rsh, rc⟩ : Ro)) : Option (ByteArray × Ro)).bind fun q => if seenB q.2.live.dead q.2.live.at_ q.2.live.fin now then some q else none) = some (qk, (⟨rk, ⟨lv, ld, la, lf⟩, rg, rsh, rc⟩ : Ro))) := by
            show (if seenB ld la lf now then _ else none) = _
            rw [← HB.out, if_pos rfl]
          have hl7 := hS7.part.lt
          go_wp2_with (at_builtin; go_must (refine appR info_Part und_Parts rfl (by decide) w7 rfl (.tmp 43) (.tmp 45) rfl (w.heap.size + 3) (by omega) _ L.length (paCells L) hS7.own (by rfl) 1 _ (by rfl) (by rfl) (by simp [Value.oneCell']) (by unfold maxLen; omega) (by omega) ?_); intro m3 w3 hown3 hg3)
          have e3 : paCells L ++ [Value.string qk, .int .i64 0, .slice (some ⟨bm, 0, none⟩) 1 cc8] = paCells (L ++ [⟨qk, 0, .slice (some ⟨bm, 0, none⟩) 1 cc8, [(⟨rk, ⟨lv, ld, la, lf⟩, rg, rsh, rc⟩, vm)]⟩]) := by rw [paCells_append]; rfl
          have E3 := Lib.hid e3
          clear e3
          go_roundw
          case rel =>
            refine ⟨k + 1, L ++ [⟨qk, 0, .slice (some ⟨bm, 0, none⟩) 1 cc8, [(⟨rk, ⟨lv, ld, la, lf⟩, rg, rsh, rc⟩, vm)]⟩], by omega, by go_num, (hS7.ext' ((Ext.refl _).alloc _)).app hg3 (by rw [← E3.out]; exact hown3) (hr7'.ext ((Ext.refl _).alloc _)), ?_, by simp; omega⟩
            show List.map Pa.data (L ++ [_]) = _
            rw [HSN.out, hq.out, List.map_append, HO.out]
            unfold outQ
            rw [List.map_append]
            simp [Pa.data]
          case measure => simp [intOf] <;> omega
    · obtain rfl : k = n := by omega
      go_wp2_with fail
      go_ret
      refine ⟨_, rfl, L, ownsRow_base hS.own (by omega), hS.rows, ?_, hS.ext⟩
      rw [HO.out, HN.out, List.take_of_length_le (by simp)]
end Go.Proofs.Ytfagnbofnaoncaa

/- project: rows whose key of the view is too long are in none. -/
namespace Go.Proofs.Ytfagnbofnaoncaa
open Go Go.RowKit
attribute [local go_sem] yields yUpon ro8 pa3 vw5 cl4 tabV

set_option maxRecDepth 100000 in
set_option maxHeartbeats 2000000 in
theorem of_long (x : Vw) (u : Value) (pk : ByteArray) (pg : Int) (pu : Value) (r : Ro) (v cv : Value) (w : World) (hin : ColsIn w v r.cols) (hb : bestB (cellOf r.cols x.on) (max r.gone pg) = true) (hkl : 400 < (vkey pk r.key).size) (hk : pk.size ≤ 10000000) (hr : r.key.size ≤ 10000000) :
    Calls Try.prog 28 #[.agg #[.string x.name, .int .i64 x.id, .string x.table, .string x.on, u], .agg #[.string pk, .int .i64 pg, pu], (.agg #[.string r.key, .string r.live.val, .bool r.live.dead, .int .i64 r.live.at_, .int .i64 r.live.fin, .int .i64 r.gone, .int .i64 r.shade, v]), cv] w fun e w' =>
      e = .returned (.tuple #[.agg #[.string ⟨#[]⟩, .int .i64 0, .slice none 0 0], .bool false]) ∧ Ext w w' := by
  have HB := Lib.hid hb
  obtain ⟨C, hC⟩ : ∃ C, C = bestC (cellOf r.cols x.on) (max r.gone pg) := ⟨_, rfl⟩
  have HC := Lib.hid hC.symm
  obtain ⟨K, hK⟩ : ∃ K, K = vkey pk r.key := ⟨_, rfl⟩
  rw [← hK] at hkl
  have HK := Lib.hid hK
  have t4 : decide ((400 : Int) < (K.size : Int)) = true := by simp; omega
  clear hb hC hK
  obtain ⟨a0, a1, a2, a3, hE⟩ := boxes4 w (vw5 x u) (pa3 pk pg pu) (ro8 r v) (pa3 ⟨#[]⟩ 0 (.slice none 0 0)) 24 27 48 27
  have hin' := hin.ext hE
  go_enter Try.func28, Try.ntmps28
  go_wp2_with fail
  refine (best_any r v pg x.on _ hin').mono ?_
  rw [HB.out, HC.out]
  rintro e w1 ⟨rfl, hE1⟩
  replace a0 := a0.ext hE1
  replace a1 := a1.ext hE1
  replace a2 := a2.ext hE1
  replace a3 := a3.ext hE1
  replace hE := hE.trans hE1
  clear hE1 hin' hin
  have y1 := a1.allocs
  have y2 := a2.allocs
  have y3 := a3.frees
  have y4 := a3.allocs
  go_wp2_with fail
  refine (key_any pk r.key _ hk hr).mono ?_
  rw [← HK.out]
  rintro e w2 ⟨rfl, hE2⟩
  have b3 := a3.ext ((Ext.refl _).alloc _) |>.ext hE2
  have hX := (hE.alloc _).trans hE2
  clear y1 y2 y3 y4 a0 a1 a2 a3 hE hE2
  go_wp2_with ((guard_target =~ wpList _ _ _ (Oper.mk none (Op.store _ (Operand.tmp 8) (Operand.tmp 34)) _ _ _ _ :: _) _ _); go_must (refine storeBox rfl 27 (.tmp 8) (.tmp 34) rfl (w.heap.size + 1 + 1 + 1) _ _ _ (by rfl) (by rfl) (b3) (by kernel_rfl) (by rfl) (by simp [Value.oneCell']) ?_); intro w3 c3 g3)
  have hX3 := hX.grown g3 (fun k hk => by cases hk; omega)
  have z0 := c3.cell 0
  have z1 := c3.cell 1
  have z2 := c3.cell 2
  simp at z0 z1 z2
  refine bodyPost_ret (v := .tuple #[.agg #[.string ⟨#[]⟩, .int .i64 0, .slice none 0 0], .bool false]) ?_ rfl ⟨rfl, hX3⟩
  simp [results, Try.results28, go_sem, Act.put, z0, z1, z2]

set_option maxRecDepth 100000 in
set_option maxHeartbeats 2000000 in
theorem mirror_long (s : Value) (x : Vw) (u : Value) (pk : ByteArray) (pg : Int) (pu : Value) (r : Ro) (v : Value) (w : World) (hin : ColsIn w v r.cols) (hb : bestB (cellOf r.cols x.on) (max r.gone pg) = true) (hkl : 400 < (vkey pk r.key).size) (hk : pk.size ≤ 10000000) (hr : r.key.size ≤ 10000000) :
    Calls Try.prog 13 #[tabV s, .agg #[.string x.name, .int .i64 x.id, .string x.table, .string x.on, u], .agg #[.string pk, .int .i64 pg, pu], (.agg #[.string r.key, .string r.live.val, .bool r.live.dead, .int .i64 r.live.at_, .int .i64 r.live.fin, .int .i64 r.gone, .int .i64 r.shade, v])] w fun e w' =>
      e = .returned (.tuple #[.agg #[.string ⟨#[]⟩, .int .i64 0, .slice none 0 0], .bool false]) ∧ Ext w w' := by
  have HB := Lib.hid hb
  have HKL := Lib.hid hkl
  clear hb hkl
  obtain ⟨a0, a1, a2, a3, a4, hE⟩ := boxes5 w #[.string ⟨#[116]⟩, .int .i64 1, .string ⟨#[112]⟩, .int .i64 1, .string ⟨#[107]⟩, .int .i64 2, s] (vw5 x u) (pa3 pk pg pu) (ro8 r v) (pa3 ⟨#[]⟩ 0 (.slice none 0 0)) 35 24 27 48 27
  have hin' := hin.ext hE
  go_enter Try.func13, Try.ntmps13
  go_wp2_with fail
  refine (of_long x u pk pg pu r v v _ hin' HB.out HKL.out hk hr).mono ?_
  rintro e w1 ⟨rfl, hE1⟩
  have b3 := (a4.ext hE1).ext ((Ext.refl w1).alloc (.cells (pa3 ⟨#[]⟩ 0 (.slice none 0 0)) 27))
  replace hE := hE.trans hE1
  clear hE1 hin' hin a0 a1 a2 a3 a4
  go_wp2_with ((guard_target =~ wpList _ _ _ (Oper.mk none (Op.store _ (Operand.tmp 8) (Operand.tmp 23)) _ _ _ _ :: _) _ _); go_must (refine storeBox rfl 27 (.tmp 8) (.tmp 23) rfl (w.heap.size + 1 + 1 + 1 + 1) _ _ _ (by rfl) (by rfl) (b3) (by kernel_rfl) (by rfl) (by simp [Value.oneCell']) ?_); intro w3 c3 g3)
  have hX3 := (hE.alloc _).grown g3 (fun k hk => by cases hk; omega)
  have z0 := c3.cell 0
  have z1 := c3.cell 1
  have z2 := c3.cell 2
  simp at z0 z1 z2
  refine bodyPost_ret (v := .tuple #[.agg #[.string ⟨#[]⟩, .int .i64 0, .slice none 0 0], .bool false]) ?_ rfl ⟨rfl, hX3⟩
  simp [results, Try.results13, go_sem, Act.put, z0, z1, z2]

theorem mirrorF_any (s : Value) (x : Vw) (u : Value) (ns : List ByteArray) (pk : ByteArray) (pg : Int) (pu : Value) (r : Ro) (v : Value) (w : World) (hin : ColsIn w v r.cols) (hlc : r.cols.length ≤ 1000000) (hns : StrsIn w u ns)
    (hk : pk.size ≤ 10000000) (hr : r.key.size ≤ 10000000) :
    Calls Try.prog 13 #[tabV s, .agg #[.string x.name, .int .i64 x.id, .string x.table, .string x.on, u], .agg #[.string pk, .int .i64 pg, pu], (.agg #[.string r.key, .string r.live.val, .bool r.live.dead, .int .i64 r.live.at_, .int .i64 r.live.fin, .int .i64 r.gone, .int .i64 r.shade, v])] w fun e w' =>
      ∃ rv, e = .returned (.tuple #[.agg #[.string (mirK (mirF x ns pk pg r)), .int .i64 0, rv], .bool (mirF x ns pk pg r).isSome]) ∧ ∃ ps, RowsT w' rv ps ∧ ps.map (·.1) = mirR (mirF x ns pk pg r) ∧ Ext w w' := by
  by_cases hl : (vkey pk r.key).size ≤ 400
  · rw [mirF_short hl]
    exact mirror_any s x u ns pk pg pu r v w hin hlc hns hk hr hl
  · have e : mirF x ns pk pg r = none := by unfold mirF; rw [if_pos (by omega)]
    rw [e]
    cases hb : bestB (cellOf r.cols x.on) (max r.gone pg) with
    | true =>
      refine (mirror_long s x u pk pg pu r v w hin hb (by omega) hk hr).mono ?_
      rintro e w' ⟨rfl, hE⟩
      exact ⟨_, rfl, [], RowsT.nil _, rfl, hE⟩
    | false =>
      refine (mirror_none s x u pk pg pu r v w hin hb hk hr).mono ?_
      rintro e w' ⟨rfl, hE⟩
      exact ⟨_, rfl, [], RowsT.nil _, rfl, hE⟩
/-- A row in a view, with those columns, if its key is not too long. -/
def ofRowF (x : Vw) (ns : List ByteArray) (pk : ByteArray) (pg : Int) (r : Ro) (lc : List Co) : Option (ByteArray × Ro) := if 400 < (vkey pk r.key).size then none else ofRow x ns pk pg r lc
theorem ofF_any18 (x : Vw) (u : Value) (ns : List ByteArray) (pk : ByteArray) (pg : Int) (pu : Value) (r : Ro) (v cv : Value) (lc : List Co) (w : World) (hin : ColsIn w v r.cols) (hcv : ColsIn w cv lc) (hlc : lc.length ≤ 1000000) (hns : StrsIn w u ns)
    (hk : pk.size ≤ 10000000) (hr : r.key.size ≤ 10000000) :
    Calls Try.prog 28 #[.agg #[.string x.name, .int .i64 x.id, .string x.table, .string x.on, u], .agg #[.string pk, .int .i64 pg, pu], (.agg #[.string r.key, .string r.live.val, .bool r.live.dead, .int .i64 r.live.at_, .int .i64 r.live.fin, .int .i64 r.gone, .int .i64 r.shade, v]), cv] w fun e w' =>
      ∃ rv, e = .returned (.tuple #[.agg #[.string (mirK (ofRowF x ns pk pg r lc)), .int .i64 0, rv], .bool (ofRowF x ns pk pg r lc).isSome]) ∧ ∃ ps, RowsT w' rv ps ∧ ps.map (·.1) = mirR (ofRowF x ns pk pg r lc) ∧ Ext w w' := by
  by_cases hl : (vkey pk r.key).size ≤ 400
  · have e : ofRowF x ns pk pg r lc = ofRow x ns pk pg r lc := by unfold ofRowF; rw [if_neg (by omega)]
    rw [e]
    exact of_any x u ns pk pg pu r v cv lc w hin hcv hlc hns hk hr hl
  · have e : ofRowF x ns pk pg r lc = none := by unfold ofRowF; rw [if_pos (by omega)]
    rw [e]
    cases hb : bestB (cellOf r.cols x.on) (max r.gone pg) with
    | true =>
      refine (of_long x u pk pg pu r v cv w hin hb (by omega) hk hr).mono ?_
      rintro e w' ⟨rfl, hE⟩
      exact ⟨_, rfl, [], RowsT.nil _, rfl, hE⟩
    | false =>
      refine (of_none x u pk pg pu r v cv w hin hb hk hr).mono ?_
      rintro e w' ⟨rfl, hE⟩
      exact ⟨_, rfl, [], RowsT.nil _, rfl, hE⟩
end Go.Proofs.Ytfagnbofnaoncaa

/- The reference's rows: Seen. -/
namespace Go.Proofs.Ytfagnbofnaoncaa
open Go Go.RowKit
attribute [local go_sem] yields yUpon co5 cl4

theorem seenCo_best (M : Co) (G now : Int) : seenCo M G now = (bestB M.cell G && seenB M.cell.dead M.cell.at_ M.cell.fin now) := by
  unfold seenCo bestB
  cases hd : M.cell.dead with
  | true => rfl
  | false =>
    by_cases h1 : M.cell.at_ < 1
    · have : seenB false M.cell.at_ M.cell.fin now = false := by
        unfold seenB
        rw [show decide (0 < M.cell.at_) = false by simp; omega]
        rfl
      rw [this]
      simp
    · by_cases h2 : G < M.cell.at_
      · have h3 : ¬ M.cell.at_ ≤ G := by omega
        simp [h1, h2, h3]
      · have h3 : M.cell.at_ ≤ G := by omega
        simp [h1, h2, h3]

set_option maxRecDepth 100000 in
set_option maxHeartbeats 4000000 in
theorem seen7_any (r : Ro) (v : Value) (part now : Int) (w : World) (hin : ColsIn w v r.cols) (hlen : r.cols.length ≤ 400000) (hd : ∀ (k : Nat) (h : k < r.cols.length), cellOf r.cols r.cols[k].name = r.cols[k].cell) :
    Calls Try.prog 37 #[(.agg #[.string r.key, .string r.live.val, .bool r.live.dead, .int .i64 r.live.at_, .int .i64 r.live.fin, .int .i64 r.gone, .int .i64 r.shade, v]), .int .i64 part, .int .i64 now] w fun e w' => ∃ v', e = .returned v' ∧ w'.ownsRow (w.heap.size + 1) 76 5 v' (seenCos r.cols (max r.gone part) now).length (coCells (seenCos r.cols (max r.gone part) now)) ∧ Ext w w' := by
  obtain ⟨a, c, rfl, hc, hcm, hcell⟩ := hin.get
  obtain ⟨l, hl⟩ : ∃ l, l = r.cols := ⟨_, rfl⟩
  obtain ⟨G, hG⟩ : ∃ G, G = max r.gone part := ⟨_, rfl⟩
  have hbest : ∀ (k : Nat) (h : k < l.length) (y : World), Ext w y → Calls Try.prog 30 #[(.agg #[.string r.key, .string r.live.val, .bool r.live.dead, .int .i64 r.live.at_, .int .i64 r.live.fin, .int .i64 r.gone, .int .i64 r.shade, (.slice a l.length c)]), .int .i64 part, .string l[k].name] y fun e w' => e = .returned (.tuple #[(.agg #[.string (bestC l[k].cell G).val, .bool (bestC l[k].cell G).dead, .int .i64 (bestC l[k].cell G).at_, .int .i64 (bestC l[k].cell G).fin]), .bool (bestB l[k].cell G)]) ∧ Ext y w' := by
    intro k h y hy
    subst hl
    rw [hG]
    have := best7_any r (.slice a r.cols.length c) part r.cols[k].name y (hin.ext hy)
    rw [hd k h] at this
    exact this
  rw [← hl] at hcell hc hlen ⊢
  rw [← hG]
  have HB := Lib.hid hbest
  have HC := Lib.hid hcell
  clear hcell hin hl hG hd hbest
  go_enter Try.func37, Try.ntmps37
  go_wp2
  go_loopw [7, 8] (fun m i wr => ∃ k : Nat, k ≤ l.length ∧ i = .int .i64 k ∧ BoxAt wr w.heap.size (ro8 r (.slice a l.length c)) 48 ∧ Ext w wr ∧ wr.ownsRow (w.heap.size + 1) 76 5 m (seenCos (l.take k) G now).length (coCells (seenCos (l.take k) G now))) (fun _ i _ => l.length - (intOf i).toNat)
  case atStart => exact ⟨0, Nat.zero_le _, rfl, BoxAt.made w _ _, (Ext.refl w).alloc _, World.ownsRow_nil _ _ _ _⟩
  case round =>
    obtain ⟨k, hk, rfl, hbox, hE, hown⟩ := hrel
    by_cases hlt : k < l.length
    · obtain ⟨b, o, rfl, hco⟩ := HC.out k hlt
      have hbk := HB.out k hlt
      obtain ⟨M, hM⟩ : ∃ M, M = l[k] := ⟨_, rfl⟩
      rw [← hM] at hco hbk
      have hD : l.drop k = M :: l.drop (k + 1) := by rw [hM]; exact List.drop_eq_getElem_cons hlt
      have hT := seenCos_take (g := G) (now := now) hD
      have hle : (seenCos (l.take k) G now).length ≤ k := Nat.le_trans (List.length_filter_le _ _) (by simp; omega)
      clear hM hD
      obtain ⟨S, hS⟩ : ∃ S, S = seenCos (l.take k) G now := ⟨_, rfl⟩
      rw [← hS] at hT hle hown
      clear hS
      have HT := Lib.hid hT
      have HBK := Lib.hid hbk
      have HSB := Lib.hid (seenCo_best M G now)
      clear hT hbk
      obtain ⟨B, hB⟩ : ∃ B, B = bestB M.cell G := ⟨_, rfl⟩
      obtain ⟨C, hC⟩ : ∃ C, C = bestC M.cell G := ⟨_, rfl⟩
      rw [← hB] at HBK HSB
      rw [← hC] at HBK
      have HCB : Hid (B = true → C = M.cell) := by
        show B = true → C = M.cell
        intro h
        rw [hC]
        unfold bestC
        rw [← hB, if_pos h]
      clear hB hC
      replace hco := hco.ext hE
      have HCO := Lib.hid hco
      obtain ⟨g0, g1, g2, g3, g4⟩ := hco
      obtain ⟨y0, y1, y2, y3, y4, y5, y6, y7⟩ := hbox.ro
      go_wp2_with fail
      refine wp_region_late_in 13 11 13 [(8, fun v _ => v = .tuple #[(.agg #[.string C.val, .bool C.dead, .int .i64 C.at_, .int .i64 C.fin]), .bool B]), (12, fun v x => ∃ q, v = .pointer (some ⟨q, 0, none⟩) ∧ wr.heap.size ≤ q ∧ BoxAt x q (cl4 zeroCl) 45)] (by kernel_rfl) (by kernel_rfl) (by kernel_rfl) (by kernel_rfl) (fun c a d v w h => by cases d <;> exact h) ⟨stays_eq _, fun _ _ _ hE ⟨q, e, h1, h2⟩ => ⟨q, e, h1, h2.ext hE⟩, trivial⟩ ?_
      simp only [late, List.modify_succ_cons, List.modify_zero_cons, List.push_toArray, List.cons_append, List.nil_append]
      replace g0 := held g0
      replace y0 := held y0
      replace y1 := held y1
      replace y2 := held y2
      replace y3 := held y3
      replace y4 := held y4
      replace y5 := held y5
      replace y6 := held y6
      replace y7 := held y7
      refine rg_quiet rfl rfl rfl rfl ?_; intro K hK; go_big_quiet_op; go_big_quiet_on
      refine rg_quiet rfl rfl rfl rfl ?_; intro K hK; go_big_quiet_op; go_big_quiet_on
      refine rg_quiet rfl rfl rfl rfl ?_; intro K hK; go_big_quiet_op; go_big_quiet_on
      refine rg_quiet rfl rfl rfl rfl ?_; intro K hK; go_big_quiet_op; go_big_quiet_on
      refine rg_quiet rfl rfl rfl rfl ?_; intro K hK; go_big_quiet_op; go_big_quiet_on
      refine rg_quiet rfl rfl rfl rfl ?_; intro K hK; go_big_quiet_op; go_big_quiet_on
      refine rg_quiet rfl rfl rfl rfl ?_; intro K hK; go_big_quiet_op; go_big_quiet_on
      refine rg_quiet rfl rfl rfl rfl ?_; intro K hK; go_big_quiet_op; go_big_quiet_on
      refine rg_val [] rfl rfl rfl (by kernel_rfl) (fun y hY hf => ?_) ?_
      · go_simp
        exact (HBK.out y (hE.trans hY)).mono fun e w' ⟨he, hw⟩ => ⟨_, he, rg_done hY hw rfl⟩
      simp only [Act.put, List.setIfInBounds_toArray, List.set_cons_zero, List.set_cons_succ]
      refine rg_quiet rfl rfl rfl rfl ?_; intro K hK; go_big_quiet_op; go_big_quiet_on
      refine rg_quiet rfl rfl rfl rfl ?_; intro K hK; go_big_quiet_op; go_big_quiet_on
      refine rg_quiet rfl rfl rfl rfl ?_; intro K hK; go_big_quiet_op; go_big_quiet_on
      refine rg_fact [] rfl rfl rfl (by kernel_rfl) (fun y hY hf => ?_) (fun v12 y12 hE12 hG12 h12 => ?_)
      · go_simp
        exact rg_doneR hY ((Ext.refl y).alloc _) ⟨_, rfl, hY.le, BoxAt.made y _ _⟩
      obtain ⟨q9, rfl, _⟩ := h12
      clear hE12 hG12
      simp only [Act.put, List.setIfInBounds_toArray, List.set_cons_zero, List.set_cons_succ]
      refine rel_tail rfl rfl fun w5 hE5 hG => ?_
      obtain ⟨q9', e9, hq9, hbx⟩ := (hG 12).2 rfl
      cases e9
      have hbox5 := hbox.ext hE5
      have hE15 := hE.trans hE5
      have hown5 := ownsRow_ext hown hE5
      have hlr := hbox.lt
      have hlw := hE.le
      clear hG y0 y1 y2 y3 y4 y5 y6 y7 g0 g1 g2 g3 g4 hbox hE hown
      have hE6' : ∀ w6, w5.grownBy w6 (some q9) → Ext wr w6 := fun w6 g6 => hE5.grown g6 (fun q hq => by cases hq; exact hq9)
      have HE6 := Lib.hid hE6'
      clear hE6'
      go_wp2_with (((guard_target =~ wpList _ _ _ (Oper.mk none (Op.store _ (Operand.tmp 9) (Operand.tmp 28)) _ _ _ _ :: _) _ _); go_must (refine storeBox rfl 45 (.tmp 9) (.tmp 28) rfl (q9) _ _ _ (by rfl) (by rfl) (hbx) (by kernel_rfl) (by rfl) (by simp [Value.oneCell']) ?_); intro w6 c6 g6); have hq6 : Ext wr w6 := HE6.out _ g6; have d6 : w6.cell? ⟨q9, 0, none⟩ = some (.string C.val) ∧ w6.cell? ⟨q9, 1, none⟩ = some (.bool C.dead) ∧ w6.cell? ⟨q9, 2, none⟩ = some (.int .i64 C.at_) ∧ w6.cell? ⟨q9, 3, none⟩ = some (.int .i64 C.fin) := BoxAt.cl c6)
      · have hBt : B = true := by assumption
        have hS2 : seenCo M G now = seenB C.dead C.at_ C.fin now := by rw [HSB.out, HCB.out hBt, hBt]; rfl
        have HCM : Hid ((⟨M.name, C⟩ : Co) = M) := by show _ = _; rw [HCB.out hBt]
        have HS2 := Lib.hid hS2
        clear HCB HBK HSB hS2
        have hbox6 := hbox5.grown g6 (fun e => by have := Option.some.inj e; omega)
        have hE16 := hE15.grown g6 (fun q hq => by cases hq; omega)
        have hown6 := hown5.kept g6 (own_ne_box hown5 hbx (by decide))
        have hco6 := HCO.out.ext hq6
        clear hown5 hbox5 hE15 hbx g6
        refine (rseen_any C.val C.dead C.at_ C.fin now w6).mono ?_
        rw [← HS2.out]
        rintro e w7 ⟨rfl, hE7⟩
        have d7 : w7.cell? ⟨q9, 0, none⟩ = some (.string C.val) ∧ w7.cell? ⟨q9, 1, none⟩ = some (.bool C.dead) ∧ w7.cell? ⟨q9, 2, none⟩ = some (.int .i64 C.at_) ∧ w7.cell? ⟨q9, 3, none⟩ = some (.int .i64 C.fin) := BoxAt.cl (c6.ext hE7)
        replace hbox6 := hbox6.ext hE7
        replace hE16 := hE16.trans hE7
        replace hown6 := ownsRow_ext hown6 hE7
        replace hco6 := hco6.ext hE7
        clear d6
        obtain ⟨g0, g1, g2, g3, g4⟩ := hco6
        obtain ⟨y0, y1, y2, y3, y4, y5, y6, y7⟩ := hbox6.ro
        obtain ⟨z0, z1, z2, z3⟩ := d7
        have hT2 := HT.out
        clear HT HS2
        cases hs : seenCo M G now
        · rw [hs] at hT2
          simp only [Bool.false_eq_true, if_false, List.append_nil] at hT2
          have HT2 := Lib.hid hT2
          clear hT2 hs
          go_wp2_with fail
          go_roundw
          case rel => exact ⟨k + 1, by omega, by go_num, hbox6, hE16, by rw [HT2.out]; exact hown6⟩
          case measure => simp [intOf] <;> omega
        · rw [hs] at hT2
          simp only [if_true] at hT2
          have HT2 := Lib.hid hT2
          clear hT2 hs
          go_wp2_with fail
          refine wp_region_tab 10 [(9, fun v x => ∃ b, v = .slice (some ⟨b, 0, none⟩) 1 1 ∧ BoxAt x b (co5 ⟨M.name, C⟩) 76)] (by kernel_rfl) (by kernel_rfl) (by kernel_rfl) ⟨fun _ _ _ hE ⟨b, e, h⟩ => ⟨b, e, h.ext hE⟩, trivial⟩ ?_
          replace g0 := held g0
          replace y0 := held y0
          replace y1 := held y1
          replace y2 := held y2
          replace y3 := held y3
          replace y4 := held y4
          replace y5 := held y5
          replace y6 := held y6
          replace y7 := held y7
          replace z0 := held z0
          replace z1 := held z1
          replace z2 := held z2
          replace z3 := held z3
          refine rg_quiet rfl rfl rfl rfl ?_; intro K hK; go_big_quiet_op; go_big_quiet_on
          refine rg_quiet rfl rfl rfl rfl ?_; intro K hK; go_big_quiet_op; go_big_quiet_on
          refine rg_quiet rfl rfl rfl rfl ?_; intro K hK; go_big_quiet_op; go_big_quiet_on
          refine rg_quiet rfl rfl rfl rfl ?_; intro K hK; go_big_quiet_op; go_big_quiet_on
          refine rg_quiet rfl rfl rfl rfl ?_; intro K hK; go_big_quiet_op; go_big_quiet_on
          refine rg_quiet rfl rfl rfl rfl ?_; intro K hK; go_big_quiet_op; go_big_quiet_on
          refine rg_quiet rfl rfl rfl rfl ?_; intro K hK; go_big_quiet_op; go_big_quiet_on
          refine rg_quiet rfl rfl rfl rfl ?_; intro K hK; go_big_quiet_op; go_big_quiet_on
          refine rg_quiet rfl rfl rfl rfl ?_; intro K hK; go_big_quiet_op; go_big_quiet_on
          refine rg_fact [] rfl rfl rfl (by kernel_rfl) (fun y hE hf => ?_) (fun v12 y12 hE12 hG12 h12 => ?_)
          · go_simp
            exact rg_doneR hE ((Ext.refl y).alloc _) ⟨_, rfl, BoxAt.made y _ _⟩
          obtain ⟨b12, rfl, _⟩ := h12
          clear hE12 hG12
          simp only [Act.put, List.setIfInBounds_toArray, List.set_cons_zero, List.set_cons_succ]
          refine rel_tail rfl rfl fun w8 hE8 hG => ?_
          obtain ⟨b12', e12, hbc⟩ := (hG 9).2 rfl
          cases e12
          have hown8 := ownsRow_ext hown6 hE8
          have hcs := cols_box hbc
          rw [HCM.out] at hcs
          clear hG y0 y1 y2 y3 y4 y5 y6 y7 z0 z1 z2 z3 g0 g1 g2 g3 g4 hbc
          have hbox8 := hbox6.ext hE8
          have hE18 := hE16.trans hE8
          have hl8 := hbox8.lt
          go_wp2_with ((guard_target =~ wpList _ _ _ (Oper.mk (some 46) _ _ _ _ _ :: _) _ _); at_builtin; go_must (refine appCols w8 rfl (.tmp 36) (.tmp 45) rfl (w.heap.size + 1) hl8 _ S hown8 (by rfl) _ [M] hcs (by rfl) (by simp; omega) ?_); intro v9 w9 hown9 hg9)
          go_roundw
          case rel =>
            refine ⟨k + 1, by omega, by go_num, hbox8.grown hg9 (fun h => ?_), hE18.grown hg9 fun q hq => by have := (hown8.lt q hq).1; omega, ?_⟩
            · have := (hown8.lt _ h.symm).1
              omega
            · rw [HT2.out]
              exact hown9
          case measure => simp [intOf] <;> omega
      · have hT2 := HT.out
        have hBf : B = false := by first | assumption | (rename_i hnb; simpa using hnb) | (cases B <;> simp_all)
        rw [HSB.out, hBf] at hT2
        simp only [Bool.false_and, Bool.false_eq_true, if_false, List.append_nil] at hT2
        have HT2 := Lib.hid hT2
        clear hT2 HT HSB HCB HBK
        go_roundw
        case rel => exact ⟨k + 1, by omega, by go_num, hbox5.grown g6 (fun e => by have := Option.some.inj e; omega), hE15.grown g6 (fun q hq => by cases hq; omega), by rw [HT2.out]; exact hown5.kept g6 (own_ne_box hown5 hbx (by decide))⟩
        case measure => simp [intOf] <;> omega
    · obtain rfl : k = l.length := by omega
      rw [List.take_length] at hown
      obtain ⟨y0, y1, y2, y3, y4, y5, y6, y7⟩ := hbox.ro
      go_wp2_with fail
      go_ret
      exact ⟨_, rfl, hown, hE⟩
end Go.Proofs.Ytfagnbofnaoncaa

/- The reference's rows: Is; its partitions: Seen. (what a smaller cut has) -/
namespace Go.Proofs.Ytfagnbofnaoncaa
open Go Go.RowKit
attribute [local go_sem] yields yUpon
/-- Each column's name is its own. -/
def DistN (l : List Co) : Prop := ∀ (k : Nat) (h : k < l.length), cellOf l l[k].name = l[k].cell
end Go.Proofs.Ytfagnbofnaoncaa
