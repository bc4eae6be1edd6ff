/- part.Copy. -/
import Derived.Test.YteamiiekpjoclaaP3
import Derived.Test.YteamiiekpjoclaaP27
import Derived.Test.YteamiiekpjoclaaP18
set_option linter.unusedSimpArgs false
set_option linter.unusedVariables false
namespace Go.Proofs.Yteamiiekpjoclaa
open Go Go.RowKit
attribute [local go_sem] yields yUpon ro8 pa3

theorem roCells_set : ∀ (l : List (Ro × Value)) (k : Nat) (h : k < l.length) (v : Value), (roCells l).set (k * 8 + 7) v = roCells (l.set k (l[k].1, v))
  | c :: l, 0, _, v => by simp [roCells]
  | c :: l, k + 1, h, v => by
    have ih := roCells_set l k (by simpa using h) v
    have e : (k + 1) * 8 + 7 = k * 8 + 7 + 8 := by omega
    simp only [e, roCells, List.set_cons_succ, List.getElem_cons_succ]
    rw [ih]
theorem rowBox_at {w : World} {R : Nat} {qs : List (Ro × Value)} {T : TypeId} (h : BoxAt w R (roCells qs).toArray T) (k : Nat) (hk : k < qs.length) : RoAt w R (k * 8) qs[k].1 qs[k].2 := by
  have g : ∀ j u, j < 8 → (ro8 qs[k].1 qs[k].2)[j]? = some u → w.cell? ⟨R, k * 8 + j, none⟩ = some u := fun j u hj he => by
    rw [h.cell, List.getElem?_toArray, roCells_get qs k hk j hj]
    exact he
  exact ⟨g 0 _ (by decide) rfl, g 1 _ (by decide) rfl, g 2 _ (by decide) rfl, g 3 _ (by decide) rfl, g 4 _ (by decide) rfl, g 5 _ (by decide) rfl, g 6 _ (by decide) rfl, g 7 _ (by decide) rfl⟩
theorem rowBox_set {w : World} {R : Nat} {qs : List (Ro × Value)} {T : TypeId} (h : BoxAt w R (roCells qs).toArray T) (k : Nat) (hk : k < qs.length) (v : Value) : BoxAt (w.setCell ⟨R, k * 8 + 7, none⟩ v) R (roCells (qs.set k (qs[k].1, v))).toArray T := by
  have := h.set (k * 8 + 7) v
  rw [List.setIfInBounds_toArray, roCells_set qs k hk] at this
  exact this
/-- A row's columns in new memory, behind block R. -/
def DoneC (x : World) (R : Nat) (p : Ro × Value) : Prop := (p.2 = .slice none 0 0 ∧ p.1.cols = []) ∨ ∃ b, R < b ∧ p.2 = .slice (some ⟨b, 0, none⟩) p.1.cols.length p.1.cols.length ∧ BoxAt x b (coCells p.1.cols).toArray 58 ∧ p.1.cols.length ≤ 1000000
theorem DoneC.ext {x y : World} {R : Nat} {p : Ro × Value} (hE : Ext x y) (h : DoneC x R p) : DoneC y R p := h.imp_right fun ⟨b, hb, e, hx, hl⟩ => ⟨b, hb, e, hx.ext hE, hl⟩
theorem DoneC.set {x : World} {R i : Nat} {u : Value} {p : Ro × Value} (h : DoneC x R p) : DoneC (x.setCell ⟨R, i, none⟩ u) R p := h.imp_right fun ⟨b, hb, e, hx, hl⟩ => ⟨b, hb, e, hx.other (by omega) i u, hl⟩
theorem DoneC.other {x : World} {R q i : Nat} {u : Value} {p : Ro × Value} (hq : q ≤ R) (h : DoneC x R p) : DoneC (x.setCell ⟨q, i, none⟩ u) R p := h.imp_right fun ⟨b, hb, e, hx, hl⟩ => ⟨b, hb, e, hx.other (by omega) i u, hl⟩
theorem DoneC.grown {x y : World} {R q : Nat} {p : Ro × Value} (hq : q ≤ R) (hg : x.grownBy y (some q)) (h : DoneC x R p) : DoneC y R p := h.imp_right fun ⟨b, hb, e, hx, hl⟩ => ⟨b, hb, e, hx.grown hg (fun e => by cases e; omega), hl⟩
theorem DoneC.typed {x : World} {R : Nat} {p : Ro × Value} (h : DoneC x R p) : ColsT x p.2 p.1.cols := by
  rcases h with ⟨e, e'⟩ | ⟨b, _, e, hx, hl⟩
  · rw [e, e']; exact ColsT.nil x
  · rw [e]; exact TIn.box hx (by unfold maxLen; omega)

set_option maxRecDepth 100000 in
set_option maxHeartbeats 4000000 in
theorem pcopy_any (pk : ByteArray) (pg : Int) (u : Value) (ps : List (Ro × Value)) (w : World) (hin : RowsIn w u ps) (hlen : ps.length ≤ 1000000) (hcl : ∀ p ∈ ps, p.1.cols.length ≤ 1000000) :
    Calls Try.prog 58 #[.agg #[.string pk, .int .i64 pg, u]] w fun e w' => ∃ v', e = .returned (.agg #[.string pk, .int .i64 pg, v']) ∧ ∃ qs, RowsT w' v' qs ∧ qs.map (·.1) = ps.map (·.1) ∧ Ext w w' := by
  obtain ⟨a0, a1, hE⟩ := boxes2 w (pa3 pk pg u) (pa3 ⟨#[]⟩ 0 (.slice none 0 0)) 39 39
  obtain ⟨aa, ca, rfl, hca, hcma, _⟩ := hin.get
  have hone := roCells_one ps (fun p hp => let ⟨a, c, e⟩ := (hin.cols p hp).shape; ⟨a, _, c, e⟩)
  obtain ⟨n, hn⟩ : ∃ n, n = ps.length := ⟨_, rfl⟩
  rw [← hn] at hlen hca a0 a1 hE ⊢
  have HN := Lib.hid hn
  clear hn
  go_enter Try.func58, Try.ntmps58
  go_wp2_with (first
    | (at_make; go_must (refine wpList_make_box _ info_Row und_Rows rfl (.tmp 9) (.tmp 9) rfl _ _ n rfl rfl (by omega) (by unfold maxLen; omega) ?_); intro w2 Z hZ hZs hE2; replace hZ : BoxAt w2 (w.heap.size + 1 + 1) Z 55 := (by simpa using hZ); replace a0 := a0.ext hE2; replace a1 := a1.ext hE2; replace hE := hE.trans hE2; have c0 := a0.pa; clear hE2)
    | (guard_target =~ wpList _ _ _ (Oper.mk _ (Op.call { callee := Callee.builtin Builtin.copy, args := _, argTypes := _ }) _ _ _ _ :: _) _ _; go_must (refine wpList_copy_box w2 info_Row und_Rows rfl (.tmp 11) (.tmp 13) rfl n (w.heap.size + 1 + 1) n rfl _ rfl Z _ hZ hZs (roCells ps) (by rw [roCells_length, HN.out]) (by rw [HN.out]; exact hin.rows.ext hE) hone ?_); intro w3 hR hg3; replace a0 := a0.grown hg3 (fun e => by have := Option.some.inj e; omega); replace a1 := a1.grown hg3 (fun e => by have := Option.some.inj e; omega); replace hE := hE.grown hg3 (fun q hq => by cases hq; omega); clear hZ hZs hg3 c0))
  go_loopw [17] (fun i wr => ∃ (k : Nat) (qs : List (Ro × Value)), k ≤ n ∧ i = .int .i64 k ∧ qs.length = n ∧ Hid (qs.map (·.1) = ps.map (·.1)) ∧ BoxAt wr (w.heap.size + 1 + 1) (roCells qs).toArray 55 ∧ BoxAt wr w.heap.size (pa3 pk pg (.slice aa n ca)) 39 ∧ BoxAt wr (w.heap.size + 1) (pa3 ⟨#[]⟩ 0 (.slice none 0 0)) 39 ∧ Ext w wr ∧ Hid (∀ j (h : j < qs.length), j < k → DoneC wr (w.heap.size + 1 + 1) qs[j]) ∧ Hid (∀ j (h : j < qs.length), k ≤ j → ColsIn w qs[j].2 qs[j].1.cols)) (fun i _ => n - (intOf i).toNat)
  case atStart => exact ⟨0, ps, Nat.zero_le _, rfl, HN.out.symm, rfl, hR, a0, a1, hE, fun j _ h => absurd h (Nat.not_lt_zero j), fun j h _ => hin.cols _ (List.getElem_mem h)⟩
  case round =>
    obtain ⟨k, qs, hk, rfl, hql, HM, hRk, b0, b1, hE, HD, HC⟩ := hrel
    clear a0 a1 hR
    by_cases hlt : k < n
    · have hki : decide ((k : Int) < (n : Int)) = true := by simpa using hlt
      have hkq : k < qs.length := by omega
      have hcu := HC.out k hkq (Nat.le_refl _)
      obtain ⟨M, hM⟩ : ∃ M, M = qs[k].1 := ⟨_, rfl⟩
      obtain ⟨au, cu, hu⟩ := hcu.shape
      rw [← hM] at hcu hu
      rw [hu] at hcu
      have hat := rowBox_at hRk k hkq
      rw [← hM, hu] at hat
      have HM' := Lib.hid hM
      have HU := Lib.hid hu
      clear hM hu
      have hml : M.cols.length ≤ 1000000 := by
        have hmem : M ∈ ps.map (·.1) := by rw [← HM.out, HM'.out]; exact List.mem_map_of_mem (List.getElem_mem hkq)
        obtain ⟨p, hp, e⟩ := List.mem_map.1 hmem
        rw [← e]; exact hcl p hp
      obtain ⟨L, hL⟩ : ∃ L, L = M.cols := ⟨_, rfl⟩
      rw [← hL] at hcu hat hml
      have HL := Lib.hid hL
      clear hL
      obtain ⟨m, hm⟩ : ∃ m, m = L.length := ⟨_, rfl⟩
      rw [← hm] at hcu hat hml
      have Hm := Lib.hid hm
      clear hm
      obtain ⟨x0, x1, x2, x3, x4, x5, x6, x7⟩ := hat
      have hRs := hRk.lt
      by_cases hm0 : 0 < m
      rotate_left
      · skip
        go_wp2_with (first
          | (((guard_target =~ wpList _ _ _ (Oper.mk none (Op.store _ (Operand.tmp 5) (Operand.tmp 21)) _ _ _ _ :: _) _ _); go_must (refine storeBox rfl 55 (.tmp 5) (.tmp 21) rfl (wr.heap.size) _ _ _ (by rfl) (by rfl) ((BoxAt.made wr (ro8 ⟨⟨#[]⟩, zeroCl, 0, 0, []⟩ (.slice none 0 0)) 55)) (by kernel_rfl) (by rfl) (by simp [Value.oneCell']) ?_); intro w4 c4 g4); have hX4 : Ext wr w4 := ((Ext.refl wr).alloc _).grown g4 (fun q hq => by cases hq; omega); have d4 := c4.ro (r := ⟨M.key, M.live, M.gone, M.shade, []⟩) (v := .slice au m cu))
          | (at_make; go_must (refine wpList_make_box w4 info_Col und_Cols rfl (.tmp 24) (.tmp 24) rfl _ _ m rfl rfl (by omega) (by unfold maxLen; omega) ?_); intro w5 Z5 hZ5 hZs5 hE5; have hX5 := hX4.trans hE5; have d5 := (c4.ext hE5).ro (r := ⟨M.key, M.live, M.gone, M.shade, []⟩) (v := .slice au m cu); clear d4)
          | (guard_target =~ wpList _ _ _ (Oper.mk _ (Op.call { callee := Callee.builtin Builtin.copy, args := _, argTypes := _ }) _ _ _ _ :: _) _ _; go_must (refine wpList_copy_box w5 info_Col und_Cols rfl (.tmp 26) (.tmp 28) rfl m w4.heap.size m rfl _ rfl Z5 _ hZ5 hZs5 (coCells L) (by rw [coCells_length, Hm.out]) (show SliceIn _ _ m _ from by have := hcu.ext (hE.trans hX5); unfold ColsIn at this; rwa [← Hm.out] at this) (coCells_one L) ?_); intro w6 hb6 hg6; have hX6 := hX5.grown hg6 (fun q hq => by cases hq; exact hX4.le); have hR6 := hRk.ext hX6; have y7 := (rowBox_at hR6 k hkq).c7; have f7 := hR6.free (k * 8 + 7); clear d5 hg6))
        have hS1 := rowBox_set hR6 k hkq (.slice none 0 0)
        have hXX := hE.trans hX6
        go_roundw
        case rel =>
          have hlen' : (qs.set k (qs[k].1, .slice none 0 0)).length = qs.length := List.length_set ..
          refine ⟨k + 1, qs.set k (qs[k].1, .slice none 0 0), hlt, rfl, by rw [hlen', hql], ?_, hS1, (b0.ext hX6).other (by omega) _ _, (b1.ext hX6).other (by omega) _ _, hXX.setCell (by show w.heap.size ≤ w.heap.size + 1 + 1; omega) _, fun j h hj => ?_, fun j h hj => ?_⟩
          · show _ = _
            rw [← HM.out, List.map_set]
            refine List.ext_getElem? fun i => ?_
            rw [List.getElem?_set]
            split
            · rename_i e; subst e; simp [hkq]
            · rfl
          · rw [List.getElem_set]
            split
            · rename_i e
              refine .inl ⟨rfl, ?_⟩
              show qs[k].1.cols = []
              rw [← HM'.out, ← HL.out]
              exact List.eq_nil_of_length_eq_zero (by rw [← Hm.out]; omega)
            · exact ((HD.out j (by rw [hlen'] at h; exact h) (by omega)).ext hX6).set
          · rw [List.getElem_set]
            split
            · omega
            · exact HC.out j (by rw [hlen'] at h; exact h) (by omega)
        case measure => simp [intOf]; omega
      · have hmi : decide ((0 : Int) < (m : Int)) = true := decide_eq_true (by omega)
        go_wp2_with (first
          | (((guard_target =~ wpList _ _ _ (Oper.mk none (Op.store _ (Operand.tmp 5) (Operand.tmp 21)) _ _ _ _ :: _) _ _); go_must (refine storeBox rfl 55 (.tmp 5) (.tmp 21) rfl (wr.heap.size) _ _ _ (by rfl) (by rfl) ((BoxAt.made wr (ro8 ⟨⟨#[]⟩, zeroCl, 0, 0, []⟩ (.slice none 0 0)) 55)) (by kernel_rfl) (by rfl) (by simp [Value.oneCell']) ?_); intro w4 c4 g4); have hX4 : Ext wr w4 := ((Ext.refl wr).alloc _).grown g4 (fun q hq => by cases hq; omega); have d4 := c4.ro (r := ⟨M.key, M.live, M.gone, M.shade, []⟩) (v := .slice au m cu))
          | (at_make; go_must (refine wpList_make_box w4 info_Col und_Cols rfl (.tmp 24) (.tmp 24) rfl _ _ m rfl rfl (by omega) (by unfold maxLen; omega) ?_); intro w5 Z5 hZ5 hZs5 hE5; have hX5 := hX4.trans hE5; have d5 := (c4.ext hE5).ro (r := ⟨M.key, M.live, M.gone, M.shade, []⟩) (v := .slice au m cu); clear d4)
          | (guard_target =~ wpList _ _ _ (Oper.mk _ (Op.call { callee := Callee.builtin Builtin.copy, args := _, argTypes := _ }) _ _ _ _ :: _) _ _; go_must (refine wpList_copy_box w5 info_Col und_Cols rfl (.tmp 26) (.tmp 28) rfl m w4.heap.size m rfl _ rfl Z5 _ hZ5 hZs5 (coCells L) (by rw [coCells_length, Hm.out]) (show SliceIn _ _ m _ from by have := hcu.ext (hE.trans hX5); unfold ColsIn at this; rwa [← Hm.out] at this) (coCells_one L) ?_); intro w6 hb6 hg6; have hX6 := hX5.grown hg6 (fun q hq => by cases hq; exact hX4.le); have hR6 := hRk.ext hX6; have y7 := (rowBox_at hR6 k hkq).c7; have f7 := hR6.free (k * 8 + 7); clear d5 hg6))
        have hS0 := rowBox_set hR6 k hkq (.slice none 0 0)
        have hS1 := rowBox_set hS0 k (by rw [List.length_set]; exact hkq) (.slice (some ⟨w4.heap.size, 0, none⟩) m m)
        rw [List.set_set, List.getElem_set_self] at hS1
        have hle4 := hX4.le
        have hXX := hE.trans hX6
        go_roundw
        case rel =>
          have hlen' : (qs.set k (qs[k].1, .slice (some ⟨w4.heap.size, 0, none⟩) m m)).length = qs.length := List.length_set ..
          refine ⟨k + 1, qs.set k (qs[k].1, .slice (some ⟨w4.heap.size, 0, none⟩) m m), hlt, rfl, by rw [hlen', hql], ?_, hS1, ((b0.ext hX6).other (by omega) _ _).other (by omega) _ _, ((b1.ext hX6).other (by omega) _ _).other (by omega) _ _, (hXX.setCell (by show w.heap.size ≤ w.heap.size + 1 + 1; omega) _).setCell (by show w.heap.size ≤ w.heap.size + 1 + 1; omega) _, fun j h hj => ?_, fun j h hj => ?_⟩
          · show _ = _
            rw [← HM.out, List.map_set]
            refine List.ext_getElem? fun i => ?_
            rw [List.getElem?_set]
            split
            · rename_i e; subst e; simp [hkq]
            · rfl
          · rw [List.getElem_set]
            split
            · rename_i e
              have hcols : qs[k].1.cols = L := by rw [← HM'.out, ← HL.out]
              refine .inr ⟨w4.heap.size, by omega, ?_, ?_, ?_⟩
              · show Value.slice _ m m = _
                simp only [hcols, ← Hm.out]
              · show BoxAt _ _ (coCells qs[k].1.cols).toArray _
                rw [hcols]
                exact (hb6.other (by omega) _ _).other (by omega) _ _
              · show qs[k].1.cols.length ≤ _
                rw [hcols, ← Hm.out]
                exact hml
            · exact ((HD.out j (by rw [hlen'] at h; exact h) (by omega)).ext hX6).set.set
          · rw [List.getElem_set]
            split
            · omega
            · exact HC.out j (by rw [hlen'] at h; exact h) (by omega)
        case measure => simp [intOf]; omega
    · have c0 := b0.pa
      have e0 := b0.free 2
      have c1 := b1.pa
      by_cases hn0 : 0 < n
      · go_wp2_with ((guard_target =~ wpList _ _ _ (Oper.mk none (Op.store _ (Operand.tmp 2) (Operand.tmp 49)) _ _ _ _ :: _) _ _); go_must (refine storeBox rfl 39 (.tmp 2) (.tmp 49) rfl (w.heap.size + 1) _ _ _ (by rfl) (by rfl) (((b1.other (by omega) _ _).other (by omega) _ _)) (by kernel_rfl) (by rfl) (by simp [Value.oneCell']) ?_); intro w9 c9 g9)
        have hX9 := ((hE.setCell (p := ⟨w.heap.size, 2, none⟩) (Nat.le_refl _) (.slice none 0 0)).setCell (p := ⟨w.heap.size, 2, none⟩) (Nat.le_refl _) (.slice (some ⟨w.heap.size + 1 + 1, 0, none⟩) n n)).grown g9 (fun q hq => by cases hq; omega)
        have hR9 := ((hRk.other (by omega) _ _).other (by omega) _ _).grown g9 (fun e => by have := Option.some.inj e; omega)
        have hD9 : ∀ p ∈ qs, DoneC w9 (w.heap.size + 1 + 1) p := fun p hp => by
          obtain ⟨j, hj, rfl⟩ := List.mem_iff_getElem.1 hp
          exact (((HD.out j hj (by omega)).other (by omega)).other (by omega)).grown (by omega) g9
        have FINR : RowsT w9 (.slice (some ⟨w.heap.size + 1 + 1, 0, none⟩) n n) qs := by
          rw [← hql]
          exact ⟨TIn.box hR9 (by unfold maxLen; omega), fun p hp => (hD9 p hp).typed⟩
        obtain ⟨z0, z1, z2⟩ := c9.pa (k := pk) (g := pg) (u := .slice (some ⟨w.heap.size + 1 + 1, 0, none⟩) n n)
        refine bodyPost_ret (v := .agg #[.string pk, .int .i64 pg, .slice (some ⟨w.heap.size + 1 + 1, 0, none⟩) n n]) ?_ rfl ⟨_, rfl, qs, FINR, HM.out, hX9⟩
        simp [results, Try.results58, go_sem, z0, z1, z2]
      · go_wp2_with ((guard_target =~ wpList _ _ _ (Oper.mk none (Op.store _ (Operand.tmp 2) (Operand.tmp 49)) _ _ _ _ :: _) _ _); go_must (refine storeBox rfl 39 (.tmp 2) (.tmp 49) rfl (w.heap.size + 1) _ _ _ (by rfl) (by rfl) ((b1.other (by omega) _ _)) (by kernel_rfl) (by rfl) (by simp [Value.oneCell']) ?_); intro w9 c9 g9)
        have hX9 := (hE.setCell (p := ⟨w.heap.size, 2, none⟩) (Nat.le_refl _) (.slice none 0 0)).grown g9 (fun q hq => by cases hq; omega)
        obtain rfl : qs = [] := List.eq_nil_of_length_eq_zero (by omega)
        obtain ⟨z0, z1, z2⟩ := c9.pa (k := pk) (g := pg) (u := .slice none 0 0)
        refine bodyPost_ret (v := .agg #[.string pk, .int .i64 pg, .slice none 0 0]) ?_ rfl ⟨_, rfl, [], RowsT.nil _, HM.out, hX9⟩
        simp [results, Try.results58, go_sem, z0, z1, z2]
end Go.Proofs.Yteamiiekpjoclaa

/- part.Join. -/
namespace Go.Proofs.Yteamiiekpjoclaa
open Go Go.RowKit
attribute [local go_sem] yields yUpon ro8 pa3

theorem mem_mergeG {α : Type} {cmp : α → α → Int} {join : α → α → α} {l m : List α} {x : α} (h : x ∈ mergeG cmp join l m) : x ∈ l ∨ x ∈ m ∨ ∃ a ∈ l, ∃ b ∈ m, cmp a b = 0 ∧ x = join a b := by
  fun_induction mergeG cmp join l m with
  | case1 m => exact .inr (.inl h)
  | case2 a l => exact .inl h
  | case3 a l b m hc ih =>
    rcases List.mem_cons.1 h with rfl | h
    · exact .inl (List.mem_cons_self ..)
    · rcases ih h with h | h | ⟨y, hy, z, hz, hyz, e⟩
      · exact .inl (List.mem_cons_of_mem _ h)
      · exact .inr (.inl h)
      · exact .inr (.inr ⟨y, List.mem_cons_of_mem _ hy, z, hz, hyz, e⟩)
  | case4 a l b m hc hc' ih =>
    rcases List.mem_cons.1 h with rfl | h
    · exact .inr (.inl (List.mem_cons_self ..))
    · rcases ih h with h | h | ⟨y, hy, z, hz, hyz, e⟩
      · exact .inl h
      · exact .inr (.inl (List.mem_cons_of_mem _ h))
      · exact .inr (.inr ⟨y, hy, z, List.mem_cons_of_mem _ hz, hyz, e⟩)
  | case5 a l b m hc hc' ih =>
    rcases List.mem_cons.1 h with rfl | h
    · exact .inr (.inr ⟨a, List.mem_cons_self .., b, List.mem_cons_self .., by omega, rfl⟩)
    · rcases ih h with h | h | ⟨y, hy, z, hz, hyz, e⟩
      · exact .inl (List.mem_cons_of_mem _ h)
      · exact .inr (.inl (List.mem_cons_of_mem _ h))
      · exact .inr (.inr ⟨y, List.mem_cons_of_mem _ hy, z, List.mem_cons_of_mem _ hz, hyz, e⟩)
/-- Rows with few columns each. -/
def FewCols (l : List Ro) : Prop := ∀ r ∈ l, r.cols.length ≤ 500000
theorem few_merge {l m : List Ro} (hl : FewCols l) (hm : FewCols m) : ∀ r ∈ mergeRo l m, r.cols.length ≤ 1000000 := by
  intro r hr
  rcases mem_mergeG hr with h | h | ⟨a, ha, b, hb, _, rfl⟩
  · exact Nat.le_trans (hl r h) (by omega)
  · exact Nat.le_trans (hm r h) (by omega)
  · have h1 := mergeCo_len a.cols b.cols
    have h2 := hl a ha
    have h3 := hm b hb
    show (mergeCo a.cols b.cols).length ≤ _
    omega

/-- What part.Join hands back. -/
def JoinPost (w : World) (k : ByteArray) (g : Int) (J : List Ro) (e : Ending) (w' : World) : Prop :=
  Ext w w' ∧ ((J.length ≤ 100 ∧ ∃ v', e = .returned (.tuple #[.agg #[.string k, .int .i64 g, v'], .bool true]) ∧ ∃ qs, RowsT w' v' qs ∧ qs.map (·.1) = J) ∨
    (100 < J.length ∧ e = .returned (.tuple #[.agg #[.string ⟨#[]⟩, .int .i64 0, .slice none 0 0], .bool false])))

set_option maxRecDepth 100000 in
set_option maxHeartbeats 4000000 in
theorem pjoin_walk (ka kb : ByteArray) (ga gb : Int) (ua ub : Value) (la lb : List (Ro × Value)) (w : World) (ha : RowsIn w ua la) (hb : RowsIn w ub lb) (hlen : la.length + lb.length ≤ 1000000) (fa : FewCols (la.map (·.1))) (fb : FewCols (lb.map (·.1))) :
    Calls Try.prog 22 #[.agg #[.string ka, .int .i64 ga, ua], .agg #[.string kb, .int .i64 gb, ub]] w fun e w' => JoinPost w ka (max ga gb) (mergeRo (la.map (·.1)) (lb.map (·.1))) e w' := by
  obtain ⟨a0, a1, a2, hE⟩ := boxes3 w (pa3 ka ga ua) (pa3 kb gb ub) (pa3 ⟨#[]⟩ 0 (.slice none 0 0)) 39 39 39
  obtain ⟨J, hJ⟩ : ∃ J, J = mergeRo (la.map (·.1)) (lb.map (·.1)) := ⟨_, rfl⟩
  rw [← hJ]
  have HJ := Lib.hid hJ
  clear hJ
  obtain ⟨mg, hmg⟩ : ∃ mg, mg = max ga gb := ⟨_, rfl⟩
  rw [← hmg]
  have HG := Lib.hid hmg
  clear hmg
  go_enter Try.func22, Try.ntmps22
  go_wp2_with fail
  refine (mergeRo_any ua ub la lb _ (ha.ext hE) (hb.ext hE) hlen (fun p hp q hq => by have := fa p.1 (List.mem_map_of_mem hp); have := fb q.1 (List.mem_map_of_mem hq); omega)).mono ?_
  rintro e w1 ⟨v', rfl, ps, hown, hsafe, hmap, hE1⟩
  rw [← HJ.out] at hmap
  have hrows := rows_own hown hE1 hsafe
  have hpl : J.length = ps.length := by rw [← hmap]; simp
  obtain ⟨ca, cc, rfl⟩ := own_shape hown
  have hJl : J.length ≤ 1000000 := by
    rw [HJ.out]
    have := mergeG_len keyR joinRo (la.map (·.1)) (lb.map (·.1))
    unfold mergeRo
    simp at this
    omega
  clear hown hsafe
  replace a0 := a0.ext hE1
  replace a1 := a1.ext hE1
  replace a2 := a2.ext hE1
  replace hE := hE.trans hE1
  have c0 := a0.pa
  have c1 := a1.pa
  clear hE1
  rw [← hpl]
  by_cases hfit : 100 < J.length
  · go_wp2_with ((guard_target =~ wpList _ _ _ (Oper.mk none (Op.store _ (Operand.tmp 4) (Operand.tmp 15)) _ _ _ _ :: _) _ _); go_must (refine storeBox rfl 39 (.tmp 4) (.tmp 15) rfl (w.heap.size + 1 + 1) _ _ _ (by rfl) (by rfl) (a2) (by kernel_rfl) (by rfl) (by simp [Value.oneCell']) ?_); intro w9 c9 g9)
    obtain ⟨z0, z1, z2⟩ := c9.pa (k := ⟨#[]⟩) (g := 0) (u := .slice none 0 0)
    refine bodyPost_ret (v := .tuple #[.agg #[.string ⟨#[]⟩, .int .i64 0, .slice none 0 0], .bool false]) ?_ rfl ⟨hE.grown g9 (fun q hq => by cases hq; omega), .inr ⟨by omega, rfl⟩⟩
    simp [results, Try.results22, go_sem, z0, z1, z2]
  · go_wp2_with fail
    refine (pcopy_any ka (max ga gb) _ ps w1 hrows (by omega) (fun p hp => few_merge fa fb p.1 (by rw [← HJ.out, ← hmap]; exact List.mem_map_of_mem hp))).mono ?_
    rintro e w2 ⟨v', rfl, qs, hqs, hqm, hE2⟩
    obtain ⟨aq, cq, rfl⟩ := hqs.shape
    obtain ⟨nq, hnq⟩ : ∃ nq, nq = qs.length := ⟨_, rfl⟩
    rw [← hnq] at hqs ⊢
    clear hnq
    replace a2 := a2.ext hE2
    go_wp2_with ((guard_target =~ wpList _ _ _ (Oper.mk none (Op.store _ (Operand.tmp 4) (Operand.tmp 25)) _ _ _ _ :: _) _ _); go_must (refine storeBox rfl 39 (.tmp 4) (.tmp 25) rfl (w.heap.size + 1 + 1) _ _ _ (by rfl) (by rfl) (a2) (by kernel_rfl) (by rfl) (by simp [Value.oneCell']) ?_); intro w9 c9 g9)
    have hrow9 := hqs.keep g9 a2 (by decide) (by decide)
    obtain ⟨z0, z1, z2⟩ := c9.pa (k := ka) (g := max ga gb) (u := .slice aq nq cq)
    refine bodyPost_ret (v := .tuple #[.agg #[.string ka, .int .i64 (max ga gb), .slice aq nq cq], .bool true]) ?_ rfl ⟨(hE.trans hE2).grown g9 (fun q hq => by cases hq; omega), .inl ⟨by omega, _, by rw [HG.out], qs, hrow9, hqm.trans hmap⟩⟩
    simp [results, Try.results22, go_sem, z0, z1, z2]
end Go.Proofs.Yteamiiekpjoclaa

/- clerestoryref08.Join. -/
namespace Go.Proofs.Yteamiiekpjoclaa
open Go Go.RowKit
attribute [local go_sem] yields yUpon ro8 pa3

theorem foldRo_cols (a b : Ro) : (foldRo a b).cols.length ≤ a.cols.length + b.cols.length := foldG_len keyC joinCo a.cols b.cols
theorem put_cols {l : List Ro} {r : Ro} {N : Nat} (hl : ∀ p ∈ l, p.cols.length ≤ N) (hr : r.cols.length ≤ 1000) (hN : 1000 ≤ N) : ∀ p ∈ mergeG keyR foldRo l [r], p.cols.length ≤ N + 1000 := by
  intro p hp
  rcases mem_mergeI hp with h | h | ⟨a, ha, b, hb, _, rfl⟩
  · have := hl p h; omega
  · rw [List.mem_singleton.1 h]; omega
  · rw [List.mem_singleton.1 hb]
    have := foldRo_cols a r
    have := hl a ha
    omega

set_option maxRecDepth 100000 in
set_option maxHeartbeats 8000000 in
theorem join8_any (k k' : ByteArray) (g g' : Int) (u u' : Value) (ps ps' : List (Ro × Value)) (w : World) (h : RowsIn w u ps) (h' : RowsIn w u' ps') (hlen : ps.length ≤ 1000) (hlen' : ps'.length ≤ 100) (hcl : ∀ p ∈ ps, p.1.cols.length ≤ 1000) (hcl' : ∀ p ∈ ps', p.1.cols.length ≤ 1000) :
    Calls Try.prog 13 #[.agg #[.string k, .int .i64 g, u], .agg #[.string k', .int .i64 g', u']] w fun e w' => JoinPost w k (max g g') (foldG keyR foldRo (ps.map (·.1)) (ps'.map (·.1))) e w' := by
  obtain ⟨a0, a1, a2, hE⟩ := boxes3 w (pa3 k g u) (pa3 k' g' u') (pa3 ⟨#[]⟩ 0 (.slice none 0 0)) 39 39 39
  obtain ⟨J, hJ⟩ : ∃ J, J = foldG keyR foldRo (ps.map (·.1)) (ps'.map (·.1)) := ⟨_, rfl⟩
  rw [← hJ]
  have HJ := Lib.hid hJ
  clear hJ
  obtain ⟨mg, hmg⟩ : ∃ mg, mg = max g g' := ⟨_, rfl⟩
  rw [← hmg]
  have HMG := Lib.hid hmg
  clear hmg
  have h0 := h.ext hE
  obtain ⟨a, c, rfl, _⟩ := h.get
  obtain ⟨ab, cb, rfl, hcb, hcbm, hget⟩ := h'.get
  obtain ⟨m, hm⟩ : ∃ m, m = ps.length := ⟨_, rfl⟩
  obtain ⟨n, hn⟩ : ∃ n, n = ps'.length := ⟨_, rfl⟩
  rw [← hm] at a0 a1 a2 hE h0 hlen
  rw [← hm]
  rw [← hn] at a0 a1 a2 hE h0 h' hlen' hcb
  rw [← hn]
  have HGET := Lib.hid hget
  have HM := Lib.hid hm
  have HN := Lib.hid hn
  have HCL := Lib.hid hcl
  have HCL2 := Lib.hid hcl'
  clear hget hm hn hcl hcl' h
  go_enter Try.func13, Try.ntmps13
  go_wp2_with fail
  refine (copy8_any k g _ ps _ h0 (by have := HM.out; omega) (fun p hp => by have := HCL.out p hp; omega)).mono ?_
  rintro e w1 ⟨v1, rfl, qs1, hq1, hm1, hE1⟩
  obtain ⟨a1', c1', rfl⟩ := hq1.shape
  have b0 := a0.ext hE1
  have b1 := a1.ext hE1
  have b2 := a2.ext hE1
  have hX1 := hE.trans hE1
  clear a0 a1 a2 hE hE1 h0
  have hsz1 := b2.lt
  go_wp2_with (first
    | (((guard_target =~ wpList _ _ _ (Oper.mk none (Op.store _ (Operand.tmp 6) (Operand.tmp 9)) _ _ _ _ :: _) _ _); go_must (refine storeBox rfl 39 (.tmp 6) (.tmp 9) rfl (w1.heap.size) _ _ _ (by rfl) (by rfl) ((BoxAt.made w1 (pa3 ⟨#[]⟩ 0 (.slice none 0 0)) 39)) (by kernel_rfl) (by rfl) (by simp [Value.oneCell']) ?_); intro w4 c4 g4); have hX14 : Ext w1 w4 := ((Ext.refl w1).alloc _).grown g4 (fun q hq => by cases hq; omega); have d0 := b0.ext hX14; have d1 := b1.ext hX14; have d2 := b2.ext hX14; have z0 : w4.cell? ⟨w.heap.size, 1, none⟩ = some (.int .i64 g) := d0.cell 1; have z1 : w4.cell? ⟨w.heap.size + 1, 1, none⟩ = some (.int .i64 g') := d1.cell 1; have z2 : w4.cell? ⟨w1.heap.size, 1, none⟩ = some (.int .i64 g) := BoxAt.cell c4 1; have zf := BoxAt.free c4 1))
  rw [← HMG.out]
  obtain ⟨q, hq⟩ : ∃ q, q = w1.heap.size := ⟨_, rfl⟩
  rw [← hq]
  rw [← hq] at c4 g4 hsz1
  have hwq : w.heap.size + 1 + 1 < q := hsz1
  obtain ⟨wA, hwA⟩ : ∃ wA, wA = w4.setCell ⟨q, 1, none⟩ (.int .i64 mg) := ⟨_, rfl⟩
  have e1 : BoxAt wA (w.heap.size + 1) (pa3 k' g' (.slice ab n cb)) 39 := by rw [hwA]; exact d1.other (by omega) 1 _
  have e2 : BoxAt wA (w.heap.size + 1 + 1) (pa3 ⟨#[]⟩ 0 (.slice none 0 0)) 39 := by rw [hwA]; exact d2.other (by omega) 1 _
  have e3 : BoxAt wA q (pa3 k mg (.slice a1' qs1.length c1')) 39 := by rw [hwA]; exact BoxAt.set c4 1 _
  have eX : Ext w wA := by rw [hwA]; exact (hX1.trans hX14).setCell (p := ⟨q, 1, none⟩) (by show w.heap.size ≤ q; omega) _
  have eR : RowsT wA (.slice a1' qs1.length c1') qs1 := by rw [hwA]; exact RowsT.set 1 _ c4 (by decide) (by decide) (hq1.ext hX14)
  rw [← hwA]
  clear hwA z0 z1 z2 zf c4 g4 d0 d1 d2 hX14 hX1 b0 b1 b2 hq1 hq hsz1
  go_loopw [7] (fun i wr => ∃ (j : Nat) (vc : Value) (qs : List (Ro × Value)), j ≤ n ∧ i = .int .i64 j ∧ BoxAt wr q (pa3 k mg vc) 39 ∧ BoxAt wr (w.heap.size + 1) (pa3 k' g' (.slice ab n cb)) 39 ∧ BoxAt wr (w.heap.size + 1 + 1) (pa3 ⟨#[]⟩ 0 (.slice none 0 0)) 39 ∧ RowsT wr vc qs ∧ Hid (qs.map (·.1) = foldG keyR foldRo (ps.map (·.1)) ((ps'.map (·.1)).take j)) ∧ Hid (∀ p ∈ qs.map (·.1), p.cols.length ≤ 1000 * (j + 1)) ∧ Ext w wr) (fun i _ => n - (intOf i).toNat)
  case atStart =>
    refine ⟨0, _, qs1, Nat.zero_le _, rfl, e3, e1, e2, eR, ?_, ?_, eX⟩
    · show _ = _
      rw [hm1, List.take_zero]
      rfl
    · show ∀ p ∈ qs1.map (·.1), _
      rw [hm1]
      intro p hp
      obtain ⟨x, hx, rfl⟩ := List.mem_map.1 hp
      have := HCL.out x hx
      omega
  case round =>
    obtain ⟨j, vc, qs, hj, rfl, hbq, hb1, hb2, hqs, HQ, HB, hE⟩ := hrel
    have hql : qs.length ≤ m + j := by
      have := congrArg List.length HQ.out
      have h2 := foldG_len keyR foldRo (ps.map (·.1)) ((ps'.map (·.1)).take j)
      rw [List.length_map, List.length_take] at h2
      rw [List.length_map] at this
      have := HM.out
      omega
    have q2 : wr.cell? ⟨q, 2, none⟩ = some vc := hbq.cell 2
    have f2 : wr.cell? ⟨w.heap.size + 1, 2, none⟩ = some (.slice ab n cb) := hb1.cell 2
    obtain ⟨av, cv, rfl⟩ := hqs.shape
    by_cases hlt : j < n
    · have t1 : decide ((j : Int) < (n : Int)) = true := by simp; omega
      have hjp : j < ps'.length := by rw [← HN.out]; exact hlt
      obtain ⟨bb, oo, rfl, hat⟩ := HGET.out j hjp
      obtain ⟨r, hr⟩ : ∃ r, r = ps'[j].1 := ⟨_, rfl⟩
      obtain ⟨vr, hvr⟩ : ∃ v, v = ps'[j].2 := ⟨_, rfl⟩
      have hct : ColsIn w vr r.cols := by rw [hr, hvr]; exact h'.cols _ (List.getElem_mem hjp)
      have hrl : r.cols.length ≤ 1000 := by rw [hr]; exact HCL2.out _ (List.getElem_mem hjp)
      have hrow : (ps'.map (·.1)).take (j + 1) = (ps'.map (·.1)).take j ++ [r] := by
        rw [List.take_succ_eq_append_getElem (by rw [List.length_map]; exact hjp), List.getElem_map, hr]
      rw [← hr, ← hvr] at hat
      have HROW := Lib.hid hrow
      clear hr hvr hrow
      obtain ⟨ar, cr, rfl⟩ := hct.shape
      obtain ⟨y0, y1, y2, y3, y4, y5, y6, y7⟩ := hat.ext hE
      obtain ⟨Jm, hJm⟩ : ∃ Jm, Jm = mergeG keyR foldRo (qs.map (·.1)) [r] := ⟨_, rfl⟩
      have HJM := Lib.hid hJm
      clear hat hJm
      go_wp2_with fail
      refine wp_region_tab 9 [(7, fun v x => ∃ qs', RowsT x v qs' ∧ Hid (qs'.map (·.1) = Jm))] (by kernel_rfl) (by kernel_rfl) (by kernel_rfl) ⟨fun _ _ _ hE ⟨qs', h, h'⟩ => ⟨qs', h.ext hE, h'⟩, trivial⟩ ?_
      replace q2 := held q2
      replace f2 := held f2
      replace y0 := held y0
      replace y1 := held y1
      replace y2 := held y2
      replace y3 := held y3
      replace y4 := held y4
      replace y5 := held y5
      replace y6 := held y6
      replace y7 := held y7
      refine rg_quiet rfl rfl rfl rfl ?_; intro K hK; go_big_quiet_op; go_big_quiet_on
      refine rg_quiet rfl rfl rfl rfl ?_; intro K hK; go_big_quiet_op; go_big_quiet_on
      refine rg_quiet rfl rfl rfl rfl ?_; intro K hK; go_big_quiet_op; go_big_quiet_on
      refine rg_quiet rfl rfl rfl rfl ?_; intro K hK; go_big_quiet_op; go_big_quiet_on
      refine rg_quiet rfl rfl rfl rfl ?_; intro K hK; go_big_quiet_op; go_big_quiet_on
      refine rg_quiet rfl rfl rfl rfl ?_; intro K hK; go_big_quiet_op; go_big_quiet_on
      refine rg_quiet rfl rfl rfl rfl ?_; intro K hK; go_big_quiet_op; go_big_quiet_on
      refine rg_fact [] rfl rfl rfl (by kernel_rfl) (fun y hEy hf => ?_) (fun v9 y9 hE9 hG9 h9 => ?_)
      · go_simp
        refine (put8_any _ qs r _ y (hqs.ext hEy) (hct.ext (hE.trans hEy)) (by omega) (fun p hp => by have := HB.out p.1 (List.mem_map_of_mem hp); omega) (by omega)).mono ?_
        rintro e y' ⟨v', rfl, qs', h1, h2, hE'⟩
        rw [← HJM.out] at h2
        exact ⟨_, rfl, rg_doneR hEy hE' ⟨qs', h1, h2⟩⟩
      obtain ⟨qs9, h9, _⟩ := h9
      obtain ⟨a9, c9, rfl⟩ := h9.shape
      clear hE9 hG9 h9
      simp only [Act.put, List.setIfInBounds_toArray, List.set_cons_zero, List.set_cons_succ]
      refine rg_quiet rfl rfl rfl rfl ?_; intro K hK; go_big_quiet_op; go_big_quiet_on
      refine rel_tail rfl rfl fun w7 hE7 hG => ?_
      obtain ⟨qs', hqs', HQ'⟩ := (hG 7).2 rfl
      have hbq7 := hbq.ext hE7
      have qf := hbq7.free 2
      have qc : w7.cell? ⟨q, 2, none⟩ = some (.slice av qs.length cv) := hbq7.cell 2
      clear hG q2 f2 y0 y1 y2 y3 y4 y5 y6 y7 hbq
      go_wp2_with fail
      go_roundw
      case rel =>
        refine ⟨j + 1, _, qs', by omega, by go_num, hbq7.set 2 _, (hb1.ext hE7).other (by omega) 2 _, (hb2.ext hE7).other (by omega) 2 _, RowsT.set 2 _ hbq7 (by decide) (by decide) hqs', ?_, ?_, (hE.trans hE7).setCell (p := ⟨q, 2, none⟩) (by show w.heap.size ≤ q; omega) _⟩
        · show _ = _
          rw [HQ'.out, HJM.out, HQ.out, HROW.out, foldG_snoc]
        · show ∀ p ∈ qs'.map (·.1), _
          rw [HQ'.out, HJM.out]
          intro p hp
          have := put_cols HB.out hrl (by omega) p hp
          omega
      case measure => simp [intOf]; omega
    · obtain rfl : j = n := by omega
      have hqJ : qs.map (·.1) = J := by rw [HQ.out, HJ.out, List.take_of_length_le (by rw [List.length_map, ← HN.out]; exact Nat.le_refl _)]
      have hqn : qs.length = J.length := by rw [← hqJ, List.length_map]
      have HQN := Lib.hid hqn
      clear hqn
      obtain ⟨z0, z1, z2⟩ := hbq.pa
      clear q2
      by_cases h100 : qs.length ≤ 100
      · go_wp2_with ((guard_target =~ wpList _ _ _ (Oper.mk none (Op.store _ (Operand.tmp 4) (Operand.tmp 37)) _ _ _ _ :: _) _ _); go_must (refine storeBox rfl 39 (.tmp 4) (.tmp 37) rfl (w.heap.size + 1 + 1) _ _ _ (by rfl) (by rfl) (hb2) (by kernel_rfl) (by rfl) (by simp [Value.oneCell']) ?_); intro w8 c8 g8)
        have hX8 := hE.grown g8 (fun q hq => by cases hq; omega)
        have hrows := hqs.keep g8 hb2 (by decide) (by decide)
        clear z0 z1 z2
        obtain ⟨z0, z1, z2⟩ := BoxAt.pa (k := k) (g := mg) (u := .slice av qs.length cv) c8
        refine bodyPost_ret (v := .tuple #[.agg #[.string k, .int .i64 mg, .slice av qs.length cv], .bool true]) ?_ rfl ⟨hX8, .inl ⟨by have := HQN.out; omega, _, rfl, qs, hrows, hqJ⟩⟩
        simp [results, Try.results13, go_sem, Act.put, z0, z1, z2]
      · have t1 : decide ((100 : Int) < (qs.length : Int)) = true := by simp; omega
        go_wp2_with ((guard_target =~ wpList _ _ _ (Oper.mk none (Op.store _ (Operand.tmp 4) (Operand.tmp 36)) _ _ _ _ :: _) _ _); go_must (refine storeBox rfl 39 (.tmp 4) (.tmp 36) rfl (w.heap.size + 1 + 1) _ _ _ (by rfl) (by rfl) (hb2) (by kernel_rfl) (by rfl) (by simp [Value.oneCell']) ?_); intro w8 c8 g8)
        have hX8 := hE.grown g8 (fun q hq => by cases hq; omega)
        clear z0 z1 z2
        obtain ⟨z0, z1, z2⟩ := BoxAt.pa (k := ⟨#[]⟩) (g := 0) (u := .slice none 0 0) c8
        refine bodyPost_ret (v := .tuple #[.agg #[.string ⟨#[]⟩, .int .i64 0, .slice none 0 0], .bool false]) ?_ rfl ⟨hX8, .inr ⟨by have := HQN.out; omega, rfl⟩⟩
        simp [results, Try.results13, go_sem, Act.put, z0, z1, z2]
end Go.Proofs.Yteamiiekpjoclaa
