/- part.Copy. -/
import Derived.Test.YtimbikbbbfpeeaaGreatDoorP4
import Derived.Test.YtimbikbbbfpeeaaGreatDoorP14
import Derived.Test.YtimbikbbbfpeeaaGreatDoorP11
import Derived.Test.YtimbikbbbfpeeaaGreatDoorP2
import Derived.Test.YtimbikbbbfpeeaaGreatDoorP5
set_option linter.unusedSimpArgs false
set_option linter.unusedVariables false
namespace Go.Proofs.YtimbikbbbfpeeaaGreatDoor
open Go Go.RowKit
attribute [local go_sem] yields yUpon ro8 pa3

theorem roCells_set : ∀ (l : List (Ro × Value)) (k : Nat) (h : k < l.length) (v : Value), (roCells l).set (k * 8 + 7) v = roCells (l.set k (l[k].1, v))
  | c :: l, 0, _, v => by simp [roCells]
  | c :: l, k + 1, h, v => by
    have ih := roCells_set l k (by simpa using h) v
    have e : (k + 1) * 8 + 7 = k * 8 + 7 + 8 := by omega
    simp only [e, roCells, List.set_cons_succ, List.getElem_cons_succ]
    rw [ih]
theorem rowBox_at {w : World} {R : Nat} {qs : List (Ro × Value)} {T : TypeId} (h : BoxAt w R (roCells qs).toArray T) (k : Nat) (hk : k < qs.length) : RoAt w R (k * 8) qs[k].1 qs[k].2 := by
  have g : ∀ j u, j < 8 → (ro8 qs[k].1 qs[k].2)[j]? = some u → w.cell? ⟨R, k * 8 + j, none⟩ = some u := fun j u hj he => by
    rw [h.cell, List.getElem?_toArray, roCells_get qs k hk j hj]
    exact he
  exact ⟨g 0 _ (by decide) rfl, g 1 _ (by decide) rfl, g 2 _ (by decide) rfl, g 3 _ (by decide) rfl, g 4 _ (by decide) rfl, g 5 _ (by decide) rfl, g 6 _ (by decide) rfl, g 7 _ (by decide) rfl⟩
theorem rowBox_set {w : World} {R : Nat} {qs : List (Ro × Value)} {T : TypeId} (h : BoxAt w R (roCells qs).toArray T) (k : Nat) (hk : k < qs.length) (v : Value) : BoxAt (w.setCell ⟨R, k * 8 + 7, none⟩ v) R (roCells (qs.set k (qs[k].1, v))).toArray T := by
  have := h.set (k * 8 + 7) v
  rw [List.setIfInBounds_toArray, roCells_set qs k hk] at this
  exact this
/-- A row's columns in new memory, behind block R. -/
def DoneC (x : World) (R : Nat) (p : Ro × Value) : Prop := (p.2 = .slice none 0 0 ∧ p.1.cols = []) ∨ ∃ b, R < b ∧ p.2 = .slice (some ⟨b, 0, none⟩) p.1.cols.length p.1.cols.length ∧ BoxAt x b (coCells p.1.cols).toArray 216 ∧ p.1.cols.length ≤ 1000000
theorem DoneC.ext {x y : World} {R : Nat} {p : Ro × Value} (hE : Ext x y) (h : DoneC x R p) : DoneC y R p := h.imp_right fun ⟨b, hb, e, hx, hl⟩ => ⟨b, hb, e, hx.ext hE, hl⟩
theorem DoneC.set {x : World} {R i : Nat} {u : Value} {p : Ro × Value} (h : DoneC x R p) : DoneC (x.setCell ⟨R, i, none⟩ u) R p := h.imp_right fun ⟨b, hb, e, hx, hl⟩ => ⟨b, hb, e, hx.other (by omega) i u, hl⟩
theorem DoneC.other {x : World} {R q i : Nat} {u : Value} {p : Ro × Value} (hq : q ≤ R) (h : DoneC x R p) : DoneC (x.setCell ⟨q, i, none⟩ u) R p := h.imp_right fun ⟨b, hb, e, hx, hl⟩ => ⟨b, hb, e, hx.other (by omega) i u, hl⟩
theorem DoneC.grown {x y : World} {R q : Nat} {p : Ro × Value} (hq : q ≤ R) (hg : x.grownBy y (some q)) (h : DoneC x R p) : DoneC y R p := h.imp_right fun ⟨b, hb, e, hx, hl⟩ => ⟨b, hb, e, hx.grown hg (fun e => by cases e; omega), hl⟩
theorem DoneC.typed {x : World} {R : Nat} {p : Ro × Value} (h : DoneC x R p) : ColsT x p.2 p.1.cols := by
  rcases h with ⟨e, e'⟩ | ⟨b, _, e, hx, hl⟩
  · rw [e, e']; exact ColsT.nil x
  · rw [e]; exact TIn.box hx (by unfold maxLen; omega)

set_option maxRecDepth 100000 in
set_option maxHeartbeats 4000000 in
theorem pcopy_any (pk : ByteArray) (pg : Int) (u : Value) (ps : List (Ro × Value)) (w : World) (hin : RowsIn w u ps) (hlen : ps.length ≤ 1000000) (hcl : ∀ p ∈ ps, p.1.cols.length ≤ 1000000) :
    Calls Tryz.prog 57 #[.agg #[.string pk, .int .i64 pg, u]] w fun e w' => ∃ v', e = .returned (.agg #[.string pk, .int .i64 pg, v']) ∧ ∃ qs, RowsT w' v' qs ∧ qs.map (·.1) = ps.map (·.1) ∧ Ext w w' := by
  obtain ⟨a0, a1, hE⟩ := boxes2 w (pa3 pk pg u) (pa3 ⟨#[]⟩ 0 (.slice none 0 0)) 52 52
  obtain ⟨aa, ca, rfl, hca, hcma, _⟩ := hin.get
  have hone := roCells_one ps (fun p hp => let ⟨a, c, e⟩ := (hin.cols p hp).shape; ⟨a, _, c, e⟩)
  obtain ⟨n, hn⟩ : ∃ n, n = ps.length := ⟨_, rfl⟩
  rw [← hn] at hlen hca a0 a1 hE ⊢
  have HN := Lib.hid hn
  clear hn
  go_enter Tryz.func57, Tryz.ntmps57
  go_wp2_with (first
    | (at_make; go_must (refine wpList_make_box _ info_Row und_Rows rfl (.tmp 9) (.tmp 9) rfl _ _ n rfl rfl (by omega) (by unfold maxLen; omega) ?_); intro w2 Z hZ hZs hE2; replace hZ : BoxAt w2 (w.heap.size + 1 + 1) Z 66 := (by simpa using hZ); replace a0 := a0.ext hE2; replace a1 := a1.ext hE2; replace hE := hE.trans hE2; have c0 := a0.pa; clear hE2)
    | (guard_target =~ wpList _ _ _ (Oper.mk _ (Op.call { callee := Callee.builtin Builtin.copy, args := _, argTypes := _ }) _ _ _ _ :: _) _ _; go_must (refine wpList_copy_box w2 info_Row und_Rows rfl (.tmp 11) (.tmp 13) rfl n (w.heap.size + 1 + 1) n rfl _ rfl Z _ hZ hZs (roCells ps) (by rw [roCells_length, HN.out]) (by rw [HN.out]; exact hin.rows.ext hE) hone ?_); intro w3 hR hg3; replace a0 := a0.grown hg3 (fun e => by have := Option.some.inj e; omega); replace a1 := a1.grown hg3 (fun e => by have := Option.some.inj e; omega); replace hE := hE.grown hg3 (fun q hq => by cases hq; omega); clear hZ hZs hg3 c0))
  go_loopw [17] (fun i wr => ∃ (k : Nat) (qs : List (Ro × Value)), k ≤ n ∧ i = .int .i64 k ∧ qs.length = n ∧ Hid (qs.map (·.1) = ps.map (·.1)) ∧ BoxAt wr (w.heap.size + 1 + 1) (roCells qs).toArray 66 ∧ BoxAt wr w.heap.size (pa3 pk pg (.slice aa n ca)) 52 ∧ BoxAt wr (w.heap.size + 1) (pa3 ⟨#[]⟩ 0 (.slice none 0 0)) 52 ∧ Ext w wr ∧ Hid (∀ j (h : j < qs.length), j < k → DoneC wr (w.heap.size + 1 + 1) qs[j]) ∧ Hid (∀ j (h : j < qs.length), k ≤ j → ColsIn w qs[j].2 qs[j].1.cols)) (fun i _ => n - (intOf i).toNat)
  case atStart => exact ⟨0, ps, Nat.zero_le _, rfl, HN.out.symm, rfl, hR, a0, a1, hE, fun j _ h => absurd h (Nat.not_lt_zero j), fun j h _ => hin.cols _ (List.getElem_mem h)⟩
  case round =>
    obtain ⟨k, qs, hk, rfl, hql, HM, hRk, b0, b1, hE, HD, HC⟩ := hrel
    clear a0 a1 hR
    by_cases hlt : k < n
    · have hki : decide ((k : Int) < (n : Int)) = true := by simpa using hlt
      have hkq : k < qs.length := by omega
      have hcu := HC.out k hkq (Nat.le_refl _)
      obtain ⟨M, hM⟩ : ∃ M, M = qs[k].1 := ⟨_, rfl⟩
      obtain ⟨au, cu, hu⟩ := hcu.shape
      rw [← hM] at hcu hu
      rw [hu] at hcu
      have hat := rowBox_at hRk k hkq
      rw [← hM, hu] at hat
      have HM' := Lib.hid hM
      have HU := Lib.hid hu
      clear hM hu
      have hml : M.cols.length ≤ 1000000 := by
        have hmem : M ∈ ps.map (·.1) := by rw [← HM.out, HM'.out]; exact List.mem_map_of_mem (List.getElem_mem hkq)
        obtain ⟨p, hp, e⟩ := List.mem_map.1 hmem
        rw [← e]; exact hcl p hp
      obtain ⟨L, hL⟩ : ∃ L, L = M.cols := ⟨_, rfl⟩
      rw [← hL] at hcu hat hml
      have HL := Lib.hid hL
      clear hL
      obtain ⟨m, hm⟩ : ∃ m, m = L.length := ⟨_, rfl⟩
      rw [← hm] at hcu hat hml
      have Hm := Lib.hid hm
      clear hm
      obtain ⟨x0, x1, x2, x3, x4, x5, x6, x7⟩ := hat
      have hRs := hRk.lt
      by_cases hm0 : 0 < m
      rotate_left
      · skip
        go_wp2_with (first
          | (((guard_target =~ wpList _ _ _ (Oper.mk none (Op.store _ (Operand.tmp 5) (Operand.tmp 21)) _ _ _ _ :: _) _ _); go_must (refine storeBox rfl 66 (.tmp 5) (.tmp 21) rfl (wr.heap.size) _ _ _ (by rfl) (by rfl) ((BoxAt.made wr (ro8 ⟨⟨#[]⟩, zeroCl, 0, 0, []⟩ (.slice none 0 0)) 66)) (by kernel_rfl) (by rfl) (by simp [Value.oneCell']) ?_); intro w4 c4 g4); have hX4 : Ext wr w4 := ((Ext.refl wr).alloc _).grown g4 (fun q hq => by cases hq; omega); have d4 := c4.ro (r := ⟨M.key, M.live, M.gone, M.shade, []⟩) (v := .slice au m cu))
          | (at_make; go_must (refine wpList_make_box w4 info_Col und_Cols rfl (.tmp 24) (.tmp 24) rfl _ _ m rfl rfl (by omega) (by unfold maxLen; omega) ?_); intro w5 Z5 hZ5 hZs5 hE5; have hX5 := hX4.trans hE5; have d5 := (c4.ext hE5).ro (r := ⟨M.key, M.live, M.gone, M.shade, []⟩) (v := .slice au m cu); clear d4)
          | (guard_target =~ wpList _ _ _ (Oper.mk _ (Op.call { callee := Callee.builtin Builtin.copy, args := _, argTypes := _ }) _ _ _ _ :: _) _ _; go_must (refine wpList_copy_box w5 info_Col und_Cols rfl (.tmp 26) (.tmp 28) rfl m w4.heap.size m rfl _ rfl Z5 _ hZ5 hZs5 (coCells L) (by rw [coCells_length, Hm.out]) (show SliceIn _ _ m _ from by have := hcu.ext (hE.trans hX5); unfold ColsIn at this; rwa [← Hm.out] at this) (coCells_one L) ?_); intro w6 hb6 hg6; have hX6 := hX5.grown hg6 (fun q hq => by cases hq; exact hX4.le); have hR6 := hRk.ext hX6; have y7 := (rowBox_at hR6 k hkq).c7; have f7 := hR6.free (k * 8 + 7); clear d5 hg6))
        have hS1 := rowBox_set hR6 k hkq (.slice none 0 0)
        have hXX := hE.trans hX6
        go_roundw
        case rel =>
          have hlen' : (qs.set k (qs[k].1, .slice none 0 0)).length = qs.length := List.length_set ..
          refine ⟨k + 1, qs.set k (qs[k].1, .slice none 0 0), hlt, rfl, by rw [hlen', hql], ?_, hS1, (b0.ext hX6).other (by omega) _ _, (b1.ext hX6).other (by omega) _ _, hXX.setCell (by show w.heap.size ≤ w.heap.size + 1 + 1; omega) _, fun j h hj => ?_, fun j h hj => ?_⟩
          · show _ = _
            rw [← HM.out, List.map_set]
            refine List.ext_getElem? fun i => ?_
            rw [List.getElem?_set]
            split
            · rename_i e; subst e; simp [hkq]
            · rfl
          · rw [List.getElem_set]
            split
            · rename_i e
              refine .inl ⟨rfl, ?_⟩
              show qs[k].1.cols = []
              rw [← HM'.out, ← HL.out]
              exact List.eq_nil_of_length_eq_zero (by rw [← Hm.out]; omega)
            · exact ((HD.out j (by rw [hlen'] at h; exact h) (by omega)).ext hX6).set
          · rw [List.getElem_set]
            split
            · omega
            · exact HC.out j (by rw [hlen'] at h; exact h) (by omega)
        case measure => simp [intOf]; omega
      · have hmi : decide ((0 : Int) < (m : Int)) = true := decide_eq_true (by omega)
        go_wp2_with (first
          | (((guard_target =~ wpList _ _ _ (Oper.mk none (Op.store _ (Operand.tmp 5) (Operand.tmp 21)) _ _ _ _ :: _) _ _); go_must (refine storeBox rfl 66 (.tmp 5) (.tmp 21) rfl (wr.heap.size) _ _ _ (by rfl) (by rfl) ((BoxAt.made wr (ro8 ⟨⟨#[]⟩, zeroCl, 0, 0, []⟩ (.slice none 0 0)) 66)) (by kernel_rfl) (by rfl) (by simp [Value.oneCell']) ?_); intro w4 c4 g4); have hX4 : Ext wr w4 := ((Ext.refl wr).alloc _).grown g4 (fun q hq => by cases hq; omega); have d4 := c4.ro (r := ⟨M.key, M.live, M.gone, M.shade, []⟩) (v := .slice au m cu))
          | (at_make; go_must (refine wpList_make_box w4 info_Col und_Cols rfl (.tmp 24) (.tmp 24) rfl _ _ m rfl rfl (by omega) (by unfold maxLen; omega) ?_); intro w5 Z5 hZ5 hZs5 hE5; have hX5 := hX4.trans hE5; have d5 := (c4.ext hE5).ro (r := ⟨M.key, M.live, M.gone, M.shade, []⟩) (v := .slice au m cu); clear d4)
          | (guard_target =~ wpList _ _ _ (Oper.mk _ (Op.call { callee := Callee.builtin Builtin.copy, args := _, argTypes := _ }) _ _ _ _ :: _) _ _; go_must (refine wpList_copy_box w5 info_Col und_Cols rfl (.tmp 26) (.tmp 28) rfl m w4.heap.size m rfl _ rfl Z5 _ hZ5 hZs5 (coCells L) (by rw [coCells_length, Hm.out]) (show SliceIn _ _ m _ from by have := hcu.ext (hE.trans hX5); unfold ColsIn at this; rwa [← Hm.out] at this) (coCells_one L) ?_); intro w6 hb6 hg6; have hX6 := hX5.grown hg6 (fun q hq => by cases hq; exact hX4.le); have hR6 := hRk.ext hX6; have y7 := (rowBox_at hR6 k hkq).c7; have f7 := hR6.free (k * 8 + 7); clear d5 hg6))
        have hS0 := rowBox_set hR6 k hkq (.slice none 0 0)
        have hS1 := rowBox_set hS0 k (by rw [List.length_set]; exact hkq) (.slice (some ⟨w4.heap.size, 0, none⟩) m m)
        rw [List.set_set, List.getElem_set_self] at hS1
        have hle4 := hX4.le
        have hXX := hE.trans hX6
        go_roundw
        case rel =>
          have hlen' : (qs.set k (qs[k].1, .slice (some ⟨w4.heap.size, 0, none⟩) m m)).length = qs.length := List.length_set ..
          refine ⟨k + 1, qs.set k (qs[k].1, .slice (some ⟨w4.heap.size, 0, none⟩) m m), hlt, rfl, by rw [hlen', hql], ?_, hS1, ((b0.ext hX6).other (by omega) _ _).other (by omega) _ _, ((b1.ext hX6).other (by omega) _ _).other (by omega) _ _, (hXX.setCell (by show w.heap.size ≤ w.heap.size + 1 + 1; omega) _).setCell (by show w.heap.size ≤ w.heap.size + 1 + 1; omega) _, fun j h hj => ?_, fun j h hj => ?_⟩
          · show _ = _
            rw [← HM.out, List.map_set]
            refine List.ext_getElem? fun i => ?_
            rw [List.getElem?_set]
            split
            · rename_i e; subst e; simp [hkq]
            · rfl
          · rw [List.getElem_set]
            split
            · rename_i e
              have hcols : qs[k].1.cols = L := by rw [← HM'.out, ← HL.out]
              refine .inr ⟨w4.heap.size, by omega, ?_, ?_, ?_⟩
              · show Value.slice _ m m = _
                simp only [hcols, ← Hm.out]
              · show BoxAt _ _ (coCells qs[k].1.cols).toArray _
                rw [hcols]
                exact (hb6.other (by omega) _ _).other (by omega) _ _
              · show qs[k].1.cols.length ≤ _
                rw [hcols, ← Hm.out]
                exact hml
            · exact ((HD.out j (by rw [hlen'] at h; exact h) (by omega)).ext hX6).set.set
          · rw [List.getElem_set]
            split
            · omega
            · exact HC.out j (by rw [hlen'] at h; exact h) (by omega)
        case measure => simp [intOf]; omega
    · have c0 := b0.pa
      have e0 := b0.free 2
      have c1 := b1.pa
      by_cases hn0 : 0 < n
      · go_wp2_with ((guard_target =~ wpList _ _ _ (Oper.mk none (Op.store _ (Operand.tmp 2) (Operand.tmp 49)) _ _ _ _ :: _) _ _); go_must (refine storeBox rfl 52 (.tmp 2) (.tmp 49) rfl (w.heap.size + 1) _ _ _ (by rfl) (by rfl) (((b1.other (by omega) _ _).other (by omega) _ _)) (by kernel_rfl) (by rfl) (by simp [Value.oneCell']) ?_); intro w9 c9 g9)
        have hX9 := ((hE.setCell (p := ⟨w.heap.size, 2, none⟩) (Nat.le_refl _) (.slice none 0 0)).setCell (p := ⟨w.heap.size, 2, none⟩) (Nat.le_refl _) (.slice (some ⟨w.heap.size + 1 + 1, 0, none⟩) n n)).grown g9 (fun q hq => by cases hq; omega)
        have hR9 := ((hRk.other (by omega) _ _).other (by omega) _ _).grown g9 (fun e => by have := Option.some.inj e; omega)
        have hD9 : ∀ p ∈ qs, DoneC w9 (w.heap.size + 1 + 1) p := fun p hp => by
          obtain ⟨j, hj, rfl⟩ := List.mem_iff_getElem.1 hp
          exact (((HD.out j hj (by omega)).other (by omega)).other (by omega)).grown (by omega) g9
        have FINR : RowsT w9 (.slice (some ⟨w.heap.size + 1 + 1, 0, none⟩) n n) qs := by
          rw [← hql]
          exact ⟨TIn.box hR9 (by unfold maxLen; omega), fun p hp => (hD9 p hp).typed⟩
        obtain ⟨z0, z1, z2⟩ := c9.pa (k := pk) (g := pg) (u := .slice (some ⟨w.heap.size + 1 + 1, 0, none⟩) n n)
        refine bodyPost_ret (v := .agg #[.string pk, .int .i64 pg, .slice (some ⟨w.heap.size + 1 + 1, 0, none⟩) n n]) ?_ rfl ⟨_, rfl, qs, FINR, HM.out, hX9⟩
        simp [results, Tryz.results57, go_sem, z0, z1, z2]
      · go_wp2_with ((guard_target =~ wpList _ _ _ (Oper.mk none (Op.store _ (Operand.tmp 2) (Operand.tmp 49)) _ _ _ _ :: _) _ _); go_must (refine storeBox rfl 52 (.tmp 2) (.tmp 49) rfl (w.heap.size + 1) _ _ _ (by rfl) (by rfl) ((b1.other (by omega) _ _)) (by kernel_rfl) (by rfl) (by simp [Value.oneCell']) ?_); intro w9 c9 g9)
        have hX9 := (hE.setCell (p := ⟨w.heap.size, 2, none⟩) (Nat.le_refl _) (.slice none 0 0)).grown g9 (fun q hq => by cases hq; omega)
        obtain rfl : qs = [] := List.eq_nil_of_length_eq_zero (by omega)
        obtain ⟨z0, z1, z2⟩ := c9.pa (k := pk) (g := pg) (u := .slice none 0 0)
        refine bodyPost_ret (v := .agg #[.string pk, .int .i64 pg, .slice none 0 0]) ?_ rfl ⟨_, rfl, [], RowsT.nil _, HM.out, hX9⟩
        simp [results, Tryz.results57, go_sem, z0, z1, z2]
end Go.Proofs.YtimbikbbbfpeeaaGreatDoor

/- part.Join. -/
namespace Go.Proofs.YtimbikbbbfpeeaaGreatDoor
open Go Go.RowKit
attribute [local go_sem] yields yUpon ro8 pa3

theorem mem_mergeG {α : Type} {cmp : α → α → Int} {join : α → α → α} {l m : List α} {x : α} (h : x ∈ mergeG cmp join l m) : x ∈ l ∨ x ∈ m ∨ ∃ a ∈ l, ∃ b ∈ m, cmp a b = 0 ∧ x = join a b := by
  fun_induction mergeG cmp join l m with
  | case1 m => exact .inr (.inl h)
  | case2 a l => exact .inl h
  | case3 a l b m hc ih =>
    rcases List.mem_cons.1 h with rfl | h
    · exact .inl (List.mem_cons_self ..)
    · rcases ih h with h | h | ⟨y, hy, z, hz, hyz, e⟩
      · exact .inl (List.mem_cons_of_mem _ h)
      · exact .inr (.inl h)
      · exact .inr (.inr ⟨y, List.mem_cons_of_mem _ hy, z, hz, hyz, e⟩)
  | case4 a l b m hc hc' ih =>
    rcases List.mem_cons.1 h with rfl | h
    · exact .inr (.inl (List.mem_cons_self ..))
    · rcases ih h with h | h | ⟨y, hy, z, hz, hyz, e⟩
      · exact .inl h
      · exact .inr (.inl (List.mem_cons_of_mem _ h))
      · exact .inr (.inr ⟨y, hy, z, List.mem_cons_of_mem _ hz, hyz, e⟩)
  | case5 a l b m hc hc' ih =>
    rcases List.mem_cons.1 h with rfl | h
    · exact .inr (.inr ⟨a, List.mem_cons_self .., b, List.mem_cons_self .., by omega, rfl⟩)
    · rcases ih h with h | h | ⟨y, hy, z, hz, hyz, e⟩
      · exact .inl (List.mem_cons_of_mem _ h)
      · exact .inr (.inl (List.mem_cons_of_mem _ h))
      · exact .inr (.inr ⟨y, List.mem_cons_of_mem _ hy, z, List.mem_cons_of_mem _ hz, hyz, e⟩)
/-- Rows with few columns each. -/
def FewCols (l : List Ro) : Prop := ∀ r ∈ l, r.cols.length ≤ 500000
theorem few_merge {l m : List Ro} (hl : FewCols l) (hm : FewCols m) : ∀ r ∈ mergeRo l m, r.cols.length ≤ 1000000 := by
  intro r hr
  rcases mem_mergeG hr with h | h | ⟨a, ha, b, hb, _, rfl⟩
  · exact Nat.le_trans (hl r h) (by omega)
  · exact Nat.le_trans (hm r h) (by omega)
  · have h1 := mergeCo_len a.cols b.cols
    have h2 := hl a ha
    have h3 := hm b hb
    show (mergeCo a.cols b.cols).length ≤ _
    omega

/-- What part.Join hands back. -/
def JoinPost (w : World) (k : ByteArray) (g : Int) (J : List Ro) (e : Ending) (w' : World) : Prop :=
  Ext w w' ∧ ((J.length ≤ 100 ∧ ∃ v', e = .returned (.tuple #[.agg #[.string k, .int .i64 g, v'], .bool true]) ∧ ∃ qs, RowsT w' v' qs ∧ qs.map (·.1) = J) ∨
    (100 < J.length ∧ e = .returned (.tuple #[.agg #[.string ⟨#[]⟩, .int .i64 0, .slice none 0 0], .bool false])))

set_option maxRecDepth 100000 in
set_option maxHeartbeats 4000000 in
theorem pjoin_walk (ka kb : ByteArray) (ga gb : Int) (ua ub : Value) (la lb : List (Ro × Value)) (w : World) (ha : RowsIn w ua la) (hb : RowsIn w ub lb) (hlen : la.length + lb.length ≤ 1000000) (fa : FewCols (la.map (·.1))) (fb : FewCols (lb.map (·.1))) :
    Calls Tryz.prog 179 #[.agg #[.string ka, .int .i64 ga, ua], .agg #[.string kb, .int .i64 gb, ub]] w fun e w' => JoinPost w ka (max ga gb) (mergeRo (la.map (·.1)) (lb.map (·.1))) e w' := by
  obtain ⟨a0, a1, a2, hE⟩ := boxes3 w (pa3 ka ga ua) (pa3 kb gb ub) (pa3 ⟨#[]⟩ 0 (.slice none 0 0)) 52 52 52
  obtain ⟨J, hJ⟩ : ∃ J, J = mergeRo (la.map (·.1)) (lb.map (·.1)) := ⟨_, rfl⟩
  rw [← hJ]
  have HJ := Lib.hid hJ
  clear hJ
  obtain ⟨mg, hmg⟩ : ∃ mg, mg = max ga gb := ⟨_, rfl⟩
  rw [← hmg]
  have HG := Lib.hid hmg
  clear hmg
  go_enter Tryz.func179, Tryz.ntmps179
  go_wp2_with fail
  refine (mergeRo_any ua ub la lb _ (ha.ext hE) (hb.ext hE) hlen (fun p hp q hq => by have := fa p.1 (List.mem_map_of_mem hp); have := fb q.1 (List.mem_map_of_mem hq); omega)).mono ?_
  rintro e w1 ⟨v', rfl, ps, hown, hsafe, hmap, hE1⟩
  rw [← HJ.out] at hmap
  have hrows := rows_own hown hE1 hsafe
  have hpl : J.length = ps.length := by rw [← hmap]; simp
  obtain ⟨ca, cc, rfl⟩ := own_shape hown
  have hJl : J.length ≤ 1000000 := by
    rw [HJ.out]
    have := mergeG_len keyR joinRo (la.map (·.1)) (lb.map (·.1))
    unfold mergeRo
    simp at this
    omega
  clear hown hsafe
  replace a0 := a0.ext hE1
  replace a1 := a1.ext hE1
  replace a2 := a2.ext hE1
  replace hE := hE.trans hE1
  have c0 := a0.pa
  have c1 := a1.pa
  clear hE1
  rw [← hpl]
  by_cases hfit : 100 < J.length
  · go_wp2_with ((guard_target =~ wpList _ _ _ (Oper.mk none (Op.store _ (Operand.tmp 4) (Operand.tmp 15)) _ _ _ _ :: _) _ _); go_must (refine storeBox rfl 52 (.tmp 4) (.tmp 15) rfl (w.heap.size + 1 + 1) _ _ _ (by rfl) (by rfl) (a2) (by kernel_rfl) (by rfl) (by simp [Value.oneCell']) ?_); intro w9 c9 g9)
    obtain ⟨z0, z1, z2⟩ := c9.pa (k := ⟨#[]⟩) (g := 0) (u := .slice none 0 0)
    refine bodyPost_ret (v := .tuple #[.agg #[.string ⟨#[]⟩, .int .i64 0, .slice none 0 0], .bool false]) ?_ rfl ⟨hE.grown g9 (fun q hq => by cases hq; omega), .inr ⟨by omega, rfl⟩⟩
    simp [results, Tryz.results179, go_sem, z0, z1, z2]
  · go_wp2_with fail
    refine (pcopy_any ka (max ga gb) _ ps w1 hrows (by omega) (fun p hp => few_merge fa fb p.1 (by rw [← HJ.out, ← hmap]; exact List.mem_map_of_mem hp))).mono ?_
    rintro e w2 ⟨v', rfl, qs, hqs, hqm, hE2⟩
    obtain ⟨aq, cq, rfl⟩ := hqs.shape
    obtain ⟨nq, hnq⟩ : ∃ nq, nq = qs.length := ⟨_, rfl⟩
    rw [← hnq] at hqs ⊢
    clear hnq
    replace a2 := a2.ext hE2
    go_wp2_with ((guard_target =~ wpList _ _ _ (Oper.mk none (Op.store _ (Operand.tmp 4) (Operand.tmp 25)) _ _ _ _ :: _) _ _); go_must (refine storeBox rfl 52 (.tmp 4) (.tmp 25) rfl (w.heap.size + 1 + 1) _ _ _ (by rfl) (by rfl) (a2) (by kernel_rfl) (by rfl) (by simp [Value.oneCell']) ?_); intro w9 c9 g9)
    have hrow9 := hqs.keep g9 a2 (by decide) (by decide)
    obtain ⟨z0, z1, z2⟩ := c9.pa (k := ka) (g := max ga gb) (u := .slice aq nq cq)
    refine bodyPost_ret (v := .tuple #[.agg #[.string ka, .int .i64 (max ga gb), .slice aq nq cq], .bool true]) ?_ rfl ⟨(hE.trans hE2).grown g9 (fun q hq => by cases hq; omega), .inl ⟨by omega, _, by rw [HG.out], qs, hrow9, hqm.trans hmap⟩⟩
    simp [results, Tryz.results179, go_sem, z0, z1, z2]
end Go.Proofs.YtimbikbbbfpeeaaGreatDoor

/- A store's tables in memory: by name, each with its partitions and the keys of those that came since. -/
namespace Go.Proofs.YtimbikbbbfpeeaaGreatDoor
open Go Go.RowKit

/-! ### What stays under a Touch -/
/-- None of these blocks holds cells of type e. -/
def NoBox (w : World) (K : List Nat) (e : TypeId) : Prop := ∀ k ∈ K, ∀ Z, ¬ BoxAt w k Z e
theorem NoBox.nil (w : World) (e : TypeId) : NoBox w [] e := nofun
theorem NoBox.app {w : World} {K L : List Nat} {e : TypeId} (h : NoBox w K e) (h' : NoBox w L e) : NoBox w (K ++ L) e := fun k hk => (List.mem_append.1 hk).elim (h k) (h' k)
theorem NoBox.cons {w : World} {k : Nat} {L : List Nat} {e : TypeId} (h : NoBox w [k] e) (h' : NoBox w L e) : NoBox w (k :: L) e := NoBox.app (K := [k]) h h'
theorem NoBox.sub {w : World} {K L : List Nat} {e : TypeId} (h : NoBox w L e) (hs : ∀ k ∈ K, k ∈ L) : NoBox w K e := fun k hk => h k (hs k hk)
theorem NoBox.box {w : World} {b : Nat} {Z : Array Value} {T e : TypeId} (h : BoxAt w b Z T) (hne : T ≠ e) : NoBox w [b] e := fun k hk Z' h' => by
  rw [List.mem_singleton.1 hk] at h'
  exact box_ne h h' hne rfl
theorem NoBox.ofMap {w : World} {m : Nat} {es : Array MapEntry} {c : Nat} (h : w.heap[m]? = some (.map es c)) (e : TypeId) : NoBox w [m] e := fun k hk Z h' => by
  rw [List.mem_singleton.1 hk] at h'
  unfold BoxAt at h'
  rw [h] at h'
  cases h'
theorem NoBox.smap {w : World} {m : Nat} {L : Sm} (h : SMapAt w m L) (e : TypeId) : NoBox w [m] e := let ⟨_, _, hb⟩ := h.isMap; NoBox.ofMap hb e
theorem NoBox.files {w : World} {m : Nat} {F : Fl} (h : FilesAt w m F) (e : TypeId) : NoBox w [m] e := let ⟨⟨_, _, hb, _⟩, _⟩ := h; NoBox.ofMap hb e
theorem NoBox.fresh {w : World} {K : List Nat} (h : ∀ k ∈ K, w.heap.size ≤ k) (e : TypeId) : NoBox w K e := fun k hk Z h' => by
  have := h'.lt
  have := h k hk
  omega
theorem Touch.tin {w w' : World} {K : List Nat} (h : Touch w w' K) {e : TypeId} (hn : NoBox w K e) {v : Value} {n : Nat} {xs : List Value} (ht : TIn w e v n xs) : TIn w' e v n xs :=
  ht.imp_right fun ⟨b, c, Z, e1, hb, h2⟩ => ⟨b, c, Z, e1, h.box hb fun hk => hn b hk Z hb, h2⟩
theorem Touch.rowsT {w w' : World} {K : List Nat} (h : Touch w w' K) (h1 : NoBox w K 66) (h2 : NoBox w K 216) {v : Value} {qs : List (Ro × Value)} (ht : RowsT w v qs) : RowsT w' v qs :=
  ⟨h.tin h1 ht.tin, fun p hp => h.tin h2 (ht.typed p hp)⟩

/-! ### Tables -/
structure Tb where
  name : ByteArray
  tb : Nat
  mp : Nat
  ms : Nat
  parts : List Pa
  since : List ByteArray
def Tb.blocks (t : Tb) : List Nat := [t.tb, t.mp, t.ms]
def paV (p : Pa) : Value := .agg #[.string p.key, .int .i64 p.gone, p.rv]
def paE (p : Pa) : ByteArray × Value := (p.key, paV p)
def snE (k : ByteArray) : ByteArray × Value := (k, .bool true)
/-- A table in memory; its rows have at most C columns. -/
structure TbAt (w : World) (C : Nat) (t : Tb) : Prop where
  box : BoxAt w t.tb #[.map (some t.mp), .map (some t.ms)] 99
  pm : SMapAt w t.mp (t.parts.map paE)
  sm : SMapAt w t.ms (t.since.map snE)
  rows : ∀ p ∈ t.parts, RowsT w p.rv p.ps
  ne : t.mp ≠ t.ms
  few : t.parts.length ≤ 100
  ok : ∀ p ∈ t.parts, p.key.size ≤ 1000000 ∧ p.ps.length ≤ 100 ∧ ∀ r ∈ p.ps, r.1.cols.length ≤ C
  sub : ∀ k ∈ t.since, ∃ p ∈ t.parts, p.key = k
theorem TbAt.mono {w : World} {C D : Nat} {t : Tb} (h : TbAt w C t) (hC : C ≤ D) : TbAt w D t :=
  ⟨h.box, h.pm, h.sm, h.rows, h.ne, h.few, fun p hp => ⟨(h.ok p hp).1, (h.ok p hp).2.1, fun r hr => Nat.le_trans ((h.ok p hp).2.2 r hr) hC⟩, h.sub⟩
theorem TbAt.noBox {w : World} {C : Nat} {t : Tb} (h : TbAt w C t) {e : TypeId} (he : 99 ≠ e) : NoBox w t.blocks e :=
  (NoBox.box h.box he).cons ((NoBox.smap h.pm e).cons (NoBox.smap h.sm e))
theorem TbAt.touch {w w' : World} {C : Nat} {t : Tb} {K : List Nat} (h : TbAt w C t) (hT : Touch w w' K) (hd : ∀ b ∈ t.blocks, b ∉ K) (h1 : NoBox w K 66) (h2 : NoBox w K 216) : TbAt w' C t :=
  ⟨hT.box h.box (hd _ (by simp [Tb.blocks])), h.pm.touch hT (hd _ (by simp [Tb.blocks])), h.sm.touch hT (hd _ (by simp [Tb.blocks])), fun p hp => hT.rowsT h1 h2 (h.rows p hp), h.ne, h.few, h.ok, h.sub⟩
theorem TbAt.ext {w w' : World} {C : Nat} {t : Tb} (h : TbAt w C t) (hE : Ext w w') : TbAt w' C t := h.touch (Touch.of_ext hE []) (fun _ _ => by simp) (NoBox.nil _ _) (NoBox.nil _ _)
theorem TbAt.lt {w : World} {C : Nat} {t : Tb} (h : TbAt w C t) : ∀ b ∈ t.blocks, b < w.heap.size := by
  intro b hb
  simp only [Tb.blocks, List.mem_cons, List.not_mem_nil, or_false] at hb
  rcases hb with rfl | rfl | rfl
  · exact h.box.lt
  · exact h.pm.lt
  · exact h.sm.lt
theorem TbAt.tb_ne {w : World} {C : Nat} {t : Tb} (h : TbAt w C t) : t.tb ≠ t.mp ∧ t.tb ≠ t.ms :=
  ⟨fun e => NoBox.smap h.pm _ t.tb (by simp [e]) _ h.box, fun e => NoBox.smap h.sm _ t.tb (by simp [e]) _ h.box⟩
def tbE (t : Tb) : ByteArray × Value := (t.name, .pointer (some ⟨t.tb, 0, none⟩))
/-- The blocks of tables. -/
def blocksT (ts : List Tb) : List Nat := ts.flatMap Tb.blocks
theorem mem_blocksT {ts : List Tb} {b : Nat} : b ∈ blocksT ts ↔ ∃ t ∈ ts, b ∈ t.blocks := by simp [blocksT]
structure TbsAt (w : World) (C m : Nat) (ts : List Tb) : Prop where
  map : SMapAt w m (ts.map tbE)
  tabs : ∀ t ∈ ts, TbAt w C t
  nd : ts.Pairwise fun t u => ∀ b ∈ t.blocks, b ∉ u.blocks
  names : ∀ t ∈ ts, t.name.size ≤ 1000000
  md : m ∉ blocksT ts
theorem TbsAt.rises {w : World} {C m : Nat} {ts : List Tb} (h : TbsAt w C m ts) : KRises Tb.name ts := by
  have := h.map.rises
  unfold KRises at this ⊢
  rw [List.pairwise_map] at this
  exact this
theorem TbsAt.mono {w : World} {C D m : Nat} {ts : List Tb} (h : TbsAt w C m ts) (hC : C ≤ D) : TbsAt w D m ts := ⟨h.map, fun t ht => (h.tabs t ht).mono hC, h.nd, h.names, h.md⟩
theorem TbsAt.m_ne {w : World} {C m : Nat} {ts : List Tb} (h : TbsAt w C m ts) {t : Tb} (ht : t ∈ ts) : m ≠ t.tb := fun e => NoBox.smap h.map _ m (by simp) _ (e ▸ (h.tabs t ht).box)
theorem TbsAt.noBox {w : World} {C m : Nat} {ts : List Tb} (h : TbsAt w C m ts) {e : TypeId} (he : 99 ≠ e) : NoBox w (m :: blocksT ts) e :=
  (NoBox.smap h.map e).cons fun b hb => by
    obtain ⟨t, ht, hb⟩ := mem_blocksT.1 hb
    exact (h.tabs t ht).noBox he b hb
theorem TbsAt.touch {w w' : World} {C m : Nat} {ts : List Tb} {K : List Nat} (h : TbsAt w C m ts) (hT : Touch w w' K) (hd : ∀ b ∈ m :: blocksT ts, b ∉ K) (h1 : NoBox w K 66) (h2 : NoBox w K 216) : TbsAt w' C m ts :=
  ⟨h.map.touch hT (hd _ (by simp)), fun t ht => (h.tabs t ht).touch hT (fun b hb => hd b (List.mem_cons_of_mem _ (mem_blocksT.2 ⟨t, ht, hb⟩))) h1 h2, h.nd, h.names, h.md⟩
theorem TbsAt.ext {w w' : World} {C m : Nat} {ts : List Tb} (h : TbsAt w C m ts) (hE : Ext w w') : TbsAt w' C m ts := h.touch (Touch.of_ext hE []) (fun _ _ => by simp) (NoBox.nil _ _) (NoBox.nil _ _)
theorem TbsAt.lt {w : World} {C m : Nat} {ts : List Tb} (h : TbsAt w C m ts) : ∀ b ∈ m :: blocksT ts, b < w.heap.size := by
  intro b hb
  rcases List.mem_cons.1 hb with rfl | hb
  · exact h.map.lt
  · obtain ⟨t, ht, hb⟩ := mem_blocksT.1 hb
    exact (h.tabs t ht).lt b hb
theorem TbsAt.new (w : World) : TbsAt (w.alloc (.map #[] 0)) 0 w.heap.size [] := ⟨smap_new w, nofun, List.Pairwise.nil, nofun, by simp [blocksT]⟩
theorem tbE_map (t : Tb) (ts : List Tb) : (kput Tb.name t ts).map tbE = kput Prod.fst (tbE t) (ts.map tbE) := kput_map (key := Tb.name) (key' := Prod.fst) (f := tbE) (fun _ => rfl) t ts
theorem pair_ne {α : Type} {R : α → α → Prop} (hs : ∀ a b, R a b → R b a) : ∀ {L : List α}, L.Pairwise R → ∀ {x y : α}, x ∈ L → y ∈ L → x ≠ y → R x y
  | [], _, _, _, h, _, _ => by cases h
  | z :: l, hp, x, y, hx, hy, hne => by
    obtain ⟨p1, p2⟩ := List.pairwise_cons.1 hp
    rcases List.mem_cons.1 hx with ex | hx1
    · rcases List.mem_cons.1 hy with ey | hy1
      · exact absurd (ex.trans ey.symm) hne
      · rw [ex]; exact p1 y hy1
    · rcases List.mem_cons.1 hy with ey | hy1
      · rw [ey]; exact hs _ _ (p1 x hx1)
      · exact pair_ne hs p2 hx1 hy1 hne
/-- A table turned in place. -/
theorem TbsAt.turn {w w' : World} {C m : Nat} {ts : List Tb} (h : TbsAt w C m ts) {t t' : Tb} (ht : t ∈ ts) (hT : Touch w w' [t.mp, t.ms]) (h' : TbAt w' C t') (hn : t'.name = t.name) (hb : t'.tb = t.tb) (hp : t'.mp = t.mp) (hs : t'.ms = t.ms) :
    TbsAt w' C m (kput Tb.name t' ts) := by
  have hbl : t'.blocks = t.blocks := by unfold Tb.blocks; rw [hb, hp, hs]
  have hr := h.rises
  have hat := h.tabs t ht
  have hm : m ∉ [t.mp, t.ms] := fun hm => h.md (mem_blocksT.2 ⟨t, ht, by simp only [Tb.blocks]; exact List.mem_cons_of_mem _ hm⟩)
  have hE : (kput Tb.name t' ts).map tbE = ts.map tbE := by
    rw [tbE_map]
    refine kput_same h.map.rises ?_
    have e : tbE t' = tbE t := by unfold tbE; rw [hn, hb]
    rw [e]
    exact kfind_of_mem h.map.rises (List.mem_map_of_mem ht)
  have hother : ∀ u ∈ ts, u.name ≠ t'.name → ∀ b ∈ u.blocks, b ∉ t.blocks := fun u hu hne b hbu => by
    have hne' : u ≠ t := fun e => hne (by rw [e, hn])
    exact pair_ne (fun a b h x hx hx' => h x hx' hx) h.nd hu ht hne' b hbu
  refine ⟨by rw [hE]; exact h.map.touch hT hm, fun u hu => ?_, ?_, fun u hu => ?_, fun hmb => ?_⟩
  · rcases kput_mem' hr hu with rfl | ⟨hu, hne⟩
    · exact h'
    · refine (h.tabs u hu).touch hT (fun b hbu hbk => hother u hu hne b hbu (List.mem_cons_of_mem _ hbk)) ?_ ?_ <;> exact (NoBox.smap hat.pm _).cons (NoBox.smap hat.sm _)
  · refine kput_pairwise (fun a b h x hx hx' => h x hx' hx) hr h.nd fun u hu hne b hbu => ?_
    rw [hbl]
    exact hother u hu hne b hbu
  · rcases kput_mem hu with rfl | hu
    · rw [hn]; exact h.names t ht
    · exact h.names u hu
  · obtain ⟨u, hu, hbu⟩ := mem_blocksT.1 hmb
    rcases kput_mem hu with e | hu
    · rw [e, hbl] at hbu; exact h.md (mem_blocksT.2 ⟨t, ht, hbu⟩)
    · exact h.md (mem_blocksT.2 ⟨u, hu, hbu⟩)
/-- A new table, laid into the map. -/
theorem TbsAt.add {w w1 w' : World} {C m : Nat} {ts : List Tb} (h : TbsAt w C m ts) {t : Tb} (hE : Ext w w1) (ht : TbAt w1 C t) (hfr : ∀ b ∈ t.blocks, w.heap.size ≤ b) (hnm : t.name.size ≤ 1000000)
    (hT : Touch w1 w' [m]) (hm : SMapAt w' m (kput Prod.fst (tbE t) (ts.map tbE))) : TbsAt w' C m (kput Tb.name t ts) := by
  have hr := h.rises
  have hno : ∀ e, NoBox w1 [m] e := fun e => NoBox.smap (h.map.ext hE) e
  have hml := h.map.lt
  refine ⟨by rw [tbE_map]; exact hm, fun u hu => ?_, ?_, fun u hu => ?_, fun hmb => ?_⟩
  · rcases kput_mem hu with rfl | hu
    · exact ht.touch hT (fun b hb hbm => by rw [List.mem_singleton.1 hbm] at hb; have := hfr _ hb; omega) (hno _) (hno _)
    · exact ((h.tabs u hu).ext hE).touch hT (fun b hb hbm => by rw [List.mem_singleton.1 hbm] at hb; exact h.md (mem_blocksT.2 ⟨u, hu, hb⟩)) (hno _) (hno _)
  · refine kput_pairwise (fun a b h x hx hx' => h x hx' hx) hr h.nd fun u hu hne b hb hbt => ?_
    have := hfr b hbt
    have := (h.tabs u hu).lt b hb
    omega
  · rcases kput_mem hu with rfl | hu
    · exact hnm
    · exact h.names u hu
  · obtain ⟨u, hu, hb⟩ := mem_blocksT.1 hmb
    rcases kput_mem hu with rfl | hu
    · have := hfr _ hb; omega
    · exact h.md (mem_blocksT.2 ⟨u, hu, hb⟩)

/-! ### As plain data -/
def Pa.q (p : Pa) : Pt := ⟨p.key, p.gone, p.ps.map (·.1)⟩
structure Tq where
  name : ByteArray
  parts : List Pt
  since : List ByteArray
def Tb.q (t : Tb) : Tq := ⟨t.name, t.parts.map Pa.q, t.since⟩
/-- A partition joined: is there room, and what it is then. -/
def joinP (old : Option Pt) (p : Pt) : Pt := ⟨p.key, max ((old.map Pt.gone).getD 0) p.gone, mergeRo ((old.map Pt.rows).getD []) p.rows⟩
def joinB (t : Tq) (p : Pt) : Bool := decide ((joinP (kfind Pt.key p.key t.parts) p).rows.length ≤ 100) && ((kfind Pt.key p.key t.parts).isSome || decide (t.parts.length < 100))
def joinT (t : Tq) (p : Pt) : Tq := if joinB t p then { t with parts := kput Pt.key (joinP (kfind Pt.key p.key t.parts) p) t.parts, since := kput id p.key t.since } else t
/-- The table of a name, there or new. -/
def tabQ (ts : List Tq) (name : ByteArray) : Tq := (kfind Tq.name name ts).getD ⟨name, [], []⟩
def mutQ1 (ts : List Tq) (m : Mq) : Bool × List Tq :=
  if (kfind Tq.name m.table ts).isNone && decide (8 ≤ ts.length) then (false, ts)
  else (joinB (tabQ ts m.table) m.pt, kput Tq.name (joinT (tabQ ts m.table) m.pt) ts)
def mutsQ : List Tq → List Mq → Bool × List Tq
  | ts, [] => (true, ts)
  | ts, m :: l => if (mutQ1 ts m).1 then mutsQ (mutQ1 ts m).2 l else mutQ1 ts m
end Go.Proofs.YtimbikbbbfpeeaaGreatDoor
