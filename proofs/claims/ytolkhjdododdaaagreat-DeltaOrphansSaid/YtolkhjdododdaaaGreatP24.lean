/- clerestoryref08.put. -/
import Derived.Test.YtolkhjdododdaaaGreatP22
import Derived.Test.YtolkhjdododdaaaGreatP23
import Derived.Test.YtolkhjdododdaaaGreatP17
import Derived.Test.YtolkhjdododdaaaGreatP16
import Derived.Test.YtolkhjdododdaaaGreatP21
import Derived.Test.YtolkhjdododdaaaGreatP7
import Derived.Test.YtolkhjdododdaaaGreatP8
import Derived.Test.YtolkhjdododdaaaGreatP2
import Derived.Test.YtolkhjdododdaaaGreatP9
import Derived.Laws.MakeOwn
import Derived.OwnWalk
set_option linter.unusedSimpArgs false
set_option linter.unusedVariables false
namespace Go.Proofs.YtolkhjdododdaaaGreat
open Go Go.RowKit
attribute [local go_sem] yields yUpon ro8

theorem keyR_less (a b : Ro) : keyR a b < 0 ↔ Op.bytesLess a.key.toList b.key.toList = true := by
  unfold keyR
  rw [cmpB_less, ByteArray.toList_eq, ByteArray.toList_eq]
  unfold less
  by_cases h : Op.bytesLess a.key.data.toList b.key.data.toList = true
  · rw [if_pos h]; simp [h]
  · rw [if_neg h]
    constructor
    · intro h'; split at h' <;> omega
    · intro h'; exact absurd h' h
theorem keyR_eq0 (a b : Ro) : keyR a b = 0 ↔ (a.key.toList == b.key.toList) = true := by
  rw [ByteArray.toList_eq, ByteArray.toList_eq, beq_iff_eq]
  constructor
  · exact fun h => cmpB_zero h
  · intro h; unfold keyR; rw [h]; exact cmpB_self _
/-- What stays true while a row is put into a list that is under way. -/
structure PutR (w : World) (S B : Nat) (r : Ro) (vr : Value) (vm : Value) (P : List (Ro × Value)) (x : World) : Prop where
  extw : Ext w x
  own : x.ownsRow B 54 8 vm P.length (roCells P)
  box : BoxAt x w.heap.size (ro8 r vr) 54
  size : S ≤ x.heap.size
theorem PutR.ext {w x y : World} {S B : Nat} {r : Ro} {vr : Value} {vm : Value} {P : List (Ro × Value)} (hE : Ext x y) (h : PutR w S B r vr vm P x) : PutR w S B r vr vm P y := ⟨h.extw.trans hE, ownsRow_ext h.own hE, h.box.ext hE, Nat.le_trans h.size hE.le⟩

set_option maxRecDepth 100000 in
set_option maxHeartbeats 16000000 in
theorem put8_any (v : Value) (ps : List (Ro × Value)) (r : Ro) (vr : Value) (w : World) (h : RowsT w v ps) (hr : ColsIn w vr r.cols) (hlen : ps.length ≤ 400000) (hcl : ∀ p ∈ ps, p.1.cols.length + r.cols.length ≤ 300000) (hrl : r.cols.length ≤ 300000) :
    Calls Tryz.prog 19 #[v, (.agg #[.string r.key, .string r.live.val, .bool r.live.dead, .int .i64 r.live.at_, .int .i64 r.live.fin, .int .i64 r.gone, .int .i64 r.shade, vr])] w fun e w' => ∃ v', e = .returned v' ∧ ∃ qs, RowsT w' v' qs ∧ qs.map (·.1) = mergeG keyR foldRo (ps.map (·.1)) [r] ∧ Ext w w' := by
  obtain ⟨a, cp, rfl, hc, hcm, hget⟩ := h.rows.get
  obtain ⟨ar, cr, rfl⟩ := hr.shape
  have b0 := BoxAt.made w (ro8 r (.slice ar r.cols.length cr)) 54
  have hE0 := (Ext.refl w).alloc (.cells (ro8 r (.slice ar r.cols.length cr)) 54)
  obtain ⟨rn, hrn⟩ : ∃ rn, rn = r.cols.length := ⟨_, rfl⟩
  rw [← hrn] at b0 hE0 hr ⊢
  obtain ⟨n, hn⟩ : ∃ n, n = ps.length := ⟨_, rfl⟩
  rw [← hn] at h hlen hc ⊢
  have HGET := Lib.hid hget
  have HN := Lib.hid hn
  have HCL := Lib.hid hcl
  have HRN := Lib.hid hrn
  clear hget hn hcl hrn
  go_enter Tryz.func19, Tryz.ntmps19
  go_wp2_with fail
  go_loopw [5] (fun i wr => ∃ k : Nat, k ≤ n ∧ i = .int .i64 k ∧ Hid (∀ j (_ : j < k) (hl : j < ps.length), keyR (ps[j]'hl).1 r < 0) ∧ Ext (w.alloc (.cells (ro8 r (.slice ar rn cr)) 54)) wr) (fun i _ => n - (intOf i).toNat)
  case atStart => exact ⟨0, Nat.zero_le _, rfl, fun j h => by omega, Ext.refl _⟩
  case round =>
    obtain ⟨k, hk, rfl, HK, hE⟩ := hrel
    have hb := b0.ext hE
    have x0 : wr.cell? ⟨w.heap.size, 0, none⟩ = some (.string r.key) := hb.cell 0
    have HKM : Hid (∀ j (_ : j < k) (hl : j < (ps.map (·.1)).length), keyR ((ps.map (·.1))[j]'hl) r < 0) := fun j hj hl => by
      rw [List.getElem_map]
      exact HK.out j hj (by rwa [List.length_map] at hl)
    by_cases hlt : k < n
    · have t1 : decide ((k : Int) < (n : Int)) = true := by simp; omega
      have hkl : k < ps.length := by rw [← HN.out]; exact hlt
      obtain ⟨b, o, rfl, hat⟩ := HGET.out k hkl
      obtain ⟨d, hd⟩ : ∃ d, d = ps[k].1 := ⟨_, rfl⟩
      obtain ⟨vd, hvd⟩ : ∃ d, d = ps[k].2 := ⟨_, rfl⟩
      rw [← hd, ← hvd] at hat
      have y0 := (hat.ext (hE0.trans hE)).c0
      have HD := Lib.hid hd
      have HVD := Lib.hid hvd
      have HAT := Lib.hid hat
      clear hd hat hvd
      by_cases hless : Op.bytesLess d.key.toList r.key.toList = true
      · go_wp2_with fail
        refine wp_region_tab 14 [] (by kernel_rfl) (by kernel_rfl) (by kernel_rfl) trivial ?_
        replace x0 := held x0
        replace y0 := held y0
        refine rg_quiet rfl rfl rfl rfl ?_; intro K hK; go_big_quiet_op; go_big_quiet_on
        refine rg_quiet rfl rfl rfl rfl ?_; intro K hK; go_big_quiet_op; go_big_quiet_on
        refine rg_quiet rfl rfl rfl rfl ?_; intro K hK; go_big_quiet_op; go_big_quiet_on
        refine rg_quiet rfl rfl rfl rfl ?_; intro K hK; go_big_quiet_op; go_big_quiet_on
        refine rg_quiet rfl rfl rfl rfl ?_; intro K hK; go_big_quiet_op; go_big_quiet_on
        refine rg_quiet rfl rfl rfl rfl ?_; intro K hK; go_big_quiet_op; go_big_quiet_on
        refine rg_quiet rfl rfl rfl rfl ?_; intro K hK; go_big_quiet_op; go_big_quiet_on
        refine rg_quiet rfl rfl rfl rfl ?_; intro K hK; go_big_quiet_op; go_big_quiet_on
        refine rg_quiet rfl rfl rfl rfl ?_; intro K hK; go_big_quiet_op; go_big_quiet_on
        refine rg_quiet rfl rfl rfl rfl ?_; intro K hK; go_big_quiet_op; go_big_quiet_on
        refine rg_quiet rfl rfl rfl rfl ?_; intro K hK; go_big_quiet_op; go_big_quiet_on
        refine rg_quiet rfl rfl rfl rfl ?_; intro K hK; go_big_quiet_op; go_big_quiet_on
        refine rg_quiet rfl rfl rfl rfl ?_; intro K hK; go_big_quiet_op; go_big_quiet_on
        refine rg_quiet rfl rfl rfl rfl ?_; intro K hK; go_big_quiet_op; go_big_quiet_on
        refine rel_nil fun w5 hE5 _ => ?_
        clear x0 y0
        go_wp2_with fail
        go_roundw
        case rel =>
          refine ⟨k + 1, by omega, by go_num, fun j hj hl => ?_, hE.trans hE5⟩
          by_cases e : j < k
          · exact HK.out j e hl
          · obtain rfl : j = k := by omega
            rw [← HD.out]
            exact (keyR_less d r).2 hless
        case measure => simp [intOf]; omega
      · have hlf : Op.bytesLess d.key.toList r.key.toList = false := by simpa using hless
        have hin5 := rows_take (RowsIn.ext (hE0.trans hE) h.rows) hk HN.out
        obtain ⟨P, hP⟩ : ∃ P, P = ps.take k := ⟨_, rfl⟩
        have hPl : P.length ≤ n := by rw [hP, List.length_take]; omega
        rw [← hP] at hin5
        have HP := Lib.hid hP
        clear hP
        by_cases heq : (d.key.toList == r.key.toList) = true
        · go_wp2_with fail
          refine wp_region_tab 14 [] (by kernel_rfl) (by kernel_rfl) (by kernel_rfl) trivial ?_
          replace x0 := held x0
          replace y0 := held y0
          refine rg_quiet rfl rfl rfl rfl ?_; intro K hK; go_big_quiet_op; go_big_quiet_on
          refine rg_quiet rfl rfl rfl rfl ?_; intro K hK; go_big_quiet_op; go_big_quiet_on
          refine rg_quiet rfl rfl rfl rfl ?_; intro K hK; go_big_quiet_op; go_big_quiet_on
          refine rg_quiet rfl rfl rfl rfl ?_; intro K hK; go_big_quiet_op; go_big_quiet_on
          refine rg_quiet rfl rfl rfl rfl ?_; intro K hK; go_big_quiet_op; go_big_quiet_on
          refine rg_quiet rfl rfl rfl rfl ?_; intro K hK; go_big_quiet_op; go_big_quiet_on
          refine rg_quiet rfl rfl rfl rfl ?_; intro K hK; go_big_quiet_op; go_big_quiet_on
          refine rg_quiet rfl rfl rfl rfl ?_; intro K hK; go_big_quiet_op; go_big_quiet_on
          refine rg_quiet rfl rfl rfl rfl ?_; intro K hK; go_big_quiet_op; go_big_quiet_on
          refine rg_quiet rfl rfl rfl rfl ?_; intro K hK; go_big_quiet_op; go_big_quiet_on
          refine rg_quiet rfl rfl rfl rfl ?_; intro K hK; go_big_quiet_op; go_big_quiet_on
          refine rg_quiet rfl rfl rfl rfl ?_; intro K hK; go_big_quiet_op; go_big_quiet_on
          refine rg_quiet rfl rfl rfl rfl ?_; intro K hK; go_big_quiet_op; go_big_quiet_on
          refine rg_quiet rfl rfl rfl rfl ?_; intro K hK; go_big_quiet_op; go_big_quiet_on
          refine rel_nil fun w5 hE5 _ => ?_
          clear x0 y0
          replace hin5 := hin5.ext hE5
          go_wp2_with (at_builtin; go_must (refine appRows w5 rfl (.const (.slice none 0 0)) (.tmp 25) rfl w5.heap.size (Nat.le_refl _) _ [] (World.ownsRow_nil _ _ _ _) (by rfl) _ P hin5 (by rfl) (by simp; omega) ?_); intro v6 w6 hown6 hg6; rw [List.nil_append] at hown6; obtain ⟨a6, c6, rfl⟩ := own_shape hown6)
          have hE56 : Ext w5 w6 := (Ext.refl w5).grown hg6 (fun q hq => by cases hq)
          have hEw6 : Ext w w6 := ((hE0.trans hE).trans hE5).trans hE56
          have hb6 := hb.ext (hE5.trans hE56)
          have x0 : w6.cell? ⟨w.heap.size, 0, none⟩ = some (.string r.key) := hb6.cell 0
          have y0 := (HAT.out.ext hEw6).c0
          clear hin5
          refine wp_region_tab 14 [] (by kernel_rfl) (by kernel_rfl) (by kernel_rfl) trivial ?_
          replace x0 := held x0
          replace y0 := held y0
          refine rg_quiet rfl rfl rfl rfl ?_; intro K hK; go_big_quiet_op; go_big_quiet_on
          refine rg_quiet rfl rfl rfl rfl ?_; intro K hK; go_big_quiet_op; go_big_quiet_on
          refine rg_quiet rfl rfl rfl rfl ?_; intro K hK; go_big_quiet_op; go_big_quiet_on
          refine rg_quiet rfl rfl rfl rfl ?_; intro K hK; go_big_quiet_op; go_big_quiet_on
          refine rg_quiet rfl rfl rfl rfl ?_; intro K hK; go_big_quiet_op; go_big_quiet_on
          refine rg_quiet rfl rfl rfl rfl ?_; intro K hK; go_big_quiet_op; go_big_quiet_on
          refine rg_quiet rfl rfl rfl rfl ?_; intro K hK; go_big_quiet_op; go_big_quiet_on
          refine rg_quiet rfl rfl rfl rfl ?_; intro K hK; go_big_quiet_op; go_big_quiet_on
          refine rg_quiet rfl rfl rfl rfl ?_; intro K hK; go_big_quiet_op; go_big_quiet_on
          refine rg_quiet rfl rfl rfl rfl ?_; intro K hK; go_big_quiet_op; go_big_quiet_on
          refine rg_quiet rfl rfl rfl rfl ?_; intro K hK; go_big_quiet_op; go_big_quiet_on
          refine rg_quiet rfl rfl rfl rfl ?_; intro K hK; go_big_quiet_op; go_big_quiet_on
          refine rg_quiet rfl rfl rfl rfl ?_; intro K hK; go_big_quiet_op; go_big_quiet_on
          refine rg_quiet rfl rfl rfl rfl ?_; intro K hK; go_big_quiet_op; go_big_quiet_on
          refine rel_nil fun w7 hE7 _ => ?_
          clear x0 y0
          have hb7 := hb6.ext hE7
          replace hown6 := ownsRow_ext hown6 hE7
          have hEw7 := hEw6.trans hE7
          have hPT : ∀ p ∈ P, ColsT w p.2 p.1.cols := fun p hp => h.typed p (List.mem_of_mem_take (by rw [HP.out] at hp; exact hp))
          have HPT := Lib.hid hPT
          clear hPT
          have hdT : ColsT w vd d.cols := by rw [HD.out, HVD.out]; exact h.typed _ (List.getElem_mem hkl)
          have hdl : d.cols.length + r.cols.length ≤ 300000 := by rw [HD.out]; exact HCL.out _ (List.getElem_mem hkl)
          obtain ⟨ad, cd, rfl⟩ := TIn.shape hdT
          obtain ⟨x0, x1, x2, x3, x4, x5, x6, x7⟩ := hb7.ro
          obtain ⟨y0, y1, y2, y3, y4, y5, y6, y7⟩ := HAT.out.ext hEw7
          obtain ⟨R, hR⟩ : ∃ R, R = foldRo d r := ⟨_, rfl⟩
          have HR := Lib.hid hR
          clear hR
          go_wp2_with fail
          refine wp_region_tab 8 [(6, fun v x => ∃ v', v = (.agg #[.string R.key, .string R.live.val, .bool R.live.dead, .int .i64 R.live.at_, .int .i64 R.live.fin, .int .i64 R.gone, .int .i64 R.shade, v']) ∧ ColsT x v' R.cols), (7, fun v x => ∃ v' b, v = .slice (some ⟨b, 0, none⟩) 1 1 ∧ BoxAt x b (ro8 R v') 54 ∧ ColsT x v' R.cols)] (by kernel_rfl) (by kernel_rfl) (by kernel_rfl) ⟨fun _ _ _ hE ⟨v', e, h⟩ => ⟨v', e, h.ext hE⟩, fun _ _ _ hE ⟨v', b, e, h, h'⟩ => ⟨v', b, e, h.ext hE, h'.ext hE⟩, trivial⟩ ?_
          replace x0 := held x0
          replace x1 := held x1
          replace x2 := held x2
          replace x3 := held x3
          replace x4 := held x4
          replace x5 := held x5
          replace x6 := held x6
          replace x7 := held x7
          replace y0 := held y0
          replace y1 := held y1
          replace y2 := held y2
          replace y3 := held y3
          replace y4 := held y4
          replace y5 := held y5
          replace y6 := held y6
          replace y7 := held y7
          refine rg_quiet rfl rfl rfl rfl ?_; intro K hK; go_big_quiet_op; go_big_quiet_on
          refine rg_quiet rfl rfl rfl rfl ?_; intro K hK; go_big_quiet_op; go_big_quiet_on
          refine rg_quiet rfl rfl rfl rfl ?_; intro K hK; go_big_quiet_op; go_big_quiet_on
          refine rg_quiet rfl rfl rfl rfl ?_; intro K hK; go_big_quiet_op; go_big_quiet_on
          refine rg_quiet rfl rfl rfl rfl ?_; intro K hK; go_big_quiet_op; go_big_quiet_on
          refine rg_quiet rfl rfl rfl rfl ?_; intro K hK; go_big_quiet_op; go_big_quiet_on
          refine rg_fact [] rfl rfl rfl (by kernel_rfl) (fun y hE hf => ?_) (fun v11 y11 hE11 hG11 h11 => ?_)
          · go_simp
            refine (join7_any d r _ _ y (hdT.ext (hEw7.trans hE)) (ColsIn.ext (hEw7.trans hE) hr) hdl).mono ?_
            rw [← HR.out]
            rintro e y' ⟨v', rfl, h1, h2⟩
            exact ⟨_, rfl, rg_doneR hE h2 ⟨v', rfl, h1⟩⟩
          obtain ⟨v11, rfl, h11⟩ := h11
          obtain ⟨a11, c11, rfl⟩ := TIn.shape h11
          clear hE11 hG11 h11
          simp only [Act.put, List.setIfInBounds_toArray, List.set_cons_zero, List.set_cons_succ]
          refine rg_fact [6] rfl rfl rfl (by kernel_rfl) (fun y hE hf => ?_) (fun v12 y12 hE12 hG12 h12 => ?_)
          · obtain ⟨v', e, h1⟩ := (hf 6 (by simp)).2 rfl
            cases e
            go_simp
            exact rg_doneR hE ((Ext.refl y).alloc _) ⟨_, _, rfl, BoxAt.made y _ _, h1.ext ((Ext.refl y).alloc _)⟩
          obtain ⟨v12, b12, rfl, _⟩ := h12
          clear hE12 hG12
          simp only [Act.put, List.setIfInBounds_toArray, List.set_cons_zero, List.set_cons_succ]
          refine rel_tail rfl rfl fun w8 hE8 hG => ?_
          obtain ⟨v12', b12', e12, hbx, hct8⟩ := (hG 7).2 rfl
          cases e12
          replace hown6 := ownsRow_ext hown6 hE8
          have hEw8 := hEw7.trans hE8
          have hrows8 := rows_one hbx hct8.cols
          have hB : w.heap.size + 1 ≤ w5.heap.size := by have := hb.lt; have := hE5.le; omega
          clear hG x0 x1 x2 x3 x4 x5 x6 x7 y0 y1 y2 y3 y4 y5 y6 y7 hbx
          go_wp2_with (first
            | ((guard_target =~ wpList _ _ _ (Oper.mk (some 49) _ _ _ _ _ :: _) _ _); at_builtin; go_must (refine appRows w8 rfl (.tmp 41) (.tmp 48) rfl w5.heap.size (Nat.le_trans hE56.le (Nat.le_trans hE7.le hE8.le)) _ P hown6 (by rfl) _ [(R, v12')] hrows8 (by rfl) (by simp; omega) ?_); intro v9 w9 hown9 hg9; obtain ⟨P2, hP2⟩ : ∃ P2, P2 = P ++ [(R, v12')] := ⟨_, rfl⟩; rw [← hP2] at hown9; have hPl2 : P2.length ≤ n + 1 := (by rw [hP2]; simp; omega); replace hP2 := Lib.hid hP2; obtain ⟨a9, c9, rfl⟩ := own_shape hown9; have hEw9 : Ext w w9 := hEw8.grown hg9 (fun q hq => by have := (hown6.lt q hq).1; omega); have hct9 : ColsT w9 v12' R.cols := TIn.keepOwn hown6 hg9 (by decide) hct8)
            | ((guard_target =~ wpList _ _ _ (Oper.mk (some 54) _ _ _ _ _ :: _) _ _); go_must (refine wpList_from rfl und_Rows (size := 8) (by kernel_rfl) (.tmp 51) (.tmp 53) rfl rfl rfl hlt ?_); simp only [Act.put, List.setIfInBounds_toArray, List.set_cons_zero, List.set_cons_succ])
            | ((guard_target =~ wpList _ _ _ (Oper.mk (some 55) _ _ _ _ _ :: _) _ _); at_builtin; go_must (refine appRows w9 rfl (.tmp 50) (.tmp 54) rfl w5.heap.size (Nat.le_trans hE56.le (Nat.le_trans (Nat.le_trans hE7.le hE8.le) hg9.size)) _ P2 hown9 (by rfl) _ (ps.drop (k + 1)) (rows_drop (RowsIn.ext hEw9 h.rows) hlt HN.out) (by rfl) (by have := HN.out; simp; omega) ?_); intro v10 w10 hown10 hg10; have hEw10 : Ext w w10 := hEw9.grown hg10 (fun q hq => by have := (hown9.lt q hq).1; omega); have hct10 : ColsT w10 v12' R.cols := TIn.keepOwn hown9 hg10 (by decide) hct9))
          go_ret
          refine ⟨_, rfl, P2 ++ ps.drop (k + 1), ⟨TIn.own hown10, fun p hp => ?_⟩, ?_, hEw10⟩
          · rw [hP2.out] at hp
            rcases List.mem_append.1 hp with hp | hp
            · rcases List.mem_append.1 hp with hp | hp
              · exact ColsT.ext hEw10 (HPT.out p hp)
              · rw [List.mem_singleton.1 hp]; exact hct10
            · exact ColsT.ext hEw10 (h.typed p (List.mem_of_mem_drop hp))
          · have hz : keyR ((ps.map (·.1))[k]'(by rw [List.length_map]; exact hkl)) r = 0 := by rw [List.getElem_map, ← HD.out]; exact (keyR_eq0 d r).2 heq
            have e := mergeG_hit (join := foldRo) r (ps.map (·.1)) k (by rw [List.length_map]; exact hkl) (fun j h hl => HKM.out j h hl) hz
            rw [e, hP2.out, HP.out, List.getElem_map, ← HD.out, ← HR.out, List.append_assoc, List.map_append, List.map_append, List.map_take, List.map_drop]
            rfl
        · have hef : (d.key.toList == r.key.toList) = false := by simpa using heq
          go_wp2_with fail
          refine wp_region_tab 14 [] (by kernel_rfl) (by kernel_rfl) (by kernel_rfl) trivial ?_
          replace x0 := held x0
          replace y0 := held y0
          refine rg_quiet rfl rfl rfl rfl ?_; intro K hK; go_big_quiet_op; go_big_quiet_on
          refine rg_quiet rfl rfl rfl rfl ?_; intro K hK; go_big_quiet_op; go_big_quiet_on
          refine rg_quiet rfl rfl rfl rfl ?_; intro K hK; go_big_quiet_op; go_big_quiet_on
          refine rg_quiet rfl rfl rfl rfl ?_; intro K hK; go_big_quiet_op; go_big_quiet_on
          refine rg_quiet rfl rfl rfl rfl ?_; intro K hK; go_big_quiet_op; go_big_quiet_on
          refine rg_quiet rfl rfl rfl rfl ?_; intro K hK; go_big_quiet_op; go_big_quiet_on
          refine rg_quiet rfl rfl rfl rfl ?_; intro K hK; go_big_quiet_op; go_big_quiet_on
          refine rg_quiet rfl rfl rfl rfl ?_; intro K hK; go_big_quiet_op; go_big_quiet_on
          refine rg_quiet rfl rfl rfl rfl ?_; intro K hK; go_big_quiet_op; go_big_quiet_on
          refine rg_quiet rfl rfl rfl rfl ?_; intro K hK; go_big_quiet_op; go_big_quiet_on
          refine rg_quiet rfl rfl rfl rfl ?_; intro K hK; go_big_quiet_op; go_big_quiet_on
          refine rg_quiet rfl rfl rfl rfl ?_; intro K hK; go_big_quiet_op; go_big_quiet_on
          refine rg_quiet rfl rfl rfl rfl ?_; intro K hK; go_big_quiet_op; go_big_quiet_on
          refine rg_quiet rfl rfl rfl rfl ?_; intro K hK; go_big_quiet_op; go_big_quiet_on
          refine rel_nil fun w5 hE5 _ => ?_
          clear x0 y0
          replace hin5 := hin5.ext hE5
          go_wp2_with (at_builtin; go_must (refine appRows w5 rfl (.const (.slice none 0 0)) (.tmp 25) rfl w5.heap.size (Nat.le_refl _) _ [] (World.ownsRow_nil _ _ _ _) (by rfl) _ P hin5 (by rfl) (by simp; omega) ?_); intro v6 w6 hown6 hg6; rw [List.nil_append] at hown6; obtain ⟨a6, c6, rfl⟩ := own_shape hown6)
          have hE56 : Ext w5 w6 := (Ext.refl w5).grown hg6 (fun q hq => by cases hq)
          have hEw6 : Ext w w6 := ((hE0.trans hE).trans hE5).trans hE56
          have hb6 := hb.ext (hE5.trans hE56)
          have x0 : w6.cell? ⟨w.heap.size, 0, none⟩ = some (.string r.key) := hb6.cell 0
          have y0 := (HAT.out.ext hEw6).c0
          clear hin5
          refine wp_region_tab 14 [] (by kernel_rfl) (by kernel_rfl) (by kernel_rfl) trivial ?_
          replace x0 := held x0
          replace y0 := held y0
          refine rg_quiet rfl rfl rfl rfl ?_; intro K hK; go_big_quiet_op; go_big_quiet_on
          refine rg_quiet rfl rfl rfl rfl ?_; intro K hK; go_big_quiet_op; go_big_quiet_on
          refine rg_quiet rfl rfl rfl rfl ?_; intro K hK; go_big_quiet_op; go_big_quiet_on
          refine rg_quiet rfl rfl rfl rfl ?_; intro K hK; go_big_quiet_op; go_big_quiet_on
          refine rg_quiet rfl rfl rfl rfl ?_; intro K hK; go_big_quiet_op; go_big_quiet_on
          refine rg_quiet rfl rfl rfl rfl ?_; intro K hK; go_big_quiet_op; go_big_quiet_on
          refine rg_quiet rfl rfl rfl rfl ?_; intro K hK; go_big_quiet_op; go_big_quiet_on
          refine rg_quiet rfl rfl rfl rfl ?_; intro K hK; go_big_quiet_op; go_big_quiet_on
          refine rg_quiet rfl rfl rfl rfl ?_; intro K hK; go_big_quiet_op; go_big_quiet_on
          refine rg_quiet rfl rfl rfl rfl ?_; intro K hK; go_big_quiet_op; go_big_quiet_on
          refine rg_quiet rfl rfl rfl rfl ?_; intro K hK; go_big_quiet_op; go_big_quiet_on
          refine rg_quiet rfl rfl rfl rfl ?_; intro K hK; go_big_quiet_op; go_big_quiet_on
          refine rg_quiet rfl rfl rfl rfl ?_; intro K hK; go_big_quiet_op; go_big_quiet_on
          refine rg_quiet rfl rfl rfl rfl ?_; intro K hK; go_big_quiet_op; go_big_quiet_on
          refine rel_nil fun w7 hE7 _ => ?_
          clear x0 y0
          have hb7 := hb6.ext hE7
          replace hown6 := ownsRow_ext hown6 hE7
          have hEw7 := hEw6.trans hE7
          have hPT : ∀ p ∈ P, ColsT w p.2 p.1.cols := fun p hp => h.typed p (List.mem_of_mem_take (by rw [HP.out] at hp; exact hp))
          have HPT := Lib.hid hPT
          clear hPT
          have hB : w.heap.size + 1 ≤ w5.heap.size := by have := hb.lt; have := hE5.le; omega
          have hlt6 := hown6.lt
          go_wp2_with fail
          refine wp_region_relE (PutR w w7.heap.size w5.heap.size r (.slice ar rn cr) (.slice a6 P.length c6) P) (RoE (.slice a6 P.length c6) w5.heap.size 4) (Tab.atE [(1, fun v _ => v = (.agg #[.string r.key, .string r.live.val, .bool r.live.dead, .int .i64 r.live.at_, .int .i64 r.live.fin, .int .i64 r.gone, .int .i64 r.shade, (.slice ar rn cr)])), (2, fun v x => ∃ v', v = (.agg #[.string r.key, .string r.live.val, .bool r.live.dead, .int .i64 r.live.at_, .int .i64 r.live.fin, .int .i64 r.gone, .int .i64 r.shade, v']) ∧ ColsT x v' r.cols), (3, fun v x => ∃ v' b, v = .slice (some ⟨b, 0, none⟩) 1 1 ∧ w7.heap.size ≤ b ∧ BoxAt x b (ro8 r v') 54 ∧ ColsT x v' r.cols), (4, fun v x => ∃ v', ColsT x v' r.cols ∧ x.ownsRow w5.heap.size 54 8 v (P.length + 1) (roCells (P ++ [(r, v')]))), (7, fun v _ => v = dropV (some ⟨b, o, none⟩) n cp k 8)])
            (Tab.staysE ⟨fun _ _ _ _ _ _ h => h, fun _ _ _ _ _ hR ⟨v', e, h1⟩ => ⟨v', e, RoE_cols hR h1⟩, fun _ _ _ _ _ hR ⟨v', b, e, hb, hx, h1⟩ => ⟨v', b, e, hb, RoE_far hlt6 hR hb hx, RoE_cols hR h1⟩, fun _ hj _ _ _ hR ⟨v', h1, h2⟩ => ⟨v', RoE_cols hR h1, ownsRow_ext h2 (RoE_off hj hR)⟩, fun _ _ _ _ _ _ h => h, trivial⟩)
            8 (by kernel_rfl) (by kernel_rfl) (by kernel_rfl) ⟨hEw7.trans (Ext.refl w7).drew, ownsRow_ext hown6 (Ext.refl w7).drew, hb7.ext (Ext.refl w7).drew, (Ext.refl w7).drew.le⟩ ?_
          refine relE_quiet rfl rfl rfl rfl ?_; intro K hK; go_big_quiet_op; (first | refine ⟨_, fun _ _ => rfl, hK _ ?_⟩ | refine hK _ ?_); clear hK K
          refine relE_val [] rfl rfl rfl (by kernel_rfl) (fun y hy hf => ?_) ?_
          · obtain ⟨z0, z1, z2, z3, z4, z5, z6, z7⟩ := hy.box.ro
            go_simp
            exact ⟨hy, RoE_ext (by decide) (Ext.refl y), rfl⟩
          simp only [Act.put, List.setIfInBounds_toArray, List.set_cons_zero, List.set_cons_succ]
          refine relE_fact [] rfl rfl rfl (by kernel_rfl) (fun y hy hf => ?_) (fun v11 y11 hC11 hG11 h11 => ?_)
          · go_simp
            refine (copyRow_any r _ y (ColsIn.ext hy.extw hr) (by omega)).mono ?_
            rintro e y' ⟨v', rfl, h1, h2⟩
            exact ⟨_, rfl, hy.ext h2, RoE_ext (by decide) h2, v', rfl, h1⟩
          obtain ⟨v11, rfl, h11⟩ := h11
          obtain ⟨a11, c11, rfl⟩ := TIn.shape h11
          clear hC11 hG11 h11
          simp only [Act.put, List.setIfInBounds_toArray, List.set_cons_zero, List.set_cons_succ]
          refine relE_fact [2] rfl rfl rfl (by kernel_rfl) (fun y hy hf => ?_) (fun v12 y12 hC12 hG12 h12 => ?_)
          · obtain ⟨v', e, h1⟩ := (hf 2 (by simp)).2 rfl
            cases e
            go_simp
            exact ⟨hy.ext ((Ext.refl y).alloc _), RoE_ext (by decide) ((Ext.refl y).alloc _), _, _, rfl, hy.size, BoxAt.made y _ _, h1.ext ((Ext.refl y).alloc _)⟩
          obtain ⟨v12, b12, rfl, _⟩ := h12
          clear hC12 hG12
          simp only [Act.put, List.setIfInBounds_toArray, List.set_cons_zero, List.set_cons_succ]
          refine relE_fact [3] rfl rfl rfl (by kernel_rfl) (fun y hy hf => ?_) (fun v13 y13 hC13 hG13 h13 => ?_)
          · obtain ⟨v', b', e, hb', hbox, h1⟩ := (hf 3 (by simp)).2 rfl
            cases e
            obtain ⟨av, cv, rfl⟩ := TIn.shape h1
            refine yields_append info_Row und_Rows rfl (by decide) (.tmp 56) (.tmp 59) rfl w5.heap.size (by have := hy.size; have := hE7.le; have := hE56.le; omega) _ P.length (roCells P) hy.own (by rfl) b12 1 1 (ro8 r (.slice av r.cols.length cv)).toList (by rfl) (by rfl) (fun j u hj => by rw [hbox.cell j]; simpa using hj) (by simp [ro8, Value.oneCell']) (by unfold maxLen; omega) (by omega) ?_
            intro v' y' hown' hg hkeep
            have HR : RoE (.slice a6 P.length c6) w5.heap.size 4 4 y y' := by unfold RoE; rw [if_pos rfl]; exact ⟨⟨_, _, hy.own⟩, hg⟩
            refine ⟨⟨hy.extw.grown hg (fun q hq => by have := (hy.own.lt q hq).1; omega), hkeep, hy.box.grown hg (fun e => by have := (hy.own.lt _ e.symm).1; omega), Nat.le_trans hy.size hg.size⟩, HR, _, RoE_cols HR h1, ?_⟩
            rw [roCells_append]
            exact hown'
          obtain ⟨vr9, _, h13⟩ := h13
          obtain ⟨a13, c13, rfl⟩ := own_shape h13
          clear hC13 hG13 h13
          simp only [Act.put, List.setIfInBounds_toArray, List.set_cons_zero, List.set_cons_succ]
          refine relE_quiet rfl rfl rfl rfl ?_; intro K hK; go_big_quiet_op; (first | refine ⟨_, fun _ _ => rfl, hK _ ?_⟩ | refine hK _ ?_); clear hK K
          refine relE_quiet rfl rfl rfl rfl ?_; intro K hK; go_big_quiet_op; (first | refine ⟨_, fun _ _ => rfl, hK _ ?_⟩ | refine hK _ ?_); clear hK K
          refine relE_val [] rfl rfl rfl (by kernel_rfl) (fun y hy hf => ?_) ?_
          · exact yields_from und_Rows (size := 8) (by kernel_rfl) (.tmp 61) (.tmp 62) rfl rfl rfl hk ⟨hy, RoE_ext (by decide) (Ext.refl y), rfl⟩
          simp only [Act.put, List.setIfInBounds_toArray, List.set_cons_zero, List.set_cons_succ]
          refine relE_tail rfl rfl fun w8 hC hG => ?_
          obtain ⟨vr', hct8, hown8⟩ := (hG 4).2 rfl
          obtain ⟨P2, hP2⟩ : ∃ P2, P2 = P ++ [(r, vr')] := ⟨_, rfl⟩
          have hPl2 : P2.length = P.length + 1 := by rw [hP2]; simp
          rw [← hP2, ← hPl2] at hown8
          rw [← hPl2]
          have HP2 := Lib.hid hP2
          have hsz8 := hC.size
          have hEw8 := hC.extw
          have hP3 : P2.length ≤ n + 1 := by omega
          clear hG hC hP2 hPl2
          go_wp2_with (at_builtin; go_must (refine appRows w8 rfl (.tmp 60) (.tmp 63) rfl w5.heap.size (by have := hE7.le; have := hE56.le; omega) _ P2 hown8 (by rfl) _ (ps.drop k) (rows_drop (RowsIn.ext hEw8 h.rows) hk HN.out) (by rfl) (by have := HN.out; simp; omega) ?_); intro v10 w10 hown10 hg10; have hEw10 : Ext w w10 := hEw8.grown hg10 (fun q hq => by have := (hown8.lt q hq).1; omega); have hct10 : ColsT w10 vr' r.cols := TIn.keepOwn hown8 hg10 (by decide) hct8)
          go_ret
          refine ⟨_, rfl, P2 ++ ps.drop k, ⟨TIn.own hown10, fun p hp => ?_⟩, ?_, hEw10⟩
          · rw [HP2.out] at hp
            rcases List.mem_append.1 hp with hp | hp
            · rcases List.mem_append.1 hp with hp | hp
              · exact ColsT.ext hEw10 (HPT.out p hp)
              · rw [List.mem_singleton.1 hp]; exact hct10
            · exact ColsT.ext hEw10 (h.typed p (List.mem_of_mem_drop hp))
          · have hz : 0 < keyR ((ps.map (·.1))[k]'(by rw [List.length_map]; exact hkl)) r := by
              rw [List.getElem_map, ← HD.out]
              have h1 := mt (keyR_less d r).1 (by rw [hlf]; decide)
              have h2 := mt (keyR_eq0 d r).1 (by rw [hef]; decide)
              omega
            have e := mergeG_new (join := foldRo) r (ps.map (·.1)) k (by rw [List.length_map]; exact hkl) (fun j h hl => HKM.out j h hl) hz
            rw [e, HP2.out, HP.out, List.append_assoc, List.map_append, List.map_append, List.map_take, List.map_drop]
            rfl
    · obtain rfl : k = n := by omega
      have hin5 := rows_take (RowsIn.ext (hE0.trans hE) h.rows) hk HN.out
      obtain ⟨P, hP⟩ : ∃ P, P = ps.take k := ⟨_, rfl⟩
      have hPl : P.length ≤ k := by rw [hP, List.length_take]; omega
      rw [← hP] at hin5
      have HP := Lib.hid hP
      clear hP
      go_wp2_with fail
      refine wp_region_tab 14 [] (by kernel_rfl) (by kernel_rfl) (by kernel_rfl) trivial ?_
      refine rg_quiet rfl rfl rfl rfl ?_; intro K hK; go_big_quiet_op; go_big_quiet_on
      refine rg_quiet rfl rfl rfl rfl ?_; intro K hK; go_big_quiet_op; go_big_quiet_on
      refine rg_quiet rfl rfl rfl rfl ?_; intro K hK; go_big_quiet_op; go_big_quiet_on
      refine rg_quiet rfl rfl rfl rfl ?_; intro K hK; go_big_quiet_op; go_big_quiet_on
      refine rg_quiet rfl rfl rfl rfl ?_; intro K hK; go_big_quiet_op; go_big_quiet_on
      refine rel_skip rfl rfl ?_
      simp only [Act.put, List.setIfInBounds_toArray, List.set_cons_zero, List.set_cons_succ]
      refine rel_skip rfl rfl ?_
      simp only [Act.put, List.setIfInBounds_toArray, List.set_cons_zero, List.set_cons_succ]
      refine rel_skip rfl rfl ?_
      simp only [Act.put, List.setIfInBounds_toArray, List.set_cons_zero, List.set_cons_succ]
      refine rel_skip rfl rfl ?_
      simp only [Act.put, List.setIfInBounds_toArray, List.set_cons_zero, List.set_cons_succ]
      refine rel_skip rfl rfl ?_
      simp only [Act.put, List.setIfInBounds_toArray, List.set_cons_zero, List.set_cons_succ]
      refine rel_skip rfl rfl ?_
      simp only [Act.put, List.setIfInBounds_toArray, List.set_cons_zero, List.set_cons_succ]
      refine rel_skip rfl rfl ?_
      simp only [Act.put, List.setIfInBounds_toArray, List.set_cons_zero, List.set_cons_succ]
      refine rel_skip rfl rfl ?_
      simp only [Act.put, List.setIfInBounds_toArray, List.set_cons_zero, List.set_cons_succ]
      refine rg_quiet rfl rfl rfl rfl ?_; intro K hK; go_big_quiet_op; go_big_quiet_on
      refine rel_nil fun w5 hE5 _ => ?_
      clear x0
      replace hin5 := hin5.ext hE5
      go_wp2_with (at_builtin; go_must (refine appRows w5 rfl (.const (.slice none 0 0)) (.tmp 25) rfl w5.heap.size (Nat.le_refl _) _ [] (World.ownsRow_nil _ _ _ _) (by rfl) _ P hin5 (by rfl) (by simp; omega) ?_); intro v6 w6 hown6 hg6; rw [List.nil_append] at hown6; obtain ⟨a6, c6, rfl⟩ := own_shape hown6)
      have hE56 : Ext w5 w6 := (Ext.refl w5).grown hg6 (fun q hq => by cases hq)
      have hEw6 : Ext w w6 := ((hE0.trans hE).trans hE5).trans hE56
      have hb6 := hb.ext (hE5.trans hE56)
      refine wp_region_tab 14 [] (by kernel_rfl) (by kernel_rfl) (by kernel_rfl) trivial ?_
      refine rg_quiet rfl rfl rfl rfl ?_; intro K hK; go_big_quiet_op; go_big_quiet_on
      refine rg_quiet rfl rfl rfl rfl ?_; intro K hK; go_big_quiet_op; go_big_quiet_on
      refine rg_quiet rfl rfl rfl rfl ?_; intro K hK; go_big_quiet_op; go_big_quiet_on
      refine rg_quiet rfl rfl rfl rfl ?_; intro K hK; go_big_quiet_op; go_big_quiet_on
      refine rg_quiet rfl rfl rfl rfl ?_; intro K hK; go_big_quiet_op; go_big_quiet_on
      refine rel_skip rfl rfl ?_
      simp only [Act.put, List.setIfInBounds_toArray, List.set_cons_zero, List.set_cons_succ]
      refine rel_skip rfl rfl ?_
      simp only [Act.put, List.setIfInBounds_toArray, List.set_cons_zero, List.set_cons_succ]
      refine rel_skip rfl rfl ?_
      simp only [Act.put, List.setIfInBounds_toArray, List.set_cons_zero, List.set_cons_succ]
      refine rel_skip rfl rfl ?_
      simp only [Act.put, List.setIfInBounds_toArray, List.set_cons_zero, List.set_cons_succ]
      refine rel_skip rfl rfl ?_
      simp only [Act.put, List.setIfInBounds_toArray, List.set_cons_zero, List.set_cons_succ]
      refine rel_skip rfl rfl ?_
      simp only [Act.put, List.setIfInBounds_toArray, List.set_cons_zero, List.set_cons_succ]
      refine rel_skip rfl rfl ?_
      simp only [Act.put, List.setIfInBounds_toArray, List.set_cons_zero, List.set_cons_succ]
      refine rel_skip rfl rfl ?_
      simp only [Act.put, List.setIfInBounds_toArray, List.set_cons_zero, List.set_cons_succ]
      refine rg_quiet rfl rfl rfl rfl ?_; intro K hK; go_big_quiet_op; go_big_quiet_on
      refine rel_nil fun w7 hE7 _ => ?_
      have hb7 := hb6.ext hE7
      replace hown6 := ownsRow_ext hown6 hE7
      have hEw7 := hEw6.trans hE7
      have hPT : ∀ p ∈ P, ColsT w p.2 p.1.cols := fun p hp => h.typed p (List.mem_of_mem_take (by rw [HP.out] at hp; exact hp))
      have HPT := Lib.hid hPT
      clear hPT
      have hB : w.heap.size + 1 ≤ w5.heap.size := by have := hb.lt; have := hE5.le; omega
      have hlt6 := hown6.lt
      go_wp2_with fail
      refine wp_region_relE (PutR w w7.heap.size w5.heap.size r (.slice ar rn cr) (.slice a6 P.length c6) P) (RoE (.slice a6 P.length c6) w5.heap.size 4) (Tab.atE [(1, fun v _ => v = (.agg #[.string r.key, .string r.live.val, .bool r.live.dead, .int .i64 r.live.at_, .int .i64 r.live.fin, .int .i64 r.gone, .int .i64 r.shade, (.slice ar rn cr)])), (2, fun v x => ∃ v', v = (.agg #[.string r.key, .string r.live.val, .bool r.live.dead, .int .i64 r.live.at_, .int .i64 r.live.fin, .int .i64 r.gone, .int .i64 r.shade, v']) ∧ ColsT x v' r.cols), (3, fun v x => ∃ v' b, v = .slice (some ⟨b, 0, none⟩) 1 1 ∧ w7.heap.size ≤ b ∧ BoxAt x b (ro8 r v') 54 ∧ ColsT x v' r.cols), (4, fun v x => ∃ v', ColsT x v' r.cols ∧ x.ownsRow w5.heap.size 54 8 v (P.length + 1) (roCells (P ++ [(r, v')]))), (7, fun v _ => v = dropV a k cp k 8)])
        (Tab.staysE ⟨fun _ _ _ _ _ _ h => h, fun _ _ _ _ _ hR ⟨v', e, h1⟩ => ⟨v', e, RoE_cols hR h1⟩, fun _ _ _ _ _ hR ⟨v', b, e, hb, hx, h1⟩ => ⟨v', b, e, hb, RoE_far hlt6 hR hb hx, RoE_cols hR h1⟩, fun _ hj _ _ _ hR ⟨v', h1, h2⟩ => ⟨v', RoE_cols hR h1, ownsRow_ext h2 (RoE_off hj hR)⟩, fun _ _ _ _ _ _ h => h, trivial⟩)
        8 (by kernel_rfl) (by kernel_rfl) (by kernel_rfl) ⟨hEw7.trans (Ext.refl w7).drew, ownsRow_ext hown6 (Ext.refl w7).drew, hb7.ext (Ext.refl w7).drew, (Ext.refl w7).drew.le⟩ ?_
      refine relE_quiet rfl rfl rfl rfl ?_; intro K hK; go_big_quiet_op; (first | refine ⟨_, fun _ _ => rfl, hK _ ?_⟩ | refine hK _ ?_); clear hK K
      refine relE_val [] rfl rfl rfl (by kernel_rfl) (fun y hy hf => ?_) ?_
      · obtain ⟨z0, z1, z2, z3, z4, z5, z6, z7⟩ := hy.box.ro
        go_simp
        exact ⟨hy, RoE_ext (by decide) (Ext.refl y), rfl⟩
      simp only [Act.put, List.setIfInBounds_toArray, List.set_cons_zero, List.set_cons_succ]
      refine relE_fact [] rfl rfl rfl (by kernel_rfl) (fun y hy hf => ?_) (fun v11 y11 hC11 hG11 h11 => ?_)
      · go_simp
        refine (copyRow_any r _ y (ColsIn.ext hy.extw hr) (by omega)).mono ?_
        rintro e y' ⟨v', rfl, h1, h2⟩
        exact ⟨_, rfl, hy.ext h2, RoE_ext (by decide) h2, v', rfl, h1⟩
      obtain ⟨v11, rfl, h11⟩ := h11
      obtain ⟨a11, c11, rfl⟩ := TIn.shape h11
      clear hC11 hG11 h11
      simp only [Act.put, List.setIfInBounds_toArray, List.set_cons_zero, List.set_cons_succ]
      refine relE_fact [2] rfl rfl rfl (by kernel_rfl) (fun y hy hf => ?_) (fun v12 y12 hC12 hG12 h12 => ?_)
      · obtain ⟨v', e, h1⟩ := (hf 2 (by simp)).2 rfl
        cases e
        go_simp
        exact ⟨hy.ext ((Ext.refl y).alloc _), RoE_ext (by decide) ((Ext.refl y).alloc _), _, _, rfl, hy.size, BoxAt.made y _ _, h1.ext ((Ext.refl y).alloc _)⟩
      obtain ⟨v12, b12, rfl, _⟩ := h12
      clear hC12 hG12
      simp only [Act.put, List.setIfInBounds_toArray, List.set_cons_zero, List.set_cons_succ]
      refine relE_fact [3] rfl rfl rfl (by kernel_rfl) (fun y hy hf => ?_) (fun v13 y13 hC13 hG13 h13 => ?_)
      · obtain ⟨v', b', e, hb', hbox, h1⟩ := (hf 3 (by simp)).2 rfl
        cases e
        obtain ⟨av, cv, rfl⟩ := TIn.shape h1
        refine yields_append info_Row und_Rows rfl (by decide) (.tmp 56) (.tmp 59) rfl w5.heap.size (by have := hy.size; have := hE7.le; have := hE56.le; omega) _ P.length (roCells P) hy.own (by rfl) b12 1 1 (ro8 r (.slice av r.cols.length cv)).toList (by rfl) (by rfl) (fun j u hj => by rw [hbox.cell j]; simpa using hj) (by simp [ro8, Value.oneCell']) (by unfold maxLen; omega) (by omega) ?_
        intro v' y' hown' hg hkeep
        have HR : RoE (.slice a6 P.length c6) w5.heap.size 4 4 y y' := by unfold RoE; rw [if_pos rfl]; exact ⟨⟨_, _, hy.own⟩, hg⟩
        refine ⟨⟨hy.extw.grown hg (fun q hq => by have := (hy.own.lt q hq).1; omega), hkeep, hy.box.grown hg (fun e => by have := (hy.own.lt _ e.symm).1; omega), Nat.le_trans hy.size hg.size⟩, HR, _, RoE_cols HR h1, ?_⟩
        rw [roCells_append]
        exact hown'
      obtain ⟨vr9, _, h13⟩ := h13
      obtain ⟨a13, c13, rfl⟩ := own_shape h13
      clear hC13 hG13 h13
      simp only [Act.put, List.setIfInBounds_toArray, List.set_cons_zero, List.set_cons_succ]
      refine relE_quiet rfl rfl rfl rfl ?_; intro K hK; go_big_quiet_op; (first | refine ⟨_, fun _ _ => rfl, hK _ ?_⟩ | refine hK _ ?_); clear hK K
      refine relE_quiet rfl rfl rfl rfl ?_; intro K hK; go_big_quiet_op; (first | refine ⟨_, fun _ _ => rfl, hK _ ?_⟩ | refine hK _ ?_); clear hK K
      refine relE_val [] rfl rfl rfl (by kernel_rfl) (fun y hy hf => ?_) ?_
      · exact yields_from und_Rows (size := 8) (by kernel_rfl) (.tmp 61) (.tmp 62) rfl rfl rfl (Nat.le_refl _) ⟨hy, RoE_ext (by decide) (Ext.refl y), rfl⟩
      simp only [Act.put, List.setIfInBounds_toArray, List.set_cons_zero, List.set_cons_succ]
      refine relE_tail rfl rfl fun w8 hC hG => ?_
      obtain ⟨vr', hct8, hown8⟩ := (hG 4).2 rfl
      obtain ⟨P2, hP2⟩ : ∃ P2, P2 = P ++ [(r, vr')] := ⟨_, rfl⟩
      have hPl2 : P2.length = P.length + 1 := by rw [hP2]; simp
      rw [← hP2, ← hPl2] at hown8
      rw [← hPl2]
      have HP2 := Lib.hid hP2
      have hsz8 := hC.size
      have hEw8 := hC.extw
      have hP3 : P2.length ≤ k + 1 := by omega
      clear hG hC hP2 hPl2
      go_wp2_with (at_builtin; go_must (refine appRows w8 rfl (.tmp 60) (.tmp 63) rfl w5.heap.size (by have := hE7.le; have := hE56.le; omega) _ P2 hown8 (by rfl) _ (ps.drop k) (rows_drop (RowsIn.ext hEw8 h.rows) (Nat.le_refl _) HN.out) (by rfl) (by have := HN.out; simp; omega) ?_); intro v10 w10 hown10 hg10; have hEw10 : Ext w w10 := hEw8.grown hg10 (fun q hq => by have := (hown8.lt q hq).1; omega); have hct10 : ColsT w10 vr' r.cols := TIn.keepOwn hown8 hg10 (by decide) hct8)
      go_ret
      refine ⟨_, rfl, P2 ++ ps.drop k, ⟨TIn.own hown10, fun p hp => ?_⟩, ?_, hEw10⟩
      · rw [HP2.out] at hp
        rcases List.mem_append.1 hp with hp | hp
        · rcases List.mem_append.1 hp with hp | hp
          · exact ColsT.ext hEw10 (HPT.out p hp)
          · rw [List.mem_singleton.1 hp]; exact hct10
        · exact ColsT.ext hEw10 (h.typed p (List.mem_of_mem_drop hp))
      · have e := mergeG_end (cmp := keyR) (join := foldRo) r (ps.map (·.1)) (fun j hl => HKM.out j (by rw [HN.out]; rwa [List.length_map] at hl) hl)
        rw [e, HP2.out, HP.out, List.take_of_length_le (by rw [HN.out]; exact Nat.le_refl _), List.drop_of_length_le (by rw [HN.out]; exact Nat.le_refl _), List.append_nil, List.map_append]
        rfl
end Go.Proofs.YtolkhjdododdaaaGreat

/- row.Join's two closures over columns: which comes first, what two are together. -/
namespace Go.Proofs.YtolkhjdododdaaaGreat
open Go Go.RowKit
attribute [local go_sem] yields yUpon co5
set_option maxHeartbeats 1000000 in
theorem rj1_any (a b : Co) (w : World) : Calls Tryz.prog 49 #[(.agg #[.string a.name, .string a.cell.val, .bool a.cell.dead, .int .i64 a.cell.at_, .int .i64 a.cell.fin]), (.agg #[.string b.name, .string b.cell.val, .bool b.cell.dead, .int .i64 b.cell.at_, .int .i64 b.cell.fin])] w fun e w' => e = .returned (.int .i64 (keyC a b)) ∧ Ext w w' := by
  go_enter Tryz.func49, Tryz.ntmps49
  go_wp2_with fail
  refine (strCompare_any _ _ _).mono ?_
  rintro e w1 ⟨rfl, rfl⟩
  go_wp2_with fail
  go_ret
  exact ⟨rfl, ((Ext.refl w).alloc _).alloc _⟩

set_option maxRecDepth 100000 in
set_option maxHeartbeats 2000000 in
theorem rj2_any (a b : Co) (w : World) : Calls Tryz.prog 51 #[(.agg #[.string a.name, .string a.cell.val, .bool a.cell.dead, .int .i64 a.cell.at_, .int .i64 a.cell.fin]), (.agg #[.string b.name, .string b.cell.val, .bool b.cell.dead, .int .i64 b.cell.at_, .int .i64 b.cell.fin])] w fun e w' => e = .returned (.agg #[.string a.name, .string (joinCl a.cell b.cell).val, .bool (joinCl a.cell b.cell).dead, .int .i64 (joinCl a.cell b.cell).at_, .int .i64 (joinCl a.cell b.cell).fin]) ∧ Ext w w' := by
  obtain ⟨a0, a1, a2, hE⟩ := boxes3 w (co5 a) (co5 b) (co5 ⟨⟨#[]⟩, zeroCl⟩) 57 57 57
  obtain ⟨c, hc⟩ : ∃ c, c = joinCl a.cell b.cell := ⟨_, rfl⟩
  rw [← hc]
  have Hc := Lib.hid hc
  clear hc
  go_enter Tryz.func51, Tryz.ntmps51
  go_wp2_with fail
  refine wp_region_in 8 [(6, fun v _ => v = (.agg #[.string c.val, .bool c.dead, .int .i64 c.at_, .int .i64 c.fin]))] (fun w0 => BoxAt w0 w.heap.size (co5 a) 57 ∧ BoxAt w0 (w.heap.size + 1) (co5 b) 57 ∧ BoxAt w0 (w.heap.size + 1 + 1) (co5 ⟨⟨#[]⟩, zeroCl⟩) 57 ∧ Ext w w0) (by kernel_rfl) (by kernel_rfl) (by kernel_rfl) ⟨stays_eq _, trivial⟩ ⟨a0, a1, a2, hE⟩ ?_
  clear a0 a1 a2 hE
  rintro w2 ⟨c0, c1, c2, hE⟩
  have FIN : Hid (∀ wx, Ext w2 wx → BoxAt wx (w.heap.size + 1 + 1) (co5 ⟨⟨#[]⟩, zeroCl⟩) 57 ∧ Ext w wx) := fun wx h => ⟨c2.ext h, hE.trans h⟩
  obtain ⟨x0, x1, x2, x3, x4⟩ := c0.co
  obtain ⟨y0, y1, y2, y3, y4⟩ := c1.co
  clear c0 c1 c2 hE
  replace x0 := held x0
  replace x1 := held x1
  replace x2 := held x2
  replace x3 := held x3
  replace x4 := held x4
  replace y1 := held y1
  replace y2 := held y2
  replace y3 := held y3
  replace y4 := held y4
  clear y0
  refine rg_quiet rfl rfl rfl rfl ?_; intro K hK; go_big_quiet_op; go_big_quiet_on
  refine rg_quiet rfl rfl rfl rfl ?_; intro K hK; go_big_quiet_op; go_big_quiet_on
  refine rg_quiet rfl rfl rfl rfl ?_; intro K hK; go_big_quiet_op; go_big_quiet_on
  refine rg_quiet rfl rfl rfl rfl ?_; intro K hK; go_big_quiet_op; go_big_quiet_on
  refine rg_quiet rfl rfl rfl rfl ?_; intro K hK; go_big_quiet_op; go_big_quiet_on
  refine rg_quiet rfl rfl rfl rfl ?_; intro K hK; go_big_quiet_op; go_big_quiet_on
  refine rg_val [] rfl rfl rfl (by kernel_rfl) (fun w1 hE hf => ?_) ?_
  · go_simp
    exact (join_c a.cell.val a.cell.dead a.cell.at_ a.cell.fin b.cell.val b.cell.dead b.cell.at_ b.cell.fin w1).mono fun e w' ⟨he, hw⟩ => ⟨_, he, rg_done hE hw (by rw [Hc.out])⟩
  simp only [Act.put, List.setIfInBounds_toArray, List.set_cons_zero, List.set_cons_succ]
  refine rg_quiet rfl rfl rfl rfl ?_; intro K hK; go_big_quiet_op; go_big_quiet_on
  refine rel_tail rfl rfl fun w5 hE5 hG => ?_
  obtain ⟨c2, hE⟩ := FIN.out w5 hE5
  clear x0 x1 x2 x3 x4 y1 y2 y3 y4 hE5 hG FIN
  go_wp2_with ((guard_target =~ wpList _ _ _ (Oper.mk none (Op.store _ (Operand.tmp 4) (Operand.tmp 12)) _ _ _ _ :: _) _ _); go_must (refine storeBox rfl 57 (.tmp 4) (.tmp 12) rfl (w.heap.size + 1 + 1) _ _ _ (by rfl) (by rfl) (c2) (by kernel_rfl) (by rfl) (by simp [Value.oneCell']) ?_); intro w6 c6 g6)
  have hX6 := hE.grown g6 (fun q hq => by cases hq; omega)
  clear hE g6 c2
  obtain ⟨z0, z1, z2, z3, z4⟩ := c6.co (c := ⟨a.name, c⟩)
  refine bodyPost_ret (v := .agg #[.string a.name, .string c.val, .bool c.dead, .int .i64 c.at_, .int .i64 c.fin]) ?_ rfl ⟨rfl, hX6⟩
  simp [results, Tryz.results51, go_sem, Act.put, z0, z1, z2, z3, z4]
end Go.Proofs.YtolkhjdododdaaaGreat

/- row.Merge over columns. -/
namespace Go.Proofs.YtolkhjdododdaaaGreat
open Go Go.RowKit
attribute [local go_sem] yields yUpon co5
set_option maxRecDepth 100000 in
set_option maxHeartbeats 4000000 in
theorem mergeCo_any (va vb : Value) (la lb : List Co) (w : World) (ha : ColsIn w va la) (hb : ColsIn w vb lb) (hlen : la.length + lb.length ≤ 1000000) :
    Calls Tryz.prog 48 #[va, vb, .func (.func 49) #[] #[], .func (.func 51) #[] #[]] w fun e w' => ∃ v', e = .returned v' ∧ w'.ownsRow w.heap.size 57 5 v' (mergeCo la lb).length (coCells (mergeCo la lb)) ∧ Ext w w' := by
  obtain ⟨i0, hi, hz0, hz1, hz2⟩ := info_parts info_Col
  obtain ⟨aa, ca, rfl, hca, hcma, _⟩ := ha.get
  obtain ⟨ab, cb, rfl, hcb, hcmb, _⟩ := hb.get
  go_enter Tryz.func48, Tryz.ntmps48
  go_wp2_with (at_make; go_must (refine wpList_make_own _ rfl _ _ 52 rfl w.heap.size 57 i0 _ 5 und_Cols hi hz0 hz1 _ _ _ (la.length + lb.length) rfl rfl (by omega) ?b2 ?b3 (Nat.le_refl _) ?_))
  case b2 => rw [hz2]; omega
  case b3 => unfold maxLen; omega
  intro w0 hown0 hgrow0
  go_wp2
  go_loopw [0, 1, 9] (fun sa sb so wr => ∃ (l m out : List Co), ColsIn w sa l ∧ ColsIn w sb m ∧ wr.ownsRow w.heap.size 57 5 so out.length (coCells out) ∧ Ext w wr ∧ Hid (mergeCo la lb = out ++ mergeCo l m) ∧ out.length + l.length + m.length ≤ la.length + lb.length) (fun sa sb _ _ => lenOf sa + lenOf sb)
  case atStart => exact ⟨la, lb, [], ha, hb, hown0, (Ext.refl w).grown hgrow0 (fun q hq => by cases hq), rfl, by simp⟩
  case round =>
    obtain ⟨l, m, out, hl, hm, hown, hE, HM, hsum⟩ := hrel
    by_cases h1 : 0 < l.length
    · by_cases h2 : 0 < m.length
      · obtain ⟨b1, o1, c1, A, l', hll, rfl, hc1, hcm1, hA, hl'⟩ := hl.uncons h1
        obtain ⟨b2, o2, c2, B, m', hmm, rfl, hc2, hcm2, hB, hm'⟩ := hm.uncons h2
        have h1' : decide ((0 : Int) < (l.length : Int)) = true := decide_eq_true (by omega)
        have h2' : decide ((0 : Int) < (m.length : Int)) = true := decide_eq_true (by omega)
        have HL := Lib.hid hll
        have HN := Lib.hid hmm
        clear hll hmm
        go_wp2_with fail
        refine wp_region_in 9 [(7, fun v _ => v = .int .i64 (keyC A B))] (fun x => Ext w x ∧ wr.heap.size ≤ x.heap.size ∧ x.ownsRow w.heap.size 57 5 u9 out.length (coCells out)) (by kernel_rfl) (by kernel_rfl) (by kernel_rfl) ⟨stays_eq _, trivial⟩ ⟨hE, Nat.le_refl _, hown⟩ ?_
        clear hE
        rintro w1 ⟨hE, hle, hown1⟩
        have FIN : Hid (∀ wx, Ext w1 wx → Ext w wx ∧ wr.heap.size ≤ wx.heap.size ∧ wx.ownsRow w.heap.size 57 5 u9 out.length (coCells out)) := fun wx h => ⟨hE.trans h, Nat.le_trans hle h.le, ownsRow_ext hown1 h⟩
        obtain ⟨x0, x1, x2, x3, x4⟩ := hA.ext hE
        obtain ⟨y0, y1, y2, y3, y4⟩ := hB.ext hE
        replace x0 := held x0
        replace x1 := held x1
        replace x2 := held x2
        replace x3 := held x3
        replace x4 := held x4
        replace y0 := held y0
        replace y1 := held y1
        replace y2 := held y2
        replace y3 := held y3
        replace y4 := held y4
        clear hE hle hown1
        refine rg_quiet rfl rfl rfl rfl ?_; intro K hK; go_big_quiet_op; go_big_quiet_on
        refine rg_quiet rfl rfl rfl rfl ?_; intro K hK; go_big_quiet_op; go_big_quiet_on
        refine rg_quiet rfl rfl rfl rfl ?_; intro K hK; go_big_quiet_op; go_big_quiet_on
        refine rg_quiet rfl rfl rfl rfl ?_; intro K hK; go_big_quiet_op; go_big_quiet_on
        refine rg_quiet rfl rfl rfl rfl ?_; intro K hK; go_big_quiet_op; go_big_quiet_on
        refine rg_quiet rfl rfl rfl rfl ?_; intro K hK; go_big_quiet_op; go_big_quiet_on
        refine rg_quiet rfl rfl rfl rfl ?_; intro K hK; go_big_quiet_op; go_big_quiet_on
        refine rg_val [] rfl rfl rfl (by kernel_rfl) (fun w1 hE hf => ?_) ?_
        · go_simp
          exact (rj1_any A B w1).mono fun e w' ⟨he, hw⟩ => ⟨_, he, rg_done hE hw (rfl)⟩
        simp only [Act.put, List.setIfInBounds_toArray, List.set_cons_zero, List.set_cons_succ]
        refine rg_quiet rfl rfl rfl rfl ?_; intro K hK; go_big_quiet_op; go_big_quiet_on
        refine rel_nil fun w2 hE2 _ => ?_
        obtain ⟨hE2', hle, hown2⟩ := FIN.out w2 hE2
        clear x0 x1 x2 x3 x4 y0 y1 y2 y3 y4 FIN hE2
        have hE2 := hE2'
        clear hE2'
        obtain ⟨kc, hkc⟩ : ∃ kc, kc = keyC A B := ⟨_, rfl⟩
        rw [← hkc]
        have HK := Lib.hid hkc
        clear hkc
        have hsz2 : wr.heap.size ≤ w2.heap.size := hle
        by_cases k1 : kc < 0
        · go_wp2_with fail
          refine wp_region_relE (MC w wr u9 out) (ME u9 5) (Tab.atE [(3, fun v _ => v = (.agg #[.string A.name, .string A.cell.val, .bool A.cell.dead, .int .i64 A.cell.at_, .int .i64 A.cell.fin])), (4, fun v x => ∃ b, v = .slice (some ⟨b, 0, none⟩) 1 1 ∧ wr.heap.size ≤ b ∧ BoxAt x b (co5 A) 57), (5, fun v x => x.ownsRow w.heap.size 57 5 v (out.length + 1) (coCells (out ++ [A])))])
            (Tab.staysE ⟨fun _ _ _ _ _ _ h => h, fun j _ v x y hR ⟨b, e, hb, hx⟩ => ⟨b, e, hb, ME_box hown hR hb hx⟩, fun j hj v x y hR h => ownsRow_ext h (ME_off hj hR), trivial⟩)
            12 (by kernel_rfl) (by kernel_rfl) (by kernel_rfl) ((⟨hE2, hown2, hsz2⟩ : MC w wr u9 out w2).ext' (Ext.refl w2).drew) ?_
          refine relE_quiet rfl rfl rfl rfl ?_; intro K hK; go_big_quiet_op; (first | refine ⟨_, fun _ _ => rfl, hK _ ?_⟩ | refine hK _ ?_); clear hK K
          refine relE_quiet rfl rfl rfl rfl ?_; intro K hK; go_big_quiet_op; (first | refine ⟨_, fun _ _ => rfl, hK _ ?_⟩ | refine hK _ ?_); clear hK K
          refine relE_quiet rfl rfl rfl rfl ?_; intro K hK; go_big_quiet_op; (first | refine ⟨_, fun _ _ => rfl, hK _ ?_⟩ | refine hK _ ?_); clear hK K
          refine relE_val [] rfl rfl rfl (by kernel_rfl) (fun z hz hf => ?_) ?_
          · obtain ⟨x0, x1, x2, x3, x4⟩ := hA.ext hz.ext
            go_simp
            exact ⟨hz, ME_ext (Ext.refl z), rfl⟩
          simp only [Act.put, List.setIfInBounds_toArray, List.set_cons_zero, List.set_cons_succ]
          refine relE_fact [] rfl rfl rfl (by kernel_rfl) (fun z hz hf => ?_) (fun v4 z4 hC4 hG4 h4 => ?_)
          · go_simp
            exact ⟨hz.ext' ((Ext.refl z).alloc _), ME_ext ((Ext.refl z).alloc _), _, rfl, hz.size, BoxAt.made z _ _⟩
          obtain ⟨b4, rfl, hb4, _⟩ := h4
          have HB4 := Lib.hid hb4
          clear hC4 hG4 hb4
          simp only [Act.put, List.setIfInBounds_toArray, List.set_cons_zero, List.set_cons_succ]
          refine relE_fact [4] rfl rfl rfl (by kernel_rfl) (fun z hz hf => ?_) (fun v5 z5 hC5 hG5 h5 => ?_)
          · obtain ⟨b, e, _, hbox⟩ := (hf 4 (by simp)).2 rfl
            cases e
            refine yields_append info_Col und_Cols rfl (by decide) (.tmp 51) (.tmp 55) rfl w.heap.size hz.ext.le u9 out.length (coCells out) hz.own (by rfl) b4 1 1 (co5 A).toList (by rfl) (by rfl) (fun j u hj => by rw [hbox.cell j]; simpa using hj) (by simp [co5, Value.oneCell']) (by unfold maxLen; omega) (by omega) ?_
            intro v' y hown' hg hkeep
            refine ⟨⟨hz.ext.grown hg (fun q hq => (hz.own.lt q hq).1), hkeep, Nat.le_trans hz.size hg.size⟩, by unfold ME; rw [if_pos rfl]; exact hg, ?_⟩
            rw [coCells_append]
            exact hown'
          obtain ⟨a5, c5, rfl⟩ := own_shape h5
          clear hC5 hG5 h5
          simp only [Act.put, List.setIfInBounds_toArray, List.set_cons_zero, List.set_cons_succ]
          refine relE_quiet rfl rfl rfl rfl ?_; intro K hK; go_big_quiet_op; (first | refine ⟨_, fun _ _ => rfl, hK _ ?_⟩ | refine hK _ ?_); clear hK K
          refine relE_quiet rfl rfl rfl rfl ?_; intro K hK; go_big_quiet_op; (first | refine ⟨_, fun _ _ => rfl, hK _ ?_⟩ | refine hK _ ?_); clear hK K
          refine relE_quiet rfl rfl rfl rfl ?_; intro K hK; go_big_quiet_op; (first | refine ⟨_, fun _ _ => rfl, hK _ ?_⟩ | refine hK _ ?_); clear hK K
          refine relE_quiet rfl rfl rfl rfl ?_; intro K hK; go_big_quiet_op; (first | refine ⟨_, fun _ _ => rfl, hK _ ?_⟩ | refine hK _ ?_); clear hK K
          refine relE_nil fun w9 hC hG => ?_
          have hown9 := (hG 5).2 rfl
          have hE9 := hC.ext
          clear hC hG HB4 hown hE2 hown2 hsz2
          go_wp2_with fail
          go_roundw
          case rel =>
            refine ⟨l', m, out ++ [A], hl', hm, by rw [List.length_append]; exact hown9, hE9, ?_, by have := congrArg List.length HL.out; simp at this ⊢; omega⟩
            show mergeCo la lb = _
            rw [HM.out, HL.out, HN.out, List.append_assoc]
            unfold mergeCo
            rw [mergeG_lt (by rw [← HK.out]; exact k1)]
            rfl
          case measure => simp [lenOf] <;> omega
        · by_cases k2 : 0 < kc
          · go_wp2_with fail
            refine wp_region_relE (MC w wr u9 out) (ME u9 5) (Tab.atE [(3, fun v _ => v = (.agg #[.string B.name, .string B.cell.val, .bool B.cell.dead, .int .i64 B.cell.at_, .int .i64 B.cell.fin])), (4, fun v x => ∃ b, v = .slice (some ⟨b, 0, none⟩) 1 1 ∧ wr.heap.size ≤ b ∧ BoxAt x b (co5 B) 57), (5, fun v x => x.ownsRow w.heap.size 57 5 v (out.length + 1) (coCells (out ++ [B])))])
              (Tab.staysE ⟨fun _ _ _ _ _ _ h => h, fun j _ v x y hR ⟨b, e, hb, hx⟩ => ⟨b, e, hb, ME_box hown hR hb hx⟩, fun j hj v x y hR h => ownsRow_ext h (ME_off hj hR), trivial⟩)
              12 (by kernel_rfl) (by kernel_rfl) (by kernel_rfl) ((⟨hE2, hown2, hsz2⟩ : MC w wr u9 out w2).ext' (Ext.refl w2).drew) ?_
            refine relE_quiet rfl rfl rfl rfl ?_; intro K hK; go_big_quiet_op; (first | refine ⟨_, fun _ _ => rfl, hK _ ?_⟩ | refine hK _ ?_); clear hK K
            refine relE_quiet rfl rfl rfl rfl ?_; intro K hK; go_big_quiet_op; (first | refine ⟨_, fun _ _ => rfl, hK _ ?_⟩ | refine hK _ ?_); clear hK K
            refine relE_quiet rfl rfl rfl rfl ?_; intro K hK; go_big_quiet_op; (first | refine ⟨_, fun _ _ => rfl, hK _ ?_⟩ | refine hK _ ?_); clear hK K
            refine relE_val [] rfl rfl rfl (by kernel_rfl) (fun z hz hf => ?_) ?_
            · obtain ⟨x0, x1, x2, x3, x4⟩ := hB.ext hz.ext
              go_simp
              exact ⟨hz, ME_ext (Ext.refl z), rfl⟩
            simp only [Act.put, List.setIfInBounds_toArray, List.set_cons_zero, List.set_cons_succ]
            refine relE_fact [] rfl rfl rfl (by kernel_rfl) (fun z hz hf => ?_) (fun v4 z4 hC4 hG4 h4 => ?_)
            · go_simp
              exact ⟨hz.ext' ((Ext.refl z).alloc _), ME_ext ((Ext.refl z).alloc _), _, rfl, hz.size, BoxAt.made z _ _⟩
            obtain ⟨b4, rfl, hb4, _⟩ := h4
            have HB4 := Lib.hid hb4
            clear hC4 hG4 hb4
            simp only [Act.put, List.setIfInBounds_toArray, List.set_cons_zero, List.set_cons_succ]
            refine relE_fact [4] rfl rfl rfl (by kernel_rfl) (fun z hz hf => ?_) (fun v5 z5 hC5 hG5 h5 => ?_)
            · obtain ⟨b, e, _, hbox⟩ := (hf 4 (by simp)).2 rfl
              cases e
              refine yields_append info_Col und_Cols rfl (by decide) (.tmp 62) (.tmp 66) rfl w.heap.size hz.ext.le u9 out.length (coCells out) hz.own (by rfl) b4 1 1 (co5 B).toList (by rfl) (by rfl) (fun j u hj => by rw [hbox.cell j]; simpa using hj) (by simp [co5, Value.oneCell']) (by unfold maxLen; omega) (by omega) ?_
              intro v' y hown' hg hkeep
              refine ⟨⟨hz.ext.grown hg (fun q hq => (hz.own.lt q hq).1), hkeep, Nat.le_trans hz.size hg.size⟩, by unfold ME; rw [if_pos rfl]; exact hg, ?_⟩
              rw [coCells_append]
              exact hown'
            obtain ⟨a5, c5, rfl⟩ := own_shape h5
            clear hC5 hG5 h5
            simp only [Act.put, List.setIfInBounds_toArray, List.set_cons_zero, List.set_cons_succ]
            refine relE_quiet rfl rfl rfl rfl ?_; intro K hK; go_big_quiet_op; (first | refine ⟨_, fun _ _ => rfl, hK _ ?_⟩ | refine hK _ ?_); clear hK K
            refine relE_quiet rfl rfl rfl rfl ?_; intro K hK; go_big_quiet_op; (first | refine ⟨_, fun _ _ => rfl, hK _ ?_⟩ | refine hK _ ?_); clear hK K
            refine relE_quiet rfl rfl rfl rfl ?_; intro K hK; go_big_quiet_op; (first | refine ⟨_, fun _ _ => rfl, hK _ ?_⟩ | refine hK _ ?_); clear hK K
            refine relE_quiet rfl rfl rfl rfl ?_; intro K hK; go_big_quiet_op; (first | refine ⟨_, fun _ _ => rfl, hK _ ?_⟩ | refine hK _ ?_); clear hK K
            refine relE_nil fun w9 hC hG => ?_
            have hown9 := (hG 5).2 rfl
            have hE9 := hC.ext
            clear hC hG HB4 hown hE2 hown2 hsz2
            go_wp2_with fail
            go_roundw
            case rel =>
              refine ⟨l, m', out ++ [B], hl, hm', by rw [List.length_append]; exact hown9, hE9, ?_, by have := congrArg List.length HN.out; simp at this ⊢; omega⟩
              show mergeCo la lb = _
              rw [HM.out, HL.out, HN.out, List.append_assoc]
              unfold mergeCo
              rw [mergeG_gt (by rw [← HK.out]; exact k2)]
              rfl
            case measure => simp [lenOf] <;> omega
          · obtain ⟨J, hJ⟩ : ∃ J, J = joinCo A B := ⟨_, rfl⟩
            have HJ := Lib.hid hJ
            clear hJ
            go_wp2_with fail
            refine wp_region_relE (MC w wr u9 out) (ME u9 10) (Tab.atE [(4, fun v _ => v = (.agg #[.string A.name, .string A.cell.val, .bool A.cell.dead, .int .i64 A.cell.at_, .int .i64 A.cell.fin])), (7, fun v _ => v = (.agg #[.string B.name, .string B.cell.val, .bool B.cell.dead, .int .i64 B.cell.at_, .int .i64 B.cell.fin])), (8, fun v _ => v = (.agg #[.string J.name, .string J.cell.val, .bool J.cell.dead, .int .i64 J.cell.at_, .int .i64 J.cell.fin])), (9, fun v x => ∃ b, v = .slice (some ⟨b, 0, none⟩) 1 1 ∧ wr.heap.size ≤ b ∧ BoxAt x b (co5 J) 57), (10, fun v x => x.ownsRow w.heap.size 57 5 v (out.length + 1) (coCells (out ++ [J])))])
              (Tab.staysE ⟨fun _ _ _ _ _ _ h => h, fun _ _ _ _ _ _ h => h, fun _ _ _ _ _ _ h => h, fun j _ v x y hR ⟨b, e, hb, hx⟩ => ⟨b, e, hb, ME_box hown hR hb hx⟩, fun j hj v x y hR h => ownsRow_ext h (ME_off hj hR), trivial⟩)
              20 (by kernel_rfl) (by kernel_rfl) (by kernel_rfl) ((⟨hE2, hown2, hsz2⟩ : MC w wr u9 out w2).ext' (Ext.refl w2).drew) ?_
            refine relE_quiet rfl rfl rfl rfl ?_; intro K hK; go_big_quiet_op; (first | refine ⟨_, fun _ _ => rfl, hK _ ?_⟩ | refine hK _ ?_); clear hK K
            refine relE_quiet rfl rfl rfl rfl ?_; intro K hK; go_big_quiet_op; (first | refine ⟨_, fun _ _ => rfl, hK _ ?_⟩ | refine hK _ ?_); clear hK K
            refine relE_quiet rfl rfl rfl rfl ?_; intro K hK; go_big_quiet_op; (first | refine ⟨_, fun _ _ => rfl, hK _ ?_⟩ | refine hK _ ?_); clear hK K
            refine relE_quiet rfl rfl rfl rfl ?_; intro K hK; go_big_quiet_op; (first | refine ⟨_, fun _ _ => rfl, hK _ ?_⟩ | refine hK _ ?_); clear hK K
            refine relE_val [] rfl rfl rfl (by kernel_rfl) (fun z hz hf => ?_) ?_
            · obtain ⟨x0, x1, x2, x3, x4⟩ := hA.ext hz.ext
              go_simp
              exact ⟨hz, ME_ext (Ext.refl z), rfl⟩
            simp only [Act.put, List.setIfInBounds_toArray, List.set_cons_zero, List.set_cons_succ]
            refine relE_quiet rfl rfl rfl rfl ?_; intro K hK; go_big_quiet_op; (first | refine ⟨_, fun _ _ => rfl, hK _ ?_⟩ | refine hK _ ?_); clear hK K
            refine relE_quiet rfl rfl rfl rfl ?_; intro K hK; go_big_quiet_op; (first | refine ⟨_, fun _ _ => rfl, hK _ ?_⟩ | refine hK _ ?_); clear hK K
            refine relE_val [] rfl rfl rfl (by kernel_rfl) (fun z hz hf => ?_) ?_
            · obtain ⟨x0, x1, x2, x3, x4⟩ := hB.ext hz.ext
              go_simp
              exact ⟨hz, ME_ext (Ext.refl z), rfl⟩
            simp only [Act.put, List.setIfInBounds_toArray, List.set_cons_zero, List.set_cons_succ]
            refine relE_val [] rfl rfl rfl (by kernel_rfl) (fun z hz hf => ?_) ?_
            · go_simp
              exact (rj2_any A B z).mono fun e y ⟨he, hy⟩ => ⟨_, he, hz.ext' hy, ME_ext hy, by rw [HJ.out]; rfl⟩
            simp only [Act.put, List.setIfInBounds_toArray, List.set_cons_zero, List.set_cons_succ]
            refine relE_fact [] rfl rfl rfl (by kernel_rfl) (fun z hz hf => ?_) (fun v4 z4 hC4 hG4 h4 => ?_)
            · go_simp
              exact ⟨hz.ext' ((Ext.refl z).alloc _), ME_ext ((Ext.refl z).alloc _), _, rfl, hz.size, BoxAt.made z _ _⟩
            obtain ⟨b4, rfl, hb4, _⟩ := h4
            have HB4 := Lib.hid hb4
            clear hC4 hG4 hb4
            simp only [Act.put, List.setIfInBounds_toArray, List.set_cons_zero, List.set_cons_succ]
            refine relE_fact [9] rfl rfl rfl (by kernel_rfl) (fun z hz hf => ?_) (fun v5 z5 hC5 hG5 h5 => ?_)
            · obtain ⟨b, e, _, hbox⟩ := (hf 9 (by simp)).2 rfl
              cases e
              refine yields_append info_Col und_Cols rfl (by decide) (.tmp 33) (.tmp 42) rfl w.heap.size hz.ext.le u9 out.length (coCells out) hz.own (by rfl) b4 1 1 (co5 J).toList (by rfl) (by rfl) (fun j u hj => by rw [hbox.cell j]; simpa using hj) (by simp [co5, Value.oneCell']) (by unfold maxLen; omega) (by omega) ?_
              intro v' y hown' hg hkeep
              refine ⟨⟨hz.ext.grown hg (fun q hq => (hz.own.lt q hq).1), hkeep, Nat.le_trans hz.size hg.size⟩, by unfold ME; rw [if_pos rfl]; exact hg, ?_⟩
              rw [coCells_append]
              exact hown'
            obtain ⟨a5, c5, rfl⟩ := own_shape h5
            clear hC5 hG5 h5
            simp only [Act.put, List.setIfInBounds_toArray, List.set_cons_zero, List.set_cons_succ]
            refine relE_quiet rfl rfl rfl rfl ?_; intro K hK; go_big_quiet_op; (first | refine ⟨_, fun _ _ => rfl, hK _ ?_⟩ | refine hK _ ?_); clear hK K
            refine relE_quiet rfl rfl rfl rfl ?_; intro K hK; go_big_quiet_op; (first | refine ⟨_, fun _ _ => rfl, hK _ ?_⟩ | refine hK _ ?_); clear hK K
            refine relE_quiet rfl rfl rfl rfl ?_; intro K hK; go_big_quiet_op; (first | refine ⟨_, fun _ _ => rfl, hK _ ?_⟩ | refine hK _ ?_); clear hK K
            refine relE_quiet rfl rfl rfl rfl ?_; intro K hK; go_big_quiet_op; (first | refine ⟨_, fun _ _ => rfl, hK _ ?_⟩ | refine hK _ ?_); clear hK K
            refine relE_quiet rfl rfl rfl rfl ?_; intro K hK; go_big_quiet_op; (first | refine ⟨_, fun _ _ => rfl, hK _ ?_⟩ | refine hK _ ?_); clear hK K
            refine relE_quiet rfl rfl rfl rfl ?_; intro K hK; go_big_quiet_op; (first | refine ⟨_, fun _ _ => rfl, hK _ ?_⟩ | refine hK _ ?_); clear hK K
            refine relE_quiet rfl rfl rfl rfl ?_; intro K hK; go_big_quiet_op; (first | refine ⟨_, fun _ _ => rfl, hK _ ?_⟩ | refine hK _ ?_); clear hK K
            refine relE_nil fun w9 hC hG => ?_
            have hown9 := (hG 10).2 rfl
            have hE9 := hC.ext
            clear hC hG HB4 hown hE2 hown2 hsz2
            go_wp2_with fail
            go_roundw
            case rel =>
              refine ⟨l', m', out ++ [J], hl', hm', by rw [List.length_append]; exact hown9, hE9, ?_, by have := congrArg List.length HL.out; have := congrArg List.length HN.out; simp at *; omega⟩
              show mergeCo la lb = _
              rw [HM.out, HL.out, HN.out, List.append_assoc, HJ.out]
              unfold mergeCo
              rw [mergeG_eq (by rw [← HK.out]; omega)]
              rfl
            case measure => simp [lenOf] <;> omega
      · obtain ⟨b1, o1, c1, A, l', hll, rfl, hc1, hcm1, hA, hl'⟩ := hl.uncons h1
        obtain ⟨am, cm, rfl, hcm, hcmm, hgm⟩ := hm.get
        have h1' : decide ((0 : Int) < (l.length : Int)) = true := decide_eq_true (by omega)
        have h2' : decide ((0 : Int) < (m.length : Int)) = false := decide_eq_false (by omega)
        clear hgm hA hl' hll
        have hM : mergeCo la lb = out ++ l ++ m := by
          rw [HM.out]
          have : m = [] := List.eq_nil_of_length_eq_zero (by omega)
          rw [this, List.append_nil]
          unfold mergeCo
          rw [mergeG_nil_right]
        obtain ⟨N, hN⟩ : ∃ N, N = out ++ l ++ m := ⟨_, rfl⟩
        rw [← hN] at hM
        have HN := Lib.hid hN
        have HMM := Lib.hid hM
        clear hN hM
        by_cases hz : N.length = 0
        · have hz' : ((N.length : Int) == 0) = true := by simp [hz]
          go_wp2_with (first
            | (at_builtin; refine appCols wr rfl (.tmp 70) (.tmp 71) rfl w.heap.size hE.le _ out hown (by rfl) _ l (hl.ext hE) (by rfl) (by omega) ?_; intro v3 w3 hown3 hg3; have hE3 := hE.grown hg3 (fun q hq => (hown.lt q hq).1))
            | (at_builtin; refine appCols w3 rfl (.tmp 72) (.tmp 73) rfl w.heap.size hE3.le v3 (out ++ l) hown3 (by rfl) _ m (hm.ext hE3) (by rfl) (by simp; omega) ?_; intro v4 w4 hown4 hg4; have hE4 := hE3.grown hg4 (fun q hq => (hown3.lt q hq).1); rw [← HN.out] at hown4; clear hg3 hg4 hown3 hE3; obtain ⟨a4, c4, rfl⟩ := own_shape hown4))
          go_ret
          rw [HMM.out]
          obtain rfl : N = [] := List.eq_nil_of_length_eq_zero hz
          exact ⟨_, rfl, World.ownsRow_nil _ _ _ _, hE4⟩
        · have hz' : ((N.length : Int) == 0) = false := by simp; intro h; exact hz (by simp [h])
          go_wp2_with (first
            | (at_builtin; refine appCols wr rfl (.tmp 70) (.tmp 71) rfl w.heap.size hE.le _ out hown (by rfl) _ l (hl.ext hE) (by rfl) (by omega) ?_; intro v3 w3 hown3 hg3; have hE3 := hE.grown hg3 (fun q hq => (hown.lt q hq).1))
            | (at_builtin; refine appCols w3 rfl (.tmp 72) (.tmp 73) rfl w.heap.size hE3.le v3 (out ++ l) hown3 (by rfl) _ m (hm.ext hE3) (by rfl) (by simp; omega) ?_; intro v4 w4 hown4 hg4; have hE4 := hE3.grown hg4 (fun q hq => (hown3.lt q hq).1); rw [← HN.out] at hown4; clear hg3 hg4 hown3 hE3; obtain ⟨a4, c4, rfl⟩ := own_shape hown4))
          go_ret
          rw [HMM.out]
          exact ⟨_, rfl, hown4, hE4⟩
    · obtain ⟨al, cl, rfl, hcl, hcml, hgl⟩ := hl.get
      obtain ⟨am, cm, rfl, hcm, hcmm, hgm⟩ := hm.get
      have h1' : decide ((0 : Int) < (l.length : Int)) = false := decide_eq_false (by omega)
      clear hgm hgl
      have hM : mergeCo la lb = out ++ l ++ m := by
        rw [HM.out]
        have : l = [] := List.eq_nil_of_length_eq_zero (by omega)
        rw [this, List.append_nil]
        unfold mergeCo
        rw [mergeG_nil_left]
      obtain ⟨N, hN⟩ : ∃ N, N = out ++ l ++ m := ⟨_, rfl⟩
      rw [← hN] at hM
      have HN := Lib.hid hN
      have HMM := Lib.hid hM
      clear hN hM
      by_cases hz : N.length = 0
      · have hz' : ((N.length : Int) == 0) = true := by simp [hz]
        go_wp2_with (first
          | (at_builtin; refine appCols wr rfl (.tmp 70) (.tmp 71) rfl w.heap.size hE.le _ out hown (by rfl) _ l (hl.ext hE) (by rfl) (by omega) ?_; intro v3 w3 hown3 hg3; have hE3 := hE.grown hg3 (fun q hq => (hown.lt q hq).1))
          | (at_builtin; refine appCols w3 rfl (.tmp 72) (.tmp 73) rfl w.heap.size hE3.le v3 (out ++ l) hown3 (by rfl) _ m (hm.ext hE3) (by rfl) (by simp; omega) ?_; intro v4 w4 hown4 hg4; have hE4 := hE3.grown hg4 (fun q hq => (hown3.lt q hq).1); rw [← HN.out] at hown4; clear hg3 hg4 hown3 hE3; obtain ⟨a4, c4, rfl⟩ := own_shape hown4))
        go_ret
        rw [HMM.out]
        obtain rfl : N = [] := List.eq_nil_of_length_eq_zero hz
        exact ⟨_, rfl, World.ownsRow_nil _ _ _ _, hE4⟩
      · have hz' : ((N.length : Int) == 0) = false := by simp; intro h; exact hz (by simp [h])
        go_wp2_with (first
          | (at_builtin; refine appCols wr rfl (.tmp 70) (.tmp 71) rfl w.heap.size hE.le _ out hown (by rfl) _ l (hl.ext hE) (by rfl) (by omega) ?_; intro v3 w3 hown3 hg3; have hE3 := hE.grown hg3 (fun q hq => (hown.lt q hq).1))
          | (at_builtin; refine appCols w3 rfl (.tmp 72) (.tmp 73) rfl w.heap.size hE3.le v3 (out ++ l) hown3 (by rfl) _ m (hm.ext hE3) (by rfl) (by simp; omega) ?_; intro v4 w4 hown4 hg4; have hE4 := hE3.grown hg4 (fun q hq => (hown3.lt q hq).1); rw [← HN.out] at hown4; clear hg3 hg4 hown3 hE3; obtain ⟨a4, c4, rfl⟩ := own_shape hown4))
        go_ret
        rw [HMM.out]
        exact ⟨_, rfl, hown4, hE4⟩
end Go.Proofs.YtolkhjdododdaaaGreat

/- row.Join. -/
namespace Go.Proofs.YtolkhjdododdaaaGreat
open Go Go.RowKit
attribute [local go_sem] yields yUpon ro8 co5
set_option maxRecDepth 100000 in
set_option maxHeartbeats 4000000 in
theorem rowJoin_any (a b : Ro) (va vb : Value) (w : World) (ha : ColsIn w va a.cols) (hb : ColsIn w vb b.cols) (hlen : a.cols.length + b.cols.length ≤ 1000000) :
    Calls Tryz.prog 29 #[(.agg #[.string a.key, .string a.live.val, .bool a.live.dead, .int .i64 a.live.at_, .int .i64 a.live.fin, .int .i64 a.gone, .int .i64 a.shade, va]), (.agg #[.string b.key, .string b.live.val, .bool b.live.dead, .int .i64 b.live.at_, .int .i64 b.live.fin, .int .i64 b.gone, .int .i64 b.shade, vb])] w fun e w' => ∃ v', e = .returned (.agg #[.string (joinRo a b).key, .string (joinRo a b).live.val, .bool (joinRo a b).live.dead, .int .i64 (joinRo a b).live.at_, .int .i64 (joinRo a b).live.fin, .int .i64 (joinRo a b).gone, .int .i64 (joinRo a b).shade, v']) ∧ w'.ownsRow w.heap.size 57 5 v' (joinRo a b).cols.length (coCells (joinRo a b).cols) ∧ Ext w w' := by
  obtain ⟨a0, a1, a2, hE⟩ := boxes3 w (ro8 a va) (ro8 b vb) (ro8 ⟨⟨#[]⟩, zeroCl, 0, 0, []⟩ (.slice none 0 0)) 54 54 54
  have ha' := ha.ext hE
  have hb' := hb.ext hE
  obtain ⟨c, hc⟩ : ∃ c, c = joinCl a.live b.live := ⟨_, rfl⟩
  obtain ⟨g, hg⟩ : ∃ g, g = max a.gone b.gone := ⟨_, rfl⟩
  obtain ⟨s, hs⟩ : ∃ s, s = max a.shade b.shade := ⟨_, rfl⟩
  have Hc := Lib.hid hc
  have Hg := Lib.hid hg
  have Hs := Lib.hid hs
  obtain ⟨L, hL⟩ : ∃ L, L = mergeCo a.cols b.cols := ⟨_, rfl⟩
  have HL := Lib.hid hL
  unfold joinRo
  rw [← hc, ← hg, ← hs, ← hL]
  clear hc hg hs hL
  go_enter Tryz.func29, Tryz.ntmps29
  go_wp2_with fail
  refine (mergeCo_any va vb a.cols b.cols _ ha' hb' hlen).mono ?_
  rintro e w1 ⟨v', rfl, hown, hE1⟩
  rw [← HL.out] at hown
  clear ha' hb' ha hb
  replace hown := ownsRow_base hown hE.le
  obtain ⟨ca, cc, rfl⟩ := own_shape hown
  replace a0 := a0.ext hE1
  replace a1 := a1.ext hE1
  replace a2 := a2.ext hE1
  replace hE := hE.trans hE1
  clear hE1
  go_wp2_with fail
  refine wp_region_in 19 [(6, fun v _ => v = (.agg #[.string c.val, .bool c.dead, .int .i64 c.at_, .int .i64 c.fin])), (11, fun v _ => v = .int .i64 g), (16, fun v _ => v = .int .i64 s)] (fun w0 => BoxAt w0 w.heap.size (ro8 a va) 54 ∧ BoxAt w0 (w.heap.size + 1) (ro8 b vb) 54 ∧ BoxAt w0 (w.heap.size + 1 + 1) (ro8 ⟨⟨#[]⟩, zeroCl, 0, 0, []⟩ (.slice none 0 0)) 54 ∧ w0.ownsRow w.heap.size 57 5 (.slice ca L.length cc) L.length (coCells L) ∧ Ext w w0) (by kernel_rfl) (by kernel_rfl) (by kernel_rfl) ⟨stays_eq _, stays_eq _, stays_eq _, trivial⟩ ⟨a0, a1, a2, hown, hE⟩ ?_
  clear a0 a1 a2 hE hown
  rintro w2 ⟨c0, c1, c2, hown, hE⟩
  have FIN : Hid (∀ wx, Ext w2 wx → BoxAt wx (w.heap.size + 1 + 1) (ro8 ⟨⟨#[]⟩, zeroCl, 0, 0, []⟩ (.slice none 0 0)) 54 ∧ wx.ownsRow w.heap.size 57 5 (.slice ca L.length cc) L.length (coCells L) ∧ Ext w wx) := fun wx h => ⟨c2.ext h, ownsRow_ext hown h, hE.trans h⟩
  obtain ⟨x0, x1, x2, x3, x4, x5, x6, x7⟩ := c0.ro
  obtain ⟨y0, y1, y2, y3, y4, y5, y6, y7⟩ := c1.ro
  clear c0 c1 c2 hE hown x7 y7 y0
  replace x0 := held x0
  replace x1 := held x1
  replace x2 := held x2
  replace x3 := held x3
  replace x4 := held x4
  replace x5 := held x5
  replace x6 := held x6
  replace y1 := held y1
  replace y2 := held y2
  replace y3 := held y3
  replace y4 := held y4
  replace y5 := held y5
  replace y6 := held y6
  refine rg_quiet rfl rfl rfl rfl ?_; intro K hK; go_big_quiet_op; go_big_quiet_on
  refine rg_quiet rfl rfl rfl rfl ?_; intro K hK; go_big_quiet_op; go_big_quiet_on
  refine rg_quiet rfl rfl rfl rfl ?_; intro K hK; go_big_quiet_op; go_big_quiet_on
  refine rg_quiet rfl rfl rfl rfl ?_; intro K hK; go_big_quiet_op; go_big_quiet_on
  refine rg_quiet rfl rfl rfl rfl ?_; intro K hK; go_big_quiet_op; go_big_quiet_on
  refine rg_quiet rfl rfl rfl rfl ?_; intro K hK; go_big_quiet_op; go_big_quiet_on
  refine rg_val [] rfl rfl rfl (by kernel_rfl) (fun w1 hE hf => ?_) ?_
  · go_simp
    exact (join_c a.live.val a.live.dead a.live.at_ a.live.fin b.live.val b.live.dead b.live.at_ b.live.fin w1).mono fun e w' ⟨he, hw⟩ => ⟨_, he, rg_done hE hw (by rw [Hc.out])⟩
  simp only [Act.put, List.setIfInBounds_toArray, List.set_cons_zero, List.set_cons_succ]
  refine rg_quiet rfl rfl rfl rfl ?_; intro K hK; go_big_quiet_op; go_big_quiet_on
  refine rg_quiet rfl rfl rfl rfl ?_; intro K hK; go_big_quiet_op; go_big_quiet_on
  refine rg_quiet rfl rfl rfl rfl ?_; intro K hK; go_big_quiet_op; go_big_quiet_on
  refine rg_quiet rfl rfl rfl rfl ?_; intro K hK; go_big_quiet_op; go_big_quiet_on
  refine rg_val [] rfl rfl rfl (by kernel_rfl) (fun w1 hE hf => ?_) ?_
  · go_simp
    exact rg_done hE (Ext.refl w1) (by rw [Hg.out])
  simp only [Act.put, List.setIfInBounds_toArray, List.set_cons_zero, List.set_cons_succ]
  refine rg_quiet rfl rfl rfl rfl ?_; intro K hK; go_big_quiet_op; go_big_quiet_on
  refine rg_quiet rfl rfl rfl rfl ?_; intro K hK; go_big_quiet_op; go_big_quiet_on
  refine rg_quiet rfl rfl rfl rfl ?_; intro K hK; go_big_quiet_op; go_big_quiet_on
  refine rg_quiet rfl rfl rfl rfl ?_; intro K hK; go_big_quiet_op; go_big_quiet_on
  refine rg_val [] rfl rfl rfl (by kernel_rfl) (fun w1 hE hf => ?_) ?_
  · go_simp
    exact rg_done hE (Ext.refl w1) (by rw [Hs.out])
  simp only [Act.put, List.setIfInBounds_toArray, List.set_cons_zero, List.set_cons_succ]
  refine rg_quiet rfl rfl rfl rfl ?_; intro K hK; go_big_quiet_op; go_big_quiet_on
  refine rg_quiet rfl rfl rfl rfl ?_; intro K hK; go_big_quiet_op; go_big_quiet_on
  refine rel_tail rfl rfl fun w5 hE5 hG => ?_
  obtain ⟨c2, hown, hE⟩ := FIN.out w5 hE5
  clear x0 x1 x2 x3 x4 x5 x6 y1 y2 y3 y4 y5 y6 hE5 hG FIN
  go_wp2_with ((guard_target =~ wpList _ _ _ (Oper.mk none (Op.store _ (Operand.tmp 4) (Operand.tmp 29)) _ _ _ _ :: _) _ _); go_must (refine storeBox rfl 54 (.tmp 4) (.tmp 29) rfl (w.heap.size + 1 + 1) _ _ _ (by rfl) (by rfl) (c2) (by kernel_rfl) (by rfl) (by simp [Value.oneCell']) ?_); intro w6 c6 g6)
  have hX6 := hE.grown g6 (fun q hq => by cases hq; omega)
  have hown6 := hown.kept g6 (own_ne_box hown c2 (by decide))
  clear hE hown g6 c2
  obtain ⟨z0, z1, z2, z3, z4, z5, z6, z7⟩ := c6.ro (r := ⟨a.key, c, g, s, L⟩) (v := .slice ca L.length cc)
  refine bodyPost_ret (v := .agg #[.string a.key, .string c.val, .bool c.dead, .int .i64 c.at_, .int .i64 c.fin, .int .i64 g, .int .i64 s, .slice ca L.length cc]) ?_ rfl ⟨_, rfl, hown6, hX6⟩
  simp [results, Tryz.results29, go_sem, Act.put, z0, z1, z2, z3, z4, z5, z6, z7]
end Go.Proofs.YtolkhjdododdaaaGreat
