/- clerestoryref19.put, where no name is the same. -/
import Derived.Test.YtolkhjdododdaaaGreatDoorP23
import Derived.Test.YtolkhjdododdaaaGreatDoorP12
import Derived.Test.YtolkhjdododdaaaGreatDoorP22
import Derived.Test.YtolkhjdododdaaaGreatDoorP8
import Derived.Test.YtolkhjdododdaaaGreatDoorP10
import Derived.Test.YtolkhjdododdaaaGreatDoorP7
import Derived.Test.YtolkhjdododdaaaGreatDoorP19
set_option linter.unusedSimpArgs false
set_option linter.unusedVariables false
namespace Go.Proofs.YtolkhjdododdaaaGreatDoor
open Go Go.RowKit
attribute [local go_sem] yields yUpon co5
set_option maxRecDepth 100000 in
set_option maxHeartbeats 8000000 in
theorem put19c_any (v : Value) (l : List Co) (c : Co) (w : World) (hin : ColsIn w v l) (hlen : l.length ≤ 400000) (hne : ∀ d ∈ l, (d.name.toList == c.name.toList) = false) :
  Calls Tryz.prog 78 #[v, (.agg #[.string c.name, .string c.cell.val, .bool c.cell.dead, .int .i64 c.cell.at_, .int .i64 c.cell.fin])] w fun e w' => ∃ v', e = .returned v' ∧ w'.ownsRow (w.heap.size + 1) 69 5 v' (mergeCo l [c]).length (coCells (mergeCo l [c])) ∧ Ext w w' := by
 obtain ⟨a, cp, rfl, hc, hcm, hget⟩ := hin.get
 have b0 := BoxAt.made w (co5 c) 69
 have hE0 := (Ext.refl w).alloc (.cells (co5 c) 69)
 obtain ⟨n, hn⟩ : ∃ n, n = l.length := ⟨_, rfl⟩
 rw [← hn] at hin hlen hc ⊢
 have HGET := Lib.hid hget
 have HNE := Lib.hid hne
 have HN := Lib.hid hn
 clear hget hn hne
 go_enter Tryz.func78, Tryz.ntmps78
 go_wp2_with fail
 go_loopw [5] (fun i wr => ∃ k : Nat, k ≤ n ∧ i = .int .i64 k ∧ Hid (∀ j (_ : j < k) (hl : j < l.length), keyC (l[j]'hl) c < 0) ∧ Ext (w.alloc (.cells (co5 c) 69)) wr) (fun i _ => n - (intOf i).toNat)
 case atStart => exact ⟨0, Nat.zero_le _, rfl, fun j h => by omega, Ext.refl _⟩
 case round =>
  obtain ⟨k, hk, rfl, HK, hE⟩ := hrel
  have hb := b0.ext hE
  obtain ⟨x0, x1, x2, x3, x4⟩ := hb.co
  by_cases hlt : k < n
  ·have t1 : decide ((k : Int) < (n : Int)) = true := by simp; omega
   have hkl : k < l.length := by rw [← HN.out]; exact hlt
   obtain ⟨b, o, rfl, hat⟩ := HGET.out k hkl
   have hat' := hat.ext (hE0.trans hE)
   obtain ⟨y0, y1, y2, y3, y4⟩ := hat'
   obtain ⟨d, hd⟩ : ∃ d, d = l[k] := ⟨_, rfl⟩
   rw [← hd] at y0 y1 y2 y3 y4
   rw [← hd] at hat
   have HD := Lib.hid hd
   have HAT := Lib.hid hat
   clear hd hat
   by_cases hless : Op.bytesLess d.name.toList c.name.toList = true
   ·go_wp2_with fail
    refine wp_region_tab 14 [] (by kernel_rfl) (by kernel_rfl) (by kernel_rfl) trivial ?_
    replace x0 := held x0
    replace y0 := held y0
    refine rg_quiet rfl rfl rfl rfl ?_; intro K hK; go_big_quiet_op; go_big_quiet_on
    refine rg_quiet rfl rfl rfl rfl ?_; intro K hK; go_big_quiet_op; go_big_quiet_on
    refine rg_quiet rfl rfl rfl rfl ?_; intro K hK; go_big_quiet_op; go_big_quiet_on
    refine rg_quiet rfl rfl rfl rfl ?_; intro K hK; go_big_quiet_op; go_big_quiet_on
    refine rg_quiet rfl rfl rfl rfl ?_; intro K hK; go_big_quiet_op; go_big_quiet_on
    refine rg_quiet rfl rfl rfl rfl ?_; intro K hK; go_big_quiet_op; go_big_quiet_on
    refine rg_quiet rfl rfl rfl rfl ?_; intro K hK; go_big_quiet_op; go_big_quiet_on
    refine rg_quiet rfl rfl rfl rfl ?_; intro K hK; go_big_quiet_op; go_big_quiet_on
    refine rg_quiet rfl rfl rfl rfl ?_; intro K hK; go_big_quiet_op; go_big_quiet_on
    refine rg_quiet rfl rfl rfl rfl ?_; intro K hK; go_big_quiet_op; go_big_quiet_on
    refine rg_quiet rfl rfl rfl rfl ?_; intro K hK; go_big_quiet_op; go_big_quiet_on
    refine rg_quiet rfl rfl rfl rfl ?_; intro K hK; go_big_quiet_op; go_big_quiet_on
    refine rg_quiet rfl rfl rfl rfl ?_; intro K hK; go_big_quiet_op; go_big_quiet_on
    refine rg_quiet rfl rfl rfl rfl ?_; intro K hK; go_big_quiet_op; go_big_quiet_on
    refine rel_nil fun w5 hE5 _ => ?_
    clear x0 y0 y1 y2 y3 y4 x1 x2 x3 x4
    go_wp2_with fail
    go_roundw
    case rel =>
     refine ⟨k + 1, by omega, by go_num, fun j hj hl => ?_, hE.trans hE5⟩
     by_cases e : j < k
     ·exact HK.out j e hl
     ·obtain rfl : j = k := by omega
      rw [← HD.out]
      exact (keyC_less d c).2 hless
    case measure => simp [intOf]; omega
   ·have hlf : Op.bytesLess d.name.toList c.name.toList = false := by simpa using hless
    have hin5 := cols_take (hin.ext (hE0.trans hE)) hk HN.out
    obtain ⟨P, hP⟩ : ∃ P, P = l.take k := ⟨_, rfl⟩
    have hPl : P.length ≤ n := by rw [hP, List.length_take]; omega
    rw [← hP] at hin5
    have HP := Lib.hid hP
    clear hP
    have hef : (d.name.toList == c.name.toList) = false := HNE.out d (by rw [HD.out]; exact List.getElem_mem hkl)
    go_wp2_with fail
    refine wp_region_tab 14 [] (by kernel_rfl) (by kernel_rfl) (by kernel_rfl) trivial ?_
    replace x0 := held x0
    replace y0 := held y0
    refine rg_quiet rfl rfl rfl rfl ?_; intro K hK; go_big_quiet_op; go_big_quiet_on
    refine rg_quiet rfl rfl rfl rfl ?_; intro K hK; go_big_quiet_op; go_big_quiet_on
    refine rg_quiet rfl rfl rfl rfl ?_; intro K hK; go_big_quiet_op; go_big_quiet_on
    refine rg_quiet rfl rfl rfl rfl ?_; intro K hK; go_big_quiet_op; go_big_quiet_on
    refine rg_quiet rfl rfl rfl rfl ?_; intro K hK; go_big_quiet_op; go_big_quiet_on
    refine rg_quiet rfl rfl rfl rfl ?_; intro K hK; go_big_quiet_op; go_big_quiet_on
    refine rg_quiet rfl rfl rfl rfl ?_; intro K hK; go_big_quiet_op; go_big_quiet_on
    refine rg_quiet rfl rfl rfl rfl ?_; intro K hK; go_big_quiet_op; go_big_quiet_on
    refine rg_quiet rfl rfl rfl rfl ?_; intro K hK; go_big_quiet_op; go_big_quiet_on
    refine rg_quiet rfl rfl rfl rfl ?_; intro K hK; go_big_quiet_op; go_big_quiet_on
    refine rg_quiet rfl rfl rfl rfl ?_; intro K hK; go_big_quiet_op; go_big_quiet_on
    refine rg_quiet rfl rfl rfl rfl ?_; intro K hK; go_big_quiet_op; go_big_quiet_on
    refine rg_quiet rfl rfl rfl rfl ?_; intro K hK; go_big_quiet_op; go_big_quiet_on
    refine rg_quiet rfl rfl rfl rfl ?_; intro K hK; go_big_quiet_op; go_big_quiet_on
    refine rel_nil fun w5 hE5 _ => ?_
    clear x0 y0 y1 y2 y3 y4 x1 x2 x3 x4
    replace hin5 := hin5.ext hE5
    go_wp2_with (at_builtin; go_must (refine appCols w5 rfl (.const (.slice none 0 0)) (.tmp 25) rfl w5.heap.size (Nat.le_refl _) _ [] (World.ownsRow_nil _ _ _ _) (by rfl) _ P hin5 (by rfl) (by simp; omega) ?_); intro v6 w6 hown6 hg6; rw [List.nil_append] at hown6; obtain ⟨a6, c6, rfl⟩ := own_shape hown6)
    have hE56 : Ext w5 w6 := (Ext.refl w5).grown hg6 (fun q hq => by cases hq)
    have hEw6 : Ext w w6 := ((hE0.trans hE).trans hE5).trans hE56
    have hb6 := hb.ext (hE5.trans hE56)
    clear hin5
    have hE7 : Ext w6 w6 := Ext.refl _
    have hb7 := hb6.ext hE7
    replace hown6 := ownsRow_ext hown6 hE7
    obtain ⟨x0, x1, x2, x3, x4⟩ := hb7.co
    have hEw7 := hEw6.trans hE7
    have hin7 := hin.ext hEw7
    have hB : w.heap.size + 1 ≤ w5.heap.size := by have := hb.lt; have := hE5.le; omega
    have hlt6 := hown6.lt
    obtain ⟨P2, hP2⟩ : ∃ P2, P2 = P ++ [c] := ⟨_, rfl⟩
    have hPl2 : P2.length = P.length + 1 := by rw [hP2]; simp
    have hcc : coCells P ++ (co5 c).toList = coCells P2 := by rw [hP2, coCells_append]; rfl
    have HP2 := Lib.hid hP2
    have HCC := Lib.hid hcc
    have HPL2 := Lib.hid hPl2
    clear hP2 hcc hPl2
    go_wp2_with fail
    refine wp_region_relE (PutC w w6 w5.heap.size c (.slice a6 P.length c6) P) (PutE (.slice a6 P.length c6) w5.heap.size) (Tab.atE [(1, fun v _ => v = (.agg #[.string c.name, .string c.cell.val, .bool c.cell.dead, .int .i64 c.cell.at_, .int .i64 c.cell.fin])), (2, fun v x => ∃ b, v = .slice (some ⟨b, 0, none⟩) 1 1 ∧ w6.heap.size ≤ b ∧ BoxAt x b (co5 c) 69), (3, fun v x => x.ownsRow w5.heap.size 69 5 v P2.length (coCells P2)), (6, fun v _ => v = dropV (some ⟨b, o, none⟩) n cp k 5)])
     (Tab.staysE ⟨fun _ _ _ _ _ _ h => h, fun _ _ _ _ _ hR ⟨b, e, hb, hx⟩ => ⟨b, e, hb, PutE_far hlt6 hR hb hx⟩, fun _ hj _ _ _ hR h => ownsRow_ext h (PutE_off hj hR), fun _ _ _ _ _ _ h => h, trivial⟩)
     7 (by kernel_rfl) (by kernel_rfl) (by kernel_rfl) ⟨hEw7.trans (Ext.refl w6).drew, ownsRow_ext hown6 (Ext.refl w6).drew, hb7.ext (Ext.refl w6).drew, (Ext.refl w6).drew.le⟩ ?_
    refine relE_quiet rfl rfl rfl rfl ?_; intro K hK; go_big_quiet_op; (first | refine ⟨_, fun _ _ => rfl, hK _ ?_⟩ | refine hK _ ?_); clear hK K
    refine relE_val [] rfl rfl rfl (by kernel_rfl) (fun y hy hf => ?_) ?_
    ·obtain ⟨z0, z1, z2, z3, z4⟩ := hy.box.co
     go_simp
     exact ⟨hy, PutE_ext (by decide) (Ext.refl y), rfl⟩
    simp only [Act.put, List.setIfInBounds_toArray, List.set_cons_zero, List.set_cons_succ]
    refine relE_fact [] rfl rfl rfl (by kernel_rfl) (fun y hy hf => ?_) (fun v12 y12 hC12 hG12 h12 => ?_)
    ·go_simp
     exact ⟨hy.ext ((Ext.refl y).alloc _), PutE_ext (by decide) ((Ext.refl y).alloc _), _, rfl, hy.size, BoxAt.made y _ _⟩
    obtain ⟨b12, rfl, _⟩ := h12
    clear hC12 hG12
    simp only [Act.put, List.setIfInBounds_toArray, List.set_cons_zero, List.set_cons_succ]
    refine relE_fact [2] rfl rfl rfl (by kernel_rfl) (fun y hy hf => ?_) (fun v13 y13 hC13 hG13 h13 => ?_)
    ·obtain ⟨b, e, hb', hbox⟩ := (hf 2 (by simp)).2 rfl
     cases e
     refine yields_append info_Col und_Cols rfl (by decide) (.tmp 27) (.tmp 29) rfl w5.heap.size (by have := hy.size; have := hE7.le; have := hE56.le; omega) _ P.length (coCells P) hy.own (by rfl) b12 1 1 (co5 c).toList (by rfl) (by rfl) (fun j u hj => by rw [hbox.cell j]; simpa using hj) (by simp [co5, Value.oneCell']) (by unfold maxLen; omega) (by omega) ?_
     intro v' y' hown' hg hkeep
     rw [HCC.out, ← HPL2.out] at hown'
     refine ⟨⟨hy.extw.grown hg (fun q hq => by have := (hy.own.lt q hq).1; omega), hkeep, hy.box.grown hg (fun e => by have := (hy.own.lt _ e.symm).1; omega), Nat.le_trans hy.size hg.size⟩, ?_, hown'⟩
     unfold PutE
     rw [if_pos rfl]
     exact hg
    obtain ⟨a13, c13, rfl⟩ := own_shape h13
    clear hC13 hG13 h13
    simp only [Act.put, List.setIfInBounds_toArray, List.set_cons_zero, List.set_cons_succ]
    refine relE_quiet rfl rfl rfl rfl ?_; intro K hK; go_big_quiet_op; (first | refine ⟨_, fun _ _ => rfl, hK _ ?_⟩ | refine hK _ ?_); clear hK K
    refine relE_quiet rfl rfl rfl rfl ?_; intro K hK; go_big_quiet_op; (first | refine ⟨_, fun _ _ => rfl, hK _ ?_⟩ | refine hK _ ?_); clear hK K
    refine relE_val [] rfl rfl rfl (by kernel_rfl) (fun y hy hf => ?_) ?_
    ·exact yields_from und_Cols (size := 5) (by kernel_rfl) (.tmp 31) (.tmp 32) rfl rfl rfl hk ⟨hy, PutE_ext (by decide) (Ext.refl y), rfl⟩
    simp only [Act.put, List.setIfInBounds_toArray, List.set_cons_zero, List.set_cons_succ]
    refine relE_tail rfl rfl fun w8 hC hG => ?_
    have hown8 : w8.ownsRow w5.heap.size 69 5 (.slice a13 P2.length c13) P2.length (coCells P2) := (hG 3).2 rfl
    have hsz8 := hC.size
    have hEw8 := hC.extw
    clear hG hC x0 x1 x2 x3 x4
    go_wp2_with (at_builtin; go_must (refine appCols w8 rfl (.tmp 30) (.tmp 33) rfl w5.heap.size (by have := hE7.le; have := hE56.le; omega) _ P2 hown8 (by rfl) _ (l.drop k) (cols_drop (hin.ext hEw8) hk HN.out) (by rfl) (by have := HN.out; have := HPL2.out; simp; omega) ?_); intro v10 w10 hown10 hg10; have hEw10 : Ext w w10 := hEw8.grown hg10 (fun q hq => by have := (hown8.lt q hq).1; omega))
    go_ret
    have hl : P2 ++ l.drop k = mergeCo l [c] := by
     have hz : 0 < keyC l[k] c := by
      rw [← HD.out]
      have h1 := mt (keyC_less d c).1 (by rw [hlf]; decide)
      have h2 := mt (keyC_zero d c).1 (by rw [hef]; decide)
      omega
     have := mergeG_new (join := joinCo) c l k hkl (fun j h hl => HK.out j h hl) hz
     rw [← HP.out] at this
     rw [HP2.out, List.append_assoc]
     exact this.symm
    rw [hl] at hown10
    exact ⟨_, rfl, own_mono hB hown10, hEw10⟩
  ·obtain rfl : k = n := by omega
   have hin5 := cols_take (hin.ext (hE0.trans hE)) hk HN.out
   obtain ⟨P, hP⟩ : ∃ P, P = l.take k := ⟨_, rfl⟩
   have hPl : P.length ≤ k := by rw [hP, List.length_take]; omega
   rw [← hP] at hin5
   have HP := Lib.hid hP
   clear hP
   go_wp2_with fail
   refine wp_region_tab 14 [] (by kernel_rfl) (by kernel_rfl) (by kernel_rfl) trivial ?_
   refine rg_quiet rfl rfl rfl rfl ?_; intro K hK; go_big_quiet_op; go_big_quiet_on
   refine rg_quiet rfl rfl rfl rfl ?_; intro K hK; go_big_quiet_op; go_big_quiet_on
   refine rg_quiet rfl rfl rfl rfl ?_; intro K hK; go_big_quiet_op; go_big_quiet_on
   refine rg_quiet rfl rfl rfl rfl ?_; intro K hK; go_big_quiet_op; go_big_quiet_on
   refine rg_quiet rfl rfl rfl rfl ?_; intro K hK; go_big_quiet_op; go_big_quiet_on
   refine rel_skip rfl rfl ?_
   simp only [Act.put, List.setIfInBounds_toArray, List.set_cons_zero, List.set_cons_succ]
   refine rel_skip rfl rfl ?_
   simp only [Act.put, List.setIfInBounds_toArray, List.set_cons_zero, List.set_cons_succ]
   refine rel_skip rfl rfl ?_
   simp only [Act.put, List.setIfInBounds_toArray, List.set_cons_zero, List.set_cons_succ]
   refine rel_skip rfl rfl ?_
   simp only [Act.put, List.setIfInBounds_toArray, List.set_cons_zero, List.set_cons_succ]
   refine rel_skip rfl rfl ?_
   simp only [Act.put, List.setIfInBounds_toArray, List.set_cons_zero, List.set_cons_succ]
   refine rel_skip rfl rfl ?_
   simp only [Act.put, List.setIfInBounds_toArray, List.set_cons_zero, List.set_cons_succ]
   refine rel_skip rfl rfl ?_
   simp only [Act.put, List.setIfInBounds_toArray, List.set_cons_zero, List.set_cons_succ]
   refine rel_skip rfl rfl ?_
   simp only [Act.put, List.setIfInBounds_toArray, List.set_cons_zero, List.set_cons_succ]
   refine rg_quiet rfl rfl rfl rfl ?_; intro K hK; go_big_quiet_op; go_big_quiet_on
   refine rel_nil fun w5 hE5 _ => ?_
   clear x1 x2 x3 x4 x0
   replace hin5 := hin5.ext hE5
   go_wp2_with (at_builtin; go_must (refine appCols w5 rfl (.const (.slice none 0 0)) (.tmp 25) rfl w5.heap.size (Nat.le_refl _) _ [] (World.ownsRow_nil _ _ _ _) (by rfl) _ P hin5 (by rfl) (by simp; omega) ?_); intro v6 w6 hown6 hg6; rw [List.nil_append] at hown6; obtain ⟨a6, c6, rfl⟩ := own_shape hown6)
   have hE56 : Ext w5 w6 := (Ext.refl w5).grown hg6 (fun q hq => by cases hq)
   have hEw6 : Ext w w6 := ((hE0.trans hE).trans hE5).trans hE56
   have hb6 := hb.ext (hE5.trans hE56)
   have hE7 : Ext w6 w6 := Ext.refl _
   have hb7 := hb6.ext hE7
   replace hown6 := ownsRow_ext hown6 hE7
   obtain ⟨x0, x1, x2, x3, x4⟩ := hb7.co
   have hEw7 := hEw6.trans hE7
   have hin7 := hin.ext hEw7
   have hB : w.heap.size + 1 ≤ w5.heap.size := by have := hb.lt; have := hE5.le; omega
   have hlt6 := hown6.lt
   obtain ⟨P2, hP2⟩ : ∃ P2, P2 = P ++ [c] := ⟨_, rfl⟩
   have hPl2 : P2.length = P.length + 1 := by rw [hP2]; simp
   have hcc : coCells P ++ (co5 c).toList = coCells P2 := by rw [hP2, coCells_append]; rfl
   have HP2 := Lib.hid hP2
   have HCC := Lib.hid hcc
   have HPL2 := Lib.hid hPl2
   clear hP2 hcc hPl2
   go_wp2_with fail
   refine wp_region_relE (PutC w w6 w5.heap.size c (.slice a6 P.length c6) P) (PutE (.slice a6 P.length c6) w5.heap.size) (Tab.atE [(1, fun v _ => v = (.agg #[.string c.name, .string c.cell.val, .bool c.cell.dead, .int .i64 c.cell.at_, .int .i64 c.cell.fin])), (2, fun v x => ∃ b, v = .slice (some ⟨b, 0, none⟩) 1 1 ∧ w6.heap.size ≤ b ∧ BoxAt x b (co5 c) 69), (3, fun v x => x.ownsRow w5.heap.size 69 5 v P2.length (coCells P2)), (6, fun v _ => v = dropV a k cp k 5)])
    (Tab.staysE ⟨fun _ _ _ _ _ _ h => h, fun _ _ _ _ _ hR ⟨b, e, hb, hx⟩ => ⟨b, e, hb, PutE_far hlt6 hR hb hx⟩, fun _ hj _ _ _ hR h => ownsRow_ext h (PutE_off hj hR), fun _ _ _ _ _ _ h => h, trivial⟩)
    7 (by kernel_rfl) (by kernel_rfl) (by kernel_rfl) ⟨hEw7.trans (Ext.refl w6).drew, ownsRow_ext hown6 (Ext.refl w6).drew, hb7.ext (Ext.refl w6).drew, (Ext.refl w6).drew.le⟩ ?_
   refine relE_quiet rfl rfl rfl rfl ?_; intro K hK; go_big_quiet_op; (first | refine ⟨_, fun _ _ => rfl, hK _ ?_⟩ | refine hK _ ?_); clear hK K
   refine relE_val [] rfl rfl rfl (by kernel_rfl) (fun y hy hf => ?_) ?_
   ·obtain ⟨z0, z1, z2, z3, z4⟩ := hy.box.co
    go_simp
    exact ⟨hy, PutE_ext (by decide) (Ext.refl y), rfl⟩
   simp only [Act.put, List.setIfInBounds_toArray, List.set_cons_zero, List.set_cons_succ]
   refine relE_fact [] rfl rfl rfl (by kernel_rfl) (fun y hy hf => ?_) (fun v12 y12 hC12 hG12 h12 => ?_)
   ·go_simp
    exact ⟨hy.ext ((Ext.refl y).alloc _), PutE_ext (by decide) ((Ext.refl y).alloc _), _, rfl, hy.size, BoxAt.made y _ _⟩
   obtain ⟨b12, rfl, _⟩ := h12
   clear hC12 hG12
   simp only [Act.put, List.setIfInBounds_toArray, List.set_cons_zero, List.set_cons_succ]
   refine relE_fact [2] rfl rfl rfl (by kernel_rfl) (fun y hy hf => ?_) (fun v13 y13 hC13 hG13 h13 => ?_)
   ·obtain ⟨b, e, hb', hbox⟩ := (hf 2 (by simp)).2 rfl
    cases e
    refine yields_append info_Col und_Cols rfl (by decide) (.tmp 27) (.tmp 29) rfl w5.heap.size (by have := hy.size; have := hE7.le; have := hE56.le; omega) _ P.length (coCells P) hy.own (by rfl) b12 1 1 (co5 c).toList (by rfl) (by rfl) (fun j u hj => by rw [hbox.cell j]; simpa using hj) (by simp [co5, Value.oneCell']) (by unfold maxLen; omega) (by omega) ?_
    intro v' y' hown' hg hkeep
    rw [HCC.out, ← HPL2.out] at hown'
    refine ⟨⟨hy.extw.grown hg (fun q hq => by have := (hy.own.lt q hq).1; omega), hkeep, hy.box.grown hg (fun e => by have := (hy.own.lt _ e.symm).1; omega), Nat.le_trans hy.size hg.size⟩, ?_, hown'⟩
    unfold PutE
    rw [if_pos rfl]
    exact hg
   obtain ⟨a13, c13, rfl⟩ := own_shape h13
   clear hC13 hG13 h13
   simp only [Act.put, List.setIfInBounds_toArray, List.set_cons_zero, List.set_cons_succ]
   refine relE_quiet rfl rfl rfl rfl ?_; intro K hK; go_big_quiet_op; (first | refine ⟨_, fun _ _ => rfl, hK _ ?_⟩ | refine hK _ ?_); clear hK K
   refine relE_quiet rfl rfl rfl rfl ?_; intro K hK; go_big_quiet_op; (first | refine ⟨_, fun _ _ => rfl, hK _ ?_⟩ | refine hK _ ?_); clear hK K
   refine relE_val [] rfl rfl rfl (by kernel_rfl) (fun y hy hf => ?_) ?_
   ·exact yields_from und_Cols (size := 5) (by kernel_rfl) (.tmp 31) (.tmp 32) rfl rfl rfl (Nat.le_refl _) ⟨hy, PutE_ext (by decide) (Ext.refl y), rfl⟩
   simp only [Act.put, List.setIfInBounds_toArray, List.set_cons_zero, List.set_cons_succ]
   refine relE_tail rfl rfl fun w8 hC hG => ?_
   have hown8 : w8.ownsRow w5.heap.size 69 5 (.slice a13 P2.length c13) P2.length (coCells P2) := (hG 3).2 rfl
   have hsz8 := hC.size
   have hEw8 := hC.extw
   clear hG hC x0 x1 x2 x3 x4
   go_wp2_with (at_builtin; go_must (refine appCols w8 rfl (.tmp 30) (.tmp 33) rfl w5.heap.size (by have := hE7.le; have := hE56.le; omega) _ P2 hown8 (by rfl) _ (l.drop k) (cols_drop (hin.ext hEw8) (Nat.le_refl _) HN.out) (by rfl) (by have := HN.out; have := HPL2.out; simp; omega) ?_); intro v10 w10 hown10 hg10; have hEw10 : Ext w w10 := hEw8.grown hg10 (fun q hq => by have := (hown8.lt q hq).1; omega))
   go_ret
   have hl : P2 ++ l.drop k = mergeCo l [c] := by
    have := mergeG_end (cmp := keyC) (join := joinCo) c l (fun j hl => HK.out j (by rw [HN.out]; exact hl) hl)
    rw [HP2.out, HP.out, List.append_assoc, show mergeCo l [c] = l ++ [c] from this, List.take_of_length_le (by rw [HN.out]; exact Nat.le_refl _), List.drop_of_length_le (by rw [HN.out]; exact Nat.le_refl _), List.append_nil]
   rw [hl] at hown10
   exact ⟨_, rfl, own_mono hB hown10, hEw10⟩
end Go.Proofs.YtolkhjdododdaaaGreatDoor

/- row.Is. (what a smaller cut has) -/
namespace Go.Proofs.YtolkhjdododdaaaGreatDoor
open Go Go.RowKit
attribute [local go_sem] yields yUpon

/-- Is what makes a row be counted? -/
def liveB (r : Ro) (G now : Int) : Bool := seenB r.live.dead r.live.at_ r.live.fin now && decide (G < r.live.at_) && decide (r.shade < r.live.at_)
def isB (r : Ro) (G now : Int) (strict : Bool) : Bool := liveB r G now || (!strict && decide (0 < (seenCos r.cols G now).length))
end Go.Proofs.YtolkhjdododdaaaGreatDoor

/- The reference's rows: Cell, Gone. -/
namespace Go.Proofs.YtolkhjdododdaaaGreatDoor
open Go Go.RowKit
attribute [local go_sem] yields yUpon ro8

set_option maxRecDepth 100000 in
set_option maxHeartbeats 1000000 in
theorem gone7_any (r : Ro) (v : Value) (part : Int) (w : World) :
  Calls Tryz.prog 47 #[(.agg #[.string r.key, .string r.live.val, .bool r.live.dead, .int .i64 r.live.at_, .int .i64 r.live.fin, .int .i64 r.gone, .int .i64 r.shade, v]), .int .i64 part] w fun e w' => e = .returned (.int .i64 (max r.gone part)) ∧ Ext w w' := by
 go_enter Tryz.func47, Tryz.ntmps47
 go_wp2
 all_goals
  go_ret
  exact ⟨ret_int (by omega), (Ext.refl w).alloc _⟩

set_option maxRecDepth 100000 in
set_option maxHeartbeats 1000000 in
theorem cell7_any (r : Ro) (v : Value) (name : ByteArray) (w : World) (hin : ColsIn w v r.cols) :
  Calls Tryz.prog 76 #[(.agg #[.string r.key, .string r.live.val, .bool r.live.dead, .int .i64 r.live.at_, .int .i64 r.live.fin, .int .i64 r.gone, .int .i64 r.shade, v]), .string name] w fun e w' => e = .returned (.agg #[.string (cellOf r.cols name).val, .bool (cellOf r.cols name).dead, .int .i64 (cellOf r.cols name).at_, .int .i64 (cellOf r.cols name).fin]) ∧ Ext w w' := by
 obtain ⟨a, c, rfl, hc, hcm, hcell⟩ := hin.get
 obtain ⟨l, hl⟩ : ∃ l, l = r.cols := ⟨_, rfl⟩
 rw [← hl] at hcell hc ⊢
 have HC := Lib.hid hcell
 clear hcell hin hl
 obtain ⟨a0, a1, hE0⟩ := boxes2 w (ro8 r (.slice a l.length c)) (cl4 zeroCl) 47 44
 go_enter Tryz.func76, Tryz.ntmps76
 go_wp2
 go_loopw [5] (fun i wr => ∃ k : Nat, k ≤ l.length ∧ i = .int .i64 k ∧ BoxAt wr w.heap.size (ro8 r (.slice a l.length c)) 47 ∧ BoxAt wr (w.heap.size + 1) (cl4 zeroCl) 44 ∧ Ext w wr ∧ Hid (cellOf l name = cellOf (l.drop k) name)) (fun i _ => l.length - (intOf i).toNat)
 case atStart => exact ⟨0, Nat.zero_le _, rfl, a0, a1, hE0, rfl⟩
 case round =>
  obtain ⟨k, hk, rfl, hro, hbox, hE, HX⟩ := hrel
  obtain ⟨x0, x1, x2, x3⟩ := hbox.cl
  have xf := hbox.free
  obtain ⟨y0, y1, y2, y3, y4, y5, y6, y7⟩ := hro.ro
  by_cases hlt : k < l.length
  ·obtain ⟨b, o, rfl, hco⟩ := HC.out k hlt
   obtain ⟨M, hM⟩ : ∃ M, M = l[k] := ⟨_, rfl⟩
   rw [← hM] at hco
   have HD : Hid (l.drop k = M :: l.drop (k + 1)) := by rw [hM]; exact List.drop_eq_getElem_cons hlt
   clear hM
   replace hco := hco.ext hE
   obtain ⟨g0, g1, g2, g3, g4⟩ := hco
   cases hname : (M.name.toList == name.toList)
   ·go_wp2_with fail
    go_roundw
    case rel =>
     refine ⟨k + 1, by omega, by go_num, hro, hbox, hE, ?_⟩
     show cellOf l name = _
     rw [HX.out, HD.out, cellOf, if_neg (by rw [hname]; decide)]
    case measure => simp [intOf] <;> omega
   ·go_wp2_with fail
    have e1 : cellOf l name = M.cell := by rw [HX.out, HD.out, cellOf, if_pos hname]
    rw [e1]
    refine bodyPost_ret (v := (.agg #[.string M.cell.val, .bool M.cell.dead, .int .i64 M.cell.at_, .int .i64 M.cell.fin])) ?_ rfl ⟨rfl, hE.put4 (Nat.le_succ _)⟩
    generalize hW : World.setCell _ _ _ = w9
    have hb : BoxAt w9 (w.heap.size + 1) (cl4 M.cell) 44 := by rw [← hW]; exact hbox.put4 (d := M.cell)
    obtain ⟨z0, z1, z2, z3⟩ := hb.cl
    simp [results, Tryz.results76, go_sem, z0, z1, z2, z3]
  ·have e1 : cellOf l name = zeroCl := by rw [HX.out, List.drop_eq_nil_of_le (by omega)]; rfl
   go_wp2_with fail
   rw [e1]
   refine bodyPost_ret (v := (.agg #[.string zeroCl.val, .bool zeroCl.dead, .int .i64 zeroCl.at_, .int .i64 zeroCl.fin])) ?_ rfl ⟨rfl, hE.put4 (Nat.le_succ _)⟩
   generalize hW : World.setCell _ _ _ = w9
   have hb : BoxAt w9 (w.heap.size + 1) (cl4 zeroCl) 44 := by rw [← hW]; exact hbox.put4 (d := zeroCl)
   obtain ⟨z0, z1, z2, z3⟩ := hb.cl
   simp [results, Tryz.results76, go_sem, z0, z1, z2, z3]
end Go.Proofs.YtolkhjdododdaaaGreatDoor

/- clerestoryref19.left. -/
namespace Go.Proofs.YtolkhjdododdaaaGreatDoor
open Go Go.RowKit
attribute [local go_sem] yields yUpon ro8 pa3 vw5

/-- What a view's row is that a base's row left, by its key and its mirror's stamp. -/
def left19 (x : Vw) (key : ByteArray) (at_ : Int) (r : Ro) (g : Int) : Ro := ⟨key, zeroCl, max r.gone g, at_, cellL x r⟩
theorem left19_is (x : Vw) (m r : Ro) (g : Int) : left19 x m.key m.live.at_ r g = leftRo x m r g := rfl

set_option maxRecDepth 100000 in
set_option maxHeartbeats 4000000 in
theorem left19_any (x : Vw) (u : Value) (key : ByteArray) (at_ : Int) (pk : ByteArray) (pg : Int) (pu : Value) (r : Ro) (v : Value) (w : World) (hin : ColsIn w v r.cols) :
  Calls Tryz.prog 49 #[.agg #[.string x.name, .int .i64 x.id, .string x.table, .string x.on, u], .string key, .int .i64 at_, .agg #[.string pk, .int .i64 pg, pu], (.agg #[.string r.key, .string r.live.val, .bool r.live.dead, .int .i64 r.live.at_, .int .i64 r.live.fin, .int .i64 r.gone, .int .i64 r.shade, v])] w fun e w' => ∃ v', e = .returned (.agg #[.string (left19 x key at_ r pg).key, .string (left19 x key at_ r pg).live.val, .bool (left19 x key at_ r pg).live.dead, .int .i64 (left19 x key at_ r pg).live.at_, .int .i64 (left19 x key at_ r pg).live.fin, .int .i64 (left19 x key at_ r pg).gone, .int .i64 (left19 x key at_ r pg).shade, v']) ∧ ColsT w' v' (left19 x key at_ r pg).cols ∧ Ext w w' := by
 obtain ⟨a0, a1, a2, a3, hE⟩ := boxes4 w #[.string x.name, .int .i64 x.id, .string x.table, .string x.on, u] #[.string pk, .int .i64 pg, pu] #[.string r.key, .string r.live.val, .bool r.live.dead, .int .i64 r.live.at_, .int .i64 r.live.fin, .int .i64 r.gone, .int .i64 r.shade, v] #[.string ⟨#[]⟩, .string ⟨#[]⟩, .bool false, .int .i64 0, .int .i64 0, .int .i64 0, .int .i64 0, .slice none 0 0] 31 39 47 47
 have hin' := hin.ext hE
 obtain ⟨G, hG⟩ : ∃ G, G = max r.gone pg := ⟨_, rfl⟩
 obtain ⟨c, hc⟩ : ∃ c, c = cellOf r.cols x.on := ⟨_, rfl⟩
 obtain ⟨L, hL⟩ : ∃ L, L = cellL x r := ⟨_, rfl⟩
 unfold left19
 rw [← hG, ← hL]
 have HL : Hid (L = if c.at_ < 1 then [] else [⟨x.on, c⟩]) := Lib.hid (by rw [hL, hc]; rfl)
 have HG := Lib.hid hG
 have HC := Lib.hid hc
 clear hG hc hL hin
 go_enter Tryz.func49, Tryz.ntmps49
 go_wp2_with fail
 generalize World.alloc (World.alloc (World.alloc (World.alloc w _) _) _) _ = w0 at a0 a1 a2 a3 hE hin' ⊢
 have b0 : BoxAt w0 w.heap.size (vw5 x u) 31 := a0
 have b1 : BoxAt w0 (w.heap.size + 1) (pa3 pk pg pu) 39 := a1
 have b2 : BoxAt w0 (w.heap.size + 1 + 1) (ro8 r v) 47 := a2
 have b3 : BoxAt w0 (w.heap.size + 1 + 1 + 1) (ro8 ⟨⟨#[]⟩, zeroCl, 0, 0, []⟩ (.slice none 0 0)) 47 := a3
 clear a0 a1 a2 a3
 refine (gone7_any r v pg w0).mono ?_
 rw [← HG.out]
 rintro e w1 ⟨rfl, hE1⟩
 go_wp2_with (((guard_target =~ wpList _ _ _ (Oper.mk none (Op.store _ (Operand.tmp 11) (Operand.tmp 19)) _ _ _ _ :: _) _ _); go_must (refine storeBox rfl 47 (.tmp 11) (.tmp 19) rfl (w1.heap.size) _ _ _ (by rfl) (by rfl) ((BoxAt.made w1 (ro8 ⟨⟨#[]⟩, zeroCl, 0, 0, []⟩ (.slice none 0 0)) 47)) (by kernel_rfl) (by rfl) (by simp [Value.oneCell']) ?_); intro w2 c2 g2); have hX2 : Ext w0 w2 := hE1.trans (((Ext.refl w1).alloc _).grown g2 (fun q hq => by cases hq; omega)); obtain ⟨x0, x1, x2, x3, x4⟩ := (b0.ext hX2).vw; obtain ⟨t0, t1, t2, t3, t4, t5, t6, t7⟩ := (b2.ext hX2).ro)
 have d2 : BoxAt w2 w1.heap.size (ro8 ⟨key, zeroCl, G, at_, []⟩ (.slice none 0 0)) 47 := c2
 have hq0 : w0.heap.size ≤ w1.heap.size := hE1.le
 have hq1 : w.heap.size + 1 + 1 + 1 < w1.heap.size := Nat.lt_of_lt_of_le b3.lt hE1.le
 clear c2 g2 hE1
 refine (cell7_any r v x.on w2 (hin'.ext hX2)).mono ?_
 rw [← HC.out]
 rintro e w3 ⟨rfl, hE3⟩
 clear t0 t1 t2 t3 t4 t5 t6 t7
 clear x0 x1 x2 x3 x4
 by_cases hc0 : 0 < c.at_
 ·have d0 : decide (0 < c.at_) = true := by simpa using hc0
  obtain rfl : L = [⟨x.on, c⟩] := by rw [HL.out, if_neg (by omega)]
  go_wp2_with (first
   | (((guard_target =~ wpList _ _ _ (Oper.mk none (Op.store _ (Operand.tmp 12) (Operand.tmp 23)) _ _ _ _ :: _) _ _); go_must (refine storeBox rfl 44 (.tmp 12) (.tmp 23) rfl (w3.heap.size) _ _ _ (by rfl) (by rfl) ((BoxAt.made w3 #[.string ⟨#[]⟩, .bool false, .int .i64 0, .int .i64 0] 44)) (by kernel_rfl) (by rfl) (by simp [Value.oneCell']) ?_); intro w4 c4 g4); have hX4 : Ext w2 w4 := hE3.trans (((Ext.refl w3).alloc _).grown g4 (fun q hq => by cases hq; omega)); have d4 : BoxAt w4 w3.heap.size (cl4 c) 44 := c4; obtain ⟨k0, k1, k2, k3⟩ := d4.cl; have e2 := d2.ext hX4; have hX := hX2.trans hX4; obtain ⟨x0, x1, x2, x3, x4⟩ := (b0.ext hX).vw; have e2a := e2.allocs; have e2f := e2.frees; obtain ⟨m0, m1, m2, m3, m4, m5, m6, m7⟩ := e2.ro)
   | ((guard_target =~ wpList _ _ _ (Oper.mk (some 33) _ _ _ _ _ :: _) _ _); generalize hW : World.setCell _ _ _ = w5; have e5 : BoxAt w5 w1.heap.size (ro8 ⟨key, zeroCl, G, at_, [⟨x.on, c⟩]⟩ (.slice (some ⟨w4.heap.size, 0, none⟩) 1 1)) 47 := (by rw [← hW]; exact (e2.ext ((Ext.refl w4).alloc _)).set 7 _); obtain ⟨m0, m1, m2, m3, m4, m5, m6, m7⟩ := e5.ro; have hX5 : Ext w0 w5 := (by rw [← hW]; exact (hX.alloc _).setCell (p := ⟨w1.heap.size, 7, none⟩) (by show w0.heap.size ≤ w1.heap.size; exact hq0) _); have hB5 : BoxAt w5 w4.heap.size (co5 ⟨x.on, c⟩) 69 := (by rw [← hW]; exact (BoxAt.made w4 (co5 ⟨x.on, c⟩) 69).other (by have := e2.lt; omega) _ _); have b35 := b3.ext hX5; clear hW)
   | (((guard_target =~ wpList _ _ _ (Oper.mk none (Op.store _ (Operand.tmp 10) (Operand.tmp 33)) _ _ _ _ :: _) _ _); go_must (refine storeBox rfl 47 (.tmp 10) (.tmp 33) rfl (w.heap.size + 1 + 1 + 1) _ _ _ (by rfl) (by rfl) (b35) (by kernel_rfl) (by rfl) (by simp [Value.oneCell']) ?_); intro w6 c6 g6)))
  have d6 : BoxAt w6 (w.heap.size + 1 + 1 + 1) (ro8 ⟨key, zeroCl, G, at_, [⟨x.on, c⟩]⟩ (.slice (some ⟨w4.heap.size, 0, none⟩) 1 1)) 47 := c6
  obtain ⟨z0, z1, z2, z3, z4, z5, z6, z7⟩ := d6.ro
  refine bodyPost_ret (v := (.agg #[.string (⟨key, zeroCl, G, at_, [⟨x.on, c⟩]⟩ : Ro).key, .string (⟨key, zeroCl, G, at_, [⟨x.on, c⟩]⟩ : Ro).live.val, .bool (⟨key, zeroCl, G, at_, [⟨x.on, c⟩]⟩ : Ro).live.dead, .int .i64 (⟨key, zeroCl, G, at_, [⟨x.on, c⟩]⟩ : Ro).live.at_, .int .i64 (⟨key, zeroCl, G, at_, [⟨x.on, c⟩]⟩ : Ro).live.fin, .int .i64 (⟨key, zeroCl, G, at_, [⟨x.on, c⟩]⟩ : Ro).gone, .int .i64 (⟨key, zeroCl, G, at_, [⟨x.on, c⟩]⟩ : Ro).shade, (.slice (some ⟨w4.heap.size, 0, none⟩) 1 1)])) ?_ rfl ⟨_, rfl, TIn.keep g6 b35 (by decide) (TIn.box (xs := coCells [⟨x.on, c⟩]) hB5 (by unfold maxLen; decide)), (hE.trans hX5).grown g6 (fun q hq => by cases hq; omega)⟩
  simp [results, Tryz.results49, go_sem, z0, z1, z2, z3, z4, z5, z6, z7]
 ·have d0 : decide (0 < c.at_) = false := by simpa using hc0
  obtain rfl : L = [] := by rw [HL.out, if_pos (by omega)]
  go_wp2_with (first
   | (((guard_target =~ wpList _ _ _ (Oper.mk none (Op.store _ (Operand.tmp 12) (Operand.tmp 23)) _ _ _ _ :: _) _ _); go_must (refine storeBox rfl 44 (.tmp 12) (.tmp 23) rfl (w3.heap.size) _ _ _ (by rfl) (by rfl) ((BoxAt.made w3 #[.string ⟨#[]⟩, .bool false, .int .i64 0, .int .i64 0] 44)) (by kernel_rfl) (by rfl) (by simp [Value.oneCell']) ?_); intro w4 c4 g4); have hX4 : Ext w2 w4 := hE3.trans (((Ext.refl w3).alloc _).grown g4 (fun q hq => by cases hq; omega)); have d4 : BoxAt w4 w3.heap.size (cl4 c) 44 := c4; obtain ⟨k0, k1, k2, k3⟩ := d4.cl; have e2 := d2.ext hX4; have hX := hX2.trans hX4; obtain ⟨x0, x1, x2, x3, x4⟩ := (b0.ext hX).vw; have e2a := e2.allocs; have e2f := e2.frees; obtain ⟨m0, m1, m2, m3, m4, m5, m6, m7⟩ := e2.ro); have b35 := b3.ext hX
   | (((guard_target =~ wpList _ _ _ (Oper.mk none (Op.store _ (Operand.tmp 10) (Operand.tmp 33)) _ _ _ _ :: _) _ _); go_must (refine storeBox rfl 47 (.tmp 10) (.tmp 33) rfl (w.heap.size + 1 + 1 + 1) _ _ _ (by rfl) (by rfl) (b35) (by kernel_rfl) (by rfl) (by simp [Value.oneCell']) ?_); intro w6 c6 g6)))
  have d6 : BoxAt w6 (w.heap.size + 1 + 1 + 1) (ro8 ⟨key, zeroCl, G, at_, []⟩ (.slice none 0 0)) 47 := c6
  obtain ⟨z0, z1, z2, z3, z4, z5, z6, z7⟩ := d6.ro
  refine bodyPost_ret (v := (.agg #[.string (⟨key, zeroCl, G, at_, []⟩ : Ro).key, .string (⟨key, zeroCl, G, at_, []⟩ : Ro).live.val, .bool (⟨key, zeroCl, G, at_, []⟩ : Ro).live.dead, .int .i64 (⟨key, zeroCl, G, at_, []⟩ : Ro).live.at_, .int .i64 (⟨key, zeroCl, G, at_, []⟩ : Ro).live.fin, .int .i64 (⟨key, zeroCl, G, at_, []⟩ : Ro).gone, .int .i64 (⟨key, zeroCl, G, at_, []⟩ : Ro).shade, (.slice none 0 0)])) ?_ rfl ⟨_, rfl, .inl ⟨rfl, rfl, rfl⟩, (hE.trans hX).grown g6 (fun q hq => by cases hq; omega)⟩
  simp [results, Tryz.results49, go_sem, z0, z1, z2, z3, z4, z5, z6, z7]
end Go.Proofs.YtolkhjdododdaaaGreatDoor
