/- clerestoryref07.put. (what a smaller cut has) -/
import Derived.Test.YtolkhjdododdaaaGreatDoorP11
import Derived.Test.YtolkhjdododdaaaGreatDoorP22
import Derived.Test.YtolkhjdododdaaaGreatDoorP8
import Derived.Test.YtolkhjdododdaaaGreatDoorP10
import Derived.Test.YtolkhjdododdaaaGreatDoorP12
import Derived.Test.YtolkhjdododdaaaGreatDoorP21
set_option linter.unusedSimpArgs false
set_option linter.unusedVariables false
namespace Go.Proofs.YtolkhjdododdaaaGreatDoor
open Go Go.RowKit
attribute [local go_sem] yields yUpon co5

theorem keyC_less (a b : Co) : keyC a b < 0 ↔ Op.bytesLess a.name.toList b.name.toList = true := by
 unfold keyC
 rw [cmpB_less, ByteArray.toList_eq, ByteArray.toList_eq]
 unfold less
 by_cases h : Op.bytesLess a.name.data.toList b.name.data.toList = true
 ·rw [if_pos h]; simp [h]
 ·rw [if_neg h]
  constructor
  ·intro h'; split at h' <;> omega
  ·intro h'; exact absurd h' h
theorem keyC_zero (a b : Co) : keyC a b = 0 ↔ (a.name.toList == b.name.toList) = true := by
 rw [ByteArray.toList_eq, ByteArray.toList_eq, beq_iff_eq]
 constructor
 ·exact fun h => cmpB_zero h
 ·intro h; unfold keyC; rw [h]; exact cmpB_self _
theorem cols_box {w : World} {b : Nat} {c : Co} {T : TypeId} (hb : BoxAt w b (co5 c) T) : ColsIn w (.slice (some ⟨b, 0, none⟩) 1 1) [c] :=
 ⟨_, 1, rfl, Nat.le_refl _, by unfold maxLen; decide, nofun, fun j u hj => ⟨b, 0, rfl, by rw [Nat.zero_add, hb.cell j]; simpa [coCells, co5] using hj⟩⟩

/-- What stays true while one is put into a list that is under way. -/
structure PutC (w w7 : World) (B : Nat) (c : Co) (vm : Value) (P : List Co) (x : World) : Prop where
 extw : Ext w x
 own : x.ownsRow B 69 5 vm P.length (coCells P)
 box : BoxAt x w.heap.size (co5 c) 69
 size : w7.heap.size ≤ x.heap.size
theorem PutC.ext {w w7 x y : World} {B : Nat} {c : Co} {vm : Value} {P : List Co} (hE : Ext x y) (h : PutC w w7 B c vm P x) : PutC w w7 B c vm P y := ⟨h.extw.trans hE, ownsRow_ext h.own hE, h.box.ext hE, Nat.le_trans h.size hE.le⟩
def PutE (vm : Value) (_ : Nat) (j : Nat) (x y : World) : Prop := if j = 3 then x.grownBy y vm.ownBlock else Ext x y
theorem PutE_ext {vm : Value} {B j : Nat} {x y : World} (hj : j ≠ 3) (h : Ext x y) : PutE vm B j x y := by unfold PutE; rw [if_neg hj]; exact h
theorem PutE_off {vm : Value} {B j : Nat} {x y : World} (hj : j ≠ 3) (h : PutE vm B j x y) : Ext x y := by unfold PutE at h; rwa [if_neg hj] at h
theorem PutE_far {vm : Value} {B B' S : Nat} (hlt : ∀ q, vm.ownBlock = some q → B' ≤ q ∧ q < S) {j : Nat} {x y : World} (h : PutE vm B j x y) {b : Nat} (hb : S ≤ b) {cs : Array Value} {e : TypeId} (hx : BoxAt x b cs e) : BoxAt y b cs e := by
 unfold PutE at h
 split at h
 ·exact hx.grown h (fun e => by have := (hlt _ e.symm).2; omega)
 ·exact hx.ext h
end Go.Proofs.YtolkhjdododdaaaGreatDoor

/- clerestoryref07.put. -/
namespace Go.Proofs.YtolkhjdododdaaaGreatDoor
open Go Go.RowKit
attribute [local go_sem] yields yUpon co5
set_option maxRecDepth 100000 in
set_option maxHeartbeats 8000000 in
theorem put7_any (v : Value) (l : List Co) (c : Co) (w : World) (hin : ColsIn w v l) (hlen : l.length ≤ 400000) :
  Calls Tryz.prog 81 #[v, (.agg #[.string c.name, .string c.cell.val, .bool c.cell.dead, .int .i64 c.cell.at_, .int .i64 c.cell.fin])] w fun e w' => ∃ v', e = .returned v' ∧ w'.ownsRow (w.heap.size + 1) 69 5 v' (mergeCo l [c]).length (coCells (mergeCo l [c])) ∧ Ext w w' := by
 obtain ⟨a, cp, rfl, hc, hcm, hget⟩ := hin.get
 have b0 := BoxAt.made w (co5 c) 69
 have hE0 := (Ext.refl w).alloc (.cells (co5 c) 69)
 obtain ⟨n, hn⟩ : ∃ n, n = l.length := ⟨_, rfl⟩
 rw [← hn] at hin hlen hc ⊢
 have HGET := Lib.hid hget
 have HN := Lib.hid hn
 clear hget hn
 go_enter Tryz.func81, Tryz.ntmps81
 go_wp2_with fail
 go_loopw [5] (fun i wr => ∃ k : Nat, k ≤ n ∧ i = .int .i64 k ∧ Hid (∀ j (_ : j < k) (hl : j < l.length), keyC (l[j]'hl) c < 0) ∧ Ext (w.alloc (.cells (co5 c) 69)) wr) (fun i _ => n - (intOf i).toNat)
 case atStart => exact ⟨0, Nat.zero_le _, rfl, fun j h => by omega, Ext.refl _⟩
 case round =>
  obtain ⟨k, hk, rfl, HK, hE⟩ := hrel
  have hb := b0.ext hE
  obtain ⟨x0, x1, x2, x3, x4⟩ := hb.co
  by_cases hlt : k < n
  ·have t1 : decide ((k : Int) < (n : Int)) = true := by simp; omega
   have hkl : k < l.length := by rw [← HN.out]; exact hlt
   obtain ⟨b, o, rfl, hat⟩ := HGET.out k hkl
   have hat' := hat.ext (hE0.trans hE)
   obtain ⟨y0, y1, y2, y3, y4⟩ := hat'
   obtain ⟨d, hd⟩ : ∃ d, d = l[k] := ⟨_, rfl⟩
   rw [← hd] at y0 y1 y2 y3 y4
   rw [← hd] at hat
   have HD := Lib.hid hd
   have HAT := Lib.hid hat
   clear hd hat
   by_cases hless : Op.bytesLess d.name.toList c.name.toList = true
   ·go_wp2_with fail
    refine wp_region_tab 14 [] (by kernel_rfl) (by kernel_rfl) (by kernel_rfl) trivial ?_
    replace x0 := held x0
    replace y0 := held y0
    refine rg_quiet rfl rfl rfl rfl ?_; intro K hK; go_big_quiet_op; go_big_quiet_on
    refine rg_quiet rfl rfl rfl rfl ?_; intro K hK; go_big_quiet_op; go_big_quiet_on
    refine rg_quiet rfl rfl rfl rfl ?_; intro K hK; go_big_quiet_op; go_big_quiet_on
    refine rg_quiet rfl rfl rfl rfl ?_; intro K hK; go_big_quiet_op; go_big_quiet_on
    refine rg_quiet rfl rfl rfl rfl ?_; intro K hK; go_big_quiet_op; go_big_quiet_on
    refine rg_quiet rfl rfl rfl rfl ?_; intro K hK; go_big_quiet_op; go_big_quiet_on
    refine rg_quiet rfl rfl rfl rfl ?_; intro K hK; go_big_quiet_op; go_big_quiet_on
    refine rg_quiet rfl rfl rfl rfl ?_; intro K hK; go_big_quiet_op; go_big_quiet_on
    refine rg_quiet rfl rfl rfl rfl ?_; intro K hK; go_big_quiet_op; go_big_quiet_on
    refine rg_quiet rfl rfl rfl rfl ?_; intro K hK; go_big_quiet_op; go_big_quiet_on
    refine rg_quiet rfl rfl rfl rfl ?_; intro K hK; go_big_quiet_op; go_big_quiet_on
    refine rg_quiet rfl rfl rfl rfl ?_; intro K hK; go_big_quiet_op; go_big_quiet_on
    refine rg_quiet rfl rfl rfl rfl ?_; intro K hK; go_big_quiet_op; go_big_quiet_on
    refine rg_quiet rfl rfl rfl rfl ?_; intro K hK; go_big_quiet_op; go_big_quiet_on
    refine rel_nil fun w5 hE5 _ => ?_
    clear x0 y0 y1 y2 y3 y4 x1 x2 x3 x4
    go_wp2_with fail
    go_roundw
    case rel =>
     refine ⟨k + 1, by omega, by go_num, fun j hj hl => ?_, hE.trans hE5⟩
     by_cases e : j < k
     ·exact HK.out j e hl
     ·obtain rfl : j = k := by omega
      rw [← HD.out]
      exact (keyC_less d c).2 hless
    case measure => simp [intOf]; omega
   ·have hlf : Op.bytesLess d.name.toList c.name.toList = false := by simpa using hless
    have hin5 := cols_take (hin.ext (hE0.trans hE)) hk HN.out
    obtain ⟨P, hP⟩ : ∃ P, P = l.take k := ⟨_, rfl⟩
    have hPl : P.length ≤ n := by rw [hP, List.length_take]; omega
    rw [← hP] at hin5
    have HP := Lib.hid hP
    clear hP
    by_cases heq : (d.name.toList == c.name.toList) = true
    ·go_wp2_with fail
     refine wp_region_tab 14 [] (by kernel_rfl) (by kernel_rfl) (by kernel_rfl) trivial ?_
     replace x0 := held x0
     replace y0 := held y0
     refine rg_quiet rfl rfl rfl rfl ?_; intro K hK; go_big_quiet_op; go_big_quiet_on
     refine rg_quiet rfl rfl rfl rfl ?_; intro K hK; go_big_quiet_op; go_big_quiet_on
     refine rg_quiet rfl rfl rfl rfl ?_; intro K hK; go_big_quiet_op; go_big_quiet_on
     refine rg_quiet rfl rfl rfl rfl ?_; intro K hK; go_big_quiet_op; go_big_quiet_on
     refine rg_quiet rfl rfl rfl rfl ?_; intro K hK; go_big_quiet_op; go_big_quiet_on
     refine rg_quiet rfl rfl rfl rfl ?_; intro K hK; go_big_quiet_op; go_big_quiet_on
     refine rg_quiet rfl rfl rfl rfl ?_; intro K hK; go_big_quiet_op; go_big_quiet_on
     refine rg_quiet rfl rfl rfl rfl ?_; intro K hK; go_big_quiet_op; go_big_quiet_on
     refine rg_quiet rfl rfl rfl rfl ?_; intro K hK; go_big_quiet_op; go_big_quiet_on
     refine rg_quiet rfl rfl rfl rfl ?_; intro K hK; go_big_quiet_op; go_big_quiet_on
     refine rg_quiet rfl rfl rfl rfl ?_; intro K hK; go_big_quiet_op; go_big_quiet_on
     refine rg_quiet rfl rfl rfl rfl ?_; intro K hK; go_big_quiet_op; go_big_quiet_on
     refine rg_quiet rfl rfl rfl rfl ?_; intro K hK; go_big_quiet_op; go_big_quiet_on
     refine rg_quiet rfl rfl rfl rfl ?_; intro K hK; go_big_quiet_op; go_big_quiet_on
     refine rel_nil fun w5 hE5 _ => ?_
     clear x0 y0 y1 y2 y3 y4 x1 x2 x3 x4
     replace hin5 := hin5.ext hE5
     go_wp2_with (at_builtin; go_must (refine appCols w5 rfl (.const (.slice none 0 0)) (.tmp 25) rfl w5.heap.size (Nat.le_refl _) _ [] (World.ownsRow_nil _ _ _ _) (by rfl) _ P hin5 (by rfl) (by simp; omega) ?_); intro v6 w6 hown6 hg6; rw [List.nil_append] at hown6; obtain ⟨a6, c6, rfl⟩ := own_shape hown6)
     have hE56 : Ext w5 w6 := (Ext.refl w5).grown hg6 (fun q hq => by cases hq)
     have hEw6 : Ext w w6 := ((hE0.trans hE).trans hE5).trans hE56
     have hb6 := hb.ext (hE5.trans hE56)
     obtain ⟨x0, x1, x2, x3, x4⟩ := hb6.co
     obtain ⟨y0, y1, y2, y3, y4⟩ := HAT.out.ext hEw6
     clear hin5
     refine wp_region_tab 14 [] (by kernel_rfl) (by kernel_rfl) (by kernel_rfl) trivial ?_
     replace x0 := held x0
     replace y0 := held y0
     refine rg_quiet rfl rfl rfl rfl ?_; intro K hK; go_big_quiet_op; go_big_quiet_on
     refine rg_quiet rfl rfl rfl rfl ?_; intro K hK; go_big_quiet_op; go_big_quiet_on
     refine rg_quiet rfl rfl rfl rfl ?_; intro K hK; go_big_quiet_op; go_big_quiet_on
     refine rg_quiet rfl rfl rfl rfl ?_; intro K hK; go_big_quiet_op; go_big_quiet_on
     refine rg_quiet rfl rfl rfl rfl ?_; intro K hK; go_big_quiet_op; go_big_quiet_on
     refine rg_quiet rfl rfl rfl rfl ?_; intro K hK; go_big_quiet_op; go_big_quiet_on
     refine rg_quiet rfl rfl rfl rfl ?_; intro K hK; go_big_quiet_op; go_big_quiet_on
     refine rg_quiet rfl rfl rfl rfl ?_; intro K hK; go_big_quiet_op; go_big_quiet_on
     refine rg_quiet rfl rfl rfl rfl ?_; intro K hK; go_big_quiet_op; go_big_quiet_on
     refine rg_quiet rfl rfl rfl rfl ?_; intro K hK; go_big_quiet_op; go_big_quiet_on
     refine rg_quiet rfl rfl rfl rfl ?_; intro K hK; go_big_quiet_op; go_big_quiet_on
     refine rg_quiet rfl rfl rfl rfl ?_; intro K hK; go_big_quiet_op; go_big_quiet_on
     refine rg_quiet rfl rfl rfl rfl ?_; intro K hK; go_big_quiet_op; go_big_quiet_on
     refine rg_quiet rfl rfl rfl rfl ?_; intro K hK; go_big_quiet_op; go_big_quiet_on
     refine rel_nil fun w7 hE7 _ => ?_
     clear x0 y0 y1 y2 y3 y4 x1 x2 x3 x4
     obtain ⟨x0, x1, x2, x3, x4⟩ := (hb6.ext hE7).co
     obtain ⟨y0, y1, y2, y3, y4⟩ := HAT.out.ext (hEw6.trans hE7)
     replace hown6 := ownsRow_ext hown6 hE7
     go_wp2_with fail
     refine wp_region_tab 13 [(10, fun v _ => v = (.agg #[.string (joinCl d.cell c.cell).val, .bool (joinCl d.cell c.cell).dead, .int .i64 (joinCl d.cell c.cell).at_, .int .i64 (joinCl d.cell c.cell).fin])), (12, fun v x => ∃ b, v = .slice (some ⟨b, 0, none⟩) 1 1 ∧ BoxAt x b (co5 ⟨c.name, joinCl d.cell c.cell⟩) 69)] (by kernel_rfl) (by kernel_rfl) (by kernel_rfl) ⟨stays_eq _, fun _ _ _ hE ⟨b, e, h⟩ => ⟨b, e, h.ext hE⟩, trivial⟩ ?_
     replace x0 := held x0
     replace x1 := held x1
     replace x2 := held x2
     replace x3 := held x3
     replace x4 := held x4
     replace y0 := held y0
     replace y1 := held y1
     replace y2 := held y2
     replace y3 := held y3
     replace y4 := held y4
     refine rg_quiet rfl rfl rfl rfl ?_; intro K hK; go_big_quiet_op; go_big_quiet_on
     refine rg_quiet rfl rfl rfl rfl ?_; intro K hK; go_big_quiet_op; go_big_quiet_on
     refine rg_quiet rfl rfl rfl rfl ?_; intro K hK; go_big_quiet_op; go_big_quiet_on
     refine rg_quiet rfl rfl rfl rfl ?_; intro K hK; go_big_quiet_op; go_big_quiet_on
     refine rg_quiet rfl rfl rfl rfl ?_; intro K hK; go_big_quiet_op; go_big_quiet_on
     refine rg_quiet rfl rfl rfl rfl ?_; intro K hK; go_big_quiet_op; go_big_quiet_on
     refine rg_quiet rfl rfl rfl rfl ?_; intro K hK; go_big_quiet_op; go_big_quiet_on
     refine rg_quiet rfl rfl rfl rfl ?_; intro K hK; go_big_quiet_op; go_big_quiet_on
     refine rg_quiet rfl rfl rfl rfl ?_; intro K hK; go_big_quiet_op; go_big_quiet_on
     refine rg_quiet rfl rfl rfl rfl ?_; intro K hK; go_big_quiet_op; go_big_quiet_on
     refine rg_val [] rfl rfl rfl (by kernel_rfl) (fun y hE hf => ?_) ?_
     ·go_simp
      exact (rjoin_c _ _ _ _ _ _ _ _ y).mono fun e w' ⟨he, hw⟩ => ⟨_, he, rg_done hE hw rfl⟩
     simp only [Act.put, List.setIfInBounds_toArray, List.set_cons_zero, List.set_cons_succ]
     refine rg_quiet rfl rfl rfl rfl ?_; intro K hK; go_big_quiet_op; go_big_quiet_on
     refine rg_fact [] rfl rfl rfl (by kernel_rfl) (fun y hE hf => ?_) (fun v12 y12 hE12 hG12 h12 => ?_)
     ·go_simp
      exact rg_doneR hE ((Ext.refl y).alloc _) ⟨_, rfl, BoxAt.made y _ _⟩
     obtain ⟨b12, rfl, _⟩ := h12
     clear hE12 hG12
     simp only [Act.put, List.setIfInBounds_toArray, List.set_cons_zero, List.set_cons_succ]
     refine rel_tail rfl rfl fun w8 hE8 hG => ?_
     obtain ⟨b12', e12, hbx⟩ := (hG 12).2 rfl
     cases e12
     replace hown6 := ownsRow_ext hown6 hE8
     have hcs := cols_box hbx
     have hEw8 := (hEw6.trans hE7).trans hE8
     have hB : w.heap.size + 1 ≤ w5.heap.size := by have := hb.lt; have := hE5.le; omega
     have hnm : (⟨c.name, joinCl d.cell c.cell⟩ : Co) = joinCo d c := by
      have e : d.name = c.name := name_of (by unfold kCo; rw [← ByteArray.toList_eq, ← ByteArray.toList_eq]; simpa using heq)
      unfold joinCo
      rw [e]
     rw [hnm] at hcs
     clear hnm
     clear hG x0 x1 x2 x3 x4 y0 y1 y2 y3 y4 hbx
     go_wp2_with (first
      | ((guard_target =~ wpList _ _ _ (Oper.mk (some 54) _ _ _ _ _ :: _) _ _); at_builtin; go_must (refine appCols w8 rfl (.tmp 41) (.tmp 53) rfl w5.heap.size (Nat.le_trans hE56.le (Nat.le_trans hE7.le hE8.le)) _ P hown6 (by rfl) _ [joinCo d c] hcs (by rfl) (by simp; omega) ?_); intro v9 w9 hown9 hg9; obtain ⟨P2, hP2⟩ : ∃ P2, P2 = P ++ [joinCo d c] := ⟨_, rfl⟩; rw [← hP2] at hown9; have hPl2 : P2.length ≤ n + 1 := (by rw [hP2]; simp; omega); replace hP2 := Lib.hid hP2; obtain ⟨a9, c9, rfl⟩ := own_shape hown9; have hEw9 : Ext w w9 := hEw8.grown hg9 (fun q hq => by have := (hown6.lt q hq).1; omega))
      | ((guard_target =~ wpList _ _ _ (Oper.mk (some 59) _ _ _ _ _ :: _) _ _); go_must (refine wpList_from rfl und_Cols (size := 5) (by kernel_rfl) (.tmp 56) (.tmp 58) rfl rfl rfl hlt ?_); simp only [Act.put, List.setIfInBounds_toArray, List.set_cons_zero, List.set_cons_succ])
      | ((guard_target =~ wpList _ _ _ (Oper.mk (some 60) _ _ _ _ _ :: _) _ _); at_builtin; go_must (refine appCols w9 rfl (.tmp 55) (.tmp 59) rfl w5.heap.size (Nat.le_trans hE56.le (Nat.le_trans (Nat.le_trans hE7.le hE8.le) hg9.size)) _ P2 hown9 (by rfl) _ (l.drop (k + 1)) (cols_drop (hin.ext hEw9) hlt HN.out) (by rfl) (by have := HN.out; simp; omega) ?_); intro v10 w10 hown10 hg10; have hEw10 : Ext w w10 := hEw9.grown hg10 (fun q hq => by have := (hown9.lt q hq).1; omega)))
     go_ret
     have hl : P2 ++ l.drop (k + 1) = mergeCo l [c] := by
      have hz : keyC l[k] c = 0 := by rw [← HD.out]; exact (keyC_zero d c).2 heq
      have := mergeG_hit (join := joinCo) c l k hkl (fun j h hl => HK.out j h hl) hz
      rw [← HD.out, ← HP.out] at this
      rw [hP2.out, List.append_assoc]
      exact this.symm
     rw [hl] at hown10
     exact ⟨_, rfl, own_mono hB hown10, hEw10⟩
    ·--REST
     have hef : (d.name.toList == c.name.toList) = false := by simpa using heq
     go_wp2_with fail
     refine wp_region_tab 14 [] (by kernel_rfl) (by kernel_rfl) (by kernel_rfl) trivial ?_
     replace x0 := held x0
     replace y0 := held y0
     refine rg_quiet rfl rfl rfl rfl ?_; intro K hK; go_big_quiet_op; go_big_quiet_on
     refine rg_quiet rfl rfl rfl rfl ?_; intro K hK; go_big_quiet_op; go_big_quiet_on
     refine rg_quiet rfl rfl rfl rfl ?_; intro K hK; go_big_quiet_op; go_big_quiet_on
     refine rg_quiet rfl rfl rfl rfl ?_; intro K hK; go_big_quiet_op; go_big_quiet_on
     refine rg_quiet rfl rfl rfl rfl ?_; intro K hK; go_big_quiet_op; go_big_quiet_on
     refine rg_quiet rfl rfl rfl rfl ?_; intro K hK; go_big_quiet_op; go_big_quiet_on
     refine rg_quiet rfl rfl rfl rfl ?_; intro K hK; go_big_quiet_op; go_big_quiet_on
     refine rg_quiet rfl rfl rfl rfl ?_; intro K hK; go_big_quiet_op; go_big_quiet_on
     refine rg_quiet rfl rfl rfl rfl ?_; intro K hK; go_big_quiet_op; go_big_quiet_on
     refine rg_quiet rfl rfl rfl rfl ?_; intro K hK; go_big_quiet_op; go_big_quiet_on
     refine rg_quiet rfl rfl rfl rfl ?_; intro K hK; go_big_quiet_op; go_big_quiet_on
     refine rg_quiet rfl rfl rfl rfl ?_; intro K hK; go_big_quiet_op; go_big_quiet_on
     refine rg_quiet rfl rfl rfl rfl ?_; intro K hK; go_big_quiet_op; go_big_quiet_on
     refine rg_quiet rfl rfl rfl rfl ?_; intro K hK; go_big_quiet_op; go_big_quiet_on
     refine rel_nil fun w5 hE5 _ => ?_
     clear x0 y0 y1 y2 y3 y4 x1 x2 x3 x4
     replace hin5 := hin5.ext hE5
     go_wp2_with (at_builtin; go_must (refine appCols w5 rfl (.const (.slice none 0 0)) (.tmp 25) rfl w5.heap.size (Nat.le_refl _) _ [] (World.ownsRow_nil _ _ _ _) (by rfl) _ P hin5 (by rfl) (by simp; omega) ?_); intro v6 w6 hown6 hg6; rw [List.nil_append] at hown6; obtain ⟨a6, c6, rfl⟩ := own_shape hown6)
     have hE56 : Ext w5 w6 := (Ext.refl w5).grown hg6 (fun q hq => by cases hq)
     have hEw6 : Ext w w6 := ((hE0.trans hE).trans hE5).trans hE56
     have hb6 := hb.ext (hE5.trans hE56)
     obtain ⟨x0, x1, x2, x3, x4⟩ := hb6.co
     obtain ⟨y0, y1, y2, y3, y4⟩ := HAT.out.ext hEw6
     clear hin5
     refine wp_region_tab 14 [] (by kernel_rfl) (by kernel_rfl) (by kernel_rfl) trivial ?_
     replace x0 := held x0
     replace y0 := held y0
     refine rg_quiet rfl rfl rfl rfl ?_; intro K hK; go_big_quiet_op; go_big_quiet_on
     refine rg_quiet rfl rfl rfl rfl ?_; intro K hK; go_big_quiet_op; go_big_quiet_on
     refine rg_quiet rfl rfl rfl rfl ?_; intro K hK; go_big_quiet_op; go_big_quiet_on
     refine rg_quiet rfl rfl rfl rfl ?_; intro K hK; go_big_quiet_op; go_big_quiet_on
     refine rg_quiet rfl rfl rfl rfl ?_; intro K hK; go_big_quiet_op; go_big_quiet_on
     refine rg_quiet rfl rfl rfl rfl ?_; intro K hK; go_big_quiet_op; go_big_quiet_on
     refine rg_quiet rfl rfl rfl rfl ?_; intro K hK; go_big_quiet_op; go_big_quiet_on
     refine rg_quiet rfl rfl rfl rfl ?_; intro K hK; go_big_quiet_op; go_big_quiet_on
     refine rg_quiet rfl rfl rfl rfl ?_; intro K hK; go_big_quiet_op; go_big_quiet_on
     refine rg_quiet rfl rfl rfl rfl ?_; intro K hK; go_big_quiet_op; go_big_quiet_on
     refine rg_quiet rfl rfl rfl rfl ?_; intro K hK; go_big_quiet_op; go_big_quiet_on
     refine rg_quiet rfl rfl rfl rfl ?_; intro K hK; go_big_quiet_op; go_big_quiet_on
     refine rg_quiet rfl rfl rfl rfl ?_; intro K hK; go_big_quiet_op; go_big_quiet_on
     refine rg_quiet rfl rfl rfl rfl ?_; intro K hK; go_big_quiet_op; go_big_quiet_on
     refine rel_nil fun w7 hE7 _ => ?_
     clear x0 y0 y1 y2 y3 y4 x1 x2 x3 x4
     have hb7 := hb6.ext hE7
     replace hown6 := ownsRow_ext hown6 hE7
     obtain ⟨x0, x1, x2, x3, x4⟩ := hb7.co
     have hEw7 := hEw6.trans hE7
     have hin7 := hin.ext hEw7
     have hB : w.heap.size + 1 ≤ w5.heap.size := by have := hb.lt; have := hE5.le; omega
     have hlt6 := hown6.lt
     obtain ⟨P2, hP2⟩ : ∃ P2, P2 = P ++ [c] := ⟨_, rfl⟩
     have hPl2 : P2.length = P.length + 1 := by rw [hP2]; simp
     have hcc : coCells P ++ (co5 c).toList = coCells P2 := by rw [hP2, coCells_append]; rfl
     have HP2 := Lib.hid hP2
     have HCC := Lib.hid hcc
     have HPL2 := Lib.hid hPl2
     clear hP2 hcc hPl2
     go_wp2_with fail
     refine wp_region_relE (PutC w w7 w5.heap.size c (.slice a6 P.length c6) P) (PutE (.slice a6 P.length c6) w5.heap.size) (Tab.atE [(1, fun v _ => v = (.agg #[.string c.name, .string c.cell.val, .bool c.cell.dead, .int .i64 c.cell.at_, .int .i64 c.cell.fin])), (2, fun v x => ∃ b, v = .slice (some ⟨b, 0, none⟩) 1 1 ∧ w7.heap.size ≤ b ∧ BoxAt x b (co5 c) 69), (3, fun v x => x.ownsRow w5.heap.size 69 5 v P2.length (coCells P2)), (6, fun v _ => v = dropV (some ⟨b, o, none⟩) n cp k 5)])
      (Tab.staysE ⟨fun _ _ _ _ _ _ h => h, fun _ _ _ _ _ hR ⟨b, e, hb, hx⟩ => ⟨b, e, hb, PutE_far hlt6 hR hb hx⟩, fun _ hj _ _ _ hR h => ownsRow_ext h (PutE_off hj hR), fun _ _ _ _ _ _ h => h, trivial⟩)
      7 (by kernel_rfl) (by kernel_rfl) (by kernel_rfl) ⟨hEw7.trans (Ext.refl w7).drew, ownsRow_ext hown6 (Ext.refl w7).drew, hb7.ext (Ext.refl w7).drew, (Ext.refl w7).drew.le⟩ ?_
     refine relE_quiet rfl rfl rfl rfl ?_; intro K hK; go_big_quiet_op; (first | refine ⟨_, fun _ _ => rfl, hK _ ?_⟩ | refine hK _ ?_); clear hK K
     refine relE_val [] rfl rfl rfl (by kernel_rfl) (fun y hy hf => ?_) ?_
     ·obtain ⟨z0, z1, z2, z3, z4⟩ := hy.box.co
      go_simp
      exact ⟨hy, PutE_ext (by decide) (Ext.refl y), rfl⟩
     simp only [Act.put, List.setIfInBounds_toArray, List.set_cons_zero, List.set_cons_succ]
     refine relE_fact [] rfl rfl rfl (by kernel_rfl) (fun y hy hf => ?_) (fun v12 y12 hC12 hG12 h12 => ?_)
     ·go_simp
      exact ⟨hy.ext ((Ext.refl y).alloc _), PutE_ext (by decide) ((Ext.refl y).alloc _), _, rfl, hy.size, BoxAt.made y _ _⟩
     obtain ⟨b12, rfl, _⟩ := h12
     clear hC12 hG12
     simp only [Act.put, List.setIfInBounds_toArray, List.set_cons_zero, List.set_cons_succ]
     refine relE_fact [2] rfl rfl rfl (by kernel_rfl) (fun y hy hf => ?_) (fun v13 y13 hC13 hG13 h13 => ?_)
     ·obtain ⟨b, e, hb', hbox⟩ := (hf 2 (by simp)).2 rfl
      cases e
      refine yields_append info_Col und_Cols rfl (by decide) (.tmp 61) (.tmp 63) rfl w5.heap.size (by have := hy.size; have := hE7.le; have := hE56.le; omega) _ P.length (coCells P) hy.own (by rfl) b12 1 1 (co5 c).toList (by rfl) (by rfl) (fun j u hj => by rw [hbox.cell j]; simpa using hj) (by simp [co5, Value.oneCell']) (by unfold maxLen; omega) (by omega) ?_
      intro v' y' hown' hg hkeep
      rw [HCC.out, ← HPL2.out] at hown'
      refine ⟨⟨hy.extw.grown hg (fun q hq => by have := (hy.own.lt q hq).1; omega), hkeep, hy.box.grown hg (fun e => by have := (hy.own.lt _ e.symm).1; omega), Nat.le_trans hy.size hg.size⟩, ?_, hown'⟩
      unfold PutE
      rw [if_pos rfl]
      exact hg
     obtain ⟨a13, c13, rfl⟩ := own_shape h13
     clear hC13 hG13 h13
     simp only [Act.put, List.setIfInBounds_toArray, List.set_cons_zero, List.set_cons_succ]
     refine relE_quiet rfl rfl rfl rfl ?_; intro K hK; go_big_quiet_op; (first | refine ⟨_, fun _ _ => rfl, hK _ ?_⟩ | refine hK _ ?_); clear hK K
     refine relE_quiet rfl rfl rfl rfl ?_; intro K hK; go_big_quiet_op; (first | refine ⟨_, fun _ _ => rfl, hK _ ?_⟩ | refine hK _ ?_); clear hK K
     refine relE_val [] rfl rfl rfl (by kernel_rfl) (fun y hy hf => ?_) ?_
     ·exact yields_from und_Cols (size := 5) (by kernel_rfl) (.tmp 65) (.tmp 66) rfl rfl rfl hk ⟨hy, PutE_ext (by decide) (Ext.refl y), rfl⟩
     simp only [Act.put, List.setIfInBounds_toArray, List.set_cons_zero, List.set_cons_succ]
     refine relE_tail rfl rfl fun w8 hC hG => ?_
     have hown8 : w8.ownsRow w5.heap.size 69 5 (.slice a13 P2.length c13) P2.length (coCells P2) := (hG 3).2 rfl
     have hsz8 := hC.size
     have hEw8 := hC.extw
     clear hG hC x0 x1 x2 x3 x4
     go_wp2_with (at_builtin; go_must (refine appCols w8 rfl (.tmp 64) (.tmp 67) rfl w5.heap.size (by have := hE7.le; have := hE56.le; omega) _ P2 hown8 (by rfl) _ (l.drop k) (cols_drop (hin.ext hEw8) hk HN.out) (by rfl) (by have := HN.out; have := HPL2.out; simp; omega) ?_); intro v10 w10 hown10 hg10; have hEw10 : Ext w w10 := hEw8.grown hg10 (fun q hq => by have := (hown8.lt q hq).1; omega))
     go_ret
     have hl : P2 ++ l.drop k = mergeCo l [c] := by
      have hz : 0 < keyC l[k] c := by
       rw [← HD.out]
       have h1 := mt (keyC_less d c).1 (by rw [hlf]; decide)
       have h2 := mt (keyC_zero d c).1 (by rw [hef]; decide)
       omega
      have := mergeG_new (join := joinCo) c l k hkl (fun j h hl => HK.out j h hl) hz
      rw [← HP.out] at this
      rw [HP2.out, List.append_assoc]
      exact this.symm
     rw [hl] at hown10
     exact ⟨_, rfl, own_mono hB hown10, hEw10⟩
  ·obtain rfl : k = n := by omega
   have hin5 := cols_take (hin.ext (hE0.trans hE)) hk HN.out
   obtain ⟨P, hP⟩ : ∃ P, P = l.take k := ⟨_, rfl⟩
   have hPl : P.length ≤ k := by rw [hP, List.length_take]; omega
   rw [← hP] at hin5
   have HP := Lib.hid hP
   clear hP
   go_wp2_with fail
   refine wp_region_tab 14 [] (by kernel_rfl) (by kernel_rfl) (by kernel_rfl) trivial ?_
   refine rg_quiet rfl rfl rfl rfl ?_; intro K hK; go_big_quiet_op; go_big_quiet_on
   refine rg_quiet rfl rfl rfl rfl ?_; intro K hK; go_big_quiet_op; go_big_quiet_on
   refine rg_quiet rfl rfl rfl rfl ?_; intro K hK; go_big_quiet_op; go_big_quiet_on
   refine rg_quiet rfl rfl rfl rfl ?_; intro K hK; go_big_quiet_op; go_big_quiet_on
   refine rg_quiet rfl rfl rfl rfl ?_; intro K hK; go_big_quiet_op; go_big_quiet_on
   refine rel_skip rfl rfl ?_
   simp only [Act.put, List.setIfInBounds_toArray, List.set_cons_zero, List.set_cons_succ]
   refine rel_skip rfl rfl ?_
   simp only [Act.put, List.setIfInBounds_toArray, List.set_cons_zero, List.set_cons_succ]
   refine rel_skip rfl rfl ?_
   simp only [Act.put, List.setIfInBounds_toArray, List.set_cons_zero, List.set_cons_succ]
   refine rel_skip rfl rfl ?_
   simp only [Act.put, List.setIfInBounds_toArray, List.set_cons_zero, List.set_cons_succ]
   refine rel_skip rfl rfl ?_
   simp only [Act.put, List.setIfInBounds_toArray, List.set_cons_zero, List.set_cons_succ]
   refine rel_skip rfl rfl ?_
   simp only [Act.put, List.setIfInBounds_toArray, List.set_cons_zero, List.set_cons_succ]
   refine rel_skip rfl rfl ?_
   simp only [Act.put, List.setIfInBounds_toArray, List.set_cons_zero, List.set_cons_succ]
   refine rel_skip rfl rfl ?_
   simp only [Act.put, List.setIfInBounds_toArray, List.set_cons_zero, List.set_cons_succ]
   refine rg_quiet rfl rfl rfl rfl ?_; intro K hK; go_big_quiet_op; go_big_quiet_on
   refine rel_nil fun w5 hE5 _ => ?_
   clear x1 x2 x3 x4 x0
   replace hin5 := hin5.ext hE5
   go_wp2_with (at_builtin; go_must (refine appCols w5 rfl (.const (.slice none 0 0)) (.tmp 25) rfl w5.heap.size (Nat.le_refl _) _ [] (World.ownsRow_nil _ _ _ _) (by rfl) _ P hin5 (by rfl) (by simp; omega) ?_); intro v6 w6 hown6 hg6; rw [List.nil_append] at hown6; obtain ⟨a6, c6, rfl⟩ := own_shape hown6)
   have hE56 : Ext w5 w6 := (Ext.refl w5).grown hg6 (fun q hq => by cases hq)
   have hEw6 : Ext w w6 := ((hE0.trans hE).trans hE5).trans hE56
   have hb6 := hb.ext (hE5.trans hE56)
   refine wp_region_tab 14 [] (by kernel_rfl) (by kernel_rfl) (by kernel_rfl) trivial ?_
   refine rg_quiet rfl rfl rfl rfl ?_; intro K hK; go_big_quiet_op; go_big_quiet_on
   refine rg_quiet rfl rfl rfl rfl ?_; intro K hK; go_big_quiet_op; go_big_quiet_on
   refine rg_quiet rfl rfl rfl rfl ?_; intro K hK; go_big_quiet_op; go_big_quiet_on
   refine rg_quiet rfl rfl rfl rfl ?_; intro K hK; go_big_quiet_op; go_big_quiet_on
   refine rg_quiet rfl rfl rfl rfl ?_; intro K hK; go_big_quiet_op; go_big_quiet_on
   refine rel_skip rfl rfl ?_
   simp only [Act.put, List.setIfInBounds_toArray, List.set_cons_zero, List.set_cons_succ]
   refine rel_skip rfl rfl ?_
   simp only [Act.put, List.setIfInBounds_toArray, List.set_cons_zero, List.set_cons_succ]
   refine rel_skip rfl rfl ?_
   simp only [Act.put, List.setIfInBounds_toArray, List.set_cons_zero, List.set_cons_succ]
   refine rel_skip rfl rfl ?_
   simp only [Act.put, List.setIfInBounds_toArray, List.set_cons_zero, List.set_cons_succ]
   refine rel_skip rfl rfl ?_
   simp only [Act.put, List.setIfInBounds_toArray, List.set_cons_zero, List.set_cons_succ]
   refine rel_skip rfl rfl ?_
   simp only [Act.put, List.setIfInBounds_toArray, List.set_cons_zero, List.set_cons_succ]
   refine rel_skip rfl rfl ?_
   simp only [Act.put, List.setIfInBounds_toArray, List.set_cons_zero, List.set_cons_succ]
   refine rel_skip rfl rfl ?_
   simp only [Act.put, List.setIfInBounds_toArray, List.set_cons_zero, List.set_cons_succ]
   refine rg_quiet rfl rfl rfl rfl ?_; intro K hK; go_big_quiet_op; go_big_quiet_on
   refine rel_nil fun w7 hE7 _ => ?_
   have hb7 := hb6.ext hE7
   replace hown6 := ownsRow_ext hown6 hE7
   obtain ⟨x0, x1, x2, x3, x4⟩ := hb7.co
   have hEw7 := hEw6.trans hE7
   have hin7 := hin.ext hEw7
   have hB : w.heap.size + 1 ≤ w5.heap.size := by have := hb.lt; have := hE5.le; omega
   have hlt6 := hown6.lt
   obtain ⟨P2, hP2⟩ : ∃ P2, P2 = P ++ [c] := ⟨_, rfl⟩
   have hPl2 : P2.length = P.length + 1 := by rw [hP2]; simp
   have hcc : coCells P ++ (co5 c).toList = coCells P2 := by rw [hP2, coCells_append]; rfl
   have HP2 := Lib.hid hP2
   have HCC := Lib.hid hcc
   have HPL2 := Lib.hid hPl2
   clear hP2 hcc hPl2
   go_wp2_with fail
   refine wp_region_relE (PutC w w7 w5.heap.size c (.slice a6 P.length c6) P) (PutE (.slice a6 P.length c6) w5.heap.size) (Tab.atE [(1, fun v _ => v = (.agg #[.string c.name, .string c.cell.val, .bool c.cell.dead, .int .i64 c.cell.at_, .int .i64 c.cell.fin])), (2, fun v x => ∃ b, v = .slice (some ⟨b, 0, none⟩) 1 1 ∧ w7.heap.size ≤ b ∧ BoxAt x b (co5 c) 69), (3, fun v x => x.ownsRow w5.heap.size 69 5 v P2.length (coCells P2)), (6, fun v _ => v = dropV a k cp k 5)])
    (Tab.staysE ⟨fun _ _ _ _ _ _ h => h, fun _ _ _ _ _ hR ⟨b, e, hb, hx⟩ => ⟨b, e, hb, PutE_far hlt6 hR hb hx⟩, fun _ hj _ _ _ hR h => ownsRow_ext h (PutE_off hj hR), fun _ _ _ _ _ _ h => h, trivial⟩)
    7 (by kernel_rfl) (by kernel_rfl) (by kernel_rfl) ⟨hEw7.trans (Ext.refl w7).drew, ownsRow_ext hown6 (Ext.refl w7).drew, hb7.ext (Ext.refl w7).drew, (Ext.refl w7).drew.le⟩ ?_
   refine relE_quiet rfl rfl rfl rfl ?_; intro K hK; go_big_quiet_op; (first | refine ⟨_, fun _ _ => rfl, hK _ ?_⟩ | refine hK _ ?_); clear hK K
   refine relE_val [] rfl rfl rfl (by kernel_rfl) (fun y hy hf => ?_) ?_
   ·obtain ⟨z0, z1, z2, z3, z4⟩ := hy.box.co
    go_simp
    exact ⟨hy, PutE_ext (by decide) (Ext.refl y), rfl⟩
   simp only [Act.put, List.setIfInBounds_toArray, List.set_cons_zero, List.set_cons_succ]
   refine relE_fact [] rfl rfl rfl (by kernel_rfl) (fun y hy hf => ?_) (fun v12 y12 hC12 hG12 h12 => ?_)
   ·go_simp
    exact ⟨hy.ext ((Ext.refl y).alloc _), PutE_ext (by decide) ((Ext.refl y).alloc _), _, rfl, hy.size, BoxAt.made y _ _⟩
   obtain ⟨b12, rfl, _⟩ := h12
   clear hC12 hG12
   simp only [Act.put, List.setIfInBounds_toArray, List.set_cons_zero, List.set_cons_succ]
   refine relE_fact [2] rfl rfl rfl (by kernel_rfl) (fun y hy hf => ?_) (fun v13 y13 hC13 hG13 h13 => ?_)
   ·obtain ⟨b, e, hb', hbox⟩ := (hf 2 (by simp)).2 rfl
    cases e
    refine yields_append info_Col und_Cols rfl (by decide) (.tmp 61) (.tmp 63) rfl w5.heap.size (by have := hy.size; have := hE7.le; have := hE56.le; omega) _ P.length (coCells P) hy.own (by rfl) b12 1 1 (co5 c).toList (by rfl) (by rfl) (fun j u hj => by rw [hbox.cell j]; simpa using hj) (by simp [co5, Value.oneCell']) (by unfold maxLen; omega) (by omega) ?_
    intro v' y' hown' hg hkeep
    rw [HCC.out, ← HPL2.out] at hown'
    refine ⟨⟨hy.extw.grown hg (fun q hq => by have := (hy.own.lt q hq).1; omega), hkeep, hy.box.grown hg (fun e => by have := (hy.own.lt _ e.symm).1; omega), Nat.le_trans hy.size hg.size⟩, ?_, hown'⟩
    unfold PutE
    rw [if_pos rfl]
    exact hg
   obtain ⟨a13, c13, rfl⟩ := own_shape h13
   clear hC13 hG13 h13
   simp only [Act.put, List.setIfInBounds_toArray, List.set_cons_zero, List.set_cons_succ]
   refine relE_quiet rfl rfl rfl rfl ?_; intro K hK; go_big_quiet_op; (first | refine ⟨_, fun _ _ => rfl, hK _ ?_⟩ | refine hK _ ?_); clear hK K
   refine relE_quiet rfl rfl rfl rfl ?_; intro K hK; go_big_quiet_op; (first | refine ⟨_, fun _ _ => rfl, hK _ ?_⟩ | refine hK _ ?_); clear hK K
   refine relE_val [] rfl rfl rfl (by kernel_rfl) (fun y hy hf => ?_) ?_
   ·exact yields_from und_Cols (size := 5) (by kernel_rfl) (.tmp 65) (.tmp 66) rfl rfl rfl (Nat.le_refl _) ⟨hy, PutE_ext (by decide) (Ext.refl y), rfl⟩
   simp only [Act.put, List.setIfInBounds_toArray, List.set_cons_zero, List.set_cons_succ]
   refine relE_tail rfl rfl fun w8 hC hG => ?_
   have hown8 : w8.ownsRow w5.heap.size 69 5 (.slice a13 P2.length c13) P2.length (coCells P2) := (hG 3).2 rfl
   have hsz8 := hC.size
   have hEw8 := hC.extw
   clear hG hC x0 x1 x2 x3 x4
   go_wp2_with (at_builtin; go_must (refine appCols w8 rfl (.tmp 64) (.tmp 67) rfl w5.heap.size (by have := hE7.le; have := hE56.le; omega) _ P2 hown8 (by rfl) _ (l.drop k) (cols_drop (hin.ext hEw8) (Nat.le_refl _) HN.out) (by rfl) (by have := HN.out; have := HPL2.out; simp; omega) ?_); intro v10 w10 hown10 hg10; have hEw10 : Ext w w10 := hEw8.grown hg10 (fun q hq => by have := (hown8.lt q hq).1; omega))
   go_ret
   have hl : P2 ++ l.drop k = mergeCo l [c] := by
    have := mergeG_end (cmp := keyC) (join := joinCo) c l (fun j hl => HK.out j (by rw [HN.out]; exact hl) hl)
    rw [HP2.out, HP.out, List.append_assoc, show mergeCo l [c] = l ++ [c] from this, List.take_of_length_le (by rw [HN.out]; exact Nat.le_refl _), List.drop_of_length_le (by rw [HN.out]; exact Nat.le_refl _), List.append_nil]
   rw [hl] at hown10
   exact ⟨_, rfl, own_mono hB hown10, hEw10⟩
end Go.Proofs.YtolkhjdododdaaaGreatDoor

/- clerestoryref07.Join. -/
namespace Go.Proofs.YtolkhjdododdaaaGreatDoor
open Go Go.RowKit
attribute [local go_sem] yields yUpon ro8

set_option maxRecDepth 100000 in
set_option maxHeartbeats 8000000 in
theorem join7_any (a b : Ro) (va vb : Value) (w : World) (ha : ColsT w va a.cols) (hb : ColsIn w vb b.cols) (hlen : a.cols.length + b.cols.length ≤ 300000) :
  Calls Tryz.prog 45 #[(.agg #[.string a.key, .string a.live.val, .bool a.live.dead, .int .i64 a.live.at_, .int .i64 a.live.fin, .int .i64 a.gone, .int .i64 a.shade, va]), (.agg #[.string b.key, .string b.live.val, .bool b.live.dead, .int .i64 b.live.at_, .int .i64 b.live.fin, .int .i64 b.gone, .int .i64 b.shade, vb])] w fun e w' => ∃ v', e = .returned (.agg #[.string (foldRo a b).key, .string (foldRo a b).live.val, .bool (foldRo a b).live.dead, .int .i64 (foldRo a b).live.at_, .int .i64 (foldRo a b).live.fin, .int .i64 (foldRo a b).gone, .int .i64 (foldRo a b).shade, v']) ∧ ColsT w' v' (foldRo a b).cols ∧ Ext w w' := by
 obtain ⟨a0, a1, a2, hE⟩ := boxes3 w (ro8 a va) (ro8 b vb) (ro8 ⟨⟨#[]⟩, zeroCl, 0, 0, []⟩ (.slice none 0 0)) 47 47 47
 have ha' := ha.ext hE
 have hb' := hb.ext hE
 obtain ⟨c, hc⟩ : ∃ c, c = joinCl a.live b.live := ⟨_, rfl⟩
 obtain ⟨g, hg⟩ : ∃ g, g = max a.gone b.gone := ⟨_, rfl⟩
 obtain ⟨s, hs⟩ : ∃ s, s = max a.shade b.shade := ⟨_, rfl⟩
 have Hc := Lib.hid hc
 have Hg := Lib.hid hg
 have Hs := Lib.hid hs
 obtain ⟨L, hL⟩ : ∃ L, L = foldG keyC joinCo a.cols b.cols := ⟨_, rfl⟩
 have HL := Lib.hid hL
 unfold foldRo
 rw [← hc, ← hg, ← hs, ← hL]
 clear hc hg hs hL ha
 obtain ⟨aa, ca, rfl⟩ := TIn.shape ha'
 obtain ⟨ab, cb, rfl, hcb, hcbm, hget⟩ := hb.get
 obtain ⟨m, hm⟩ : ∃ m, m = a.cols.length := ⟨_, rfl⟩
 obtain ⟨n, hn⟩ : ∃ n, n = b.cols.length := ⟨_, rfl⟩
 rw [← hm, ← hn] at hlen
 rw [← hm] at a0 hE ha' hb' a1 a2
 rw [← hm]
 rw [← hn] at a0 a1 a2 hE ha' hb' hb hcb
 rw [← hn]
 have HGET := Lib.hid hget
 have HM := Lib.hid hm
 have HN := Lib.hid hn
 clear hget hm hn
 go_enter Tryz.func45, Tryz.ntmps45
 go_wp2_with fail
 obtain ⟨B, hB⟩ : ∃ B, B = w.heap.size + 1 + 1 + 1 := ⟨_, rfl⟩
 have hBs := Nat.le_trans (Nat.le_of_eq hB) (Nat.succ_le_of_lt a2.lt)
 have hB2 : w.heap.size + 1 + 1 < B := by omega
 clear hB
 refine wp_region_in 22 [(6, fun v _ => v = (.agg #[.string c.val, .bool c.dead, .int .i64 c.at_, .int .i64 c.fin])), (11, fun v _ => v = .int .i64 g), (16, fun v _ => v = .int .i64 s), (19, fun v x => x.ownsRow B 69 5 v m (coCells a.cols)), (21, fun v x => ∃ q, v = .pointer (some ⟨q, 0, none⟩) ∧ B ≤ q ∧ BoxAt x q (ro8 ⟨⟨#[]⟩, zeroCl, 0, 0, []⟩ (.slice none 0 0)) 47)] (fun w0 => BoxAt w0 w.heap.size (ro8 a (.slice aa m ca)) 47 ∧ BoxAt w0 (w.heap.size + 1) (ro8 b (.slice ab n cb)) 47 ∧ BoxAt w0 (w.heap.size + 1 + 1) (ro8 ⟨⟨#[]⟩, zeroCl, 0, 0, []⟩ (.slice none 0 0)) 47 ∧ ColsT w0 (.slice aa m ca) a.cols ∧ ColsIn w0 (.slice ab n cb) b.cols ∧ Ext w w0 ∧ B ≤ w0.heap.size) (by kernel_rfl) (by kernel_rfl) (by kernel_rfl) ⟨stays_eq _, stays_eq _, stays_eq _, fun _ _ _ hE h => ownsRow_ext h hE, fun _ _ _ hE ⟨q, e, h1, h2⟩ => ⟨q, e, h1, h2.ext hE⟩, trivial⟩ ⟨a0, a1, a2, ha', hb', hE, hBs⟩ ?_
 clear a0 a1 a2 hE ha' hb' hBs
 rintro w2 ⟨c0, c1, c2, ha', hb', hE, hBw⟩
 have FIN : Hid (∀ wx, Ext w2 wx → BoxAt wx (w.heap.size + 1) (ro8 b (.slice ab n cb)) 47 ∧ BoxAt wx (w.heap.size + 1 + 1) (ro8 ⟨⟨#[]⟩, zeroCl, 0, 0, []⟩ (.slice none 0 0)) 47 ∧ ColsIn wx (.slice ab n cb) b.cols ∧ Ext w wx) := fun wx h => ⟨c1.ext h, c2.ext h, hb'.ext h, hE.trans h⟩
 obtain ⟨x0, x1, x2, x3, x4, x5, x6, x7⟩ := c0.ro
 obtain ⟨y0, y1, y2, y3, y4, y5, y6, y7⟩ := c1.ro
 clear c0 c1 c2 hE hb' y7 y0
 replace x0 := held x0
 replace x1 := held x1
 replace x2 := held x2
 replace x3 := held x3
 replace x4 := held x4
 replace x5 := held x5
 replace x6 := held x6
 replace x7 := held x7
 replace y1 := held y1
 replace y2 := held y2
 replace y3 := held y3
 replace y4 := held y4
 replace y5 := held y5
 replace y6 := held y6
 refine rg_quiet rfl rfl rfl rfl ?_; intro K hK; go_big_quiet_op; go_big_quiet_on
 refine rg_quiet rfl rfl rfl rfl ?_; intro K hK; go_big_quiet_op; go_big_quiet_on
 refine rg_quiet rfl rfl rfl rfl ?_; intro K hK; go_big_quiet_op; go_big_quiet_on
 refine rg_quiet rfl rfl rfl rfl ?_; intro K hK; go_big_quiet_op; go_big_quiet_on
 refine rg_quiet rfl rfl rfl rfl ?_; intro K hK; go_big_quiet_op; go_big_quiet_on
 refine rg_quiet rfl rfl rfl rfl ?_; intro K hK; go_big_quiet_op; go_big_quiet_on
 refine rg_val [] rfl rfl rfl (by kernel_rfl) (fun y hE hf => ?_) ?_
 ·go_simp
  exact (rjoin_c a.live.val a.live.dead a.live.at_ a.live.fin b.live.val b.live.dead b.live.at_ b.live.fin y).mono fun e w' ⟨he, hw⟩ => ⟨_, he, rg_done hE hw (by rw [Hc.out])⟩
 simp only [Act.put, List.setIfInBounds_toArray, List.set_cons_zero, List.set_cons_succ]
 refine rg_quiet rfl rfl rfl rfl ?_; intro K hK; go_big_quiet_op; go_big_quiet_on
 refine rg_quiet rfl rfl rfl rfl ?_; intro K hK; go_big_quiet_op; go_big_quiet_on
 refine rg_quiet rfl rfl rfl rfl ?_; intro K hK; go_big_quiet_op; go_big_quiet_on
 refine rg_quiet rfl rfl rfl rfl ?_; intro K hK; go_big_quiet_op; go_big_quiet_on
 refine rg_val [] rfl rfl rfl (by kernel_rfl) (fun w1 hE hf => ?_) ?_
 ·go_simp
  exact rg_done hE (Ext.refl w1) (by rw [Hg.out])
 simp only [Act.put, List.setIfInBounds_toArray, List.set_cons_zero, List.set_cons_succ]
 refine rg_quiet rfl rfl rfl rfl ?_; intro K hK; go_big_quiet_op; go_big_quiet_on
 refine rg_quiet rfl rfl rfl rfl ?_; intro K hK; go_big_quiet_op; go_big_quiet_on
 refine rg_quiet rfl rfl rfl rfl ?_; intro K hK; go_big_quiet_op; go_big_quiet_on
 refine rg_quiet rfl rfl rfl rfl ?_; intro K hK; go_big_quiet_op; go_big_quiet_on
 refine rg_val [] rfl rfl rfl (by kernel_rfl) (fun w1 hE hf => ?_) ?_
 ·go_simp
  exact rg_done hE (Ext.refl w1) (by rw [Hs.out])
 simp only [Act.put, List.setIfInBounds_toArray, List.set_cons_zero, List.set_cons_succ]
 refine rg_quiet rfl rfl rfl rfl ?_; intro K hK; go_big_quiet_op; go_big_quiet_on
 refine rg_quiet rfl rfl rfl rfl ?_; intro K hK; go_big_quiet_op; go_big_quiet_on
 refine rg_fact [] rfl rfl rfl (by kernel_rfl) (fun y hE hf => ?_) (fun v19 y19 hE19 hG19 h19 => ?_)
 ·refine yields_clone info_Col und_Cols rfl (by decide) (.const (.slice none 0 0)) (.tmp 25) rfl (by rfl) (ha'.ext hE) (by rfl) (coCells_length _) (coCells_one _) (by unfold maxLen; have := HM.out; omega) (by have := HM.out; omega) ?_
  intro v' w' h1 h2
  rw [← HM.out] at h1
  exact rg_doneR hE h2 (own_mono (Nat.le_trans hBw hE.le) h1)
 obtain ⟨a19, c19, rfl⟩ := own_shape h19
 clear hE19 hG19 h19
 simp only [Act.put, List.setIfInBounds_toArray, List.set_cons_zero, List.set_cons_succ]
 refine rg_quiet rfl rfl rfl rfl ?_; intro K hK; go_big_quiet_op; go_big_quiet_on
 refine rg_fact [] rfl rfl rfl (by kernel_rfl) (fun y hE hf => ?_) (fun v5 yy hE5 hG5 h5 => ?_)
 ·go_simp
  exact rg_doneR hE ((Ext.refl y).alloc _) ⟨_, rfl, Nat.le_trans hBw hE.le, BoxAt.made y _ _⟩
 obtain ⟨q5, rfl, hq5, _⟩ := h5
 clear hE5 hG5
 simp only [Act.put, List.setIfInBounds_toArray, List.set_cons_zero, List.set_cons_succ]
 refine rel_tail rfl rfl fun w5 hE5 hG => ?_
 have hown := (hG 19).1.2 rfl
 obtain ⟨q5', e5, _, hbq⟩ := (hG 21).2 rfl
 cases e5
 obtain ⟨c1, c2, hb5, hE⟩ := FIN.out w5 hE5
 clear x0 x1 x2 x3 x4 x5 x6 x7 y1 y2 y3 y4 y5 y6 hE5 hG FIN ha'
 clear hb5
 go_wp2_with (((guard_target =~ wpList _ _ _ (Oper.mk none (Op.store _ (Operand.tmp 5) (Operand.tmp 27)) _ _ _ _ :: _) _ _); go_must (refine storeBox rfl 47 (.tmp 5) (.tmp 27) rfl (q5) _ _ _ (by rfl) (by rfl) (hbq) (by kernel_rfl) (by rfl) (by simp [Value.oneCell']) ?_); intro w6 c6 g6); have hown6 := hown.kept g6 (own_ne_box hown hbq (by decide)); have d1 := c1.grown g6 (fun e => by have := Option.some.inj e; omega); have d2 := c2.grown g6 (fun e => by have := Option.some.inj e; omega); have hX6 := hE.grown g6 (fun q hq => by cases hq; omega))
 clear hown hbq c1 c2 hE g6
 go_loopw [6] (fun i wr => ∃ (k : Nat) (Lc : List Co) (vc : Value), k ≤ n ∧ i = .int .i64 k ∧ BoxAt wr q5 (ro8 ⟨a.key, c, g, s, []⟩ vc) 47 ∧ BoxAt wr (w.heap.size + 1) (ro8 b (.slice ab n cb)) 47 ∧ BoxAt wr (w.heap.size + 1 + 1) (ro8 ⟨⟨#[]⟩, zeroCl, 0, 0, []⟩ (.slice none 0 0)) 47 ∧ ColsT wr vc Lc ∧ Hid (Lc = foldG keyC joinCo a.cols (b.cols.take k)) ∧ Ext w wr) (fun i _ => n - (intOf i).toNat)
 case atStart =>
  refine ⟨0, a.cols, _, Nat.zero_le _, rfl, c6, d1, d2, ?_, ?_, hX6⟩
  ·unfold ColsT
   rw [← HM.out]
   exact TIn.own hown6
  ·show _ = _
   rw [List.take_zero]
   rfl
 case round =>
  obtain ⟨k, Lc, vc, hk, rfl, hbq, hb1, hb2, hcs, HLC, hE⟩ := hrel
  have hLl : Lc.length ≤ m + k := by
   rw [HLC.out]
   have := foldG_len keyC joinCo a.cols (b.cols.take k)
   rw [List.length_take] at this
   have := HM.out
   omega
  have q7 := hbq.cell 7
  simp [ro8] at q7
  have e7 := hb1.cell 7
  simp [ro8] at e7
  obtain ⟨av, cv, rfl⟩ := TIn.shape hcs
  by_cases hlt : k < n
  ·have t1 : decide ((k : Int) < (n : Int)) = true := by simp; omega
   have hkb : k < b.cols.length := by rw [← HN.out]; exact hlt
   obtain ⟨bb, oo, rfl, hat⟩ := HGET.out k hkb
   obtain ⟨y0, y1, y2, y3, y4⟩ := hat.ext hE
   obtain ⟨d, hd⟩ : ∃ d, d = b.cols[k] := ⟨_, rfl⟩
   rw [← hd] at y0 y1 y2 y3 y4
   have HD := Lib.hid hd
   obtain ⟨Lm, hLm⟩ : ∃ Lm, Lm = mergeCo Lc [d] := ⟨_, rfl⟩
   have HLM := Lib.hid hLm
   clear hd hat hLm
   go_wp2_with fail
   refine wp_region_tab 9 [(7, fun v x => ColsT x v Lm)] (by kernel_rfl) (by kernel_rfl) (by kernel_rfl) ⟨fun _ _ _ hE h => h.ext hE, trivial⟩ ?_
   replace q7 := held q7
   replace e7 := held e7
   replace y0 := held y0
   replace y1 := held y1
   replace y2 := held y2
   replace y3 := held y3
   replace y4 := held y4
   refine rg_quiet rfl rfl rfl rfl ?_; intro K hK; go_big_quiet_op; go_big_quiet_on
   refine rg_quiet rfl rfl rfl rfl ?_; intro K hK; go_big_quiet_op; go_big_quiet_on
   refine rg_quiet rfl rfl rfl rfl ?_; intro K hK; go_big_quiet_op; go_big_quiet_on
   refine rg_quiet rfl rfl rfl rfl ?_; intro K hK; go_big_quiet_op; go_big_quiet_on
   refine rg_quiet rfl rfl rfl rfl ?_; intro K hK; go_big_quiet_op; go_big_quiet_on
   refine rg_quiet rfl rfl rfl rfl ?_; intro K hK; go_big_quiet_op; go_big_quiet_on
   refine rg_quiet rfl rfl rfl rfl ?_; intro K hK; go_big_quiet_op; go_big_quiet_on
   refine rg_fact [] rfl rfl rfl (by kernel_rfl) (fun y hE hf => ?_) (fun v9 y9 hE9 hG9 h9 => ?_)
   ·go_simp
    refine (put7_any _ Lc d y (hcs.ext hE).cols (by omega)).mono ?_
    rintro e y' ⟨v', rfl, ho, hE'⟩
    rw [← HLM.out] at ho
    exact ⟨_, rfl, rg_doneR hE hE' (TIn.own ho)⟩
   obtain ⟨a9, c9, rfl⟩ := TIn.shape h9
   clear hE9 hG9 h9
   simp only [Act.put, List.setIfInBounds_toArray, List.set_cons_zero, List.set_cons_succ]
   refine rg_quiet rfl rfl rfl rfl ?_; intro K hK; go_big_quiet_op; go_big_quiet_on
   refine rel_tail rfl rfl fun w7 hE7 hG => ?_
   have hcs7 : ColsT w7 (.slice a9 Lm.length c9) Lm := (hG 7).2 rfl
   have hbq7 := hbq.ext hE7
   have qf := hbq7.free 7
   clear hG q7 e7 y0 y1 y2 y3 y4 hbq
   have hq := hbq7.lt
   have qc := hbq7.cell 7
   simp [ro8] at qc
   go_wp2_with fail
   go_roundw
   case rel =>
    refine ⟨k + 1, Lm, _, by omega, by go_num, hbq7.set 7 _, (hb1.ext hE7).other (by omega) 7 _, (hb2.ext hE7).other (by omega) 7 _, TIn.set 7 _ hbq7 (by decide) hcs7, ?_, (hE.trans hE7).setCell (p := ⟨q5, 7, none⟩) (by show w.heap.size ≤ q5; omega) _⟩
    show _ = _
    rw [HLM.out, HLC.out, List.take_succ_eq_append_getElem hkb, foldG_snoc, ← HD.out]
    rfl
   case measure => simp [intOf]; omega
  ·obtain rfl : k = n := by omega
   obtain ⟨z0, z1, z2, z3, z4, z5, z6, z7⟩ := hbq.ro
   go_wp2_with ((guard_target =~ wpList _ _ _ (Oper.mk none (Op.store _ (Operand.tmp 4) (Operand.tmp 44)) _ _ _ _ :: _) _ _); go_must (refine storeBox rfl 47 (.tmp 4) (.tmp 44) rfl (w.heap.size + 1 + 1) _ _ _ (by rfl) (by rfl) (hb2) (by kernel_rfl) (by rfl) (by simp [Value.oneCell']) ?_); intro w8 c8 g8)
   have hX8 := hE.grown g8 (fun q hq => by cases hq; omega)
   have hcs8 := ColsT.keep g8 hb2 (by decide) hcs
   have hLL : Lc = L := by rw [HLC.out, HL.out, List.take_of_length_le (by rw [← HN.out]; exact Nat.le_refl _)]
   rw [← hLL]
   clear z0 z1 z2 z3 z4 z5 z6 z7 hE g8 hb2 hLL hcs
   obtain ⟨z0, z1, z2, z3, z4, z5, z6, z7⟩ := BoxAt.ro (r := ⟨a.key, c, g, s, []⟩) (v := .slice av Lc.length cv) c8
   refine bodyPost_ret (v := .agg #[.string a.key, .string c.val, .bool c.dead, .int .i64 c.at_, .int .i64 c.fin, .int .i64 g, .int .i64 s, .slice av Lc.length cv]) ?_ rfl ⟨_, rfl, hcs8, hX8⟩
   simp [results, Tryz.results45, go_sem, Act.put, z0, z1, z2, z3, z4, z5, z6, z7]
end Go.Proofs.YtolkhjdododdaaaGreatDoor

/- What clerestoryref19.Orphan brings back (plain). -/
namespace Go.Proofs.YtolkhjdododdaaaGreatDoor
open Go Go.RowKit

noncomputable def backL19 (x : Vw) (xk : ByteArray) (xg g : Int) (r b : Ro) : List Ro := if eqB (foldRo b (kn19 x xk xg r b g)) b then [] else [kn19 x xk xg r b g]
noncomputable def back19 (x : Vw) (xk : ByteArray) (xg g : Int) (base : List Ro) (cof : Ro → ByteArray) (l : List Ro) : List Ro := l.flatMap fun r => backL19 x xk xg g r (rowOf base (cof r))
theorem back19_snoc (x : Vw) (xk : ByteArray) (xg g : Int) (base : List Ro) (cof : Ro → ByteArray) (l : List Ro) (r : Ro) : back19 x xk xg g base cof (l ++ [r]) = back19 x xk xg g base cof l ++ backL19 x xk xg g r (rowOf base (cof r)) := by
 unfold back19; rw [List.flatMap_append]; simp
theorem backL19_len (x : Vw) (xk : ByteArray) (xg g : Int) (r b : Ro) : (backL19 x xk xg g r b).length ≤ 1 := by unfold backL19; split <;> simp
theorem back19_len (x : Vw) (xk : ByteArray) (xg g : Int) (base : List Ro) (cof : Ro → ByteArray) (l : List Ro) : (back19 x xk xg g base cof l).length ≤ l.length := flat_len (fun _ => backL19_len ..) l
theorem kn19_len (x : Vw) (xk : ByteArray) (xg : Int) (r b : Ro) (g : Int) : (kn19 x xk xg r b g).cols.length ≤ r.cols.length + 1 := by
 unfold kn19
 simp only
 have := offL_len x.on r.cols
 split
 ·have h := mergeCo_len (offL x.on r.cols) [⟨x.on, on19 x xk r⟩]
  simp only [List.length_singleton] at h
  omega
 ·omega
theorem mem_back19 {x : Vw} {xk : ByteArray} {xg g : Int} {base : List Ro} {cof : Ro → ByteArray} {l : List Ro} {q : Ro} (h : q ∈ back19 x xk xg g base cof l) : ∃ r ∈ l, q = kn19 x xk xg r (rowOf base (cof r)) g := by
 obtain ⟨r, hr, hq⟩ := List.mem_flatMap.1 h
 unfold backL19 at hq
 split at hq
 ·cases hq
 ·exact ⟨r, hr, List.mem_singleton.1 hq⟩
theorem back19_cols {x : Vw} {xk : ByteArray} {xg g : Int} {base : List Ro} {cof : Ro → ByteArray} {l : List Ro} {m : Nat} (h : ∀ r ∈ l, r.cols.length ≤ m) : ∀ q ∈ back19 x xk xg g base cof l, q.cols.length ≤ m + 1 := fun q hq => by
 obtain ⟨r, hr, rfl⟩ := mem_back19 hq
 have := kn19_len x xk xg r (rowOf base (cof r)) g
 have := h r hr
 omega
theorem mem_shadeRs {x : Vw} {ns : List ByteArray} {xk : ByteArray} {xg : Int} {pk : ByteArray} {pg : Int} {base : List Ro} {cof : Ro → ByteArray} {l : List Ro} {q : Ro} (h : q ∈ shadeRs x ns xk xg pk pg base cof l) : ∃ r ∈ l, q = leftRo x r (rowOf base (cof r)) pg := by
 obtain ⟨r, hr, hq⟩ := List.mem_flatMap.1 h
 unfold shadeL at hq
 split at hq
 ·cases hq
 ·split at hq
  ·exact ⟨r, hr, List.mem_singleton.1 hq⟩
  ·cases hq
theorem mem_take_lt {α : Type} {l : List α} {k : Nat} {R : α → α → Prop} (hp : l.Pairwise R) (hk : k < l.length) {a : α} (h : a ∈ l.take k) : R a l[k] := by
 obtain ⟨j, hj, rfl⟩ := List.getElem_of_mem h
 rw [List.length_take] at hj
 rw [List.getElem_take]
 exact List.pairwise_iff_getElem.1 hp j k (by omega) hk (by omega)
end Go.Proofs.YtolkhjdododdaaaGreatDoor
