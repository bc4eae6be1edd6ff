/- clerestoryref07.put. -/
import Derived.Test.YteamiiekpjoclaaM17
import Derived.Test.YteamiiekpjoclaaM3
import Derived.Test.YteamiiekpjoclaaM7
import Derived.Test.YteamiiekpjoclaaM16
import Derived.Test.YteamiiekpjoclaaM15
import Derived.Test.YteamiiekpjoclaaM13
namespace Go.Proofs.Yteamiiekpjoclaa
open Go Go.RowKit
attribute [local go_sem] yields yUpon co5

theorem keyC_less (a b : Co) : keyC a b < 0 ↔ Op.bytesLess a.name.toList b.name.toList = true := by
  unfold keyC
  rw [cmpB_less, ByteArray.toList_eq, ByteArray.toList_eq]
  unfold less
  by_cases h : Op.bytesLess a.name.data.toList b.name.data.toList = true
  · rw [if_pos h]; simp [h]
  · rw [if_neg h]
    constructor
    · intro h'; split at h' <;> omega
    · intro h'; exact absurd h' h
theorem keyC_zero (a b : Co) : keyC a b = 0 ↔ (a.name.toList == b.name.toList) = true := by
  rw [ByteArray.toList_eq, ByteArray.toList_eq, beq_iff_eq]
  constructor
  · exact fun h => cmpB_zero h
  · intro h; unfold keyC; rw [h]; exact cmpB_self _
theorem cols_box {w : World} {b : Nat} {c : Co} {T : TypeId} (hb : BoxAt w b (co5 c) T) : ColsIn w (.slice (some ⟨b, 0, none⟩) 1 1) [c] :=
  ⟨_, 1, rfl, Nat.le_refl _, by unfold maxLen; decide, nofun, fun j u hj => ⟨b, 0, rfl, by rw [Nat.zero_add, hb.cell j]; simpa [coCells, co5] using hj⟩⟩

/-- What stays true while one is put into a list that is under way. -/
structure PutC (w w7 : World) (B : Nat) (c : Co) (vm : Value) (P : List Co) (x : World) : Prop where
  extw : Ext w x
  own : x.ownsRow B 58 5 vm P.length (coCells P)
  box : BoxAt x w.heap.size (co5 c) 58
  size : w7.heap.size ≤ x.heap.size
theorem PutC.ext {w w7 x y : World} {B : Nat} {c : Co} {vm : Value} {P : List Co} (hE : Ext x y) (h : PutC w w7 B c vm P x) : PutC w w7 B c vm P y := ⟨h.extw.trans hE, ownsRow_ext h.own hE, h.box.ext hE, Nat.le_trans h.size hE.le⟩
def PutE (vm : Value) (_ : Nat) (j : Nat) (x y : World) : Prop := if j = 3 then x.grownBy y vm.ownBlock else Ext x y
theorem PutE_ext {vm : Value} {B j : Nat} {x y : World} (hj : j ≠ 3) (h : Ext x y) : PutE vm B j x y := by unfold PutE; rw [if_neg hj]; exact h
theorem PutE_off {vm : Value} {B j : Nat} {x y : World} (hj : j ≠ 3) (h : PutE vm B j x y) : Ext x y := by unfold PutE at h; rwa [if_neg hj] at h
theorem PutE_far {vm : Value} {B B' S : Nat} (hlt : ∀ q, vm.ownBlock = some q → B' ≤ q ∧ q < S) {j : Nat} {x y : World} (h : PutE vm B j x y) {b : Nat} (hb : S ≤ b) {cs : Array Value} {e : TypeId} (hx : BoxAt x b cs e) : BoxAt y b cs e := by
  unfold PutE at h
  split at h
  · exact hx.grown h (fun e => by have := (hlt _ e.symm).2; omega)
  · exact hx.ext h

set_option maxRecDepth 100000 in
set_option maxHeartbeats 8000000 in
theorem put7_any (v : Value) (l : List Co) (c : Co) (w : World) (hin : ColsIn w v l) (hlen : l.length ≤ 400000) :
    Calls Try.prog 102 #[v, (.agg #[.string c.name, .string c.cell.val, .bool c.cell.dead, .int .i64 c.cell.at_, .int .i64 c.cell.fin])] w fun e w' => ∃ v', e = .returned v' ∧ w'.ownsRow (w.heap.size + 1) 58 5 v' (mergeCo l [c]).length (coCells (mergeCo l [c])) ∧ Ext w w' := by
  obtain ⟨a, cp, rfl, hc, hcm, hget⟩ := hin.get
  have b0 := BoxAt.made w (co5 c) 58
  have hE0 := (Ext.refl w).alloc (.cells (co5 c) 58)
  obtain ⟨n, hn⟩ : ∃ n, n = l.length := ⟨_, rfl⟩
  rw [← hn] at hin hlen hc ⊢
  have HGET := Lib.hid hget
  have HN := Lib.hid hn
  clear hget hn
  go_enter Try.func102, Try.ntmps102
  go_wp2_with fail
  go_loopw [5] (fun i wr => ∃ k : Nat, k ≤ n ∧ i = .int .i64 k ∧ Hid (∀ j (_ : j < k) (hl : j < l.length), keyC (l[j]'hl) c < 0) ∧ Ext (w.alloc (.cells (co5 c) 58)) wr) (fun i _ => n - (intOf i).toNat)
  case atStart => exact ⟨0, Nat.zero_le _, rfl, fun j h => by omega, Ext.refl _⟩
  case round =>
    obtain ⟨k, hk, rfl, HK, hE⟩ := hrel
    have hb := b0.ext hE
    obtain ⟨x0, x1, x2, x3, x4⟩ := hb.co
    by_cases hlt : k < n
    · have t1 : decide ((k : Int) < (n : Int)) = true := by simp; omega
      have hkl : k < l.length := by rw [← HN.out]; exact hlt
      obtain ⟨b, o, rfl, hat⟩ := HGET.out k hkl
      have hat' := hat.ext (hE0.trans hE)
      obtain ⟨y0, y1, y2, y3, y4⟩ := hat'
      obtain ⟨d, hd⟩ : ∃ d, d = l[k] := ⟨_, rfl⟩
      rw [← hd] at y0 y1 y2 y3 y4
      rw [← hd] at hat
      have HD := Lib.hid hd
      have HAT := Lib.hid hat
      clear hd hat
      by_cases hless : Op.bytesLess d.name.toList c.name.toList = true
      · go_wp2_with fail
        refine wp_region_tab 14 [] (by kernel_rfl) (by kernel_rfl) (by kernel_rfl) trivial ?_
        replace x0 := held x0
        replace y0 := held y0
        refine rg_quiet rfl rfl rfl rfl ?_; intro K hK; go_big_quiet_op; go_big_quiet_on
        refine rg_quiet rfl rfl rfl rfl ?_; intro K hK; go_big_quiet_op; go_big_quiet_on
        refine rg_quiet rfl rfl rfl rfl ?_; intro K hK; go_big_quiet_op; go_big_quiet_on
        refine rg_quiet rfl rfl rfl rfl ?_; intro K hK; go_big_quiet_op; go_big_quiet_on
        refine rg_quiet rfl rfl rfl rfl ?_; intro K hK; go_big_quiet_op; go_big_quiet_on
        refine rg_quiet rfl rfl rfl rfl ?_; intro K hK; go_big_quiet_op; go_big_quiet_on
        refine rg_quiet rfl rfl rfl rfl ?_; intro K hK; go_big_quiet_op; go_big_quiet_on
        refine rg_quiet rfl rfl rfl rfl ?_; intro K hK; go_big_quiet_op; go_big_quiet_on
        refine rg_quiet rfl rfl rfl rfl ?_; intro K hK; go_big_quiet_op; go_big_quiet_on
        refine rg_quiet rfl rfl rfl rfl ?_; intro K hK; go_big_quiet_op; go_big_quiet_on
        refine rg_quiet rfl rfl rfl rfl ?_; intro K hK; go_big_quiet_op; go_big_quiet_on
        refine rg_quiet rfl rfl rfl rfl ?_; intro K hK; go_big_quiet_op; go_big_quiet_on
        refine rg_quiet rfl rfl rfl rfl ?_; intro K hK; go_big_quiet_op; go_big_quiet_on
        refine rg_quiet rfl rfl rfl rfl ?_; intro K hK; go_big_quiet_op; go_big_quiet_on
        refine rel_nil fun w5 hE5 _ => ?_
        clear x0 y0 y1 y2 y3 y4 x1 x2 x3 x4
        go_wp2_with fail
        go_roundw
        case rel =>
          refine ⟨k + 1, by omega, by go_num, fun j hj hl => ?_, hE.trans hE5⟩
          by_cases e : j < k
          · exact HK.out j e hl
          · obtain rfl : j = k := by omega
            rw [← HD.out]
            exact (keyC_less d c).2 hless
        case measure => simp [intOf]; omega
      · have hlf : Op.bytesLess d.name.toList c.name.toList = false := by simpa using hless
        have hin5 := cols_take (hin.ext (hE0.trans hE)) hk HN.out
        obtain ⟨P, hP⟩ : ∃ P, P = l.take k := ⟨_, rfl⟩
        have hPl : P.length ≤ n := by rw [hP, List.length_take]; omega
        rw [← hP] at hin5
        have HP := Lib.hid hP
        clear hP
        by_cases heq : (d.name.toList == c.name.toList) = true
        · go_wp2_with fail
          refine wp_region_tab 14 [] (by kernel_rfl) (by kernel_rfl) (by kernel_rfl) trivial ?_
          replace x0 := held x0
          replace y0 := held y0
          refine rg_quiet rfl rfl rfl rfl ?_; intro K hK; go_big_quiet_op; go_big_quiet_on
          refine rg_quiet rfl rfl rfl rfl ?_; intro K hK; go_big_quiet_op; go_big_quiet_on
          refine rg_quiet rfl rfl rfl rfl ?_; intro K hK; go_big_quiet_op; go_big_quiet_on
          refine rg_quiet rfl rfl rfl rfl ?_; intro K hK; go_big_quiet_op; go_big_quiet_on
          refine rg_quiet rfl rfl rfl rfl ?_; intro K hK; go_big_quiet_op; go_big_quiet_on
          refine rg_quiet rfl rfl rfl rfl ?_; intro K hK; go_big_quiet_op; go_big_quiet_on
          refine rg_quiet rfl rfl rfl rfl ?_; intro K hK; go_big_quiet_op; go_big_quiet_on
          refine rg_quiet rfl rfl rfl rfl ?_; intro K hK; go_big_quiet_op; go_big_quiet_on
          refine rg_quiet rfl rfl rfl rfl ?_; intro K hK; go_big_quiet_op; go_big_quiet_on
          refine rg_quiet rfl rfl rfl rfl ?_; intro K hK; go_big_quiet_op; go_big_quiet_on
          refine rg_quiet rfl rfl rfl rfl ?_; intro K hK; go_big_quiet_op; go_big_quiet_on
          refine rg_quiet rfl rfl rfl rfl ?_; intro K hK; go_big_quiet_op; go_big_quiet_on
          refine rg_quiet rfl rfl rfl rfl ?_; intro K hK; go_big_quiet_op; go_big_quiet_on
          refine rg_quiet rfl rfl rfl rfl ?_; intro K hK; go_big_quiet_op; go_big_quiet_on
          refine rel_nil fun w5 hE5 _ => ?_
          clear x0 y0 y1 y2 y3 y4 x1 x2 x3 x4
          replace hin5 := hin5.ext hE5
          go_wp2_with (at_builtin; go_must (refine appCols w5 rfl (.const (.slice none 0 0)) (.tmp 25) rfl w5.heap.size (Nat.le_refl _) _ [] (World.ownsRow_nil _ _ _ _) (by rfl) _ P hin5 (by rfl) (by simp; omega) ?_); intro v6 w6 hown6 hg6; rw [List.nil_append] at hown6; obtain ⟨a6, c6, rfl⟩ := own_shape hown6)
          have hE56 : Ext w5 w6 := (Ext.refl w5).grown hg6 (fun q hq => by cases hq)
          have hEw6 : Ext w w6 := ((hE0.trans hE).trans hE5).trans hE56
          have hb6 := hb.ext (hE5.trans hE56)
          obtain ⟨x0, x1, x2, x3, x4⟩ := hb6.co
          obtain ⟨y0, y1, y2, y3, y4⟩ := HAT.out.ext hEw6
          clear hin5
          refine wp_region_tab 14 [] (by kernel_rfl) (by kernel_rfl) (by kernel_rfl) trivial ?_
          replace x0 := held x0
          replace y0 := held y0
          refine rg_quiet rfl rfl rfl rfl ?_; intro K hK; go_big_quiet_op; go_big_quiet_on
          refine rg_quiet rfl rfl rfl rfl ?_; intro K hK; go_big_quiet_op; go_big_quiet_on
          refine rg_quiet rfl rfl rfl rfl ?_; intro K hK; go_big_quiet_op; go_big_quiet_on
          refine rg_quiet rfl rfl rfl rfl ?_; intro K hK; go_big_quiet_op; go_big_quiet_on
          refine rg_quiet rfl rfl rfl rfl ?_; intro K hK; go_big_quiet_op; go_big_quiet_on
          refine rg_quiet rfl rfl rfl rfl ?_; intro K hK; go_big_quiet_op; go_big_quiet_on
          refine rg_quiet rfl rfl rfl rfl ?_; intro K hK; go_big_quiet_op; go_big_quiet_on
          refine rg_quiet rfl rfl rfl rfl ?_; intro K hK; go_big_quiet_op; go_big_quiet_on
          refine rg_quiet rfl rfl rfl rfl ?_; intro K hK; go_big_quiet_op; go_big_quiet_on
          refine rg_quiet rfl rfl rfl rfl ?_; intro K hK; go_big_quiet_op; go_big_quiet_on
          refine rg_quiet rfl rfl rfl rfl ?_; intro K hK; go_big_quiet_op; go_big_quiet_on
          refine rg_quiet rfl rfl rfl rfl ?_; intro K hK; go_big_quiet_op; go_big_quiet_on
          refine rg_quiet rfl rfl rfl rfl ?_; intro K hK; go_big_quiet_op; go_big_quiet_on
          refine rg_quiet rfl rfl rfl rfl ?_; intro K hK; go_big_quiet_op; go_big_quiet_on
          refine rel_nil fun w7 hE7 _ => ?_
          clear x0 y0 y1 y2 y3 y4 x1 x2 x3 x4
          obtain ⟨x0, x1, x2, x3, x4⟩ := (hb6.ext hE7).co
          obtain ⟨y0, y1, y2, y3, y4⟩ := HAT.out.ext (hEw6.trans hE7)
          replace hown6 := ownsRow_ext hown6 hE7
          go_wp2_with fail
          refine wp_region_tab 13 [(10, fun v _ => v = (.agg #[.string (joinCl d.cell c.cell).val, .bool (joinCl d.cell c.cell).dead, .int .i64 (joinCl d.cell c.cell).at_, .int .i64 (joinCl d.cell c.cell).fin])), (12, fun v x => ∃ b, v = .slice (some ⟨b, 0, none⟩) 1 1 ∧ BoxAt x b (co5 ⟨c.name, joinCl d.cell c.cell⟩) 58)] (by kernel_rfl) (by kernel_rfl) (by kernel_rfl) ⟨stays_eq _, fun _ _ _ hE ⟨b, e, h⟩ => ⟨b, e, h.ext hE⟩, trivial⟩ ?_
          replace x0 := held x0
          replace x1 := held x1
          replace x2 := held x2
          replace x3 := held x3
          replace x4 := held x4
          replace y0 := held y0
          replace y1 := held y1
          replace y2 := held y2
          replace y3 := held y3
          replace y4 := held y4
          refine rg_quiet rfl rfl rfl rfl ?_; intro K hK; go_big_quiet_op; go_big_quiet_on
          refine rg_quiet rfl rfl rfl rfl ?_; intro K hK; go_big_quiet_op; go_big_quiet_on
          refine rg_quiet rfl rfl rfl rfl ?_; intro K hK; go_big_quiet_op; go_big_quiet_on
          refine rg_quiet rfl rfl rfl rfl ?_; intro K hK; go_big_quiet_op; go_big_quiet_on
          refine rg_quiet rfl rfl rfl rfl ?_; intro K hK; go_big_quiet_op; go_big_quiet_on
          refine rg_quiet rfl rfl rfl rfl ?_; intro K hK; go_big_quiet_op; go_big_quiet_on
          refine rg_quiet rfl rfl rfl rfl ?_; intro K hK; go_big_quiet_op; go_big_quiet_on
          refine rg_quiet rfl rfl rfl rfl ?_; intro K hK; go_big_quiet_op; go_big_quiet_on
          refine rg_quiet rfl rfl rfl rfl ?_; intro K hK; go_big_quiet_op; go_big_quiet_on
          refine rg_quiet rfl rfl rfl rfl ?_; intro K hK; go_big_quiet_op; go_big_quiet_on
          refine rg_val [] rfl rfl rfl (by kernel_rfl) (fun y hE hf => ?_) ?_
          · go_simp
            exact (rjoin_c _ _ _ _ _ _ _ _ y).mono fun e w' ⟨he, hw⟩ => ⟨_, he, rg_done hE hw rfl⟩
          simp only [Act.put, List.setIfInBounds_toArray, List.set_cons_zero, List.set_cons_succ]
          refine rg_quiet rfl rfl rfl rfl ?_; intro K hK; go_big_quiet_op; go_big_quiet_on
          refine rg_fact [] rfl rfl rfl (by kernel_rfl) (fun y hE hf => ?_) (fun v12 y12 hE12 hG12 h12 => ?_)
          · go_simp
            exact rg_doneR hE ((Ext.refl y).alloc _) ⟨_, rfl, BoxAt.made y _ _⟩
          obtain ⟨b12, rfl, _⟩ := h12
          clear hE12 hG12
          simp only [Act.put, List.setIfInBounds_toArray, List.set_cons_zero, List.set_cons_succ]
          refine rel_tail rfl rfl fun w8 hE8 hG => ?_
          obtain ⟨b12', e12, hbx⟩ := (hG 12).2 rfl
          cases e12
          replace hown6 := ownsRow_ext hown6 hE8
          have hcs := cols_box hbx
          have hEw8 := (hEw6.trans hE7).trans hE8
          have hB : w.heap.size + 1 ≤ w5.heap.size := by have := hb.lt; have := hE5.le; omega
          have hnm : (⟨c.name, joinCl d.cell c.cell⟩ : Co) = joinCo d c := by
            have e : d.name = c.name := name_of (by unfold kCo; rw [← ByteArray.toList_eq, ← ByteArray.toList_eq]; simpa using heq)
            unfold joinCo
            rw [e]
          rw [hnm] at hcs
          clear hnm
          clear hG x0 x1 x2 x3 x4 y0 y1 y2 y3 y4 hbx
          go_wp2_with (first
            | ((guard_target =~ wpList _ _ _ (Oper.mk (some 54) _ _ _ _ _ :: _) _ _); at_builtin; go_must (refine appCols w8 rfl (.tmp 41) (.tmp 53) rfl w5.heap.size (Nat.le_trans hE56.le (Nat.le_trans hE7.le hE8.le)) _ P hown6 (by rfl) _ [joinCo d c] hcs (by rfl) (by simp; omega) ?_); intro v9 w9 hown9 hg9; obtain ⟨P2, hP2⟩ : ∃ P2, P2 = P ++ [joinCo d c] := ⟨_, rfl⟩; rw [← hP2] at hown9; have hPl2 : P2.length ≤ n + 1 := (by rw [hP2]; simp; omega); replace hP2 := Lib.hid hP2; obtain ⟨a9, c9, rfl⟩ := own_shape hown9; have hEw9 : Ext w w9 := hEw8.grown hg9 (fun q hq => by have := (hown6.lt q hq).1; omega))
            | ((guard_target =~ wpList _ _ _ (Oper.mk (some 59) _ _ _ _ _ :: _) _ _); go_must (refine wpList_from rfl und_Cols (size := 5) (by kernel_rfl) (.tmp 56) (.tmp 58) rfl rfl rfl hlt ?_); simp only [Act.put, List.setIfInBounds_toArray, List.set_cons_zero, List.set_cons_succ])
            | ((guard_target =~ wpList _ _ _ (Oper.mk (some 60) _ _ _ _ _ :: _) _ _); at_builtin; go_must (refine appCols w9 rfl (.tmp 55) (.tmp 59) rfl w5.heap.size (Nat.le_trans hE56.le (Nat.le_trans (Nat.le_trans hE7.le hE8.le) hg9.size)) _ P2 hown9 (by rfl) _ (l.drop (k + 1)) (cols_drop (hin.ext hEw9) hlt HN.out) (by rfl) (by have := HN.out; simp; omega) ?_); intro v10 w10 hown10 hg10; have hEw10 : Ext w w10 := hEw9.grown hg10 (fun q hq => by have := (hown9.lt q hq).1; omega)))
          go_ret
          have hl : P2 ++ l.drop (k + 1) = mergeCo l [c] := by
            have hz : keyC l[k] c = 0 := by rw [← HD.out]; exact (keyC_zero d c).2 heq
            have := mergeG_hit (join := joinCo) c l k hkl (fun j h hl => HK.out j h hl) hz
            rw [← HD.out, ← HP.out] at this
            rw [hP2.out, List.append_assoc]
            exact this.symm
          rw [hl] at hown10
          exact ⟨_, rfl, own_mono hB hown10, hEw10⟩
        · --REST
          have hef : (d.name.toList == c.name.toList) = false := by simpa using heq
          go_wp2_with fail
          refine wp_region_tab 14 [] (by kernel_rfl) (by kernel_rfl) (by kernel_rfl) trivial ?_
          replace x0 := held x0
          replace y0 := held y0
          refine rg_quiet rfl rfl rfl rfl ?_; intro K hK; go_big_quiet_op; go_big_quiet_on
          refine rg_quiet rfl rfl rfl rfl ?_; intro K hK; go_big_quiet_op; go_big_quiet_on
          refine rg_quiet rfl rfl rfl rfl ?_; intro K hK; go_big_quiet_op; go_big_quiet_on
          refine rg_quiet rfl rfl rfl rfl ?_; intro K hK; go_big_quiet_op; go_big_quiet_on
          refine rg_quiet rfl rfl rfl rfl ?_; intro K hK; go_big_quiet_op; go_big_quiet_on
          refine rg_quiet rfl rfl rfl rfl ?_; intro K hK; go_big_quiet_op; go_big_quiet_on
          refine rg_quiet rfl rfl rfl rfl ?_; intro K hK; go_big_quiet_op; go_big_quiet_on
          refine rg_quiet rfl rfl rfl rfl ?_; intro K hK; go_big_quiet_op; go_big_quiet_on
          refine rg_quiet rfl rfl rfl rfl ?_; intro K hK; go_big_quiet_op; go_big_quiet_on
          refine rg_quiet rfl rfl rfl rfl ?_; intro K hK; go_big_quiet_op; go_big_quiet_on
          refine rg_quiet rfl rfl rfl rfl ?_; intro K hK; go_big_quiet_op; go_big_quiet_on
          refine rg_quiet rfl rfl rfl rfl ?_; intro K hK; go_big_quiet_op; go_big_quiet_on
          refine rg_quiet rfl rfl rfl rfl ?_; intro K hK; go_big_quiet_op; go_big_quiet_on
          refine rg_quiet rfl rfl rfl rfl ?_; intro K hK; go_big_quiet_op; go_big_quiet_on
          refine rel_nil fun w5 hE5 _ => ?_
          clear x0 y0 y1 y2 y3 y4 x1 x2 x3 x4
          replace hin5 := hin5.ext hE5
          go_wp2_with (at_builtin; go_must (refine appCols w5 rfl (.const (.slice none 0 0)) (.tmp 25) rfl w5.heap.size (Nat.le_refl _) _ [] (World.ownsRow_nil _ _ _ _) (by rfl) _ P hin5 (by rfl) (by simp; omega) ?_); intro v6 w6 hown6 hg6; rw [List.nil_append] at hown6; obtain ⟨a6, c6, rfl⟩ := own_shape hown6)
          have hE56 : Ext w5 w6 := (Ext.refl w5).grown hg6 (fun q hq => by cases hq)
          have hEw6 : Ext w w6 := ((hE0.trans hE).trans hE5).trans hE56
          have hb6 := hb.ext (hE5.trans hE56)
          obtain ⟨x0, x1, x2, x3, x4⟩ := hb6.co
          obtain ⟨y0, y1, y2, y3, y4⟩ := HAT.out.ext hEw6
          clear hin5
          refine wp_region_tab 14 [] (by kernel_rfl) (by kernel_rfl) (by kernel_rfl) trivial ?_
          replace x0 := held x0
          replace y0 := held y0
          refine rg_quiet rfl rfl rfl rfl ?_; intro K hK; go_big_quiet_op; go_big_quiet_on
          refine rg_quiet rfl rfl rfl rfl ?_; intro K hK; go_big_quiet_op; go_big_quiet_on
          refine rg_quiet rfl rfl rfl rfl ?_; intro K hK; go_big_quiet_op; go_big_quiet_on
          refine rg_quiet rfl rfl rfl rfl ?_; intro K hK; go_big_quiet_op; go_big_quiet_on
          refine rg_quiet rfl rfl rfl rfl ?_; intro K hK; go_big_quiet_op; go_big_quiet_on
          refine rg_quiet rfl rfl rfl rfl ?_; intro K hK; go_big_quiet_op; go_big_quiet_on
          refine rg_quiet rfl rfl rfl rfl ?_; intro K hK; go_big_quiet_op; go_big_quiet_on
          refine rg_quiet rfl rfl rfl rfl ?_; intro K hK; go_big_quiet_op; go_big_quiet_on
          refine rg_quiet rfl rfl rfl rfl ?_; intro K hK; go_big_quiet_op; go_big_quiet_on
          refine rg_quiet rfl rfl rfl rfl ?_; intro K hK; go_big_quiet_op; go_big_quiet_on
          refine rg_quiet rfl rfl rfl rfl ?_; intro K hK; go_big_quiet_op; go_big_quiet_on
          refine rg_quiet rfl rfl rfl rfl ?_; intro K hK; go_big_quiet_op; go_big_quiet_on
          refine rg_quiet rfl rfl rfl rfl ?_; intro K hK; go_big_quiet_op; go_big_quiet_on
          refine rg_quiet rfl rfl rfl rfl ?_; intro K hK; go_big_quiet_op; go_big_quiet_on
          refine rel_nil fun w7 hE7 _ => ?_
          clear x0 y0 y1 y2 y3 y4 x1 x2 x3 x4
          have hb7 := hb6.ext hE7
          replace hown6 := ownsRow_ext hown6 hE7
          obtain ⟨x0, x1, x2, x3, x4⟩ := hb7.co
          have hEw7 := hEw6.trans hE7
          have hin7 := hin.ext hEw7
          have hB : w.heap.size + 1 ≤ w5.heap.size := by have := hb.lt; have := hE5.le; omega
          have hlt6 := hown6.lt
          obtain ⟨P2, hP2⟩ : ∃ P2, P2 = P ++ [c] := ⟨_, rfl⟩
          have hPl2 : P2.length = P.length + 1 := by rw [hP2]; simp
          have hcc : coCells P ++ (co5 c).toList = coCells P2 := by rw [hP2, coCells_append]; rfl
          have HP2 := Lib.hid hP2
          have HCC := Lib.hid hcc
          have HPL2 := Lib.hid hPl2
          clear hP2 hcc hPl2
          go_wp2_with fail
          refine wp_region_relE (PutC w w7 w5.heap.size c (.slice a6 P.length c6) P) (PutE (.slice a6 P.length c6) w5.heap.size) (Tab.atE [(1, fun v _ => v = (.agg #[.string c.name, .string c.cell.val, .bool c.cell.dead, .int .i64 c.cell.at_, .int .i64 c.cell.fin])), (2, fun v x => ∃ b, v = .slice (some ⟨b, 0, none⟩) 1 1 ∧ w7.heap.size ≤ b ∧ BoxAt x b (co5 c) 58), (3, fun v x => x.ownsRow w5.heap.size 58 5 v P2.length (coCells P2)), (6, fun v _ => v = dropV (some ⟨b, o, none⟩) n cp k 5)])
            (Tab.staysE ⟨fun _ _ _ _ _ _ h => h, fun _ _ _ _ _ hR ⟨b, e, hb, hx⟩ => ⟨b, e, hb, PutE_far hlt6 hR hb hx⟩, fun _ hj _ _ _ hR h => ownsRow_ext h (PutE_off hj hR), fun _ _ _ _ _ _ h => h, trivial⟩)
            7 (by kernel_rfl) (by kernel_rfl) (by kernel_rfl) ⟨hEw7.trans (Ext.refl w7).drew, ownsRow_ext hown6 (Ext.refl w7).drew, hb7.ext (Ext.refl w7).drew, (Ext.refl w7).drew.le⟩ ?_
          refine relE_quiet rfl rfl rfl rfl ?_; intro K hK; go_big_quiet_op; (first | refine ⟨_, fun _ _ => rfl, hK _ ?_⟩ | refine hK _ ?_); clear hK K
          refine relE_val [] rfl rfl rfl (by kernel_rfl) (fun y hy hf => ?_) ?_
          · obtain ⟨z0, z1, z2, z3, z4⟩ := hy.box.co
            go_simp
            exact ⟨hy, PutE_ext (by decide) (Ext.refl y), rfl⟩
          simp only [Act.put, List.setIfInBounds_toArray, List.set_cons_zero, List.set_cons_succ]
          refine relE_fact [] rfl rfl rfl (by kernel_rfl) (fun y hy hf => ?_) (fun v12 y12 hC12 hG12 h12 => ?_)
          · go_simp
            exact ⟨hy.ext ((Ext.refl y).alloc _), PutE_ext (by decide) ((Ext.refl y).alloc _), _, rfl, hy.size, BoxAt.made y _ _⟩
          obtain ⟨b12, rfl, _⟩ := h12
          clear hC12 hG12
          simp only [Act.put, List.setIfInBounds_toArray, List.set_cons_zero, List.set_cons_succ]
          refine relE_fact [2] rfl rfl rfl (by kernel_rfl) (fun y hy hf => ?_) (fun v13 y13 hC13 hG13 h13 => ?_)
          · obtain ⟨b, e, hb', hbox⟩ := (hf 2 (by simp)).2 rfl
            cases e
            refine yields_append info_Col und_Cols rfl (by decide) (.tmp 61) (.tmp 63) rfl w5.heap.size (by have := hy.size; have := hE7.le; have := hE56.le; omega) _ P.length (coCells P) hy.own (by rfl) b12 1 1 (co5 c).toList (by rfl) (by rfl) (fun j u hj => by rw [hbox.cell j]; simpa using hj) (by simp [co5, Value.oneCell']) (by unfold maxLen; omega) (by omega) ?_
            intro v' y' hown' hg hkeep
            rw [HCC.out, ← HPL2.out] at hown'
            refine ⟨⟨hy.extw.grown hg (fun q hq => by have := (hy.own.lt q hq).1; omega), hkeep, hy.box.grown hg (fun e => by have := (hy.own.lt _ e.symm).1; omega), Nat.le_trans hy.size hg.size⟩, ?_, hown'⟩
            unfold PutE
            rw [if_pos rfl]
            exact hg
          obtain ⟨a13, c13, rfl⟩ := own_shape h13
          clear hC13 hG13 h13
          simp only [Act.put, List.setIfInBounds_toArray, List.set_cons_zero, List.set_cons_succ]
          refine relE_quiet rfl rfl rfl rfl ?_; intro K hK; go_big_quiet_op; (first | refine ⟨_, fun _ _ => rfl, hK _ ?_⟩ | refine hK _ ?_); clear hK K
          refine relE_quiet rfl rfl rfl rfl ?_; intro K hK; go_big_quiet_op; (first | refine ⟨_, fun _ _ => rfl, hK _ ?_⟩ | refine hK _ ?_); clear hK K
          refine relE_val [] rfl rfl rfl (by kernel_rfl) (fun y hy hf => ?_) ?_
          · exact yields_from und_Cols (size := 5) (by kernel_rfl) (.tmp 65) (.tmp 66) rfl rfl rfl hk ⟨hy, PutE_ext (by decide) (Ext.refl y), rfl⟩
          simp only [Act.put, List.setIfInBounds_toArray, List.set_cons_zero, List.set_cons_succ]
          refine relE_tail rfl rfl fun w8 hC hG => ?_
          have hown8 : w8.ownsRow w5.heap.size 58 5 (.slice a13 P2.length c13) P2.length (coCells P2) := (hG 3).2 rfl
          have hsz8 := hC.size
          have hEw8 := hC.extw
          clear hG hC x0 x1 x2 x3 x4
          go_wp2_with (at_builtin; go_must (refine appCols w8 rfl (.tmp 64) (.tmp 67) rfl w5.heap.size (by have := hE7.le; have := hE56.le; omega) _ P2 hown8 (by rfl) _ (l.drop k) (cols_drop (hin.ext hEw8) hk HN.out) (by rfl) (by have := HN.out; have := HPL2.out; simp; omega) ?_); intro v10 w10 hown10 hg10; have hEw10 : Ext w w10 := hEw8.grown hg10 (fun q hq => by have := (hown8.lt q hq).1; omega))
          go_ret
          have hl : P2 ++ l.drop k = mergeCo l [c] := by
            have hz : 0 < keyC l[k] c := by
              rw [← HD.out]
              have h1 := mt (keyC_less d c).1 (by rw [hlf]; decide)
              have h2 := mt (keyC_zero d c).1 (by rw [hef]; decide)
              omega
            have := mergeG_new (join := joinCo) c l k hkl (fun j h hl => HK.out j h hl) hz
            rw [← HP.out] at this
            rw [HP2.out, List.append_assoc]
            exact this.symm
          rw [hl] at hown10
          exact ⟨_, rfl, own_mono hB hown10, hEw10⟩
    · obtain rfl : k = n := by omega
      have hin5 := cols_take (hin.ext (hE0.trans hE)) hk HN.out
      obtain ⟨P, hP⟩ : ∃ P, P = l.take k := ⟨_, rfl⟩
      have hPl : P.length ≤ k := by rw [hP, List.length_take]; omega
      rw [← hP] at hin5
      have HP := Lib.hid hP
      clear hP
      go_wp2_with fail
      refine wp_region_tab 14 [] (by kernel_rfl) (by kernel_rfl) (by kernel_rfl) trivial ?_
      refine rg_quiet rfl rfl rfl rfl ?_; intro K hK; go_big_quiet_op; go_big_quiet_on
      refine rg_quiet rfl rfl rfl rfl ?_; intro K hK; go_big_quiet_op; go_big_quiet_on
      refine rg_quiet rfl rfl rfl rfl ?_; intro K hK; go_big_quiet_op; go_big_quiet_on
      refine rg_quiet rfl rfl rfl rfl ?_; intro K hK; go_big_quiet_op; go_big_quiet_on
      refine rg_quiet rfl rfl rfl rfl ?_; intro K hK; go_big_quiet_op; go_big_quiet_on
      refine rel_skip rfl rfl ?_
      simp only [Act.put, List.setIfInBounds_toArray, List.set_cons_zero, List.set_cons_succ]
      refine rel_skip rfl rfl ?_
      simp only [Act.put, List.setIfInBounds_toArray, List.set_cons_zero, List.set_cons_succ]
      refine rel_skip rfl rfl ?_
      simp only [Act.put, List.setIfInBounds_toArray, List.set_cons_zero, List.set_cons_succ]
      refine rel_skip rfl rfl ?_
      simp only [Act.put, List.setIfInBounds_toArray, List.set_cons_zero, List.set_cons_succ]
      refine rel_skip rfl rfl ?_
      simp only [Act.put, List.setIfInBounds_toArray, List.set_cons_zero, List.set_cons_succ]
      refine rel_skip rfl rfl ?_
      simp only [Act.put, List.setIfInBounds_toArray, List.set_cons_zero, List.set_cons_succ]
      refine rel_skip rfl rfl ?_
      simp only [Act.put, List.setIfInBounds_toArray, List.set_cons_zero, List.set_cons_succ]
      refine rel_skip rfl rfl ?_
      simp only [Act.put, List.setIfInBounds_toArray, List.set_cons_zero, List.set_cons_succ]
      refine rg_quiet rfl rfl rfl rfl ?_; intro K hK; go_big_quiet_op; go_big_quiet_on
      refine rel_nil fun w5 hE5 _ => ?_
      clear x1 x2 x3 x4 x0
      replace hin5 := hin5.ext hE5
      go_wp2_with (at_builtin; go_must (refine appCols w5 rfl (.const (.slice none 0 0)) (.tmp 25) rfl w5.heap.size (Nat.le_refl _) _ [] (World.ownsRow_nil _ _ _ _) (by rfl) _ P hin5 (by rfl) (by simp; omega) ?_); intro v6 w6 hown6 hg6; rw [List.nil_append] at hown6; obtain ⟨a6, c6, rfl⟩ := own_shape hown6)
      have hE56 : Ext w5 w6 := (Ext.refl w5).grown hg6 (fun q hq => by cases hq)
      have hEw6 : Ext w w6 := ((hE0.trans hE).trans hE5).trans hE56
      have hb6 := hb.ext (hE5.trans hE56)
      refine wp_region_tab 14 [] (by kernel_rfl) (by kernel_rfl) (by kernel_rfl) trivial ?_
      refine rg_quiet rfl rfl rfl rfl ?_; intro K hK; go_big_quiet_op; go_big_quiet_on
      refine rg_quiet rfl rfl rfl rfl ?_; intro K hK; go_big_quiet_op; go_big_quiet_on
      refine rg_quiet rfl rfl rfl rfl ?_; intro K hK; go_big_quiet_op; go_big_quiet_on
      refine rg_quiet rfl rfl rfl rfl ?_; intro K hK; go_big_quiet_op; go_big_quiet_on
      refine rg_quiet rfl rfl rfl rfl ?_; intro K hK; go_big_quiet_op; go_big_quiet_on
      refine rel_skip rfl rfl ?_
      simp only [Act.put, List.setIfInBounds_toArray, List.set_cons_zero, List.set_cons_succ]
      refine rel_skip rfl rfl ?_
      simp only [Act.put, List.setIfInBounds_toArray, List.set_cons_zero, List.set_cons_succ]
      refine rel_skip rfl rfl ?_
      simp only [Act.put, List.setIfInBounds_toArray, List.set_cons_zero, List.set_cons_succ]
      refine rel_skip rfl rfl ?_
      simp only [Act.put, List.setIfInBounds_toArray, List.set_cons_zero, List.set_cons_succ]
      refine rel_skip rfl rfl ?_
      simp only [Act.put, List.setIfInBounds_toArray, List.set_cons_zero, List.set_cons_succ]
      refine rel_skip rfl rfl ?_
      simp only [Act.put, List.setIfInBounds_toArray, List.set_cons_zero, List.set_cons_succ]
      refine rel_skip rfl rfl ?_
      simp only [Act.put, List.setIfInBounds_toArray, List.set_cons_zero, List.set_cons_succ]
      refine rel_skip rfl rfl ?_
      simp only [Act.put, List.setIfInBounds_toArray, List.set_cons_zero, List.set_cons_succ]
      refine rg_quiet rfl rfl rfl rfl ?_; intro K hK; go_big_quiet_op; go_big_quiet_on
      refine rel_nil fun w7 hE7 _ => ?_
      have hb7 := hb6.ext hE7
      replace hown6 := ownsRow_ext hown6 hE7
      obtain ⟨x0, x1, x2, x3, x4⟩ := hb7.co
      have hEw7 := hEw6.trans hE7
      have hin7 := hin.ext hEw7
      have hB : w.heap.size + 1 ≤ w5.heap.size := by have := hb.lt; have := hE5.le; omega
      have hlt6 := hown6.lt
      obtain ⟨P2, hP2⟩ : ∃ P2, P2 = P ++ [c] := ⟨_, rfl⟩
      have hPl2 : P2.length = P.length + 1 := by rw [hP2]; simp
      have hcc : coCells P ++ (co5 c).toList = coCells P2 := by rw [hP2, coCells_append]; rfl
      have HP2 := Lib.hid hP2
      have HCC := Lib.hid hcc
      have HPL2 := Lib.hid hPl2
      clear hP2 hcc hPl2
      go_wp2_with fail
      refine wp_region_relE (PutC w w7 w5.heap.size c (.slice a6 P.length c6) P) (PutE (.slice a6 P.length c6) w5.heap.size) (Tab.atE [(1, fun v _ => v = (.agg #[.string c.name, .string c.cell.val, .bool c.cell.dead, .int .i64 c.cell.at_, .int .i64 c.cell.fin])), (2, fun v x => ∃ b, v = .slice (some ⟨b, 0, none⟩) 1 1 ∧ w7.heap.size ≤ b ∧ BoxAt x b (co5 c) 58), (3, fun v x => x.ownsRow w5.heap.size 58 5 v P2.length (coCells P2)), (6, fun v _ => v = dropV a k cp k 5)])
        (Tab.staysE ⟨fun _ _ _ _ _ _ h => h, fun _ _ _ _ _ hR ⟨b, e, hb, hx⟩ => ⟨b, e, hb, PutE_far hlt6 hR hb hx⟩, fun _ hj _ _ _ hR h => ownsRow_ext h (PutE_off hj hR), fun _ _ _ _ _ _ h => h, trivial⟩)
        7 (by kernel_rfl) (by kernel_rfl) (by kernel_rfl) ⟨hEw7.trans (Ext.refl w7).drew, ownsRow_ext hown6 (Ext.refl w7).drew, hb7.ext (Ext.refl w7).drew, (Ext.refl w7).drew.le⟩ ?_
      refine relE_quiet rfl rfl rfl rfl ?_; intro K hK; go_big_quiet_op; (first | refine ⟨_, fun _ _ => rfl, hK _ ?_⟩ | refine hK _ ?_); clear hK K
      refine relE_val [] rfl rfl rfl (by kernel_rfl) (fun y hy hf => ?_) ?_
      · obtain ⟨z0, z1, z2, z3, z4⟩ := hy.box.co
        go_simp
        exact ⟨hy, PutE_ext (by decide) (Ext.refl y), rfl⟩
      simp only [Act.put, List.setIfInBounds_toArray, List.set_cons_zero, List.set_cons_succ]
      refine relE_fact [] rfl rfl rfl (by kernel_rfl) (fun y hy hf => ?_) (fun v12 y12 hC12 hG12 h12 => ?_)
      · go_simp
        exact ⟨hy.ext ((Ext.refl y).alloc _), PutE_ext (by decide) ((Ext.refl y).alloc _), _, rfl, hy.size, BoxAt.made y _ _⟩
      obtain ⟨b12, rfl, _⟩ := h12
      clear hC12 hG12
      simp only [Act.put, List.setIfInBounds_toArray, List.set_cons_zero, List.set_cons_succ]
      refine relE_fact [2] rfl rfl rfl (by kernel_rfl) (fun y hy hf => ?_) (fun v13 y13 hC13 hG13 h13 => ?_)
      · obtain ⟨b, e, hb', hbox⟩ := (hf 2 (by simp)).2 rfl
        cases e
        refine yields_append info_Col und_Cols rfl (by decide) (.tmp 61) (.tmp 63) rfl w5.heap.size (by have := hy.size; have := hE7.le; have := hE56.le; omega) _ P.length (coCells P) hy.own (by rfl) b12 1 1 (co5 c).toList (by rfl) (by rfl) (fun j u hj => by rw [hbox.cell j]; simpa using hj) (by simp [co5, Value.oneCell']) (by unfold maxLen; omega) (by omega) ?_
        intro v' y' hown' hg hkeep
        rw [HCC.out, ← HPL2.out] at hown'
        refine ⟨⟨hy.extw.grown hg (fun q hq => by have := (hy.own.lt q hq).1; omega), hkeep, hy.box.grown hg (fun e => by have := (hy.own.lt _ e.symm).1; omega), Nat.le_trans hy.size hg.size⟩, ?_, hown'⟩
        unfold PutE
        rw [if_pos rfl]
        exact hg
      obtain ⟨a13, c13, rfl⟩ := own_shape h13
      clear hC13 hG13 h13
      simp only [Act.put, List.setIfInBounds_toArray, List.set_cons_zero, List.set_cons_succ]
      refine relE_quiet rfl rfl rfl rfl ?_; intro K hK; go_big_quiet_op; (first | refine ⟨_, fun _ _ => rfl, hK _ ?_⟩ | refine hK _ ?_); clear hK K
      refine relE_quiet rfl rfl rfl rfl ?_; intro K hK; go_big_quiet_op; (first | refine ⟨_, fun _ _ => rfl, hK _ ?_⟩ | refine hK _ ?_); clear hK K
      refine relE_val [] rfl rfl rfl (by kernel_rfl) (fun y hy hf => ?_) ?_
      · exact yields_from und_Cols (size := 5) (by kernel_rfl) (.tmp 65) (.tmp 66) rfl rfl rfl (Nat.le_refl _) ⟨hy, PutE_ext (by decide) (Ext.refl y), rfl⟩
      simp only [Act.put, List.setIfInBounds_toArray, List.set_cons_zero, List.set_cons_succ]
      refine relE_tail rfl rfl fun w8 hC hG => ?_
      have hown8 : w8.ownsRow w5.heap.size 58 5 (.slice a13 P2.length c13) P2.length (coCells P2) := (hG 3).2 rfl
      have hsz8 := hC.size
      have hEw8 := hC.extw
      clear hG hC x0 x1 x2 x3 x4
      go_wp2_with (at_builtin; go_must (refine appCols w8 rfl (.tmp 64) (.tmp 67) rfl w5.heap.size (by have := hE7.le; have := hE56.le; omega) _ P2 hown8 (by rfl) _ (l.drop k) (cols_drop (hin.ext hEw8) (Nat.le_refl _) HN.out) (by rfl) (by have := HN.out; have := HPL2.out; simp; omega) ?_); intro v10 w10 hown10 hg10; have hEw10 : Ext w w10 := hEw8.grown hg10 (fun q hq => by have := (hown8.lt q hq).1; omega))
      go_ret
      have hl : P2 ++ l.drop k = mergeCo l [c] := by
        have := mergeG_end (cmp := keyC) (join := joinCo) c l (fun j hl => HK.out j (by rw [HN.out]; exact hl) hl)
        rw [HP2.out, HP.out, List.append_assoc, show mergeCo l [c] = l ++ [c] from this, List.take_of_length_le (by rw [HN.out]; exact Nat.le_refl _), List.drop_of_length_le (by rw [HN.out]; exact Nat.le_refl _), List.append_nil]
      rw [hl] at hown10
      exact ⟨_, rfl, own_mono hB hown10, hEw10⟩
end Go.Proofs.Yteamiiekpjoclaa

/- The reference's rows: Seen. -/
namespace Go.Proofs.Yteamiiekpjoclaa
open Go Go.RowKit
attribute [local go_sem] yields yUpon co5 cl4

theorem seenCo_best (M : Co) (G now : Int) : seenCo M G now = (bestB M.cell G && seenB M.cell.dead M.cell.at_ M.cell.fin now) := by
  unfold seenCo bestB
  cases hd : M.cell.dead with
  | true => rfl
  | false =>
    by_cases h1 : M.cell.at_ < 1
    · have : seenB false M.cell.at_ M.cell.fin now = false := by
        unfold seenB
        rw [show decide (0 < M.cell.at_) = false by simp; omega]
        rfl
      rw [this]
      simp
    · by_cases h2 : G < M.cell.at_
      · have h3 : ¬ M.cell.at_ ≤ G := by omega
        simp [h1, h2, h3]
      · have h3 : M.cell.at_ ≤ G := by omega
        simp [h1, h2, h3]

set_option maxRecDepth 100000 in
set_option maxHeartbeats 4000000 in
theorem seen7_any (r : Ro) (v : Value) (part now : Int) (w : World) (hin : ColsIn w v r.cols) (hlen : r.cols.length ≤ 400000) (hd : ∀ (k : Nat) (h : k < r.cols.length), cellOf r.cols r.cols[k].name = r.cols[k].cell) :
    Calls Try.prog 72 #[(.agg #[.string r.key, .string r.live.val, .bool r.live.dead, .int .i64 r.live.at_, .int .i64 r.live.fin, .int .i64 r.gone, .int .i64 r.shade, v]), .int .i64 part, .int .i64 now] w fun e w' => ∃ v', e = .returned v' ∧ w'.ownsRow (w.heap.size + 1) 58 5 v' (seenCos r.cols (max r.gone part) now).length (coCells (seenCos r.cols (max r.gone part) now)) ∧ Ext w w' := by
  obtain ⟨a, c, rfl, hc, hcm, hcell⟩ := hin.get
  obtain ⟨l, hl⟩ : ∃ l, l = r.cols := ⟨_, rfl⟩
  obtain ⟨G, hG⟩ : ∃ G, G = max r.gone part := ⟨_, rfl⟩
  have hbest : ∀ (k : Nat) (h : k < l.length) (y : World), Ext w y → Calls Try.prog 68 #[(.agg #[.string r.key, .string r.live.val, .bool r.live.dead, .int .i64 r.live.at_, .int .i64 r.live.fin, .int .i64 r.gone, .int .i64 r.shade, (.slice a l.length c)]), .int .i64 part, .string l[k].name] y fun e w' => e = .returned (.tuple #[(.agg #[.string (bestC l[k].cell G).val, .bool (bestC l[k].cell G).dead, .int .i64 (bestC l[k].cell G).at_, .int .i64 (bestC l[k].cell G).fin]), .bool (bestB l[k].cell G)]) ∧ Ext y w' := by
    intro k h y hy
    subst hl
    rw [hG]
    have := best7_any r (.slice a r.cols.length c) part r.cols[k].name y (hin.ext hy)
    rw [hd k h] at this
    exact this
  rw [← hl] at hcell hc hlen ⊢
  rw [← hG]
  have HB := Lib.hid hbest
  have HC := Lib.hid hcell
  clear hcell hin hl hG hd hbest
  go_enter Try.func72, Try.ntmps72
  go_wp2
  go_loopw [7, 8] (fun m i wr => ∃ k : Nat, k ≤ l.length ∧ i = .int .i64 k ∧ BoxAt wr w.heap.size (ro8 r (.slice a l.length c)) 55 ∧ Ext w wr ∧ wr.ownsRow (w.heap.size + 1) 58 5 m (seenCos (l.take k) G now).length (coCells (seenCos (l.take k) G now))) (fun _ i _ => l.length - (intOf i).toNat)
  case atStart => exact ⟨0, Nat.zero_le _, rfl, BoxAt.made w _ _, (Ext.refl w).alloc _, World.ownsRow_nil _ _ _ _⟩
  case round =>
    obtain ⟨k, hk, rfl, hbox, hE, hown⟩ := hrel
    by_cases hlt : k < l.length
    · obtain ⟨b, o, rfl, hco⟩ := HC.out k hlt
      have hbk := HB.out k hlt
      obtain ⟨M, hM⟩ : ∃ M, M = l[k] := ⟨_, rfl⟩
      rw [← hM] at hco hbk
      have hD : l.drop k = M :: l.drop (k + 1) := by rw [hM]; exact List.drop_eq_getElem_cons hlt
      have hT := seenCos_take (g := G) (now := now) hD
      have hle : (seenCos (l.take k) G now).length ≤ k := Nat.le_trans (List.length_filter_le _ _) (by simp; omega)
      clear hM hD
      obtain ⟨S, hS⟩ : ∃ S, S = seenCos (l.take k) G now := ⟨_, rfl⟩
      rw [← hS] at hT hle hown
      clear hS
      have HT := Lib.hid hT
      have HBK := Lib.hid hbk
      have HSB := Lib.hid (seenCo_best M G now)
      clear hT hbk
      obtain ⟨B, hB⟩ : ∃ B, B = bestB M.cell G := ⟨_, rfl⟩
      obtain ⟨C, hC⟩ : ∃ C, C = bestC M.cell G := ⟨_, rfl⟩
      rw [← hB] at HBK HSB
      rw [← hC] at HBK
      have HCB : Hid (B = true → C = M.cell) := by
        show B = true → C = M.cell
        intro h
        rw [hC]
        unfold bestC
        rw [← hB, if_pos h]
      clear hB hC
      replace hco := hco.ext hE
      have HCO := Lib.hid hco
      obtain ⟨g0, g1, g2, g3, g4⟩ := hco
      obtain ⟨y0, y1, y2, y3, y4, y5, y6, y7⟩ := hbox.ro
      go_wp2_with fail
      refine wp_region_late_in 13 11 13 [(8, fun v _ => v = .tuple #[(.agg #[.string C.val, .bool C.dead, .int .i64 C.at_, .int .i64 C.fin]), .bool B]), (12, fun v x => ∃ q, v = .pointer (some ⟨q, 0, none⟩) ∧ wr.heap.size ≤ q ∧ BoxAt x q (cl4 zeroCl) 52)] (by kernel_rfl) (by kernel_rfl) (by kernel_rfl) (by kernel_rfl) (fun c a d v w h => by cases d <;> exact h) ⟨stays_eq _, fun _ _ _ hE ⟨q, e, h1, h2⟩ => ⟨q, e, h1, h2.ext hE⟩, trivial⟩ ?_
      simp only [late, List.modify_succ_cons, List.modify_zero_cons, List.push_toArray, List.cons_append, List.nil_append]
      replace g0 := held g0
      replace y0 := held y0
      replace y1 := held y1
      replace y2 := held y2
      replace y3 := held y3
      replace y4 := held y4
      replace y5 := held y5
      replace y6 := held y6
      replace y7 := held y7
      refine rg_quiet rfl rfl rfl rfl ?_; intro K hK; go_big_quiet_op; go_big_quiet_on
      refine rg_quiet rfl rfl rfl rfl ?_; intro K hK; go_big_quiet_op; go_big_quiet_on
      refine rg_quiet rfl rfl rfl rfl ?_; intro K hK; go_big_quiet_op; go_big_quiet_on
      refine rg_quiet rfl rfl rfl rfl ?_; intro K hK; go_big_quiet_op; go_big_quiet_on
      refine rg_quiet rfl rfl rfl rfl ?_; intro K hK; go_big_quiet_op; go_big_quiet_on
      refine rg_quiet rfl rfl rfl rfl ?_; intro K hK; go_big_quiet_op; go_big_quiet_on
      refine rg_quiet rfl rfl rfl rfl ?_; intro K hK; go_big_quiet_op; go_big_quiet_on
      refine rg_quiet rfl rfl rfl rfl ?_; intro K hK; go_big_quiet_op; go_big_quiet_on
      refine rg_val [] rfl rfl rfl (by kernel_rfl) (fun y hY hf => ?_) ?_
      · go_simp
        exact (HBK.out y (hE.trans hY)).mono fun e w' ⟨he, hw⟩ => ⟨_, he, rg_done hY hw rfl⟩
      simp only [Act.put, List.setIfInBounds_toArray, List.set_cons_zero, List.set_cons_succ]
      refine rg_quiet rfl rfl rfl rfl ?_; intro K hK; go_big_quiet_op; go_big_quiet_on
      refine rg_quiet rfl rfl rfl rfl ?_; intro K hK; go_big_quiet_op; go_big_quiet_on
      refine rg_quiet rfl rfl rfl rfl ?_; intro K hK; go_big_quiet_op; go_big_quiet_on
      refine rg_fact [] rfl rfl rfl (by kernel_rfl) (fun y hY hf => ?_) (fun v12 y12 hE12 hG12 h12 => ?_)
      · go_simp
        exact rg_doneR hY ((Ext.refl y).alloc _) ⟨_, rfl, hY.le, BoxAt.made y _ _⟩
      obtain ⟨q9, rfl, _⟩ := h12
      clear hE12 hG12
      simp only [Act.put, List.setIfInBounds_toArray, List.set_cons_zero, List.set_cons_succ]
      refine rel_tail rfl rfl fun w5 hE5 hG => ?_
      obtain ⟨q9', e9, hq9, hbx⟩ := (hG 12).2 rfl
      cases e9
      have hbox5 := hbox.ext hE5
      have hE15 := hE.trans hE5
      have hown5 := ownsRow_ext hown hE5
      have hlr := hbox.lt
      have hlw := hE.le
      clear hG y0 y1 y2 y3 y4 y5 y6 y7 g0 g1 g2 g3 g4 hbox hE hown
      have hE6' : ∀ w6, w5.grownBy w6 (some q9) → Ext wr w6 := fun w6 g6 => hE5.grown g6 (fun q hq => by cases hq; exact hq9)
      have HE6 := Lib.hid hE6'
      clear hE6'
      go_wp2_with (((guard_target =~ wpList _ _ _ (Oper.mk none (Op.store _ (Operand.tmp 9) (Operand.tmp 28)) _ _ _ _ :: _) _ _); go_must (refine storeBox rfl 52 (.tmp 9) (.tmp 28) rfl (q9) _ _ _ (by rfl) (by rfl) (hbx) (by kernel_rfl) (by rfl) (by simp [Value.oneCell']) ?_); intro w6 c6 g6); have hq6 : Ext wr w6 := HE6.out _ g6; have d6 : w6.cell? ⟨q9, 0, none⟩ = some (.string C.val) ∧ w6.cell? ⟨q9, 1, none⟩ = some (.bool C.dead) ∧ w6.cell? ⟨q9, 2, none⟩ = some (.int .i64 C.at_) ∧ w6.cell? ⟨q9, 3, none⟩ = some (.int .i64 C.fin) := BoxAt.cl c6)
      · have hBt : B = true := by assumption
        have hS2 : seenCo M G now = seenB C.dead C.at_ C.fin now := by rw [HSB.out, HCB.out hBt, hBt]; rfl
        have HCM : Hid ((⟨M.name, C⟩ : Co) = M) := by show _ = _; rw [HCB.out hBt]
        have HS2 := Lib.hid hS2
        clear HCB HBK HSB hS2
        have hbox6 := hbox5.grown g6 (fun e => by have := Option.some.inj e; omega)
        have hE16 := hE15.grown g6 (fun q hq => by cases hq; omega)
        have hown6 := hown5.kept g6 (own_ne_box hown5 hbx (by decide))
        have hco6 := HCO.out.ext hq6
        clear hown5 hbox5 hE15 hbx g6
        refine (rseen_any C.val C.dead C.at_ C.fin now w6).mono ?_
        rw [← HS2.out]
        rintro e w7 ⟨rfl, hE7⟩
        have d7 : w7.cell? ⟨q9, 0, none⟩ = some (.string C.val) ∧ w7.cell? ⟨q9, 1, none⟩ = some (.bool C.dead) ∧ w7.cell? ⟨q9, 2, none⟩ = some (.int .i64 C.at_) ∧ w7.cell? ⟨q9, 3, none⟩ = some (.int .i64 C.fin) := BoxAt.cl (c6.ext hE7)
        replace hbox6 := hbox6.ext hE7
        replace hE16 := hE16.trans hE7
        replace hown6 := ownsRow_ext hown6 hE7
        replace hco6 := hco6.ext hE7
        clear d6
        obtain ⟨g0, g1, g2, g3, g4⟩ := hco6
        obtain ⟨y0, y1, y2, y3, y4, y5, y6, y7⟩ := hbox6.ro
        obtain ⟨z0, z1, z2, z3⟩ := d7
        have hT2 := HT.out
        clear HT HS2
        cases hs : seenCo M G now
        · rw [hs] at hT2
          simp only [Bool.false_eq_true, if_false, List.append_nil] at hT2
          have HT2 := Lib.hid hT2
          clear hT2 hs
          go_wp2_with fail
          go_roundw
          case rel => exact ⟨k + 1, by omega, by go_num, hbox6, hE16, by rw [HT2.out]; exact hown6⟩
          case measure => simp [intOf] <;> omega
        · rw [hs] at hT2
          simp only [if_true] at hT2
          have HT2 := Lib.hid hT2
          clear hT2 hs
          go_wp2_with fail
          refine wp_region_tab 10 [(9, fun v x => ∃ b, v = .slice (some ⟨b, 0, none⟩) 1 1 ∧ BoxAt x b (co5 ⟨M.name, C⟩) 58)] (by kernel_rfl) (by kernel_rfl) (by kernel_rfl) ⟨fun _ _ _ hE ⟨b, e, h⟩ => ⟨b, e, h.ext hE⟩, trivial⟩ ?_
          replace g0 := held g0
          replace y0 := held y0
          replace y1 := held y1
          replace y2 := held y2
          replace y3 := held y3
          replace y4 := held y4
          replace y5 := held y5
          replace y6 := held y6
          replace y7 := held y7
          replace z0 := held z0
          replace z1 := held z1
          replace z2 := held z2
          replace z3 := held z3
          refine rg_quiet rfl rfl rfl rfl ?_; intro K hK; go_big_quiet_op; go_big_quiet_on
          refine rg_quiet rfl rfl rfl rfl ?_; intro K hK; go_big_quiet_op; go_big_quiet_on
          refine rg_quiet rfl rfl rfl rfl ?_; intro K hK; go_big_quiet_op; go_big_quiet_on
          refine rg_quiet rfl rfl rfl rfl ?_; intro K hK; go_big_quiet_op; go_big_quiet_on
          refine rg_quiet rfl rfl rfl rfl ?_; intro K hK; go_big_quiet_op; go_big_quiet_on
          refine rg_quiet rfl rfl rfl rfl ?_; intro K hK; go_big_quiet_op; go_big_quiet_on
          refine rg_quiet rfl rfl rfl rfl ?_; intro K hK; go_big_quiet_op; go_big_quiet_on
          refine rg_quiet rfl rfl rfl rfl ?_; intro K hK; go_big_quiet_op; go_big_quiet_on
          refine rg_quiet rfl rfl rfl rfl ?_; intro K hK; go_big_quiet_op; go_big_quiet_on
          refine rg_fact [] rfl rfl rfl (by kernel_rfl) (fun y hE hf => ?_) (fun v12 y12 hE12 hG12 h12 => ?_)
          · go_simp
            exact rg_doneR hE ((Ext.refl y).alloc _) ⟨_, rfl, BoxAt.made y _ _⟩
          obtain ⟨b12, rfl, _⟩ := h12
          clear hE12 hG12
          simp only [Act.put, List.setIfInBounds_toArray, List.set_cons_zero, List.set_cons_succ]
          refine rel_tail rfl rfl fun w8 hE8 hG => ?_
          obtain ⟨b12', e12, hbc⟩ := (hG 9).2 rfl
          cases e12
          have hown8 := ownsRow_ext hown6 hE8
          have hcs := cols_box hbc
          rw [HCM.out] at hcs
          clear hG y0 y1 y2 y3 y4 y5 y6 y7 z0 z1 z2 z3 g0 g1 g2 g3 g4 hbc
          have hbox8 := hbox6.ext hE8
          have hE18 := hE16.trans hE8
          have hl8 := hbox8.lt
          go_wp2_with ((guard_target =~ wpList _ _ _ (Oper.mk (some 46) _ _ _ _ _ :: _) _ _); at_builtin; go_must (refine appCols w8 rfl (.tmp 36) (.tmp 45) rfl (w.heap.size + 1) hl8 _ S hown8 (by rfl) _ [M] hcs (by rfl) (by simp; omega) ?_); intro v9 w9 hown9 hg9)
          go_roundw
          case rel =>
            refine ⟨k + 1, by omega, by go_num, hbox8.grown hg9 (fun h => ?_), hE18.grown hg9 fun q hq => by have := (hown8.lt q hq).1; omega, ?_⟩
            · have := (hown8.lt _ h.symm).1
              omega
            · rw [HT2.out]
              exact hown9
          case measure => simp [intOf] <;> omega
      · have hT2 := HT.out
        have hBf : B = false := by first | assumption | (rename_i hnb; simpa using hnb) | (cases B <;> simp_all)
        rw [HSB.out, hBf] at hT2
        simp only [Bool.false_and, Bool.false_eq_true, if_false, List.append_nil] at hT2
        have HT2 := Lib.hid hT2
        clear hT2 HT HSB HCB HBK
        go_roundw
        case rel => exact ⟨k + 1, by omega, by go_num, hbox5.grown g6 (fun e => by have := Option.some.inj e; omega), hE15.grown g6 (fun q hq => by cases hq; omega), by rw [HT2.out]; exact hown5.kept g6 (own_ne_box hown5 hbx (by decide))⟩
        case measure => simp [intOf] <;> omega
    · obtain rfl : k = l.length := by omega
      rw [List.take_length] at hown
      obtain ⟨y0, y1, y2, y3, y4, y5, y6, y7⟩ := hbox.ro
      go_wp2_with fail
      go_ret
      exact ⟨_, rfl, hown, hE⟩
end Go.Proofs.Yteamiiekpjoclaa

/- The reference's rows: Is; its partitions: Seen. -/
namespace Go.Proofs.Yteamiiekpjoclaa
open Go Go.RowKit
attribute [local go_sem] yields yUpon
/-- Each column's name is its own. -/
def DistN (l : List Co) : Prop := ∀ (k : Nat) (h : k < l.length), cellOf l l[k].name = l[k].cell

set_option maxRecDepth 100000 in
set_option maxHeartbeats 4000000 in
theorem is7_any (r : Ro) (v : Value) (part now : Int) (strict : Bool) (w : World) (hin : ColsIn w v r.cols) (hlen : r.cols.length ≤ 400000) (hd : DistN r.cols) :
    Calls Try.prog 73 #[(.agg #[.string r.key, .string r.live.val, .bool r.live.dead, .int .i64 r.live.at_, .int .i64 r.live.fin, .int .i64 r.gone, .int .i64 r.shade, v]), .int .i64 part, .int .i64 now, .bool strict] w fun e w' => e = .returned (.bool (isB r (max r.gone part) now strict)) ∧ Ext w w' := by
  obtain ⟨G, hG⟩ : ∃ G, G = max r.gone part := ⟨_, rfl⟩
  rw [← hG]
  have HG := Lib.hid hG
  have HL := Lib.hid hlen
  have HD := Lib.hid hd
  clear hG hlen hd
  go_enter Try.func73, Try.ntmps73
  go_wp2_with fail
  refine wp_region_in 21 [(3, fun v _ => v = .bool (seenB r.live.dead r.live.at_ r.live.fin now)), (10, fun v _ => v = .int .i64 G)] (fun w0 => BoxAt w0 w.heap.size (ro8 r v) 55 ∧ Ext w w0 ∧ ColsIn w0 v r.cols) (by kernel_rfl) (by kernel_rfl) (by kernel_rfl) ⟨stays_eq _, stays_eq _, trivial⟩ ?_ ?_
  · exact ⟨BoxAt.made _ _ _, (Ext.refl w).alloc _, hin.ext ((Ext.refl w).alloc _)⟩
  clear hin
  rintro w2 ⟨b0, hE, hin⟩
  have FIN : Hid (∀ wx, Ext w2 wx → BoxAt wx w.heap.size (ro8 r v) 55 ∧ Ext w wx ∧ ColsIn wx v r.cols) := fun wx h => ⟨b0.ext h, hE.trans h, hin.ext h⟩
  obtain ⟨y0, y1, y2, y3, y4, y5, y6, y7⟩ := b0.ro
  clear b0 hE hin
  replace y0 := held y0
  replace y1 := held y1
  replace y2 := held y2
  replace y3 := held y3
  replace y4 := held y4
  replace y5 := held y5
  replace y6 := held y6
  replace y7 := held y7
  cases d0 : seenB r.live.dead r.live.at_ r.live.fin now
  · have HLV : Hid (liveB r G now = false) := by show liveB r G now = false; unfold liveB; rw [d0]; rfl
    refine rg_quiet rfl rfl rfl rfl ?_; intro K hK; go_big_quiet_op; go_big_quiet_on
    refine rg_quiet rfl rfl rfl rfl ?_; intro K hK; go_big_quiet_op; go_big_quiet_on
    refine rg_quiet rfl rfl rfl rfl ?_; intro K hK; go_big_quiet_op; go_big_quiet_on
    refine rg_val [] rfl rfl rfl (by kernel_rfl) (fun w1 hE hf => ?_) ?_
    · go_simp
      exact (rseen_any _ _ _ _ _ w1).mono fun e w' ⟨he, hw⟩ => ⟨_, he, rg_done hE hw (bool_congr d0)⟩
    simp only [Act.put, List.setIfInBounds_toArray, List.set_cons_zero, List.set_cons_succ]
    refine rg_quiet rfl rfl rfl rfl ?_; intro K hK; go_big_quiet_op; go_big_quiet_on
    refine rel_skip rfl rfl ?_
    simp only [Act.put, List.setIfInBounds_toArray, List.set_cons_zero, List.set_cons_succ]
    refine rel_skip rfl rfl ?_
    simp only [Act.put, List.setIfInBounds_toArray, List.set_cons_zero, List.set_cons_succ]
    refine rel_skip rfl rfl ?_
    simp only [Act.put, List.setIfInBounds_toArray, List.set_cons_zero, List.set_cons_succ]
    refine rel_skip rfl rfl ?_
    simp only [Act.put, List.setIfInBounds_toArray, List.set_cons_zero, List.set_cons_succ]
    refine rel_skip rfl rfl ?_
    simp only [Act.put, List.setIfInBounds_toArray, List.set_cons_zero, List.set_cons_succ]
    refine rel_skip rfl rfl ?_
    simp only [Act.put, List.setIfInBounds_toArray, List.set_cons_zero, List.set_cons_succ]
    refine rel_skip rfl rfl ?_
    simp only [Act.put, List.setIfInBounds_toArray, List.set_cons_zero, List.set_cons_succ]
    refine rg_quiet rfl rfl rfl rfl ?_; intro K hK; go_big_quiet_op; go_big_quiet_on
    refine rg_quiet rfl rfl rfl rfl ?_; intro K hK; go_big_quiet_op; go_big_quiet_on
    refine rel_skip rfl rfl ?_
    simp only [Act.put, List.setIfInBounds_toArray, List.set_cons_zero, List.set_cons_succ]
    refine rel_skip rfl rfl ?_
    simp only [Act.put, List.setIfInBounds_toArray, List.set_cons_zero, List.set_cons_succ]
    refine rel_skip rfl rfl ?_
    simp only [Act.put, List.setIfInBounds_toArray, List.set_cons_zero, List.set_cons_succ]
    refine rel_skip rfl rfl ?_
    simp only [Act.put, List.setIfInBounds_toArray, List.set_cons_zero, List.set_cons_succ]
    refine rel_skip rfl rfl ?_
    simp only [Act.put, List.setIfInBounds_toArray, List.set_cons_zero, List.set_cons_succ]
    refine rel_skip rfl rfl ?_
    simp only [Act.put, List.setIfInBounds_toArray, List.set_cons_zero, List.set_cons_succ]
    refine rg_quiet rfl rfl rfl rfl ?_; intro K hK; go_big_quiet_op; go_big_quiet_on
    refine rel_nil fun w5 hE5 _ => ?_
    obtain ⟨b0, hE, hin⟩ := FIN.out w5 hE5
    clear y0 y1 y2 y3 y4 y5 y6 y7 hE5 FIN
    clear d0
    obtain ⟨y0, y1, y2, y3, y4, y5, y6, y7⟩ := b0.ro
    cases strict
    · go_wp2_with fail
      refine (seen7_any r v part now _ hin HL.out HD.out).mono ?_
      rw [← HG.out]
      rintro e w6 ⟨v', rfl, hown, hE6⟩
      obtain ⟨a6, c6, rfl, _, _, _, _⟩ := SliceIn.of_owns hown
      have hq : isB r G now false = decide (0 < (seenCos r.cols G now).length) := by unfold isB; rw [HLV.out]; rfl
      have HQ := Lib.hid hq
      have HX := hE.trans hE6
      clear hown hq b0 hE hE6 hin
      go_wp2
      all_goals
        go_ret
        refine ⟨ret_bool (Eq.trans ?_ HQ.out.symm), HX⟩
        first | rfl | (simp; done) | (simp; omega)
    · have hq : isB r G now true = false := by unfold isB; rw [HLV.out]; rfl
      have HQ := Lib.hid hq
      clear hq
      go_wp2
      go_ret
      exact ⟨ret_bool HQ.out.symm, hE⟩
  · cases d1 : decide (G < r.live.at_)
    · have HLV : Hid (liveB r G now = false) := by show liveB r G now = false; unfold liveB; rw [d0, d1]; rfl
      refine rg_quiet rfl rfl rfl rfl ?_; intro K hK; go_big_quiet_op; go_big_quiet_on
      refine rg_quiet rfl rfl rfl rfl ?_; intro K hK; go_big_quiet_op; go_big_quiet_on
      refine rg_quiet rfl rfl rfl rfl ?_; intro K hK; go_big_quiet_op; go_big_quiet_on
      refine rg_val [] rfl rfl rfl (by kernel_rfl) (fun w1 hE hf => ?_) ?_
      · go_simp
        exact (rseen_any _ _ _ _ _ w1).mono fun e w' ⟨he, hw⟩ => ⟨_, he, rg_done hE hw (bool_congr d0)⟩
      simp only [Act.put, List.setIfInBounds_toArray, List.set_cons_zero, List.set_cons_succ]
      refine rg_quiet rfl rfl rfl rfl ?_; intro K hK; go_big_quiet_op; go_big_quiet_on
      refine rg_quiet rfl rfl rfl rfl ?_; intro K hK; go_big_quiet_op; go_big_quiet_on
      refine rg_quiet rfl rfl rfl rfl ?_; intro K hK; go_big_quiet_op; go_big_quiet_on
      refine rg_quiet rfl rfl rfl rfl ?_; intro K hK; go_big_quiet_op; go_big_quiet_on
      refine rg_quiet rfl rfl rfl rfl ?_; intro K hK; go_big_quiet_op; go_big_quiet_on
      refine rg_quiet rfl rfl rfl rfl ?_; intro K hK; go_big_quiet_op; go_big_quiet_on
      refine rg_val [] rfl rfl rfl (by kernel_rfl) (fun w1 hE hf => ?_) ?_
      · go_simp
        exact (gone7_any r v part w1).mono fun e w' ⟨he, hw⟩ => ⟨_, he, rg_done hE hw (int_congr HG.out.symm)⟩
      simp only [Act.put, List.setIfInBounds_toArray, List.set_cons_zero, List.set_cons_succ]
      refine rg_quiet rfl rfl rfl rfl ?_; intro K hK; go_big_quiet_op; go_big_quiet_on
      refine rg_quiet rfl rfl rfl rfl ?_; intro K hK; go_big_quiet_op; go_big_quiet_on
      refine rg_quiet rfl rfl rfl rfl ?_; intro K hK; go_big_quiet_op; go_big_quiet_on
      refine rel_skip rfl rfl ?_
      simp only [Act.put, List.setIfInBounds_toArray, List.set_cons_zero, List.set_cons_succ]
      refine rel_skip rfl rfl ?_
      simp only [Act.put, List.setIfInBounds_toArray, List.set_cons_zero, List.set_cons_succ]
      refine rel_skip rfl rfl ?_
      simp only [Act.put, List.setIfInBounds_toArray, List.set_cons_zero, List.set_cons_succ]
      refine rel_skip rfl rfl ?_
      simp only [Act.put, List.setIfInBounds_toArray, List.set_cons_zero, List.set_cons_succ]
      refine rel_skip rfl rfl ?_
      simp only [Act.put, List.setIfInBounds_toArray, List.set_cons_zero, List.set_cons_succ]
      refine rel_skip rfl rfl ?_
      simp only [Act.put, List.setIfInBounds_toArray, List.set_cons_zero, List.set_cons_succ]
      refine rg_quiet rfl rfl rfl rfl ?_; intro K hK; go_big_quiet_op; go_big_quiet_on
      refine rel_nil fun w5 hE5 _ => ?_
      obtain ⟨b0, hE, hin⟩ := FIN.out w5 hE5
      clear y0 y1 y2 y3 y4 y5 y6 y7 hE5 FIN
      clear d0 d1
      obtain ⟨y0, y1, y2, y3, y4, y5, y6, y7⟩ := b0.ro
      cases strict
      · go_wp2_with fail
        refine (seen7_any r v part now _ hin HL.out HD.out).mono ?_
        rw [← HG.out]
        rintro e w6 ⟨v', rfl, hown, hE6⟩
        obtain ⟨a6, c6, rfl, _, _, _, _⟩ := SliceIn.of_owns hown
        have hq : isB r G now false = decide (0 < (seenCos r.cols G now).length) := by unfold isB; rw [HLV.out]; rfl
        have HQ := Lib.hid hq
        have HX := hE.trans hE6
        clear hown hq b0 hE hE6 hin
        go_wp2
        all_goals
          go_ret
          refine ⟨ret_bool (Eq.trans ?_ HQ.out.symm), HX⟩
          first | rfl | (simp; done) | (simp; omega)
      · have hq : isB r G now true = false := by unfold isB; rw [HLV.out]; rfl
        have HQ := Lib.hid hq
        clear hq
        go_wp2
        go_ret
        exact ⟨ret_bool HQ.out.symm, hE⟩
    · cases d2 : decide (r.shade < r.live.at_)
      · have HLV : Hid (liveB r G now = false) := by show liveB r G now = false; unfold liveB; rw [d0, d1, d2]; rfl
        refine rg_quiet rfl rfl rfl rfl ?_; intro K hK; go_big_quiet_op; go_big_quiet_on
        refine rg_quiet rfl rfl rfl rfl ?_; intro K hK; go_big_quiet_op; go_big_quiet_on
        refine rg_quiet rfl rfl rfl rfl ?_; intro K hK; go_big_quiet_op; go_big_quiet_on
        refine rg_val [] rfl rfl rfl (by kernel_rfl) (fun w1 hE hf => ?_) ?_
        · go_simp
          exact (rseen_any _ _ _ _ _ w1).mono fun e w' ⟨he, hw⟩ => ⟨_, he, rg_done hE hw (bool_congr d0)⟩
        simp only [Act.put, List.setIfInBounds_toArray, List.set_cons_zero, List.set_cons_succ]
        refine rg_quiet rfl rfl rfl rfl ?_; intro K hK; go_big_quiet_op; go_big_quiet_on
        refine rg_quiet rfl rfl rfl rfl ?_; intro K hK; go_big_quiet_op; go_big_quiet_on
        refine rg_quiet rfl rfl rfl rfl ?_; intro K hK; go_big_quiet_op; go_big_quiet_on
        refine rg_quiet rfl rfl rfl rfl ?_; intro K hK; go_big_quiet_op; go_big_quiet_on
        refine rg_quiet rfl rfl rfl rfl ?_; intro K hK; go_big_quiet_op; go_big_quiet_on
        refine rg_quiet rfl rfl rfl rfl ?_; intro K hK; go_big_quiet_op; go_big_quiet_on
        refine rg_val [] rfl rfl rfl (by kernel_rfl) (fun w1 hE hf => ?_) ?_
        · go_simp
          exact (gone7_any r v part w1).mono fun e w' ⟨he, hw⟩ => ⟨_, he, rg_done hE hw (int_congr HG.out.symm)⟩
        simp only [Act.put, List.setIfInBounds_toArray, List.set_cons_zero, List.set_cons_succ]
        refine rg_quiet rfl rfl rfl rfl ?_; intro K hK; go_big_quiet_op; go_big_quiet_on
        refine rg_quiet rfl rfl rfl rfl ?_; intro K hK; go_big_quiet_op; go_big_quiet_on
        refine rg_quiet rfl rfl rfl rfl ?_; intro K hK; go_big_quiet_op; go_big_quiet_on
        refine rg_quiet rfl rfl rfl rfl ?_; intro K hK; go_big_quiet_op; go_big_quiet_on
        refine rg_quiet rfl rfl rfl rfl ?_; intro K hK; go_big_quiet_op; go_big_quiet_on
        refine rg_quiet rfl rfl rfl rfl ?_; intro K hK; go_big_quiet_op; go_big_quiet_on
        refine rg_quiet rfl rfl rfl rfl ?_; intro K hK; go_big_quiet_op; go_big_quiet_on
        refine rg_quiet rfl rfl rfl rfl ?_; intro K hK; go_big_quiet_op; go_big_quiet_on
        refine rg_quiet rfl rfl rfl rfl ?_; intro K hK; go_big_quiet_op; go_big_quiet_on
        refine rg_quiet rfl rfl rfl rfl ?_; intro K hK; go_big_quiet_op; go_big_quiet_on
        refine rel_nil fun w5 hE5 _ => ?_
        obtain ⟨b0, hE, hin⟩ := FIN.out w5 hE5
        clear y0 y1 y2 y3 y4 y5 y6 y7 hE5 FIN
        clear d0 d1 d2
        obtain ⟨y0, y1, y2, y3, y4, y5, y6, y7⟩ := b0.ro
        cases strict
        · go_wp2_with fail
          refine (seen7_any r v part now _ hin HL.out HD.out).mono ?_
          rw [← HG.out]
          rintro e w6 ⟨v', rfl, hown, hE6⟩
          obtain ⟨a6, c6, rfl, _, _, _, _⟩ := SliceIn.of_owns hown
          have hq : isB r G now false = decide (0 < (seenCos r.cols G now).length) := by unfold isB; rw [HLV.out]; rfl
          have HQ := Lib.hid hq
          have HX := hE.trans hE6
          clear hown hq b0 hE hE6 hin
          go_wp2
          all_goals
            go_ret
            refine ⟨ret_bool (Eq.trans ?_ HQ.out.symm), HX⟩
            first | rfl | (simp; done) | (simp; omega)
        · have hq : isB r G now true = false := by unfold isB; rw [HLV.out]; rfl
          have HQ := Lib.hid hq
          clear hq
          go_wp2
          go_ret
          exact ⟨ret_bool HQ.out.symm, hE⟩
      · have HLV : Hid (liveB r G now = true) := by show liveB r G now = true; unfold liveB; rw [d0, d1, d2]; rfl
        refine rg_quiet rfl rfl rfl rfl ?_; intro K hK; go_big_quiet_op; go_big_quiet_on
        refine rg_quiet rfl rfl rfl rfl ?_; intro K hK; go_big_quiet_op; go_big_quiet_on
        refine rg_quiet rfl rfl rfl rfl ?_; intro K hK; go_big_quiet_op; go_big_quiet_on
        refine rg_val [] rfl rfl rfl (by kernel_rfl) (fun w1 hE hf => ?_) ?_
        · go_simp
          exact (rseen_any _ _ _ _ _ w1).mono fun e w' ⟨he, hw⟩ => ⟨_, he, rg_done hE hw (bool_congr d0)⟩
        simp only [Act.put, List.setIfInBounds_toArray, List.set_cons_zero, List.set_cons_succ]
        refine rg_quiet rfl rfl rfl rfl ?_; intro K hK; go_big_quiet_op; go_big_quiet_on
        refine rg_quiet rfl rfl rfl rfl ?_; intro K hK; go_big_quiet_op; go_big_quiet_on
        refine rg_quiet rfl rfl rfl rfl ?_; intro K hK; go_big_quiet_op; go_big_quiet_on
        refine rg_quiet rfl rfl rfl rfl ?_; intro K hK; go_big_quiet_op; go_big_quiet_on
        refine rg_quiet rfl rfl rfl rfl ?_; intro K hK; go_big_quiet_op; go_big_quiet_on
        refine rg_quiet rfl rfl rfl rfl ?_; intro K hK; go_big_quiet_op; go_big_quiet_on
        refine rg_val [] rfl rfl rfl (by kernel_rfl) (fun w1 hE hf => ?_) ?_
        · go_simp
          exact (gone7_any r v part w1).mono fun e w' ⟨he, hw⟩ => ⟨_, he, rg_done hE hw (int_congr HG.out.symm)⟩
        simp only [Act.put, List.setIfInBounds_toArray, List.set_cons_zero, List.set_cons_succ]
        refine rg_quiet rfl rfl rfl rfl ?_; intro K hK; go_big_quiet_op; go_big_quiet_on
        refine rg_quiet rfl rfl rfl rfl ?_; intro K hK; go_big_quiet_op; go_big_quiet_on
        refine rg_quiet rfl rfl rfl rfl ?_; intro K hK; go_big_quiet_op; go_big_quiet_on
        refine rg_quiet rfl rfl rfl rfl ?_; intro K hK; go_big_quiet_op; go_big_quiet_on
        refine rg_quiet rfl rfl rfl rfl ?_; intro K hK; go_big_quiet_op; go_big_quiet_on
        refine rg_quiet rfl rfl rfl rfl ?_; intro K hK; go_big_quiet_op; go_big_quiet_on
        refine rg_quiet rfl rfl rfl rfl ?_; intro K hK; go_big_quiet_op; go_big_quiet_on
        refine rg_quiet rfl rfl rfl rfl ?_; intro K hK; go_big_quiet_op; go_big_quiet_on
        refine rg_quiet rfl rfl rfl rfl ?_; intro K hK; go_big_quiet_op; go_big_quiet_on
        refine rg_quiet rfl rfl rfl rfl ?_; intro K hK; go_big_quiet_op; go_big_quiet_on
        refine rel_nil fun w5 hE5 _ => ?_
        obtain ⟨b0, hE, hin⟩ := FIN.out w5 hE5
        clear y0 y1 y2 y3 y4 y5 y6 y7 hE5 FIN
        clear d0 d1 d2
        have hq : isB r G now strict = true := by unfold isB; rw [HLV.out]; rfl
        have HQ := Lib.hid hq
        clear hq
        go_wp2
        go_ret
        exact ⟨ret_bool HQ.out.symm, hE⟩
end Go.Proofs.Yteamiiekpjoclaa
