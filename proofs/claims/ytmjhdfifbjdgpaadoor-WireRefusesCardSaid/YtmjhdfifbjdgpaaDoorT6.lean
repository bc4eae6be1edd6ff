/- wire.Check. -/
import Derived.Test.YtmjhdfifbjdgpaaDoorT5
set_option linter.unusedSimpArgs false
set_option linter.unusedVariables false
namespace Go.Proofs.YtmjhdfifbjdgpaaDoor
open Go Go.RowKit
attribute [local go_sem] yields yUpon

/-- A message: its numbers, its mutations (without rows), its keys. -/
structure Ms where
  kind : Int
  from_ : Int
  to_ : Int
  id : Int
  muts : List Mu
  keys : List ByteArray
  num : Int
def ms7 (m : Ms) (vm vk : Value) : Array Value := #[.int .i64 m.kind, .int .i64 m.from_, .int .i64 m.to_, .int .i64 m.id, vm, vk, .int .i64 m.num]
/-- Its head may be. -/
def headB (m : Ms) : Prop := (1 ≤ m.kind ∧ m.kind ≤ 8) ∧ (0 ≤ m.from_ ∧ m.from_ ≤ 4) ∧ (0 ≤ m.to_ ∧ m.to_ ≤ 4) ∧ (0 ≤ m.id ∧ m.id ≤ 1099511627776) ∧ (0 ≤ m.num ∧ m.num ≤ 1099511627776) ∧ m.muts.length ≤ 100 ∧ m.keys.length ≤ 40
theorem inB_yes {v most : Int} (h0 : 0 ≤ v) (h1 : v ≤ most) : inB v most = true := by unfold inB; simp; omega
set_option maxRecDepth 100000 in
set_option maxHeartbeats 8000000 in
theorem wcheck_head (m : Ms) (vm vk : Value) (w : World) (hT : TabU w) (hM : MusIn w vm m.muts) (hK : TxIn w vk m.keys) (hMb : ∀ x ∈ m.muts, x.table.size ≤ 100 ∧ x.key.size ≤ 100 ∧ x.gone ≤ 1099511627776) (hKb : ∀ s ∈ m.keys, s.size ≤ 1000000) (hh : headB m) :
    Calls Tryd.prog 30 #[.agg (ms7 m vm vk)] w fun e w' => e = .returned (.bool (!m.keys.any longB && !m.muts.any badM)) ∧ Ext w w' := by
  obtain ⟨kd, fr, to, id, M, ks, nm⟩ := m
  obtain ⟨⟨a1, a2⟩, ⟨b1, b2⟩, ⟨c1, c2⟩, ⟨d1, d2⟩, ⟨e1, e2⟩, f1, f2⟩ := hh
  simp only at a1 a2 b1 b2 c1 c2 d1 d2 e1 e2 f1 f2 hM hK hMb hKb
  obtain ⟨am, cm, rfl, _⟩ := hM.get
  obtain ⟨ak, ck, rfl, _⟩ := hK.get
  unfold ms7
  simp only
  have hE0 := (Ext.refl w).alloc (.cells #[.int .i64 kd, .int .i64 fr, .int .i64 to, .int .i64 id, .slice am M.length cm, .slice ak ks.length ck, .int .i64 nm] 66)
  have hbx := BoxAt.made w #[.int .i64 kd, .int .i64 fr, .int .i64 to, .int .i64 id, .slice am M.length cm, .slice ak ks.length ck, .int .i64 nm] 66
  have t1 : ¬ kd < 1 := by omega
  have t2 : ¬ 8 < kd := by omega
  have t3 := Lib.hid (inB_yes b1 b2)
  have t4 := Lib.hid (inB_yes c1 c2)
  have t5 := Lib.hid (inB_yes d1 d2)
  have t6 := Lib.hid (inB_yes e1 e2)
  have t7 : ¬ (100 : Int) < (M.length : Int) := by omega
  have t8 : ¬ (40 : Int) < (ks.length : Int) := by omega
  have HMb := Lib.hid hMb
  have HKb := Lib.hid hKb
  clear hMb hKb
  cases hq : ks.any longB
  all_goals
    have HQ := Lib.hid hq
    clear hq
    go_enter Tryd.func30, Tryd.ntmps30
    go_wp2_with (first
      | (go_at_call 71; go_must (refine (in_any _ _ _).mono ?_); rintro e w5 ⟨rfl, rfl⟩; first | rw [t3.out] | rw [t4.out] | rw [t5.out] | rw [t6.out])
      | (go_at_call 72; go_must (refine (containsT_any _ ks _ (hK.ext hE0) HKb.out).mono ?_); rintro e w6 ⟨rfl, rfl⟩; rw [HQ.out])
      | (go_at_call 74; go_must (refine (containsM_any _ M _ (hT.ext hE0) (hM.ext hE0) HMb.out).mono ?_); rintro e w7 ⟨rfl, hE7⟩))
    go_ret
    first
      | exact ⟨by cases M.any badM <;> rfl, hE0.trans hE7⟩
      | exact ⟨rfl, hE0⟩

set_option maxRecDepth 100000 in
set_option maxHeartbeats 8000000 in
theorem wcheck_no (m : Ms) (vm vk : Value) (w : World) (hM : MusIn w vm m.muts) (hK : TxIn w vk m.keys)
    (hh : 8 < m.kind ∨ ((1 ≤ m.kind ∧ m.kind ≤ 8) ∧ m.from_ < 0) ∨ ((1 ≤ m.kind ∧ m.kind ≤ 8) ∧ (0 ≤ m.from_ ∧ m.from_ ≤ 4) ∧ 4 < m.to_) ∨ ((1 ≤ m.kind ∧ m.kind ≤ 8) ∧ (0 ≤ m.from_ ∧ m.from_ ≤ 4) ∧ (0 ≤ m.to_ ∧ m.to_ ≤ 4) ∧ 1099511627776 < m.id) ∨ ((1 ≤ m.kind ∧ m.kind ≤ 8) ∧ (0 ≤ m.from_ ∧ m.from_ ≤ 4) ∧ (0 ≤ m.to_ ∧ m.to_ ≤ 4) ∧ (0 ≤ m.id ∧ m.id ≤ 1099511627776) ∧ (0 ≤ m.num ∧ m.num ≤ 1099511627776) ∧ m.muts.length ≤ 100 ∧ 40 < m.keys.length)) :
    Calls Tryd.prog 30 #[.agg (ms7 m vm vk)] w fun e w' => e = .returned (.bool false) ∧ Ext w w' := by
  obtain ⟨kd, fr, to, id, M, ks, nm⟩ := m
  simp only at hh hM hK
  obtain ⟨am, cm, rfl, _⟩ := hM.get
  obtain ⟨ak, ck, rfl, _⟩ := hK.get
  unfold ms7
  simp only
  have hE0 := (Ext.refl w).alloc (.cells #[.int .i64 kd, .int .i64 fr, .int .i64 to, .int .i64 id, .slice am M.length cm, .slice ak ks.length ck, .int .i64 nm] 66)
  have no : ∀ {v most : Int}, (v < 0 ∨ most < v) → inB v most = false := by intro v most h; unfold inB; simp; omega
  rcases hh with a1 | ⟨⟨a1, a2⟩, b1⟩ | ⟨⟨a1, a2⟩, ⟨b1, b2⟩, c1⟩ | ⟨⟨a1, a2⟩, ⟨b1, b2⟩, ⟨c1, c2⟩, d1⟩ | ⟨⟨a1, a2⟩, ⟨b1, b2⟩, ⟨c1, c2⟩, ⟨d1, d2⟩, ⟨e1, e2⟩, f1, f2⟩
  · have t1 : ¬ kd < 1 := by omega
    clear no
    go_enter Tryd.func30, Tryd.ntmps30
    go_wp2
    go_ret
    exact ⟨rfl, hE0⟩
  · have t1 : ¬ kd < 1 := by omega
    have t2 : ¬ 8 < kd := by omega
    have t3 := Lib.hid (no (v := fr) (most := 4) (.inl b1))
    clear no
    go_enter Tryd.func30, Tryd.ntmps30
    go_wp2_with (go_at_call 71; go_must (refine (in_any _ _ _).mono ?_); rintro e w5 ⟨rfl, rfl⟩; first | rw [t3.out])
    go_ret
    exact ⟨rfl, hE0⟩
  · have t1 : ¬ kd < 1 := by omega
    have t2 : ¬ 8 < kd := by omega
    have t3 := Lib.hid (inB_yes b1 b2)
    have t4 := Lib.hid (no (v := to) (most := 4) (.inr c1))
    clear no
    go_enter Tryd.func30, Tryd.ntmps30
    go_wp2_with (go_at_call 71; go_must (refine (in_any _ _ _).mono ?_); rintro e w5 ⟨rfl, rfl⟩; first | rw [t3.out] | rw [t4.out])
    go_ret
    exact ⟨rfl, hE0⟩
  · have t1 : ¬ kd < 1 := by omega
    have t2 : ¬ 8 < kd := by omega
    have t3 := Lib.hid (inB_yes b1 b2)
    have t4 := Lib.hid (inB_yes c1 c2)
    have t5 := Lib.hid (no (v := id) (most := 1099511627776) (.inr d1))
    clear no
    go_enter Tryd.func30, Tryd.ntmps30
    go_wp2_with (go_at_call 71; go_must (refine (in_any _ _ _).mono ?_); rintro e w5 ⟨rfl, rfl⟩; first | rw [t3.out] | rw [t4.out] | rw [t5.out])
    go_ret
    exact ⟨rfl, hE0⟩
  · have t1 : ¬ kd < 1 := by omega
    have t2 : ¬ 8 < kd := by omega
    have t3 := Lib.hid (inB_yes b1 b2)
    have t4 := Lib.hid (inB_yes c1 c2)
    have t5 := Lib.hid (inB_yes d1 d2)
    have t6 := Lib.hid (inB_yes e1 e2)
    have t7 : ¬ (100 : Int) < (M.length : Int) := by omega
    have t8 : (40 : Int) < (ks.length : Int) := by omega
    clear no
    go_enter Tryd.func30, Tryd.ntmps30
    go_wp2_with (go_at_call 71; go_must (refine (in_any _ _ _).mono ?_); rintro e w5 ⟨rfl, rfl⟩; first | rw [t3.out] | rw [t4.out] | rw [t5.out] | rw [t6.out])
    go_ret
    exact ⟨rfl, hE0⟩
end Go.Proofs.YtmjhdfifbjdgpaaDoor

/- wire.pieces, wire.text, the pieces' put. -/
namespace Go.Proofs.YtmjhdfifbjdgpaaDoor
open Go Go.RowKit
attribute [local go_sem] yields yUpon

/-- The seven pieces of a message at block q. -/
def piecesV (q : Nat) : Array Value := #[.iface 143 (.agg #[.pointer (some ⟨q, 0, none⟩)]), .iface 143 (.agg #[.pointer (some ⟨q, 1, none⟩)]), .iface 143 (.agg #[.pointer (some ⟨q, 2, none⟩)]), .iface 143 (.agg #[.pointer (some ⟨q, 3, none⟩)]), .iface 143 (.agg #[.pointer (some ⟨q, 6, none⟩)]), .iface 146 (.agg #[.pointer (some ⟨q, 4, none⟩)]), .iface 149 (.agg #[.pointer (some ⟨q, 5, none⟩)])]
set_option maxRecDepth 100000 in
set_option maxHeartbeats 4000000 in
theorem pieces_any (q : Nat) (w : World) :
    Calls Tryd.prog 70 #[.pointer (some ⟨q, 0, none⟩)] w fun e w' => ∃ b, (e = .returned (.slice (some ⟨b, 0, none⟩) 7 7) ∧ Ext w w') ∧ BoxAt w' b (piecesV q) 120 := by
  go_enter Tryd.func70, Tryd.ntmps70
  go_wp2
  refine wp_region_tab 35 [(1, fun v _ => v = .pointer (some ⟨q, 0, none⟩)), (6, fun v _ => v = .pointer (some ⟨q, 0, none⟩)), (11, fun v _ => v = .pointer (some ⟨q, 0, none⟩)), (16, fun v _ => v = .pointer (some ⟨q, 0, none⟩)), (21, fun v _ => v = .pointer (some ⟨q, 0, none⟩)), (26, fun v _ => v = .pointer (some ⟨q, 0, none⟩)), (31, fun v _ => v = .pointer (some ⟨q, 0, none⟩))] (by kernel_rfl) (by kernel_rfl) (by kernel_rfl) ⟨stays_eq _, stays_eq _, stays_eq _, stays_eq _, stays_eq _, stays_eq _, stays_eq _, trivial⟩ ?_
  refine rg_quiet rfl rfl rfl rfl ?_; intro K hK; go_big_quiet_op; go_big_quiet_on
  refine rg_val [] rfl rfl rfl (by kernel_rfl) (fun y hE hf => ?_) ?_
  · go_simp
    exact rg_done hE (Ext.refl y) rfl
  simp only [Act.put, List.setIfInBounds_toArray, List.set_cons_zero, List.set_cons_succ]
  refine rg_quiet rfl rfl rfl rfl ?_; intro K hK; go_big_quiet_op; go_big_quiet_on
  refine rg_quiet rfl rfl rfl rfl ?_; intro K hK; go_big_quiet_op; go_big_quiet_on
  refine rg_quiet rfl rfl rfl rfl ?_; intro K hK; go_big_quiet_op; go_big_quiet_on
  refine rg_quiet rfl rfl rfl rfl ?_; intro K hK; go_big_quiet_op; go_big_quiet_on
  refine rg_val [] rfl rfl rfl (by kernel_rfl) (fun y hE hf => ?_) ?_
  · go_simp
    exact rg_done hE (Ext.refl y) rfl
  simp only [Act.put, List.setIfInBounds_toArray, List.set_cons_zero, List.set_cons_succ]
  refine rg_quiet rfl rfl rfl rfl ?_; intro K hK; go_big_quiet_op; go_big_quiet_on
  refine rg_quiet rfl rfl rfl rfl ?_; intro K hK; go_big_quiet_op; go_big_quiet_on
  refine rg_quiet rfl rfl rfl rfl ?_; intro K hK; go_big_quiet_op; go_big_quiet_on
  refine rg_quiet rfl rfl rfl rfl ?_; intro K hK; go_big_quiet_op; go_big_quiet_on
  refine rg_val [] rfl rfl rfl (by kernel_rfl) (fun y hE hf => ?_) ?_
  · go_simp
    exact rg_done hE (Ext.refl y) rfl
  simp only [Act.put, List.setIfInBounds_toArray, List.set_cons_zero, List.set_cons_succ]
  refine rg_quiet rfl rfl rfl rfl ?_; intro K hK; go_big_quiet_op; go_big_quiet_on
  refine rg_quiet rfl rfl rfl rfl ?_; intro K hK; go_big_quiet_op; go_big_quiet_on
  refine rg_quiet rfl rfl rfl rfl ?_; intro K hK; go_big_quiet_op; go_big_quiet_on
  refine rg_quiet rfl rfl rfl rfl ?_; intro K hK; go_big_quiet_op; go_big_quiet_on
  refine rg_val [] rfl rfl rfl (by kernel_rfl) (fun y hE hf => ?_) ?_
  · go_simp
    exact rg_done hE (Ext.refl y) rfl
  simp only [Act.put, List.setIfInBounds_toArray, List.set_cons_zero, List.set_cons_succ]
  refine rg_quiet rfl rfl rfl rfl ?_; intro K hK; go_big_quiet_op; go_big_quiet_on
  refine rg_quiet rfl rfl rfl rfl ?_; intro K hK; go_big_quiet_op; go_big_quiet_on
  refine rg_quiet rfl rfl rfl rfl ?_; intro K hK; go_big_quiet_op; go_big_quiet_on
  refine rg_quiet rfl rfl rfl rfl ?_; intro K hK; go_big_quiet_op; go_big_quiet_on
  refine rg_val [] rfl rfl rfl (by kernel_rfl) (fun y hE hf => ?_) ?_
  · go_simp
    exact rg_done hE (Ext.refl y) rfl
  simp only [Act.put, List.setIfInBounds_toArray, List.set_cons_zero, List.set_cons_succ]
  refine rg_quiet rfl rfl rfl rfl ?_; intro K hK; go_big_quiet_op; go_big_quiet_on
  refine rg_quiet rfl rfl rfl rfl ?_; intro K hK; go_big_quiet_op; go_big_quiet_on
  refine rg_quiet rfl rfl rfl rfl ?_; intro K hK; go_big_quiet_op; go_big_quiet_on
  refine rg_quiet rfl rfl rfl rfl ?_; intro K hK; go_big_quiet_op; go_big_quiet_on
  refine rg_val [] rfl rfl rfl (by kernel_rfl) (fun y hE hf => ?_) ?_
  · go_simp
    exact rg_done hE (Ext.refl y) rfl
  simp only [Act.put, List.setIfInBounds_toArray, List.set_cons_zero, List.set_cons_succ]
  refine rg_quiet rfl rfl rfl rfl ?_; intro K hK; go_big_quiet_op; go_big_quiet_on
  refine rg_quiet rfl rfl rfl rfl ?_; intro K hK; go_big_quiet_op; go_big_quiet_on
  refine rg_quiet rfl rfl rfl rfl ?_; intro K hK; go_big_quiet_op; go_big_quiet_on
  refine rg_quiet rfl rfl rfl rfl ?_; intro K hK; go_big_quiet_op; go_big_quiet_on
  refine rg_val [] rfl rfl rfl (by kernel_rfl) (fun y hE hf => ?_) ?_
  · go_simp
    exact rg_done hE (Ext.refl y) rfl
  simp only [Act.put, List.setIfInBounds_toArray, List.set_cons_zero, List.set_cons_succ]
  refine rg_quiet rfl rfl rfl rfl ?_; intro K hK; go_big_quiet_op; go_big_quiet_on
  refine rg_quiet rfl rfl rfl rfl ?_; intro K hK; go_big_quiet_op; go_big_quiet_on
  refine rg_quiet rfl rfl rfl rfl ?_; intro K hK; go_big_quiet_op; go_big_quiet_on
  refine rel_tail rfl rfl fun w8 hE8 hG => ?_
  clear hG
  go_wp2
  go_ret
  exact ⟨_, ⟨rfl, hE8.alloc _⟩, BoxAt.made w8 _ _⟩

set_option maxHeartbeats 400000 in
theorem wtext_any (v : Value) (l : List UInt8) (s : ByteArray) (hs : s.size ≤ 1000000000) (w : World) (hv : BytesIn w v l) (hl : l.length ≤ 1000000000) :
    Calls Tryd.prog 145 #[v, .string s] w fun e w' => ∃ v', e = .returned v' ∧ OwnB w' w.heap.size v' (l ++ num s.size ++ s.data.toList) ∧ Ext w w' := by
  have hn := num_length (x := s.size) (by omega)
  have hw : IntKind.u64.wrap (s.size : Int) = (s.size : Int) := by rw [IntKind.wrap_u64]; omega
  go_enter Tryd.func145, Tryd.ntmps145
  go_wp2_with (first
    | (go_at_call 76; go_must (refine (Num_ok v l (s.size : Int) (by omega) (by omega) w hv (by omega)).mono ?_); rintro e w1 ⟨v1, rfl, ho1, hE1⟩; rw [Int.toNat_natCast] at ho1)
    | ((guard_target =~ wpList _ _ _ (Oper.mk (some 11) _ _ _ _ _ :: _) _ _); go_must (refine appBo w1 rfl (.tmp 9) (.tmp 10) rfl w.heap.size hE1.le v1 _ s (by rfl) ho1 (by rfl) (by simp; omega) ?_); intro v2 w2 ho2 hg2))
  go_ret
  exact ⟨_, rfl, ho2, hE1.grown hg2 (fun k hk => (ho1.lt k hk).1)⟩

set_option maxHeartbeats 1000000 in
theorem numput_any (q i : Nat) (X : Int) (v : Value) (l : List UInt8) (h0 : 0 ≤ X) (h1 : X ≤ 9223372036854775807) (w : World) (hc : w.cell? ⟨q, i, none⟩ = some (.int .i64 X)) (hv : BytesIn w v l) (hl : l.length ≤ 1000000000) :
    Calls Tryd.prog 142 #[.agg #[.pointer (some ⟨q, i, none⟩)], v] w fun e w' => ∃ v', e = .returned v' ∧ OwnB w' w.heap.size v' (l ++ num X.toNat) ∧ Ext w w' := by
  have hw : IntKind.u64.wrap X = X := by rw [IntKind.wrap_u64]; omega
  have hE0 := (Ext.refl w).alloc (.cells #[.pointer (some ⟨q, i, none⟩)] 143)
  have c0 := hE0.cell hc
  go_enter Tryd.func142, Tryd.ntmps142
  go_wp2_with (go_at_call 76; go_must (refine (Num_ok v l X h0 (by omega) _ (SliceIn.ext hE0 hv) (by omega)).mono ?_); rintro e w1 ⟨v1, rfl, ho1, hE1⟩)
  go_ret
  exact ⟨_, rfl, ho1.base hE0.le, hE0.trans hE1⟩
end Go.Proofs.YtmjhdfifbjdgpaaDoor

/- wire: the texts' and the mutations' put. -/
namespace Go.Proofs.YtmjhdfifbjdgpaaDoor
open Go Go.RowKit
attribute [local go_sem] yields yUpon

def tb (s : ByteArray) : List UInt8 := num s.size ++ s.data.toList
def mb (x : Mu) : List UInt8 := tb x.table ++ (num (whole0 x.key 0).length ++ whole0 x.key 0)
theorem str_data0 (l : List UInt8) : (str l).data.toList = l := by simp [str]
theorem ba_size (s : ByteArray) : s.data.toList.length = s.size := by rw [Array.length_toList]; rfl
theorem tb_length (s : ByteArray) (h : s.size ≤ 1000000) : (tb s).length ≤ 9 + s.size := by
  have := num_length (x := s.size) (by omega)
  unfold tb
  rw [List.length_append, ba_size]
  omega

set_option maxRecDepth 100000 in
set_option maxHeartbeats 4000000 in
theorem textsput_any (q i : Nat) (vk : Value) (K : List ByteArray) (v : Value) (l : List UInt8) (w : World) (hc : w.cell? ⟨q, i, none⟩ = some vk) (hK : TxIn w vk K) (hKb : ∀ s ∈ K, s.size ≤ 1000) (hn : K.length ≤ 100) (hv : BytesIn w v l) (hl : l.length ≤ 1000000) :
    Calls Tryd.prog 147 #[.agg #[.pointer (some ⟨q, i, none⟩)], v] w fun e w' => ∃ v', e = .returned v' ∧ OwnB w' w.heap.size v' (l ++ num K.length ++ K.flatMap tb) ∧ Ext w w' := by
  obtain ⟨ak, ck, rfl, hck, hckm, hget⟩ := hK.get
  obtain ⟨n, hnn⟩ : ∃ n, n = K.length := ⟨_, rfl⟩
  have HN := Lib.hid hnn
  rw [← hnn] at hc hck hn ⊢
  have HG := Lib.hid hget
  have HB := Lib.hid hKb
  clear hnn hget hKb hK
  have hw : IntKind.u64.wrap (n : Int) = (n : Int) := by rw [IntKind.wrap_u64]; omega
  have hE0 := (Ext.refl w).alloc (.cells #[.pointer (some ⟨q, i, none⟩)] 149)
  have hbx := BoxAt.made w #[.pointer (some ⟨q, i, none⟩)] 149
  have c0 := hE0.cell hc
  have hln := num_length (x := n) (by omega)
  go_enter Tryd.func147, Tryd.ntmps147
  go_wp2_with (go_at_call 76; go_must (refine (Num_ok v l (n : Int) (by omega) (by omega) _ (SliceIn.ext hE0 hv) (by omega)).mono ?_); rintro e w1 ⟨v1, rfl, ho1, hE1⟩; rw [Int.toNat_natCast] at ho1; have d0 := hE1.cell c0; have p0 : w1.cell? ⟨w.heap.size, 0, none⟩ = some (.pointer (some ⟨q, i, none⟩)) := (hbx.ext hE1).cell 0)
  have hE01 := hE0.trans hE1
  replace ho1 := ho1.base hE0.le
  obtain ⟨L0, hL0⟩ : ∃ L, L = l ++ num n := ⟨_, rfl⟩
  have hL0l : L0.length ≤ 1000009 := by rw [hL0, List.length_append]; omega
  rw [← hL0] at ho1
  have HL0 := Lib.hid hL0
  clear hL0 d0 p0 c0
  go_loopw [1, 20] (fun o i wr => ∃ k : Nat, k ≤ n ∧ i = .int .i64 (k : Int) ∧ OwnB wr w.heap.size o (L0 ++ (K.take k).flatMap tb) ∧ Hid ((L0 ++ (K.take k).flatMap tb).length ≤ 1000009 + k * 1009) ∧ Ext w1 wr) (fun _ i _ => n - (intOf i).toNat)
  case atStart => exact ⟨0, Nat.zero_le _, rfl, by simpa using ho1, Lib.hid (by simpa using hL0l), Ext.refl w1⟩
  case round =>
    obtain ⟨k, hk, rfl, hF, HL, hE⟩ := hrel
    have hEw := hE01.trans hE
    by_cases hlt : k < n
    · have hkF : k < K.length := by rw [← HN.out]; exact hlt
      obtain ⟨b, o, rfl, g0⟩ := HG.out k hkF
      replace g0 := hEw.cell g0
      have hs := HB.out _ (List.getElem_mem hkF)
      have HT : Hid (L0 ++ (K.take (k + 1)).flatMap tb = L0 ++ (K.take k).flatMap tb ++ num (K[k]).size ++ (K[k]).data.toList) := Lib.hid (by
        rw [List.take_succ_eq_append_getElem hkF, List.flatMap_append, ← List.append_assoc, List.append_assoc (L0 ++ (K.take k).flatMap tb)]; simp [tb])
      obtain ⟨s, hse⟩ : ∃ s, s = K[k] := ⟨_, rfl⟩
      rw [← hse] at g0 hs HT
      clear hse
      obtain ⟨L, hL⟩ : ∃ L, L = L0 ++ (K.take k).flatMap tb := ⟨_, rfl⟩
      rw [← hL] at hF HL HT
      clear hL
      have hLl := HL.out
      have hbs := num_length (x := s.size) (by omega)
      go_wp2_with (go_at_call 145; go_must (refine (wtext_any _ L s (by omega) wr (OwnB.bytes hF) (by omega)).mono ?_); rintro e w5 ⟨v5, rfl, ho5, hE5⟩)
      go_roundw
      case rel =>
        refine ⟨k + 1, by omega, by go_num, by rw [HT.out]; exact ho5.base hEw.le, Lib.hid ?_, hE.trans hE5⟩
        rw [HT.out, List.length_append, List.length_append, ba_size]
        omega
      case measure => simp [intOf]; omega
    · obtain rfl : k = n := by omega
      go_wp2_with fail
      go_ret
      refine ⟨_, rfl, ?_, hEw⟩
      rw [List.take_of_length_le (by rw [HN.out]; exact Nat.le_refl _)] at hF
      rw [← HL0.out]
      exact hF

set_option maxRecDepth 100000 in
set_option maxHeartbeats 8000000 in
theorem mutsput_any (q i : Nat) (vm : Value) (M : List Mu) (v : Value) (l : List UInt8) (w : World) (hc : w.cell? ⟨q, i, none⟩ = some vm) (hM : MusIn w vm M) (hMb : ∀ x ∈ M, x.table.size ≤ 100 ∧ x.key.size ≤ 100 ∧ x.gone = 0) (hn : M.length ≤ 100) (hv : BytesIn w v l) (hl : l.length ≤ 1000000) :
    Calls Tryd.prog 144 #[.agg #[.pointer (some ⟨q, i, none⟩)], v] w fun e w' => ∃ v', e = .returned v' ∧ OwnB w' w.heap.size v' (l ++ num M.length ++ M.flatMap mb) ∧ Ext w w' := by
  obtain ⟨ak, ck, rfl, hck, hckm, hget⟩ := hM.get
  obtain ⟨n, hnn⟩ : ∃ n, n = M.length := ⟨_, rfl⟩
  have HN := Lib.hid hnn
  rw [← hnn] at hc hck hn ⊢
  have HG := Lib.hid hget
  have HB := Lib.hid hMb
  clear hnn hget hMb hM
  have hw : IntKind.u64.wrap (n : Int) = (n : Int) := by rw [IntKind.wrap_u64]; omega
  have hE0 := (Ext.refl w).alloc (.cells #[.pointer (some ⟨q, i, none⟩)] 146)
  have hbx := BoxAt.made w #[.pointer (some ⟨q, i, none⟩)] 146
  have c0 := hE0.cell hc
  have hln := num_length (x := n) (by omega)
  go_enter Tryd.func144, Tryd.ntmps144
  go_wp2_with (go_at_call 76; go_must (refine (Num_ok v l (n : Int) (by omega) (by omega) _ (SliceIn.ext hE0 hv) (by omega)).mono ?_); rintro e w1 ⟨v1, rfl, ho1, hE1⟩; rw [Int.toNat_natCast] at ho1; have d0 := hE1.cell c0; have p0 : w1.cell? ⟨w.heap.size, 0, none⟩ = some (.pointer (some ⟨q, i, none⟩)) := (hbx.ext hE1).cell 0)
  have hE01 := hE0.trans hE1
  replace ho1 := ho1.base hE0.le
  obtain ⟨L0, hL0⟩ : ∃ L, L = l ++ num n := ⟨_, rfl⟩
  have hL0l : L0.length ≤ 1000009 := by rw [hL0, List.length_append]; omega
  rw [← hL0] at ho1
  have HL0 := Lib.hid hL0
  clear hL0 d0 p0 c0
  go_loopw [1, 22] (fun o i wr => ∃ k : Nat, k ≤ n ∧ i = .int .i64 (k : Int) ∧ OwnB wr w.heap.size o (L0 ++ (M.take k).flatMap mb) ∧ Hid ((L0 ++ (M.take k).flatMap mb).length ≤ 1000009 + k * 1009) ∧ Ext w1 wr) (fun _ i _ => n - (intOf i).toNat)
  case atStart => exact ⟨0, Nat.zero_le _, rfl, by simpa using ho1, Lib.hid (by simpa using hL0l), Ext.refl w1⟩
  case round =>
    obtain ⟨k, hk, rfl, hF, HL, hE⟩ := hrel
    have hEw := hE01.trans hE
    by_cases hlt : k < n
    · have hkF : k < M.length := by rw [← HN.out]; exact hlt
      obtain ⟨b, o, rfl, g0, g1, g2, g3⟩ := HG.out k hkF
      replace g0 := hEw.cell g0
      replace g1 := hEw.cell g1
      replace g2 := hEw.cell g2
      replace g3 := hEw.cell g3
      obtain ⟨q1, q2, q3⟩ := HB.out _ (List.getElem_mem hkF)
      rw [q3] at g2
      have HT : Hid (L0 ++ (M.take (k + 1)).flatMap mb = L0 ++ (M.take k).flatMap mb ++ num (M[k]).table.size ++ (M[k]).table.data.toList ++ num (whole0 (M[k]).key 0).length ++ whole0 (M[k]).key 0) := Lib.hid (by
        rw [List.take_succ_eq_append_getElem hkF, List.flatMap_append]; simp [mb, tb])
      obtain ⟨t, hte⟩ : ∃ s, s = (M[k]).table := ⟨_, rfl⟩
      obtain ⟨ky, hke⟩ : ∃ s, s = (M[k]).key := ⟨_, rfl⟩
      rw [← hte] at g0 q1 HT
      rw [← hke] at g1 q2 HT
      clear hte hke q3
      obtain ⟨L, hL⟩ : ∃ L, L = L0 ++ (M.take k).flatMap mb := ⟨_, rfl⟩
      rw [← hL] at hF HL HT
      clear hL
      have hLl := HL.out
      have hbs := num_length (x := t.size) (by omega)
      have hwl : (whole0 ky 0).length ≤ 127 := by
        have l1 := num_length (x := ky.size) (by omega)
        have l3 := num_length (x := 0) (by omega)
        unfold whole0
        simp only [List.length_append, ba_size]
        omega
      obtain ⟨Wh, hWh⟩ : ∃ L, L = whole0 ky 0 := ⟨_, rfl⟩
      rw [← hWh] at hwl HT
      have HWH := Lib.hid hWh
      clear hWh
      have hbw := num_length (x := Wh.length) (by omega)
      have hws : (str Wh).size = Wh.length := str_size _
      obtain ⟨L1, hL1⟩ : ∃ L', L' = L ++ num t.size ++ t.data.toList := ⟨_, rfl⟩
      obtain ⟨L2, hL2⟩ : ∃ L', L' = L1 ++ num Wh.length ++ Wh := ⟨_, rfl⟩
      have hL1l : L1.length ≤ L.length + 109 := by rw [hL1, List.length_append, List.length_append, ba_size]; omega
      have hL2l : L2.length ≤ L.length + 300 := by rw [hL2, List.length_append, List.length_append]; omega
      have H1 := Lib.hid hL1
      have H2 := Lib.hid hL2
      have HT2 : Hid (L0 ++ (M.take (k + 1)).flatMap mb = L2) := Lib.hid (by rw [HT.out, hL2, hL1])
      clear hL1 hL2 HT
      have hEb := (Ext.refl wr).alloc (.cells #[.string t, .string ky, .int .i64 0, .slice none 0 0] 27)
      have hbm := BoxAt.made wr #[.string t, .string ky, .int .i64 0, .slice none 0 0] 27
      have t1 : decide ((k : Int) < (n : Int)) = true := by simp; omega
      go_wp2_with (go_at_call 13; go_must (refine (part0_any ky q2 _).mono ?_); rintro e w5 ⟨v5, rfl, ho5, hE5⟩; rw [← HWH.out] at ho5; have ho5' := ho5; obtain ⟨a5, n5, rfl⟩ := ownB_shape ho5')
      have hE6 := hEb.trans hE5
      have hEw5 := hEw.trans hE6
      have hF5 := hF.ext hE6
      have x0 : w5.cell? ⟨wr.heap.size, 0, none⟩ = some (.string t) := (hbm.ext hE5).cell 0
      refine wp_region_tab 8 [(3, fun v x => OwnB x w.heap.size v L1), (5, fun v _ => v = .string (str Wh)), (6, fun v x => OwnB x w.heap.size v L2)] (by kernel_rfl) (by kernel_rfl) (by kernel_rfl) ⟨fun _ _ _ hE h => OwnB.ext h hE, stays_eq _, fun _ _ _ hE h => OwnB.ext h hE, trivial⟩ ?_
      replace x0 := held x0
      refine rg_quiet rfl rfl rfl rfl ?_; intro K hK; go_big_quiet_op; go_big_quiet_on
      refine rg_quiet rfl rfl rfl rfl ?_; intro K hK; go_big_quiet_op; go_big_quiet_on
      refine rg_quiet rfl rfl rfl rfl ?_; intro K hK; go_big_quiet_op; go_big_quiet_on
      refine rg_fact [] rfl rfl rfl (by kernel_rfl) (fun y hE hf => ?_) (fun v3 y3 hE3 hG3 h3 => ?_)
      · go_simp
        refine (wtext_any _ L t (by omega) y (OwnB.bytes (hF5.ext hE)) (by omega)).mono ?_
        rintro e w' ⟨v', rfl, ho, hw⟩
        exact ⟨_, rfl, rg_doneR hE hw (by rw [H1.out]; exact ho.base (hEw5.trans hE).le)⟩
      clear hE3 hG3 h3
      simp only [Act.put, List.setIfInBounds_toArray, List.set_cons_zero, List.set_cons_succ]
      refine rg_quiet rfl rfl rfl rfl ?_; intro K hK; go_big_quiet_op; go_big_quiet_on
      refine rg_text [] 35 9 5 (.tmp 36) Wh rfl rfl rfl rfl (by kernel_rfl) und_bytes und_u8 und_string (fun y hE hf => OwnB.bytes (ho5.ext hE)) ?_
      simp only [Act.put, List.setIfInBounds_toArray, List.set_cons_zero, List.set_cons_succ]
      refine rg_fact [3] rfl rfl rfl (by kernel_rfl) (fun y hE hf => ?_) (fun v6 y6 hE6' hG6 h6 => ?_)
      · have h3 := (hf 3 (by simp)).2 rfl
        go_simp
        refine (wtext_any _ L1 (str Wh) (by omega) y (OwnB.bytes h3) (by omega)).mono ?_
        rintro e w' ⟨v', rfl, ho, hw⟩
        refine ⟨_, rfl, rg_doneR hE hw ?_⟩
        rw [hws, str_data0] at ho
        rw [H2.out]
        exact ho.base (hEw5.trans hE).le
      clear hE6' hG6 h6
      simp only [Act.put, List.setIfInBounds_toArray, List.set_cons_zero, List.set_cons_succ]
      refine rg_quiet rfl rfl rfl rfl ?_; intro K hK; go_big_quiet_op; go_big_quiet_on
      refine rel_nil fun w7 hE7 hG => ?_
      have h6 := (hG 6).2 rfl
      clear x0 hG
      go_wp2_with fail
      go_roundw
      case rel => exact ⟨k + 1, by omega, by go_num, by rw [HT2.out]; exact h6, Lib.hid (by rw [HT2.out]; omega), (hE.trans hE6).trans hE7⟩
      case measure => simp [intOf]; omega
    · obtain rfl : k = n := by omega
      go_wp2_with fail
      go_ret
      refine ⟨_, rfl, ?_, hEw⟩
      rw [List.take_of_length_le (by rw [HN.out]; exact Nat.le_refl _)] at hF
      rw [← HL0.out]
      exact hF
end Go.Proofs.YtmjhdfifbjdgpaaDoor

/- wire.Put. -/
namespace Go.Proofs.YtmjhdfifbjdgpaaDoor
open Go Go.RowKit
attribute [local go_sem] yields yUpon

theorem upon_method {P : Program} {o : Oper} {a : Act} {K : Act → World → Prop} {Q : Exit → Act → World → Prop} {d : Nat} {T : TypeId} {v : Value} {s : String} {w : World} {g : FuncId × Value → World → Result Next} (f : FuncId) (h : (method d T v s).run P w = .ok (f, v) w) (hK : Oper.upon P o a K Q (g (f, v) w)) : Oper.upon P o a K Q (((method d T v s).run P w).andThen g) := by
  rw [h, Result.andThen_ok]
  exact hK
/-- A message's bytes, piece by piece. -/
def partsW (m : Ms) : List (List UInt8) := [num m.kind.toNat, num m.from_.toNat, num m.to_.toNat, num m.id.toNat, num m.num.toNat, num m.muts.length ++ m.muts.flatMap mb, num m.keys.length ++ m.keys.flatMap tb]
def prefW (m : Ms) (k : Nat) : List UInt8 := ((partsW m).take k).flatten
def bytesW (m : Ms) : List UInt8 := (partsW m).flatten

set_option maxRecDepth 100000 in
set_option maxHeartbeats 2000000 in
theorem wput_no (m : Ms) (vm vk : Value) (w : World) (hM : MusIn w vm m.muts) (hK : TxIn w vk m.keys)
    (hC : ∀ w', Ext w w' → Calls Tryd.prog 30 #[.agg (ms7 m vm vk)] w' fun e w'' => e = .returned (.bool false) ∧ Ext w' w'') :
    Calls Tryd.prog 29 #[.agg (ms7 m vm vk)] w fun e w' => e = .returned (.tuple #[.string ⟨#[]⟩, .int .i64 1]) ∧ Ext w w' := by
  obtain ⟨kd, fr, to, id, M, ks, nm⟩ := m
  obtain ⟨am, cm, rfl, _⟩ := hM.get
  obtain ⟨ak, ck, rfl, _⟩ := hK.get
  unfold ms7 at *
  simp only at *
  have hE0 := (Ext.refl w).alloc (.cells #[.int .i64 kd, .int .i64 fr, .int .i64 to, .int .i64 id, .slice am M.length cm, .slice ak ks.length ck, .int .i64 nm] 66)
  have HC := Lib.hid hC
  clear hC
  go_enter Tryd.func29, Tryd.ntmps29
  go_wp2_with (go_at_call 30; go_must (refine (HC.out _ hE0).mono ?_); rintro e w1 ⟨rfl, hE1⟩)
  go_ret2
  exact ⟨rfl, hE0.trans hE1⟩

set_option maxRecDepth 100000 in
set_option maxHeartbeats 8000000 in
theorem wput_ok (m : Ms) (vm vk : Value) (w : World) (hT : TabU w) (hM : MusIn w vm m.muts) (hK : TxIn w vk m.keys) (hMb : ∀ x ∈ m.muts, x.table.size ≤ 100 ∧ x.key.size ≤ 100 ∧ x.gone = 0) (hKb : ∀ s ∈ m.keys, s.size ≤ 1000) (hh : headB m) (h1 : m.keys.any longB = false) (h2 : m.muts.any badM = false) (hl : (bytesW m).length ≤ 900000) :
    Calls Tryd.prog 29 #[.agg (ms7 m vm vk)] w fun e w' => e = .returned (if (bytesW m).length ≤ 4096 then .tuple #[.string (str (bytesW m)), .int .i64 0] else .tuple #[.string ⟨#[]⟩, .int .i64 2]) ∧ Ext w w' := by
  have hCk := fun (w1 : World) (hE : Ext w w1) => Lib.hid (wcheck_head m vm vk w1 (hT.ext hE) (hM.ext hE) (hK.ext hE) (fun x hx => by have h := hMb x hx; exact ⟨h.1, h.2.1, by rw [h.2.2]; omega⟩) (fun s hs => by have := hKb s hs; omega) hh)
  rw [h1, h2] at hCk
  obtain ⟨kd, fr, to, id, M, ks, nm⟩ := m
  obtain ⟨⟨a1, a2⟩, ⟨b1, b2⟩, ⟨c1, c2⟩, ⟨d1, d2⟩, ⟨e1, e2⟩, f1, f2⟩ := hh
  simp only at a1 a2 b1 b2 c1 c2 d1 d2 e1 e2 f1 f2 hM hK hMb hKb
  obtain ⟨am, cm, rfl, _⟩ := hM.get
  obtain ⟨ak, ck, rfl, _⟩ := hK.get
  unfold ms7 at *
  simp only at hCk ⊢
  have hE0 := (Ext.refl w).alloc (.cells #[.int .i64 kd, .int .i64 fr, .int .i64 to, .int .i64 id, .slice am M.length cm, .slice ak ks.length ck, .int .i64 nm] 66)
  have hbx := BoxAt.made w #[.int .i64 kd, .int .i64 fr, .int .i64 to, .int .i64 id, .slice am M.length cm, .slice ak ks.length ck, .int .i64 nm] 66
  have HMb := Lib.hid hMb
  have HKb := Lib.hid hKb
  obtain ⟨m, hm⟩ : ∃ m : Ms, m = ⟨kd, fr, to, id, M, ks, nm⟩ := ⟨_, rfl⟩
  rw [← hm] at hl ⊢
  have HMM := Lib.hid hm
  clear hMb hKb h1 h2 hm
  go_enter Tryd.func29, Tryd.ntmps29
  go_wp2_with (first
    | (go_at_call 30; go_must (refine (hCk _ hE0).out.mono ?_); rintro e w1 ⟨rfl, hE1⟩)
    | (go_at_call 70; go_must (refine (pieces_any w.heap.size _).mono ?_); rintro e w2 ⟨pb, ⟨rfl, hE2⟩, hpb⟩))
  have hE12 := (hE0.trans hE1).trans hE2
  have hb2 := hbx.ext (hE1.trans hE2)
  go_loopw [4, 12] (fun o i wr => ∃ k : Nat, k ≤ 7 ∧ i = .int .i64 (k : Int) ∧ OwnB wr w.heap.size o (prefW m k) ∧ Ext w2 wr) (fun _ i _ => 7 - (intOf i).toNat)
  case atStart => exact ⟨0, Nat.zero_le _, rfl, World.ownsRow_nil _ _ _ _, Ext.refl w2⟩
  case round =>
    obtain ⟨k, hk, rfl, hF, hE⟩ := hrel
    have hEw := hE12.trans hE
    have hbr := hb2.ext hE
    have hpr := hpb.ext hE
    have hpl : (prefW m k).length ≤ 900000 := by
      have : (bytesW m).length = (prefW m k).length + ((partsW m).drop k).flatten.length := by
        unfold bytesW prefW
        rw [← List.length_append, ← List.flatten_append, List.take_append_drop]
      omega
    by_cases hlt : k < 7
    · obtain rfl | rfl | rfl | rfl | rfl | rfl | rfl : k = 0 ∨ k = 1 ∨ k = 2 ∨ k = 3 ∨ k = 4 ∨ k = 5 ∨ k = 6 := by omega
      · have p0 : wr.cell? ⟨pb, 0, none⟩ = some (.iface 143 (.agg #[.pointer (some ⟨w.heap.size, 0, none⟩)])) := hpr.cell 0
        have z : wr.cell? ⟨w.heap.size, 0, none⟩ = some (.int .i64 kd) := hbr.cell 0
        go_wp2_with fail
        refine upon_method 142 (by kernel_rfl) ?_
        go_wp2_with (go_at_call 142; go_must (refine (numput_any w.heap.size 0 kd _ _ (by omega) (by omega) wr z (OwnB.bytes hF) (by omega)).mono ?_); rintro e w5 ⟨v5, rfl, ho5, hE5⟩)
        refine ⟨⟨1, by omega, rfl, ?_, hE.trans hE5⟩, by simp [intOf]⟩
        have e : prefW m 1 = prefW m 0 ++ num kd.toNat := by rw [HMM.out]; simp [prefW, partsW]
        rw [e]
        exact ho5.base hEw.le
      · have p0 : wr.cell? ⟨pb, 1, none⟩ = some (.iface 143 (.agg #[.pointer (some ⟨w.heap.size, 1, none⟩)])) := hpr.cell 1
        have z : wr.cell? ⟨w.heap.size, 1, none⟩ = some (.int .i64 fr) := hbr.cell 1
        go_wp2_with fail
        refine upon_method 142 (by kernel_rfl) ?_
        go_wp2_with (go_at_call 142; go_must (refine (numput_any w.heap.size 1 fr _ _ (by omega) (by omega) wr z (OwnB.bytes hF) (by omega)).mono ?_); rintro e w5 ⟨v5, rfl, ho5, hE5⟩)
        refine ⟨⟨2, by omega, rfl, ?_, hE.trans hE5⟩, by simp [intOf]⟩
        have e : prefW m 2 = prefW m 1 ++ num fr.toNat := by rw [HMM.out]; simp [prefW, partsW]
        rw [e]
        exact ho5.base hEw.le
      · have p0 : wr.cell? ⟨pb, 2, none⟩ = some (.iface 143 (.agg #[.pointer (some ⟨w.heap.size, 2, none⟩)])) := hpr.cell 2
        have z : wr.cell? ⟨w.heap.size, 2, none⟩ = some (.int .i64 to) := hbr.cell 2
        go_wp2_with fail
        refine upon_method 142 (by kernel_rfl) ?_
        go_wp2_with (go_at_call 142; go_must (refine (numput_any w.heap.size 2 to _ _ (by omega) (by omega) wr z (OwnB.bytes hF) (by omega)).mono ?_); rintro e w5 ⟨v5, rfl, ho5, hE5⟩)
        refine ⟨⟨3, by omega, rfl, ?_, hE.trans hE5⟩, by simp [intOf]⟩
        have e : prefW m 3 = prefW m 2 ++ num to.toNat := by rw [HMM.out]; simp [prefW, partsW]
        rw [e]
        exact ho5.base hEw.le
      · have p0 : wr.cell? ⟨pb, 3, none⟩ = some (.iface 143 (.agg #[.pointer (some ⟨w.heap.size, 3, none⟩)])) := hpr.cell 3
        have z : wr.cell? ⟨w.heap.size, 3, none⟩ = some (.int .i64 id) := hbr.cell 3
        go_wp2_with fail
        refine upon_method 142 (by kernel_rfl) ?_
        go_wp2_with (go_at_call 142; go_must (refine (numput_any w.heap.size 3 id _ _ (by omega) (by omega) wr z (OwnB.bytes hF) (by omega)).mono ?_); rintro e w5 ⟨v5, rfl, ho5, hE5⟩)
        refine ⟨⟨4, by omega, rfl, ?_, hE.trans hE5⟩, by simp [intOf]⟩
        have e : prefW m 4 = prefW m 3 ++ num id.toNat := by rw [HMM.out]; simp [prefW, partsW]
        rw [e]
        exact ho5.base hEw.le
      · have p0 : wr.cell? ⟨pb, 4, none⟩ = some (.iface 143 (.agg #[.pointer (some ⟨w.heap.size, 6, none⟩)])) := hpr.cell 4
        have z : wr.cell? ⟨w.heap.size, 6, none⟩ = some (.int .i64 nm) := hbr.cell 6
        go_wp2_with fail
        refine upon_method 142 (by kernel_rfl) ?_
        go_wp2_with (go_at_call 142; go_must (refine (numput_any w.heap.size 6 nm _ _ (by omega) (by omega) wr z (OwnB.bytes hF) (by omega)).mono ?_); rintro e w5 ⟨v5, rfl, ho5, hE5⟩)
        refine ⟨⟨5, by omega, rfl, ?_, hE.trans hE5⟩, by simp [intOf]⟩
        have e : prefW m 5 = prefW m 4 ++ num nm.toNat := by rw [HMM.out]; simp [prefW, partsW]
        rw [e]
        exact ho5.base hEw.le
      · have p0 : wr.cell? ⟨pb, 5, none⟩ = some (.iface 146 (.agg #[.pointer (some ⟨w.heap.size, 4, none⟩)])) := hpr.cell 5
        have z : wr.cell? ⟨w.heap.size, 4, none⟩ = some (.slice am M.length cm) := hbr.cell 4
        go_wp2_with fail
        refine upon_method 144 (by kernel_rfl) ?_
        go_wp2_with (go_at_call 144; go_must (refine (mutsput_any w.heap.size 4 _ M _ _ wr z (hM.ext hEw) HMb.out (by omega) (OwnB.bytes hF) (by omega)).mono ?_); rintro e w5 ⟨v5, rfl, ho5, hE5⟩)
        refine ⟨⟨6, by omega, rfl, ?_, hE.trans hE5⟩, by simp [intOf]⟩
        have e : prefW m 6 = prefW m 5 ++ num M.length ++ M.flatMap mb := by rw [HMM.out]; simp [prefW, partsW]
        rw [e]
        exact ho5.base hEw.le
      · have p0 : wr.cell? ⟨pb, 6, none⟩ = some (.iface 149 (.agg #[.pointer (some ⟨w.heap.size, 5, none⟩)])) := hpr.cell 6
        have z : wr.cell? ⟨w.heap.size, 5, none⟩ = some (.slice ak ks.length ck) := hbr.cell 5
        go_wp2_with fail
        refine upon_method 147 (by kernel_rfl) ?_
        go_wp2_with (go_at_call 147; go_must (refine (textsput_any w.heap.size 5 _ ks _ _ wr z (hK.ext hEw) HKb.out (by omega) (OwnB.bytes hF) (by omega)).mono ?_); rintro e w5 ⟨v5, rfl, ho5, hE5⟩)
        refine ⟨⟨7, by omega, rfl, ?_, hE.trans hE5⟩, by simp [intOf]⟩
        have e : prefW m 7 = prefW m 6 ++ num ks.length ++ ks.flatMap tb := by rw [HMM.out]; simp [prefW, partsW]
        rw [e]
        exact ho5.base hEw.le
    · obtain rfl : k = 7 := by omega
      have e7 : prefW m 7 = bytesW m := rfl
      rw [e7] at hF hpl
      have hF' := hF
      obtain ⟨ao, co, rfl⟩ := ownB_shape hF'
      by_cases hbig : (bytesW m).length ≤ 4096
      · have t1 : ¬ (4096 : Int) < ((bytesW m).length : Int) := by omega
        have HBG := Lib.hid hbig
        clear hbig
        go_wp2_with (refine wpList_convert_bytes rfl 35 9 5 (.tmp 23) rfl und_bytes und_u8 und_string (OwnB.bytes hF) ?_)
        go_ret2
        exact ⟨rfl, hEw⟩
      · have t1 : (4096 : Int) < ((bytesW m).length : Int) := by omega
        have HBG := Lib.hid hbig
        clear hbig
        go_wp2_with fail
        go_ret2
        exact ⟨rfl, hEw⟩
end Go.Proofs.YtmjhdfifbjdgpaaDoor
