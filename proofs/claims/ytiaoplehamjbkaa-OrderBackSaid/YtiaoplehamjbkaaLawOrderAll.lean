/- OrderAll: any number, any text behind any bytes; any bytes from anywhere: the law's walk. -/
import Derived.Test.YtiaoplehamjbkaaOrdRef3
import Derived.Test.YtiaoplehamjbkaaReadInts
import Derived.Laws.AppendOwnNone
namespace Go.Proofs.Ytiaoplehamjbkaa
open Go Go.RowKit
attribute [local go_sem] yields yUpon tup3 tupT

theorem bytes_of_ints {w : World} {v : Value} {z : List Int} (h : IntsIn w v .u8 z) (hw : ∀ n ∈ z, (Lit.int .u8 n).wf = true) : ∃ l : List UInt8, BytesIn w v l := by
  refine ⟨z.map fun n => UInt8.ofNat n.toNat, ?_⟩
  have e : bcells (z.map fun n => UInt8.ofNat n.toNat) = kcells .u8 z := by
    unfold bcells kcells
    rw [List.map_map]
    refine List.map_congr_left fun n hn => ?_
    have := wf_u8 (hw n hn)
    simp only [Function.comp]
    rw [byte_of this.1 this.2]
  unfold BytesIn
  rw [e, List.length_map]
  exact h

/-- 'append([]byte(nil), b...)': a copy. -/
theorem appCopy {ops : Array Oper} {rest : List Oper} {o : Oper} {a : Act} {Q : Exit → Act → World → Prop} (w : World) (hg : o.guard = none) (s x : Operand)
    (hop : o.op = Op.call { callee := Callee.builtin Builtin.append, args := #[s, x], argTypes := #[24, 24] })
    (hs : a.eval s = .slice none 0 0) (v : Value) (l : List UInt8) (hin : BytesIn w v l) (hx : a.eval x = v) (hb : l.length ≤ 140737488355328)
    (hK : ∀ v' w', OwnB w' w.heap.size v' l → Ext w w' → wpList Try.prog ops Q rest (a.put o.dst v') w') : wpList Try.prog ops Q (o :: rest) a w := by
  obtain ⟨i0, hi, hz0, hz1, hz2⟩ := info_parts info_u8
  obtain ⟨ao, c, rfl, hc, hcm, ha, hcell⟩ := hin
  cases ao with
  | none =>
    have hc0 := ha rfl
    obtain rfl : l = [] := List.eq_nil_of_length_eq_zero (by omega)
    subst hc0
    exact wpList_append_own_none hg s x 24 hop w.heap.size 5 i0 1 und_bytes hi (.slice none 0 0) 0 [] hs (World.ownsRow_nil _ _ _ _) hx (hK _ _ (World.ownsRow_nil _ _ _ _) (Ext.refl w))
  | some ad =>
    refine wpList_append_own _ hg s x 24 hop w.heap.size 5 i0 (.int .u8 0) 1 1 und_bytes hi hz0 hz1 hz2 rfl (by decide) (.slice none 0 0) 0 [] hs (World.ownsRow_nil _ _ _ _) ad l.length c (bcells l) hx (by simp) ?_ ?_ (by unfold maxLen; omega) (by omega) (Nat.le_refl _) ?_
    · intro j u hj
      obtain ⟨b, o, e, h⟩ := hcell j u hj
      cases e
      rw [Addr.add_lit]
      exact h
    · intro u hu
      simp only [bcells, List.mem_map] at hu
      obtain ⟨b, _, rfl⟩ := hu
      rfl
    · intro v' w' h2 h3 _
      refine hK v' w' (by simpa [OwnB] using h2) ((Ext.refl w).grown h3 fun k hk => by cases hk)

theorem cs99 : (#[Value.int .u8 99] : Array Value).toList = bcells [99] := rfl
theorem BytesIn.cut {w : World} {a : Option Addr} {n c : Nat} {l m : List UInt8} (h : BytesIn w (.slice a n c) (l ++ m)) : BytesIn w (.slice a l.length c) l := by
  obtain ⟨a', c', e, hc, hcm, ha, hcell⟩ := h
  cases e
  exact ⟨a, c, rfl, by simp at hc; omega, hcm, ha, fun j u hj => hcell j u (by rw [bcells_append, List.getElem?_append_left (by have := (List.getElem?_eq_some_iff.1 hj).1; exact this)]; exact hj)⟩

set_option maxRecDepth 100000 in
set_option maxHeartbeats 4000000 in
theorem law_orderAll (v0 : Value) (l : List UInt8) (V : Nat) (s : ByteArray) (n at_ : Int) (hV : V < 18446744073709551616) (hl : l.length ≤ 500) (hs : s.size ≤ 500) (W : World) (hin : BytesIn W v0 l) :
    Calls Try.prog 11 #[v0, .int .u64 V, .string s, .int .i64 n, .int .i64 at_] W fun e w' => e = .returned (.bool true) ∧ Ext W w' := by
  have k1 : decide ((500 : Int) < (l.length : Int)) = false := by simp; omega
  have k2 : decide ((500 : Int) < (s.size : Int)) = false := by simp; omega
  have hin0 := hin
  obtain ⟨a0, c0, rfl, hc0, hcm0, ha0, hcell0⟩ := hin
  unfold maxLen at hcm0
  clear hcell0
  go_enter Try.func11, Try.ntmps11
  go_wp2_with (first
    | (at_builtin; refine appCopy W rfl (.const (.slice none 0 0)) (.tmp 37) rfl (by rfl) _ l hin0 (by rfl) (by omega) ?_; intro v1 w1 hown1 hE1)
    | (at_builtin; go_must (refine appB w1 rfl (.tmp 38) (.tmp 39) rfl W hE1 _ _ _ [99] cs99 (by simp) rfl (Tip.own hown1) _ rfl rfl (by simp; omega) ?_); intro v2 w2 hown2 hE2; obtain ⟨a2, c2, rfl, hc2, hcm2, ha2, hcell2⟩ := hown2.bytes; obtain ⟨b2, o2, rfl, _⟩ := hcell2 l.length (.int .u8 99) (by simp [bcells]); unfold maxLen at hcm2; have hc2' : l.length + 1 ≤ c2 := (by simpa using hc2); clear hcell2 ha2 hc2))
  have hB2 : BytesIn w2 (.slice (some ⟨b2, o2, none⟩) l.length c2) l := BytesIn.cut (m := [99]) (by have := hown2.bytes; simpa using this)
  clear hown1 hown2 hE1
  obtain ⟨N, hN⟩ : ∃ N, N = num V := ⟨_, rfl⟩
  obtain ⟨X, hX⟩ : ∃ X, X = txt s.data.toList := ⟨_, rfl⟩
  have hNl : N.length ≤ 9 := by rw [hN]; simp [num, beB_length]; have := bitsOf_le64 hV; unfold nlen; omega
  have hXl : X.length ≤ 1002 := by rw [hX]; have := txt_length_le s.data.toList; have e : s.data.toList.length = s.size := rfl; omega
  have HN := Lib.hid hN
  have HX := Lib.hid hX
  clear hN hX
  have e1 : str l ++ str N = str (l ++ N) := str_app l N
  have e2 : str l ++ str X = str (l ++ X) := str_app l X
  have q1 : ¬ 9223372036854775807 < l.length + N.length := by omega
  have q2 : ¬ 9223372036854775807 < l.length + X.length := by omega
  refine wp_region_tab 29 [(2, fun v w => BytesIn w v (l ++ N)), (3, fun v _ => v = .string (str (l ++ N))), (5, fun v _ => v = .string (str l)), (7, fun v _ => v = .string (str N)), (13, fun v w => BytesIn w v (l ++ X)), (14, fun v _ => v = .string (str (l ++ X))), (16, fun v _ => v = .string (str l)), (18, fun v _ => v = .string (str X)), (24, fun v _ => v = .string (str (int8 n))), (26, fun v _ => v = .string (str (int8 n)))] (by kernel_rfl) (by kernel_rfl) (by kernel_rfl)
    ⟨stays_bytes _, stays_eq _, stays_eq _, stays_eq _, stays_bytes _, stays_eq _, stays_eq _, stays_eq _, stays_eq _, stays_eq _, trivial⟩ ?_
  refine rg_quiet rfl rfl rfl rfl ?_; intro K hK; go_big_quiet_op; go_big_quiet_on
  refine rg_quiet rfl rfl rfl rfl ?_; intro K hK; go_big_quiet_op; go_big_quiet_on
  refine rg_call (vals := #[.slice (some ⟨b2, o2, none⟩) l.length c2, .int .u64 V]) [] rfl rfl rfl rfl Try.func14 rfl (by kernel_rfl) rfl rfl (fun w3 hE hf => ?_) (fun v3 w3 hE hG hv1 => ?_)
  · exact (num_any _ l V hV w3 (hB2.ext hE) (by omega) (len64_any V hV)).mono fun e w' ⟨v, he, ho, hE⟩ => ⟨v, he, by rw [HN.out]; exact ho.bytes, hE⟩
  simp only [Act.put, List.setIfInBounds_toArray, List.set_cons_zero, List.set_cons_succ]
  clear hE hG hv1 w3
  refine rg_text [2] 24 9 5 (.tmp 46) (l ++ N) rfl rfl rfl rfl (by kernel_rfl) und_bytes und_u8 und_string (fun w1 hE hf => (hf 2 (by simp)).2 rfl) ?_
  simp only [Act.put, List.setIfInBounds_toArray, List.set_cons_zero, List.set_cons_succ]
  refine rg_quiet rfl rfl rfl rfl ?_; intro K hK; go_big_quiet_op; go_big_quiet_on
  refine rg_text [] 24 9 5 (.tmp 48) l rfl rfl rfl rfl (by kernel_rfl) und_bytes und_u8 und_string (fun w1 hE hf => (hin0.ext (hE2.trans hE))) ?_
  simp only [Act.put, List.setIfInBounds_toArray, List.set_cons_zero, List.set_cons_succ]
  refine rg_quiet rfl rfl rfl rfl ?_; intro K hK; go_big_quiet_op; go_big_quiet_on
  refine rg_val [] rfl rfl rfl (by kernel_rfl) (fun w1 hE hf => ?_) ?_
  · go_simp
    exact (rnum_any V hV w1).mono fun e w' ⟨he, hw⟩ => ⟨_, he, rg_done hE hw (by rw [← HN.out])⟩
  simp only [Act.put, List.setIfInBounds_toArray, List.set_cons_zero, List.set_cons_succ]
  refine rg_quiet rfl rfl rfl rfl ?_; intro K hK; go_big_quiet_op; go_big_quiet_on
  refine rg_quiet rfl rfl rfl rfl ?_; intro K hK; go_big_quiet_op; go_big_quiet_on
  refine rg_quiet rfl rfl rfl rfl ?_; intro K hK; go_big_quiet_op; go_big_quiet_on
  refine rg_quiet rfl rfl rfl rfl ?_; intro K hK; go_big_quiet_op; go_big_quiet_on
  refine rg_quiet rfl rfl rfl rfl ?_; intro K hK; go_big_quiet_op; go_big_quiet_on
  refine rg_call (vals := #[.slice (some ⟨b2, o2, none⟩) l.length c2, .string s]) [] rfl rfl rfl rfl Try.func15 rfl (by kernel_rfl) rfl rfl (fun w3 hE hf => ?_) (fun v3 w3 hE hG hv1 => ?_)
  · exact (text_any _ l s w3 (hB2.ext hE) (by omega)).mono fun e w' ⟨v, he, ho, hE⟩ => ⟨v, he, by rw [HX.out]; exact ho.bytes, hE⟩
  simp only [Act.put, List.setIfInBounds_toArray, List.set_cons_zero, List.set_cons_succ]
  clear hE hG hv1 w3
  refine rg_text [13] 24 9 5 (.tmp 57) (l ++ X) rfl rfl rfl rfl (by kernel_rfl) und_bytes und_u8 und_string (fun w1 hE hf => (hf 13 (by simp)).2 rfl) ?_
  simp only [Act.put, List.setIfInBounds_toArray, List.set_cons_zero, List.set_cons_succ]
  refine rg_quiet rfl rfl rfl rfl ?_; intro K hK; go_big_quiet_op; go_big_quiet_on
  refine rg_text [] 24 9 5 (.tmp 59) l rfl rfl rfl rfl (by kernel_rfl) und_bytes und_u8 und_string (fun w1 hE hf => (hin0.ext (hE2.trans hE))) ?_
  simp only [Act.put, List.setIfInBounds_toArray, List.set_cons_zero, List.set_cons_succ]
  refine rg_quiet rfl rfl rfl rfl ?_; intro K hK; go_big_quiet_op; go_big_quiet_on
  refine rg_val [] rfl rfl rfl (by kernel_rfl) (fun w1 hE hf => ?_) ?_
  · go_simp
    exact (rtext_any s w1 (by omega)).mono fun e w' ⟨he, hw⟩ => ⟨_, he, rg_done hE (Ext.of_eq hw) (by rw [← HX.out])⟩
  simp only [Act.put, List.setIfInBounds_toArray, List.set_cons_zero, List.set_cons_succ]
  refine rg_quiet rfl rfl rfl rfl ?_; intro K hK; go_big_quiet_op; go_big_quiet_on
  refine rg_quiet rfl rfl rfl rfl ?_; intro K hK; go_big_quiet_op; go_big_quiet_on
  refine rg_quiet rfl rfl rfl rfl ?_; intro K hK; go_big_quiet_op; go_big_quiet_on
  refine rg_quiet rfl rfl rfl rfl ?_; intro K hK; go_big_quiet_op; go_big_quiet_on
  refine rg_quiet rfl rfl rfl rfl ?_; intro K hK; go_big_quiet_op; go_big_quiet_on
  refine rg_val [] rfl rfl rfl (by kernel_rfl) (fun w1 hE hf => ?_) ?_
  · go_simp
    exact (int_any n w1).mono fun e w' ⟨he, hw⟩ => ⟨_, he, rg_done hE hw (rfl)⟩
  simp only [Act.put, List.setIfInBounds_toArray, List.set_cons_zero, List.set_cons_succ]
  refine rg_quiet rfl rfl rfl rfl ?_; intro K hK; go_big_quiet_op; go_big_quiet_on
  refine rg_val [] rfl rfl rfl (by kernel_rfl) (fun w1 hE hf => ?_) ?_
  · go_simp
    exact (rint_any n w1).mono fun e w' ⟨he, hw⟩ => ⟨_, he, rg_done hE hw (rfl)⟩
  simp only [Act.put, List.setIfInBounds_toArray, List.set_cons_zero, List.set_cons_succ]
  refine rg_quiet rfl rfl rfl rfl ?_; intro K hK; go_big_quiet_op; go_big_quiet_on
  refine rg_quiet rfl rfl rfl rfl ?_; intro K hK; go_big_quiet_op; go_big_quiet_on
  refine rel_nil fun w3 hE3 _ => ?_
  have hX := hE2.trans hE3
  replace hB2 := hB2.ext hE3
  clear hE2 hE3 e1 e2 q1 q2
  go_wp2_with fail
  refine (getNum_any _ l at_ _ hB2 (by omega)).mono ?_
  rintro e w4 ⟨rfl, rfl⟩
  go_wp2_with fail
  rw [run_convert_bytesIn _ 24 9 5 und_bytes und_u8 und_string (hin0.ext hX)]
  simp only [Result.andThen]
  rw [Oper.upon_value]
  go_wp2_with fail
  refine (rgetNum_any (str l) at_ _ (by simp; omega)).mono ?_
  rw [show (str l).data.toList = l from rfl]
  rintro e w5 ⟨rfl, rfl⟩
  go_wp2_with fail
  refine (getText_any _ l at_ _ hB2 (by omega)).mono ?_
  rintro e w6 ⟨rfl, hE6⟩
  replace hX := hX.trans hE6
  replace hB2 := hB2.ext hE6
  clear hE6
  go_wp2_with fail
  rw [run_convert_bytesIn _ 24 9 5 und_bytes und_u8 und_string (hin0.ext hX)]
  simp only [Result.andThen]
  rw [Oper.upon_value]
  go_wp2_with fail
  refine (rgetText_any (str l) at_ _ (by simp; omega)).mono ?_
  rw [show (str l).data.toList = l from rfl]
  rintro e w7 ⟨rfl, rfl⟩
  go_wp2_with fail
  refine (getInt_any s _).mono ?_
  rintro e w8 ⟨rfl, rfl⟩
  go_wp2_with fail
  refine (rgetInt_any s _).mono ?_
  rintro e w9 ⟨rfl, rfl⟩
  go_wp2_with fail
  rw [run_convert_bytesIn _ 24 9 5 und_bytes und_u8 und_string (hB2)]
  simp only [Result.andThen]
  rw [Oper.upon_value]
  go_wp2_with fail
  rw [run_convert_bytesIn _ 24 9 5 und_bytes und_u8 und_string (hin0.ext hX)]
  simp only [Result.andThen]
  rw [Oper.upon_value]
  go_wp2_with fail
  refine (awake_any _).mono ?_
  rintro e w10 ⟨rfl, hE10⟩
  go_wp2
  go_ret
  exact ⟨rfl, hX.trans hE10⟩

set_option maxHeartbeats 1000000 in
theorem law_orderAll_big (v0 : Value) (l : List UInt8) (V : Nat) (s : ByteArray) (n at_ : Int) (hl : 500 < l.length ∨ 500 < s.size) (W : World) (hin : BytesIn W v0 l) :
    Calls Try.prog 11 #[v0, .int .u64 V, .string s, .int .i64 n, .int .i64 at_] W fun e w' => e = .returned (.bool true) ∧ Ext W w' := by
  obtain ⟨a0, c0, rfl, hc0, hcm0, ha0, hcell0⟩ := hin
  clear hcell0
  by_cases h : 500 < l.length
  · have k1 : decide ((500 : Int) < (l.length : Int)) = true := by simp; omega
    go_enter Try.func11, Try.ntmps11
    go_wp2_with fail
    refine (awake_any _).mono ?_
    rintro e w1 ⟨rfl, hE⟩
    go_wp2
    go_ret
    exact ⟨rfl, hE⟩
  · have k1 : decide ((500 : Int) < (l.length : Int)) = false := by simp; omega
    have k2 : decide ((500 : Int) < (s.size : Int)) = true := by simp; omega
    go_enter Try.func11, Try.ntmps11
    go_wp2_with fail
    refine (awake_any _).mono ?_
    rintro e w1 ⟨rfl, hE⟩
    go_wp2
    go_ret
    exact ⟨rfl, hE⟩

theorem walk_orderAll (v0 : Value) (a1 : Int) (a2 : ByteArray) (a3 a4 : Int) (W : World) (w0 : ∃ l : List Int, IntsIn W v0 .u8 l ∧ ∀ n ∈ l, (Lit.int .u8 n).wf = true) (w1 : (Lit.int .u64 a1).wf = true) (_ : a2.size ≤ maxLen) (_ : (Lit.int .i64 a3).wf = true) (_ : (Lit.int .i64 a4).wf = true) :
    Calls Try.prog 11 #[v0, .int .u64 a1, .string a2, .int .i64 a3, .int .i64 a4] W fun e w' => e = .returned (.bool true) ∧ Ext W w' := by
  obtain ⟨z, hz, hw⟩ := w0
  obtain ⟨l, hl⟩ := bytes_of_ints hz hw
  obtain ⟨V, rfl⟩ := Int.eq_ofNat_of_zero_le (wf_u64 w1).1
  by_cases h : 500 < l.length ∨ 500 < a2.size
  · exact law_orderAll_big v0 l V a2 a3 a4 h W hl
  · exact law_orderAll v0 l V a2 a3 a4 (by have := (wf_u64 w1).2; omega) (by omega) (by omega) W hl
end Go.Proofs.Ytiaoplehamjbkaa
