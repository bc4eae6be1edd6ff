/- OrderStands: bytes stand in the order of what they are, whatever comes behind: the law's walk. -/
import Derived.Test.YtiaoplehamjbkaaOrd
import Derived.Test.YtiaoplehamjbkaaOrdLaws
namespace Go.Proofs.Ytiaoplehamjbkaa
open Go Go.RowKit

theorem app_list (l : List UInt8) (m : ByteArray) : (str l ++ m).toList = l ++ m.toList := by
  rw [ByteArray.toList_eq, ByteArray.toList_eq, ByteArray.data_append]
  simp

theorem nlen8 {v : Int} (h : v < 18446744073709551616) : nlen v.toNat ≤ 8 := by
  have := bitsOf_le64 (x := v.toNat) (by omega)
  unfold nlen; omega

theorem num_facts (v u : Int) (h0 : 0 ≤ v) (h1 : v < 18446744073709551616) (g0 : 0 ≤ u) (g1 : u < 18446744073709551616) :
    Op.bytesLess (num v.toNat) (num u.toNat) = decide (v < u) ∧ (num v.toNat == num u.toNat) = (v == u) ∧ ((v == u) = false → ∀ r s : ByteArray, Op.bytesLess (str (num v.toNat) ++ r).toList (str (num u.toNat) ++ s).toList = decide (v < u)) := by
  have e1 := less_num v.toNat u.toNat [] [] (nlen8 h1) (nlen8 g1)
  rw [List.append_nil, List.append_nil, less_irrefl] at e1
  have e2 := num_inj v.toNat u.toNat [] [] (nlen8 h1) (nlen8 g1)
  rw [List.append_nil, List.append_nil] at e2
  refine ⟨e1.trans ?_, ?_, fun hne r s => ?_⟩
  · by_cases h : v = u
    · subst h; simp
    · rw [if_neg (by omega)]; congr 1; apply propext; omega
  · rw [Bool.eq_iff_iff]
    simp only [beq_iff_eq]
    exact ⟨fun h => by have := (e2 h).1; omega, fun h => by rw [h]⟩
  · have hne' : v ≠ u := by simpa using hne
    rw [app_list, app_list]
    refine (less_num _ _ _ _ (nlen8 h1) (nlen8 g1)).trans ?_
    rw [if_neg (by omega)]
    congr 1; apply propext; omega

theorem txt_facts (s t : ByteArray) : Op.bytesLess (txt s.data.toList) (txt t.data.toList) = Op.bytesLess s.toList t.toList ∧ (txt s.data.toList == txt t.data.toList) = (s.toList == t.toList) ∧
    ((s.toList == t.toList) = false → ∀ r r' : ByteArray, Op.bytesLess (str (txt s.data.toList) ++ r).toList (str (txt t.data.toList) ++ r').toList = Op.bytesLess s.toList t.toList) := by
  rw [ByteArray.toList_eq s, ByteArray.toList_eq t]
  generalize s.data.toList = l
  generalize t.data.toList = m
  have e1 := less_txt l m [] []
  rw [List.append_nil, List.append_nil, less_irrefl] at e1
  have e2 := txt_inj l m [] []
  rw [List.append_nil, List.append_nil] at e2
  refine ⟨e1.trans ?_, ?_, fun hne r s => ?_⟩
  · by_cases h : l = m
    · subst h; rw [if_pos rfl]; exact (less_irrefl l).symm
    · rw [if_neg h]
  · rw [Bool.eq_iff_iff]
    simp only [beq_iff_eq]
    exact ⟨fun h => (e2 h).1, fun h => by rw [h]⟩
  · have hne' : l ≠ m := by simpa using hne
    rw [app_list, app_list]
    refine (less_txt _ _ _ _).trans ?_
    rw [if_neg hne']

set_option maxRecDepth 100000 in
set_option maxHeartbeats 1000000 in
theorem law_orderStands (v u : Int) (s t : ByteArray) (m n : Int) (more other : ByteArray) (h0 : 0 ≤ v) (h1 : v < 18446744073709551616) (g0 : 0 ≤ u) (g1 : u < 18446744073709551616)
    (hs : s.size ≤ 200) (ht : t.size ≤ 200) (hm : -9223372036854775808 ≤ m) (hm' : m ≤ 9223372036854775807) (hn : -9223372036854775808 ≤ n) (hn' : n ≤ 9223372036854775807) (ho : more.size ≤ 50) (hr : other.size ≤ 50) (w : World) :
    Calls Try.prog 3 #[.int .u64 v, .int .u64 u, .string s, .string t, .int .i64 m, .int .i64 n, .string more, .string other] w fun e w' => e = .returned (.bool true) ∧ Ext w w' := by
  obtain ⟨fl, fe, fm⟩ := num_facts v u h0 h1 g0 g1
  obtain ⟨tl, te, tm⟩ := txt_facts s t
  obtain ⟨p, hp⟩ : ∃ p, p = decide (v < u) := ⟨_, rfl⟩
  obtain ⟨q, hq⟩ : ∃ q, q = (v == u) := ⟨_, rfl⟩
  obtain ⟨p', hp'⟩ : ∃ p', p' = Op.bytesLess s.toList t.toList := ⟨_, rfl⟩
  obtain ⟨q', hq'⟩ : ∃ q', q' = (s.toList == t.toList) := ⟨_, rfl⟩
  obtain ⟨p3, hp3⟩ : ∃ p3, p3 = decide (m < n) := ⟨_, rfl⟩
  have fi := less_int8 m n hm hm' hn hn'
  rw [← hp] at fl
  rw [← hq] at fe
  rw [← hp, ← hq] at fm
  rw [← hp'] at tl
  rw [← hq'] at te
  rw [← hp', ← hq'] at tm
  rw [← hp3] at fi
  replace hp := hp.symm
  replace hq := hq.symm
  replace hp' := hp'.symm
  replace hq' := hq'.symm
  replace hp3 := hp3.symm
  obtain ⟨A, hA⟩ : ∃ A, A = num v.toNat := ⟨_, rfl⟩
  obtain ⟨B, hB⟩ : ∃ B, B = num u.toNat := ⟨_, rfl⟩
  obtain ⟨Cc, hC⟩ : ∃ Cc, Cc = txt s.data.toList := ⟨_, rfl⟩
  obtain ⟨D, hD⟩ : ∃ D, D = txt t.data.toList := ⟨_, rfl⟩
  rw [← hA, ← hB] at fl fe fm
  rw [← hC, ← hD] at tl te tm
  have lA : A.length ≤ 9 := by rw [hA]; simp [num, beB_length]; exact nlen8 h1
  have lB : B.length ≤ 9 := by rw [hB]; simp [num, beB_length]; exact nlen8 g1
  have lC : Cc.length ≤ 402 := by rw [hC]; have := txt_length_le s.data.toList; have e : s.data.toList.length = s.size := rfl; omega
  have lD : D.length ≤ 402 := by rw [hD]; have := txt_length_le t.data.toList; have e : t.data.toList.length = t.size := rfl; omega
  have HA := Lib.hid hA
  have HB := Lib.hid hB
  have HC := Lib.hid hC
  have HD := Lib.hid hD
  clear hA hB hC hD
  have k1 : decide ((200 : Int) < (s.size : Int)) = false := by simp; omega
  have k2 : decide ((200 : Int) < (t.size : Int)) = false := by simp; omega
  have k3 : decide ((50 : Int) < (more.size : Int)) = false := by simp; omega
  have k4 : decide ((50 : Int) < (other.size : Int)) = false := by simp; omega
  have FM := Lib.hid fm
  have TM := Lib.hid tm
  clear fm tm
  go_enter Try.func3, Try.ntmps3
  go_wp2
  refine wp_region_tab [(1, fun v w => BytesIn w v A), (2, fun v _ => v = .string (str A)), (4, fun v w => BytesIn w v B), (5, fun v _ => v = .string (str B))] (by kernel_rfl) (by kernel_rfl)
    ⟨stays_bytes _, stays_eq _, stays_bytes _, stays_eq _, trivial⟩ ?_
  refine rel_quiet [] rfl rfl rfl rfl ?_; intro K hK; go_big_quiet_op; go_big_quiet_on
  refine rg_call (vals := #[.slice none 0 0, .int .u64 v]) [] rfl rfl rfl Try.func14 rfl (by kernel_rfl) rfl rfl (fun w1 hE hf => ?_) (fun v1 w1 hE hG hv1 => ?_)
  · exact (Num_ok _ [] v h0 h1 w1 (SliceIn.nil _) (by simp)).mono fun e w' ⟨v, he, ho, hE⟩ => ⟨v, he, by rw [HA.out]; exact ho.bytes, hE⟩
  simp only [Act.put, List.setIfInBounds_toArray, List.set_cons_zero, List.set_cons_succ]
  clear hE hG hv1 w1
  refine rg_text [1] 24 9 5 (.tmp 41) A rfl rfl rfl (by kernel_rfl) und_bytes und_u8 und_string (fun w1 hE hf => (hf 1 (by simp)).2 rfl) ?_
  simp only [Act.put, List.setIfInBounds_toArray, List.set_cons_zero, List.set_cons_succ]
  refine rel_quiet [] rfl rfl rfl rfl ?_; intro K hK; go_big_quiet_op; go_big_quiet_on
  refine rg_call (vals := #[.slice none 0 0, .int .u64 u]) [] rfl rfl rfl Try.func14 rfl (by kernel_rfl) rfl rfl (fun w1 hE hf => ?_) (fun v2 w1 hE hG hv1 => ?_)
  · exact (Num_ok _ [] u g0 g1 w1 (SliceIn.nil _) (by simp)).mono fun e w' ⟨v, he, ho, hE⟩ => ⟨v, he, by rw [HB.out]; exact ho.bytes, hE⟩
  simp only [Act.put, List.setIfInBounds_toArray, List.set_cons_zero, List.set_cons_succ]
  clear hE hG hv1 w1
  refine rg_text [4] 24 9 5 (.tmp 44) B rfl rfl rfl (by kernel_rfl) und_bytes und_u8 und_string (fun w1 hE hf => (hf 4 (by simp)).2 rfl) ?_
  simp only [Act.put, List.setIfInBounds_toArray, List.set_cons_zero, List.set_cons_succ]
  refine rel_quiet [] rfl rfl rfl rfl ?_; intro K hK; go_big_quiet_op; go_big_quiet_on
  refine rel_quiet [] rfl rfl rfl rfl ?_; intro K hK; go_big_quiet_op; go_big_quiet_on
  refine rel_nil fun w1 hE1 _ => ?_
  go_wp2
  refine wp_region_tab [(1, fun v w => BytesIn w v Cc), (2, fun v _ => v = .string (str Cc)), (4, fun v w => BytesIn w v D), (5, fun v _ => v = .string (str D))] (by kernel_rfl) (by kernel_rfl)
    ⟨stays_bytes _, stays_eq _, stays_bytes _, stays_eq _, trivial⟩ ?_
  refine rel_quiet [] rfl rfl rfl rfl ?_; intro K hK; go_big_quiet_op; go_big_quiet_on
  refine rg_call (vals := #[.slice none 0 0, .string s]) [] rfl rfl rfl Try.func15 rfl (by kernel_rfl) rfl rfl (fun w2 hE hf => ?_) (fun v3 w2 hE hG hv1 => ?_)
  · exact (Text_nil s w2 (by omega)).mono fun e w' ⟨v, he, ho, hE⟩ => ⟨v, he, by rw [HC.out]; exact ho.bytes, hE⟩
  simp only [Act.put, List.setIfInBounds_toArray, List.set_cons_zero, List.set_cons_succ]
  clear hE hG hv1 w2
  refine rg_text [1] 24 9 5 (.tmp 47) Cc rfl rfl rfl (by kernel_rfl) und_bytes und_u8 und_string (fun w1 hE hf => (hf 1 (by simp)).2 rfl) ?_
  simp only [Act.put, List.setIfInBounds_toArray, List.set_cons_zero, List.set_cons_succ]
  refine rel_quiet [] rfl rfl rfl rfl ?_; intro K hK; go_big_quiet_op; go_big_quiet_on
  refine rg_call (vals := #[.slice none 0 0, .string t]) [] rfl rfl rfl Try.func15 rfl (by kernel_rfl) rfl rfl (fun w2 hE hf => ?_) (fun v4 w2 hE hG hv1 => ?_)
  · exact (Text_nil t w2 (by omega)).mono fun e w' ⟨v, he, ho, hE⟩ => ⟨v, he, by rw [HD.out]; exact ho.bytes, hE⟩
  simp only [Act.put, List.setIfInBounds_toArray, List.set_cons_zero, List.set_cons_succ]
  clear hE hG hv1 w2
  refine rg_text [4] 24 9 5 (.tmp 50) D rfl rfl rfl (by kernel_rfl) und_bytes und_u8 und_string (fun w1 hE hf => (hf 4 (by simp)).2 rfl) ?_
  simp only [Act.put, List.setIfInBounds_toArray, List.set_cons_zero, List.set_cons_succ]
  refine rel_quiet [] rfl rfl rfl rfl ?_; intro K hK; go_big_quiet_op; go_big_quiet_on
  refine rel_quiet [] rfl rfl rfl rfl ?_; intro K hK; go_big_quiet_op; go_big_quiet_on
  refine rel_nil fun w2 hE2 _ => ?_
  have hX : Ext w w2 := hE1.trans hE2
  clear hE1 hE2
  cases q <;> cases q'
  · have f8 := FM.out rfl more other
    have f9 := TM.out rfl more other
    go_wp2_with (first
      | (go_at_call 16; go_must (refine (int_any _ _).mono ?_); rintro e w3 ⟨rfl, hE3⟩; replace hX := hX.trans hE3; clear hE3)
      | (go_at_call 13; go_must (refine (awake_any _).mono ?_); rintro e w4 ⟨rfl, hE4⟩; replace hX := hX.trans hE4; clear hE4))
    go_ret
    exact ⟨rfl, hX⟩
  · have f8 := FM.out rfl more other
    go_wp2_with (first
      | (go_at_call 16; go_must (refine (int_any _ _).mono ?_); rintro e w3 ⟨rfl, hE3⟩; replace hX := hX.trans hE3; clear hE3)
      | (go_at_call 13; go_must (refine (awake_any _).mono ?_); rintro e w4 ⟨rfl, hE4⟩; replace hX := hX.trans hE4; clear hE4))
    go_ret
    exact ⟨rfl, hX⟩
  · have f9 := TM.out rfl more other
    go_wp2_with (first
      | (go_at_call 16; go_must (refine (int_any _ _).mono ?_); rintro e w3 ⟨rfl, hE3⟩; replace hX := hX.trans hE3; clear hE3)
      | (go_at_call 13; go_must (refine (awake_any _).mono ?_); rintro e w4 ⟨rfl, hE4⟩; replace hX := hX.trans hE4; clear hE4))
    go_ret
    exact ⟨rfl, hX⟩
  · go_wp2_with (first
      | (go_at_call 16; go_must (refine (int_any _ _).mono ?_); rintro e w3 ⟨rfl, hE3⟩; replace hX := hX.trans hE3; clear hE3)
      | (go_at_call 13; go_must (refine (awake_any _).mono ?_); rintro e w4 ⟨rfl, hE4⟩; replace hX := hX.trans hE4; clear hE4))
    go_ret
    exact ⟨rfl, hX⟩

set_option maxRecDepth 100000 in
theorem law_orderStands_big (v u : Int) (s t : ByteArray) (m n : Int) (more other : ByteArray) (h : 200 < s.size ∨ 200 < t.size ∨ 50 < more.size ∨ 50 < other.size) (w : World) :
    Calls Try.prog 3 #[.int .u64 v, .int .u64 u, .string s, .string t, .int .i64 m, .int .i64 n, .string more, .string other] w fun e w' => e = .returned (.bool true) ∧ Ext w w' := by
  go_enter Try.func3, Try.ntmps3
  go_wp2_with (go_at_call 13; go_must (refine (awake_any _).mono ?_); rintro e w4 ⟨rfl, hE4⟩)
  all_goals
    go_ret
    exact ⟨rfl, hE4⟩

theorem walk_orderStands (a0 a1 : Int) (a2 a3 : ByteArray) (a4 a5 : Int) (a6 a7 : ByteArray) (w0 : (Lit.int .u64 a0).wf = true) (w1 : (Lit.int .u64 a1).wf = true) (_ : a2.size ≤ maxLen) (_ : a3.size ≤ maxLen)
    (w4 : (Lit.int .i64 a4).wf = true) (w5 : (Lit.int .i64 a5).wf = true) (_ : a6.size ≤ maxLen) (_ : a7.size ≤ maxLen) (w : World) :
    Calls Try.prog 3 #[.int .u64 a0, .int .u64 a1, .string a2, .string a3, .int .i64 a4, .int .i64 a5, .string a6, .string a7] w fun e w' => e = .returned (.bool true) ∧ Ext w w' := by
  by_cases h : 200 < a2.size ∨ 200 < a3.size ∨ 50 < a6.size ∨ 50 < a7.size
  · exact law_orderStands_big a0 a1 a2 a3 a4 a5 a6 a7 h w
  · exact law_orderStands a0 a1 a2 a3 a4 a5 a6 a7 (wf_u64 w0).1 (wf_u64 w0).2 (wf_u64 w1).1 (wf_u64 w1).2 (by omega) (by omega) (wf_i64 w4).1 (wf_i64 w4).2 (wf_i64 w5).1 (wf_i64 w5).2 (by omega) (by omega) w
end Go.Proofs.Ytiaoplehamjbkaa
