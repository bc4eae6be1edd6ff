/- OrderLists: lists of texts, each put behind the other, stand in the order of lists; none begins another one: the law's walk. -/
import Derived.Test.YtiaoplehamjbkaaOrd
import Derived.Test.YtiaoplehamjbkaaOrdLaws
namespace Go.Proofs.Ytiaoplehamjbkaa
open Go Go.RowKit

/-- The cases of two lists of two texts, as the walk's tests ask. -/
theorem lists_cases {a b c d X Y : List UInt8} (hX : X = txt a ++ txt b) (hY : Y = txt c ++ txt d) :
    (a = c ∧ b = d) ∨
    (((Op.bytesLess X Y = true ∧ Op.bytesLess a c = true ∧ (a == c) = false) ∨
     (Op.bytesLess X Y = false ∧ Op.bytesLess a c = false ∧ (a == c) = false) ∨
     (Op.bytesLess X Y = true ∧ Op.bytesLess a c = false ∧ (a == c) = true ∧ (b == d) = false ∧ Op.bytesLess b d = true) ∨
     (Op.bytesLess X Y = false ∧ Op.bytesLess a c = false ∧ (a == c) = true ∧ (b == d) = false ∧ Op.bytesLess b d = false)) ∧
     (X == Y) = false ∧ (X.length ≤ Y.length → Y.take X.length ≠ X)) := by
  subst hX; subst hY
  by_cases hs : a = c ∧ b = d
  · exact .inl hs
  right
  have h1 := less_txt a c (txt b) (txt d)
  have h2 := less_txt b d [] []
  rw [List.append_nil, List.append_nil] at h2
  have hne : ¬ (txt a ++ txt b = txt c ++ txt d) := fun h => by
    have := txt_inj _ _ _ _ h
    exact hs ⟨this.1, (txt_inj b d [] [] (by simpa using this.2)).1⟩
  refine ⟨?_, by simpa using hne, fun _ h => ?_⟩
  · by_cases hac : a = c
    · subst hac
      have hbd : b ≠ d := fun h => hs ⟨rfl, h⟩
      rw [if_pos rfl, h2, if_neg hbd] at h1
      rcases less_tri b d with h | h | h
      · exact .inr (.inr (.inl ⟨h1.trans h, less_irrefl a, by simp, by simpa using hbd, h⟩))
      · exact absurd h hbd
      · have := less_asymm h
        exact .inr (.inr (.inr ⟨h1.trans this, less_irrefl a, by simp, by simpa using hbd, this⟩))
    · rw [if_neg hac] at h1
      rcases less_tri a c with h | h | h
      · exact .inl ⟨h1.trans h, h, by simpa using hac⟩
      · exact absurd h hac
      · have := less_asymm h
        exact .inr (.inl ⟨h1.trans this, this, by simpa using hac⟩)
  · have e := List.take_append_drop (txt a ++ txt b).length (txt c ++ txt d)
    rw [h, List.append_assoc] at e
    have := txt_inj a c _ _ e
    have e2 := txt_inj b d (List.drop (txt a ++ txt b).length (txt c ++ txt d)) [] (by simpa using this.2)
    exact hs ⟨this.1, e2.1⟩

set_option maxHeartbeats 400000 in
theorem law_orderLists (a b c d : ByteArray) (ha : a.size ≤ 100) (hb : b.size ≤ 100) (hc : c.size ≤ 100) (hd : d.size ≤ 100) (w : World) :
    Calls Try.prog 5 #[.string a, .string b, .string c, .string d] w fun e w' => e = .returned (.bool true) ∧ Ext w w' := by
  have la : (txt a.data.toList).length ≤ 202 := by have := txt_length_le a.data.toList; have e : a.data.toList.length = a.size := rfl; omega
  have lc : (txt c.data.toList).length ≤ 202 := by have := txt_length_le c.data.toList; have e : c.data.toList.length = c.size := rfl; omega
  obtain ⟨X, hX⟩ : ∃ X, X = txt a.data.toList ++ txt b.data.toList := ⟨_, rfl⟩
  obtain ⟨Y, hY⟩ : ∃ Y, Y = txt c.data.toList ++ txt d.data.toList := ⟨_, rfl⟩
  have HX := Lib.hid hX
  have HY := Lib.hid hY
  clear hX hY
  have ha' : decide ((100 : Int) < (a.size : Int)) = false := by simp; omega
  have hb' : decide ((100 : Int) < (b.size : Int)) = false := by simp; omega
  have hc' : decide ((100 : Int) < (c.size : Int)) = false := by simp; omega
  have hd' : decide ((100 : Int) < (d.size : Int)) = false := by simp; omega
  go_enter Try.func5, Try.ntmps5
  go_wp2
  refine wp_region_tab [(1, fun v w => BytesIn w v (txt a.data.toList)), (3, fun v w => BytesIn w v X), (4, fun v _ => v = .string (str X)),
    (6, fun v w => BytesIn w v (txt c.data.toList)), (8, fun v w => BytesIn w v Y), (9, fun v _ => v = .string (str Y))] (by kernel_rfl) (by kernel_rfl)
    ⟨stays_bytes _, stays_bytes _, stays_eq _, stays_bytes _, stays_bytes _, stays_eq _, trivial⟩ ?_
  refine rel_quiet [] rfl rfl rfl rfl ?_; intro K hK; go_big_quiet_op; go_big_quiet_on
  refine rg_call (vals := #[.slice none 0 0, .string a]) [] rfl rfl rfl Try.func15 rfl (by kernel_rfl) rfl rfl (fun w1 hE hf => ?_) (fun v1 w1 hE hG hv1 => ?_)
  · exact (Text_nil a w1 (by omega)).mono fun e w' ⟨v, he, ho, hE⟩ => ⟨v, he, ho.bytes, hE⟩
  simp only [Act.put, List.setIfInBounds_toArray, List.set_cons_zero, List.set_cons_succ]
  clear hE hG hv1 w1
  refine rel_quiet [] rfl rfl rfl rfl ?_; intro K hK; go_big_quiet_op; go_big_quiet_on
  refine rg_call (vals := #[v1, .string b]) [1] rfl rfl rfl Try.func15 rfl (by kernel_rfl) rfl (by kernel_rfl) (fun w1 hE hf => ?_) (fun v2 w1 hE hG hv1 => ?_)
  · exact (text_any _ _ b w1 ((hf 1 (by simp)).2 rfl) (by omega)).mono fun e w' ⟨v, he, ho, hE⟩ => ⟨v, he, by rw [HX.out]; exact ho.bytes, hE⟩
  simp only [Act.put, List.setIfInBounds_toArray, List.set_cons_zero, List.set_cons_succ]
  clear hE hG hv1 w1
  refine rg_text [3] 24 9 5 (.tmp 34) X rfl rfl rfl (by kernel_rfl) und_bytes und_u8 und_string (fun w1 hE hf => (hf 3 (by simp)).2 rfl) ?_
  simp only [Act.put, List.setIfInBounds_toArray, List.set_cons_zero, List.set_cons_succ]
  refine rel_quiet [] rfl rfl rfl rfl ?_; intro K hK; go_big_quiet_op; go_big_quiet_on
  refine rg_call (vals := #[.slice none 0 0, .string c]) [] rfl rfl rfl Try.func15 rfl (by kernel_rfl) rfl rfl (fun w1 hE hf => ?_) (fun v3 w1 hE hG hv1 => ?_)
  · exact (Text_nil c w1 (by omega)).mono fun e w' ⟨v, he, ho, hE⟩ => ⟨v, he, ho.bytes, hE⟩
  simp only [Act.put, List.setIfInBounds_toArray, List.set_cons_zero, List.set_cons_succ]
  clear hE hG hv1 w1
  refine rel_quiet [] rfl rfl rfl rfl ?_; intro K hK; go_big_quiet_op; go_big_quiet_on
  refine rg_call (vals := #[v3, .string d]) [6] rfl rfl rfl Try.func15 rfl (by kernel_rfl) rfl (by kernel_rfl) (fun w1 hE hf => ?_) (fun v4 w1 hE hG hv1 => ?_)
  · exact (text_any _ _ d w1 ((hf 6 (by simp)).2 rfl) (by omega)).mono fun e w' ⟨v, he, ho, hE⟩ => ⟨v, he, by rw [HY.out]; exact ho.bytes, hE⟩
  simp only [Act.put, List.setIfInBounds_toArray, List.set_cons_zero, List.set_cons_succ]
  clear hE hG hv1 w1
  refine rg_text [8] 24 9 5 (.tmp 39) Y rfl rfl rfl (by kernel_rfl) und_bytes und_u8 und_string (fun w1 hE hf => (hf 8 (by simp)).2 rfl) ?_
  simp only [Act.put, List.setIfInBounds_toArray, List.set_cons_zero, List.set_cons_succ]
  refine rel_quiet [] rfl rfl rfl rfl ?_; intro K hK; go_big_quiet_op; go_big_quiet_on
  refine rel_quiet [] rfl rfl rfl rfl ?_; intro K hK; go_big_quiet_op; go_big_quiet_on
  refine rel_nil fun w1 hE1 _ => ?_
  have hcs := lists_cases (a := a.toList) (b := b.toList) (c := c.toList) (d := d.toList) (X := X) (Y := Y) (by rw [ByteArray.toList_eq, ByteArray.toList_eq]; exact HX.out) (by rw [ByteArray.toList_eq, ByteArray.toList_eq]; exact HY.out)
  rcases hcs with ⟨h1, h2⟩ | ⟨h, h6, h7⟩
  · have f1 : (a.toList == c.toList) = true := by simp [h1]
    have f2 : (b.toList == d.toList) = true := by simp [h2]
    have f3 : Op.bytesLess a.toList c.toList = false := by rw [h1]; exact less_irrefl _
    have f5 : Op.bytesLess b.toList d.toList = false := by rw [h2]; exact less_irrefl _
    have hXY : X = Y := by rw [HX.out, HY.out, ← ByteArray.toList_eq, ← ByteArray.toList_eq, ← ByteArray.toList_eq, ← ByteArray.toList_eq, h1, h2]
    have f4 : Op.bytesLess X Y = false := by rw [hXY]; exact less_irrefl _
    have f6 : (X == Y) = true := by rw [hXY]; simp
    clear hXY h1 h2
    go_wp2_with (go_at_call 13; go_must (refine (awake_any _).mono ?_); rintro e w4 ⟨rfl, hE4⟩)
    go_ret
    exact ⟨rfl, hE1.trans hE4⟩
  · by_cases hl : Y.length < X.length
    · clear h7
      have hl' : (Y.length : Int) < (X.length : Int) := by omega
      rcases h with ⟨f1, f2, f3⟩ | ⟨f1, f2, f3⟩ | ⟨f1, f2, f3, f4, f5⟩ | ⟨f1, f2, f3, f4, f5⟩
      all_goals
        go_wp2_with (go_at_call 13; go_must (refine (awake_any _).mono ?_); rintro e w4 ⟨rfl, hE4⟩)
        go_ret
        exact ⟨rfl, hE1.trans hE4⟩
    · have f7 : (((str Y).extract 0 X.length).toList == X) = false := by rw [str_take]; simpa using h7 (by omega)
      clear h7
      rcases h with ⟨f1, f2, f3⟩ | ⟨f1, f2, f3⟩ | ⟨f1, f2, f3, f4, f5⟩ | ⟨f1, f2, f3, f4, f5⟩
      all_goals
        go_wp2_with (go_at_call 13; go_must (refine (awake_any _).mono ?_); rintro e w4 ⟨rfl, hE4⟩)
        go_ret
        exact ⟨rfl, hE1.trans hE4⟩

theorem law_orderLists_big (a b c d : ByteArray) (h : 100 < a.size ∨ 100 < b.size ∨ 100 < c.size ∨ 100 < d.size) (w : World) :
    Calls Try.prog 5 #[.string a, .string b, .string c, .string d] w fun e w' => e = .returned (.bool true) ∧ Ext w w' := by
  go_enter Try.func5, Try.ntmps5
  go_wp2_with (go_at_call 13; go_must (refine (awake_any _).mono ?_); rintro e w4 ⟨rfl, hE4⟩)
  all_goals
    go_ret
    exact ⟨rfl, hE4⟩

theorem walk_orderLists (a b c d : ByteArray) (_ : a.size ≤ maxLen) (_ : b.size ≤ maxLen) (_ : c.size ≤ maxLen) (_ : d.size ≤ maxLen) (w : World) :
    Calls Try.prog 5 #[.string a, .string b, .string c, .string d] w fun e w' => e = .returned (.bool true) ∧ Ext w w' := by
  by_cases h : 100 < a.size ∨ 100 < b.size ∨ 100 < c.size ∨ 100 < d.size
  · exact law_orderLists_big a b c d h w
  · exact law_orderLists a b c d (by omega) (by omega) (by omega) (by omega) w
end Go.Proofs.Ytiaoplehamjbkaa
