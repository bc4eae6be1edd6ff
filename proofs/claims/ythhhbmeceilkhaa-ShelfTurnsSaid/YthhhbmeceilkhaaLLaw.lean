/- ShelfTurns: a man and an empty log come together; files stay; copies don't hear of it: the law's walk. -/
import Derived.Test.YthhhbmeceilkhaaL4
set_option linter.unusedSimpArgs false
set_option linter.unusedVariables false
namespace Go.Proofs.Ythhhbmeceilkhaa
open Go Go.RowKit
attribute [local go_sem] yields yUpon

theorem str_data0 (a : ByteArray) : str a.data.toList = a := by
  apply ByteArray.ext
  simp [str]
theorem Own5.keep {W w w' : World} {p m : Nat} {log : ByteArray} {good : Nat} {F : Fl} {man : ByteArray} (h : Own5 W w p m log good F man) {L : List Nat} (ht : Touch w w' L) (hL : ∀ k ∈ L, W.heap.size ≤ k) (h1 : p ∉ L) (h2 : m ∉ L) : Own5 W w' p m log good F man :=
  ⟨h.at_.touch ht h1 h2, ht.ext h.ext hL, h.hp, h.hm⟩
theorem putE_ok {n : Int} {b : ByteArray} {F : Fl} (h0 : 1 ≤ n) (h1 : n ≤ 1099511627776) (h2 : fhas n F = false) (h3 : b.size ≤ 262144) (h4 : F.length < 40) : putE n b F = 0 := by
  unfold putE
  rw [if_neg, if_neg]
  · omega
  · rw [h2]; simp; omega
theorem putE_has {n : Int} {b : ByteArray} {F : Fl} (h2 : n < 1 ∨ fhas n F = true) : putE n b F = 1 := by
  unfold putE
  rw [if_pos]
  rcases h2 with h | h
  · exact .inl h
  · exact .inr (.inr h)

theorem f_other {n m : Int} {b : List UInt8} (h : n ≠ m) : fget m [(n, b)] = [] ∧ fhas m [(n, b)] = false := by
  simp [fget, fhas, h]

set_option maxRecDepth 100000 in
set_option maxHeartbeats 4000000 in
theorem law_shelfTurns (a b : ByteArray) (n : Int) (ha : a.size ≤ 500) (hb : b.size ≤ 500) (k0 : -9223372036854775808 ≤ n) (k1 : n ≤ 9223372036854775807) (w : World) :
    Calls Try.prog 6 #[.string a, .string b, .int .i64 n] w fun e w' => e = .returned (.bool true) ∧ Ext w w' := by
  obtain ⟨k, hk⟩ : ∃ k : Int, k = n % 100 := ⟨_, rfl⟩
  have kl : 0 ≤ k := by omega
  have kh : k < 100 := by omega
  go_enter Try.func6, Try.ntmps6
  go_wp2_with fail
  refine (ow_new w).mono ?_
  rintro e w1 ⟨rfl, h⟩
  go_wp2_with fail
  refine (place_any _ _ (by omega) (by omega) _).mono ?_
  rintro e w2 ⟨rfl, rfl⟩
  rw [← hk]
  clear hk
  go_wp2_with fail
  refine (ow_append a a (by have e : (⟨#[]⟩ : ByteArray).size = 0 := rfl; rw [e]; omega) (by apply ByteArray.ext; rw [ByteArray.data_append]; simp) h).mono ?_
  rintro e w2 ⟨rfl, h2⟩
  clear h
  go_wp2_with fail
  refine (ow_put (1 + k) (by omega) (by omega) b (by unfold maxLen; omega) (by simp) 0 [(1 + k, b.data.toList)] (putE_ok (by omega) (by omega) rfl (by omega) (by simp)) (by rfl) h2).mono ?_
  rintro e w3 ⟨rfl, h3⟩
  clear h2
  go_wp2_with fail
  refine (ow_put (1 + k) (by omega) (by omega) a (by unfold maxLen; omega) (by simp) 1 [(1 + k, b.data.toList)] (putE_has (.inr (by simp [fhas]))) (by rfl) h3).mono ?_
  rintro e w4 ⟨rfl, h4⟩
  clear h3
  go_wp2_with fail
  refine (ow_put 0 (by omega) (by omega) a (by unfold maxLen; omega) (by simp) 1 [(1 + k, b.data.toList)] (putE_has (.inl (by omega))) (by rfl) h4).mono ?_
  rintro e w5 ⟨rfl, h5⟩
  clear h4
  go_wp2_with fail
  refine (ow_copy (by simp) h5).mono ?_
  rintro e w6 ⟨rfl, h6, t6⟩
  have hz5 := h5.at_.box.lt
  have hm5 := h5.at_.files.lt
  have hle := h5.ext.le
  obtain ⟨q, hq⟩ : ∃ q, q = w5.heap.size := ⟨_, rfl⟩
  rw [← hq] at t6 hz5 hm5 hle ⊢
  clear h5 hq
  go_wp2_with fail
  refine (ow_turn b (by omega) h6).mono ?_
  rintro e w7 ⟨rfl, h7, T7⟩
  have t7 := t6.keep T7 (by simp) (by simp; omega) (by simp; omega)
  clear h6 t6 T7
  go_wp2_with fail
  refine (ow_log t7).mono ?_
  rintro e w8 ⟨rfl, rfl⟩
  go_wp2_with fail
  refine (ow_man t7).mono ?_
  rintro e w8 ⟨rfl, rfl⟩
  go_wp2_with fail
  refine (ow_log h7).mono ?_
  rintro e w8 ⟨rfl, rfl⟩
  go_wp2_with fail
  refine (ow_man h7).mono ?_
  rintro e w8 ⟨rfl, rfl⟩
  go_wp2_with fail
  refine (ow_unsynced 0 (by rfl) h7).mono ?_
  rintro e w8 ⟨rfl, hE8, h8⟩
  have t8 := t7.more hE8
  clear h7 t7 hE8
  go_wp2_with fail
  refine (ow_get (1 + k) (by omega) (by omega) b 0 (by simp [fget, str_data0]) (by simp [fhas]) h8).mono ?_
  rintro e w10 ⟨rfl, rfl⟩
  go_wp2_with fail
  refine (ow_get (1 + k + 1) (by omega) (by omega) ⟨#[]⟩ 9 (by rw [(f_other (by omega)).1]; rfl) (by rw [(f_other (by omega)).2]; rfl) h8).mono ?_
  rintro e w10 ⟨rfl, rfl⟩
  go_wp2_with fail
  refine (ow_drop (1 + k) (by omega) (by omega) true [] (by simp [fhas]) (by simp [fdel]) h8).mono ?_
  rintro e w9 ⟨rfl, h9, T9⟩
  have t9 := t8.keep T9 (by simp) (by simp; omega) (by simp; omega)
  clear h8 t8 T9
  go_wp2_with fail
  refine (ow_drop (1 + k) (by omega) (by omega) false [] (by simp [fhas]) (by simp [fdel]) h9).mono ?_
  rintro e w10 ⟨rfl, h10, T10⟩
  have t10 := t9.keep T10 (by simp) (by simp; omega) (by simp; omega)
  clear h9 t9 T10
  go_wp2_with fail
  refine (ow_nums [1 + k] (by rfl) (by simp) t10).mono ?_
  rintro e w11 ⟨a11, c11, rfl, _, hE11, _⟩
  have h11 := h10.more hE11
  clear h10 t10 hE11
  go_wp2_with fail
  refine (ow_wipe h11).mono ?_
  rintro e w12 ⟨rfl, h12, _⟩
  clear h11
  go_wp2_with fail
  refine (ow_man h12).mono ?_
  rintro e w13 ⟨rfl, rfl⟩
  go_wp2_with fail
  refine (ow_nums [] (by rfl) (by simp) h12).mono ?_
  rintro e w14 ⟨a14, c14, rfl, _, _, h14⟩
  clear h12
  obtain ⟨N, hN⟩ : ∃ N : Nat, N = 262145 := ⟨_, rfl⟩
  obtain ⟨w15, hmk, hcv, hE15⟩ := run_zero_text w14 N (by omega)
  have eN : (N : Int) = 262145 := by omega
  rw [eN] at hmk
  have h15 := h14.more hE15
  have HN := Lib.hid hN
  clear hN eN h14
  go_wp2_with fail
  refine (ow_turn_no (str (List.replicate N 0)) (by have := HN.out; simp; omega) (by have := HN.out; unfold maxLen; simp; omega) h15).mono ?_
  rintro e w16 ⟨rfl, h16⟩
  clear h15 hmk hcv
  go_wp2_with (go_at_call 15; go_must (refine (awake5_any _).mono ?_); rintro e w17 ⟨rfl, hE17⟩)
  go_ret
  exact ⟨rfl, h16.ext.trans hE17⟩

theorem law_shelfTurns_big (a b : ByteArray) (n : Int) (h : 500 < a.size ∨ 500 < b.size) (w : World) :
    Calls Try.prog 6 #[.string a, .string b, .int .i64 n] w fun e w' => e = .returned (.bool true) ∧ Ext w w' := by
  go_enter Try.func6, Try.ntmps6
  go_wp2_with (go_at_call 15; go_must (refine (awake5_any _).mono ?_); rintro e w4 ⟨rfl, hE4⟩)
  all_goals
    go_ret
    exact ⟨rfl, hE4⟩

theorem walk_shelfTurns (a b : ByteArray) (n : Int) (_ : a.size ≤ maxLen) (_ : b.size ≤ maxLen) (wk : (Lit.int .i64 n).wf = true) (w : World) :
    Calls Try.prog 6 #[.string a, .string b, .int .i64 n] w fun e w' => e = .returned (.bool true) ∧ Ext w w' := by
  have k := wf_i64 wk
  by_cases h : 500 < a.size ∨ 500 < b.size
  · exact law_shelfTurns_big a b n h w
  · exact law_shelfTurns a b n (by omega) (by omega) k.1 k.2 w
end Go.Proofs.Ythhhbmeceilkhaa
