/- OrderBack: what is put is got, behind anything; cut it is none: the law's walk. -/
import Derived.Test.YtiaoplehamjbkaaOrdBack
import Derived.Test.YtiaoplehamjbkaaLawOrderAll
namespace Go.Proofs.Ytiaoplehamjbkaa
open Go Go.RowKit
attribute [local go_sem] yields yUpon tup3 tupT

theorem cs7 : (#[Value.int .u8 7] : Array Value).toList = bcells [7] := rfl
theorem OwnB.shape {w : World} {B : Nat} {v : Value} {l : List UInt8} (h : OwnB w B v l) (hl : 0 < l.length) : ∃ b o c, v = .slice (some ⟨b, o, none⟩) l.length c ∧ l.length ≤ c ∧ c ≤ 9223372036854775807 := by
  obtain ⟨a, c, rfl, hc, hcm, ha, hcell⟩ := h.bytes
  obtain ⟨b, o, rfl, _⟩ := hcell 0 (.int .u8 l[0].toNat) (by simp [bcells, hl])
  unfold maxLen at hcm
  exact ⟨b, o, c, rfl, hc, by omega⟩
theorem BytesIn.taken {w : World} {a : Option Addr} {n c k : Nat} {l : List UInt8} (h : BytesIn w (.slice a n c) l) (hk : k ≤ l.length) : BytesIn w (.slice a k c) (l.take k) := by
  have e : (l.take k).length = k := by simp; omega
  have := BytesIn.cut (l := l.take k) (m := l.drop k) (by rw [List.take_append_drop]; exact h)
  rw [e] at this
  exact this

set_option maxRecDepth 100000 in
set_option maxHeartbeats 4000000 in
theorem law_orderBack (v0 : Value) (H : List UInt8) (V : Nat) (bits at_ : Int) (s : ByteArray) (hV : V < 18446744073709551616) (hH : H.length ≤ 100) (hs : s.size ≤ 300) (W : World) (hin : BytesIn W v0 H) :
    Calls Try.prog 12 #[v0, .int .u64 V, .int .i64 bits, .string s, .int .i64 at_] W fun e w' => e = .returned (.bool true) ∧ Ext W w' := by
  obtain ⟨k, hk, hk64⟩ : ∃ k : Nat, bits % 64 = (k : Int) ∧ k < 64 := ⟨(bits % 64).toNat, by omega, by omega⟩
  obtain ⟨X, hX⟩ : ∃ X, X = V / 2 ^ k := ⟨_, rfl⟩
  have hxi : ((V : Int) / 2 ^ k) = (X : Int) := by rw [hX]; simp
  have hX64 : X < 18446744073709551616 := by rw [hX]; exact Nat.lt_of_le_of_lt (Nat.div_le_self _ _) hV
  clear hX
  obtain ⟨P, hP⟩ : ∃ P, P = H ++ num X := ⟨_, rfl⟩
  obtain ⟨T, hT⟩ : ∃ T, T = H ++ txt s.data.toList := ⟨_, rfl⟩
  have p1 : H.length + 1 ≤ P.length := by rw [hP]; simp [num_len]
  have p2 : P.length ≤ 109 := by rw [hP]; have := nlen_le X hX64; simp [num_len]; omega
  have t1 : H.length + 2 ≤ T.length := by rw [hT]; simp [txt]
  have t2 : T.length ≤ 702 := by rw [hT]; have := txt_length_le s.data.toList; have e : s.data.toList.length = s.size := rfl; simp; omega
  have G1 : Hid (getNum (P ++ [7]) (H.length : Int) = (X, (P.length : Int), 0)) := by rw [hP]; exact getNum_back H [7] X hX64
  have G2 : Hid (getText (T ++ [7]) (H.length : Int) = (s.data.toList, (T.length : Int), 0)) := by rw [hT]; exact getText_back H [7] s.data.toList
  have G3 : Hid (∀ j, j < P.length - H.length → (getNum (P.take (H.length + j)) (H.length : Int)).2.2 = 8) := by
    intro j hj
    rw [hP] at hj ⊢
    exact getNum_cut H X j hX64 (by simpa using hj)
  have G4 : Hid (∀ j, j < T.length - H.length → getText (T.take (H.length + j)) (H.length : Int) = ([], 0, 8)) := by
    intro j hj
    rw [hT] at hj ⊢
    exact getText_cut H s.data.toList j (by simpa using hj)
  have HP := Lib.hid hP
  have HT := Lib.hid hT
  clear hP hT
  obtain ⟨j1, hj1, hj1'⟩ : ∃ j : Nat, at_ % ((P.length : Int) - (H.length : Int)) = (j : Int) ∧ j < P.length - H.length := by
    have h1 := Int.emod_nonneg at_ (b := (P.length : Int) - (H.length : Int)) (by omega)
    have h2 := Int.emod_lt_of_pos at_ (b := (P.length : Int) - (H.length : Int)) (by omega)
    exact ⟨(at_ % ((P.length : Int) - (H.length : Int))).toNat, by omega, by omega⟩
  obtain ⟨j2, hj2, hj2'⟩ : ∃ j : Nat, at_ % ((T.length : Int) - (H.length : Int)) = (j : Int) ∧ j < T.length - H.length := by
    have h1 := Int.emod_nonneg at_ (b := (T.length : Int) - (H.length : Int)) (by omega)
    have h2 := Int.emod_lt_of_pos at_ (b := (T.length : Int) - (H.length : Int)) (by omega)
    exact ⟨(at_ % ((T.length : Int) - (H.length : Int))).toNat, by omega, by omega⟩
  have k1 : decide ((100 : Int) < (H.length : Int)) = false := by simp; omega
  have k2 : decide ((300 : Int) < (s.size : Int)) = false := by simp; omega
  have k3 : decide ((P.length : Int) ≤ (H.length : Int)) = false := by simp; omega
  have k4 : decide ((T.length : Int) < (H.length : Int) + 2) = false := by simp; omega
  have hin0 := hin
  obtain ⟨a0, c0, rfl, hc0, hcm0, ha0, hcell0⟩ := hin
  unfold maxLen at hcm0
  clear hcell0
  go_enter Try.func12, Try.ntmps12
  go_wp2_with fail
  refine (place_any _ _ (by omega) (by omega) _).mono ?_
  rw [hk]
  rintro e w1 ⟨rfl, rfl⟩
  go_wp2_with (at_builtin; refine appCopy W rfl (.const (.slice none 0 0)) (.tmp 42) rfl (by rfl) _ H hin0 (by rfl) (by omega) ?_; intro v1 w1 hown1 hE1)
  refine (num_any _ H X hX64 _ hown1.bytes (by omega) (len64_any X hX64)).mono ?_
  rw [← HP.out]
  rintro e w2 ⟨vb, rfl, hb, hE2⟩
  obtain ⟨b1, o1, cb, rfl, hcb, hcbm⟩ := hb.shape (by omega)
  replace hE2 := hE1.trans hE2
  clear hE1 hown1
  go_wp2_with (at_builtin; refine appCopy w2 rfl (.const (.slice none 0 0)) (.tmp 46) rfl (by rfl) _ H (hin0.ext hE2) (by rfl) (by omega) ?_; intro v3 w3 hown3 hE3)
  refine (text_any _ H s _ hown3.bytes (by omega)).mono ?_
  rw [← HT.out]
  rintro e w4 ⟨vc, rfl, hc, hE4⟩
  obtain ⟨b2, o2, cc, rfl, hcc, hccm⟩ := hc.shape (by omega)
  have hB := hb.bytes.ext (hE3.trans hE4)
  have hC := hc.bytes
  replace hE4 := (hE2.trans hE3).trans hE4
  clear hE2 hE3 hown3 hb hc
  go_wp2_with (first
    | (at_builtin; refine appCopy w4 rfl (.const (.slice none 0 0)) (.tmp 64) rfl (by rfl) _ P hB (by rfl) (by omega) ?_; intro v5 w5 hown5 hE5)
    | (at_builtin; go_must (refine appB w5 rfl (.tmp 65) (.tmp 66) rfl w4 hE5 _ _ _ [7] cs7 (by simp) rfl (Tip.own hown5) _ rfl rfl (by simp; omega) ?_); intro v6 w6 hown6 hE6))
  refine (getNum_any v6 (P ++ [7]) _ _ hown6.bytes (by simp; omega)).mono ?_
  rw [G1.out]
  rintro e w7 ⟨rfl, rfl⟩
  replace hB := hB.ext hE6
  replace hC := hC.ext hE6
  replace hE4 := hE4.trans hE6
  clear hown5 hown6 hE5 hE6
  go_wp2_with (first
    | (at_builtin; refine appCopy w6 rfl (.const (.slice none 0 0)) (.tmp 75) rfl (by rfl) _ T hC (by rfl) (by omega) ?_; intro v8 w8 hown8 hE8)
    | (at_builtin; go_must (refine appB w8 rfl (.tmp 76) (.tmp 77) rfl w6 hE8 _ _ _ [7] cs7 (by simp) rfl (Tip.own hown8) _ rfl rfl (by simp; omega) ?_); intro v9 w9 hown9 hE9))
  refine (getText_any v9 (T ++ [7]) _ _ hown9.bytes (by simp; omega)).mono ?_
  rw [G2.out]
  rintro e w10 ⟨rfl, hE10⟩
  replace hE9 := hE9.trans hE10
  replace hB := hB.ext hE9
  replace hC := hC.ext hE9
  replace hE4 := hE4.trans hE9
  clear hown8 hown9 hE8 hE9 hE10
  have d1 : IntKind.i64.wrap ((P.length : Int) - (H.length : Int)) = (P.length : Int) - (H.length : Int) := by rw [IntKind.wrap_i64]; omega
  have d2 : IntKind.i64.wrap ((T.length : Int) - (H.length : Int)) = (T.length : Int) - (H.length : Int) := by rw [IntKind.wrap_i64]; omega
  go_wp2_with fail
  refine (place_any _ _ (by omega) (by omega) _).mono ?_
  rw [hj1]
  rintro e w11 ⟨rfl, rfl⟩
  go_wp2_with fail
  have g3 := G3.out j1 hj1'
  refine (getNum_any _ (P.take (H.length + j1)) _ _ (hB.taken (by omega)) (by simp; omega)).mono ?_
  rintro e w12 ⟨rfl, rfl⟩
  go_wp2_with fail
  refine (place_any _ _ (by omega) (by omega) _).mono ?_
  rw [hj2]
  rintro e w13 ⟨rfl, rfl⟩
  go_wp2_with fail
  refine (getText_any _ (T.take (H.length + j2)) _ _ (hC.taken (by omega)) (by simp; omega)).mono ?_
  rw [G4.out j2 hj2']
  rintro e w14 ⟨rfl, hE14⟩
  replace hE4 := hE4.trans hE14
  clear hE14
  go_wp2_with fail
  refine (int_any _ _).mono ?_
  rintro e w15 ⟨rfl, hE15⟩
  replace hE4 := hE4.trans hE15
  clear hE15
  go_wp2_with fail
  refine (getInt_any _ _).mono ?_
  rw [show ∀ m, (str (int8 m)).data.toList = int8 m from fun m => rfl, getInt_back _ (by simp only [wrap64]; omega) (by simp only [wrap64]; omega)]
  rintro e w16 ⟨rfl, rfl⟩
  have st : s.data.toList = s.toList := (ByteArray.toList_eq s).symm
  go_wp2_with fail
  refine (awake_any _).mono ?_
  rintro e w17 ⟨rfl, hE17⟩
  go_wp2
  go_ret
  exact ⟨rfl, hE4.trans hE17⟩

set_option maxRecDepth 100000 in
set_option maxHeartbeats 1000000 in
theorem law_orderBack_big (v0 : Value) (l : List UInt8) (V : Nat) (s : ByteArray) (n at_ : Int) (hl : 100 < l.length ∨ 300 < s.size) (W : World) (hin : BytesIn W v0 l) :
    Calls Try.prog 12 #[v0, .int .u64 V, .int .i64 n, .string s, .int .i64 at_] W fun e w' => e = .returned (.bool true) ∧ Ext W w' := by
  obtain ⟨a0, c0, rfl, hc0, hcm0, ha0, hcell0⟩ := hin
  clear hcell0
  by_cases h : 100 < l.length
  · have k1 : decide ((100 : Int) < (l.length : Int)) = true := by simp; omega
    go_enter Try.func12, Try.ntmps12
    go_wp2_with fail
    refine (awake_any _).mono ?_
    rintro e w1 ⟨rfl, hE⟩
    go_wp2
    go_ret
    exact ⟨rfl, hE⟩
  · have k1 : decide ((100 : Int) < (l.length : Int)) = false := by simp; omega
    have k2 : decide ((300 : Int) < (s.size : Int)) = true := by simp; omega
    go_enter Try.func12, Try.ntmps12
    go_wp2_with fail
    refine (awake_any _).mono ?_
    rintro e w1 ⟨rfl, hE⟩
    go_wp2
    go_ret
    exact ⟨rfl, hE⟩

theorem walk_orderBack (v0 : Value) (a1 a2 : Int) (a3 : ByteArray) (a4 : Int) (W : World) (w0 : ∃ l : List Int, IntsIn W v0 .u8 l ∧ ∀ n ∈ l, (Lit.int .u8 n).wf = true) (w1 : (Lit.int .u64 a1).wf = true) (_ : (Lit.int .i64 a2).wf = true) (_ : a3.size ≤ maxLen) (_ : (Lit.int .i64 a4).wf = true) :
    Calls Try.prog 12 #[v0, .int .u64 a1, .int .i64 a2, .string a3, .int .i64 a4] W fun e w' => e = .returned (.bool true) ∧ Ext W w' := by
  obtain ⟨z, hz, hw⟩ := w0
  obtain ⟨l, hl⟩ := bytes_of_ints hz hw
  obtain ⟨V, rfl⟩ := Int.eq_ofNat_of_zero_le (wf_u64 w1).1
  by_cases h : 100 < l.length ∨ 300 < a3.size
  · exact law_orderBack_big v0 l V a3 a2 a4 h W hl
  · exact law_orderBack v0 l V a2 a4 a3 (by have := (wf_u64 w1).2; omega) (by omega) (by omega) W hl
end Go.Proofs.Ytiaoplehamjbkaa
