/- TreeTexts: the law's walk. -/
import Derived.Test.YtdkkbglfipkmdaaDoorD4
import Derived.Test.YtdkkbglfipkmdaaDoorD5
import Derived.Test.YtdkkbglfipkmdaaDoorD6
set_option linter.unusedSimpArgs false
set_option linter.unusedVariables false
namespace Go.Proofs.YtdkkbglfipkmdaaDoor
open Go Go.RowKit
attribute [local go_sem] yields yUpon

theorem ints_len {w : World} {v : Value} {l : List Int} (h : IntsIn w v .i64 l) {n : Nat} (hn : l.length = n) : ∃ a c, v = .slice a n c := by
  obtain ⟨a, c, h, _⟩ := h
  rw [hn] at h
  exact ⟨a, c, h⟩

theorem own_set {w : World} {B n K : Nat} {v : Value} {ts : List ByteArray} (ho : w.ownsRow B 9 1 v n (tsC ts)) (hn : n = ts.length) (hk : K < ts.length) :
    ∃ g c, v = .slice (some ⟨g, 0, none⟩) n c ∧ n ≤ c ∧ c ≤ 9223372036854775807 ∧ B ≤ g ∧ w.cell? ⟨g, K, none⟩ = some (.string ts[K]) ∧ w.frozen? ⟨g, K, none⟩ = false ∧
      ∀ y, TsIn (w.setCell ⟨g, K, none⟩ (.string y)) (.slice (some ⟨g, 0, none⟩) n c) (ts.set K y) := by
  obtain ⟨_, ⟨_, h0⟩ | ⟨g, c, cur, e, hB, hh, h1, h2, hsz, htk⟩⟩ := ho
  · omega
  · have hb : BoxAt w g cur 9 := hh
    have hcell : ∀ j (hj : j < ts.length), cur[j]? = some (.string ts[j]) := by
      intro j hj
      have h := congrArg (fun l : List Value => l[j]?) htk
      simp only [Nat.mul_one, List.getElem?_take] at h
      rw [if_pos (by omega)] at h
      rw [← Array.getElem?_toList, h]
      simp [tsC, hj]
    refine ⟨g, c, e, h1, h2, hB, by rw [hb.cell K]; exact hcell K hk, hb.free K, fun y => ?_⟩
    subst hn
    refine ⟨some ⟨g, 0, none⟩, c, by rw [List.length_set], by rw [List.length_set]; exact h1, h2, nofun, fun j u hj => ⟨g, 0, rfl, ?_⟩⟩
    rw [Nat.zero_add, (hb.set K (.string y)).cell j]
    have hjl : j < ts.length := by
      have := (List.getElem?_eq_some_iff.1 hj).1
      simpa [tsC] using this
    have hjc : j < cur.size := by
      have := hcell j hjl
      exact (Array.getElem?_eq_some_iff.1 this).1
    by_cases hjk : K = j
    · subst hjk
      simp [tsC, hjl] at hj
      simp [hjc, hj]
    · rw [Array.getElem?_setIfInBounds_ne hjk, hcell j hjl]
      simp [tsC, List.getElem?_set, hjk, hjl] at hj
      rw [hj]
theorem TsIn.pre {w : World} {a : Option Addr} {n c K : Nat} {ts : List ByteArray} (h : TsIn w (.slice a n c) ts) (hn : n = ts.length) (hK : K ≤ n) : TsIn w (.slice a K c) (ts.take K) := by
  obtain ⟨a', c', e, hc, hcm, ha, hcell⟩ := h
  injection e with e1 e2 e3
  subst e1 e3
  have hl : (ts.take K).length = K := by rw [List.length_take]; omega
  refine ⟨_, _, by rw [hl], by rw [hl]; omega, hcm, ha, fun j u hj => hcell j u ?_⟩
  have hjl := (List.getElem?_eq_some_iff.1 hj).1
  simp [tsC] at hjl
  unfold tsC at hj ⊢
  rw [List.getElem?_map, List.getElem?_take, if_pos (by omega)] at hj
  rw [List.getElem?_map]
  exact hj

set_option maxRecDepth 100000 in
set_option maxHeartbeats 16000000 in
theorem law_treeTexts (v0 : Value) (l : List Int) (at_ : Int) (hat : -9223372036854775808 ≤ at_ ∧ at_ ≤ 9223372036854775807) (hb : ∀ x ∈ l, -9223372036854775808 ≤ x ∧ x ≤ 9223372036854775807) (w : World) (hin : IntsIn w v0 .i64 l) (hT : TabP w) :
    Calls Tryd.prog 9 #[v0, .int .i64 at_] w fun e w' => e = .returned (.bool true) ∧ Ext w w' := by
  have HI := Lib.hid hin
  obtain ⟨a0, c0, rfl, hc0, hcm0, hcell0⟩ := hin.getX
  have HC := Lib.hid hcell0
  have HB := Lib.hid hb
  have HT := Lib.hid hT
  clear hcell0 hin hb hT
  obtain ⟨n, hn⟩ : ∃ n, n = l.length := ⟨_, rfl⟩
  have HN := Lib.hid hn
  rw [← hn] at hc0 HI ⊢
  by_cases h30 : 30 < (n : Int)
  · clear hn
    go_enter Tryd.func9, Tryd.ntmps9
    go_wp2_with (go_at_call 39; go_must (refine (awake23_any _ HT.out).mono ?_); rintro e w7 ⟨rfl, hE7⟩)
    go_ret
    exact ⟨rfl, hE7⟩
  obtain ⟨ts, hts⟩ : ∃ ts, ts = stxs l := ⟨_, rfl⟩
  have hnt : n = ts.length := by rw [hts, hn]; simp [stxs]
  have HNT := Lib.hid hnt
  have HO : Hid (oth (stxs l) ts l.length = []) := Lib.hid (by rw [hts]; exact oth_same _ _)
  have HS := Lib.hid hts
  clear hn hts hnt
  go_enter Tryd.func9, Tryd.ntmps9
  go_wp2_with (first
    | (go_at_call 40; go_must (refine (texts_any _ l _ HI.out HB.out (by rw [← HN.out]; omega) HT.out).mono ?_); rintro e w1 ⟨v1, ⟨rfl, hE1⟩, ho1⟩; have hr1 : TsIn w1 v1 (stxs l) := (by have h := SliceIn.of_owns ho1; unfold TsIn; simpa [stxs] using h); rw [← HS.out] at hr1; have HR1 := Lib.hid hr1; obtain ⟨a1, c1, rfl, hc1, hcm1, hcell1⟩ := hr1.get; rw [← HNT.out] at hc1 HR1 ⊢; have HC1 := Lib.hid hcell1; clear hcell1 hr1 ho1)
    | (go_at_call 41; go_must (refine (other_any _ _ l ts _ (HI.out.ext hE1) HR1.out HB.out (by rw [← HN.out]; omega) (pow10_ext HT.out hE1)).mono ?_); rintro e w2 ⟨v2, ⟨rfl, hE2⟩, ho2⟩; rw [HO.out] at ho2; obtain ⟨a2, c2, rfl⟩ := ints_len ho2 (n := 0) rfl; clear ho2))
  go_loopw [6] (fun i wr => ∃ k : Nat, k ≤ n ∧ i = .int .i64 k ∧ Ext w2 wr) (fun i _ => n - (intOf i).toNat)
  case atStart => exact ⟨0, Nat.zero_le _, rfl, Ext.refl _⟩
  case round =>
    obtain ⟨k, hk, rfl, hE⟩ := hrel
    by_cases hlt : k < n
    · have hkl : k < l.length := by rw [← HN.out]; exact hlt
      have hkt : k < ts.length := by rw [← HNT.out]; exact hlt
      obtain ⟨b, o, rfl, hco⟩ := HC.out k hkl
      replace hco := ((hE1.trans hE2).trans hE).cell hco
      obtain ⟨b1, o1, rfl, hco1⟩ := HC1.out k hkt
      replace hco1 := (hE2.trans hE).cell hco1
      have hst : ts[k] = stx l[k] := by simp [HS.out, stxs]
      obtain ⟨x, hx⟩ : ∃ x, x = l[k] := ⟨_, rfl⟩
      rw [hst] at hco1
      rw [← hx] at hco hco1
      have hz := stx_zero x
      have hsz := stx_size x
      obtain ⟨s, hs⟩ : ∃ s, s = stx x := ⟨_, rfl⟩
      rw [← hs] at hco1 hz hsz
      have f1 : s.toList.isEmpty = false := by
        rw [ByteArray.toList_eq]
        cases hd : s.data.toList with
        | nil => exact absurd hsz (by rw [show s.size = s.data.toList.length by simp, hd]; decide)
        | cons _ _ => rfl
      have e48 : (⟨#[48]⟩ : ByteArray).toList = [48] := by rw [ByteArray.toList_eq]
      clear hst hx hs hsz
      by_cases hx0 : x ≤ 0
      · have f2 : (s.toList == [48]) = true := by rw [← e48]; exact (Lib.bytes_beq_iff _ _).2 (hz.2 hx0)
        clear hz e48
        go_wp2
        go_quiet (fail)
        go_wp2
        go_roundw
        case rel => exact ⟨k + 1, hlt, by go_num, hE.drewN _⟩
        case measure => simp [intOf]; omega
      · have f2 : (s.toList == [48]) = false := by rw [← e48]; exact (Lib.bytes_beq_false_iff _ _).2 (fun h => hx0 (hz.1 h))
        clear hz e48
        go_wp2
        go_quiet (fail)
        go_wp2
        go_roundw
        case rel => exact ⟨k + 1, hlt, by go_num, hE.drewN _⟩
        case measure => simp [intOf]; omega
    · obtain rfl : k = n := by omega
      by_cases hn0 : k = 0
      · subst hn0
        go_wp2_with (go_at_call 39; go_must (refine (awake23_any _ (pow10_ext HT.out ((hE1.trans hE2).trans hE))).mono ?_); rintro e w7 ⟨rfl, hE7⟩)
        go_ret
        exact ⟨rfl, ((hE1.trans hE2).trans hE).trans hE7⟩
      · obtain ⟨n, hn⟩ : ∃ n, n = k := ⟨_, rfl⟩
        subst hn
        obtain ⟨K, hK⟩ : ∃ K : Nat, (K : Int) = at_ % (n : Int) := ⟨(at_ % (n : Int)).toNat, by have := Int.emod_nonneg at_ (show (n : Int) ≠ 0 by omega); omega⟩
        have hKn : K < n := by have := Int.emod_lt_of_pos at_ (show (0 : Int) < (n : Int) by omega); omega
        have HK := Lib.hid hK.symm
        have hKt : K < ts.length := by rw [← HNT.out]; exact hKn
        have hKz : ts[K].size ≤ 20 := by
          have e : ts[K] = stx (l[K]'(by rw [← HN.out]; exact hKn)) := by simp [HS.out, stxs]
          rw [e]
          exact stx_size_le _ (HB.out _ (List.getElem_mem _)).2
        obtain ⟨b1, o1, rfl, _⟩ := HC1.out K hKt
        obtain ⟨b0, o0, rfl, _⟩ := HC.out K (by rw [← HN.out]; exact hKn)
        have hE0 : Ext w wr := (hE1.trans hE2).trans hE
        have hr2 := HR1.out.ext (hE2.trans hE)
        have HR2 := Lib.hid hr2
        have hr3 : SliceIn wr (.slice (some ⟨b1, o1, none⟩) n c1) n (tsC ts) := by
          unfold TsIn at hr2
          rw [← HNT.out] at hr2
          exact hr2
        have HR3 := Lib.hid hr3
        have hO1 : oth (stxs l) (ts.set K (ts[K] ++ ⟨#[48]⟩)) l.length = [(K : Int)] := by
          rw [← HS.out, show l.length = ts.length by rw [← HN.out, HNT.out]]
          refine oth_one hKt fun e => ?_
          have := congrArg ByteArray.size e
          rw [ByteArray.size_append] at this
          have e1 : (⟨#[48]⟩ : ByteArray).size = 1 := rfl
          omega
        have HO1 := Lib.hid hO1
        have hO2 : (oth (stxs l) (ts.take K) l.length).length = n - K := by
          rw [← HS.out, show l.length = ts.length by rw [← HN.out, HNT.out], oth_take_len hKt, ← HNT.out]
        have hO3 : ∀ h : 0 < (oth (stxs l) (ts.take K) l.length).length, (oth (stxs l) (ts.take K) l.length)[0] = (K : Int) := by
          rw [← HS.out, show l.length = ts.length by rw [← HN.out, HNT.out]]
          exact oth_take_zero hKt
        have HO2 := Lib.hid hO2
        have HO3 := Lib.hid hO3
        clear hK hr2 hr3 hO1 hO2 hO3
        go_wp2_with (first
          | (go_at_call 16; go_must (refine (place_any _ _ (by omega) (by omega) _).mono ?_); rintro e w3 ⟨rfl, rfl⟩; rw [HK.out])
          | (at_builtin; go_must (refine wpList_cloneS rfl info_stringX und_strsX rfl (by decide) _ (.tmp 61) rfl rfl HR3.out rfl (by simp [tsC, ← HNT.out]) (by simp [tsC, Value.oneCell']) (by unfold maxLen; omega) (by omega) ?_); intro v3 w3 ho3 hE3; obtain ⟨g3, c3, rfl, hc3, hcm3, hg3, y3, f3, hset⟩ := own_set ho3 HNT.out hKt; have HSET := Lib.hid (hset (ts[K] ++ ⟨#[48]⟩)); have hE4 := hE3.setCell (p := ⟨g3, K, none⟩) hg3 (.string (ts[K] ++ ⟨#[48]⟩)); clear hset ho3)
          | (go_at_call 41; have hX5 := X5; go_must (refine (other_any _ _ l (ts.take K) _ (HI.out.ext (hE1.trans hE15)) (HR5.out.pre HNT.out (Nat.le_of_lt hKn)) HB.out (by rw [← HN.out]; omega) (pow10_ext HT.out (hE1.trans hE15))).mono ?_); rintro e w6 ⟨v6, ⟨rfl, hE6⟩, ho6⟩; obtain ⟨a6, c6, rfl, hc6, hcm6, hx6⟩ := ho6.getX; obtain ⟨b6, o6, rfl, x6⟩ := hx6 0 (by rw [HO2.out]; omega); rw [HO3.out] at x6; have X6 : w6.cell? ⟨b6, o6, none⟩ = some (.int .i64 (K : Int)) := x6; rw [HO2.out] at hc6 ⊢; clear x6 hx6 ho6; replace X5 := hE6.cell X5)
          | (go_at_call 41; go_must (refine (other_any _ _ l (ts.set K (ts[K] ++ ⟨#[48]⟩)) _ (HI.out.ext (hE0.trans hE4)) HSET.out HB.out (by rw [← HN.out]; omega) (pow10_ext HT.out (hE0.trans hE4))).mono ?_); rintro e w5 ⟨v5, ⟨rfl, hE5⟩, ho5⟩; rw [HO1.out] at ho5; obtain ⟨a5, c5, rfl, hc5, hcm5, hx5⟩ := ho5.getX; obtain ⟨b5, o5, rfl, x5⟩ := hx5 0 (by simp); have X5 : w5.cell? ⟨b5, o5, none⟩ = some (.int .i64 (K : Int)) := x5; clear x5 hx5 ho5; have hE15 := ((hE2.trans hE).trans hE4).trans hE5; have HR5 := Lib.hid (HR1.out.ext hE15))
          | ((guard_target =~ wpList _ _ _ (Oper.mk (some 77) _ _ _ _ _ :: _) _ _); go_must (refine wpList_upto rfl und_strsX (size := 1) (by kernel_rfl) (.tmp 75) (.tmp 76) rfl rfl rfl (by omega) ?_))
          | (go_at_call 39; go_must (refine (awake23_any _ (pow10_ext HT.out ((hE1.trans hE15).trans hE6))).mono ?_); rintro e w7 ⟨rfl, hE7⟩))
        go_ret
        exact ⟨rfl, ((hE1.trans hE15).trans hE6).trans hE7⟩
theorem walk_treeTexts (v0 : Value) (a1 : Int) (W : World) (w0 : ∃ l : List Int, IntsIn W v0 .i64 l ∧ ∀ n ∈ l, (Lit.int .i64 n).wf = true) (w1 : (Lit.int .i64 a1).wf = true) (hT : TabV W) :
    Calls Tryd.prog 9 #[v0, .int .i64 a1] W fun e w' => e = .returned (.bool true) ∧ Ext W w' := by
  obtain ⟨l, hl, hb⟩ := w0
  refine law_treeTexts v0 l a1 ?_ (fun x hx => ?_) W hl hT.p
  · have h := w1
    simp only [Lit.wf, Bool.and_eq_true, decide_eq_true_eq] at h
    exact h
  · have h := hb x hx
    simp only [Lit.wf, Bool.and_eq_true, decide_eq_true_eq] at h
    exact h
end Go.Proofs.YtdkkbglfipkmdaaDoor
