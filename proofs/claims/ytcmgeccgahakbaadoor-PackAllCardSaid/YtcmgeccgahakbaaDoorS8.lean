/- runes.Name at any text. -/
import Derived.Test.YtcmgeccgahakbaaDoorS7
import Derived.Lib.OthersKept
import Derived.Lib.RuneCountTail
import Derived.Test.YtcmgeccgahakbaaDoorS5
import Derived.Test.YtcmgeccgahakbaaDoorS6
set_option linter.unusedSimpArgs false
set_option linter.unusedVariables false
namespace Go.Proofs.YtcmgeccgahakbaaDoor
open Go Go.RowKit
attribute [local go_sem] yields yUpon

def TabU (w : World) : Prop := Lib.Utf8Tabs 0 1 w
theorem TabU.ext {w w' : World} (hE : Ext w w') (h : TabU w) : TabU w' := ⟨fun c hc => hE.cell (h.1 c hc), fun i hi => ⟨hE.cell (h.2 i hi).1, hE.cell (h.2 i hi).2⟩⟩
def letN (r : Nat) : Bool := r == 95 || (decide (97 ≤ r) && decide (r ≤ 122)) || decide (128 ≤ r)
set_option maxHeartbeats 1000000 in
theorem letter_gen (r : Nat) (w : World) : Calls Tryd.prog 123 #[.int .i32 r] w fun e w' => e = .returned (.bool (letN r)) ∧ w = w' := by
  by_cases h1 : r = 95
  · subst h1
    go_enter Tryd.func123, Tryd.ntmps123
    go_wp2
    go_ret
    exact ⟨rfl, rfl⟩
  · have t1 : ((r : Int) == 95) = false := by simp; omega
    by_cases h2 : 97 ≤ r
    · have t2 : decide (97 ≤ (r : Int)) = true := by simp; omega
      by_cases h3 : r ≤ 122
      · have t3 : decide ((r : Int) ≤ 122) = true := by simp; omega
        go_enter Tryd.func123, Tryd.ntmps123
        go_wp2
        go_ret
        exact ⟨ret_bool (by unfold letN; simp; omega), rfl⟩
      · have t3 : decide ((r : Int) ≤ 122) = false := by simp; omega
        go_enter Tryd.func123, Tryd.ntmps123
        go_wp2
        go_ret
        exact ⟨ret_bool (by unfold letN; rw [Bool.eq_iff_iff]; simp; omega), rfl⟩
    · have t2 : decide (97 ≤ (r : Int)) = false := by simp; omega
      go_enter Tryd.func123, Tryd.ntmps123
      go_wp2
      go_ret
      exact ⟨ret_bool (by unfold letN; rw [Bool.eq_iff_iff]; simp; omega), rfl⟩
def itPos (w : World) (b : Nat) : Nat := match w.heap[b]? with | some (.stringIter _ p) => p | _ => 0
theorem ext_iter {w w' : World} {b : Nat} {o : Obj} (hE : Ext w w') (h : w.heap[b]? = some o) : w'.heap[b]? = some o := by
  rw [hE.block b (Array.getElem?_eq_some_iff.1 h).1]
  exact h
theorem one_sz (s : ByteArray) (a : Nat) (ha : a < s.size) : 1 ≤ (Utf8.decode s a).2 ∧ a + (Utf8.decode s a).2 ≤ s.size := by
  have h := rone_size s a ha
  unfold rnOf at h
  rw [roneR_decode s a ha] at h
  exact h
theorem dec_pos (s : ByteArray) (a : Nat) (ha : a < s.size) : 1 ≤ (Utf8.decode s a).2 := by
  have := one_sz s a ha
  exact this.1
set_option maxRecDepth 100000 in
set_option maxHeartbeats 2000000 in
theorem right_gen (s : ByteArray) (a : Nat) (ha : a < s.size) (hs : s.size ≤ 1000000) (w : World) (hT : TabU w) : Calls Tryd.prog 124 #[.string s, .int .i64 a, .int .i32 (Utf8.decode s a).1] w fun e w' => e = .returned (.bool (roneR s a).2.2) ∧ Ext w w' := by
  rw [roneR_decode s a ha]
  have hp := dec_pos s a ha
  have hd : Utf8.decode (s.extract a s.size) 0 = Utf8.decode s a := by rw [Lib.tail_decode]; rfl
  obtain ⟨⟨R, N⟩, hRN⟩ : ∃ p, p = Utf8.decode s a := ⟨_, rfl⟩
  rw [← hRN] at hp hd ⊢
  simp only at hp ⊢
  by_cases h : R = 65533
  · subst h
    have hz : (s.extract a s.size).size ≠ 0 := by rw [ByteArray.size_extract]; omega
    obtain ⟨T, hTT⟩ : ∃ T, T = s.extract a s.size := ⟨_, rfl⟩
    rw [← hTT] at hd hz
    have hgo : Lib.decodeGo T = (65533, N) := by unfold Lib.decodeGo; rw [if_neg hz]; exact hd
    have HGO := Lib.hid hgo
    have HTT := Lib.hid hTT
    clear hgo hd hRN hTT
    have ha2 : decide ((a : Int) ≤ (s.size : Int)) = true := by simp; omega
    go_enter Tryd.func124, Tryd.ntmps124
    go_wp2_with fail
    all_goals first
      | (exfalso; omega)
      | (rw [← HTT.out]
         refine (Tryd.utf8_DecodeRuneInString T w hT).mono ?_
         rw [HGO.out]
         rintro e w1 ⟨rfl, hE⟩
         have hE : Ext w w1 := hE
         go_wp2_with fail
         go_ret
         exact ⟨ret_bool (by rw [Bool.eq_iff_iff]; simp; omega), hE⟩)
  · have t1 : ((R : Int) == 65533) = false := by simp; omega
    go_enter Tryd.func124, Tryd.ntmps124
    go_wp2
    go_ret
    exact ⟨ret_bool (by simp [h]), Ext.refl w⟩
theorem okN_eq (i k : Nat) (x : Rn) (hik : i = 0 ↔ k = 0) (hok : 48 ≤ x.r → x.r ≤ 57 → x.ok = true) : okN i x = ((letN x.r || (decide (48 ≤ x.r) && decide (x.r ≤ 57) && decide (0 < k))) && x.ok) := by
  unfold okN letB letN
  rw [Bool.eq_iff_iff]
  cases h : x.ok
  · have : ¬ (48 ≤ x.r ∧ x.r ≤ 57) := fun ⟨h1, h2⟩ => by rw [hok h1 h2] at h; cases h
    simp
    omega
  · simp
    omega

set_option maxRecDepth 100000 in
set_option maxHeartbeats 8000000 in
theorem name_gen (s : ByteArray) (hs : s.size ≤ 1000000) (w : World) (hT : TabU w) :
    Calls Tryd.prog 84 #[.string s] w fun e w' => e = .returned (.bool (nameB s)) ∧ Ext w w' := by
  obtain ⟨Bk, hBk⟩ : ∃ B, B = nameB s := ⟨_, rfl⟩
  have HBK : Hid (Bk = (nmLoop 0 (rsAll s) && (decide (1 ≤ s.size) && decide (s.size ≤ 100)))) := hBk
  rw [← hBk]
  clear hBk
  go_enter Tryd.func84, Tryd.ntmps84
  go_wp2
  go_loopw [3] (fun _ wr => ∃ (k f i : Nat), k ≤ s.size ∧ wr.heap[w.heap.size]? = some (.stringIter s k) ∧ Ext w wr ∧ s.size ≤ k + f ∧ (i = 0 ↔ k = 0) ∧ Hid (nmLoop 0 (rsAll s) = nmLoop i (rsF s f k))) (fun _ wr => s.size - itPos wr w.heap.size)
  case atStart => exact ⟨0, s.size, 0, Nat.zero_le _, World.iter_heap w s 0, (Ext.refl w).alloc _, by omega, Iff.rfl, rfl⟩
  case round =>
    obtain ⟨k, f, i, hk, hit, hE, hf, hik, HX⟩ := hrel
    by_cases hlt : k < s.size
    · obtain ⟨f, rfl⟩ : ∃ f', f = f' + 1 := ⟨f - 1, by omega⟩
      have hsz := rone_size s k hlt
      have hX : nmLoop 0 (rsAll s) = (okN i (rnOf s k) && nmLoop (i + 1) (rsF s f (k + (rnOf s k).n))) := by
        rw [HX.out]
        conv => lhs; unfold rsF
        rw [if_pos hlt]
        rfl
      have hdec := roneR_decode s k hlt
      have hxr : (rnOf s k).r = (Utf8.decode s k).1 := by unfold rnOf; rw [hdec]
      have hxn : (rnOf s k).n = (Utf8.decode s k).2 := by unfold rnOf; rw [hdec]
      have hok : 48 ≤ (rnOf s k).r → (rnOf s k).r ≤ 57 → (rnOf s k).ok = true := fun h1 h2 => by
        rw [hxr] at h1 h2
        show (roneR s k).2.2 = true
        rw [hdec]
        simp
        omega
      rw [okN_eq i k _ hik hok] at hX
      have hnx := fun ty => Lib.run_next_any_at (P := Tryd.prog) wr w.heap.size s k ty hit hlt
      have hright := fun w' hT' => right_gen s k hlt hs w' hT'
      rw [← hxr] at hnx
      rw [← hxn] at hnx
      obtain ⟨w2, hw2⟩ : ∃ w2, w2 = wr.iterAt w.heap.size s (k + (rnOf s k).n) := ⟨_, rfl⟩
      rw [← hw2] at hnx
      have hit2 : w2.heap[w.heap.size]? = some (.stringIter s (k + (rnOf s k).n)) := by rw [hw2]; exact Lib.iterAt_heap wr w.heap.size s k _ hit
      have hE2 : Ext w w2 := by rw [hw2]; exact Lib.below_iterAt hE (Nat.le_refl _) s _
      have hright : ∀ w', TabU w' → Calls Tryd.prog 124 #[.string s, .int .i64 k, .int .i32 (rnOf s k).r] w' fun e w'' => e = .returned (.bool (rnOf s k).ok) ∧ Ext w' w'' := fun w' h => by rw [hxr]; exact hright w' h
      obtain ⟨⟨R, A, N, OK⟩, hx⟩ : ∃ x, x = rnOf s k := ⟨_, rfl⟩
      rw [← hx] at hX hnx hit2 hright hsz
      simp only at hX hnx hit2 hright hsz
      have HR := Lib.hid hright
      have hT2 := hT.ext hE2
      have HX2 := Lib.hid hX
      have hpos : Hid (itPos wr w.heap.size = k) := by show itPos _ _ = k; unfold itPos; rw [hit]
      clear hX hright hdec hxr hxn hok hw2 HX hx hit
      have FIN : ((letN R || (decide (48 ≤ R) && decide (R ≤ 57) && decide (0 < k))) && OK) = true → Hid (nmLoop 0 (rsAll s) = nmLoop (i + 1) (rsF s f (k + N))) := fun h => by show _ = _; rw [HX2.out, h]; rfl
      have BAD : ((letN R || (decide (48 ≤ R) && decide (R ≤ 57) && decide (0 < k))) && OK) = false → Hid (false = Bk) := fun h => by show false = Bk; rw [HBK.out, HX2.out, h]; rfl
      have HFIN := Lib.hid FIN
      have HBAD := Lib.hid BAD
      clear FIN BAD
      by_cases h48 : 48 ≤ R
      · have t1 : decide (48 ≤ (R : Int)) = true := by simp; omega
        by_cases h57 : R ≤ 57
        · have t2 : decide ((R : Int) ≤ 57) = true := by simp; omega
          by_cases hk0 : 0 < k
          · have t3 : decide (0 < (k : Int)) = true := by simp; omega
            cases hL : letN R
            · cases OK
              · skip
                have HF := HBAD.out (by rw [hL]; simp)
                go_wp2_with fail
                refine (letter_gen R w2).mono ?_
                rw [hL]
                rintro e w3 ⟨rfl, rfl⟩
                go_wp2_with fail
                refine (HR.out w2 hT2).mono ?_
                rintro e w4 ⟨rfl, hE4⟩
                go_wp2_with fail
                go_ret
                exact ⟨ret_bool HF.out, hE2.trans hE4⟩
              · skip
                have HF := HFIN.out (by rw [hL]; simp; omega)
                go_wp2_with fail
                refine (letter_gen R w2).mono ?_
                rw [hL]
                rintro e w3 ⟨rfl, rfl⟩
                go_wp2_with fail
                refine (HR.out w2 hT2).mono ?_
                rintro e w4 ⟨rfl, hE4⟩
                have hit4 : w4.heap[w.heap.size]? = some (.stringIter s (k + N)) := ext_iter hE4 hit2
                go_wp2_with fail
                go_roundw
                case rel => exact ⟨k + N, f, i + 1, by omega, hit4, hE2.trans hE4, by omega, by omega, HF⟩
                case measure => rw [hpos.out]; unfold itPos; rw [hit4]; simp only; omega
            · cases OK
              · skip
                have HF := HBAD.out (by rw [hL]; simp)
                go_wp2_with fail
                refine (letter_gen R w2).mono ?_
                rw [hL]
                rintro e w3 ⟨rfl, rfl⟩
                go_wp2_with fail
                refine (HR.out w2 hT2).mono ?_
                rintro e w4 ⟨rfl, hE4⟩
                go_wp2_with fail
                go_ret
                exact ⟨ret_bool HF.out, hE2.trans hE4⟩
              · skip
                have HF := HFIN.out (by rw [hL]; simp)
                go_wp2_with fail
                refine (letter_gen R w2).mono ?_
                rw [hL]
                rintro e w3 ⟨rfl, rfl⟩
                go_wp2_with fail
                refine (HR.out w2 hT2).mono ?_
                rintro e w4 ⟨rfl, hE4⟩
                have hit4 : w4.heap[w.heap.size]? = some (.stringIter s (k + N)) := ext_iter hE4 hit2
                go_wp2_with fail
                go_roundw
                case rel => exact ⟨k + N, f, i + 1, by omega, hit4, hE2.trans hE4, by omega, by omega, HF⟩
                case measure => rw [hpos.out]; unfold itPos; rw [hit4]; simp only; omega
          · have t3 : decide (0 < (k : Int)) = false := by simp; omega
            cases hL : letN R
            · skip
              have HF := HBAD.out (by rw [hL]; simp; omega)
              go_wp2_with fail
              refine (letter_gen R w2).mono ?_
              rw [hL]
              rintro e w3 ⟨rfl, rfl⟩
              go_wp2_with fail
              go_ret
              exact ⟨ret_bool HF.out, hE2⟩
            · cases OK
              · skip
                have HF := HBAD.out (by rw [hL]; simp)
                go_wp2_with fail
                refine (letter_gen R w2).mono ?_
                rw [hL]
                rintro e w3 ⟨rfl, rfl⟩
                go_wp2_with fail
                refine (HR.out w2 hT2).mono ?_
                rintro e w4 ⟨rfl, hE4⟩
                go_wp2_with fail
                go_ret
                exact ⟨ret_bool HF.out, hE2.trans hE4⟩
              · skip
                have HF := HFIN.out (by rw [hL]; simp)
                go_wp2_with fail
                refine (letter_gen R w2).mono ?_
                rw [hL]
                rintro e w3 ⟨rfl, rfl⟩
                go_wp2_with fail
                refine (HR.out w2 hT2).mono ?_
                rintro e w4 ⟨rfl, hE4⟩
                have hit4 : w4.heap[w.heap.size]? = some (.stringIter s (k + N)) := ext_iter hE4 hit2
                go_wp2_with fail
                go_roundw
                case rel => exact ⟨k + N, f, i + 1, by omega, hit4, hE2.trans hE4, by omega, by omega, HF⟩
                case measure => rw [hpos.out]; unfold itPos; rw [hit4]; simp only; omega
        · have t2 : decide ((R : Int) ≤ 57) = false := by simp; omega
          cases hL : letN R
          · skip
            have HF := HBAD.out (by rw [hL]; simp; omega)
            go_wp2_with fail
            refine (letter_gen R w2).mono ?_
            rw [hL]
            rintro e w3 ⟨rfl, rfl⟩
            go_wp2_with fail
            go_ret
            exact ⟨ret_bool HF.out, hE2⟩
          · cases OK
            · skip
              have HF := HBAD.out (by rw [hL]; simp)
              go_wp2_with fail
              refine (letter_gen R w2).mono ?_
              rw [hL]
              rintro e w3 ⟨rfl, rfl⟩
              go_wp2_with fail
              refine (HR.out w2 hT2).mono ?_
              rintro e w4 ⟨rfl, hE4⟩
              go_wp2_with fail
              go_ret
              exact ⟨ret_bool HF.out, hE2.trans hE4⟩
            · skip
              have HF := HFIN.out (by rw [hL]; simp)
              go_wp2_with fail
              refine (letter_gen R w2).mono ?_
              rw [hL]
              rintro e w3 ⟨rfl, rfl⟩
              go_wp2_with fail
              refine (HR.out w2 hT2).mono ?_
              rintro e w4 ⟨rfl, hE4⟩
              have hit4 : w4.heap[w.heap.size]? = some (.stringIter s (k + N)) := ext_iter hE4 hit2
              go_wp2_with fail
              go_roundw
              case rel => exact ⟨k + N, f, i + 1, by omega, hit4, hE2.trans hE4, by omega, by omega, HF⟩
              case measure => rw [hpos.out]; unfold itPos; rw [hit4]; simp only; omega
      · have t1 : decide (48 ≤ (R : Int)) = false := by simp; omega
        cases hL : letN R
        · skip
          have HF := HBAD.out (by rw [hL]; simp; omega)
          go_wp2_with fail
          refine (letter_gen R w2).mono ?_
          rw [hL]
          rintro e w3 ⟨rfl, rfl⟩
          go_wp2_with fail
          go_ret
          exact ⟨ret_bool HF.out, hE2⟩
        · cases OK
          · skip
            have HF := HBAD.out (by rw [hL]; simp)
            go_wp2_with fail
            refine (letter_gen R w2).mono ?_
            rw [hL]
            rintro e w3 ⟨rfl, rfl⟩
            go_wp2_with fail
            refine (HR.out w2 hT2).mono ?_
            rintro e w4 ⟨rfl, hE4⟩
            go_wp2_with fail
            go_ret
            exact ⟨ret_bool HF.out, hE2.trans hE4⟩
          · skip
            have HF := HFIN.out (by rw [hL]; simp)
            go_wp2_with fail
            refine (letter_gen R w2).mono ?_
            rw [hL]
            rintro e w3 ⟨rfl, rfl⟩
            go_wp2_with fail
            refine (HR.out w2 hT2).mono ?_
            rintro e w4 ⟨rfl, hE4⟩
            have hit4 : w4.heap[w.heap.size]? = some (.stringIter s (k + N)) := ext_iter hE4 hit2
            go_wp2_with fail
            go_roundw
            case rel => exact ⟨k + N, f, i + 1, by omega, hit4, hE2.trans hE4, by omega, by omega, HF⟩
            case measure => rw [hpos.out]; unfold itPos; rw [hit4]; simp only; omega
    · obtain rfl : k = s.size := by omega
      have hnx := fun ty => Lib.run_next_end_at (P := Tryd.prog) wr w.heap.size s s.size ty hit (by omega)
      have e1 : Hid (Bk = (decide (1 ≤ s.size) && decide (s.size ≤ 100))) := by
        show Bk = _
        rw [HBK.out, HX.out, rsF_end s f s.size (Nat.le_refl _)]
        rfl
      by_cases h0 : s.size = 0
      · have e0 : (s.toList == []) = true := by
          rw [ByteArray.toList_eq]
          have : s.data.toList = [] := List.eq_nil_of_length_eq_zero h0
          rw [this]
          rfl
        go_wp2_with fail
        go_ret
        exact ⟨ret_bool (by rw [e1.out, h0]; rfl), hE⟩
      · have e0 : (s.toList == []) = false := by
          rw [ByteArray.toList_eq]
          simp only [beq_eq_false_iff_ne, ne_eq]
          intro h
          exact h0 (by have := congrArg List.length h; exact this)
        go_wp2_with fail
        go_ret
        exact ⟨ret_bool (by rw [e1.out, Bool.eq_iff_iff]; simp; omega), hE⟩
end Go.Proofs.YtcmgeccgahakbaaDoor

/- The reference's Check of cells, of rows. -/
namespace Go.Proofs.YtcmgeccgahakbaaDoor
open Go Go.RowKit
attribute [local go_sem] yields yUpon

set_option maxHeartbeats 400000 in
theorem stamp7_any (v : Int) (w : World) : Calls Tryd.prog 140 #[.int .i64 v] w fun e w' => e = .returned (.bool (stampB v)) ∧ w = w' := by
  by_cases h : 0 ≤ v
  all_goals
    go_enter Tryd.func140, Tryd.ntmps140
    go_wp2
    go_ret
    exact ⟨by unfold stampB; simp [h] <;> omega, rfl⟩

set_option maxHeartbeats 2000000 in
theorem check6_any (v : ByteArray) (d : Bool) (a e : Int) (w : World) :
    Calls Tryd.prog 139 #[.agg #[.string v, .bool d, .int .i64 a, .int .i64 e]] w fun r w' =>
      r = .returned (.bool (checkC v d a e)) ∧ Ext w w' := by
  by_cases h1 : a < 0
  · have t1 : decide (a < 0) = true := by simpa using h1
    go_enter Tryd.func139, Tryd.ntmps139
    go_wp2
    go_ret
    exact ⟨ret_bool (by unfold checkC stampB; simp; omega), (Ext.refl w).alloc _⟩
  · have t1 : decide (a < 0) = false := by simpa using h1
    cases t2 : decide (1099511627776 < a)
    · cases t3 : (a == 0)
      · cases d
        · go_enter Tryd.func139, Tryd.ntmps139
          go_wp2
          all_goals
            go_ret
            refine ⟨ret_bool ?_, (Ext.refl w).alloc _⟩
            rw [Bool.eq_iff_iff]
            simp_all [checkC, stampB]
            try omega
        · cases t4 : (v.toList == []) <;> cases t5 : (e == 0)
          all_goals
            go_enter Tryd.func139, Tryd.ntmps139
            go_wp2
          all_goals
            go_ret
            refine ⟨ret_bool ?_, (Ext.refl w).alloc _⟩
            rw [Bool.eq_iff_iff]
            simp_all [checkC, stampB]
            try omega
      · cases t4 : (v.toList == []) <;> cases t5 : (e == 0) <;> cases d
        all_goals
          go_enter Tryd.func139, Tryd.ntmps139
          go_wp2
        all_goals
          go_ret
          refine ⟨ret_bool ?_, (Ext.refl w).alloc _⟩
          rw [Bool.eq_iff_iff]
          simp_all [checkC, stampB]
          try omega
    · go_enter Tryd.func139, Tryd.ntmps139
      go_wp2
      go_ret
      exact ⟨ret_bool (by unfold checkC stampB; simp at t2 ⊢; omega), (Ext.refl w).alloc _⟩

theorem less_leq : ∀ a b : List UInt8, (Op.bytesLess a b || a == b) = !Op.bytesLess b a
  | [], [] => rfl
  | [], b :: y => rfl
  | a :: x, [] => rfl
  | a :: x, b :: y => by
    have ih := less_leq x y
    unfold Op.bytesLess
    by_cases h : a = b
    · subst h
      simp [← ih]
    · by_cases h2 : a < b
      · have h3 : ¬ b < a := by
          rw [UInt8.lt_iff_toNat_lt] at *
          omega
        have h4 : ¬ b = a := fun e => h e.symm
        simp [h, h2, h3, h4]
      · have h3 : b < a := by
          rw [UInt8.lt_iff_toNat_lt] at *
          have h5 : a.toNat ≠ b.toNat := fun e => h (UInt8.toNat_inj.1 e)
          omega
        simp [h, h2, h3]
def orB : Option ByteArray → ByteArray → Bool
  | none, _ => true
  | some q, n => Op.bytesLess q.toList n.toList
/-- Columns that may be, behind a name. -/
def csB : Option ByteArray → List Co → Bool
  | _, [] => true
  | p, c :: l => nameB c.name && orB p c.name && checkC c.cell.val c.cell.dead c.cell.at_ c.cell.fin && decide (0 < c.cell.at_) && csB (some c.name) l
def prevM (l : List Co) : Nat → Option ByteArray
  | 0 => none
  | k + 1 => (l[k]?).map (·.name)
/-- A row's own cells may be. -/
def hdB (r : Ro) : Bool := !decide (400 < (r.key.size : Int)) && checkC r.live.val r.live.dead r.live.at_ r.live.fin && (r.live.val.toList == []) && !r.live.dead && stampB r.gone && stampB r.shade && !decide (8 < (r.cols.length : Int))
/-- A row that may be. -/
def rwB (r : Ro) : Bool := hdB r && csB none r.cols

set_option maxRecDepth 100000 in
set_option maxHeartbeats 4000000 in
theorem check7_bad (r : Ro) (v : Value) (w : World) (hin : ColsIn w v r.cols) (hb : hdB r = false) :
    Calls Tryd.prog 108 #[(.agg #[.string r.key, .string r.live.val, .bool r.live.dead, .int .i64 r.live.at_, .int .i64 r.live.fin, .int .i64 r.gone, .int .i64 r.shade, v])] w fun e w' => e = .returned (.bool false) ∧ Ext w w' := by
  obtain ⟨a, c, rfl, hc, hcm, hcell⟩ := hin.get
  clear hcell hin
  obtain ⟨key, ⟨val, dead, at_, fin⟩, gone, shade, cols⟩ := r
  have b0 : BoxAt (w.alloc (.cells (ro8 ⟨key, ⟨val, dead, at_, fin⟩, gone, shade, cols⟩ (.slice a cols.length c)) 91)) w.heap.size (ro8 ⟨key, ⟨val, dead, at_, fin⟩, gone, shade, cols⟩ (.slice a cols.length c)) 91 := BoxAt.made w _ _
  have hE0 : Ext w (w.alloc (.cells (ro8 ⟨key, ⟨val, dead, at_, fin⟩, gone, shade, cols⟩ (.slice a cols.length c)) 91)) := (Ext.refl w).alloc _
  obtain ⟨n, hn⟩ : ∃ n, n = cols.length := ⟨_, rfl⟩
  unfold hdB at hb
  dsimp only at hb hc ⊢
  rw [← hn] at hb hc b0 hE0 ⊢
  clear hn
  cases c1 : decide (400 < (key.size : Int))
  · cases c2 : checkC val dead at_ fin
    · clear hb
      go_enter Tryd.func108, Tryd.ntmps108
      go_wp2_with (first
        | (go_at_call 139; go_must (refine (check6_any _ _ _ _ _).mono ?_; rw [c2];rintro e w1 ⟨rfl, hE1⟩; replace hE0 := hE0.trans hE1; replace b0 := b0.ext hE1; obtain ⟨y0, y1, y2, y3, y4, y5, y6, y7⟩ := b0.ro))
        | (go_at_call 140; go_must (refine (stamp7_any _ _).mono ?_); rintro e w2 ⟨rfl, rfl⟩))
      go_ret
      exact ⟨rfl, by first | exact hE0 | exact Ext.refl _⟩
    · cases c3 : (val.toList == [])
      · clear hb
        go_enter Tryd.func108, Tryd.ntmps108
        go_wp2_with (first
          | (go_at_call 139; go_must (refine (check6_any _ _ _ _ _).mono ?_; rw [c2];rintro e w1 ⟨rfl, hE1⟩; replace hE0 := hE0.trans hE1; replace b0 := b0.ext hE1; obtain ⟨y0, y1, y2, y3, y4, y5, y6, y7⟩ := b0.ro))
          | (go_at_call 140; go_must (refine (stamp7_any _ _).mono ?_); rintro e w2 ⟨rfl, rfl⟩))
        go_ret
        exact ⟨rfl, by first | exact hE0 | exact Ext.refl _⟩
      · cases dead
        · cases c5 : stampB gone
          · clear hb
            go_enter Tryd.func108, Tryd.ntmps108
            go_wp2_with (first
              | (go_at_call 139; go_must (refine (check6_any _ _ _ _ _).mono ?_; rw [c2];rintro e w1 ⟨rfl, hE1⟩; replace hE0 := hE0.trans hE1; replace b0 := b0.ext hE1; obtain ⟨y0, y1, y2, y3, y4, y5, y6, y7⟩ := b0.ro))
              | (go_at_call 140; go_must (refine (stamp7_any _ _).mono ?_); rw [c5];rintro e w2 ⟨rfl, rfl⟩))
            go_ret
            exact ⟨rfl, by first | exact hE0 | exact Ext.refl _⟩
          · cases c6 : stampB shade
            · clear hb
              go_enter Tryd.func108, Tryd.ntmps108
              go_wp2_with (first
                | (go_at_call 139; go_must (refine (check6_any _ _ _ _ _).mono ?_; rw [c2];rintro e w1 ⟨rfl, hE1⟩; replace hE0 := hE0.trans hE1; replace b0 := b0.ext hE1; obtain ⟨y0, y1, y2, y3, y4, y5, y6, y7⟩ := b0.ro))
                | (go_at_call 140; go_must (refine (stamp7_any _ _).mono ?_); (first | rw [c5] | rw [c6]);rintro e w2 ⟨rfl, rfl⟩))
              go_ret
              exact ⟨rfl, by first | exact hE0 | exact Ext.refl _⟩
            · have c7 : decide (8 < (n : Int)) = true := by rw [c1, c2, c3, c5, c6] at hb; simpa using hb
              clear hb
              go_enter Tryd.func108, Tryd.ntmps108
              go_wp2_with (first
                | (go_at_call 139; go_must (refine (check6_any _ _ _ _ _).mono ?_; rw [c2];rintro e w1 ⟨rfl, hE1⟩; replace hE0 := hE0.trans hE1; replace b0 := b0.ext hE1; obtain ⟨y0, y1, y2, y3, y4, y5, y6, y7⟩ := b0.ro))
                | (go_at_call 140; go_must (refine (stamp7_any _ _).mono ?_); (first | rw [c5] | rw [c6]);rintro e w2 ⟨rfl, rfl⟩))
              go_ret
              exact ⟨rfl, by first | exact hE0 | exact Ext.refl _⟩
        · clear hb
          go_enter Tryd.func108, Tryd.ntmps108
          go_wp2_with (first
            | (go_at_call 139; go_must (refine (check6_any _ _ _ _ _).mono ?_; rw [c2];rintro e w1 ⟨rfl, hE1⟩; replace hE0 := hE0.trans hE1; replace b0 := b0.ext hE1; obtain ⟨y0, y1, y2, y3, y4, y5, y6, y7⟩ := b0.ro))
            | (go_at_call 140; go_must (refine (stamp7_any _ _).mono ?_); rintro e w2 ⟨rfl, rfl⟩))
          go_ret
          exact ⟨rfl, by first | exact hE0 | exact Ext.refl _⟩
  · clear hb
    go_enter Tryd.func108, Tryd.ntmps108
    go_wp2_with (first
      | (go_at_call 139; go_must (refine (check6_any _ _ _ _ _).mono ?_; rintro e w1 ⟨rfl, hE1⟩; replace hE0 := hE0.trans hE1; replace b0 := b0.ext hE1; obtain ⟨y0, y1, y2, y3, y4, y5, y6, y7⟩ := b0.ro))
      | (go_at_call 140; go_must (refine (stamp7_any _ _).mono ?_); rintro e w2 ⟨rfl, rfl⟩))
    go_ret
    exact ⟨rfl, by first | exact hE0 | exact Ext.refl _⟩
theorem hdB_parts {r : Ro} (h : hdB r = true) : decide (400 < (r.key.size : Int)) = false ∧ checkC r.live.val r.live.dead r.live.at_ r.live.fin = true ∧ (r.live.val.toList == []) = true ∧ r.live.dead = false ∧ stampB r.gone = true ∧ stampB r.shade = true ∧ decide (8 < (r.cols.length : Int)) = false := by
  unfold hdB at h
  simp only [Bool.and_eq_true, Bool.not_eq_true'] at h
  obtain ⟨⟨⟨⟨⟨⟨a, b⟩, c⟩, d⟩, e⟩, f⟩, g⟩ := h
  exact ⟨a, b, c, d, e, f, g⟩
theorem csB_cons (p : Option ByteArray) (M : Co) (R : List Co) : csB p (M :: R) = (nameB M.name && orB p M.name && checkC M.cell.val M.cell.dead M.cell.at_ M.cell.fin && decide (0 < M.cell.at_) && csB (some M.name) R) := rfl
theorem prevM_succ {l : List Co} {k : Nat} {M : Co} {R : List Co} (hd : l.drop k = M :: R) : prevM l (k + 1) = some M.name := by
  have hk : k < l.length := by
    rcases Nat.lt_or_ge k l.length with h | h
    · exact h
    · rw [List.drop_eq_nil_of_le h] at hd; cases hd
  have e : l[k] = M := by rw [List.drop_eq_getElem_cons hk] at hd; exact (List.cons.inj hd).1
  simp [prevM, hk, e]

set_option maxRecDepth 100000 in
set_option maxHeartbeats 8000000 in
theorem check7_good (r : Ro) (v : Value) (w : World) (hin : ColsIn w v r.cols) (hb : hdB r = true) (hlow : ∀ k (h : k < r.cols.length), (r.cols[k]'h).name.size ≤ 1000000) :
    Calls Tryd.prog 108 #[(.agg #[.string r.key, .string r.live.val, .bool r.live.dead, .int .i64 r.live.at_, .int .i64 r.live.fin, .int .i64 r.gone, .int .i64 r.shade, v])] w fun e w' => e = .returned (.bool (csB none r.cols)) ∧ Ext w w' := by
  obtain ⟨a, c, rfl, hc, hcm, hcell⟩ := hin.get
  obtain ⟨c1, c2, c3, c4, c5, c6, c7⟩ := hdB_parts hb
  clear hin hb
  obtain ⟨key, ⟨val, dead, at_, fin⟩, gone, shade, l⟩ := r
  dsimp only at hcell hc c1 c2 c3 c4 c5 c6 c7 hlow ⊢
  subst c4
  have HC := Lib.hid hcell
  have HLow := Lib.hid hlow
  clear hcell hlow
  have b0 : BoxAt (w.alloc (.cells (ro8 ⟨key, ⟨val, false, at_, fin⟩, gone, shade, l⟩ (.slice a l.length c)) 91)) w.heap.size (ro8 ⟨key, ⟨val, false, at_, fin⟩, gone, shade, l⟩ (.slice a l.length c)) 91 := BoxAt.made w _ _
  have hE0 : Ext w (w.alloc (.cells (ro8 ⟨key, ⟨val, false, at_, fin⟩, gone, shade, l⟩ (.slice a l.length c)) 91)) := (Ext.refl w).alloc _
  go_enter Tryd.func108, Tryd.ntmps108
  go_wp2_with (first
    | (go_at_call 139; go_must (refine (check6_any _ _ _ _ _).mono ?_; rw [c2]; rintro e w1 ⟨rfl, hE1⟩; replace hE0 := hE0.trans hE1; replace b0 := b0.ext hE1; obtain ⟨y0, y1, y2, y3, y4, y5, y6, y7⟩ := b0.ro))
    | (go_at_call 140; go_must (refine (stamp7_any _ _).mono ?_); (first | rw [c5] | rw [c6]); rintro e w2 ⟨rfl, rfl⟩))
  clear y0 y1 y2 y3 y4 y5 y6 y7 c1 c2 c3 c5 c6 c7
  obtain ⟨wz, rfl⟩ : ∃ w', w' = w1 := ⟨_, rfl⟩
  go_loopw [3] (fun i wr => ∃ k : Nat, k ≤ l.length ∧ i = .int .i64 k ∧ BoxAt wr w.heap.size (ro8 ⟨key, ⟨val, false, at_, fin⟩, gone, shade, l⟩ (.slice a l.length c)) 91 ∧ Ext w wr ∧ Hid (csB none l = csB (prevM l k) (l.drop k))) (fun i _ => l.length - (intOf i).toNat)
  case atStart => exact ⟨0, Nat.zero_le _, rfl, b0, hE0, rfl⟩
  case round =>
    clear b0 hE0
    obtain ⟨k, hk, rfl, hbox, hE, HX⟩ := hrel
    by_cases hlt : k < l.length
    · obtain ⟨b, o, rfl, hco⟩ := HC.out k hlt
      obtain ⟨M, hM⟩ : ∃ M, M = l[k] := ⟨_, rfl⟩
      have hML := HLow.out k hlt
      rw [← hM] at hco hML
      have hD : l.drop k = M :: l.drop (k + 1) := by rw [hM]; exact List.drop_eq_getElem_cons hlt
      clear hM
      have HN := Lib.hid (prevM_succ hD)
      have HD := Lib.hid (HX.out.trans ((congrArg (csB (prevM l k)) hD).trans (csB_cons _ _ _)))
      have HML := Lib.hid hML
      clear hD HX hML
      replace hco := hco.ext hE
      obtain ⟨g0, g1, g2, g3, g4⟩ := hco
      have y7 := hbox.allocs
      obtain ⟨_, _, _, _, _, _, _, z7⟩ := hbox.ro
      go_wp2_with fail
      refine wp_region_in 32 [(2, fun v _ => v = .bool (nameB M.name)), (23, fun v _ => v = .bool (checkC M.cell.val M.cell.dead M.cell.at_ M.cell.fin))] (fun w0 => BoxAt w0 wr.heap.size (co5 M) 154 ∧ BoxAt w0 w.heap.size (ro8 ⟨key, ⟨val, false, at_, fin⟩, gone, shade, l⟩ (.slice (some ⟨b, o, none⟩) l.length c)) 91 ∧ Ext w w0) (by kernel_rfl) (by kernel_rfl) (by kernel_rfl) ⟨stays_eq _, stays_eq _, trivial⟩ ?_ ?_
      · exact ⟨BoxAt.made _ _ _, hbox.ext ((Ext.refl _).alloc _), hE.alloc _⟩
      clear hbox hE g0 g1 g2 g3 g4 y7 z7
      rintro w2 ⟨b2, b0, hE⟩
      have FIN : Hid (∀ wx, Ext w2 wx → BoxAt wx w.heap.size (ro8 ⟨key, ⟨val, false, at_, fin⟩, gone, shade, l⟩ (.slice (some ⟨b, o, none⟩) l.length c)) 91 ∧ Ext w wx) := fun wx h => ⟨b0.ext h, hE.trans h⟩
      obtain ⟨x0, x1, x2, x3, x4⟩ := b2.co
      obtain ⟨_, _, _, _, _, _, _, y7⟩ := b0.ro
      clear b2 b0
      replace x0 := held x0
      replace x1 := held x1
      replace x2 := held x2
      replace x3 := held x3
      replace x4 := held x4
      replace y7 := held y7
      cases e0 : nameB M.name
      · have HQ : Hid (csB none l = false) := by show csB none l = false; rw [HD.out, e0]; simp
        refine rg_quiet rfl rfl rfl rfl ?_; intro K hK; go_big_quiet_op; go_big_quiet_on
        refine rg_quiet rfl rfl rfl rfl ?_; intro K hK; go_big_quiet_op; go_big_quiet_on
        refine rg_val [] rfl rfl rfl (by kernel_rfl) (fun w1 hE hf => ?_) ?_
        · go_simp
          exact (rname_any _ HML.out w1).mono fun e w' ⟨he, hw⟩ => ⟨_, he, rg_done hE hw (bool_congr e0)⟩
        simp only [Act.put, List.setIfInBounds_toArray, List.set_cons_zero, List.set_cons_succ]
        refine rg_quiet rfl rfl rfl rfl ?_; intro K hK; go_big_quiet_op; go_big_quiet_on
        refine rg_quiet rfl rfl rfl rfl ?_; intro K hK; go_big_quiet_op; go_big_quiet_on
        refine rel_skip rfl rfl ?_
        simp only [Act.put, List.setIfInBounds_toArray, List.set_cons_zero, List.set_cons_succ]
        refine rel_skip rfl rfl ?_
        simp only [Act.put, List.setIfInBounds_toArray, List.set_cons_zero, List.set_cons_succ]
        refine rel_skip rfl rfl ?_
        simp only [Act.put, List.setIfInBounds_toArray, List.set_cons_zero, List.set_cons_succ]
        refine rel_skip rfl rfl ?_
        simp only [Act.put, List.setIfInBounds_toArray, List.set_cons_zero, List.set_cons_succ]
        refine rel_skip rfl rfl ?_
        simp only [Act.put, List.setIfInBounds_toArray, List.set_cons_zero, List.set_cons_succ]
        refine rel_skip rfl rfl ?_
        simp only [Act.put, List.setIfInBounds_toArray, List.set_cons_zero, List.set_cons_succ]
        refine rel_skip rfl rfl ?_
        simp only [Act.put, List.setIfInBounds_toArray, List.set_cons_zero, List.set_cons_succ]
        refine rel_skip rfl rfl ?_
        simp only [Act.put, List.setIfInBounds_toArray, List.set_cons_zero, List.set_cons_succ]
        refine rel_skip rfl rfl ?_
        simp only [Act.put, List.setIfInBounds_toArray, List.set_cons_zero, List.set_cons_succ]
        refine rel_skip rfl rfl ?_
        simp only [Act.put, List.setIfInBounds_toArray, List.set_cons_zero, List.set_cons_succ]
        refine rel_skip rfl rfl ?_
        simp only [Act.put, List.setIfInBounds_toArray, List.set_cons_zero, List.set_cons_succ]
        refine rel_skip rfl rfl ?_
        simp only [Act.put, List.setIfInBounds_toArray, List.set_cons_zero, List.set_cons_succ]
        refine rel_skip rfl rfl ?_
        simp only [Act.put, List.setIfInBounds_toArray, List.set_cons_zero, List.set_cons_succ]
        refine rel_skip rfl rfl ?_
        simp only [Act.put, List.setIfInBounds_toArray, List.set_cons_zero, List.set_cons_succ]
        refine rg_quiet rfl rfl rfl rfl ?_; intro K hK; go_big_quiet_op; go_big_quiet_on
        refine rg_quiet rfl rfl rfl rfl ?_; intro K hK; go_big_quiet_op; go_big_quiet_on
        refine rel_skip rfl rfl ?_
        simp only [Act.put, List.setIfInBounds_toArray, List.set_cons_zero, List.set_cons_succ]
        refine rel_skip rfl rfl ?_
        simp only [Act.put, List.setIfInBounds_toArray, List.set_cons_zero, List.set_cons_succ]
        refine rel_skip rfl rfl ?_
        simp only [Act.put, List.setIfInBounds_toArray, List.set_cons_zero, List.set_cons_succ]
        refine rel_skip rfl rfl ?_
        simp only [Act.put, List.setIfInBounds_toArray, List.set_cons_zero, List.set_cons_succ]
        refine rg_quiet rfl rfl rfl rfl ?_; intro K hK; go_big_quiet_op; go_big_quiet_on
        refine rg_quiet rfl rfl rfl rfl ?_; intro K hK; go_big_quiet_op; go_big_quiet_on
        refine rel_skip rfl rfl ?_
        simp only [Act.put, List.setIfInBounds_toArray, List.set_cons_zero, List.set_cons_succ]
        refine rel_skip rfl rfl ?_
        simp only [Act.put, List.setIfInBounds_toArray, List.set_cons_zero, List.set_cons_succ]
        refine rel_skip rfl rfl ?_
        simp only [Act.put, List.setIfInBounds_toArray, List.set_cons_zero, List.set_cons_succ]
        refine rel_skip rfl rfl ?_
        simp only [Act.put, List.setIfInBounds_toArray, List.set_cons_zero, List.set_cons_succ]
        refine rg_quiet rfl rfl rfl rfl ?_; intro K hK; go_big_quiet_op; go_big_quiet_on
        refine rel_nil fun w5 hE5 _ => ?_
        obtain ⟨b0, hE⟩ := FIN.out w5 hE5
        clear x0 x1 x2 x3 x4 y7 hE5 FIN e0
        go_wp2_with fail
        go_ret
        exact ⟨ret_bool HQ.out.symm, hE⟩
      · cases k with
        | zero =>
          have ho : Hid (orB (prevM l 0) M.name = true) := rfl
          refine rg_quiet rfl rfl rfl rfl ?_; intro K hK; go_big_quiet_op; go_big_quiet_on
          refine rg_quiet rfl rfl rfl rfl ?_; intro K hK; go_big_quiet_op; go_big_quiet_on
          refine rg_val [] rfl rfl rfl (by kernel_rfl) (fun w1 hE hf => ?_) ?_
          · go_simp
            exact (rname_any _ HML.out w1).mono fun e w' ⟨he, hw⟩ => ⟨_, he, rg_done hE hw (bool_congr e0)⟩
          simp only [Act.put, List.setIfInBounds_toArray, List.set_cons_zero, List.set_cons_succ]
          refine rg_quiet rfl rfl rfl rfl ?_; intro K hK; go_big_quiet_op; go_big_quiet_on
          refine rg_quiet rfl rfl rfl rfl ?_; intro K hK; go_big_quiet_op; go_big_quiet_on
          refine rg_quiet rfl rfl rfl rfl ?_; intro K hK; go_big_quiet_op; go_big_quiet_on
          refine rg_quiet rfl rfl rfl rfl ?_; intro K hK; go_big_quiet_op; go_big_quiet_on
          refine rg_quiet rfl rfl rfl rfl ?_; intro K hK; go_big_quiet_op; go_big_quiet_on
          refine rel_skip rfl rfl ?_
          simp only [Act.put, List.setIfInBounds_toArray, List.set_cons_zero, List.set_cons_succ]
          refine rel_skip rfl rfl ?_
          simp only [Act.put, List.setIfInBounds_toArray, List.set_cons_zero, List.set_cons_succ]
          refine rel_skip rfl rfl ?_
          simp only [Act.put, List.setIfInBounds_toArray, List.set_cons_zero, List.set_cons_succ]
          refine rel_skip rfl rfl ?_
          simp only [Act.put, List.setIfInBounds_toArray, List.set_cons_zero, List.set_cons_succ]
          refine rel_skip rfl rfl ?_
          simp only [Act.put, List.setIfInBounds_toArray, List.set_cons_zero, List.set_cons_succ]
          refine rel_skip rfl rfl ?_
          simp only [Act.put, List.setIfInBounds_toArray, List.set_cons_zero, List.set_cons_succ]
          refine rel_skip rfl rfl ?_
          simp only [Act.put, List.setIfInBounds_toArray, List.set_cons_zero, List.set_cons_succ]
          refine rel_skip rfl rfl ?_
          simp only [Act.put, List.setIfInBounds_toArray, List.set_cons_zero, List.set_cons_succ]
          refine rel_skip rfl rfl ?_
          simp only [Act.put, List.setIfInBounds_toArray, List.set_cons_zero, List.set_cons_succ]
          refine rel_skip rfl rfl ?_
          simp only [Act.put, List.setIfInBounds_toArray, List.set_cons_zero, List.set_cons_succ]
          refine rg_quiet rfl rfl rfl rfl ?_; intro K hK; go_big_quiet_op; go_big_quiet_on
          refine rg_quiet rfl rfl rfl rfl ?_; intro K hK; go_big_quiet_op; go_big_quiet_on
          refine rg_quiet rfl rfl rfl rfl ?_; intro K hK; go_big_quiet_op; go_big_quiet_on
          cases e2 : checkC M.cell.val M.cell.dead M.cell.at_ M.cell.fin
          · have HQ : Hid (csB none l = false) := by show csB none l = false; rw [HD.out, e0, ho.out, e2]; simp
            refine rg_quiet rfl rfl rfl rfl ?_; intro K hK; go_big_quiet_op; go_big_quiet_on
            refine rg_quiet rfl rfl rfl rfl ?_; intro K hK; go_big_quiet_op; go_big_quiet_on
            refine rg_val [] rfl rfl rfl (by kernel_rfl) (fun w1 hE hf => ?_) ?_
            · go_simp
              exact (check6_any _ _ _ _ w1).mono fun e w' ⟨he, hw⟩ => ⟨_, he, rg_done hE hw (bool_congr e2)⟩
            simp only [Act.put, List.setIfInBounds_toArray, List.set_cons_zero, List.set_cons_succ]
            refine rg_quiet rfl rfl rfl rfl ?_; intro K hK; go_big_quiet_op; go_big_quiet_on
            refine rg_quiet rfl rfl rfl rfl ?_; intro K hK; go_big_quiet_op; go_big_quiet_on
            refine rg_quiet rfl rfl rfl rfl ?_; intro K hK; go_big_quiet_op; go_big_quiet_on
            refine rel_skip rfl rfl ?_
            simp only [Act.put, List.setIfInBounds_toArray, List.set_cons_zero, List.set_cons_succ]
            refine rel_skip rfl rfl ?_
            simp only [Act.put, List.setIfInBounds_toArray, List.set_cons_zero, List.set_cons_succ]
            refine rel_skip rfl rfl ?_
            simp only [Act.put, List.setIfInBounds_toArray, List.set_cons_zero, List.set_cons_succ]
            refine rel_skip rfl rfl ?_
            simp only [Act.put, List.setIfInBounds_toArray, List.set_cons_zero, List.set_cons_succ]
            refine rg_quiet rfl rfl rfl rfl ?_; intro K hK; go_big_quiet_op; go_big_quiet_on
            refine rel_nil fun w5 hE5 _ => ?_
            obtain ⟨b0, hE⟩ := FIN.out w5 hE5
            clear x0 x1 x2 x3 x4 y7 hE5 FIN e0 e2 
            go_wp2_with fail
            go_ret
            exact ⟨ret_bool HQ.out.symm, hE⟩
          · cases e3 : decide (0 < M.cell.at_)
            · have e4 : decide (M.cell.at_ < 1) = true := by simp at e3 ⊢ <;> omega
              have HQ : Hid (csB none l = false) := by show csB none l = false; rw [HD.out, e0, ho.out, e2, e3]; simp
              refine rg_quiet rfl rfl rfl rfl ?_; intro K hK; go_big_quiet_op; go_big_quiet_on
              refine rg_quiet rfl rfl rfl rfl ?_; intro K hK; go_big_quiet_op; go_big_quiet_on
              refine rg_val [] rfl rfl rfl (by kernel_rfl) (fun w1 hE hf => ?_) ?_
              · go_simp
                exact (check6_any _ _ _ _ w1).mono fun e w' ⟨he, hw⟩ => ⟨_, he, rg_done hE hw (bool_congr e2)⟩
              simp only [Act.put, List.setIfInBounds_toArray, List.set_cons_zero, List.set_cons_succ]
              refine rg_quiet rfl rfl rfl rfl ?_; intro K hK; go_big_quiet_op; go_big_quiet_on
              refine rg_quiet rfl rfl rfl rfl ?_; intro K hK; go_big_quiet_op; go_big_quiet_on
              refine rg_quiet rfl rfl rfl rfl ?_; intro K hK; go_big_quiet_op; go_big_quiet_on
              refine rg_quiet rfl rfl rfl rfl ?_; intro K hK; go_big_quiet_op; go_big_quiet_on
              refine rg_quiet rfl rfl rfl rfl ?_; intro K hK; go_big_quiet_op; go_big_quiet_on
              refine rg_quiet rfl rfl rfl rfl ?_; intro K hK; go_big_quiet_op; go_big_quiet_on
              refine rg_quiet rfl rfl rfl rfl ?_; intro K hK; go_big_quiet_op; go_big_quiet_on
              refine rg_quiet rfl rfl rfl rfl ?_; intro K hK; go_big_quiet_op; go_big_quiet_on
              refine rel_nil fun w5 hE5 _ => ?_
              obtain ⟨b0, hE⟩ := FIN.out w5 hE5
              clear x0 x1 x2 x3 x4 y7 hE5 FIN e0 e2 e3 
              go_wp2_with fail
              go_ret
              exact ⟨ret_bool HQ.out.symm, hE⟩
            · have e4 : decide (M.cell.at_ < 1) = false := by simp at e3 ⊢ <;> omega
              have HQ : Hid (csB none l = csB (prevM l (0 + 1)) (l.drop (0 + 1))) := by show csB none l = _; rw [HD.out, e0, ho.out, e2, e3, HN.out]; rfl
              refine rg_quiet rfl rfl rfl rfl ?_; intro K hK; go_big_quiet_op; go_big_quiet_on
              refine rg_quiet rfl rfl rfl rfl ?_; intro K hK; go_big_quiet_op; go_big_quiet_on
              refine rg_val [] rfl rfl rfl (by kernel_rfl) (fun w1 hE hf => ?_) ?_
              · go_simp
                exact (check6_any _ _ _ _ w1).mono fun e w' ⟨he, hw⟩ => ⟨_, he, rg_done hE hw (bool_congr e2)⟩
              simp only [Act.put, List.setIfInBounds_toArray, List.set_cons_zero, List.set_cons_succ]
              refine rg_quiet rfl rfl rfl rfl ?_; intro K hK; go_big_quiet_op; go_big_quiet_on
              refine rg_quiet rfl rfl rfl rfl ?_; intro K hK; go_big_quiet_op; go_big_quiet_on
              refine rg_quiet rfl rfl rfl rfl ?_; intro K hK; go_big_quiet_op; go_big_quiet_on
              refine rg_quiet rfl rfl rfl rfl ?_; intro K hK; go_big_quiet_op; go_big_quiet_on
              refine rg_quiet rfl rfl rfl rfl ?_; intro K hK; go_big_quiet_op; go_big_quiet_on
              refine rg_quiet rfl rfl rfl rfl ?_; intro K hK; go_big_quiet_op; go_big_quiet_on
              refine rg_quiet rfl rfl rfl rfl ?_; intro K hK; go_big_quiet_op; go_big_quiet_on
              refine rg_quiet rfl rfl rfl rfl ?_; intro K hK; go_big_quiet_op; go_big_quiet_on
              refine rel_nil fun w5 hE5 _ => ?_
              obtain ⟨b0, hE⟩ := FIN.out w5 hE5
              clear x0 x1 x2 x3 x4 y7 hE5 FIN e0 e2 e3 
              go_wp2_with fail
              go_roundw
              case rel => exact ⟨0 + 1, by omega, by go_num, b0, hE, HQ.out⟩
              case measure => simp [intOf] <;> omega
        | succ j =>
          have hj : j < l.length := by omega
          obtain ⟨b', o', e', hp⟩ := HC.out j hj
          cases e'
          replace hp := held (hE.cell hp.c0)
          obtain ⟨Pn, hPn⟩ : ∃ Pn, Pn = l[j].name := ⟨_, rfl⟩
          rw [← hPn] at hp
          have HO : Hid (orB (prevM l (j + 1)) M.name = Op.bytesLess Pn.toList M.name.toList) := by show orB (prevM l (j + 1)) M.name = _; simp [prevM, hj, orB, hPn]
          clear hPn
          have hw : IntKind.i64.wrap ((j : Int) + 1 - 1) = (j : Int) := by rw [IntKind.wrap_i64]; omega
          have hjl : decide ((j : Int) < (l.length : Int)) = true := by simpa using hj
          have hj0 : decide ((0 : Int) < (j : Int) + 1) = true := decide_eq_true (by omega)
          have hle := less_leq M.name.toList Pn.toList
          cases eo : Op.bytesLess Pn.toList M.name.toList
          all_goals rw [eo] at hle
          · have ho : Hid (orB (prevM l (j + 1)) M.name = false) := HO.out.trans eo
            have HQ : Hid (csB none l = false) := by show csB none l = false; rw [HD.out, e0, ho.out]; simp
            refine rg_quiet rfl rfl rfl rfl ?_; intro K hK; go_big_quiet_op; go_big_quiet_on
            refine rg_quiet rfl rfl rfl rfl ?_; intro K hK; go_big_quiet_op; go_big_quiet_on
            refine rg_val [] rfl rfl rfl (by kernel_rfl) (fun w1 hE hf => ?_) ?_
            · go_simp
              exact (rname_any _ HML.out w1).mono fun e w' ⟨he, hw⟩ => ⟨_, he, rg_done hE hw (bool_congr e0)⟩
            simp only [Act.put, List.setIfInBounds_toArray, List.set_cons_zero, List.set_cons_succ]
            refine rg_quiet rfl rfl rfl rfl ?_; intro K hK; go_big_quiet_op; go_big_quiet_on
            refine rg_quiet rfl rfl rfl rfl ?_; intro K hK; go_big_quiet_op; go_big_quiet_on
            refine rg_quiet rfl rfl rfl rfl ?_; intro K hK; go_big_quiet_op; go_big_quiet_on
            refine rg_quiet rfl rfl rfl rfl ?_; intro K hK; go_big_quiet_op; go_big_quiet_on
            refine rg_quiet rfl rfl rfl rfl ?_; intro K hK; go_big_quiet_op; go_big_quiet_on
            refine rg_quiet rfl rfl rfl rfl ?_; intro K hK; go_big_quiet_op; go_big_quiet_on
            refine rg_quiet rfl rfl rfl rfl ?_; intro K hK; go_big_quiet_op; go_big_quiet_on
            refine rg_quiet rfl rfl rfl rfl ?_; intro K hK; go_big_quiet_op; go_big_quiet_on
            refine rg_quiet rfl rfl rfl rfl ?_; intro K hK; go_big_quiet_op; go_big_quiet_on
            refine rg_quiet rfl rfl rfl rfl ?_; intro K hK; go_big_quiet_op; go_big_quiet_on
            refine rg_quiet rfl rfl rfl rfl ?_; intro K hK; go_big_quiet_op; go_big_quiet_on
            refine rg_quiet rfl rfl rfl rfl ?_; intro K hK; go_big_quiet_op; go_big_quiet_on
            refine rg_quiet rfl rfl rfl rfl ?_; intro K hK; go_big_quiet_op; go_big_quiet_on
            refine rg_quiet rfl rfl rfl rfl ?_; intro K hK; go_big_quiet_op; go_big_quiet_on
            refine rg_quiet rfl rfl rfl rfl ?_; intro K hK; go_big_quiet_op; go_big_quiet_on
            refine rg_quiet rfl rfl rfl rfl ?_; intro K hK; go_big_quiet_op; go_big_quiet_on
            refine rg_quiet rfl rfl rfl rfl ?_; intro K hK; go_big_quiet_op; go_big_quiet_on
            refine rg_quiet rfl rfl rfl rfl ?_; intro K hK; go_big_quiet_op; go_big_quiet_on
            refine rel_skip rfl rfl ?_
            simp only [Act.put, List.setIfInBounds_toArray, List.set_cons_zero, List.set_cons_succ]
            refine rel_skip rfl rfl ?_
            simp only [Act.put, List.setIfInBounds_toArray, List.set_cons_zero, List.set_cons_succ]
            refine rel_skip rfl rfl ?_
            simp only [Act.put, List.setIfInBounds_toArray, List.set_cons_zero, List.set_cons_succ]
            refine rel_skip rfl rfl ?_
            simp only [Act.put, List.setIfInBounds_toArray, List.set_cons_zero, List.set_cons_succ]
            refine rg_quiet rfl rfl rfl rfl ?_; intro K hK; go_big_quiet_op; go_big_quiet_on
            refine rg_quiet rfl rfl rfl rfl ?_; intro K hK; go_big_quiet_op; go_big_quiet_on
            refine rel_skip rfl rfl ?_
            simp only [Act.put, List.setIfInBounds_toArray, List.set_cons_zero, List.set_cons_succ]
            refine rel_skip rfl rfl ?_
            simp only [Act.put, List.setIfInBounds_toArray, List.set_cons_zero, List.set_cons_succ]
            refine rel_skip rfl rfl ?_
            simp only [Act.put, List.setIfInBounds_toArray, List.set_cons_zero, List.set_cons_succ]
            refine rel_skip rfl rfl ?_
            simp only [Act.put, List.setIfInBounds_toArray, List.set_cons_zero, List.set_cons_succ]
            refine rg_quiet rfl rfl rfl rfl ?_; intro K hK; go_big_quiet_op; go_big_quiet_on
            refine rel_nil fun w5 hE5 _ => ?_
            obtain ⟨b0, hE⟩ := FIN.out w5 hE5
            clear x0 x1 x2 x3 x4 y7 hE5 FIN e0 eo hp hle
            go_wp2_with fail
            go_ret
            exact ⟨ret_bool HQ.out.symm, hE⟩
          · have ho : Hid (orB (prevM l (j + 1)) M.name = true) := HO.out.trans eo
            refine rg_quiet rfl rfl rfl rfl ?_; intro K hK; go_big_quiet_op; go_big_quiet_on
            refine rg_quiet rfl rfl rfl rfl ?_; intro K hK; go_big_quiet_op; go_big_quiet_on
            refine rg_val [] rfl rfl rfl (by kernel_rfl) (fun w1 hE hf => ?_) ?_
            · go_simp
              exact (rname_any _ HML.out w1).mono fun e w' ⟨he, hw⟩ => ⟨_, he, rg_done hE hw (bool_congr e0)⟩
            simp only [Act.put, List.setIfInBounds_toArray, List.set_cons_zero, List.set_cons_succ]
            refine rg_quiet rfl rfl rfl rfl ?_; intro K hK; go_big_quiet_op; go_big_quiet_on
            refine rg_quiet rfl rfl rfl rfl ?_; intro K hK; go_big_quiet_op; go_big_quiet_on
            refine rg_quiet rfl rfl rfl rfl ?_; intro K hK; go_big_quiet_op; go_big_quiet_on
            refine rg_quiet rfl rfl rfl rfl ?_; intro K hK; go_big_quiet_op; go_big_quiet_on
            refine rg_quiet rfl rfl rfl rfl ?_; intro K hK; go_big_quiet_op; go_big_quiet_on
            refine rg_quiet rfl rfl rfl rfl ?_; intro K hK; go_big_quiet_op; go_big_quiet_on
            refine rg_quiet rfl rfl rfl rfl ?_; intro K hK; go_big_quiet_op; go_big_quiet_on
            refine rg_quiet rfl rfl rfl rfl ?_; intro K hK; go_big_quiet_op; go_big_quiet_on
            refine rg_quiet rfl rfl rfl rfl ?_; intro K hK; go_big_quiet_op; go_big_quiet_on
            refine rg_quiet rfl rfl rfl rfl ?_; intro K hK; go_big_quiet_op; go_big_quiet_on
            refine rg_quiet rfl rfl rfl rfl ?_; intro K hK; go_big_quiet_op; go_big_quiet_on
            refine rg_quiet rfl rfl rfl rfl ?_; intro K hK; go_big_quiet_op; go_big_quiet_on
            refine rg_quiet rfl rfl rfl rfl ?_; intro K hK; go_big_quiet_op; go_big_quiet_on
            refine rg_quiet rfl rfl rfl rfl ?_; intro K hK; go_big_quiet_op; go_big_quiet_on
            refine rg_quiet rfl rfl rfl rfl ?_; intro K hK; go_big_quiet_op; go_big_quiet_on
            refine rg_quiet rfl rfl rfl rfl ?_; intro K hK; go_big_quiet_op; go_big_quiet_on
            refine rg_quiet rfl rfl rfl rfl ?_; intro K hK; go_big_quiet_op; go_big_quiet_on
            refine rg_quiet rfl rfl rfl rfl ?_; intro K hK; go_big_quiet_op; go_big_quiet_on
            cases e2 : checkC M.cell.val M.cell.dead M.cell.at_ M.cell.fin
            · have HQ : Hid (csB none l = false) := by show csB none l = false; rw [HD.out, e0, ho.out, e2]; simp
              refine rg_quiet rfl rfl rfl rfl ?_; intro K hK; go_big_quiet_op; go_big_quiet_on
              refine rg_quiet rfl rfl rfl rfl ?_; intro K hK; go_big_quiet_op; go_big_quiet_on
              refine rg_val [] rfl rfl rfl (by kernel_rfl) (fun w1 hE hf => ?_) ?_
              · go_simp
                exact (check6_any _ _ _ _ w1).mono fun e w' ⟨he, hw⟩ => ⟨_, he, rg_done hE hw (bool_congr e2)⟩
              simp only [Act.put, List.setIfInBounds_toArray, List.set_cons_zero, List.set_cons_succ]
              refine rg_quiet rfl rfl rfl rfl ?_; intro K hK; go_big_quiet_op; go_big_quiet_on
              refine rg_quiet rfl rfl rfl rfl ?_; intro K hK; go_big_quiet_op; go_big_quiet_on
              refine rg_quiet rfl rfl rfl rfl ?_; intro K hK; go_big_quiet_op; go_big_quiet_on
              refine rel_skip rfl rfl ?_
              simp only [Act.put, List.setIfInBounds_toArray, List.set_cons_zero, List.set_cons_succ]
              refine rel_skip rfl rfl ?_
              simp only [Act.put, List.setIfInBounds_toArray, List.set_cons_zero, List.set_cons_succ]
              refine rel_skip rfl rfl ?_
              simp only [Act.put, List.setIfInBounds_toArray, List.set_cons_zero, List.set_cons_succ]
              refine rel_skip rfl rfl ?_
              simp only [Act.put, List.setIfInBounds_toArray, List.set_cons_zero, List.set_cons_succ]
              refine rg_quiet rfl rfl rfl rfl ?_; intro K hK; go_big_quiet_op; go_big_quiet_on
              refine rel_nil fun w5 hE5 _ => ?_
              obtain ⟨b0, hE⟩ := FIN.out w5 hE5
              clear x0 x1 x2 x3 x4 y7 hE5 FIN e0 e2 eo hp hle
              go_wp2_with fail
              go_ret
              exact ⟨ret_bool HQ.out.symm, hE⟩
            · cases e3 : decide (0 < M.cell.at_)
              · have e4 : decide (M.cell.at_ < 1) = true := by simp at e3 ⊢ <;> omega
                have HQ : Hid (csB none l = false) := by show csB none l = false; rw [HD.out, e0, ho.out, e2, e3]; simp
                refine rg_quiet rfl rfl rfl rfl ?_; intro K hK; go_big_quiet_op; go_big_quiet_on
                refine rg_quiet rfl rfl rfl rfl ?_; intro K hK; go_big_quiet_op; go_big_quiet_on
                refine rg_val [] rfl rfl rfl (by kernel_rfl) (fun w1 hE hf => ?_) ?_
                · go_simp
                  exact (check6_any _ _ _ _ w1).mono fun e w' ⟨he, hw⟩ => ⟨_, he, rg_done hE hw (bool_congr e2)⟩
                simp only [Act.put, List.setIfInBounds_toArray, List.set_cons_zero, List.set_cons_succ]
                refine rg_quiet rfl rfl rfl rfl ?_; intro K hK; go_big_quiet_op; go_big_quiet_on
                refine rg_quiet rfl rfl rfl rfl ?_; intro K hK; go_big_quiet_op; go_big_quiet_on
                refine rg_quiet rfl rfl rfl rfl ?_; intro K hK; go_big_quiet_op; go_big_quiet_on
                refine rg_quiet rfl rfl rfl rfl ?_; intro K hK; go_big_quiet_op; go_big_quiet_on
                refine rg_quiet rfl rfl rfl rfl ?_; intro K hK; go_big_quiet_op; go_big_quiet_on
                refine rg_quiet rfl rfl rfl rfl ?_; intro K hK; go_big_quiet_op; go_big_quiet_on
                refine rg_quiet rfl rfl rfl rfl ?_; intro K hK; go_big_quiet_op; go_big_quiet_on
                refine rg_quiet rfl rfl rfl rfl ?_; intro K hK; go_big_quiet_op; go_big_quiet_on
                refine rel_nil fun w5 hE5 _ => ?_
                obtain ⟨b0, hE⟩ := FIN.out w5 hE5
                clear x0 x1 x2 x3 x4 y7 hE5 FIN e0 e2 e3 eo hp hle
                go_wp2_with fail
                go_ret
                exact ⟨ret_bool HQ.out.symm, hE⟩
              · have e4 : decide (M.cell.at_ < 1) = false := by simp at e3 ⊢ <;> omega
                have HQ : Hid (csB none l = csB (prevM l ((j + 1) + 1)) (l.drop ((j + 1) + 1))) := by show csB none l = _; rw [HD.out, e0, ho.out, e2, e3, HN.out]; rfl
                refine rg_quiet rfl rfl rfl rfl ?_; intro K hK; go_big_quiet_op; go_big_quiet_on
                refine rg_quiet rfl rfl rfl rfl ?_; intro K hK; go_big_quiet_op; go_big_quiet_on
                refine rg_val [] rfl rfl rfl (by kernel_rfl) (fun w1 hE hf => ?_) ?_
                · go_simp
                  exact (check6_any _ _ _ _ w1).mono fun e w' ⟨he, hw⟩ => ⟨_, he, rg_done hE hw (bool_congr e2)⟩
                simp only [Act.put, List.setIfInBounds_toArray, List.set_cons_zero, List.set_cons_succ]
                refine rg_quiet rfl rfl rfl rfl ?_; intro K hK; go_big_quiet_op; go_big_quiet_on
                refine rg_quiet rfl rfl rfl rfl ?_; intro K hK; go_big_quiet_op; go_big_quiet_on
                refine rg_quiet rfl rfl rfl rfl ?_; intro K hK; go_big_quiet_op; go_big_quiet_on
                refine rg_quiet rfl rfl rfl rfl ?_; intro K hK; go_big_quiet_op; go_big_quiet_on
                refine rg_quiet rfl rfl rfl rfl ?_; intro K hK; go_big_quiet_op; go_big_quiet_on
                refine rg_quiet rfl rfl rfl rfl ?_; intro K hK; go_big_quiet_op; go_big_quiet_on
                refine rg_quiet rfl rfl rfl rfl ?_; intro K hK; go_big_quiet_op; go_big_quiet_on
                refine rg_quiet rfl rfl rfl rfl ?_; intro K hK; go_big_quiet_op; go_big_quiet_on
                refine rel_nil fun w5 hE5 _ => ?_
                obtain ⟨b0, hE⟩ := FIN.out w5 hE5
                clear x0 x1 x2 x3 x4 y7 hE5 FIN e0 e2 e3 eo hp hle
                go_wp2_with fail
                go_roundw
                case rel => exact ⟨(j + 1) + 1, by omega, by go_num, b0, hE, HQ.out⟩
                case measure => simp [intOf] <;> omega
    · obtain rfl : k = l.length := by omega
      obtain ⟨_, _, _, _, _, _, _, z7⟩ := hbox.ro
      have HQ : Hid (csB none l = true) := by show csB none l = true; rw [HX.out, List.drop_length]; rfl
      go_wp2_with fail
      go_ret
      exact ⟨ret_bool HQ.out.symm, hE⟩
theorem check7_any (r : Ro) (v : Value) (w : World) (hin : ColsIn w v r.cols) (hlow : ∀ c ∈ r.cols, c.name.size ≤ 1000000) :
    Calls Tryd.prog 108 #[(.agg #[.string r.key, .string r.live.val, .bool r.live.dead, .int .i64 r.live.at_, .int .i64 r.live.fin, .int .i64 r.gone, .int .i64 r.shade, v])] w fun e w' => e = .returned (.bool (rwB r)) ∧ Ext w w' := by
  cases hb : hdB r
  · have e : rwB r = false := by unfold rwB; rw [hb]; rfl
    rw [e]
    exact check7_bad r v w hin hb
  · have e : rwB r = csB none r.cols := by unfold rwB; rw [hb]; rfl
    rw [e]
    exact check7_good r v w hin hb fun k h => hlow _ (List.getElem_mem h)
end Go.Proofs.YtcmgeccgahakbaaDoor

/- row.Check of any row. -/
namespace Go.Proofs.YtcmgeccgahakbaaDoor
open Go Go.RowKit
attribute [local go_sem] yields yUpon

set_option maxRecDepth 100000 in
set_option maxHeartbeats 8000000 in
theorem rcheck_gen0 (r : Ro) (v : Value) (w : World) (hin : ColsIn w v r.cols) (hb : headB r = true) (hlow : ∀ k (h : k < r.cols.length), (r.cols[k]'h).name.size ≤ 1000000) (hT : TabU w) :
    Calls Tryd.prog 109 #[(.agg #[.string r.key, .string r.live.val, .bool r.live.dead, .int .i64 r.live.at_, .int .i64 r.live.fin, .int .i64 r.gone, .int .i64 r.shade, v])] w fun e w' => e = .returned (.bool (csB none r.cols)) ∧ Ext w w' := by
  obtain ⟨a, c, rfl, hc, hcm, hcell⟩ := hin.get
  obtain ⟨c1, c2, c3, c4, c5, c6, c7⟩ := headB_parts hb
  clear hin hb
  obtain ⟨key, ⟨val, dead, at_, fin⟩, gone, shade, l⟩ := r
  dsimp only at hcell hc c1 c2 c3 c4 c5 c6 c7 hlow ⊢
  subst c4
  have HC := Lib.hid hcell
  have HLow := Lib.hid hlow
  clear hcell hlow
  have b0 : BoxAt (w.alloc (.cells (ro8 ⟨key, ⟨val, false, at_, fin⟩, gone, shade, l⟩ (.slice a l.length c)) 91)) w.heap.size (ro8 ⟨key, ⟨val, false, at_, fin⟩, gone, shade, l⟩ (.slice a l.length c)) 91 := BoxAt.made w _ _
  have hE0 : Ext w (w.alloc (.cells (ro8 ⟨key, ⟨val, false, at_, fin⟩, gone, shade, l⟩ (.slice a l.length c)) 91)) := (Ext.refl w).alloc _
  go_enter Tryd.func109, Tryd.ntmps109
  go_wp2_with (first
    | (go_at_call 141; go_must (refine (check_any _ _ _ _ _).mono ?_; rw [c2]; rintro e w1 ⟨rfl, hE1⟩; replace hE0 := hE0.trans hE1; replace b0 := b0.ext hE1; obtain ⟨y0, y1, y2, y3, y4, y5, y6, y7⟩ := b0.ro))
    | (go_at_call 142; go_must (refine (rstamp_any _ _).mono ?_); (first | rw [c5] | rw [c6]); rintro e w2 ⟨rfl, rfl⟩))
  clear y0 y1 y2 y3 y4 y5 y6 y7 c1 c2 c3 c5 c6 c7
  obtain ⟨wz, rfl⟩ : ∃ w', w' = w1 := ⟨_, rfl⟩
  go_loopw [47] (fun i wr => ∃ k : Nat, k ≤ l.length ∧ i = .int .i64 k ∧ BoxAt wr w.heap.size (ro8 ⟨key, ⟨val, false, at_, fin⟩, gone, shade, l⟩ (.slice a l.length c)) 91 ∧ Ext w wr ∧ Hid (csB none l = csB (prevM l k) (l.drop k))) (fun i _ => l.length - (intOf i).toNat)
  case atStart => exact ⟨0, Nat.zero_le _, rfl, b0, hE0, rfl⟩
  case round =>
    clear b0 hE0
    obtain ⟨k, hk, rfl, hbox, hE, HX⟩ := hrel
    by_cases hlt : k < l.length
    · obtain ⟨b, o, rfl, hco⟩ := HC.out k hlt
      obtain ⟨M, hM⟩ : ∃ M, M = l[k] := ⟨_, rfl⟩
      have hML := HLow.out k hlt
      rw [← hM] at hco hML
      have hD : l.drop k = M :: l.drop (k + 1) := by rw [hM]; exact List.drop_eq_getElem_cons hlt
      clear hM
      have HN := Lib.hid (prevM_succ hD)
      have HD := Lib.hid (HX.out.trans ((congrArg (csB (prevM l k)) hD).trans (csB_cons _ _ _)))
      have HML := Lib.hid hML
      clear hD HX hML
      replace hco := hco.ext hE
      obtain ⟨g0, g1, g2, g3, g4⟩ := hco
      have y7 := hbox.allocs
      go_wp2_with fail
      refine wp_region_in 32 [(2, fun v _ => v = .bool (nameB M.name)), (23, fun v _ => v = .bool (checkC M.cell.val M.cell.dead M.cell.at_ M.cell.fin))] (fun w0 => BoxAt w0 wr.heap.size (co5 M) 154 ∧ BoxAt w0 w.heap.size (ro8 ⟨key, ⟨val, false, at_, fin⟩, gone, shade, l⟩ (.slice (some ⟨b, o, none⟩) l.length c)) 91 ∧ Ext w w0) (by kernel_rfl) (by kernel_rfl) (by kernel_rfl) ⟨stays_eq _, stays_eq _, trivial⟩ ?_ ?_
      · exact ⟨BoxAt.made _ _ _, hbox.ext ((Ext.refl _).alloc _), hE.alloc _⟩
      clear hbox hE g0 g1 g2 g3 g4 y7
      rintro w2 ⟨b2, b0, hE⟩
      have HT2 : Hid (∀ wx, Ext w2 wx → TabU wx) := fun wx h => hT.ext (hE.trans h)
      have FIN : Hid (∀ wx, Ext w2 wx → BoxAt wx w.heap.size (ro8 ⟨key, ⟨val, false, at_, fin⟩, gone, shade, l⟩ (.slice (some ⟨b, o, none⟩) l.length c)) 91 ∧ Ext w wx) := fun wx h => ⟨b0.ext h, hE.trans h⟩
      obtain ⟨x0, x1, x2, x3, x4⟩ := b2.co
      obtain ⟨_, _, _, _, _, _, _, y7⟩ := b0.ro
      clear b2 b0
      replace x0 := held x0
      replace x1 := held x1
      replace x2 := held x2
      replace x3 := held x3
      replace x4 := held x4
      replace y7 := held y7
      cases e0 : nameB M.name
      · have HQ : Hid (csB none l = false) := by show csB none l = false; rw [HD.out, e0]; simp
        refine rg_quiet rfl rfl rfl rfl ?_; intro K hK; go_big_quiet_op; go_big_quiet_on
        refine rg_quiet rfl rfl rfl rfl ?_; intro K hK; go_big_quiet_op; go_big_quiet_on
        refine rg_val [] rfl rfl rfl (by kernel_rfl) (fun w1 hE hf => ?_) ?_
        · go_simp
          exact (name_gen _ HML.out w1 (HT2.out w1 hE)).mono fun e w' ⟨he, hw⟩ => ⟨_, he, rg_done hE hw (bool_congr e0)⟩
        simp only [Act.put, List.setIfInBounds_toArray, List.set_cons_zero, List.set_cons_succ]
        refine rg_quiet rfl rfl rfl rfl ?_; intro K hK; go_big_quiet_op; go_big_quiet_on
        refine rg_quiet rfl rfl rfl rfl ?_; intro K hK; go_big_quiet_op; go_big_quiet_on
        refine rel_skip rfl rfl ?_
        simp only [Act.put, List.setIfInBounds_toArray, List.set_cons_zero, List.set_cons_succ]
        refine rel_skip rfl rfl ?_
        simp only [Act.put, List.setIfInBounds_toArray, List.set_cons_zero, List.set_cons_succ]
        refine rel_skip rfl rfl ?_
        simp only [Act.put, List.setIfInBounds_toArray, List.set_cons_zero, List.set_cons_succ]
        refine rel_skip rfl rfl ?_
        simp only [Act.put, List.setIfInBounds_toArray, List.set_cons_zero, List.set_cons_succ]
        refine rel_skip rfl rfl ?_
        simp only [Act.put, List.setIfInBounds_toArray, List.set_cons_zero, List.set_cons_succ]
        refine rel_skip rfl rfl ?_
        simp only [Act.put, List.setIfInBounds_toArray, List.set_cons_zero, List.set_cons_succ]
        refine rel_skip rfl rfl ?_
        simp only [Act.put, List.setIfInBounds_toArray, List.set_cons_zero, List.set_cons_succ]
        refine rel_skip rfl rfl ?_
        simp only [Act.put, List.setIfInBounds_toArray, List.set_cons_zero, List.set_cons_succ]
        refine rel_skip rfl rfl ?_
        simp only [Act.put, List.setIfInBounds_toArray, List.set_cons_zero, List.set_cons_succ]
        refine rel_skip rfl rfl ?_
        simp only [Act.put, List.setIfInBounds_toArray, List.set_cons_zero, List.set_cons_succ]
        refine rel_skip rfl rfl ?_
        simp only [Act.put, List.setIfInBounds_toArray, List.set_cons_zero, List.set_cons_succ]
        refine rel_skip rfl rfl ?_
        simp only [Act.put, List.setIfInBounds_toArray, List.set_cons_zero, List.set_cons_succ]
        refine rel_skip rfl rfl ?_
        simp only [Act.put, List.setIfInBounds_toArray, List.set_cons_zero, List.set_cons_succ]
        refine rel_skip rfl rfl ?_
        simp only [Act.put, List.setIfInBounds_toArray, List.set_cons_zero, List.set_cons_succ]
        refine rg_quiet rfl rfl rfl rfl ?_; intro K hK; go_big_quiet_op; go_big_quiet_on
        refine rg_quiet rfl rfl rfl rfl ?_; intro K hK; go_big_quiet_op; go_big_quiet_on
        refine rel_skip rfl rfl ?_
        simp only [Act.put, List.setIfInBounds_toArray, List.set_cons_zero, List.set_cons_succ]
        refine rel_skip rfl rfl ?_
        simp only [Act.put, List.setIfInBounds_toArray, List.set_cons_zero, List.set_cons_succ]
        refine rel_skip rfl rfl ?_
        simp only [Act.put, List.setIfInBounds_toArray, List.set_cons_zero, List.set_cons_succ]
        refine rel_skip rfl rfl ?_
        simp only [Act.put, List.setIfInBounds_toArray, List.set_cons_zero, List.set_cons_succ]
        refine rg_quiet rfl rfl rfl rfl ?_; intro K hK; go_big_quiet_op; go_big_quiet_on
        refine rg_quiet rfl rfl rfl rfl ?_; intro K hK; go_big_quiet_op; go_big_quiet_on
        refine rel_skip rfl rfl ?_
        simp only [Act.put, List.setIfInBounds_toArray, List.set_cons_zero, List.set_cons_succ]
        refine rel_skip rfl rfl ?_
        simp only [Act.put, List.setIfInBounds_toArray, List.set_cons_zero, List.set_cons_succ]
        refine rel_skip rfl rfl ?_
        simp only [Act.put, List.setIfInBounds_toArray, List.set_cons_zero, List.set_cons_succ]
        refine rel_skip rfl rfl ?_
        simp only [Act.put, List.setIfInBounds_toArray, List.set_cons_zero, List.set_cons_succ]
        refine rg_quiet rfl rfl rfl rfl ?_; intro K hK; go_big_quiet_op; go_big_quiet_on
        refine rel_nil fun w5 hE5 _ => ?_
        obtain ⟨b0, hE⟩ := FIN.out w5 hE5
        clear x0 x1 x2 x3 x4 y7 hE5 FIN e0
        go_wp2_with fail
        go_ret
        exact ⟨ret_bool HQ.out.symm, hE⟩
      · cases k with
        | zero =>
          have ho : Hid (orB (prevM l 0) M.name = true) := rfl
          refine rg_quiet rfl rfl rfl rfl ?_; intro K hK; go_big_quiet_op; go_big_quiet_on
          refine rg_quiet rfl rfl rfl rfl ?_; intro K hK; go_big_quiet_op; go_big_quiet_on
          refine rg_val [] rfl rfl rfl (by kernel_rfl) (fun w1 hE hf => ?_) ?_
          · go_simp
            exact (name_gen _ HML.out w1 (HT2.out w1 hE)).mono fun e w' ⟨he, hw⟩ => ⟨_, he, rg_done hE hw (bool_congr e0)⟩
          simp only [Act.put, List.setIfInBounds_toArray, List.set_cons_zero, List.set_cons_succ]
          refine rg_quiet rfl rfl rfl rfl ?_; intro K hK; go_big_quiet_op; go_big_quiet_on
          refine rg_quiet rfl rfl rfl rfl ?_; intro K hK; go_big_quiet_op; go_big_quiet_on
          refine rg_quiet rfl rfl rfl rfl ?_; intro K hK; go_big_quiet_op; go_big_quiet_on
          refine rg_quiet rfl rfl rfl rfl ?_; intro K hK; go_big_quiet_op; go_big_quiet_on
          refine rg_quiet rfl rfl rfl rfl ?_; intro K hK; go_big_quiet_op; go_big_quiet_on
          refine rel_skip rfl rfl ?_
          simp only [Act.put, List.setIfInBounds_toArray, List.set_cons_zero, List.set_cons_succ]
          refine rel_skip rfl rfl ?_
          simp only [Act.put, List.setIfInBounds_toArray, List.set_cons_zero, List.set_cons_succ]
          refine rel_skip rfl rfl ?_
          simp only [Act.put, List.setIfInBounds_toArray, List.set_cons_zero, List.set_cons_succ]
          refine rel_skip rfl rfl ?_
          simp only [Act.put, List.setIfInBounds_toArray, List.set_cons_zero, List.set_cons_succ]
          refine rel_skip rfl rfl ?_
          simp only [Act.put, List.setIfInBounds_toArray, List.set_cons_zero, List.set_cons_succ]
          refine rel_skip rfl rfl ?_
          simp only [Act.put, List.setIfInBounds_toArray, List.set_cons_zero, List.set_cons_succ]
          refine rel_skip rfl rfl ?_
          simp only [Act.put, List.setIfInBounds_toArray, List.set_cons_zero, List.set_cons_succ]
          refine rel_skip rfl rfl ?_
          simp only [Act.put, List.setIfInBounds_toArray, List.set_cons_zero, List.set_cons_succ]
          refine rel_skip rfl rfl ?_
          simp only [Act.put, List.setIfInBounds_toArray, List.set_cons_zero, List.set_cons_succ]
          refine rel_skip rfl rfl ?_
          simp only [Act.put, List.setIfInBounds_toArray, List.set_cons_zero, List.set_cons_succ]
          refine rg_quiet rfl rfl rfl rfl ?_; intro K hK; go_big_quiet_op; go_big_quiet_on
          refine rg_quiet rfl rfl rfl rfl ?_; intro K hK; go_big_quiet_op; go_big_quiet_on
          refine rg_quiet rfl rfl rfl rfl ?_; intro K hK; go_big_quiet_op; go_big_quiet_on
          cases e2 : checkC M.cell.val M.cell.dead M.cell.at_ M.cell.fin
          · have HQ : Hid (csB none l = false) := by show csB none l = false; rw [HD.out, e0, ho.out, e2]; simp
            refine rg_quiet rfl rfl rfl rfl ?_; intro K hK; go_big_quiet_op; go_big_quiet_on
            refine rg_quiet rfl rfl rfl rfl ?_; intro K hK; go_big_quiet_op; go_big_quiet_on
            refine rg_val [] rfl rfl rfl (by kernel_rfl) (fun w1 hE hf => ?_) ?_
            · go_simp
              exact (check_any _ _ _ _ w1).mono fun e w' ⟨he, hw⟩ => ⟨_, he, rg_done hE hw (bool_congr e2)⟩
            simp only [Act.put, List.setIfInBounds_toArray, List.set_cons_zero, List.set_cons_succ]
            refine rg_quiet rfl rfl rfl rfl ?_; intro K hK; go_big_quiet_op; go_big_quiet_on
            refine rg_quiet rfl rfl rfl rfl ?_; intro K hK; go_big_quiet_op; go_big_quiet_on
            refine rg_quiet rfl rfl rfl rfl ?_; intro K hK; go_big_quiet_op; go_big_quiet_on
            refine rel_skip rfl rfl ?_
            simp only [Act.put, List.setIfInBounds_toArray, List.set_cons_zero, List.set_cons_succ]
            refine rel_skip rfl rfl ?_
            simp only [Act.put, List.setIfInBounds_toArray, List.set_cons_zero, List.set_cons_succ]
            refine rel_skip rfl rfl ?_
            simp only [Act.put, List.setIfInBounds_toArray, List.set_cons_zero, List.set_cons_succ]
            refine rel_skip rfl rfl ?_
            simp only [Act.put, List.setIfInBounds_toArray, List.set_cons_zero, List.set_cons_succ]
            refine rg_quiet rfl rfl rfl rfl ?_; intro K hK; go_big_quiet_op; go_big_quiet_on
            refine rel_nil fun w5 hE5 _ => ?_
            obtain ⟨b0, hE⟩ := FIN.out w5 hE5
            clear x0 x1 x2 x3 x4 y7 hE5 FIN e0 e2 
            go_wp2_with fail
            go_ret
            exact ⟨ret_bool HQ.out.symm, hE⟩
          · cases e3 : decide (0 < M.cell.at_)
            · have e4 : decide (M.cell.at_ ≤ 0) = true := by simp at e3 ⊢ <;> omega
              have HQ : Hid (csB none l = false) := by show csB none l = false; rw [HD.out, e0, ho.out, e2, e3]; simp
              refine rg_quiet rfl rfl rfl rfl ?_; intro K hK; go_big_quiet_op; go_big_quiet_on
              refine rg_quiet rfl rfl rfl rfl ?_; intro K hK; go_big_quiet_op; go_big_quiet_on
              refine rg_val [] rfl rfl rfl (by kernel_rfl) (fun w1 hE hf => ?_) ?_
              · go_simp
                exact (check_any _ _ _ _ w1).mono fun e w' ⟨he, hw⟩ => ⟨_, he, rg_done hE hw (bool_congr e2)⟩
              simp only [Act.put, List.setIfInBounds_toArray, List.set_cons_zero, List.set_cons_succ]
              refine rg_quiet rfl rfl rfl rfl ?_; intro K hK; go_big_quiet_op; go_big_quiet_on
              refine rg_quiet rfl rfl rfl rfl ?_; intro K hK; go_big_quiet_op; go_big_quiet_on
              refine rg_quiet rfl rfl rfl rfl ?_; intro K hK; go_big_quiet_op; go_big_quiet_on
              refine rg_quiet rfl rfl rfl rfl ?_; intro K hK; go_big_quiet_op; go_big_quiet_on
              refine rg_quiet rfl rfl rfl rfl ?_; intro K hK; go_big_quiet_op; go_big_quiet_on
              refine rg_quiet rfl rfl rfl rfl ?_; intro K hK; go_big_quiet_op; go_big_quiet_on
              refine rg_quiet rfl rfl rfl rfl ?_; intro K hK; go_big_quiet_op; go_big_quiet_on
              refine rg_quiet rfl rfl rfl rfl ?_; intro K hK; go_big_quiet_op; go_big_quiet_on
              refine rel_nil fun w5 hE5 _ => ?_
              obtain ⟨b0, hE⟩ := FIN.out w5 hE5
              clear x0 x1 x2 x3 x4 y7 hE5 FIN e0 e2 e3 
              go_wp2_with fail
              go_ret
              exact ⟨ret_bool HQ.out.symm, hE⟩
            · have e4 : decide (M.cell.at_ ≤ 0) = false := by simp at e3 ⊢ <;> omega
              have HQ : Hid (csB none l = csB (prevM l (0 + 1)) (l.drop (0 + 1))) := by show csB none l = _; rw [HD.out, e0, ho.out, e2, e3, HN.out]; rfl
              refine rg_quiet rfl rfl rfl rfl ?_; intro K hK; go_big_quiet_op; go_big_quiet_on
              refine rg_quiet rfl rfl rfl rfl ?_; intro K hK; go_big_quiet_op; go_big_quiet_on
              refine rg_val [] rfl rfl rfl (by kernel_rfl) (fun w1 hE hf => ?_) ?_
              · go_simp
                exact (check_any _ _ _ _ w1).mono fun e w' ⟨he, hw⟩ => ⟨_, he, rg_done hE hw (bool_congr e2)⟩
              simp only [Act.put, List.setIfInBounds_toArray, List.set_cons_zero, List.set_cons_succ]
              refine rg_quiet rfl rfl rfl rfl ?_; intro K hK; go_big_quiet_op; go_big_quiet_on
              refine rg_quiet rfl rfl rfl rfl ?_; intro K hK; go_big_quiet_op; go_big_quiet_on
              refine rg_quiet rfl rfl rfl rfl ?_; intro K hK; go_big_quiet_op; go_big_quiet_on
              refine rg_quiet rfl rfl rfl rfl ?_; intro K hK; go_big_quiet_op; go_big_quiet_on
              refine rg_quiet rfl rfl rfl rfl ?_; intro K hK; go_big_quiet_op; go_big_quiet_on
              refine rg_quiet rfl rfl rfl rfl ?_; intro K hK; go_big_quiet_op; go_big_quiet_on
              refine rg_quiet rfl rfl rfl rfl ?_; intro K hK; go_big_quiet_op; go_big_quiet_on
              refine rg_quiet rfl rfl rfl rfl ?_; intro K hK; go_big_quiet_op; go_big_quiet_on
              refine rel_nil fun w5 hE5 _ => ?_
              obtain ⟨b0, hE⟩ := FIN.out w5 hE5
              clear x0 x1 x2 x3 x4 y7 hE5 FIN e0 e2 e3 
              go_wp2_with fail
              go_roundw
              case rel => exact ⟨0 + 1, by omega, by go_num, b0, hE, HQ.out⟩
              case measure => simp [intOf] <;> omega
        | succ j =>
          have hj : j < l.length := by omega
          obtain ⟨b', o', e', hp⟩ := HC.out j hj
          cases e'
          replace hp := held (hE.cell hp.c0)
          obtain ⟨Pn, hPn⟩ : ∃ Pn, Pn = l[j].name := ⟨_, rfl⟩
          rw [← hPn] at hp
          have HO : Hid (orB (prevM l (j + 1)) M.name = Op.bytesLess Pn.toList M.name.toList) := by show orB (prevM l (j + 1)) M.name = _; simp [prevM, hj, orB, hPn]
          clear hPn
          have hw : IntKind.i64.wrap ((j : Int) + 1 - 1) = (j : Int) := by rw [IntKind.wrap_i64]; omega
          have hjl : decide ((j : Int) < (l.length : Int)) = true := by simpa using hj
          have hj0 : decide ((0 : Int) < (j : Int) + 1) = true := decide_eq_true (by omega)
          cases eo : Op.bytesLess Pn.toList M.name.toList
          · have ho : Hid (orB (prevM l (j + 1)) M.name = false) := HO.out.trans eo
            have HQ : Hid (csB none l = false) := by show csB none l = false; rw [HD.out, e0, ho.out]; simp
            refine rg_quiet rfl rfl rfl rfl ?_; intro K hK; go_big_quiet_op; go_big_quiet_on
            refine rg_quiet rfl rfl rfl rfl ?_; intro K hK; go_big_quiet_op; go_big_quiet_on
            refine rg_val [] rfl rfl rfl (by kernel_rfl) (fun w1 hE hf => ?_) ?_
            · go_simp
              exact (name_gen _ HML.out w1 (HT2.out w1 hE)).mono fun e w' ⟨he, hw⟩ => ⟨_, he, rg_done hE hw (bool_congr e0)⟩
            simp only [Act.put, List.setIfInBounds_toArray, List.set_cons_zero, List.set_cons_succ]
            refine rg_quiet rfl rfl rfl rfl ?_; intro K hK; go_big_quiet_op; go_big_quiet_on
            refine rg_quiet rfl rfl rfl rfl ?_; intro K hK; go_big_quiet_op; go_big_quiet_on
            refine rg_quiet rfl rfl rfl rfl ?_; intro K hK; go_big_quiet_op; go_big_quiet_on
            refine rg_quiet rfl rfl rfl rfl ?_; intro K hK; go_big_quiet_op; go_big_quiet_on
            refine rg_quiet rfl rfl rfl rfl ?_; intro K hK; go_big_quiet_op; go_big_quiet_on
            refine rg_quiet rfl rfl rfl rfl ?_; intro K hK; go_big_quiet_op; go_big_quiet_on
            refine rg_quiet rfl rfl rfl rfl ?_; intro K hK; go_big_quiet_op; go_big_quiet_on
            refine rg_quiet rfl rfl rfl rfl ?_; intro K hK; go_big_quiet_op; go_big_quiet_on
            refine rg_quiet rfl rfl rfl rfl ?_; intro K hK; go_big_quiet_op; go_big_quiet_on
            refine rg_quiet rfl rfl rfl rfl ?_; intro K hK; go_big_quiet_op; go_big_quiet_on
            refine rg_quiet rfl rfl rfl rfl ?_; intro K hK; go_big_quiet_op; go_big_quiet_on
            refine rg_quiet rfl rfl rfl rfl ?_; intro K hK; go_big_quiet_op; go_big_quiet_on
            refine rg_quiet rfl rfl rfl rfl ?_; intro K hK; go_big_quiet_op; go_big_quiet_on
            refine rg_quiet rfl rfl rfl rfl ?_; intro K hK; go_big_quiet_op; go_big_quiet_on
            refine rg_quiet rfl rfl rfl rfl ?_; intro K hK; go_big_quiet_op; go_big_quiet_on
            refine rg_quiet rfl rfl rfl rfl ?_; intro K hK; go_big_quiet_op; go_big_quiet_on
            refine rg_quiet rfl rfl rfl rfl ?_; intro K hK; go_big_quiet_op; go_big_quiet_on
            refine rg_quiet rfl rfl rfl rfl ?_; intro K hK; go_big_quiet_op; go_big_quiet_on
            refine rel_skip rfl rfl ?_
            simp only [Act.put, List.setIfInBounds_toArray, List.set_cons_zero, List.set_cons_succ]
            refine rel_skip rfl rfl ?_
            simp only [Act.put, List.setIfInBounds_toArray, List.set_cons_zero, List.set_cons_succ]
            refine rel_skip rfl rfl ?_
            simp only [Act.put, List.setIfInBounds_toArray, List.set_cons_zero, List.set_cons_succ]
            refine rel_skip rfl rfl ?_
            simp only [Act.put, List.setIfInBounds_toArray, List.set_cons_zero, List.set_cons_succ]
            refine rg_quiet rfl rfl rfl rfl ?_; intro K hK; go_big_quiet_op; go_big_quiet_on
            refine rg_quiet rfl rfl rfl rfl ?_; intro K hK; go_big_quiet_op; go_big_quiet_on
            refine rel_skip rfl rfl ?_
            simp only [Act.put, List.setIfInBounds_toArray, List.set_cons_zero, List.set_cons_succ]
            refine rel_skip rfl rfl ?_
            simp only [Act.put, List.setIfInBounds_toArray, List.set_cons_zero, List.set_cons_succ]
            refine rel_skip rfl rfl ?_
            simp only [Act.put, List.setIfInBounds_toArray, List.set_cons_zero, List.set_cons_succ]
            refine rel_skip rfl rfl ?_
            simp only [Act.put, List.setIfInBounds_toArray, List.set_cons_zero, List.set_cons_succ]
            refine rg_quiet rfl rfl rfl rfl ?_; intro K hK; go_big_quiet_op; go_big_quiet_on
            refine rel_nil fun w5 hE5 _ => ?_
            obtain ⟨b0, hE⟩ := FIN.out w5 hE5
            clear x0 x1 x2 x3 x4 y7 hE5 FIN e0 eo hp
            go_wp2_with fail
            go_ret
            exact ⟨ret_bool HQ.out.symm, hE⟩
          · have ho : Hid (orB (prevM l (j + 1)) M.name = true) := HO.out.trans eo
            refine rg_quiet rfl rfl rfl rfl ?_; intro K hK; go_big_quiet_op; go_big_quiet_on
            refine rg_quiet rfl rfl rfl rfl ?_; intro K hK; go_big_quiet_op; go_big_quiet_on
            refine rg_val [] rfl rfl rfl (by kernel_rfl) (fun w1 hE hf => ?_) ?_
            · go_simp
              exact (name_gen _ HML.out w1 (HT2.out w1 hE)).mono fun e w' ⟨he, hw⟩ => ⟨_, he, rg_done hE hw (bool_congr e0)⟩
            simp only [Act.put, List.setIfInBounds_toArray, List.set_cons_zero, List.set_cons_succ]
            refine rg_quiet rfl rfl rfl rfl ?_; intro K hK; go_big_quiet_op; go_big_quiet_on
            refine rg_quiet rfl rfl rfl rfl ?_; intro K hK; go_big_quiet_op; go_big_quiet_on
            refine rg_quiet rfl rfl rfl rfl ?_; intro K hK; go_big_quiet_op; go_big_quiet_on
            refine rg_quiet rfl rfl rfl rfl ?_; intro K hK; go_big_quiet_op; go_big_quiet_on
            refine rg_quiet rfl rfl rfl rfl ?_; intro K hK; go_big_quiet_op; go_big_quiet_on
            refine rg_quiet rfl rfl rfl rfl ?_; intro K hK; go_big_quiet_op; go_big_quiet_on
            refine rg_quiet rfl rfl rfl rfl ?_; intro K hK; go_big_quiet_op; go_big_quiet_on
            refine rg_quiet rfl rfl rfl rfl ?_; intro K hK; go_big_quiet_op; go_big_quiet_on
            refine rg_quiet rfl rfl rfl rfl ?_; intro K hK; go_big_quiet_op; go_big_quiet_on
            refine rg_quiet rfl rfl rfl rfl ?_; intro K hK; go_big_quiet_op; go_big_quiet_on
            refine rg_quiet rfl rfl rfl rfl ?_; intro K hK; go_big_quiet_op; go_big_quiet_on
            refine rg_quiet rfl rfl rfl rfl ?_; intro K hK; go_big_quiet_op; go_big_quiet_on
            refine rg_quiet rfl rfl rfl rfl ?_; intro K hK; go_big_quiet_op; go_big_quiet_on
            refine rg_quiet rfl rfl rfl rfl ?_; intro K hK; go_big_quiet_op; go_big_quiet_on
            refine rg_quiet rfl rfl rfl rfl ?_; intro K hK; go_big_quiet_op; go_big_quiet_on
            refine rg_quiet rfl rfl rfl rfl ?_; intro K hK; go_big_quiet_op; go_big_quiet_on
            refine rg_quiet rfl rfl rfl rfl ?_; intro K hK; go_big_quiet_op; go_big_quiet_on
            refine rg_quiet rfl rfl rfl rfl ?_; intro K hK; go_big_quiet_op; go_big_quiet_on
            cases e2 : checkC M.cell.val M.cell.dead M.cell.at_ M.cell.fin
            · have HQ : Hid (csB none l = false) := by show csB none l = false; rw [HD.out, e0, ho.out, e2]; simp
              refine rg_quiet rfl rfl rfl rfl ?_; intro K hK; go_big_quiet_op; go_big_quiet_on
              refine rg_quiet rfl rfl rfl rfl ?_; intro K hK; go_big_quiet_op; go_big_quiet_on
              refine rg_val [] rfl rfl rfl (by kernel_rfl) (fun w1 hE hf => ?_) ?_
              · go_simp
                exact (check_any _ _ _ _ w1).mono fun e w' ⟨he, hw⟩ => ⟨_, he, rg_done hE hw (bool_congr e2)⟩
              simp only [Act.put, List.setIfInBounds_toArray, List.set_cons_zero, List.set_cons_succ]
              refine rg_quiet rfl rfl rfl rfl ?_; intro K hK; go_big_quiet_op; go_big_quiet_on
              refine rg_quiet rfl rfl rfl rfl ?_; intro K hK; go_big_quiet_op; go_big_quiet_on
              refine rg_quiet rfl rfl rfl rfl ?_; intro K hK; go_big_quiet_op; go_big_quiet_on
              refine rel_skip rfl rfl ?_
              simp only [Act.put, List.setIfInBounds_toArray, List.set_cons_zero, List.set_cons_succ]
              refine rel_skip rfl rfl ?_
              simp only [Act.put, List.setIfInBounds_toArray, List.set_cons_zero, List.set_cons_succ]
              refine rel_skip rfl rfl ?_
              simp only [Act.put, List.setIfInBounds_toArray, List.set_cons_zero, List.set_cons_succ]
              refine rel_skip rfl rfl ?_
              simp only [Act.put, List.setIfInBounds_toArray, List.set_cons_zero, List.set_cons_succ]
              refine rg_quiet rfl rfl rfl rfl ?_; intro K hK; go_big_quiet_op; go_big_quiet_on
              refine rel_nil fun w5 hE5 _ => ?_
              obtain ⟨b0, hE⟩ := FIN.out w5 hE5
              clear x0 x1 x2 x3 x4 y7 hE5 FIN e0 e2 eo hp
              go_wp2_with fail
              go_ret
              exact ⟨ret_bool HQ.out.symm, hE⟩
            · cases e3 : decide (0 < M.cell.at_)
              · have e4 : decide (M.cell.at_ ≤ 0) = true := by simp at e3 ⊢ <;> omega
                have HQ : Hid (csB none l = false) := by show csB none l = false; rw [HD.out, e0, ho.out, e2, e3]; simp
                refine rg_quiet rfl rfl rfl rfl ?_; intro K hK; go_big_quiet_op; go_big_quiet_on
                refine rg_quiet rfl rfl rfl rfl ?_; intro K hK; go_big_quiet_op; go_big_quiet_on
                refine rg_val [] rfl rfl rfl (by kernel_rfl) (fun w1 hE hf => ?_) ?_
                · go_simp
                  exact (check_any _ _ _ _ w1).mono fun e w' ⟨he, hw⟩ => ⟨_, he, rg_done hE hw (bool_congr e2)⟩
                simp only [Act.put, List.setIfInBounds_toArray, List.set_cons_zero, List.set_cons_succ]
                refine rg_quiet rfl rfl rfl rfl ?_; intro K hK; go_big_quiet_op; go_big_quiet_on
                refine rg_quiet rfl rfl rfl rfl ?_; intro K hK; go_big_quiet_op; go_big_quiet_on
                refine rg_quiet rfl rfl rfl rfl ?_; intro K hK; go_big_quiet_op; go_big_quiet_on
                refine rg_quiet rfl rfl rfl rfl ?_; intro K hK; go_big_quiet_op; go_big_quiet_on
                refine rg_quiet rfl rfl rfl rfl ?_; intro K hK; go_big_quiet_op; go_big_quiet_on
                refine rg_quiet rfl rfl rfl rfl ?_; intro K hK; go_big_quiet_op; go_big_quiet_on
                refine rg_quiet rfl rfl rfl rfl ?_; intro K hK; go_big_quiet_op; go_big_quiet_on
                refine rg_quiet rfl rfl rfl rfl ?_; intro K hK; go_big_quiet_op; go_big_quiet_on
                refine rel_nil fun w5 hE5 _ => ?_
                obtain ⟨b0, hE⟩ := FIN.out w5 hE5
                clear x0 x1 x2 x3 x4 y7 hE5 FIN e0 e2 e3 eo hp
                go_wp2_with fail
                go_ret
                exact ⟨ret_bool HQ.out.symm, hE⟩
              · have e4 : decide (M.cell.at_ ≤ 0) = false := by simp at e3 ⊢ <;> omega
                have HQ : Hid (csB none l = csB (prevM l ((j + 1) + 1)) (l.drop ((j + 1) + 1))) := by show csB none l = _; rw [HD.out, e0, ho.out, e2, e3, HN.out]; rfl
                refine rg_quiet rfl rfl rfl rfl ?_; intro K hK; go_big_quiet_op; go_big_quiet_on
                refine rg_quiet rfl rfl rfl rfl ?_; intro K hK; go_big_quiet_op; go_big_quiet_on
                refine rg_val [] rfl rfl rfl (by kernel_rfl) (fun w1 hE hf => ?_) ?_
                · go_simp
                  exact (check_any _ _ _ _ w1).mono fun e w' ⟨he, hw⟩ => ⟨_, he, rg_done hE hw (bool_congr e2)⟩
                simp only [Act.put, List.setIfInBounds_toArray, List.set_cons_zero, List.set_cons_succ]
                refine rg_quiet rfl rfl rfl rfl ?_; intro K hK; go_big_quiet_op; go_big_quiet_on
                refine rg_quiet rfl rfl rfl rfl ?_; intro K hK; go_big_quiet_op; go_big_quiet_on
                refine rg_quiet rfl rfl rfl rfl ?_; intro K hK; go_big_quiet_op; go_big_quiet_on
                refine rg_quiet rfl rfl rfl rfl ?_; intro K hK; go_big_quiet_op; go_big_quiet_on
                refine rg_quiet rfl rfl rfl rfl ?_; intro K hK; go_big_quiet_op; go_big_quiet_on
                refine rg_quiet rfl rfl rfl rfl ?_; intro K hK; go_big_quiet_op; go_big_quiet_on
                refine rg_quiet rfl rfl rfl rfl ?_; intro K hK; go_big_quiet_op; go_big_quiet_on
                refine rg_quiet rfl rfl rfl rfl ?_; intro K hK; go_big_quiet_op; go_big_quiet_on
                refine rel_nil fun w5 hE5 _ => ?_
                obtain ⟨b0, hE⟩ := FIN.out w5 hE5
                clear x0 x1 x2 x3 x4 y7 hE5 FIN e0 e2 e3 eo hp
                go_wp2_with fail
                go_roundw
                case rel => exact ⟨(j + 1) + 1, by omega, by go_num, b0, hE, HQ.out⟩
                case measure => simp [intOf] <;> omega
    · obtain rfl : k = l.length := by omega
      have HQ : Hid (csB none l = true) := by show csB none l = true; rw [HX.out, List.drop_length]; rfl
      go_wp2_with fail
      go_ret
      exact ⟨ret_bool HQ.out.symm, hE⟩
theorem rcheck_gen (r : Ro) (v : Value) (w : World) (hin : ColsIn w v r.cols) (hlow : ∀ c ∈ r.cols, c.name.size ≤ 1000000) (hT : TabU w) :
    Calls Tryd.prog 109 #[(.agg #[.string r.key, .string r.live.val, .bool r.live.dead, .int .i64 r.live.at_, .int .i64 r.live.fin, .int .i64 r.gone, .int .i64 r.shade, v])] w fun e w' => e = .returned (.bool (rwB r)) ∧ Ext w w' := by
  cases hb : headB r
  · have e : rwB r = false := by unfold rwB; rw [show hdB r = headB r from rfl, hb]; rfl
    rw [e]
    exact rcheck_bad r v w hin hb
  · have e : rwB r = csB none r.cols := by unfold rwB; rw [show hdB r = headB r from rfl, hb]; rfl
    rw [e]
    exact rcheck_gen0 r v w hin hb (fun k h => hlow _ (List.getElem_mem h)) hT
end Go.Proofs.YtcmgeccgahakbaaDoor

/- The reference's Check of partitions. -/
namespace Go.Proofs.YtcmgeccgahakbaaDoor
open Go Go.RowKit
attribute [local go_sem] yields yUpon ro8 pa3

def rsB : Option ByteArray → List Ro → Bool
  | _, [] => true
  | p, r :: l => rwB r && orB p r.key && rsB (some r.key) l
def ptB (k : ByteArray) (g : Int) (l : List Ro) : Bool := !decide (100 < (k.size : Int)) && !decide (g < 0) && !decide (1099511627776 < g) && !decide (100 < (l.length : Int)) && rsB none l
def prevR (l : List (Ro × Value)) : Nat → Option ByteArray
  | 0 => none
  | k + 1 => (l[k]?).map (·.1.key)
theorem prevR_succ {l : List (Ro × Value)} {k : Nat} {M : Ro × Value} {R : List (Ro × Value)} (hd : l.drop k = M :: R) : prevR l (k + 1) = some M.1.key := by
  have hk : k < l.length := by
    rcases Nat.lt_or_ge k l.length with h | h
    · exact h
    · rw [List.drop_eq_nil_of_le h] at hd; cases hd
  have e : l[k] = M := by rw [List.drop_eq_getElem_cons hk] at hd; exact (List.cons.inj hd).1
  simp [prevR, hk, e]

set_option maxRecDepth 100000 in
set_option maxHeartbeats 8000000 in
theorem check8_any (pk : ByteArray) (pg : Int) (pu : Value) (ps : List (Ro × Value)) (w : World) (hin : RowsIn w pu ps) (hlow : ∀ p ∈ ps, ∀ c ∈ p.1.cols, c.name.size ≤ 1000000) :
    Calls Tryd.prog 50 #[.agg #[.string pk, .int .i64 pg, pu]] w fun e w' => e = .returned (.bool (ptB pk pg (ps.map (·.1)))) ∧ Ext w w' := by
  have a0 := BoxAt.made w (pa3 pk pg pu) 24
  have hE := (Ext.refl w).alloc (.cells (pa3 pk pg pu) 24)
  obtain ⟨aa, ca, rfl, hca, hcma, hget⟩ := hin.get
  have c0 := a0.pa
  obtain ⟨n, hn⟩ : ∃ n, n = ps.length := ⟨_, rfl⟩
  rw [← hn] at hca a0 hE c0 ⊢
  obtain ⟨P, hP⟩ : ∃ P, P = ptB pk pg (ps.map (·.1)) := ⟨_, rfl⟩
  have hP2 : P = (!decide (100 < (pk.size : Int)) && !decide (pg < 0) && !decide (1099511627776 < pg) && !decide (100 < (n : Int)) && rsB none (ps.map (·.1))) := by rw [hP, hn]; unfold ptB; rw [List.length_map]
  rw [← hP]
  have HP := Lib.hid hP2
  have HN := Lib.hid hn
  have HGET := Lib.hid hget
  have HC := Lib.hid hin.cols
  have HL := Lib.hid hlow
  clear hn hget hin hP hP2 hlow
  cases q1 : decide (100 < (pk.size : Int))
  · cases q2 : decide (pg < 0)
    · cases q3 : decide (1099511627776 < pg)
      · cases q4 : decide (100 < (n : Int))
        · have HP2 : Hid (P = rsB none (ps.map (·.1))) := by show P = _; rw [HP.out, q1, q2, q3, q4]; rfl
          clear HP
          go_enter Tryd.func50, Tryd.ntmps50
          go_wp2_with fail
          go_loopw [3] (fun i wr => ∃ k : Nat, k ≤ n ∧ i = .int .i64 k ∧ BoxAt wr w.heap.size (pa3 pk pg (.slice aa n ca)) 24 ∧ Ext w wr ∧ Hid (P = rsB (prevR ps k) ((ps.drop k).map (·.1)))) (fun i _ => n - (intOf i).toNat)
          case atStart => exact ⟨0, Nat.zero_le _, rfl, a0, hE, HP2⟩
          case round =>
            obtain ⟨k, hkn, rfl, b0, hE1, HX⟩ := hrel
            clear a0 c0 hE q1 q2 q3 q4 HP2
            obtain ⟨z0, z1, z2⟩ := b0.pa
            by_cases hlt : k < n
            · have hkp : k < ps.length := by rw [← HN.out]; exact hlt
              have hD : ps.drop k = ps[k] :: ps.drop (k + 1) := List.drop_eq_getElem_cons hkp
              have hD2 : P = (rwB ps[k].1 && orB (prevR ps k) ps[k].1.key && rsB (prevR ps (k + 1)) ((ps.drop (k + 1)).map (·.1))) := by
                rw [HX.out, prevR_succ hD, hD]
                rfl
              obtain ⟨b, o, rfl, hat⟩ := HGET.out k hkp
              have hcu := HC.out _ (List.getElem_mem hkp)
              have hll := HL.out _ (List.getElem_mem hkp)
              obtain ⟨M, hM⟩ : ∃ M, M = ps[k].1 := ⟨_, rfl⟩
              obtain ⟨au, cu, hu⟩ := hcu.shape
              have HM := Lib.hid hM
              rw [← hM] at hat hu hcu hll hD2
              rw [hu] at hat hcu
              have HD := Lib.hid hD2
              clear hM hu hD hD2 HX
              obtain ⟨m, hm⟩ : ∃ m, m = M.cols.length := ⟨_, rfl⟩
              rw [← hm] at hat hcu
              have HMM := Lib.hid hm
              have HLL := Lib.hid hll
              clear hm hll
              have hki : decide ((k : Int) < (n : Int)) = true := by simpa using hlt
              have hat1 := hat.ext hE1
              have hcu1 := hcu.ext hE1
              clear hat hcu
              obtain ⟨B, hB⟩ : ∃ B, B = rwB M := ⟨_, rfl⟩
              have HB := Lib.hid hB
              rw [← hB] at HD
              clear hB
              go_wp2_with fail
              refine wp_region_in 27 [(5, fun v _ => v = .bool B)] (fun y => RoAt y b (o + k * 8) M (.slice au m cu) ∧ BoxAt y w.heap.size (pa3 pk pg (.slice (some ⟨b, o, none⟩) n ca)) 24 ∧ ColsIn y (.slice au m cu) M.cols ∧ Ext w y) (by kernel_rfl) (by kernel_rfl) (by kernel_rfl) ⟨stays_eq _, trivial⟩ ⟨hat1, b0, hcu1, hE1⟩ ?_
              clear hat1 b0 hcu1 hE1 z0 z1 z2
              rintro w5 ⟨hat, b5, hcu, hE⟩
              have FIN : Hid (∀ wx, Ext w5 wx → BoxAt wx w.heap.size (pa3 pk pg (.slice (some ⟨b, o, none⟩) n ca)) 24 ∧ Ext w wx) := fun wx h => ⟨b5.ext h, hE.trans h⟩
              obtain ⟨x0, x1, x2, x3, x4, x5, x6, x7⟩ := hat
              obtain ⟨y0, y1, y2⟩ := b5.pa
              clear b5
              replace x0 := held x0
              replace x1 := held x1
              replace x2 := held x2
              replace x3 := held x3
              replace x4 := held x4
              replace x5 := held x5
              replace x6 := held x6
              replace x7 := held x7
              replace y2 := held y2
              clear y0 y1
              refine rg_quiet rfl rfl rfl rfl ?_; intro K hK; go_big_quiet_op; go_big_quiet_on
              refine rg_quiet rfl rfl rfl rfl ?_; intro K hK; go_big_quiet_op; go_big_quiet_on
              refine rg_quiet rfl rfl rfl rfl ?_; intro K hK; go_big_quiet_op; go_big_quiet_on
              refine rg_quiet rfl rfl rfl rfl ?_; intro K hK; go_big_quiet_op; go_big_quiet_on
              refine rg_quiet rfl rfl rfl rfl ?_; intro K hK; go_big_quiet_op; go_big_quiet_on
              refine rg_val [] rfl rfl rfl (by kernel_rfl) (fun w1 hE hf => ?_) ?_
              · go_simp
                rw [HMM.out]
                refine (check7_any M _ w1 (by rw [← HMM.out]; exact hcu.ext hE) HLL.out).mono ?_
                rintro e w' ⟨he, hw⟩
                exact ⟨_, he, rg_done hE hw (by rw [HB.out])⟩
              simp only [Act.put, List.setIfInBounds_toArray, List.set_cons_zero, List.set_cons_succ]
              cases B
              · have HF : Hid (P = false) := by show P = false; rw [HD.out]; rfl
                clear HD
                refine rg_quiet rfl rfl rfl rfl ?_; intro K hK; go_big_quiet_op; go_big_quiet_on
                refine rg_quiet rfl rfl rfl rfl ?_; intro K hK; go_big_quiet_op; go_big_quiet_on
                refine rel_skip rfl rfl ?_
                simp only [Act.put, List.setIfInBounds_toArray, List.set_cons_zero, List.set_cons_succ]
                refine rel_skip rfl rfl ?_
                simp only [Act.put, List.setIfInBounds_toArray, List.set_cons_zero, List.set_cons_succ]
                refine rel_skip rfl rfl ?_
                simp only [Act.put, List.setIfInBounds_toArray, List.set_cons_zero, List.set_cons_succ]
                refine rel_skip rfl rfl ?_
                simp only [Act.put, List.setIfInBounds_toArray, List.set_cons_zero, List.set_cons_succ]
                refine rel_skip rfl rfl ?_
                simp only [Act.put, List.setIfInBounds_toArray, List.set_cons_zero, List.set_cons_succ]
                refine rel_skip rfl rfl ?_
                simp only [Act.put, List.setIfInBounds_toArray, List.set_cons_zero, List.set_cons_succ]
                refine rel_skip rfl rfl ?_
                simp only [Act.put, List.setIfInBounds_toArray, List.set_cons_zero, List.set_cons_succ]
                refine rel_skip rfl rfl ?_
                simp only [Act.put, List.setIfInBounds_toArray, List.set_cons_zero, List.set_cons_succ]
                refine rel_skip rfl rfl ?_
                simp only [Act.put, List.setIfInBounds_toArray, List.set_cons_zero, List.set_cons_succ]
                refine rel_skip rfl rfl ?_
                simp only [Act.put, List.setIfInBounds_toArray, List.set_cons_zero, List.set_cons_succ]
                refine rel_skip rfl rfl ?_
                simp only [Act.put, List.setIfInBounds_toArray, List.set_cons_zero, List.set_cons_succ]
                refine rel_skip rfl rfl ?_
                simp only [Act.put, List.setIfInBounds_toArray, List.set_cons_zero, List.set_cons_succ]
                refine rel_skip rfl rfl ?_
                simp only [Act.put, List.setIfInBounds_toArray, List.set_cons_zero, List.set_cons_succ]
                refine rel_skip rfl rfl ?_
                simp only [Act.put, List.setIfInBounds_toArray, List.set_cons_zero, List.set_cons_succ]
                refine rel_skip rfl rfl ?_
                simp only [Act.put, List.setIfInBounds_toArray, List.set_cons_zero, List.set_cons_succ]
                refine rel_skip rfl rfl ?_
                simp only [Act.put, List.setIfInBounds_toArray, List.set_cons_zero, List.set_cons_succ]
                refine rel_skip rfl rfl ?_
                simp only [Act.put, List.setIfInBounds_toArray, List.set_cons_zero, List.set_cons_succ]
                refine rel_skip rfl rfl ?_
                simp only [Act.put, List.setIfInBounds_toArray, List.set_cons_zero, List.set_cons_succ]
                refine rg_quiet rfl rfl rfl rfl ?_; intro K hK; go_big_quiet_op; go_big_quiet_on
                refine rel_nil fun w6 hE6 _ => ?_
                obtain ⟨b6, hE7⟩ := FIN.out w6 hE6
                clear x0 x1 x2 x3 x4 x5 x6 x7 y2 FIN hE6 hE hcu
                go_wp2_with fail
                go_ret
                exact ⟨ret_bool HF.out.symm, hE7⟩
              · cases k with
                | zero =>
                  have HF : Hid (P = rsB (prevR ps (0 + 1)) ((ps.drop (0 + 1)).map (·.1))) := by show P = _; rw [HD.out]; rfl
                  clear HD
                  refine rg_quiet rfl rfl rfl rfl ?_; intro K hK; go_big_quiet_op; go_big_quiet_on
                  refine rg_quiet rfl rfl rfl rfl ?_; intro K hK; go_big_quiet_op; go_big_quiet_on
                  refine rg_quiet rfl rfl rfl rfl ?_; intro K hK; go_big_quiet_op; go_big_quiet_on
                  refine rg_quiet rfl rfl rfl rfl ?_; intro K hK; go_big_quiet_op; go_big_quiet_on
                  refine rg_quiet rfl rfl rfl rfl ?_; intro K hK; go_big_quiet_op; go_big_quiet_on
                  refine rel_skip rfl rfl ?_
                  simp only [Act.put, List.setIfInBounds_toArray, List.set_cons_zero, List.set_cons_succ]
                  refine rel_skip rfl rfl ?_
                  simp only [Act.put, List.setIfInBounds_toArray, List.set_cons_zero, List.set_cons_succ]
                  refine rel_skip rfl rfl ?_
                  simp only [Act.put, List.setIfInBounds_toArray, List.set_cons_zero, List.set_cons_succ]
                  refine rel_skip rfl rfl ?_
                  simp only [Act.put, List.setIfInBounds_toArray, List.set_cons_zero, List.set_cons_succ]
                  refine rel_skip rfl rfl ?_
                  simp only [Act.put, List.setIfInBounds_toArray, List.set_cons_zero, List.set_cons_succ]
                  refine rel_skip rfl rfl ?_
                  simp only [Act.put, List.setIfInBounds_toArray, List.set_cons_zero, List.set_cons_succ]
                  refine rel_skip rfl rfl ?_
                  simp only [Act.put, List.setIfInBounds_toArray, List.set_cons_zero, List.set_cons_succ]
                  refine rel_skip rfl rfl ?_
                  simp only [Act.put, List.setIfInBounds_toArray, List.set_cons_zero, List.set_cons_succ]
                  refine rel_skip rfl rfl ?_
                  simp only [Act.put, List.setIfInBounds_toArray, List.set_cons_zero, List.set_cons_succ]
                  refine rel_skip rfl rfl ?_
                  simp only [Act.put, List.setIfInBounds_toArray, List.set_cons_zero, List.set_cons_succ]
                  refine rel_skip rfl rfl ?_
                  simp only [Act.put, List.setIfInBounds_toArray, List.set_cons_zero, List.set_cons_succ]
                  refine rel_skip rfl rfl ?_
                  simp only [Act.put, List.setIfInBounds_toArray, List.set_cons_zero, List.set_cons_succ]
                  refine rel_skip rfl rfl ?_
                  simp only [Act.put, List.setIfInBounds_toArray, List.set_cons_zero, List.set_cons_succ]
                  refine rel_skip rfl rfl ?_
                  simp only [Act.put, List.setIfInBounds_toArray, List.set_cons_zero, List.set_cons_succ]
                  refine rg_quiet rfl rfl rfl rfl ?_; intro K hK; go_big_quiet_op; go_big_quiet_on
                  refine rg_quiet rfl rfl rfl rfl ?_; intro K hK; go_big_quiet_op; go_big_quiet_on
                  refine rel_nil fun w6 hE6 _ => ?_
                  obtain ⟨b6, hE7⟩ := FIN.out w6 hE6
                  clear x0 x1 x2 x3 x4 x5 x6 x7 y2 FIN hE6 hE hcu
                  go_wp2_with fail
                  go_roundw
                  case rel => exact ⟨0 + 1, by omega, by go_num, b6, hE7, HF⟩
                  case measure => simp [intOf] <;> omega
                | succ j =>
                  have hjp : j < ps.length := by omega
                  obtain ⟨b', o', e', hp⟩ := HGET.out j hjp
                  cases e'
                  replace hp := held (hE.cell hp.c0)
                  obtain ⟨Pn, hPn⟩ : ∃ Pn, Pn = ps[j].1.key := ⟨_, rfl⟩
                  rw [← hPn] at hp
                  have HO : Hid (orB (prevR ps (j + 1)) M.key = Op.bytesLess Pn.toList M.key.toList) := by show orB (prevR ps (j + 1)) M.key = _; simp [prevR, hjp, orB, hPn]
                  clear hPn
                  have hw : IntKind.i64.wrap ((j : Int) + 1 - 1) = (j : Int) := by rw [IntKind.wrap_i64]; omega
                  have hjl : decide ((j : Int) < (n : Int)) = true := by simp; omega
                  have hj0 : decide ((0 : Int) < (j : Int) + 1) = true := decide_eq_true (by omega)
                  have hle := less_leq M.key.toList Pn.toList
                  cases eo : Op.bytesLess Pn.toList M.key.toList
                  all_goals rw [eo] at hle
                  · have HF : Hid (P = false) := by show P = false; rw [HD.out, HO.out, eo]; rfl
                    clear HD HO eo
                    refine rg_quiet rfl rfl rfl rfl ?_; intro K hK; go_big_quiet_op; go_big_quiet_on
                    refine rg_quiet rfl rfl rfl rfl ?_; intro K hK; go_big_quiet_op; go_big_quiet_on
                    refine rg_quiet rfl rfl rfl rfl ?_; intro K hK; go_big_quiet_op; go_big_quiet_on
                    refine rg_quiet rfl rfl rfl rfl ?_; intro K hK; go_big_quiet_op; go_big_quiet_on
                    refine rg_quiet rfl rfl rfl rfl ?_; intro K hK; go_big_quiet_op; go_big_quiet_on
                    refine rg_quiet rfl rfl rfl rfl ?_; intro K hK; go_big_quiet_op; go_big_quiet_on
                    refine rg_quiet rfl rfl rfl rfl ?_; intro K hK; go_big_quiet_op; go_big_quiet_on
                    refine rg_quiet rfl rfl rfl rfl ?_; intro K hK; go_big_quiet_op; go_big_quiet_on
                    refine rg_quiet rfl rfl rfl rfl ?_; intro K hK; go_big_quiet_op; go_big_quiet_on
                    refine rg_quiet rfl rfl rfl rfl ?_; intro K hK; go_big_quiet_op; go_big_quiet_on
                    refine rg_quiet rfl rfl rfl rfl ?_; intro K hK; go_big_quiet_op; go_big_quiet_on
                    refine rg_quiet rfl rfl rfl rfl ?_; intro K hK; go_big_quiet_op; go_big_quiet_on
                    refine rg_quiet rfl rfl rfl rfl ?_; intro K hK; go_big_quiet_op; go_big_quiet_on
                    refine rg_quiet rfl rfl rfl rfl ?_; intro K hK; go_big_quiet_op; go_big_quiet_on
                    refine rg_quiet rfl rfl rfl rfl ?_; intro K hK; go_big_quiet_op; go_big_quiet_on
                    refine rg_quiet rfl rfl rfl rfl ?_; intro K hK; go_big_quiet_op; go_big_quiet_on
                    refine rg_quiet rfl rfl rfl rfl ?_; intro K hK; go_big_quiet_op; go_big_quiet_on
                    refine rg_quiet rfl rfl rfl rfl ?_; intro K hK; go_big_quiet_op; go_big_quiet_on
                    refine rg_quiet rfl rfl rfl rfl ?_; intro K hK; go_big_quiet_op; go_big_quiet_on
                    refine rg_quiet rfl rfl rfl rfl ?_; intro K hK; go_big_quiet_op; go_big_quiet_on
                    refine rg_quiet rfl rfl rfl rfl ?_; intro K hK; go_big_quiet_op; go_big_quiet_on
                    refine rel_nil fun w6 hE6 _ => ?_
                    obtain ⟨b6, hE7⟩ := FIN.out w6 hE6
                    clear x0 x1 x2 x3 x4 x5 x6 x7 y2 FIN hE6 hE hcu hp hle
                    go_wp2_with fail
                    go_ret
                    exact ⟨ret_bool HF.out.symm, hE7⟩
                  · have HF : Hid (P = rsB (prevR ps (j + 1 + 1)) ((ps.drop (j + 1 + 1)).map (·.1))) := by show P = _; rw [HD.out, HO.out, eo]; rfl
                    clear HD HO eo
                    refine rg_quiet rfl rfl rfl rfl ?_; intro K hK; go_big_quiet_op; go_big_quiet_on
                    refine rg_quiet rfl rfl rfl rfl ?_; intro K hK; go_big_quiet_op; go_big_quiet_on
                    refine rg_quiet rfl rfl rfl rfl ?_; intro K hK; go_big_quiet_op; go_big_quiet_on
                    refine rg_quiet rfl rfl rfl rfl ?_; intro K hK; go_big_quiet_op; go_big_quiet_on
                    refine rg_quiet rfl rfl rfl rfl ?_; intro K hK; go_big_quiet_op; go_big_quiet_on
                    refine rg_quiet rfl rfl rfl rfl ?_; intro K hK; go_big_quiet_op; go_big_quiet_on
                    refine rg_quiet rfl rfl rfl rfl ?_; intro K hK; go_big_quiet_op; go_big_quiet_on
                    refine rg_quiet rfl rfl rfl rfl ?_; intro K hK; go_big_quiet_op; go_big_quiet_on
                    refine rg_quiet rfl rfl rfl rfl ?_; intro K hK; go_big_quiet_op; go_big_quiet_on
                    refine rg_quiet rfl rfl rfl rfl ?_; intro K hK; go_big_quiet_op; go_big_quiet_on
                    refine rg_quiet rfl rfl rfl rfl ?_; intro K hK; go_big_quiet_op; go_big_quiet_on
                    refine rg_quiet rfl rfl rfl rfl ?_; intro K hK; go_big_quiet_op; go_big_quiet_on
                    refine rg_quiet rfl rfl rfl rfl ?_; intro K hK; go_big_quiet_op; go_big_quiet_on
                    refine rg_quiet rfl rfl rfl rfl ?_; intro K hK; go_big_quiet_op; go_big_quiet_on
                    refine rg_quiet rfl rfl rfl rfl ?_; intro K hK; go_big_quiet_op; go_big_quiet_on
                    refine rg_quiet rfl rfl rfl rfl ?_; intro K hK; go_big_quiet_op; go_big_quiet_on
                    refine rg_quiet rfl rfl rfl rfl ?_; intro K hK; go_big_quiet_op; go_big_quiet_on
                    refine rg_quiet rfl rfl rfl rfl ?_; intro K hK; go_big_quiet_op; go_big_quiet_on
                    refine rg_quiet rfl rfl rfl rfl ?_; intro K hK; go_big_quiet_op; go_big_quiet_on
                    refine rg_quiet rfl rfl rfl rfl ?_; intro K hK; go_big_quiet_op; go_big_quiet_on
                    refine rg_quiet rfl rfl rfl rfl ?_; intro K hK; go_big_quiet_op; go_big_quiet_on
                    refine rel_nil fun w6 hE6 _ => ?_
                    obtain ⟨b6, hE7⟩ := FIN.out w6 hE6
                    clear x0 x1 x2 x3 x4 x5 x6 x7 y2 FIN hE6 hE hcu hp hle
                    go_wp2_with fail
                    go_roundw
                    case rel => exact ⟨j + 1 + 1, by omega, by go_num, b6, hE7, HF⟩
                    case measure => simp [intOf] <;> omega
            · have HF : Hid (P = true) := by show P = true; rw [HX.out, List.drop_eq_nil_of_le (by have := HN.out; omega)]; rfl
              go_wp2_with fail
              go_ret
              exact ⟨ret_bool HF.out.symm, hE1⟩
        · have HF : Hid (P = false) := by show P = false; rw [HP.out, q1, q2, q3, q4]; rfl
          go_enter Tryd.func50, Tryd.ntmps50
          go_wp2_with fail
          go_ret
          exact ⟨ret_bool HF.out.symm, hE⟩
      · have HF : Hid (P = false) := by show P = false; rw [HP.out, q1, q2, q3]; rfl
        go_enter Tryd.func50, Tryd.ntmps50
        go_wp2_with fail
        go_ret
        exact ⟨ret_bool HF.out.symm, hE⟩
    · have HF : Hid (P = false) := by show P = false; rw [HP.out, q1, q2]; rfl
      go_enter Tryd.func50, Tryd.ntmps50
      go_wp2_with fail
      go_ret
      exact ⟨ret_bool HF.out.symm, hE⟩
  · have HF : Hid (P = false) := by show P = false; rw [HP.out, q1]; rfl
    go_enter Tryd.func50, Tryd.ntmps50
    go_wp2_with fail
    go_ret
    exact ⟨ret_bool HF.out.symm, hE⟩
end Go.Proofs.YtcmgeccgahakbaaDoor
