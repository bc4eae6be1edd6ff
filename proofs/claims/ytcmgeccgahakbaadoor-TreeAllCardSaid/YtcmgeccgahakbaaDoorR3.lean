/- utf8.DecodeRuneInString, laid at this program: an application of a theorem of the shelf (the text is the tool's, its numbers by name). -/
import Derived.Shelf.Unicode.DecodeAny
import Derived.Test.YtcmgeccgahakbaaDoorProg
import Derived.Test.YtcmgeccgahakbaaDoorR2
import Derived.Lib.OthersKept
import Derived.Lib.RuneCountTail
import Derived.Test.YtcmgeccgahakbaaDoorRows
import Derived.Lib.LaidU8T
import Derived.MakeChecks
import Derived.KernelRfl
import Derived.Lib.ItoaNum
import Derived.Lib.SmallJoins
set_option linter.unusedSimpArgs false
set_option linter.unusedVariables false
namespace Go.Proofs
open Go.Shelf
def Tryd.lays197_ren : Go.Shelf.Ren := ⟨fun | 197 => 153 | 260 => 165 | n => n, fun | 9 => 9 | 21 => 21 | 3 => 3 | 4 => 4 | 5 => 5 | 105 => 193 | 119 => 215 | 0 => 0 | 46 => 79 | 139 => 218 | 138 => 217 | n => n, fun | 3 => 0 | 4 => 1 | n => n⟩
theorem Tryd.lays197 : Go.Proofs.Lays.n197 Tryd.prog Tryd.lays197_ren := {
  mixed := by kernel_rfl
  f197 := Tryd.func153.trans (congrArg some (by kernel_rfl))
  f260 := Tryd.func165.trans (congrArg some (by kernel_rfl))
  t0 := Tryd.underlying0
  a0 := Tryd.isAgg0
  z0 := Tryd.sizeOf0
  v0 := Tryd.zeroValue0
  t3 := Tryd.underlying3
  a3 := Tryd.isAgg3
  z3 := Tryd.sizeOf3
  v3 := Tryd.zeroValue3
  t4 := Tryd.underlying4
  a4 := Tryd.isAgg4
  z4 := Tryd.sizeOf4
  v4 := Tryd.zeroValue4
  t5 := Tryd.underlying5
  a5 := Tryd.isAgg5
  z5 := Tryd.sizeOf5
  v5 := Tryd.zeroValue5
  t9 := Tryd.underlying9
  a9 := Tryd.isAgg9
  z9 := Tryd.sizeOf9
  v9 := Tryd.zeroValue9
  t21 := Tryd.underlying21
  a21 := Tryd.isAgg21
  z21 := Tryd.sizeOf21
  v21 := Tryd.zeroValue21
  t46 := Tryd.underlying79
  a46 := Tryd.isAgg79
  z46 := Tryd.sizeOf79
  v46 := Tryd.zeroValue79
  t105 := Tryd.underlying193
  a105 := Tryd.isAgg193
  z105 := Tryd.sizeOf193
  v105 := Tryd.zeroValue193
  t119 := Tryd.underlying215
  a119 := Tryd.isAgg215
  z119 := Tryd.sizeOf215
  t138 := Tryd.underlying217
  a138 := Tryd.isAgg217
  z138 := Tryd.sizeOf217
  v138 := Tryd.zeroValue217
  t139 := Tryd.underlying218
  a139 := Tryd.isAgg218
  z139 := Tryd.sizeOf218
  v139 := Tryd.zeroValue218
  g3 := by kernel_rfl
  g4 := by kernel_rfl }
open Go.RowKit Go.Lib in
theorem Tryd.utf8_DecodeRuneInString (s : ByteArray) (w : World) (hT : Lib.Utf8Tabs 0 1 w) :
    Calls Tryd.prog 153 #[.string s] w fun e w' => e = .returned (.tuple #[.int .i32 (Lib.decodeGo s).1, .int .i64 (Lib.decodeGo s).2]) ∧ Below w.heap.size w w' := Any.utf8_DecodeRuneInString Tryd.lays197 s w hT
end Go.Proofs

/- runes.Name at any text. -/
namespace Go.Proofs.YtcmgeccgahakbaaDoor
open Go Go.RowKit
attribute [local go_sem] yields yUpon

def TabU (w : World) : Prop := Lib.Utf8Tabs 0 1 w
theorem TabU.ext {w w' : World} (hE : Ext w w') (h : TabU w) : TabU w' := ⟨fun c hc => hE.cell (h.1 c hc), fun i hi => ⟨hE.cell (h.2 i hi).1, hE.cell (h.2 i hi).2⟩⟩
def letN (r : Nat) : Bool := r == 95 || (decide (97 ≤ r) && decide (r ≤ 122)) || decide (128 ≤ r)
set_option maxHeartbeats 1000000 in
theorem letter_gen (r : Nat) (w : World) : Calls Tryd.prog 123 #[.int .i32 r] w fun e w' => e = .returned (.bool (letN r)) ∧ w = w' := by
  by_cases h1 : r = 95
  · subst h1
    go_enter Tryd.func123, Tryd.ntmps123
    go_wp2
    go_ret
    exact ⟨rfl, rfl⟩
  · have t1 : ((r : Int) == 95) = false := by simp; omega
    by_cases h2 : 97 ≤ r
    · have t2 : decide (97 ≤ (r : Int)) = true := by simp; omega
      by_cases h3 : r ≤ 122
      · have t3 : decide ((r : Int) ≤ 122) = true := by simp; omega
        go_enter Tryd.func123, Tryd.ntmps123
        go_wp2
        go_ret
        exact ⟨ret_bool (by unfold letN; simp; omega), rfl⟩
      · have t3 : decide ((r : Int) ≤ 122) = false := by simp; omega
        go_enter Tryd.func123, Tryd.ntmps123
        go_wp2
        go_ret
        exact ⟨ret_bool (by unfold letN; rw [Bool.eq_iff_iff]; simp; omega), rfl⟩
    · have t2 : decide (97 ≤ (r : Int)) = false := by simp; omega
      go_enter Tryd.func123, Tryd.ntmps123
      go_wp2
      go_ret
      exact ⟨ret_bool (by unfold letN; rw [Bool.eq_iff_iff]; simp; omega), rfl⟩
def itPos (w : World) (b : Nat) : Nat := match w.heap[b]? with | some (.stringIter _ p) => p | _ => 0
theorem ext_iter {w w' : World} {b : Nat} {o : Obj} (hE : Ext w w') (h : w.heap[b]? = some o) : w'.heap[b]? = some o := by
  rw [hE.block b (Array.getElem?_eq_some_iff.1 h).1]
  exact h
theorem one_sz (s : ByteArray) (a : Nat) (ha : a < s.size) : 1 ≤ (Utf8.decode s a).2 ∧ a + (Utf8.decode s a).2 ≤ s.size := by
  have h := rone_size s a ha
  unfold rnOf at h
  rw [roneR_decode s a ha] at h
  exact h
theorem dec_pos (s : ByteArray) (a : Nat) (ha : a < s.size) : 1 ≤ (Utf8.decode s a).2 := by
  have := one_sz s a ha
  exact this.1
set_option maxRecDepth 100000 in
set_option maxHeartbeats 2000000 in
theorem right_gen (s : ByteArray) (a : Nat) (ha : a < s.size) (hs : s.size ≤ 1000000) (w : World) (hT : TabU w) : Calls Tryd.prog 124 #[.string s, .int .i64 a, .int .i32 (Utf8.decode s a).1] w fun e w' => e = .returned (.bool (roneR s a).2.2) ∧ Ext w w' := by
  rw [roneR_decode s a ha]
  have hp := dec_pos s a ha
  have hd : Utf8.decode (s.extract a s.size) 0 = Utf8.decode s a := by rw [Lib.tail_decode]; rfl
  obtain ⟨⟨R, N⟩, hRN⟩ : ∃ p, p = Utf8.decode s a := ⟨_, rfl⟩
  rw [← hRN] at hp hd ⊢
  simp only at hp ⊢
  by_cases h : R = 65533
  · subst h
    have hz : (s.extract a s.size).size ≠ 0 := by rw [ByteArray.size_extract]; omega
    obtain ⟨T, hTT⟩ : ∃ T, T = s.extract a s.size := ⟨_, rfl⟩
    rw [← hTT] at hd hz
    have hgo : Lib.decodeGo T = (65533, N) := by unfold Lib.decodeGo; rw [if_neg hz]; exact hd
    have HGO := Lib.hid hgo
    have HTT := Lib.hid hTT
    clear hgo hd hRN hTT
    have ha2 : decide ((a : Int) ≤ (s.size : Int)) = true := by simp; omega
    go_enter Tryd.func124, Tryd.ntmps124
    go_wp2_with fail
    all_goals first
      | (exfalso; omega)
      | (rw [← HTT.out]
         refine (Tryd.utf8_DecodeRuneInString T w hT).mono ?_
         rw [HGO.out]
         rintro e w1 ⟨rfl, hE⟩
         have hE : Ext w w1 := hE
         go_wp2_with fail
         go_ret
         exact ⟨ret_bool (by rw [Bool.eq_iff_iff]; simp; omega), hE⟩)
  · have t1 : ((R : Int) == 65533) = false := by simp; omega
    go_enter Tryd.func124, Tryd.ntmps124
    go_wp2
    go_ret
    exact ⟨ret_bool (by simp [h]), Ext.refl w⟩
theorem okN_eq (i k : Nat) (x : Rn) (hik : i = 0 ↔ k = 0) (hok : 48 ≤ x.r → x.r ≤ 57 → x.ok = true) : okN i x = ((letN x.r || (decide (48 ≤ x.r) && decide (x.r ≤ 57) && decide (0 < k))) && x.ok) := by
  unfold okN letB letN
  rw [Bool.eq_iff_iff]
  cases h : x.ok
  · have : ¬ (48 ≤ x.r ∧ x.r ≤ 57) := fun ⟨h1, h2⟩ => by rw [hok h1 h2] at h; cases h
    simp
    omega
  · simp
    omega

set_option maxRecDepth 100000 in
set_option maxHeartbeats 8000000 in
theorem name_gen (s : ByteArray) (hs : s.size ≤ 1000000) (w : World) (hT : TabU w) :
    Calls Tryd.prog 84 #[.string s] w fun e w' => e = .returned (.bool (nameB s)) ∧ Ext w w' := by
  obtain ⟨Bk, hBk⟩ : ∃ B, B = nameB s := ⟨_, rfl⟩
  have HBK : Hid (Bk = (nmLoop 0 (rsAll s) && (decide (1 ≤ s.size) && decide (s.size ≤ 100)))) := hBk
  rw [← hBk]
  clear hBk
  go_enter Tryd.func84, Tryd.ntmps84
  go_wp2
  go_loopw [3] (fun _ wr => ∃ (k f i : Nat), k ≤ s.size ∧ wr.heap[w.heap.size]? = some (.stringIter s k) ∧ Ext w wr ∧ s.size ≤ k + f ∧ (i = 0 ↔ k = 0) ∧ Hid (nmLoop 0 (rsAll s) = nmLoop i (rsF s f k))) (fun _ wr => s.size - itPos wr w.heap.size)
  case atStart => exact ⟨0, s.size, 0, Nat.zero_le _, World.iter_heap w s 0, (Ext.refl w).alloc _, by omega, Iff.rfl, rfl⟩
  case round =>
    obtain ⟨k, f, i, hk, hit, hE, hf, hik, HX⟩ := hrel
    by_cases hlt : k < s.size
    · obtain ⟨f, rfl⟩ : ∃ f', f = f' + 1 := ⟨f - 1, by omega⟩
      have hsz := rone_size s k hlt
      have hX : nmLoop 0 (rsAll s) = (okN i (rnOf s k) && nmLoop (i + 1) (rsF s f (k + (rnOf s k).n))) := by
        rw [HX.out]
        conv => lhs; unfold rsF
        rw [if_pos hlt]
        rfl
      have hdec := roneR_decode s k hlt
      have hxr : (rnOf s k).r = (Utf8.decode s k).1 := by unfold rnOf; rw [hdec]
      have hxn : (rnOf s k).n = (Utf8.decode s k).2 := by unfold rnOf; rw [hdec]
      have hok : 48 ≤ (rnOf s k).r → (rnOf s k).r ≤ 57 → (rnOf s k).ok = true := fun h1 h2 => by
        rw [hxr] at h1 h2
        show (roneR s k).2.2 = true
        rw [hdec]
        simp
        omega
      rw [okN_eq i k _ hik hok] at hX
      have hnx := fun ty => Lib.run_next_any_at (P := Tryd.prog) wr w.heap.size s k ty hit hlt
      have hright := fun w' hT' => right_gen s k hlt hs w' hT'
      rw [← hxr] at hnx
      rw [← hxn] at hnx
      obtain ⟨w2, hw2⟩ : ∃ w2, w2 = wr.iterAt w.heap.size s (k + (rnOf s k).n) := ⟨_, rfl⟩
      rw [← hw2] at hnx
      have hit2 : w2.heap[w.heap.size]? = some (.stringIter s (k + (rnOf s k).n)) := by rw [hw2]; exact Lib.iterAt_heap wr w.heap.size s k _ hit
      have hE2 : Ext w w2 := by rw [hw2]; exact Lib.below_iterAt hE (Nat.le_refl _) s _
      have hright : ∀ w', TabU w' → Calls Tryd.prog 124 #[.string s, .int .i64 k, .int .i32 (rnOf s k).r] w' fun e w'' => e = .returned (.bool (rnOf s k).ok) ∧ Ext w' w'' := fun w' h => by rw [hxr]; exact hright w' h
      obtain ⟨⟨R, A, N, OK⟩, hx⟩ : ∃ x, x = rnOf s k := ⟨_, rfl⟩
      rw [← hx] at hX hnx hit2 hright hsz
      simp only at hX hnx hit2 hright hsz
      have HR := Lib.hid hright
      have hT2 := hT.ext hE2
      have HX2 := Lib.hid hX
      have hpos : Hid (itPos wr w.heap.size = k) := by show itPos _ _ = k; unfold itPos; rw [hit]
      clear hX hright hdec hxr hxn hok hw2 HX hx hit
      have FIN : ((letN R || (decide (48 ≤ R) && decide (R ≤ 57) && decide (0 < k))) && OK) = true → Hid (nmLoop 0 (rsAll s) = nmLoop (i + 1) (rsF s f (k + N))) := fun h => by show _ = _; rw [HX2.out, h]; rfl
      have BAD : ((letN R || (decide (48 ≤ R) && decide (R ≤ 57) && decide (0 < k))) && OK) = false → Hid (false = Bk) := fun h => by show false = Bk; rw [HBK.out, HX2.out, h]; rfl
      have HFIN := Lib.hid FIN
      have HBAD := Lib.hid BAD
      clear FIN BAD
      by_cases h48 : 48 ≤ R
      · have t1 : decide (48 ≤ (R : Int)) = true := by simp; omega
        by_cases h57 : R ≤ 57
        · have t2 : decide ((R : Int) ≤ 57) = true := by simp; omega
          by_cases hk0 : 0 < k
          · have t3 : decide (0 < (k : Int)) = true := by simp; omega
            cases hL : letN R
            · cases OK
              · skip
                have HF := HBAD.out (by rw [hL]; simp)
                go_wp2_with fail
                refine (letter_gen R w2).mono ?_
                rw [hL]
                rintro e w3 ⟨rfl, rfl⟩
                go_wp2_with fail
                refine (HR.out w2 hT2).mono ?_
                rintro e w4 ⟨rfl, hE4⟩
                go_wp2_with fail
                go_ret
                exact ⟨ret_bool HF.out, hE2.trans hE4⟩
              · skip
                have HF := HFIN.out (by rw [hL]; simp; omega)
                go_wp2_with fail
                refine (letter_gen R w2).mono ?_
                rw [hL]
                rintro e w3 ⟨rfl, rfl⟩
                go_wp2_with fail
                refine (HR.out w2 hT2).mono ?_
                rintro e w4 ⟨rfl, hE4⟩
                have hit4 : w4.heap[w.heap.size]? = some (.stringIter s (k + N)) := ext_iter hE4 hit2
                go_wp2_with fail
                go_roundw
                case rel => exact ⟨k + N, f, i + 1, by omega, hit4, hE2.trans hE4, by omega, by omega, HF⟩
                case measure => rw [hpos.out]; unfold itPos; rw [hit4]; simp only; omega
            · cases OK
              · skip
                have HF := HBAD.out (by rw [hL]; simp)
                go_wp2_with fail
                refine (letter_gen R w2).mono ?_
                rw [hL]
                rintro e w3 ⟨rfl, rfl⟩
                go_wp2_with fail
                refine (HR.out w2 hT2).mono ?_
                rintro e w4 ⟨rfl, hE4⟩
                go_wp2_with fail
                go_ret
                exact ⟨ret_bool HF.out, hE2.trans hE4⟩
              · skip
                have HF := HFIN.out (by rw [hL]; simp)
                go_wp2_with fail
                refine (letter_gen R w2).mono ?_
                rw [hL]
                rintro e w3 ⟨rfl, rfl⟩
                go_wp2_with fail
                refine (HR.out w2 hT2).mono ?_
                rintro e w4 ⟨rfl, hE4⟩
                have hit4 : w4.heap[w.heap.size]? = some (.stringIter s (k + N)) := ext_iter hE4 hit2
                go_wp2_with fail
                go_roundw
                case rel => exact ⟨k + N, f, i + 1, by omega, hit4, hE2.trans hE4, by omega, by omega, HF⟩
                case measure => rw [hpos.out]; unfold itPos; rw [hit4]; simp only; omega
          · have t3 : decide (0 < (k : Int)) = false := by simp; omega
            cases hL : letN R
            · skip
              have HF := HBAD.out (by rw [hL]; simp; omega)
              go_wp2_with fail
              refine (letter_gen R w2).mono ?_
              rw [hL]
              rintro e w3 ⟨rfl, rfl⟩
              go_wp2_with fail
              go_ret
              exact ⟨ret_bool HF.out, hE2⟩
            · cases OK
              · skip
                have HF := HBAD.out (by rw [hL]; simp)
                go_wp2_with fail
                refine (letter_gen R w2).mono ?_
                rw [hL]
                rintro e w3 ⟨rfl, rfl⟩
                go_wp2_with fail
                refine (HR.out w2 hT2).mono ?_
                rintro e w4 ⟨rfl, hE4⟩
                go_wp2_with fail
                go_ret
                exact ⟨ret_bool HF.out, hE2.trans hE4⟩
              · skip
                have HF := HFIN.out (by rw [hL]; simp)
                go_wp2_with fail
                refine (letter_gen R w2).mono ?_
                rw [hL]
                rintro e w3 ⟨rfl, rfl⟩
                go_wp2_with fail
                refine (HR.out w2 hT2).mono ?_
                rintro e w4 ⟨rfl, hE4⟩
                have hit4 : w4.heap[w.heap.size]? = some (.stringIter s (k + N)) := ext_iter hE4 hit2
                go_wp2_with fail
                go_roundw
                case rel => exact ⟨k + N, f, i + 1, by omega, hit4, hE2.trans hE4, by omega, by omega, HF⟩
                case measure => rw [hpos.out]; unfold itPos; rw [hit4]; simp only; omega
        · have t2 : decide ((R : Int) ≤ 57) = false := by simp; omega
          cases hL : letN R
          · skip
            have HF := HBAD.out (by rw [hL]; simp; omega)
            go_wp2_with fail
            refine (letter_gen R w2).mono ?_
            rw [hL]
            rintro e w3 ⟨rfl, rfl⟩
            go_wp2_with fail
            go_ret
            exact ⟨ret_bool HF.out, hE2⟩
          · cases OK
            · skip
              have HF := HBAD.out (by rw [hL]; simp)
              go_wp2_with fail
              refine (letter_gen R w2).mono ?_
              rw [hL]
              rintro e w3 ⟨rfl, rfl⟩
              go_wp2_with fail
              refine (HR.out w2 hT2).mono ?_
              rintro e w4 ⟨rfl, hE4⟩
              go_wp2_with fail
              go_ret
              exact ⟨ret_bool HF.out, hE2.trans hE4⟩
            · skip
              have HF := HFIN.out (by rw [hL]; simp)
              go_wp2_with fail
              refine (letter_gen R w2).mono ?_
              rw [hL]
              rintro e w3 ⟨rfl, rfl⟩
              go_wp2_with fail
              refine (HR.out w2 hT2).mono ?_
              rintro e w4 ⟨rfl, hE4⟩
              have hit4 : w4.heap[w.heap.size]? = some (.stringIter s (k + N)) := ext_iter hE4 hit2
              go_wp2_with fail
              go_roundw
              case rel => exact ⟨k + N, f, i + 1, by omega, hit4, hE2.trans hE4, by omega, by omega, HF⟩
              case measure => rw [hpos.out]; unfold itPos; rw [hit4]; simp only; omega
      · have t1 : decide (48 ≤ (R : Int)) = false := by simp; omega
        cases hL : letN R
        · skip
          have HF := HBAD.out (by rw [hL]; simp; omega)
          go_wp2_with fail
          refine (letter_gen R w2).mono ?_
          rw [hL]
          rintro e w3 ⟨rfl, rfl⟩
          go_wp2_with fail
          go_ret
          exact ⟨ret_bool HF.out, hE2⟩
        · cases OK
          · skip
            have HF := HBAD.out (by rw [hL]; simp)
            go_wp2_with fail
            refine (letter_gen R w2).mono ?_
            rw [hL]
            rintro e w3 ⟨rfl, rfl⟩
            go_wp2_with fail
            refine (HR.out w2 hT2).mono ?_
            rintro e w4 ⟨rfl, hE4⟩
            go_wp2_with fail
            go_ret
            exact ⟨ret_bool HF.out, hE2.trans hE4⟩
          · skip
            have HF := HFIN.out (by rw [hL]; simp)
            go_wp2_with fail
            refine (letter_gen R w2).mono ?_
            rw [hL]
            rintro e w3 ⟨rfl, rfl⟩
            go_wp2_with fail
            refine (HR.out w2 hT2).mono ?_
            rintro e w4 ⟨rfl, hE4⟩
            have hit4 : w4.heap[w.heap.size]? = some (.stringIter s (k + N)) := ext_iter hE4 hit2
            go_wp2_with fail
            go_roundw
            case rel => exact ⟨k + N, f, i + 1, by omega, hit4, hE2.trans hE4, by omega, by omega, HF⟩
            case measure => rw [hpos.out]; unfold itPos; rw [hit4]; simp only; omega
    · obtain rfl : k = s.size := by omega
      have hnx := fun ty => Lib.run_next_end_at (P := Tryd.prog) wr w.heap.size s s.size ty hit (by omega)
      have e1 : Hid (Bk = (decide (1 ≤ s.size) && decide (s.size ≤ 100))) := by
        show Bk = _
        rw [HBK.out, HX.out, rsF_end s f s.size (Nat.le_refl _)]
        rfl
      by_cases h0 : s.size = 0
      · have e0 : (s.toList == []) = true := by
          rw [ByteArray.toList_eq]
          have : s.data.toList = [] := List.eq_nil_of_length_eq_zero h0
          rw [this]
          rfl
        go_wp2_with fail
        go_ret
        exact ⟨ret_bool (by rw [e1.out, h0]; rfl), hE⟩
      · have e0 : (s.toList == []) = false := by
          rw [ByteArray.toList_eq]
          simp only [beq_eq_false_iff_ne, ne_eq]
          intro h
          exact h0 (by have := congrArg List.length h; exact this)
        go_wp2_with fail
        go_ret
        exact ⟨ret_bool (by rw [e1.out, Bool.eq_iff_iff]; simp; omega), hE⟩
end Go.Proofs.YtcmgeccgahakbaaDoor

/- The two tables of unicode/utf8, out of what the rows lay. -/
namespace Go.Proofs.YtcmgeccgahakbaaDoor
open Go.Lib

theorem u8types : U8Types Tryd.prog Tryd.lays197_ren := { t5 := Tryd.underlying5, t119 := by kernel_rfl, t138 := by kernel_rfl, t139 := by kernel_rfl }
theorem u8extra : U8Extra Tryd.prog Tryd.lays197_ren := by constructor <;> kernel_rfl
theorem first_eq : Rows.laid_unicode_utf8_first = firstData := by kernel_rfl
theorem accept_eq : (Rows.laid_unicode_utf8_acceptRanges : DataW Unit) = acceptData := by kernel_rfl
theorem tabU_of {w : World} (h : laidMetH Tryd.prog [("unicode/utf8.acceptRanges", Rows.laid_unicode_utf8_acceptRanges), ("unicode/utf8.first", Rows.laid_unicode_utf8_first)] w) : TabU w := by
  rw [MakeChecks.laidMetH_plain _ _ _ (by kernel_rfl)] at h
  have h3 : VarReads Tryd.prog w "unicode/utf8.first" firstData := by rw [← first_eq]; exact Go.Lib.laidMet.reads h (by simp)
  have h4 : VarReads Tryd.prog w "unicode/utf8.acceptRanges" acceptData := by rw [← accept_eq]; exact Go.Lib.laidMet.reads h (by simp)
  exact utf8Tabs_of_readsT u8types u8extra h3 h4
end Go.Proofs.YtcmgeccgahakbaaDoor

/- The tables that the Tree rows lay: unicode/utf8's two, and strconv's powers of ten. -/
namespace Go.Proofs.YtcmgeccgahakbaaDoor
open Go Go.Lib

theorem pow10_eq : (Rows.laid_internal_strconv_uint64pow10 : DataW Unit) = tabData .u64 pow10Tab := by kernel_rfl
theorem global_pow10 : (Tryd.prog.globalNamed "internal/strconv.uint64pow10").isSome = true := by kernel_rfl
theorem type_pow10 : ∀ g, Tryd.prog.globalNamed "internal/strconv.uint64pow10" = some g → (Tryd.prog.globals[g]?).map (·.type) = some 221 := by
  have h : (match Tryd.prog.globalNamed "internal/strconv.uint64pow10" with | some g => decide ((Tryd.prog.globals[g]?).map (·.type) = some 221) | none => false) = true := by kernel_rfl
  intro g hg
  rw [hg] at h
  simpa using h
/-- Both: what the Tree laws' walks take. -/
structure TabV (w : World) : Prop where
  u : TabU w
  p : TabIs Tryd.prog w "internal/strconv.uint64pow10" .u64 pow10Tab
theorem pow10_of_reads {w : World} (h : VarReads Tryd.prog w "internal/strconv.uint64pow10" (tabData .u64 pow10Tab)) : TabIs Tryd.prog w "internal/strconv.uint64pow10" .u64 pow10Tab := by
  obtain ⟨g, t, cs, fuel, p, h1, h2, h3, h4⟩ := h
  have ht := type_pow10 g h1
  rw [h2] at ht
  obtain rfl := Option.some.inj ht
  unfold TabIs
  rw [h3, ← cells_of_tab (e := 159) (n := 20) (by kernel_rfl) (by kernel_rfl) (by kernel_rfl) (by kernel_rfl) h4]
theorem tabV_of {w : World} (h : laidMetH Tryd.prog [("math/bits.deBruijn32tab", Rows.laid_math_bits_deBruijn32tab), ("math/bits.deBruijn64tab", Rows.laid_math_bits_deBruijn64tab), ("internal/strconv.uint64pow10", Rows.laid_internal_strconv_uint64pow10), ("unicode/utf8.acceptRanges", Rows.laid_unicode_utf8_acceptRanges), ("unicode/utf8.first", Rows.laid_unicode_utf8_first)] w) : TabV w := by
  rw [MakeChecks.laidMetH_plain _ _ _ (by kernel_rfl)] at h
  have h3 : VarReads Tryd.prog w "unicode/utf8.first" firstData := by rw [← first_eq]; exact Go.Lib.laidMet.reads h (by simp)
  have h4 : VarReads Tryd.prog w "unicode/utf8.acceptRanges" acceptData := by rw [← accept_eq]; exact Go.Lib.laidMet.reads h (by simp)
  have h5 : VarReads Tryd.prog w "internal/strconv.uint64pow10" (tabData .u64 pow10Tab) := by rw [← pow10_eq]; exact Go.Lib.laidMet.reads h (by simp)
  exact ⟨utf8Tabs_of_readsT u8types u8extra h3 h4, pow10_of_reads h5⟩
theorem pow10_ext {w w' : World} (h : TabIs Tryd.prog w "internal/strconv.uint64pow10" .u64 pow10Tab) (hE : Go.Proofs.YtcmgeccgahakbaaDoor.Ext w w') : TabIs Tryd.prog w' "internal/strconv.uint64pow10" .u64 pow10Tab := by
  obtain ⟨g, hg⟩ := Option.isSome_iff_exists.1 global_pow10
  exact Go.Joins.tab_stays hg h hE (Nat.le_refl _)
end Go.Proofs.YtcmgeccgahakbaaDoor
