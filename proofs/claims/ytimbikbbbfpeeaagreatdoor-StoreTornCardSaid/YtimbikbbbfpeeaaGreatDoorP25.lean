/- utf8.DecodeRuneInString, laid at this program: an application of a theorem of the shelf (the text is the tool's, its numbers by name). -/
import Derived.Shelf.Unicode.DecodeAny
import Derived.Test.YtimbikbbbfpeeaaGreatDoorProg
import Derived.Test.YtimbikbbbfpeeaaGreatDoorP24
import Derived.Lib.OthersKept
import Derived.Lib.RuneCountTail
import Derived.Test.YtimbikbbbfpeeaaGreatDoorP4
set_option linter.unusedSimpArgs false
set_option linter.unusedVariables false
namespace Go.Proofs
open Go.Shelf
def Tryz.lays197_ren : Go.Shelf.Ren := ⟨fun | 197 => 173 | 260 => 207 | n => n, fun | 9 => 9 | 21 => 21 | 3 => 3 | 4 => 4 | 5 => 5 | 105 => 245 | 119 => 293 | 0 => 0 | 46 => 152 | 139 => 296 | 138 => 295 | n => n, fun | 3 => 0 | 4 => 1 | n => n⟩
theorem Tryz.lays197 : Go.Proofs.Lays.n197 Tryz.prog Tryz.lays197_ren := {
  mixed := by kernel_rfl
  f197 := Tryz.func173.trans (congrArg some (by kernel_rfl))
  f260 := Tryz.func207.trans (congrArg some (by kernel_rfl))
  t0 := Tryz.underlying0
  a0 := Tryz.isAgg0
  z0 := Tryz.sizeOf0
  v0 := Tryz.zeroValue0
  t3 := Tryz.underlying3
  a3 := Tryz.isAgg3
  z3 := Tryz.sizeOf3
  v3 := Tryz.zeroValue3
  t4 := Tryz.underlying4
  a4 := Tryz.isAgg4
  z4 := Tryz.sizeOf4
  v4 := Tryz.zeroValue4
  t5 := Tryz.underlying5
  a5 := Tryz.isAgg5
  z5 := Tryz.sizeOf5
  v5 := Tryz.zeroValue5
  t9 := Tryz.underlying9
  a9 := Tryz.isAgg9
  z9 := Tryz.sizeOf9
  v9 := Tryz.zeroValue9
  t21 := Tryz.underlying21
  a21 := Tryz.isAgg21
  z21 := Tryz.sizeOf21
  v21 := Tryz.zeroValue21
  t46 := Tryz.underlying152
  a46 := Tryz.isAgg152
  z46 := Tryz.sizeOf152
  v46 := Tryz.zeroValue152
  t105 := Tryz.underlying245
  a105 := Tryz.isAgg245
  z105 := Tryz.sizeOf245
  v105 := Tryz.zeroValue245
  t119 := Tryz.underlying293
  a119 := Tryz.isAgg293
  z119 := Tryz.sizeOf293
  t138 := Tryz.underlying295
  a138 := Tryz.isAgg295
  z138 := Tryz.sizeOf295
  v138 := Tryz.zeroValue295
  t139 := Tryz.underlying296
  a139 := Tryz.isAgg296
  z139 := Tryz.sizeOf296
  v139 := Tryz.zeroValue296
  g3 := by kernel_rfl
  g4 := by kernel_rfl }
open Go.RowKit Go.Lib in
theorem Tryz.utf8_DecodeRuneInString (s : ByteArray) (w : World) (hT : Lib.Utf8Tabs 0 1 w) :
    Calls Tryz.prog 173 #[.string s] w fun e w' => e = .returned (.tuple #[.int .i32 (Lib.decodeGo s).1, .int .i64 (Lib.decodeGo s).2]) ∧ Below w.heap.size w w' := Any.utf8_DecodeRuneInString Tryz.lays197 s w hT
end Go.Proofs

/- runes.Name at any text. -/
namespace Go.Proofs.YtimbikbbbfpeeaaGreatDoor
open Go Go.RowKit
attribute [local go_sem] yields yUpon

def TabU (w : World) : Prop := Lib.Utf8Tabs 0 1 w
theorem TabU.ext {w w' : World} (hE : Ext w w') (h : TabU w) : TabU w' := ⟨fun c hc => hE.cell (h.1 c hc), fun i hi => ⟨hE.cell (h.2 i hi).1, hE.cell (h.2 i hi).2⟩⟩
def letN (r : Nat) : Bool := r == 95 || (decide (97 ≤ r) && decide (r ≤ 122)) || decide (128 ≤ r)
set_option maxHeartbeats 1000000 in
theorem letter_gen (r : Nat) (w : World) : Calls Tryz.prog 122 #[.int .i32 r] w fun e w' => e = .returned (.bool (letN r)) ∧ w = w' := by
  by_cases h1 : r = 95
  · subst h1
    go_enter Tryz.func122, Tryz.ntmps122
    go_wp2
    go_ret
    exact ⟨rfl, rfl⟩
  · have t1 : ((r : Int) == 95) = false := by simp; omega
    by_cases h2 : 97 ≤ r
    · have t2 : decide (97 ≤ (r : Int)) = true := by simp; omega
      by_cases h3 : r ≤ 122
      · have t3 : decide ((r : Int) ≤ 122) = true := by simp; omega
        go_enter Tryz.func122, Tryz.ntmps122
        go_wp2
        go_ret
        exact ⟨ret_bool (by unfold letN; simp; omega), rfl⟩
      · have t3 : decide ((r : Int) ≤ 122) = false := by simp; omega
        go_enter Tryz.func122, Tryz.ntmps122
        go_wp2
        go_ret
        exact ⟨ret_bool (by unfold letN; rw [Bool.eq_iff_iff]; simp; omega), rfl⟩
    · have t2 : decide (97 ≤ (r : Int)) = false := by simp; omega
      go_enter Tryz.func122, Tryz.ntmps122
      go_wp2
      go_ret
      exact ⟨ret_bool (by unfold letN; rw [Bool.eq_iff_iff]; simp; omega), rfl⟩
def itPos (w : World) (b : Nat) : Nat := match w.heap[b]? with | some (.stringIter _ p) => p | _ => 0
theorem ext_iter {w w' : World} {b : Nat} {o : Obj} (hE : Ext w w') (h : w.heap[b]? = some o) : w'.heap[b]? = some o := by
  rw [hE.block b (Array.getElem?_eq_some_iff.1 h).1]
  exact h
theorem one_sz (s : ByteArray) (a : Nat) (ha : a < s.size) : 1 ≤ (Utf8.decode s a).2 ∧ a + (Utf8.decode s a).2 ≤ s.size := by
  have h := rone_size s a ha
  unfold rnOf at h
  rw [roneR_decode s a ha] at h
  exact h
theorem dec_pos (s : ByteArray) (a : Nat) (ha : a < s.size) : 1 ≤ (Utf8.decode s a).2 := by
  have := one_sz s a ha
  exact this.1
set_option maxRecDepth 100000 in
set_option maxHeartbeats 2000000 in
theorem right_gen (s : ByteArray) (a : Nat) (ha : a < s.size) (hs : s.size ≤ 1000000) (w : World) (hT : TabU w) : Calls Tryz.prog 123 #[.string s, .int .i64 a, .int .i32 (Utf8.decode s a).1] w fun e w' => e = .returned (.bool (roneR s a).2.2) ∧ Ext w w' := by
  rw [roneR_decode s a ha]
  have hp := dec_pos s a ha
  have hd : Utf8.decode (s.extract a s.size) 0 = Utf8.decode s a := by rw [Lib.tail_decode]; rfl
  obtain ⟨⟨R, N⟩, hRN⟩ : ∃ p, p = Utf8.decode s a := ⟨_, rfl⟩
  rw [← hRN] at hp hd ⊢
  simp only at hp ⊢
  by_cases h : R = 65533
  · subst h
    have hz : (s.extract a s.size).size ≠ 0 := by rw [ByteArray.size_extract]; omega
    obtain ⟨T, hTT⟩ : ∃ T, T = s.extract a s.size := ⟨_, rfl⟩
    rw [← hTT] at hd hz
    have hgo : Lib.decodeGo T = (65533, N) := by unfold Lib.decodeGo; rw [if_neg hz]; exact hd
    have HGO := Lib.hid hgo
    have HTT := Lib.hid hTT
    clear hgo hd hRN hTT
    have ha2 : decide ((a : Int) ≤ (s.size : Int)) = true := by simp; omega
    go_enter Tryz.func123, Tryz.ntmps123
    go_wp2_with fail
    all_goals first
      | (exfalso; omega)
      | (rw [← HTT.out]
         refine (Tryz.utf8_DecodeRuneInString T w hT).mono ?_
         rw [HGO.out]
         rintro e w1 ⟨rfl, hE⟩
         have hE : Ext w w1 := hE
         go_wp2_with fail
         go_ret
         exact ⟨ret_bool (by rw [Bool.eq_iff_iff]; simp; omega), hE⟩)
  · have t1 : ((R : Int) == 65533) = false := by simp; omega
    go_enter Tryz.func123, Tryz.ntmps123
    go_wp2
    go_ret
    exact ⟨ret_bool (by simp [h]), Ext.refl w⟩
theorem okN_eq (i k : Nat) (x : Rn) (hik : i = 0 ↔ k = 0) (hok : 48 ≤ x.r → x.r ≤ 57 → x.ok = true) : okN i x = ((letN x.r || (decide (48 ≤ x.r) && decide (x.r ≤ 57) && decide (0 < k))) && x.ok) := by
  unfold okN letB letN
  rw [Bool.eq_iff_iff]
  cases h : x.ok
  · have : ¬ (48 ≤ x.r ∧ x.r ≤ 57) := fun ⟨h1, h2⟩ => by rw [hok h1 h2] at h; cases h
    simp
    omega
  · simp
    omega

set_option maxRecDepth 100000 in
set_option maxHeartbeats 8000000 in
theorem name_gen (s : ByteArray) (hs : s.size ≤ 1000000) (w : World) (hT : TabU w) :
    Calls Tryz.prog 71 #[.string s] w fun e w' => e = .returned (.bool (nameB s)) ∧ Ext w w' := by
  obtain ⟨Bk, hBk⟩ : ∃ B, B = nameB s := ⟨_, rfl⟩
  have HBK : Hid (Bk = (nmLoop 0 (rsAll s) && (decide (1 ≤ s.size) && decide (s.size ≤ 100)))) := hBk
  rw [← hBk]
  clear hBk
  go_enter Tryz.func71, Tryz.ntmps71
  go_wp2
  go_loopw [3] (fun _ wr => ∃ (k f i : Nat), k ≤ s.size ∧ wr.heap[w.heap.size]? = some (.stringIter s k) ∧ Ext w wr ∧ s.size ≤ k + f ∧ (i = 0 ↔ k = 0) ∧ Hid (nmLoop 0 (rsAll s) = nmLoop i (rsF s f k))) (fun _ wr => s.size - itPos wr w.heap.size)
  case atStart => exact ⟨0, s.size, 0, Nat.zero_le _, World.iter_heap w s 0, (Ext.refl w).alloc _, by omega, Iff.rfl, rfl⟩
  case round =>
    obtain ⟨k, f, i, hk, hit, hE, hf, hik, HX⟩ := hrel
    by_cases hlt : k < s.size
    · obtain ⟨f, rfl⟩ : ∃ f', f = f' + 1 := ⟨f - 1, by omega⟩
      have hsz := rone_size s k hlt
      have hX : nmLoop 0 (rsAll s) = (okN i (rnOf s k) && nmLoop (i + 1) (rsF s f (k + (rnOf s k).n))) := by
        rw [HX.out]
        conv => lhs; unfold rsF
        rw [if_pos hlt]
        rfl
      have hdec := roneR_decode s k hlt
      have hxr : (rnOf s k).r = (Utf8.decode s k).1 := by unfold rnOf; rw [hdec]
      have hxn : (rnOf s k).n = (Utf8.decode s k).2 := by unfold rnOf; rw [hdec]
      have hok : 48 ≤ (rnOf s k).r → (rnOf s k).r ≤ 57 → (rnOf s k).ok = true := fun h1 h2 => by
        rw [hxr] at h1 h2
        show (roneR s k).2.2 = true
        rw [hdec]
        simp
        omega
      rw [okN_eq i k _ hik hok] at hX
      have hnx := fun ty => Lib.run_next_any_at (P := Tryz.prog) wr w.heap.size s k ty hit hlt
      have hright := fun w' hT' => right_gen s k hlt hs w' hT'
      rw [← hxr] at hnx
      rw [← hxn] at hnx
      obtain ⟨w2, hw2⟩ : ∃ w2, w2 = wr.iterAt w.heap.size s (k + (rnOf s k).n) := ⟨_, rfl⟩
      rw [← hw2] at hnx
      have hit2 : w2.heap[w.heap.size]? = some (.stringIter s (k + (rnOf s k).n)) := by rw [hw2]; exact Lib.iterAt_heap wr w.heap.size s k _ hit
      have hE2 : Ext w w2 := by rw [hw2]; exact Lib.below_iterAt hE (Nat.le_refl _) s _
      have hright : ∀ w', TabU w' → Calls Tryz.prog 123 #[.string s, .int .i64 k, .int .i32 (rnOf s k).r] w' fun e w'' => e = .returned (.bool (rnOf s k).ok) ∧ Ext w' w'' := fun w' h => by rw [hxr]; exact hright w' h
      obtain ⟨⟨R, A, N, OK⟩, hx⟩ : ∃ x, x = rnOf s k := ⟨_, rfl⟩
      rw [← hx] at hX hnx hit2 hright hsz
      simp only at hX hnx hit2 hright hsz
      have HR := Lib.hid hright
      have hT2 := hT.ext hE2
      have HX2 := Lib.hid hX
      have hpos : Hid (itPos wr w.heap.size = k) := by show itPos _ _ = k; unfold itPos; rw [hit]
      clear hX hright hdec hxr hxn hok hw2 HX hx hit
      have FIN : ((letN R || (decide (48 ≤ R) && decide (R ≤ 57) && decide (0 < k))) && OK) = true → Hid (nmLoop 0 (rsAll s) = nmLoop (i + 1) (rsF s f (k + N))) := fun h => by show _ = _; rw [HX2.out, h]; rfl
      have BAD : ((letN R || (decide (48 ≤ R) && decide (R ≤ 57) && decide (0 < k))) && OK) = false → Hid (false = Bk) := fun h => by show false = Bk; rw [HBK.out, HX2.out, h]; rfl
      have HFIN := Lib.hid FIN
      have HBAD := Lib.hid BAD
      clear FIN BAD
      by_cases h48 : 48 ≤ R
      · have t1 : decide (48 ≤ (R : Int)) = true := by simp; omega
        by_cases h57 : R ≤ 57
        · have t2 : decide ((R : Int) ≤ 57) = true := by simp; omega
          by_cases hk0 : 0 < k
          · have t3 : decide (0 < (k : Int)) = true := by simp; omega
            cases hL : letN R
            · cases OK
              · skip
                have HF := HBAD.out (by rw [hL]; simp)
                go_wp2_with fail
                refine (letter_gen R w2).mono ?_
                rw [hL]
                rintro e w3 ⟨rfl, rfl⟩
                go_wp2_with fail
                refine (HR.out w2 hT2).mono ?_
                rintro e w4 ⟨rfl, hE4⟩
                go_wp2_with fail
                go_ret
                exact ⟨ret_bool HF.out, hE2.trans hE4⟩
              · skip
                have HF := HFIN.out (by rw [hL]; simp; omega)
                go_wp2_with fail
                refine (letter_gen R w2).mono ?_
                rw [hL]
                rintro e w3 ⟨rfl, rfl⟩
                go_wp2_with fail
                refine (HR.out w2 hT2).mono ?_
                rintro e w4 ⟨rfl, hE4⟩
                have hit4 : w4.heap[w.heap.size]? = some (.stringIter s (k + N)) := ext_iter hE4 hit2
                go_wp2_with fail
                go_roundw
                case rel => exact ⟨k + N, f, i + 1, by omega, hit4, hE2.trans hE4, by omega, by omega, HF⟩
                case measure => rw [hpos.out]; unfold itPos; rw [hit4]; simp only; omega
            · cases OK
              · skip
                have HF := HBAD.out (by rw [hL]; simp)
                go_wp2_with fail
                refine (letter_gen R w2).mono ?_
                rw [hL]
                rintro e w3 ⟨rfl, rfl⟩
                go_wp2_with fail
                refine (HR.out w2 hT2).mono ?_
                rintro e w4 ⟨rfl, hE4⟩
                go_wp2_with fail
                go_ret
                exact ⟨ret_bool HF.out, hE2.trans hE4⟩
              · skip
                have HF := HFIN.out (by rw [hL]; simp)
                go_wp2_with fail
                refine (letter_gen R w2).mono ?_
                rw [hL]
                rintro e w3 ⟨rfl, rfl⟩
                go_wp2_with fail
                refine (HR.out w2 hT2).mono ?_
                rintro e w4 ⟨rfl, hE4⟩
                have hit4 : w4.heap[w.heap.size]? = some (.stringIter s (k + N)) := ext_iter hE4 hit2
                go_wp2_with fail
                go_roundw
                case rel => exact ⟨k + N, f, i + 1, by omega, hit4, hE2.trans hE4, by omega, by omega, HF⟩
                case measure => rw [hpos.out]; unfold itPos; rw [hit4]; simp only; omega
          · have t3 : decide (0 < (k : Int)) = false := by simp; omega
            cases hL : letN R
            · skip
              have HF := HBAD.out (by rw [hL]; simp; omega)
              go_wp2_with fail
              refine (letter_gen R w2).mono ?_
              rw [hL]
              rintro e w3 ⟨rfl, rfl⟩
              go_wp2_with fail
              go_ret
              exact ⟨ret_bool HF.out, hE2⟩
            · cases OK
              · skip
                have HF := HBAD.out (by rw [hL]; simp)
                go_wp2_with fail
                refine (letter_gen R w2).mono ?_
                rw [hL]
                rintro e w3 ⟨rfl, rfl⟩
                go_wp2_with fail
                refine (HR.out w2 hT2).mono ?_
                rintro e w4 ⟨rfl, hE4⟩
                go_wp2_with fail
                go_ret
                exact ⟨ret_bool HF.out, hE2.trans hE4⟩
              · skip
                have HF := HFIN.out (by rw [hL]; simp)
                go_wp2_with fail
                refine (letter_gen R w2).mono ?_
                rw [hL]
                rintro e w3 ⟨rfl, rfl⟩
                go_wp2_with fail
                refine (HR.out w2 hT2).mono ?_
                rintro e w4 ⟨rfl, hE4⟩
                have hit4 : w4.heap[w.heap.size]? = some (.stringIter s (k + N)) := ext_iter hE4 hit2
                go_wp2_with fail
                go_roundw
                case rel => exact ⟨k + N, f, i + 1, by omega, hit4, hE2.trans hE4, by omega, by omega, HF⟩
                case measure => rw [hpos.out]; unfold itPos; rw [hit4]; simp only; omega
        · have t2 : decide ((R : Int) ≤ 57) = false := by simp; omega
          cases hL : letN R
          · skip
            have HF := HBAD.out (by rw [hL]; simp; omega)
            go_wp2_with fail
            refine (letter_gen R w2).mono ?_
            rw [hL]
            rintro e w3 ⟨rfl, rfl⟩
            go_wp2_with fail
            go_ret
            exact ⟨ret_bool HF.out, hE2⟩
          · cases OK
            · skip
              have HF := HBAD.out (by rw [hL]; simp)
              go_wp2_with fail
              refine (letter_gen R w2).mono ?_
              rw [hL]
              rintro e w3 ⟨rfl, rfl⟩
              go_wp2_with fail
              refine (HR.out w2 hT2).mono ?_
              rintro e w4 ⟨rfl, hE4⟩
              go_wp2_with fail
              go_ret
              exact ⟨ret_bool HF.out, hE2.trans hE4⟩
            · skip
              have HF := HFIN.out (by rw [hL]; simp)
              go_wp2_with fail
              refine (letter_gen R w2).mono ?_
              rw [hL]
              rintro e w3 ⟨rfl, rfl⟩
              go_wp2_with fail
              refine (HR.out w2 hT2).mono ?_
              rintro e w4 ⟨rfl, hE4⟩
              have hit4 : w4.heap[w.heap.size]? = some (.stringIter s (k + N)) := ext_iter hE4 hit2
              go_wp2_with fail
              go_roundw
              case rel => exact ⟨k + N, f, i + 1, by omega, hit4, hE2.trans hE4, by omega, by omega, HF⟩
              case measure => rw [hpos.out]; unfold itPos; rw [hit4]; simp only; omega
      · have t1 : decide (48 ≤ (R : Int)) = false := by simp; omega
        cases hL : letN R
        · skip
          have HF := HBAD.out (by rw [hL]; simp; omega)
          go_wp2_with fail
          refine (letter_gen R w2).mono ?_
          rw [hL]
          rintro e w3 ⟨rfl, rfl⟩
          go_wp2_with fail
          go_ret
          exact ⟨ret_bool HF.out, hE2⟩
        · cases OK
          · skip
            have HF := HBAD.out (by rw [hL]; simp)
            go_wp2_with fail
            refine (letter_gen R w2).mono ?_
            rw [hL]
            rintro e w3 ⟨rfl, rfl⟩
            go_wp2_with fail
            refine (HR.out w2 hT2).mono ?_
            rintro e w4 ⟨rfl, hE4⟩
            go_wp2_with fail
            go_ret
            exact ⟨ret_bool HF.out, hE2.trans hE4⟩
          · skip
            have HF := HFIN.out (by rw [hL]; simp)
            go_wp2_with fail
            refine (letter_gen R w2).mono ?_
            rw [hL]
            rintro e w3 ⟨rfl, rfl⟩
            go_wp2_with fail
            refine (HR.out w2 hT2).mono ?_
            rintro e w4 ⟨rfl, hE4⟩
            have hit4 : w4.heap[w.heap.size]? = some (.stringIter s (k + N)) := ext_iter hE4 hit2
            go_wp2_with fail
            go_roundw
            case rel => exact ⟨k + N, f, i + 1, by omega, hit4, hE2.trans hE4, by omega, by omega, HF⟩
            case measure => rw [hpos.out]; unfold itPos; rw [hit4]; simp only; omega
    · obtain rfl : k = s.size := by omega
      have hnx := fun ty => Lib.run_next_end_at (P := Tryz.prog) wr w.heap.size s s.size ty hit (by omega)
      have e1 : Hid (Bk = (decide (1 ≤ s.size) && decide (s.size ≤ 100))) := by
        show Bk = _
        rw [HBK.out, HX.out, rsF_end s f s.size (Nat.le_refl _)]
        rfl
      by_cases h0 : s.size = 0
      · have e0 : (s.toList == []) = true := by
          rw [ByteArray.toList_eq]
          have : s.data.toList = [] := List.eq_nil_of_length_eq_zero h0
          rw [this]
          rfl
        go_wp2_with fail
        go_ret
        exact ⟨ret_bool (by rw [e1.out, h0]; rfl), hE⟩
      · have e0 : (s.toList == []) = false := by
          rw [ByteArray.toList_eq]
          simp only [beq_eq_false_iff_ne, ne_eq]
          intro h
          exact h0 (by have := congrArg List.length h; exact this)
        go_wp2_with fail
        go_ret
        exact ⟨ret_bool (by rw [e1.out, Bool.eq_iff_iff]; simp; omega), hE⟩
end Go.Proofs.YtimbikbbbfpeeaaGreatDoor

/- The reference's Check of cells, of rows. (what a smaller cut has) -/
namespace Go.Proofs.YtimbikbbbfpeeaaGreatDoor
open Go Go.RowKit
attribute [local go_sem] yields yUpon

theorem less_leq : ∀ a b : List UInt8, (Op.bytesLess a b || a == b) = !Op.bytesLess b a
  | [], [] => rfl
  | [], b :: y => rfl
  | a :: x, [] => rfl
  | a :: x, b :: y => by
    have ih := less_leq x y
    unfold Op.bytesLess
    by_cases h : a = b
    · subst h
      simp [← ih]
    · by_cases h2 : a < b
      · have h3 : ¬ b < a := by
          rw [UInt8.lt_iff_toNat_lt] at *
          omega
        have h4 : ¬ b = a := fun e => h e.symm
        simp [h, h2, h3, h4]
      · have h3 : b < a := by
          rw [UInt8.lt_iff_toNat_lt] at *
          have h5 : a.toNat ≠ b.toNat := fun e => h (UInt8.toNat_inj.1 e)
          omega
        simp [h, h2, h3]
def orB : Option ByteArray → ByteArray → Bool
  | none, _ => true
  | some q, n => Op.bytesLess q.toList n.toList
/-- Columns that may be, behind a name. -/
def csB : Option ByteArray → List Co → Bool
  | _, [] => true
  | p, c :: l => nameB c.name && orB p c.name && checkC c.cell.val c.cell.dead c.cell.at_ c.cell.fin && decide (0 < c.cell.at_) && csB (some c.name) l
def prevM (l : List Co) : Nat → Option ByteArray
  | 0 => none
  | k + 1 => (l[k]?).map (·.name)
/-- A row's own cells may be. -/
def hdB (r : Ro) : Bool := !decide (400 < (r.key.size : Int)) && checkC r.live.val r.live.dead r.live.at_ r.live.fin && (r.live.val.toList == []) && !r.live.dead && stampB r.gone && stampB r.shade && !decide (8 < (r.cols.length : Int))
/-- A row that may be. -/
def rwB (r : Ro) : Bool := hdB r && csB none r.cols

theorem hdB_parts {r : Ro} (h : hdB r = true) : decide (400 < (r.key.size : Int)) = false ∧ checkC r.live.val r.live.dead r.live.at_ r.live.fin = true ∧ (r.live.val.toList == []) = true ∧ r.live.dead = false ∧ stampB r.gone = true ∧ stampB r.shade = true ∧ decide (8 < (r.cols.length : Int)) = false := by
  unfold hdB at h
  simp only [Bool.and_eq_true, Bool.not_eq_true'] at h
  obtain ⟨⟨⟨⟨⟨⟨a, b⟩, c⟩, d⟩, e⟩, f⟩, g⟩ := h
  exact ⟨a, b, c, d, e, f, g⟩
theorem csB_cons (p : Option ByteArray) (M : Co) (R : List Co) : csB p (M :: R) = (nameB M.name && orB p M.name && checkC M.cell.val M.cell.dead M.cell.at_ M.cell.fin && decide (0 < M.cell.at_) && csB (some M.name) R) := rfl
theorem prevM_succ {l : List Co} {k : Nat} {M : Co} {R : List Co} (hd : l.drop k = M :: R) : prevM l (k + 1) = some M.name := by
  have hk : k < l.length := by
    rcases Nat.lt_or_ge k l.length with h | h
    · exact h
    · rw [List.drop_eq_nil_of_le h] at hd; cases hd
  have e : l[k] = M := by rw [List.drop_eq_getElem_cons hk] at hd; exact (List.cons.inj hd).1
  simp [prevM, hk, e]
end Go.Proofs.YtimbikbbbfpeeaaGreatDoor
