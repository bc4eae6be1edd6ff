/- runes.Name at any text. -/
import Derived.Test.YtfagnbofnaoncaaGreatDoorP4
import Derived.Lib.OthersKept
import Derived.Lib.RuneCountTail
import Derived.Test.YtfagnbofnaoncaaGreatDoorP1
import Derived.ProofKit
import Derived.ChangeSlices
import Derived.WideShapes
import Derived.Test.YtfagnbofnaoncaaGreatDoorP3
set_option linter.unusedSimpArgs false
set_option linter.unusedVariables false
namespace Go.Proofs.YtfagnbofnaoncaaGreatDoor
open Go Go.RowKit
attribute [local go_sem] yields yUpon

def TabU (w : World) : Prop := Lib.Utf8Tabs 1 2 w
theorem TabU.ext {w w' : World} (hE : Ext w w') (h : TabU w) : TabU w' := ⟨fun c hc => hE.cell (h.1 c hc), fun i hi => ⟨hE.cell (h.2 i hi).1, hE.cell (h.2 i hi).2⟩⟩
def letN (r : Nat) : Bool := r == 95 || (decide (97 ≤ r) && decide (r ≤ 122)) || decide (128 ≤ r)
set_option maxHeartbeats 1000000 in
theorem letter_gen (r : Nat) (w : World) : Calls Tryz.prog 97 #[.int .i32 r] w fun e w' => e = .returned (.bool (letN r)) ∧ w = w' := by
  by_cases h1 : r = 95
  · subst h1
    go_enter Tryz.func97, Tryz.ntmps97
    go_wp2
    go_ret
    exact ⟨rfl, rfl⟩
  · have t1 : ((r : Int) == 95) = false := by simp; omega
    by_cases h2 : 97 ≤ r
    · have t2 : decide (97 ≤ (r : Int)) = true := by simp; omega
      by_cases h3 : r ≤ 122
      · have t3 : decide ((r : Int) ≤ 122) = true := by simp; omega
        go_enter Tryz.func97, Tryz.ntmps97
        go_wp2
        go_ret
        exact ⟨ret_bool (by unfold letN; simp; omega), rfl⟩
      · have t3 : decide ((r : Int) ≤ 122) = false := by simp; omega
        go_enter Tryz.func97, Tryz.ntmps97
        go_wp2
        go_ret
        exact ⟨ret_bool (by unfold letN; rw [Bool.eq_iff_iff]; simp; omega), rfl⟩
    · have t2 : decide (97 ≤ (r : Int)) = false := by simp; omega
      go_enter Tryz.func97, Tryz.ntmps97
      go_wp2
      go_ret
      exact ⟨ret_bool (by unfold letN; rw [Bool.eq_iff_iff]; simp; omega), rfl⟩
def itPos (w : World) (b : Nat) : Nat := match w.heap[b]? with | some (.stringIter _ p) => p | _ => 0
theorem ext_iter {w w' : World} {b : Nat} {o : Obj} (hE : Ext w w') (h : w.heap[b]? = some o) : w'.heap[b]? = some o := by
  rw [hE.block b (Array.getElem?_eq_some_iff.1 h).1]
  exact h
theorem one_sz (s : ByteArray) (a : Nat) (ha : a < s.size) : 1 ≤ (Utf8.decode s a).2 ∧ a + (Utf8.decode s a).2 ≤ s.size := by
  have h := rone_size s a ha
  unfold rnOf at h
  rw [roneR_decode s a ha] at h
  exact h
theorem dec_pos (s : ByteArray) (a : Nat) (ha : a < s.size) : 1 ≤ (Utf8.decode s a).2 := by
  have := one_sz s a ha
  exact this.1
set_option maxRecDepth 100000 in
set_option maxHeartbeats 2000000 in
theorem right_gen (s : ByteArray) (a : Nat) (ha : a < s.size) (hs : s.size ≤ 1000000) (w : World) (hT : TabU w) : Calls Tryz.prog 98 #[.string s, .int .i64 a, .int .i32 (Utf8.decode s a).1] w fun e w' => e = .returned (.bool (roneR s a).2.2) ∧ Ext w w' := by
  rw [roneR_decode s a ha]
  have hp := dec_pos s a ha
  have hd : Utf8.decode (s.extract a s.size) 0 = Utf8.decode s a := by rw [Lib.tail_decode]; rfl
  obtain ⟨⟨R, N⟩, hRN⟩ : ∃ p, p = Utf8.decode s a := ⟨_, rfl⟩
  rw [← hRN] at hp hd ⊢
  simp only at hp ⊢
  by_cases h : R = 65533
  · subst h
    have hz : (s.extract a s.size).size ≠ 0 := by rw [ByteArray.size_extract]; omega
    obtain ⟨T, hTT⟩ : ∃ T, T = s.extract a s.size := ⟨_, rfl⟩
    rw [← hTT] at hd hz
    have hgo : Lib.decodeGo T = (65533, N) := by unfold Lib.decodeGo; rw [if_neg hz]; exact hd
    have HGO := Lib.hid hgo
    have HTT := Lib.hid hTT
    clear hgo hd hRN hTT
    have ha2 : decide ((a : Int) ≤ (s.size : Int)) = true := by simp; omega
    go_enter Tryz.func98, Tryz.ntmps98
    go_wp2_with fail
    all_goals first
      | (exfalso; omega)
      | (rw [← HTT.out]
         refine (Tryz.utf8_DecodeRuneInString T w hT).mono ?_
         rw [HGO.out]
         rintro e w1 ⟨rfl, hE⟩
         have hE : Ext w w1 := hE
         go_wp2_with fail
         go_ret
         exact ⟨ret_bool (by rw [Bool.eq_iff_iff]; simp; omega), hE⟩)
  · have t1 : ((R : Int) == 65533) = false := by simp; omega
    go_enter Tryz.func98, Tryz.ntmps98
    go_wp2
    go_ret
    exact ⟨ret_bool (by simp [h]), Ext.refl w⟩
theorem okN_eq (i k : Nat) (x : Rn) (hik : i = 0 ↔ k = 0) (hok : 48 ≤ x.r → x.r ≤ 57 → x.ok = true) : okN i x = ((letN x.r || (decide (48 ≤ x.r) && decide (x.r ≤ 57) && decide (0 < k))) && x.ok) := by
  unfold okN letB letN
  rw [Bool.eq_iff_iff]
  cases h : x.ok
  · have : ¬ (48 ≤ x.r ∧ x.r ≤ 57) := fun ⟨h1, h2⟩ => by rw [hok h1 h2] at h; cases h
    simp
    omega
  · simp
    omega

set_option maxRecDepth 100000 in
set_option maxHeartbeats 8000000 in
theorem name_gen (s : ByteArray) (hs : s.size ≤ 1000000) (w : World) (hT : TabU w) :
    Calls Tryz.prog 49 #[.string s] w fun e w' => e = .returned (.bool (nameB s)) ∧ Ext w w' := by
  obtain ⟨Bk, hBk⟩ : ∃ B, B = nameB s := ⟨_, rfl⟩
  have HBK : Hid (Bk = (nmLoop 0 (rsAll s) && (decide (1 ≤ s.size) && decide (s.size ≤ 100)))) := hBk
  rw [← hBk]
  clear hBk
  go_enter Tryz.func49, Tryz.ntmps49
  go_wp2
  go_loopw [3] (fun _ wr => ∃ (k f i : Nat), k ≤ s.size ∧ wr.heap[w.heap.size]? = some (.stringIter s k) ∧ Ext w wr ∧ s.size ≤ k + f ∧ (i = 0 ↔ k = 0) ∧ Hid (nmLoop 0 (rsAll s) = nmLoop i (rsF s f k))) (fun _ wr => s.size - itPos wr w.heap.size)
  case atStart => exact ⟨0, s.size, 0, Nat.zero_le _, World.iter_heap w s 0, (Ext.refl w).alloc _, by omega, Iff.rfl, rfl⟩
  case round =>
    obtain ⟨k, f, i, hk, hit, hE, hf, hik, HX⟩ := hrel
    by_cases hlt : k < s.size
    · obtain ⟨f, rfl⟩ : ∃ f', f = f' + 1 := ⟨f - 1, by omega⟩
      have hsz := rone_size s k hlt
      have hX : nmLoop 0 (rsAll s) = (okN i (rnOf s k) && nmLoop (i + 1) (rsF s f (k + (rnOf s k).n))) := by
        rw [HX.out]
        conv => lhs; unfold rsF
        rw [if_pos hlt]
        rfl
      have hdec := roneR_decode s k hlt
      have hxr : (rnOf s k).r = (Utf8.decode s k).1 := by unfold rnOf; rw [hdec]
      have hxn : (rnOf s k).n = (Utf8.decode s k).2 := by unfold rnOf; rw [hdec]
      have hok : 48 ≤ (rnOf s k).r → (rnOf s k).r ≤ 57 → (rnOf s k).ok = true := fun h1 h2 => by
        rw [hxr] at h1 h2
        show (roneR s k).2.2 = true
        rw [hdec]
        simp
        omega
      rw [okN_eq i k _ hik hok] at hX
      have hnx := fun ty => Lib.run_next_any_at (P := Tryz.prog) wr w.heap.size s k ty hit hlt
      have hright := fun w' hT' => right_gen s k hlt hs w' hT'
      rw [← hxr] at hnx
      rw [← hxn] at hnx
      obtain ⟨w2, hw2⟩ : ∃ w2, w2 = wr.iterAt w.heap.size s (k + (rnOf s k).n) := ⟨_, rfl⟩
      rw [← hw2] at hnx
      have hit2 : w2.heap[w.heap.size]? = some (.stringIter s (k + (rnOf s k).n)) := by rw [hw2]; exact Lib.iterAt_heap wr w.heap.size s k _ hit
      have hE2 : Ext w w2 := by rw [hw2]; exact Lib.below_iterAt hE (Nat.le_refl _) s _
      have hright : ∀ w', TabU w' → Calls Tryz.prog 98 #[.string s, .int .i64 k, .int .i32 (rnOf s k).r] w' fun e w'' => e = .returned (.bool (rnOf s k).ok) ∧ Ext w' w'' := fun w' h => by rw [hxr]; exact hright w' h
      obtain ⟨⟨R, A, N, OK⟩, hx⟩ : ∃ x, x = rnOf s k := ⟨_, rfl⟩
      rw [← hx] at hX hnx hit2 hright hsz
      simp only at hX hnx hit2 hright hsz
      have HR := Lib.hid hright
      have hT2 := hT.ext hE2
      have HX2 := Lib.hid hX
      have hpos : Hid (itPos wr w.heap.size = k) := by show itPos _ _ = k; unfold itPos; rw [hit]
      clear hX hright hdec hxr hxn hok hw2 HX hx hit
      have FIN : ((letN R || (decide (48 ≤ R) && decide (R ≤ 57) && decide (0 < k))) && OK) = true → Hid (nmLoop 0 (rsAll s) = nmLoop (i + 1) (rsF s f (k + N))) := fun h => by show _ = _; rw [HX2.out, h]; rfl
      have BAD : ((letN R || (decide (48 ≤ R) && decide (R ≤ 57) && decide (0 < k))) && OK) = false → Hid (false = Bk) := fun h => by show false = Bk; rw [HBK.out, HX2.out, h]; rfl
      have HFIN := Lib.hid FIN
      have HBAD := Lib.hid BAD
      clear FIN BAD
      by_cases h48 : 48 ≤ R
      · have t1 : decide (48 ≤ (R : Int)) = true := by simp; omega
        by_cases h57 : R ≤ 57
        · have t2 : decide ((R : Int) ≤ 57) = true := by simp; omega
          by_cases hk0 : 0 < k
          · have t3 : decide (0 < (k : Int)) = true := by simp; omega
            cases hL : letN R
            · cases OK
              · skip
                have HF := HBAD.out (by rw [hL]; simp)
                go_wp2_with fail
                refine (letter_gen R w2).mono ?_
                rw [hL]
                rintro e w3 ⟨rfl, rfl⟩
                go_wp2_with fail
                refine (HR.out w2 hT2).mono ?_
                rintro e w4 ⟨rfl, hE4⟩
                go_wp2_with fail
                go_ret
                exact ⟨ret_bool HF.out, hE2.trans hE4⟩
              · skip
                have HF := HFIN.out (by rw [hL]; simp; omega)
                go_wp2_with fail
                refine (letter_gen R w2).mono ?_
                rw [hL]
                rintro e w3 ⟨rfl, rfl⟩
                go_wp2_with fail
                refine (HR.out w2 hT2).mono ?_
                rintro e w4 ⟨rfl, hE4⟩
                have hit4 : w4.heap[w.heap.size]? = some (.stringIter s (k + N)) := ext_iter hE4 hit2
                go_wp2_with fail
                go_roundw
                case rel => exact ⟨k + N, f, i + 1, by omega, hit4, hE2.trans hE4, by omega, by omega, HF⟩
                case measure => rw [hpos.out]; unfold itPos; rw [hit4]; simp only; omega
            · cases OK
              · skip
                have HF := HBAD.out (by rw [hL]; simp)
                go_wp2_with fail
                refine (letter_gen R w2).mono ?_
                rw [hL]
                rintro e w3 ⟨rfl, rfl⟩
                go_wp2_with fail
                refine (HR.out w2 hT2).mono ?_
                rintro e w4 ⟨rfl, hE4⟩
                go_wp2_with fail
                go_ret
                exact ⟨ret_bool HF.out, hE2.trans hE4⟩
              · skip
                have HF := HFIN.out (by rw [hL]; simp)
                go_wp2_with fail
                refine (letter_gen R w2).mono ?_
                rw [hL]
                rintro e w3 ⟨rfl, rfl⟩
                go_wp2_with fail
                refine (HR.out w2 hT2).mono ?_
                rintro e w4 ⟨rfl, hE4⟩
                have hit4 : w4.heap[w.heap.size]? = some (.stringIter s (k + N)) := ext_iter hE4 hit2
                go_wp2_with fail
                go_roundw
                case rel => exact ⟨k + N, f, i + 1, by omega, hit4, hE2.trans hE4, by omega, by omega, HF⟩
                case measure => rw [hpos.out]; unfold itPos; rw [hit4]; simp only; omega
          · have t3 : decide (0 < (k : Int)) = false := by simp; omega
            cases hL : letN R
            · skip
              have HF := HBAD.out (by rw [hL]; simp; omega)
              go_wp2_with fail
              refine (letter_gen R w2).mono ?_
              rw [hL]
              rintro e w3 ⟨rfl, rfl⟩
              go_wp2_with fail
              go_ret
              exact ⟨ret_bool HF.out, hE2⟩
            · cases OK
              · skip
                have HF := HBAD.out (by rw [hL]; simp)
                go_wp2_with fail
                refine (letter_gen R w2).mono ?_
                rw [hL]
                rintro e w3 ⟨rfl, rfl⟩
                go_wp2_with fail
                refine (HR.out w2 hT2).mono ?_
                rintro e w4 ⟨rfl, hE4⟩
                go_wp2_with fail
                go_ret
                exact ⟨ret_bool HF.out, hE2.trans hE4⟩
              · skip
                have HF := HFIN.out (by rw [hL]; simp)
                go_wp2_with fail
                refine (letter_gen R w2).mono ?_
                rw [hL]
                rintro e w3 ⟨rfl, rfl⟩
                go_wp2_with fail
                refine (HR.out w2 hT2).mono ?_
                rintro e w4 ⟨rfl, hE4⟩
                have hit4 : w4.heap[w.heap.size]? = some (.stringIter s (k + N)) := ext_iter hE4 hit2
                go_wp2_with fail
                go_roundw
                case rel => exact ⟨k + N, f, i + 1, by omega, hit4, hE2.trans hE4, by omega, by omega, HF⟩
                case measure => rw [hpos.out]; unfold itPos; rw [hit4]; simp only; omega
        · have t2 : decide ((R : Int) ≤ 57) = false := by simp; omega
          cases hL : letN R
          · skip
            have HF := HBAD.out (by rw [hL]; simp; omega)
            go_wp2_with fail
            refine (letter_gen R w2).mono ?_
            rw [hL]
            rintro e w3 ⟨rfl, rfl⟩
            go_wp2_with fail
            go_ret
            exact ⟨ret_bool HF.out, hE2⟩
          · cases OK
            · skip
              have HF := HBAD.out (by rw [hL]; simp)
              go_wp2_with fail
              refine (letter_gen R w2).mono ?_
              rw [hL]
              rintro e w3 ⟨rfl, rfl⟩
              go_wp2_with fail
              refine (HR.out w2 hT2).mono ?_
              rintro e w4 ⟨rfl, hE4⟩
              go_wp2_with fail
              go_ret
              exact ⟨ret_bool HF.out, hE2.trans hE4⟩
            · skip
              have HF := HFIN.out (by rw [hL]; simp)
              go_wp2_with fail
              refine (letter_gen R w2).mono ?_
              rw [hL]
              rintro e w3 ⟨rfl, rfl⟩
              go_wp2_with fail
              refine (HR.out w2 hT2).mono ?_
              rintro e w4 ⟨rfl, hE4⟩
              have hit4 : w4.heap[w.heap.size]? = some (.stringIter s (k + N)) := ext_iter hE4 hit2
              go_wp2_with fail
              go_roundw
              case rel => exact ⟨k + N, f, i + 1, by omega, hit4, hE2.trans hE4, by omega, by omega, HF⟩
              case measure => rw [hpos.out]; unfold itPos; rw [hit4]; simp only; omega
      · have t1 : decide (48 ≤ (R : Int)) = false := by simp; omega
        cases hL : letN R
        · skip
          have HF := HBAD.out (by rw [hL]; simp; omega)
          go_wp2_with fail
          refine (letter_gen R w2).mono ?_
          rw [hL]
          rintro e w3 ⟨rfl, rfl⟩
          go_wp2_with fail
          go_ret
          exact ⟨ret_bool HF.out, hE2⟩
        · cases OK
          · skip
            have HF := HBAD.out (by rw [hL]; simp)
            go_wp2_with fail
            refine (letter_gen R w2).mono ?_
            rw [hL]
            rintro e w3 ⟨rfl, rfl⟩
            go_wp2_with fail
            refine (HR.out w2 hT2).mono ?_
            rintro e w4 ⟨rfl, hE4⟩
            go_wp2_with fail
            go_ret
            exact ⟨ret_bool HF.out, hE2.trans hE4⟩
          · skip
            have HF := HFIN.out (by rw [hL]; simp)
            go_wp2_with fail
            refine (letter_gen R w2).mono ?_
            rw [hL]
            rintro e w3 ⟨rfl, rfl⟩
            go_wp2_with fail
            refine (HR.out w2 hT2).mono ?_
            rintro e w4 ⟨rfl, hE4⟩
            have hit4 : w4.heap[w.heap.size]? = some (.stringIter s (k + N)) := ext_iter hE4 hit2
            go_wp2_with fail
            go_roundw
            case rel => exact ⟨k + N, f, i + 1, by omega, hit4, hE2.trans hE4, by omega, by omega, HF⟩
            case measure => rw [hpos.out]; unfold itPos; rw [hit4]; simp only; omega
    · obtain rfl : k = s.size := by omega
      have hnx := fun ty => Lib.run_next_end_at (P := Tryz.prog) wr w.heap.size s s.size ty hit (by omega)
      have e1 : Hid (Bk = (decide (1 ≤ s.size) && decide (s.size ≤ 100))) := by
        show Bk = _
        rw [HBK.out, HX.out, rsF_end s f s.size (Nat.le_refl _)]
        rfl
      by_cases h0 : s.size = 0
      · have e0 : (s.toList == []) = true := by
          rw [ByteArray.toList_eq]
          have : s.data.toList = [] := List.eq_nil_of_length_eq_zero h0
          rw [this]
          rfl
        go_wp2_with fail
        go_ret
        exact ⟨ret_bool (by rw [e1.out, h0]; rfl), hE⟩
      · have e0 : (s.toList == []) = false := by
          rw [ByteArray.toList_eq]
          simp only [beq_eq_false_iff_ne, ne_eq]
          intro h
          exact h0 (by have := congrArg List.length h; exact this)
        go_wp2_with fail
        go_ret
        exact ⟨ret_bool (by rw [e1.out, Bool.eq_iff_iff]; simp; omega), hE⟩
end Go.Proofs.YtfagnbofnaoncaaGreatDoor

/- A slice of integers that comes in, read. -/
namespace Go.Proofs.YtfagnbofnaoncaaGreatDoor
open Go Go.RowKit Go.ChangeShapes Go.WideShapes Go.ChangeAt

/-- The cells of a list of integers. -/
def kcells (k : IntKind) (l : List Int) : List Value := l.map (Value.int k)
@[simp] theorem kcells_length (k : IntKind) (l : List Int) : (kcells k l).length = l.length := by simp [kcells]
theorem kcells_get (k : IntKind) (l : List Int) (i : Nat) : (kcells k l)[i]? = l[i]?.map (Value.int k) := by simp [kcells]
/-- v is a slice of integers that reads as l. -/
def IntsIn (w : World) (v : Value) (k : IntKind) (l : List Int) : Prop := SliceIn w v l.length (kcells k l)
theorem IntsIn.ext {w w' : World} (hE : Ext w w') {v : Value} {k : IntKind} {l : List Int} (h : IntsIn w v k l) : IntsIn w' v k l := SliceIn.ext hE h

theorem read_ints {P : Program} {H : Type} {enc : TypeId × Value → H} {W : World} {base : Nat} {t e : TypeId} {k : IntKind} {v : Value} {d : DataW H} {p : List MemPlace} (ht : P.underlying t = some (.slice e)) (he : P.underlying e = some (.int k)) (hc : P.cellsOf e = 1)
    (hv : Value.okWide P W .any base t v) (h : DataW.Trod enc P W 0 (fun _ => true) true t v d p) : ∃ l : List Int, IntsIn W v k l ∧ ∀ n ∈ l, (Lit.int k n).wf = true := by
  obtain ⟨a, len, cap, rfl⟩ := okWide_slice ht hv
  obtain ⟨fuel, hf⟩ := h
  rcases open_ints ht he hc hf with ⟨hcs, _⟩ | ⟨x, l, c, zs, hcs, _, hl, hm, hz, _, hcell, hwz⟩
  · simp [Value.cells] at hcs
    obtain ⟨rfl, rfl, rfl⟩ := hcs
    exact ⟨[], SliceIn.nil W, by simp⟩
  · simp [Value.cells] at hcs
    obtain ⟨rfl, rfl, rfl⟩ := hcs
    have hz' : zs.length = cap := by simpa using hz
    refine ⟨zs.take len, ?_, fun n hn => hwz n (List.mem_of_mem_take hn)⟩
    have hlen : (zs.take len).length = len := by simp; omega
    unfold IntsIn
    rw [hlen]
    refine ⟨some x, cap, rfl, hl, hm, nofun, fun j u hj => ?_⟩
    rw [kcells_get, List.getElem?_take] at hj
    split at hj
    · rename_i hlt
      have hjz : j < zs.length := by omega
      have hc := hcell j hjz
      have h0 := hcell 0 (by omega)
      obtain ⟨b, o, s⟩ := x
      have hs : s = none := by
        cases s with
        | none => rfl
        | some s =>
          simp only [Addr.add, if_pos] at h0
          unfold World.cell? at h0
          split at h0 <;> simp at h0
      subst hs
      refine ⟨b, o, rfl, ?_⟩
      rw [Addr.add_lit] at hc
      rw [hc, List.getD_eq_getElem?_getD]
      rw [List.getElem?_eq_getElem hjz] at hj ⊢
      simp at hj ⊢
      exact hj
    · cases hj
end Go.Proofs.YtfagnbofnaoncaaGreatDoor

/- pack.CheckBatch of batches whose partitions have no rows. (what a smaller cut has) -/
namespace Go.Proofs.YtfagnbofnaoncaaGreatDoor
open Go Go.RowKit
attribute [local go_sem] yields yUpon

/-- A mutation: its table, its partition's key and gone; a note. -/
structure Mu where
  table : ByteArray
  key : ByteArray
  gone : Int
structure Nt where
  id : Int
  body : ByteArray
def Mu.cells (x : Mu) : List Value := [.string x.table, .string x.key, .int .i64 x.gone, .slice none 0 0]
def Nt.cells (x : Nt) : List Value := [.int .i64 x.id, .string x.body]
def MusIn (w : World) (v : Value) (l : List Mu) : Prop := SliceIn w v l.length (l.flatMap Mu.cells)
def NtsIn (w : World) (v : Value) (l : List Nt) : Prop := SliceIn w v l.length (l.flatMap Nt.cells)
theorem MusIn.ext {w w' : World} (hE : Ext w w') {v : Value} {l : List Mu} (h : MusIn w v l) : MusIn w' v l := SliceIn.ext hE h
theorem NtsIn.ext {w w' : World} (hE : Ext w w') {v : Value} {l : List Nt} (h : NtsIn w v l) : NtsIn w' v l := SliceIn.ext hE h
theorem mus_at : ∀ {l : List Mu} {k : Nat} (hk : k < l.length) {j : Nat} (_ : j < 4), (l.flatMap Mu.cells)[k * 4 + j]? = (l[k]).cells[j]?
  | [], k, hk, _, _ => by simp at hk
  | o :: l, 0, _, j, hj => by rw [List.flatMap_cons, Nat.zero_mul, Nat.zero_add, List.getElem?_append_left (by show j < 4; exact hj)]; rfl
  | o :: l, k + 1, hk, j, hj => by
    have ih := mus_at (l := l) (k := k) (by simpa using hk) hj
    have e : o.cells.length = 4 := rfl
    rw [List.flatMap_cons, List.getElem?_append_right (by rw [e]; omega), e, show (k + 1) * 4 + j - 4 = k * 4 + j by omega, ih]
    rfl
theorem nts_at : ∀ {l : List Nt} {k : Nat} (hk : k < l.length) {j : Nat} (_ : j < 2), (l.flatMap Nt.cells)[k * 2 + j]? = (l[k]).cells[j]?
  | [], k, hk, _, _ => by simp at hk
  | o :: l, 0, _, j, hj => by rw [List.flatMap_cons, Nat.zero_mul, Nat.zero_add, List.getElem?_append_left (by show j < 2; exact hj)]; rfl
  | o :: l, k + 1, hk, j, hj => by
    have ih := nts_at (l := l) (k := k) (by simpa using hk) hj
    have e : o.cells.length = 2 := rfl
    rw [List.flatMap_cons, List.getElem?_append_right (by rw [e]; omega), e, show (k + 1) * 2 + j - 2 = k * 2 + j by omega, ih]
    rfl
theorem MusIn.get {w : World} {v : Value} {l : List Mu} (h : MusIn w v l) : ∃ a c, v = .slice a l.length c ∧ l.length ≤ c ∧ c ≤ 9223372036854775807 ∧ ∀ k (hk : k < l.length), ∃ b o, a = some ⟨b, o, none⟩ ∧ w.cell? ⟨b, o + k * 4, none⟩ = some (.string (l[k]).table) ∧ w.cell? ⟨b, o + k * 4 + 1, none⟩ = some (.string (l[k]).key) ∧ w.cell? ⟨b, o + k * 4 + 2, none⟩ = some (.int .i64 (l[k]).gone) ∧ w.cell? ⟨b, o + k * 4 + 3, none⟩ = some (.slice none 0 0) := by
  obtain ⟨a, c, rfl, hc, hcm, ha, hcell⟩ := h
  unfold maxLen at hcm
  refine ⟨a, c, rfl, hc, by omega, fun k hk => ?_⟩
  obtain ⟨b, o, rfl, h0⟩ := hcell (k * 4 + 0) _ (mus_at hk (by decide))
  obtain ⟨b1, o1, e1, h1⟩ := hcell (k * 4 + 1) _ (mus_at hk (by decide))
  cases e1
  obtain ⟨b1, o1, e1, h2⟩ := hcell (k * 4 + 2) _ (mus_at hk (by decide))
  cases e1
  obtain ⟨b1, o1, e1, h3⟩ := hcell (k * 4 + 3) _ (mus_at hk (by decide))
  cases e1
  exact ⟨b, o, rfl, h0, by rw [Nat.add_assoc]; exact h1, by rw [Nat.add_assoc]; exact h2, by rw [Nat.add_assoc]; exact h3⟩
theorem NtsIn.get {w : World} {v : Value} {l : List Nt} (h : NtsIn w v l) : ∃ a c, v = .slice a l.length c ∧ l.length ≤ c ∧ c ≤ 9223372036854775807 ∧ ∀ k (hk : k < l.length), ∃ b o, a = some ⟨b, o, none⟩ ∧ w.cell? ⟨b, o + k * 2, none⟩ = some (.int .i64 (l[k]).id) ∧ w.cell? ⟨b, o + k * 2 + 1, none⟩ = some (.string (l[k]).body) := by
  obtain ⟨a, c, rfl, hc, hcm, ha, hcell⟩ := h
  unfold maxLen at hcm
  refine ⟨a, c, rfl, hc, by omega, fun k hk => ?_⟩
  obtain ⟨b, o, rfl, h0⟩ := hcell (k * 2 + 0) _ (nts_at hk (by decide))
  obtain ⟨b1, o1, e1, h1⟩ := hcell (k * 2 + 1) _ (nts_at hk (by decide))
  cases e1
  exact ⟨b, o, rfl, h0, by rw [Nat.add_assoc]; exact h1⟩

def idB (n : Int) : Bool := decide (1 ≤ n) && decide (n ≤ 1099511627776)
def okMu (x : Mu) : Bool := nameB x.table && decide (0 ≤ x.gone)
def okNt (x : Nt) : Bool := idB x.id && decide (x.body.size ≤ 4096)
def cbB (M : List Mu) (A : List Nt) (D : List Int) : Bool := decide (M.length ≤ 64) && decide (A.length ≤ 300) && decide (D.length ≤ 300) && M.all okMu && A.all okNt && D.all idB

theorem check0_any (k : ByteArray) (g : Int) (hk : k.size ≤ 100) (h1 : g ≤ 1099511627776) (w : World) :
    Calls Tryz.prog 50 #[.agg #[.string k, .int .i64 g, .slice none 0 0]] w fun e w' => e = .returned (.bool (decide (0 ≤ g))) ∧ Ext w w' := by
  by_cases h0 : 0 ≤ g
  · rw [decide_eq_true h0]; exact check0_ok k g hk h0 h1 w
  · rw [decide_eq_false h0]; exact check0_no k g hk (by omega) w

theorem all_no {α : Type} {p : α → Bool} {l : List α} {k : Nat} (hk : k < l.length) (h : p l[k] = false) : l.all p = false := by
  rw [List.all_eq_false]
  exact ⟨_, List.getElem_mem hk, by rw [h]; decide⟩
theorem all_take {α : Type} {p : α → Bool} {l : List α} {k : Nat} (hk : k < l.length) (h : (l.take k).all p = true) (h1 : p l[k] = true) : (l.take (k + 1)).all p = true := by
  rw [List.take_succ_eq_append_getElem hk, List.all_append, h]; simpa using h1
end Go.Proofs.YtfagnbofnaoncaaGreatDoor

/- wire.Check of messages whose mutations have no rows. -/
namespace Go.Proofs.YtfagnbofnaoncaaGreatDoor
open Go Go.RowKit
attribute [local go_sem] yields yUpon

def TxIn (w : World) (v : Value) (l : List ByteArray) : Prop := SliceIn w v l.length (l.map Value.string)
theorem TxIn.ext {w w' : World} (hE : Ext w w') {v : Value} {l : List ByteArray} (h : TxIn w v l) : TxIn w' v l := SliceIn.ext hE h
theorem TxIn.get {w : World} {v : Value} {l : List ByteArray} (h : TxIn w v l) : ∃ a c, v = .slice a l.length c ∧ l.length ≤ c ∧ c ≤ 9223372036854775807 ∧ ∀ k (hk : k < l.length), ∃ b o, a = some ⟨b, o, none⟩ ∧ w.cell? ⟨b, o + k, none⟩ = some (.string l[k]) := by
  obtain ⟨a, c, rfl, hc, hcm, ha, hcell⟩ := h
  unfold maxLen at hcm
  exact ⟨a, c, rfl, hc, by omega, fun k hk => hcell k _ (by simp [hk])⟩
def inB (v most : Int) : Bool := decide (0 ≤ v) && decide (v ≤ most)
def longB (s : ByteArray) : Bool := decide (100 < s.size)
def badM (x : Mu) : Bool := !okMu x

set_option maxHeartbeats 400000 in
theorem in_any (v most : Int) (w : World) : Calls Tryz.prog 44 #[.int .i64 v, .int .i64 most] w fun e w' => e = .returned (.bool (inB v most)) ∧ w = w' := by
  by_cases h : 0 ≤ v
  · have t : decide (0 ≤ v) = true := by simpa using h
    have e : inB v most = decide (v ≤ most) := by unfold inB; rw [t]; rfl
    rw [e]
    go_enter Tryz.func44, Tryz.ntmps44
    go_wp2
    go_ret
    exact ⟨rfl, rfl⟩
  · have t : decide (0 ≤ v) = false := by simpa using h
    have e : inB v most = false := by unfold inB; rw [t]; rfl
    rw [e]
    go_enter Tryz.func44, Tryz.ntmps44
    go_wp2
    go_ret
    exact ⟨rfl, rfl⟩
set_option maxHeartbeats 400000 in
theorem long_any (s : ByteArray) (hs : s.size ≤ 1000000) (w : World) : Calls Tryz.prog 46 #[.string s] w fun e w' => e = .returned (.bool (longB s)) ∧ w = w' := by
  have e : longB s = decide ((100 : Int) < (s.size : Int)) := by
    unfold longB
    by_cases h : 100 < s.size
    · rw [decide_eq_true h, decide_eq_true (by omega)]
    · rw [decide_eq_false h, decide_eq_false (by omega)]
  rw [e]
  go_enter Tryz.func46, Tryz.ntmps46
  go_wp2
  go_ret
  exact ⟨rfl, rfl⟩
set_option maxHeartbeats 1000000 in
theorem badM_any (x : Mu) (w : World) (hT : TabU w) (h1 : x.table.size ≤ 100) (h2 : x.key.size ≤ 100) (h3 : x.gone ≤ 1099511627776) :
    Calls Tryz.prog 48 #[.agg #[.string x.table, .string x.key, .int .i64 x.gone, .slice none 0 0]] w fun e w' => e = .returned (.bool (badM x)) ∧ Ext w w' := by
  obtain ⟨t, k, g⟩ := x
  simp only at h1 h2 h3
  have hEb := (Ext.refl w).alloc (.cells #[.string t, .string k, .int .i64 g, .slice none 0 0] 106)
  have hbm := BoxAt.made w #[.string t, .string k, .int .i64 g, .slice none 0 0] 106
  have HB : Hid (badM ⟨t, k, g⟩ = !(nameB t && decide (0 ≤ g))) := Lib.hid rfl
  generalize badM ⟨t, k, g⟩ = R at HB ⊢
  cases hn : nameB t
  · have HN := Lib.hid hn
    clear hn
    go_enter Tryz.func48, Tryz.ntmps48
    go_wp2_with (go_at_call 49; go_must (refine (name_gen t (by omega) _ (hT.ext hEb)).mono ?_); rintro e w5 ⟨rfl, hE5⟩; rw [HN.out])
    go_ret
    exact ⟨by rw [HB.out, HN.out]; rfl, hEb.trans hE5⟩
  · have HN := Lib.hid hn
    clear hn
    cases hg : decide (0 ≤ g)
    all_goals
      have HG := Lib.hid hg
      clear hg
      go_enter Tryz.func48, Tryz.ntmps48
      go_wp2_with (first
        | (go_at_call 49; go_must (refine (name_gen t (by omega) _ (hT.ext hEb)).mono ?_); rintro e w5 ⟨rfl, hE5⟩; rw [HN.out]; have hb5 := hbm.ext hE5; have y1 : w5.cell? ⟨w.heap.size, 1, none⟩ = some (.string k) := hb5.cell 1; have y2 : w5.cell? ⟨w.heap.size, 2, none⟩ = some (.int .i64 g) := hb5.cell 2; have y3 : w5.cell? ⟨w.heap.size, 3, none⟩ = some (.slice none 0 0) := hb5.cell 3)
        | (go_at_call 50; go_must (refine (check0_any k g h2 h3 _).mono ?_); rintro e w6 ⟨rfl, hE6⟩; rw [HG.out]))
      go_ret
      exact ⟨by rw [HB.out, HN.out, HG.out]; rfl, (hEb.trans hE5).trans hE6⟩
theorem any_drop {α : Type} {p : α → Bool} {l : List α} {k : Nat} (hk : k < l.length) : (l.drop k).any p = (p l[k] || (l.drop (k + 1)).any p) := by
  rw [List.drop_eq_getElem_cons hk]; rfl

set_option maxRecDepth 100000 in
set_option maxHeartbeats 2000000 in
theorem indexT_any (v : Value) (l : List ByteArray) (w : World) (hin : TxIn w v l) (hb : ∀ s ∈ l, s.size ≤ 1000000) :
    Calls Tryz.prog 95 #[v, .func (.func 46) #[] #[]] w fun e w' => ∃ i : Int, e = .returned (.int .i64 i) ∧ w = w' ∧ decide (0 ≤ i) = l.any longB := by
  obtain ⟨a, c, rfl, hc, hcm, hget⟩ := hin.get
  have HG := Lib.hid hget
  have HB := Lib.hid hb
  obtain ⟨n, hn⟩ : ∃ n, n = l.length := ⟨_, rfl⟩
  rw [← hn] at hc ⊢
  have HN := Lib.hid hn
  clear hget hb hn hin
  go_enter Tryz.func95, Tryz.ntmps95
  go_wp2
  go_loop [8] (fun i => ∃ k : Nat, k ≤ n ∧ i = .int .i64 (k : Int) ∧ Hid (l.any longB = (l.drop k).any longB)) (fun i => n - (intOf i).toNat)
  case atStart => exact ⟨0, Nat.zero_le _, rfl, Lib.hid rfl⟩
  case round =>
    obtain ⟨k, hk, rfl, HX⟩ := hrel
    by_cases hlt : k < n
    · have hkF : k < l.length := by rw [← HN.out]; exact hlt
      obtain ⟨b, o, rfl, g0⟩ := HG.out k hkF
      have hs := HB.out _ (List.getElem_mem hkF)
      have HD := Lib.hid (any_drop (p := longB) hkF)
      obtain ⟨s, hse⟩ : ∃ s, s = l[k] := ⟨_, rfl⟩
      rw [← hse] at g0 hs HD
      clear hse
      cases hq : longB s
      all_goals
        have HQ := Lib.hid hq
        clear hq
        go_wp2_with (go_at_call 46; go_must (refine (long_any s hs _).mono ?_); rintro e w5 ⟨rfl, rfl⟩; rw [HQ.out])
      · go_round
        case rel => exact ⟨k + 1, by omega, by go_num, Lib.hid (by rw [HX.out, HD.out, HQ.out]; rfl)⟩
        case measure => simp [intOf]; omega
      · go_ret
        exact ⟨_, rfl, rfl, by rw [HX.out, HD.out, HQ.out]; exact decide_eq_true (by omega)⟩
    · obtain rfl : k = n := by omega
      go_wp2_with fail
      go_ret
      exact ⟨_, rfl, rfl, by rw [HX.out, HN.out, List.drop_length]; rfl⟩
set_option maxRecDepth 100000 in
set_option maxHeartbeats 4000000 in
theorem indexM_any (v : Value) (l : List Mu) (w : World) (hT : TabU w) (hin : MusIn w v l) (hb : ∀ x ∈ l, x.table.size ≤ 100 ∧ x.key.size ≤ 100 ∧ x.gone ≤ 1099511627776) :
    Calls Tryz.prog 96 #[v, .func (.func 48) #[] #[]] w fun e w' => ∃ i : Int, e = .returned (.int .i64 i) ∧ Ext w w' ∧ decide (0 ≤ i) = l.any badM := by
  obtain ⟨a, c, rfl, hc, hcm, hget⟩ := hin.get
  have HG := Lib.hid hget
  have HB := Lib.hid hb
  obtain ⟨n, hn⟩ : ∃ n, n = l.length := ⟨_, rfl⟩
  rw [← hn] at hc ⊢
  have HN := Lib.hid hn
  clear hget hb hn hin
  go_enter Tryz.func96, Tryz.ntmps96
  go_wp2
  go_loopw [8] (fun i wr => ∃ k : Nat, k ≤ n ∧ i = .int .i64 (k : Int) ∧ Hid (l.any badM = (l.drop k).any badM) ∧ Ext w wr) (fun i _ => n - (intOf i).toNat)
  case atStart => exact ⟨0, Nat.zero_le _, rfl, Lib.hid rfl, Ext.refl w⟩
  case round =>
    obtain ⟨k, hk, rfl, HX, hE⟩ := hrel
    by_cases hlt : k < n
    · have hkF : k < l.length := by rw [← HN.out]; exact hlt
      obtain ⟨b, o, rfl, g0, g1, g2, g3⟩ := HG.out k hkF
      replace g0 := hE.cell g0
      replace g1 := hE.cell g1
      replace g2 := hE.cell g2
      replace g3 := hE.cell g3
      obtain ⟨q1, q2, q3⟩ := HB.out _ (List.getElem_mem hkF)
      have HD := Lib.hid (any_drop (p := badM) hkF)
      have hTr := hT.ext hE
      obtain ⟨x, hx⟩ : ∃ x, x = l[k] := ⟨_, rfl⟩
      rw [← hx] at g0 g1 g2 q1 q2 q3 HD
      clear hx
      cases hq : badM x
      all_goals
        have HQ := Lib.hid hq
        clear hq
        go_wp2_with (go_at_call 48; go_must (refine (badM_any x _ hTr q1 q2 q3).mono ?_); rintro e w5 ⟨rfl, hE5⟩; rw [HQ.out])
      · go_roundw
        case rel => exact ⟨k + 1, by omega, by go_num, Lib.hid (by rw [HX.out, HD.out, HQ.out]; rfl), hE.trans hE5⟩
        case measure => simp [intOf]; omega
      · go_ret
        exact ⟨_, rfl, hE.trans hE5, by rw [HX.out, HD.out, HQ.out]; exact decide_eq_true (by omega)⟩
    · obtain rfl : k = n := by omega
      go_wp2_with fail
      go_ret
      exact ⟨_, rfl, hE, by rw [HX.out, HN.out, List.drop_length]; rfl⟩
set_option maxHeartbeats 1000000 in
theorem containsT_any (v : Value) (l : List ByteArray) (w : World) (hin : TxIn w v l) (hb : ∀ s ∈ l, s.size ≤ 1000000) :
    Calls Tryz.prog 45 #[v, .func (.func 46) #[] #[]] w fun e w' => e = .returned (.bool (l.any longB)) ∧ w = w' := by
  obtain ⟨a, c, rfl, _⟩ := hin.get
  go_enter Tryz.func45, Tryz.ntmps45
  go_wp2_with fail
  refine (indexT_any _ l w hin hb).mono ?_
  rintro e w1 ⟨i, rfl, rfl, hi⟩
  cases hq : l.any longB
  all_goals
    rw [hq] at hi
    have HQ := Lib.hid hq
    clear hq
    go_wp2
    go_ret
    exact ⟨by rw [HQ.out]; rfl, rfl⟩
set_option maxHeartbeats 1000000 in
theorem containsM_any (v : Value) (l : List Mu) (w : World) (hT : TabU w) (hin : MusIn w v l) (hb : ∀ x ∈ l, x.table.size ≤ 100 ∧ x.key.size ≤ 100 ∧ x.gone ≤ 1099511627776) :
    Calls Tryz.prog 47 #[v, .func (.func 48) #[] #[]] w fun e w' => e = .returned (.bool (l.any badM)) ∧ Ext w w' := by
  obtain ⟨a, c, rfl, _⟩ := hin.get
  go_enter Tryz.func47, Tryz.ntmps47
  go_wp2_with fail
  refine (indexM_any _ l w hT hin hb).mono ?_
  rintro e w1 ⟨i, rfl, hE1, hi⟩
  cases hq : l.any badM
  all_goals
    rw [hq] at hi
    have HQ := Lib.hid hq
    clear hq
    go_wp2
    go_ret
    exact ⟨by rw [HQ.out]; rfl, hE1⟩
end Go.Proofs.YtfagnbofnaoncaaGreatDoor
