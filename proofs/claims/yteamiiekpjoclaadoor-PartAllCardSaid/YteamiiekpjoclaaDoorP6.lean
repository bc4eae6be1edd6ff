/- runes.Name at any text. -/
import Derived.Test.YteamiiekpjoclaaDoorP5
import Derived.Lib.OthersKept
import Derived.Lib.RuneCountTail
import Derived.Test.YteamiiekpjoclaaDoorP3
import Derived.Laws.AppendOwnNone
set_option linter.unusedSimpArgs false
set_option linter.unusedVariables false
namespace Go.Proofs.YteamiiekpjoclaaDoor
open Go Go.RowKit
attribute [local go_sem] yields yUpon

def TabU (w : World) : Prop := Lib.Utf8Tabs 1 2 w
theorem TabU.ext {w w' : World} (hE : Ext w w') (h : TabU w) : TabU w' := ⟨fun c hc => hE.cell (h.1 c hc), fun i hi => ⟨hE.cell (h.2 i hi).1, hE.cell (h.2 i hi).2⟩⟩
def letN (r : Nat) : Bool := r == 95 || (decide (97 ≤ r) && decide (r ≤ 122)) || decide (128 ≤ r)
set_option maxHeartbeats 1000000 in
theorem letter_gen (r : Nat) (w : World) : Calls Tryd.prog 81 #[.int .i32 r] w fun e w' => e = .returned (.bool (letN r)) ∧ w = w' := by
  by_cases h1 : r = 95
  · subst h1
    go_enter Tryd.func81, Tryd.ntmps81
    go_wp2
    go_ret
    exact ⟨rfl, rfl⟩
  · have t1 : ((r : Int) == 95) = false := by simp; omega
    by_cases h2 : 97 ≤ r
    · have t2 : decide (97 ≤ (r : Int)) = true := by simp; omega
      by_cases h3 : r ≤ 122
      · have t3 : decide ((r : Int) ≤ 122) = true := by simp; omega
        go_enter Tryd.func81, Tryd.ntmps81
        go_wp2
        go_ret
        exact ⟨ret_bool (by unfold letN; simp; omega), rfl⟩
      · have t3 : decide ((r : Int) ≤ 122) = false := by simp; omega
        go_enter Tryd.func81, Tryd.ntmps81
        go_wp2
        go_ret
        exact ⟨ret_bool (by unfold letN; rw [Bool.eq_iff_iff]; simp; omega), rfl⟩
    · have t2 : decide (97 ≤ (r : Int)) = false := by simp; omega
      go_enter Tryd.func81, Tryd.ntmps81
      go_wp2
      go_ret
      exact ⟨ret_bool (by unfold letN; rw [Bool.eq_iff_iff]; simp; omega), rfl⟩
def itPos (w : World) (b : Nat) : Nat := match w.heap[b]? with | some (.stringIter _ p) => p | _ => 0
theorem ext_iter {w w' : World} {b : Nat} {o : Obj} (hE : Ext w w') (h : w.heap[b]? = some o) : w'.heap[b]? = some o := by
  rw [hE.block b (Array.getElem?_eq_some_iff.1 h).1]
  exact h
theorem one_sz (s : ByteArray) (a : Nat) (ha : a < s.size) : 1 ≤ (Utf8.decode s a).2 ∧ a + (Utf8.decode s a).2 ≤ s.size := by
  have h := rone_size s a ha
  unfold rnOf at h
  rw [roneR_decode s a ha] at h
  exact h
theorem dec_pos (s : ByteArray) (a : Nat) (ha : a < s.size) : 1 ≤ (Utf8.decode s a).2 := by
  have := one_sz s a ha
  exact this.1
set_option maxRecDepth 100000 in
set_option maxHeartbeats 2000000 in
theorem right_gen (s : ByteArray) (a : Nat) (ha : a < s.size) (hs : s.size ≤ 1000000) (w : World) (hT : TabU w) : Calls Tryd.prog 82 #[.string s, .int .i64 a, .int .i32 (Utf8.decode s a).1] w fun e w' => e = .returned (.bool (roneR s a).2.2) ∧ Ext w w' := by
  rw [roneR_decode s a ha]
  have hp := dec_pos s a ha
  have hd : Utf8.decode (s.extract a s.size) 0 = Utf8.decode s a := by rw [Lib.tail_decode]; rfl
  obtain ⟨⟨R, N⟩, hRN⟩ : ∃ p, p = Utf8.decode s a := ⟨_, rfl⟩
  rw [← hRN] at hp hd ⊢
  simp only at hp ⊢
  by_cases h : R = 65533
  · subst h
    have hz : (s.extract a s.size).size ≠ 0 := by rw [ByteArray.size_extract]; omega
    obtain ⟨T, hTT⟩ : ∃ T, T = s.extract a s.size := ⟨_, rfl⟩
    rw [← hTT] at hd hz
    have hgo : Lib.decodeGo T = (65533, N) := by unfold Lib.decodeGo; rw [if_neg hz]; exact hd
    have HGO := Lib.hid hgo
    have HTT := Lib.hid hTT
    clear hgo hd hRN hTT
    have ha2 : decide ((a : Int) ≤ (s.size : Int)) = true := by simp; omega
    go_enter Tryd.func82, Tryd.ntmps82
    go_wp2_with fail
    all_goals first
      | (exfalso; omega)
      | (rw [← HTT.out]
         refine (Tryd.utf8_DecodeRuneInString T w hT).mono ?_
         rw [HGO.out]
         rintro e w1 ⟨rfl, hE⟩
         have hE : Ext w w1 := hE
         go_wp2_with fail
         go_ret
         exact ⟨ret_bool (by rw [Bool.eq_iff_iff]; simp; omega), hE⟩)
  · have t1 : ((R : Int) == 65533) = false := by simp; omega
    go_enter Tryd.func82, Tryd.ntmps82
    go_wp2
    go_ret
    exact ⟨ret_bool (by simp [h]), Ext.refl w⟩
theorem okN_eq (i k : Nat) (x : Rn) (hik : i = 0 ↔ k = 0) (hok : 48 ≤ x.r → x.r ≤ 57 → x.ok = true) : okN i x = ((letN x.r || (decide (48 ≤ x.r) && decide (x.r ≤ 57) && decide (0 < k))) && x.ok) := by
  unfold okN letB letN
  rw [Bool.eq_iff_iff]
  cases h : x.ok
  · have : ¬ (48 ≤ x.r ∧ x.r ≤ 57) := fun ⟨h1, h2⟩ => by rw [hok h1 h2] at h; cases h
    simp
    omega
  · simp
    omega

set_option maxRecDepth 100000 in
set_option maxHeartbeats 8000000 in
theorem name_gen (s : ByteArray) (hs : s.size ≤ 1000000) (w : World) (hT : TabU w) :
    Calls Tryd.prog 53 #[.string s] w fun e w' => e = .returned (.bool (nameB s)) ∧ Ext w w' := by
  obtain ⟨Bk, hBk⟩ : ∃ B, B = nameB s := ⟨_, rfl⟩
  have HBK : Hid (Bk = (nmLoop 0 (rsAll s) && (decide (1 ≤ s.size) && decide (s.size ≤ 100)))) := hBk
  rw [← hBk]
  clear hBk
  go_enter Tryd.func53, Tryd.ntmps53
  go_wp2
  go_loopw [3] (fun _ wr => ∃ (k f i : Nat), k ≤ s.size ∧ wr.heap[w.heap.size]? = some (.stringIter s k) ∧ Ext w wr ∧ s.size ≤ k + f ∧ (i = 0 ↔ k = 0) ∧ Hid (nmLoop 0 (rsAll s) = nmLoop i (rsF s f k))) (fun _ wr => s.size - itPos wr w.heap.size)
  case atStart => exact ⟨0, s.size, 0, Nat.zero_le _, World.iter_heap w s 0, (Ext.refl w).alloc _, by omega, Iff.rfl, rfl⟩
  case round =>
    obtain ⟨k, f, i, hk, hit, hE, hf, hik, HX⟩ := hrel
    by_cases hlt : k < s.size
    · obtain ⟨f, rfl⟩ : ∃ f', f = f' + 1 := ⟨f - 1, by omega⟩
      have hsz := rone_size s k hlt
      have hX : nmLoop 0 (rsAll s) = (okN i (rnOf s k) && nmLoop (i + 1) (rsF s f (k + (rnOf s k).n))) := by
        rw [HX.out]
        conv => lhs; unfold rsF
        rw [if_pos hlt]
        rfl
      have hdec := roneR_decode s k hlt
      have hxr : (rnOf s k).r = (Utf8.decode s k).1 := by unfold rnOf; rw [hdec]
      have hxn : (rnOf s k).n = (Utf8.decode s k).2 := by unfold rnOf; rw [hdec]
      have hok : 48 ≤ (rnOf s k).r → (rnOf s k).r ≤ 57 → (rnOf s k).ok = true := fun h1 h2 => by
        rw [hxr] at h1 h2
        show (roneR s k).2.2 = true
        rw [hdec]
        simp
        omega
      rw [okN_eq i k _ hik hok] at hX
      have hnx := fun ty => Lib.run_next_any_at (P := Tryd.prog) wr w.heap.size s k ty hit hlt
      have hright := fun w' hT' => right_gen s k hlt hs w' hT'
      rw [← hxr] at hnx
      rw [← hxn] at hnx
      obtain ⟨w2, hw2⟩ : ∃ w2, w2 = wr.iterAt w.heap.size s (k + (rnOf s k).n) := ⟨_, rfl⟩
      rw [← hw2] at hnx
      have hit2 : w2.heap[w.heap.size]? = some (.stringIter s (k + (rnOf s k).n)) := by rw [hw2]; exact Lib.iterAt_heap wr w.heap.size s k _ hit
      have hE2 : Ext w w2 := by rw [hw2]; exact Lib.below_iterAt hE (Nat.le_refl _) s _
      have hright : ∀ w', TabU w' → Calls Tryd.prog 82 #[.string s, .int .i64 k, .int .i32 (rnOf s k).r] w' fun e w'' => e = .returned (.bool (rnOf s k).ok) ∧ Ext w' w'' := fun w' h => by rw [hxr]; exact hright w' h
      obtain ⟨⟨R, A, N, OK⟩, hx⟩ : ∃ x, x = rnOf s k := ⟨_, rfl⟩
      rw [← hx] at hX hnx hit2 hright hsz
      simp only at hX hnx hit2 hright hsz
      have HR := Lib.hid hright
      have hT2 := hT.ext hE2
      have HX2 := Lib.hid hX
      have hpos : Hid (itPos wr w.heap.size = k) := by show itPos _ _ = k; unfold itPos; rw [hit]
      clear hX hright hdec hxr hxn hok hw2 HX hx hit
      have FIN : ((letN R || (decide (48 ≤ R) && decide (R ≤ 57) && decide (0 < k))) && OK) = true → Hid (nmLoop 0 (rsAll s) = nmLoop (i + 1) (rsF s f (k + N))) := fun h => by show _ = _; rw [HX2.out, h]; rfl
      have BAD : ((letN R || (decide (48 ≤ R) && decide (R ≤ 57) && decide (0 < k))) && OK) = false → Hid (false = Bk) := fun h => by show false = Bk; rw [HBK.out, HX2.out, h]; rfl
      have HFIN := Lib.hid FIN
      have HBAD := Lib.hid BAD
      clear FIN BAD
      by_cases h48 : 48 ≤ R
      · have t1 : decide (48 ≤ (R : Int)) = true := by simp; omega
        by_cases h57 : R ≤ 57
        · have t2 : decide ((R : Int) ≤ 57) = true := by simp; omega
          by_cases hk0 : 0 < k
          · have t3 : decide (0 < (k : Int)) = true := by simp; omega
            cases hL : letN R
            · cases OK
              · skip
                have HF := HBAD.out (by rw [hL]; simp)
                go_wp2_with fail
                refine (letter_gen R w2).mono ?_
                rw [hL]
                rintro e w3 ⟨rfl, rfl⟩
                go_wp2_with fail
                refine (HR.out w2 hT2).mono ?_
                rintro e w4 ⟨rfl, hE4⟩
                go_wp2_with fail
                go_ret
                exact ⟨ret_bool HF.out, hE2.trans hE4⟩
              · skip
                have HF := HFIN.out (by rw [hL]; simp; omega)
                go_wp2_with fail
                refine (letter_gen R w2).mono ?_
                rw [hL]
                rintro e w3 ⟨rfl, rfl⟩
                go_wp2_with fail
                refine (HR.out w2 hT2).mono ?_
                rintro e w4 ⟨rfl, hE4⟩
                have hit4 : w4.heap[w.heap.size]? = some (.stringIter s (k + N)) := ext_iter hE4 hit2
                go_wp2_with fail
                go_roundw
                case rel => exact ⟨k + N, f, i + 1, by omega, hit4, hE2.trans hE4, by omega, by omega, HF⟩
                case measure => rw [hpos.out]; unfold itPos; rw [hit4]; simp only; omega
            · cases OK
              · skip
                have HF := HBAD.out (by rw [hL]; simp)
                go_wp2_with fail
                refine (letter_gen R w2).mono ?_
                rw [hL]
                rintro e w3 ⟨rfl, rfl⟩
                go_wp2_with fail
                refine (HR.out w2 hT2).mono ?_
                rintro e w4 ⟨rfl, hE4⟩
                go_wp2_with fail
                go_ret
                exact ⟨ret_bool HF.out, hE2.trans hE4⟩
              · skip
                have HF := HFIN.out (by rw [hL]; simp)
                go_wp2_with fail
                refine (letter_gen R w2).mono ?_
                rw [hL]
                rintro e w3 ⟨rfl, rfl⟩
                go_wp2_with fail
                refine (HR.out w2 hT2).mono ?_
                rintro e w4 ⟨rfl, hE4⟩
                have hit4 : w4.heap[w.heap.size]? = some (.stringIter s (k + N)) := ext_iter hE4 hit2
                go_wp2_with fail
                go_roundw
                case rel => exact ⟨k + N, f, i + 1, by omega, hit4, hE2.trans hE4, by omega, by omega, HF⟩
                case measure => rw [hpos.out]; unfold itPos; rw [hit4]; simp only; omega
          · have t3 : decide (0 < (k : Int)) = false := by simp; omega
            cases hL : letN R
            · skip
              have HF := HBAD.out (by rw [hL]; simp; omega)
              go_wp2_with fail
              refine (letter_gen R w2).mono ?_
              rw [hL]
              rintro e w3 ⟨rfl, rfl⟩
              go_wp2_with fail
              go_ret
              exact ⟨ret_bool HF.out, hE2⟩
            · cases OK
              · skip
                have HF := HBAD.out (by rw [hL]; simp)
                go_wp2_with fail
                refine (letter_gen R w2).mono ?_
                rw [hL]
                rintro e w3 ⟨rfl, rfl⟩
                go_wp2_with fail
                refine (HR.out w2 hT2).mono ?_
                rintro e w4 ⟨rfl, hE4⟩
                go_wp2_with fail
                go_ret
                exact ⟨ret_bool HF.out, hE2.trans hE4⟩
              · skip
                have HF := HFIN.out (by rw [hL]; simp)
                go_wp2_with fail
                refine (letter_gen R w2).mono ?_
                rw [hL]
                rintro e w3 ⟨rfl, rfl⟩
                go_wp2_with fail
                refine (HR.out w2 hT2).mono ?_
                rintro e w4 ⟨rfl, hE4⟩
                have hit4 : w4.heap[w.heap.size]? = some (.stringIter s (k + N)) := ext_iter hE4 hit2
                go_wp2_with fail
                go_roundw
                case rel => exact ⟨k + N, f, i + 1, by omega, hit4, hE2.trans hE4, by omega, by omega, HF⟩
                case measure => rw [hpos.out]; unfold itPos; rw [hit4]; simp only; omega
        · have t2 : decide ((R : Int) ≤ 57) = false := by simp; omega
          cases hL : letN R
          · skip
            have HF := HBAD.out (by rw [hL]; simp; omega)
            go_wp2_with fail
            refine (letter_gen R w2).mono ?_
            rw [hL]
            rintro e w3 ⟨rfl, rfl⟩
            go_wp2_with fail
            go_ret
            exact ⟨ret_bool HF.out, hE2⟩
          · cases OK
            · skip
              have HF := HBAD.out (by rw [hL]; simp)
              go_wp2_with fail
              refine (letter_gen R w2).mono ?_
              rw [hL]
              rintro e w3 ⟨rfl, rfl⟩
              go_wp2_with fail
              refine (HR.out w2 hT2).mono ?_
              rintro e w4 ⟨rfl, hE4⟩
              go_wp2_with fail
              go_ret
              exact ⟨ret_bool HF.out, hE2.trans hE4⟩
            · skip
              have HF := HFIN.out (by rw [hL]; simp)
              go_wp2_with fail
              refine (letter_gen R w2).mono ?_
              rw [hL]
              rintro e w3 ⟨rfl, rfl⟩
              go_wp2_with fail
              refine (HR.out w2 hT2).mono ?_
              rintro e w4 ⟨rfl, hE4⟩
              have hit4 : w4.heap[w.heap.size]? = some (.stringIter s (k + N)) := ext_iter hE4 hit2
              go_wp2_with fail
              go_roundw
              case rel => exact ⟨k + N, f, i + 1, by omega, hit4, hE2.trans hE4, by omega, by omega, HF⟩
              case measure => rw [hpos.out]; unfold itPos; rw [hit4]; simp only; omega
      · have t1 : decide (48 ≤ (R : Int)) = false := by simp; omega
        cases hL : letN R
        · skip
          have HF := HBAD.out (by rw [hL]; simp; omega)
          go_wp2_with fail
          refine (letter_gen R w2).mono ?_
          rw [hL]
          rintro e w3 ⟨rfl, rfl⟩
          go_wp2_with fail
          go_ret
          exact ⟨ret_bool HF.out, hE2⟩
        · cases OK
          · skip
            have HF := HBAD.out (by rw [hL]; simp)
            go_wp2_with fail
            refine (letter_gen R w2).mono ?_
            rw [hL]
            rintro e w3 ⟨rfl, rfl⟩
            go_wp2_with fail
            refine (HR.out w2 hT2).mono ?_
            rintro e w4 ⟨rfl, hE4⟩
            go_wp2_with fail
            go_ret
            exact ⟨ret_bool HF.out, hE2.trans hE4⟩
          · skip
            have HF := HFIN.out (by rw [hL]; simp)
            go_wp2_with fail
            refine (letter_gen R w2).mono ?_
            rw [hL]
            rintro e w3 ⟨rfl, rfl⟩
            go_wp2_with fail
            refine (HR.out w2 hT2).mono ?_
            rintro e w4 ⟨rfl, hE4⟩
            have hit4 : w4.heap[w.heap.size]? = some (.stringIter s (k + N)) := ext_iter hE4 hit2
            go_wp2_with fail
            go_roundw
            case rel => exact ⟨k + N, f, i + 1, by omega, hit4, hE2.trans hE4, by omega, by omega, HF⟩
            case measure => rw [hpos.out]; unfold itPos; rw [hit4]; simp only; omega
    · obtain rfl : k = s.size := by omega
      have hnx := fun ty => Lib.run_next_end_at (P := Tryd.prog) wr w.heap.size s s.size ty hit (by omega)
      have e1 : Hid (Bk = (decide (1 ≤ s.size) && decide (s.size ≤ 100))) := by
        show Bk = _
        rw [HBK.out, HX.out, rsF_end s f s.size (Nat.le_refl _)]
        rfl
      by_cases h0 : s.size = 0
      · have e0 : (s.toList == []) = true := by
          rw [ByteArray.toList_eq]
          have : s.data.toList = [] := List.eq_nil_of_length_eq_zero h0
          rw [this]
          rfl
        go_wp2_with fail
        go_ret
        exact ⟨ret_bool (by rw [e1.out, h0]; rfl), hE⟩
      · have e0 : (s.toList == []) = false := by
          rw [ByteArray.toList_eq]
          simp only [beq_eq_false_iff_ne, ne_eq]
          intro h
          exact h0 (by have := congrArg List.length h; exact this)
        go_wp2_with fail
        go_ret
        exact ⟨ret_bool (by rw [e1.out, Bool.eq_iff_iff]; simp; omega), hE⟩
end Go.Proofs.YteamiiekpjoclaaDoor

/- 'append' to a list of columns of one's own. -/
namespace Go.Proofs.YteamiiekpjoclaaDoor
open Go Go.RowKit

theorem coCells_one (l : List Co) : ∀ u ∈ coCells l, u.oneCell' = true := by
  induction l with
  | nil => intro u h; cases h
  | cons c l ih =>
    intro u h
    simp only [coCells, List.mem_cons] at h
    rcases h with rfl | rfl | rfl | rfl | rfl | h
    · rfl
    · rfl
    · rfl
    · rfl
    · rfl
    · exact ih u h
theorem appCols {ops : Array Oper} {rest : List Oper} {o : Oper} {a : Act} {Q : Exit → Act → World → Prop} (w : World) (hg : o.guard = none) (s x : Operand)
    (hop : o.op = Op.call { callee := Callee.builtin Builtin.append, args := #[s, x], argTypes := #[24, 24] })
    (B : Nat) (hB : B ≤ w.heap.size) (v : Value) (l : List Co) (hown : w.ownsRow B 80 5 v l.length (coCells l)) (hs : a.eval s = v) (u : Value) (m : List Co) (hin : ColsIn w u m) (hx : a.eval x = u) (hb : l.length + m.length ≤ 1000000)
    (hK : ∀ v' w', w'.ownsRow B 80 5 v' (l ++ m).length (coCells (l ++ m)) → w.grownBy w' v.ownBlock → wpList Tryd.prog ops Q rest (a.put o.dst v') w') : wpList Tryd.prog ops Q (o :: rest) a w := by
  obtain ⟨i0, hi, hz0, hz1, hz2⟩ := info_parts info_Col
  obtain ⟨ao, c, rfl, hc, hcm, ha, hcell⟩ := hin
  cases ao with
  | none =>
    have hc0 := ha rfl
    obtain rfl : m = [] := List.eq_nil_of_length_eq_zero (by omega)
    subst hc0
    refine wpList_append_own_none hg s x 24 hop B 80 i0 5 und_Cols hi v l.length (coCells l) hs hown hx (hK _ _ (by rw [List.append_nil]; exact hown) ⟨rfl, rfl, rfl, Nat.le_refl _, fun _ _ _ => rfl⟩)
  | some ad =>
    refine wpList_append_own _ hg s x 24 hop B 80 i0 _ 5 56 und_Cols hi hz0 hz1 hz2 rfl (by decide) v l.length (coCells l) hs hown ad m.length c (coCells m) hx (coCells_length m) ?_ (coCells_one m) (by unfold maxLen; omega) (by omega) hB ?_
    · intro j u hj
      obtain ⟨b, o, e, h⟩ := hcell j u hj
      cases e
      rw [Addr.add_lit]
      exact h
    · intro v' w' h2 h3 _
      refine hK v' w' ?_ h3
      rw [coCells_append, List.length_append]
      exact h2
theorem cols_own {w : World} {B : Nat} {v : Value} {l : List Co} (h : w.ownsRow B 80 5 v l.length (coCells l)) : ColsIn w v l := SliceIn.of_owns h
theorem cols_two (w : World) (c d : Co) (T : TypeId) : ColsIn (w.alloc (.cells (co5 c ++ co5 d) T)) (.slice (some ⟨w.heap.size, 0, none⟩) 2 2) [c, d] :=
  SliceIn.made w (co5 c ++ co5 d) T 2 (by unfold maxLen; decide)
theorem own_shape {w : World} {B : Nat} {e : TypeId} {size : Nat} {v : Value} {n : Nat} {xs : List Value} (h : w.ownsRow B e size v n xs) : ∃ a c, v = .slice a n c := by
  obtain ⟨a, c, h, _⟩ := SliceIn.of_owns h
  exact ⟨a, c, h⟩
theorem own_ne_box {w : World} {B : Nat} {e e' : TypeId} {size : Nat} {v : Value} {n b : Nat} {xs : List Value} {cs : Array Value} (h : w.ownsRow B e size v n xs) (hb : BoxAt w b cs e') (hne : e ≠ e') : v.ownBlock = none ∨ v.ownBlock ≠ some b := by
  rcases h.2 with ⟨rfl, _⟩ | ⟨g, cap, cur, rfl, _, hg, _⟩
  · exact .inl rfl
  · refine .inr (fun h => ?_)
    have hgb : g = b := Option.some.inj h
    subst hgb
    unfold BoxAt at hb
    rw [hg] at hb
    injection hb with hb
    injection hb with h1 h2
    exact hne h2
theorem own_setCell {w : World} {B : Nat} {e : TypeId} {size : Nat} {v : Value} {n : Nat} {xs : List Value} {q i : Nat} {u : Value} (h : w.ownsRow B e size v n xs) (hne : v.ownBlock = none ∨ v.ownBlock ≠ some q) : (w.setCell ⟨q, i, none⟩ u).ownsRow B e size v n xs :=
  h.kept (row := some q) ⟨rfl, rfl, rfl, by rw [Deep.nblk_setCell]; exact Nat.le_refl _, fun k _ hk => Deep.blk_setCell_other _ _ _ _ (fun e => hk (by rw [e]))⟩ hne
theorem own_ne_own {w : World} {B B' : Nat} {e e' : TypeId} {size size' : Nat} {v v' : Value} {n n' : Nat} {xs xs' : List Value} (h : w.ownsRow B e size v n xs) (h' : w.ownsRow B' e' size' v' n' xs') (hne : e ≠ e') : v.ownBlock = none ∨ v.ownBlock ≠ v'.ownBlock := by
  rcases h.2 with ⟨rfl, _⟩ | ⟨g, cap, cur, rfl, _, hg, _⟩
  · exact .inl rfl
  · refine .inr (fun h => ?_)
    rcases h'.2 with ⟨rfl, _⟩ | ⟨g', cap', cur', rfl, _, hg', _⟩
    · cases h
    · have hgb : g = g' := Option.some.inj h
      subst hgb
      rw [hg] at hg'
      injection hg' with hb
      injection hb with h1 h2
      exact hne h2
end Go.Proofs.YteamiiekpjoclaaDoor

/- Lists of rows in memory; 'append' to such a list of one's own; rows' columns that stay while such a list grows. -/
namespace Go.Proofs.YteamiiekpjoclaaDoor
open Go Go.RowKit

theorem info_Row : (Tryd.prog.info? 26).map (fun i => (i.zero, i.size, i.bytes)) = some (some (.agg #[.string ⟨#[]⟩, .string ⟨#[]⟩, .bool false, .int .i64 0, .int .i64 0, .int .i64 0, .int .i64 0, .slice none 0 0]), 8, 96) := by kernel_rfl
theorem und_Rows : Tryd.prog.underlying 33 = some (.slice 26) := by kernel_rfl
/-- The cells of rows, each with the value of its columns. -/
def roCells : List (Ro × Value) → List Value
  | [] => []
  | p :: l => .string p.1.key :: .string p.1.live.val :: .bool p.1.live.dead :: .int .i64 p.1.live.at_ :: .int .i64 p.1.live.fin :: .int .i64 p.1.gone :: .int .i64 p.1.shade :: p.2 :: roCells l
theorem roCells_length (l : List (Ro × Value)) : (roCells l).length = l.length * 8 := by
  induction l with
  | nil => rfl
  | cons c l ih => simp [roCells, ih]; omega
theorem roCells_append (l m : List (Ro × Value)) : roCells (l ++ m) = roCells l ++ roCells m := by
  induction l with
  | nil => rfl
  | cons c l ih => simp [roCells, ih]
theorem roCells_get : ∀ (l : List (Ro × Value)) (k : Nat) (h : k < l.length) (j : Nat), j < 8 → (roCells l)[k * 8 + j]? = (ro8 l[k].1 l[k].2)[j]?
  | c :: l, 0, _, j, hj => by
    obtain rfl | rfl | rfl | rfl | rfl | rfl | rfl | rfl : j = 0 ∨ j = 1 ∨ j = 2 ∨ j = 3 ∨ j = 4 ∨ j = 5 ∨ j = 6 ∨ j = 7 := by omega
    all_goals simp [roCells, ro8]
  | c :: l, k + 1, h, j, hj => by
    have ih := roCells_get l k (by simpa using h) j hj
    have e : (k + 1) * 8 + j = k * 8 + j + 8 := by omega
    simp only [e, roCells, List.getElem_cons_succ]
    simpa using ih
/-- Rows in memory: v is a slice that reads as ps, each row's columns lie where its value says. -/
structure RowsIn (w : World) (v : Value) (ps : List (Ro × Value)) : Prop where
  rows : SliceIn w v ps.length (roCells ps)
  cols : ∀ p ∈ ps, ColsIn w p.2 p.1.cols
theorem RowsIn.ext {w w' : World} (hE : Ext w w') {v : Value} {ps : List (Ro × Value)} (h : RowsIn w v ps) : RowsIn w' v ps := ⟨h.rows.ext hE, fun p hp => (h.cols p hp).ext hE⟩
/-- A row at a place in memory. -/
structure RoAt (w : World) (b o : Nat) (r : Ro) (v : Value) : Prop where
  c0 : w.cell? ⟨b, o, none⟩ = some (.string r.key)
  c1 : w.cell? ⟨b, o + 1, none⟩ = some (.string r.live.val)
  c2 : w.cell? ⟨b, o + 2, none⟩ = some (.bool r.live.dead)
  c3 : w.cell? ⟨b, o + 3, none⟩ = some (.int .i64 r.live.at_)
  c4 : w.cell? ⟨b, o + 4, none⟩ = some (.int .i64 r.live.fin)
  c5 : w.cell? ⟨b, o + 5, none⟩ = some (.int .i64 r.gone)
  c6 : w.cell? ⟨b, o + 6, none⟩ = some (.int .i64 r.shade)
  c7 : w.cell? ⟨b, o + 7, none⟩ = some v
theorem RoAt.ext {w w' : World} (hE : Ext w w') {b o : Nat} {r : Ro} {v : Value} (h : RoAt w b o r v) : RoAt w' b o r v := ⟨hE.cell h.c0, hE.cell h.c1, hE.cell h.c2, hE.cell h.c3, hE.cell h.c4, hE.cell h.c5, hE.cell h.c6, hE.cell h.c7⟩
theorem RowsIn.get {w : World} {v : Value} {ps : List (Ro × Value)} (h : RowsIn w v ps) : ∃ a c, v = .slice a ps.length c ∧ ps.length ≤ c ∧ c ≤ 9223372036854775807 ∧ ∀ k (hk : k < ps.length), ∃ b o, a = some ⟨b, o, none⟩ ∧ RoAt w b (o + k * 8) ps[k].1 ps[k].2 := by
  obtain ⟨a, c, rfl, hc, hcm, ha, hcell⟩ := h.rows
  unfold maxLen at hcm
  refine ⟨a, c, rfl, hc, by omega, fun k hk => ?_⟩
  have g : ∀ j u, j < 8 → (ro8 ps[k].1 ps[k].2)[j]? = some u → ∃ b o, a = some ⟨b, o, none⟩ ∧ w.cell? ⟨b, o + (k * 8 + j), none⟩ = some u := fun j u hj he => hcell _ u ((roCells_get ps k hk j hj).trans he)
  obtain ⟨b, o, rfl, h0⟩ := g 0 _ (by decide) rfl
  obtain ⟨b1, o1, e1, h1⟩ := g 1 _ (by decide) rfl
  obtain ⟨b2, o2, e2, h2⟩ := g 2 _ (by decide) rfl
  obtain ⟨b3, o3, e3, h3⟩ := g 3 _ (by decide) rfl
  obtain ⟨b4, o4, e4, h4⟩ := g 4 _ (by decide) rfl
  obtain ⟨b5, o5, e5, h5⟩ := g 5 _ (by decide) rfl
  obtain ⟨b6, o6, e6, h6⟩ := g 6 _ (by decide) rfl
  obtain ⟨b7, o7, e7, h7⟩ := g 7 _ (by decide) rfl
  cases e1; cases e2; cases e3; cases e4; cases e5; cases e6; cases e7
  exact ⟨b, o, rfl, h0, h1, h2, h3, h4, h5, h6, h7⟩
theorem rows_one {w : World} {b : Nat} {r : Ro} {v : Value} {T : TypeId} (hb : BoxAt w b (ro8 r v) T) (hc : ColsIn w v r.cols) : RowsIn w (.slice (some ⟨b, 0, none⟩) 1 1) [(r, v)] :=
  ⟨⟨_, 1, rfl, Nat.le_refl _, by unfold maxLen; decide, nofun, fun j u hj => ⟨b, 0, rfl, by rw [Nat.zero_add, hb.cell j]; simpa [roCells, ro8] using hj⟩⟩, fun p hp => by rw [List.mem_singleton.1 hp]; exact hc⟩

theorem ColsIn.shape {w : World} {v : Value} {l : List Co} (h : ColsIn w v l) : ∃ a c, v = .slice a l.length c := by
  obtain ⟨a, c, e, _⟩ := h
  exact ⟨a, c, e⟩
theorem RowsIn.nil (w : World) : RowsIn w (.slice none 0 0) [] := ⟨SliceIn.nil w, nofun⟩
theorem roCells_one (l : List (Ro × Value)) (h : ∀ p ∈ l, ∃ a n c, p.2 = .slice a n c) : ∀ u ∈ roCells l, u.oneCell' = true := by
  induction l with
  | nil => intro u h; cases h
  | cons c l ih =>
    intro u hu
    simp only [roCells, List.mem_cons] at hu
    rcases hu with rfl | rfl | rfl | rfl | rfl | rfl | rfl | rfl | hu
    all_goals try rfl
    · obtain ⟨a, n, c, e⟩ := h _ (List.mem_cons_self ..)
      rw [e]
      rfl
    · exact ih (fun p hp => h p (List.mem_cons_of_mem _ hp)) u hu
theorem RowsIn.uncons {w : World} {v : Value} {l : List (Ro × Value)} (h : RowsIn w v l) (hl : 0 < l.length) : ∃ b o c A a cc l', l = (A, .slice a A.cols.length cc) :: l' ∧ v = .slice (some ⟨b, o, none⟩) l.length c ∧ l.length ≤ c ∧ c ≤ 9223372036854775807 ∧ RoAt w b o A (.slice a A.cols.length cc) ∧ ColsIn w (.slice a A.cols.length cc) A.cols ∧ RowsIn w (.slice (if c = 1 then some ⟨b, o, none⟩ else some ⟨b, o + 8, none⟩) (l.length - 1) (c - 1)) l' := by
  obtain ⟨a, c, rfl, hc, hcm, hg⟩ := h.get
  obtain ⟨b, o, rfl, h0⟩ := hg 0 hl
  cases l with
  | nil => cases hl
  | cons p l' =>
    obtain ⟨A, u⟩ := p
    have hcol := h.cols _ (List.mem_cons_self ..)
    obtain ⟨a, cc, e⟩ := hcol.shape
    simp only at e
    subst e
    refine ⟨b, o, c, A, a, cc, l', rfl, rfl, hc, hcm, by simpa using h0, hcol, ?_, fun p hp => h.cols p (List.mem_cons_of_mem _ hp)⟩
    obtain ⟨a', c', e, hc', hcm', ha', hcell⟩ := h.rows
    cases e
    refine ⟨if c = 1 then some ⟨b, o, none⟩ else some ⟨b, o + 8, none⟩, c - 1, by simp, by simp at hc' ⊢; omega, by unfold maxLen; omega, (by intro h; split at h <;> cases h), fun j u hj => ?_⟩
    obtain ⟨b', o', e, hx⟩ := hcell (j + 8) u (by simpa [roCells] using hj)
    cases e
    by_cases h1 : c = 1
    · have h2 : l' = [] := List.eq_nil_of_length_eq_zero (by simp at hc'; omega)
      subst h2
      cases hj
    · rw [if_neg h1]
      exact ⟨b, o + 8, rfl, by rw [Nat.add_assoc, Nat.add_comm 8 j]; exact hx⟩
theorem appRows {ops : Array Oper} {rest : List Oper} {o : Oper} {a : Act} {Q : Exit → Act → World → Prop} (w : World) (hg : o.guard = none) (s x : Operand)
    (hop : o.op = Op.call { callee := Callee.builtin Builtin.append, args := #[s, x], argTypes := #[33, 33] })
    (B : Nat) (hB : B ≤ w.heap.size) (v : Value) (l : List (Ro × Value)) (hown : w.ownsRow B 26 8 v l.length (roCells l)) (hs : a.eval s = v) (u : Value) (m : List (Ro × Value)) (hin : RowsIn w u m) (hx : a.eval x = u) (hb : l.length + m.length ≤ 1000000)
    (hK : ∀ v' w', w'.ownsRow B 26 8 v' (l ++ m).length (roCells (l ++ m)) → w.grownBy w' v.ownBlock → wpList Tryd.prog ops Q rest (a.put o.dst v') w') : wpList Tryd.prog ops Q (o :: rest) a w := by
  obtain ⟨i0, hi, hz0, hz1, hz2⟩ := info_parts info_Row
  obtain ⟨⟨ao, c, rfl, hc, hcm, ha, hcell⟩, hcols⟩ := hin
  have hone := roCells_one m (fun p hp => let ⟨a, c, e⟩ := (hcols p hp).shape; ⟨a, _, c, e⟩)
  cases ao with
  | none =>
    have hc0 := ha rfl
    obtain rfl : m = [] := List.eq_nil_of_length_eq_zero (by omega)
    subst hc0
    refine wpList_append_own_none hg s x 33 hop B 26 i0 8 und_Rows hi v l.length (roCells l) hs hown hx (hK _ _ (by rw [List.append_nil]; exact hown) ⟨rfl, rfl, rfl, Nat.le_refl _, fun _ _ _ => rfl⟩)
  | some ad =>
    refine wpList_append_own _ hg s x 33 hop B 26 i0 _ 8 96 und_Rows hi hz0 hz1 hz2 rfl (by decide) v l.length (roCells l) hs hown ad m.length c (roCells m) hx (roCells_length m) ?_ hone (by unfold maxLen; omega) (by omega) hB ?_
    · intro j u hj
      obtain ⟨b, o, e, h⟩ := hcell j u hj
      cases e
      rw [Addr.add_lit]
      exact h
    · intro v' w' h2 h3 _
      refine hK v' w' ?_ h3
      rw [roCells_append, List.length_append]
      exact h2

/-- A row's columns that stay: they lie in the first world, or are one's own. -/
def SafeC (w x : World) (p : Ro × Value) : Prop := ColsIn w p.2 p.1.cols ∨ x.ownsRow w.heap.size 80 5 p.2 p.1.cols.length (coCells p.1.cols)
theorem SafeC.ext {w x y : World} {p : Ro × Value} (hE : Ext x y) (h : SafeC w x p) : SafeC w y p := h.imp_right fun h => ownsRow_ext h hE
theorem SafeC.grown {w x y : World} {p : Ro × Value} {B n : Nat} {v : Value} {xs : List Value} (hown : x.ownsRow B 26 8 v n xs) (hg : x.grownBy y v.ownBlock) (h : SafeC w x p) : SafeC w y p :=
  h.imp_right fun h => h.kept hg (own_ne_own h hown (by decide))
theorem SafeC.cols {w x : World} {p : Ro × Value} (hE : Ext w x) (h : SafeC w x p) : ColsIn x p.2 p.1.cols := by
  rcases h with h | h
  · exact h.ext hE
  · exact cols_own h
theorem rows_own {w x : World} {B : Nat} {v : Value} {l : List (Ro × Value)} (h : x.ownsRow B 26 8 v l.length (roCells l)) (hE : Ext w x) (hs : ∀ p ∈ l, SafeC w x p) : RowsIn x v l :=
  ⟨SliceIn.of_owns h, fun p hp => (hs p hp).cols hE⟩

/-- A slice that reads as cells, in a block of its own type: what a store to a block of another type leaves alone. -/
def TIn (x : World) (e : TypeId) (v : Value) (n : Nat) (xs : List Value) : Prop := (v = .slice none 0 0 ∧ n = 0 ∧ xs = []) ∨ ∃ b c Z, v = .slice (some ⟨b, 0, none⟩) n c ∧ BoxAt x b Z e ∧ n ≤ c ∧ c ≤ maxLen ∧ ∀ (j : Nat) u, xs[j]? = some u → Z[j]? = some u
theorem box_ne {x : World} {p q : Nat} {A B : Array Value} {S T : TypeId} (h : BoxAt x p A S) (h' : BoxAt x q B T) (hne : S ≠ T) : p ≠ q := by
  rintro rfl
  unfold BoxAt at h h'
  rw [h] at h'
  injection h' with h'
  injection h' with _ h'
  exact hne h'
theorem TIn.nil (x : World) (e : TypeId) : TIn x e (.slice none 0 0) 0 [] := .inl ⟨rfl, rfl, rfl⟩
theorem TIn.slice {x : World} {e : TypeId} {v : Value} {n : Nat} {xs : List Value} (h : TIn x e v n xs) : SliceIn x v n xs := by
  rcases h with ⟨rfl, rfl, rfl⟩ | ⟨b, c, Z, rfl, hb, hn, hc, hx⟩
  · exact SliceIn.nil x
  · exact ⟨_, _, rfl, hn, hc, nofun, fun j u hj => ⟨b, 0, rfl, by rw [Nat.zero_add, hb.cell j]; exact hx j u hj⟩⟩
theorem TIn.box {x : World} {e : TypeId} {b n : Nat} {xs : List Value} (hb : BoxAt x b xs.toArray e) (hn : n ≤ maxLen) : TIn x e (.slice (some ⟨b, 0, none⟩) n n) n xs :=
  .inr ⟨b, n, _, rfl, hb, Nat.le_refl _, hn, fun j u hj => by simpa using hj⟩
theorem TIn.own {x : World} {B : Nat} {e : TypeId} {size : Nat} {v : Value} {n : Nat} {xs : List Value} (h : x.ownsRow B e size v n xs) : TIn x e v n xs := by
  obtain ⟨hl, h⟩ := h
  rcases h with ⟨rfl, rfl⟩ | ⟨g, cap, cur, rfl, _, hg, hn, hm, hs, ht⟩
  · exact .inl ⟨rfl, rfl, List.eq_nil_of_length_eq_zero (by simpa using hl)⟩
  · refine .inr ⟨g, cap, cur, rfl, hg, hn, hm, fun j u hj => ?_⟩
    have hjl : j < n * size := by
      have := (List.getElem?_eq_some_iff.1 hj).1
      omega
    rw [← ht, List.getElem?_take, if_pos hjl] at hj
    simpa using hj
theorem TIn.ext {x y : World} {e : TypeId} {v : Value} {n : Nat} {xs : List Value} (hE : Ext x y) (h : TIn x e v n xs) : TIn y e v n xs := h.imp_right fun ⟨b, c, Z, e, hb, h⟩ => ⟨b, c, Z, e, hb.ext hE, h⟩
theorem TIn.keep {x y : World} {e : TypeId} {v : Value} {n : Nat} {xs : List Value} {q : Nat} {W : Array Value} {T : TypeId} (hg : x.grownBy y (some q)) (hq : BoxAt x q W T) (hne : e ≠ T) (h : TIn x e v n xs) : TIn y e v n xs :=
  h.imp_right fun ⟨b, c, Z, e, hb, h⟩ => ⟨b, c, Z, e, hb.grown hg (fun e => box_ne hb hq hne (Option.some.inj e)), h⟩
theorem TIn.set {x : World} {e : TypeId} {v : Value} {n : Nat} {xs : List Value} {q : Nat} {W : Array Value} {T : TypeId} (i : Nat) (u : Value) (hq : BoxAt x q W T) (hne : e ≠ T) (h : TIn x e v n xs) : TIn (x.setCell ⟨q, i, none⟩ u) e v n xs :=
  h.imp_right fun ⟨b, c, Z, e, hb, h⟩ => ⟨b, c, Z, e, hb.other (box_ne hb hq hne) i u, h⟩
theorem TIn.keepOwn {x y : World} {e : TypeId} {v : Value} {n : Nat} {xs : List Value} {B : Nat} {T : TypeId} {size m : Nat} {vo : Value} {ys : List Value} (hown : x.ownsRow B T size vo m ys) (hg : x.grownBy y vo.ownBlock) (hne : e ≠ T) (h : TIn x e v n xs) : TIn y e v n xs :=
  h.imp_right fun ⟨b, c, Z, e, hb, h⟩ => ⟨b, c, Z, e, hb.grown hg (fun e => by
    rcases own_ne_box hown hb (fun e => hne e.symm) with h | h
    · rw [h] at e; cases e
    · exact h e.symm), h⟩
theorem TIn.shape {x : World} {e : TypeId} {v : Value} {n : Nat} {xs : List Value} (h : TIn x e v n xs) : ∃ a c, v = .slice a n c := by
  rcases h with ⟨rfl, rfl, rfl⟩ | ⟨b, c, Z, e, _⟩
  · exact ⟨_, _, rfl⟩
  · exact ⟨_, _, e⟩

/-- Columns, rows in blocks of their own types. -/
def ColsT (x : World) (v : Value) (l : List Co) : Prop := TIn x 80 v l.length (coCells l)
structure RowsT (x : World) (v : Value) (qs : List (Ro × Value)) : Prop where
  tin : TIn x 26 v qs.length (roCells qs)
  typed : ∀ p ∈ qs, ColsT x p.2 p.1.cols
theorem ColsT.cols {x : World} {v : Value} {l : List Co} (h : ColsT x v l) : ColsIn x v l := TIn.slice h
theorem ColsT.nil (x : World) : ColsT x (.slice none 0 0) [] := TIn.nil x _
theorem ColsT.ext {x y : World} {v : Value} {l : List Co} (hE : Ext x y) (h : ColsT x v l) : ColsT y v l := TIn.ext hE h
theorem ColsT.keep {x y : World} {v : Value} {l : List Co} {q : Nat} {Z : Array Value} {T : TypeId} (hg : x.grownBy y (some q)) (hb : BoxAt x q Z T) (h2 : 80 ≠ T) (h : ColsT x v l) : ColsT y v l := TIn.keep hg hb h2 h
theorem RowsT.rows {x : World} {v : Value} {qs : List (Ro × Value)} (h : RowsT x v qs) : RowsIn x v qs := ⟨h.tin.slice, fun p hp => (h.typed p hp).cols⟩
theorem RowsT.ext {x y : World} {v : Value} {qs : List (Ro × Value)} (hE : Ext x y) (h : RowsT x v qs) : RowsT y v qs := ⟨h.tin.ext hE, fun p hp => (h.typed p hp).ext hE⟩
theorem RowsT.keep {x y : World} {v : Value} {qs : List (Ro × Value)} {q : Nat} {Z : Array Value} {T : TypeId} (hg : x.grownBy y (some q)) (hb : BoxAt x q Z T) (h1 : 26 ≠ T) (h2 : 80 ≠ T) (h : RowsT x v qs) : RowsT y v qs :=
  ⟨h.tin.keep hg hb h1, fun p hp => (h.typed p hp).keep hg hb h2⟩
theorem RowsT.set {x : World} {v : Value} {qs : List (Ro × Value)} {q : Nat} {Z : Array Value} {T : TypeId} (i : Nat) (u : Value) (hb : BoxAt x q Z T) (h1 : 26 ≠ T) (h2 : 80 ≠ T) (h : RowsT x v qs) : RowsT (x.setCell ⟨q, i, none⟩ u) v qs :=
  ⟨h.tin.set i u hb h1, fun p hp => TIn.set i u hb h2 (h.typed p hp)⟩
theorem RowsT.keepOwn {x y : World} {v : Value} {qs : List (Ro × Value)} {B : Nat} {T : TypeId} {size m : Nat} {vo : Value} {ys : List Value} (hown : x.ownsRow B T size vo m ys) (hg : x.grownBy y vo.ownBlock) (h1 : 26 ≠ T) (h2 : 80 ≠ T) (h : RowsT x v qs) : RowsT y v qs :=
  ⟨h.tin.keepOwn hown hg h1, fun p hp => TIn.keepOwn hown hg h2 (h.typed p hp)⟩
theorem RowsT.nil (x : World) : RowsT x (.slice none 0 0) [] := ⟨TIn.nil x _, nofun⟩
theorem RowsT.shape {x : World} {v : Value} {qs : List (Ro × Value)} (h : RowsT x v qs) : ∃ a c, v = .slice a qs.length c := h.tin.shape
theorem RowsT.one {x : World} {b : Nat} {r : Ro} {v : Value} (hb : BoxAt x b (ro8 r v) 26) (hc : ColsT x v r.cols) : RowsT x (.slice (some ⟨b, 0, none⟩) 1 1) [(r, v)] :=
  ⟨TIn.box (xs := roCells [(r, v)]) hb (by unfold maxLen; decide), fun p hp => by rw [List.mem_singleton.1 hp]; exact hc⟩
end Go.Proofs.YteamiiekpjoclaaDoor
