/- NoteRooms: the law's walk. -/
import Derived.Test.YtmjhdfifbjdgpaaL3
import Derived.Test.YtmjhdfifbjdgpaaL5
import Derived.BigQuiet
set_option linter.unusedSimpArgs false
set_option linter.unusedVariables false
namespace Go.Proofs.Ytmjhdfifbjdgpaa
open Go Go.RowKit
attribute [local go_sem] yields yUpon

/-- The first m notes. -/
def baseN (m : Nat) : Fl := (List.range m).map fun j : Nat => ((j : Int) + 1, [98])
theorem baseN_length (m : Nat) : (baseN m).length = m := by simp [baseN]
theorem baseN_mem {m : Nat} {q : Int × List UInt8} (h : q ∈ baseN m) : 1 ≤ q.1 ∧ q.1 ≤ m := by
  simp only [baseN, List.mem_map, List.mem_range] at h
  obtain ⟨j, hj, rfl⟩ := h
  simp; omega
theorem baseN_succ (m : Nat) : baseN (m + 1) = baseN m ++ [((m : Int) + 1, [98])] := by simp [baseN, List.range_succ]
theorem baseN_has (m : Nat) {n : Int} (h : (m : Int) < n) : fhas n (baseN m) = false := by
  unfold fhas
  rw [List.any_eq_false]
  intro q hq
  have := baseN_mem hq
  simp; omega
theorem fput_last {n : Int} {b : List UInt8} : ∀ {F : Fl} (_ : ∀ q ∈ F, q.1 < n), fput n b F = F ++ [(n, b)]
  | [], _ => rfl
  | p :: l, h => by
    rw [fput, if_pos (h p (by simp)), fput_last (fun q hq => h q (by simp [hq]))]; rfl
theorem baseN_put (m : Nat) : fput ((m : Int) + 1) [98] (baseN m) = baseN (m + 1) := by
  rw [baseN_succ, fput_last fun q hq => by have := baseN_mem hq; omega]
theorem baseN_good {m : Nat} (h : m ≤ 300) : Good (baseN m) := by
  refine ⟨?_, by rw [baseN_length]; exact h, fun q hq => by have := baseN_mem hq; omega⟩
  unfold Rises baseN
  rw [List.pairwise_map]
  exact (List.pairwise_lt_range (n := m)).imp (by intro a b h; simp; omega)
theorem baseN_add (i : Nat) (hi : 1 ≤ i) : addB (i : Int) 1 (baseN (min (i - 1) 300)) = decide (i ≤ 300) ∨ 1099511627776 < i := by
  by_cases h : 1099511627776 < i
  · exact .inr h
  · left
    unfold addB
    rw [baseN_has _ (by omega), baseN_length]
    by_cases h3 : i ≤ 300
    · rw [decide_eq_true h3]; simp; omega
    · rw [decide_eq_false h3]; simp; omega
theorem fits_one (F : Fl) (q : Int × List UInt8) : fitsB F [q] [] = addB q.1 q.2.length F := by simp [fitsB, fadds, fdels]
theorem note_one {w : World} {b : Nat} {n : Int} {s : List UInt8} {e : TypeId} (h : BoxAt w b #[.int .i64 n, .string (str s)] e) : NotesIn w (.slice (some ⟨b, 0, none⟩) 1 1) [(n, s)] :=
  ⟨_, _, rfl, Nat.le_refl _, by unfold maxLen; simp, nofun, fun j u hj => ⟨b, 0, rfl, by rw [Nat.zero_add, h.cell j]; simpa [ncells] using hj⟩⟩
theorem ints_none (w : World) : IntsIn w (.slice none 0 0) .i64 [] := SliceIn.nil w

set_option maxRecDepth 100000 in
set_option maxHeartbeats 8000000 in
theorem law_noteRooms (many : Int) (v : Value) (l : List Int) (w : World) (hin : IntsIn w v .i64 l) :
    Calls Try.prog 5 #[.int .i64 many, v] w fun e w' => e = .returned (.bool true) ∧ Ext w w' := by
  obtain ⟨a0, c0, rfl, hc0, hcm0, _, hcell0⟩ := hin
  have HC := Lib.hid hcell0
  unfold maxLen at hcm0
  clear hcell0
  obtain ⟨n, hn⟩ : ∃ n, n = l.length := ⟨_, rfl⟩
  have HN := Lib.hid hn
  rw [← hn] at hc0 ⊢
  clear hn
  obtain ⟨K, hK⟩ : ∃ K : Nat, (K : Int) = many % 305 := ⟨(many % 305).toNat, by omega⟩
  have hKl : K < 305 := by omega
  have HK := Lib.hid hK.symm
  clear hK
  go_enter Try.func5, Try.ntmps5
  go_wp2_with (first
    | (go_at_call 8; go_must (refine (nt_new w).mono ?_); rintro e w1 ⟨rfl, hw1⟩; have hn := nt_made w; rw [← hw1] at hn; have hE1 : Ext w w1 := (by rw [hw1]; exact ((Ext.refl w).alloc _).alloc _); clear hw1)
    | (go_at_call 9; go_must (refine (place_any _ _ (by omega) (by omega) _).mono ?_); rintro e w3 ⟨rfl, rfl⟩; rw [HK.out]))
  obtain ⟨m0, hm0⟩ : ∃ m0, m0 = w.heap.size := ⟨_, rfl⟩
  rw [← hm0] at hn ⊢
  have hmw : w.heap.size ≤ m0 := by omega
  clear hm0
  go_loopw [7] (fun i wr => ∃ k : Nat, 1 ≤ k ∧ k ≤ K + 1 ∧ i = .int .i64 (k : Int) ∧ NoteAt wr (m0 + 1) m0 (baseN (min (k - 1) 300)) ∧ Ext w wr) (fun i _ => K + 1 - (intOf i).toNat)
  case atStart => exact ⟨1, by omega, by omega, rfl, (by show NoteAt w1 (m0 + 1) m0 (baseN 0); exact hn), hE1⟩
  case round =>
    obtain ⟨k, hk1, hk, rfl, hN, hE⟩ := hrel
    by_cases hlt : k ≤ K
    · have t1 : decide ((k : Int) ≤ (K : Int)) = true := by simp; omega
      have hadd : Hid (addB (k : Int) 1 (baseN (min (k - 1) 300)) = decide (k ≤ 300)) := Lib.hid ((baseN_add k hk1).resolve_right (by omega))
      have hgood := baseN_good (m := min (k - 1) 300) (by omega)
      have hbl := baseN_length (min (k - 1) 300)
      have hnext : Hid ((if addB (k : Int) (⟨#[98]⟩ : ByteArray).size (baseN (min (k - 1) 300)) then fput (k : Int) (⟨#[98]⟩ : ByteArray).data.toList (baseN (min (k - 1) 300)) else baseN (min (k - 1) 300)) = baseN (min k 300)) := Lib.hid (by
        show (if addB (k : Int) 1 (baseN (min (k - 1) 300)) then fput (k : Int) [98] (baseN (min (k - 1) 300)) else baseN (min (k - 1) 300)) = baseN (min k 300)
        rw [hadd.out]
        by_cases h3 : k ≤ 300
        · rw [decide_eq_true h3, if_pos rfl, show min (k - 1) 300 = k - 1 by omega, show min k 300 = (k - 1) + 1 by omega, ← baseN_put, show ((k - 1 : Nat) : Int) + 1 = (k : Int) by omega]
        · rw [decide_eq_false h3, if_neg (by decide), show min (k - 1) 300 = min k 300 by omega])
      generalize hF : baseN (min (k - 1) 300) = F at hN hadd hgood hbl hnext
      clear hF
      obtain ⟨bx0, bx1, hE2⟩ := boxes2 wr #[.int .i64 (k : Int), .string ⟨#[98]⟩] #[.int .i64 (k : Int), .string ⟨#[98]⟩] 30 30
      have hN2 := hN.ext hE2
      have hin1 := note_one (s := [98]) bx1
      have hFits : Hid (fitsB F [((k : Int), [98])] [] = decide (k ≤ 300)) := Lib.hid ((fits_one _ _).trans hadd.out)
      have hAdd : Hid (addB (k : Int) (⟨#[98]⟩ : ByteArray).size F = decide (k ≤ 300)) := Lib.hid hadd.out
      clear hadd bx1
      by_cases h3 : k ≤ 300
      all_goals
        first
          | (have h3i : decide ((k : Int) ≤ 300) = true := (by simp; omega); have h3d : Hid (decide (k ≤ 300) = true) := Lib.hid (decide_eq_true h3))
          | (have h3i : decide ((k : Int) ≤ 300) = false := (by simp; omega); have h3d : Hid (decide (k ≤ 300) = false) := Lib.hid (decide_eq_false h3))
        go_wp2_with (first
          | (go_at_call 16; go_must (refine (nt_fits _ [((k : Int), [98])] _ [] _ hN2 hgood hin1 (by intro q hq; rw [List.mem_singleton.1 hq]; exact ⟨by simp; omega, by show 1 ≤ maxLen; decide⟩) (ints_none _) (by simp)).mono ?_); rintro e w3 ⟨rfl, hE3⟩; rw [hFits.out, h3d.out]; have hN3 := hN2.ext hE3; have hb3 := bx0.ext hE3; have x0 := hb3.cell 0; have x1 := hb3.cell 1; simp at x0 x1)
          | (go_at_call 11; go_must (refine (nt_add (k : Int) (by omega) (by omega) ⟨#[98]⟩ (by decide) (by omega) _ hN3).mono ?_); rintro e w4 ⟨⟨rfl, ht4⟩, hn4⟩; rw [hnext.out] at hn4; rw [hAdd.out, h3d.out]))
        go_roundw
        case rel => exact ⟨k + 1, by omega, by omega, by go_num, by show NoteAt _ _ _ (baseN (min k 300)); exact hn4, ht4.ext ((hE.trans hE2).trans hE3) (by simpa using hmw)⟩
        case measure => simp [intOf]; omega
    · have hkK : k = K + 1 := by omega
      rw [show min (k - 1) 300 = min K 300 by omega] at hN
      have t1 : ¬ (k : Int) ≤ (K : Int) := by omega
      clear hkK hk hk1 hlt
      have hgood := baseN_good (m := min K 300) (by omega)
      have hbl := baseN_length (min K 300)
      have hkey : ∀ q ∈ baseN (min K 300), q.1 ≤ 300 := fun q hq => by have := baseN_mem hq; omega
      generalize baseN (min K 300) = F at hN hgood hbl hkey
      go_wp2_with fail
      obtain ⟨wo, rfl⟩ : ∃ w', w' = wr := ⟨_, rfl⟩
      clear hn
      go_loopw [10, 11] (fun c i wr => ∃ (j gone : Nat) (Fj : Fl), j ≤ n ∧ i = .int .i64 (j : Int) ∧ c = .int .i64 (gone : Int) ∧ NoteAt wr (m0 + 1) m0 Fj ∧ Good Fj ∧ Fj.length + gone = min K 300 ∧ Hid (∀ q ∈ Fj, q.1 ≤ 300) ∧ Ext w wr) (fun _ i _ => n - (intOf i).toNat)
      case atStart => exact ⟨0, 0, F, Nat.zero_le _, rfl, rfl, hN, hgood, by omega, hkey, hE⟩
      case round =>
        obtain ⟨j, gone, Fj, hj, rfl, rfl, hNj, hGj, hlj, hkj, hEj⟩ := hrel
        by_cases hlt : j < n ∧ j < 20
        · obtain ⟨hlt1, hlt2⟩ := hlt
          obtain ⟨x, hx⟩ : ∃ x, l[j]? = some x := ⟨_, List.getElem?_eq_getElem (by rw [← HN.out]; exact hlt1)⟩
          obtain ⟨b, o, rfl, hco⟩ := HC.out j (.int .i64 x) (by rw [kcells_get, hx]; rfl)
          replace hco := hEj.cell hco
          clear hx
          obtain ⟨V, hV⟩ : ∃ V : Nat, (V : Int) = x % 300 := ⟨(x % 300).toNat, by omega⟩
          have HV := Lib.hid hV.symm
          have hVl : V < 300 := by omega
          clear hV
          obtain ⟨id, hid⟩ : ∃ id : Nat, id = 1 + V := ⟨_, rfl⟩
          have hidi : 1 + (V : Int) = (id : Int) := by omega
          have hid1 : id ≤ 300 := by omega
          clear hid
          have hlk1 : decide ((j : Int) < (n : Int)) = true := by simp; omega
          have hlk2 : decide ((j : Int) < 20) = true := by simp; omega
          have hdl := fdel_length (n := (id : Int)) hGj.rises
          have hkd : Hid (∀ q ∈ fdel (id : Int) Fj, q.1 ≤ 300) := Lib.hid (fun q hq => hkj.out q (List.mem_filter.1 hq).1)
          have hpos : Hid (fhas (id : Int) Fj = true → 0 < Fj.length) := Lib.hid (by
            intro h
            cases Fj with
            | nil => cases h
            | cons a b => simp)
          cases hfb : fhas (id : Int) Fj
          all_goals
            rw [hfb] at hdl
            have HDL := Lib.hid hdl
            have HFB := Lib.hid hfb
            clear hdl hfb
            go_wp2_with (first
              | (go_at_call 9; go_must (refine (place_any _ _ (by omega) (by omega) _).mono ?_); rintro e w3 ⟨rfl, rfl⟩; rw [HV.out])
              | (go_at_call 10; go_must (refine (nt_drop (id : Int) (by omega) (by omega) _ hNj).mono ?_); rintro e w4 ⟨⟨rfl, ht4⟩, hn4⟩; rw [HFB.out]))
            go_roundw
            case rel =>
              have h1 := HDL.out
              have h2 := hpos.out
              first
                | exact ⟨j + 1, gone, _, by omega, by go_num, rfl, hn4, hGj.del _, by rw [h1, if_neg (by decide)]; exact hlj, hkd, ht4.ext hEj (by simpa using hmw)⟩
                | exact ⟨j + 1, gone + 1, _, by omega, by go_num, by go_num, hn4, hGj.del _, by have := h2 HFB.out; rw [h1]; simp only [if_true]; omega, hkd, ht4.ext hEj (by simpa using hmw)⟩
            case measure => simp [intOf]; omega
        · have hex : (¬ j < n ∧ decide (j < n) = false ∧ decide ((j : Int) < (n : Int)) = false) ∨ (j < n ∧ ¬ j < 20 ∧ decide (j < n) = true ∧ decide ((j : Int) < (n : Int)) = true ∧ decide ((j : Int) < 20) = false) := by
            by_cases h1 : j < n
            · right; refine ⟨h1, by omega, ?_, ?_, ?_⟩ <;> simp <;> omega
            · left; refine ⟨h1, ?_, ?_⟩ <;> simp <;> omega
          have HKb : Hid (∀ q ∈ Fj, -9223372036854775808 ≤ q.1 ∧ q.1 ≤ 9223372036854775807) := Lib.hid fun r hr => by have := hGj.keys r hr; omega
          have hFl := hGj.len
          clear hlt
          rcases hex with ⟨hx1, hx2, hx3⟩ | ⟨hx1, hx2, hx3, hx4, hx5⟩
          all_goals
            go_wp2_with (go_at_call 12; go_must (refine (nt_all wr hNj (by omega) HKb.out).mono ?_); rintro e w3 ⟨v3, ⟨rfl, hE3⟩, hs3⟩)
            obtain ⟨a3, c3, rfl, hc3, hcm3, hg3⟩ := hs3.get
            have HG3 := Lib.hid hg3
            have hN3 := hNj.ext hE3
            have hEw3 := hEj.trans hE3
            clear hg3 hs3
            obtain ⟨fl, hfl⟩ : ∃ fl, fl = Fj.length := ⟨_, rfl⟩
            have HFL := Lib.hid hfl
            rw [← hfl] at hc3 hlj hFl ⊢
            clear hfl
            obtain ⟨M, hM⟩ : ∃ M, M = min K 300 := ⟨_, rfl⟩
            have hMi : min (K : Int) 300 = (M : Int) := by omega
            have hMg : (M : Int) - (gone : Int) = (fl : Int) := by omega
            clear hlj hM
            have hadd : Hid (fitsB Fj [((1000 : Int), ([] : List UInt8))] [] = decide (fl < 300)) := Lib.hid (by
              rw [fits_one]
              have hh : fhas 1000 Fj = false := by
                unfold fhas
                rw [List.any_eq_false]
                intro q hq
                have := hkj.out q hq
                simp; omega
              show addB 1000 0 Fj = _
              unfold addB
              rw [hh, ← HFL.out]
              by_cases h : fl < 300
              · rw [decide_eq_true h]; simp; omega
              · rw [decide_eq_false h]; simp; omega)
            go_loopw [13] (fun i wr => ∃ k : Nat, 1 ≤ k ∧ i = .int .i64 (k : Int) ∧ Ext w3 wr) (fun i _ => fl - (intOf i).toNat)
            case atStart => exact ⟨1, Nat.le_refl _, rfl, Ext.refl w3⟩
            case round =>
              obtain ⟨k, hk, rfl, hE⟩ := hrel
              by_cases hlt : k < fl
              · obtain ⟨k1, hk1⟩ : ∃ k1, k1 = k - 1 := ⟨_, rfl⟩
                have hki : (k : Int) - 1 = (k1 : Int) := by omega
                have hkF : k < Fj.length := by rw [← HFL.out]; exact hlt
                have hk1F : k1 < Fj.length := by omega
                obtain ⟨b, o, rfl, hx0, _⟩ := HG3.out k hkF
                obtain ⟨b', o', e', hy0, _⟩ := HG3.out k1 hk1F
                cases e'
                replace hx0 := hE.cell hx0
                replace hy0 := hE.cell hy0
                have hris := (List.pairwise_iff_getElem.1 hGj.rises) k1 k hk1F hkF (by omega)
                obtain ⟨x, hx⟩ : ∃ x, x = (Fj[k]).1 := ⟨_, rfl⟩
                obtain ⟨y, hy⟩ : ∃ y, y = (Fj[k1]).1 := ⟨_, rfl⟩
                rw [← hx] at hx0 hris
                rw [← hy] at hy0 hris
                have hk1l : k1 < fl := by omega
                clear hx hy hk1
                have t1 : decide ((k : Int) < (fl : Int)) = true := by simp; omega
                have t2 : decide (x ≤ y) = false := by simp; omega
                go_wp2_with fail
                go_quiet (fail)
                go_wp2
                go_roundw
                case rel => exact ⟨k + 1, by omega, by go_num, hE.drewN _⟩
                case measure => simp [intOf]; omega
              · have t1 : ¬ (k : Int) < (fl : Int) := by omega
                have hNr := hN3.ext hE
                have hEr := hEw3.trans hE
                have hEb := (Ext.refl wr).alloc (.cells #[.int .i64 1000, .string ⟨#[]⟩] 30)
                have hin1 := note_one (s := []) (BoxAt.made wr #[.int .i64 1000, .string ⟨#[]⟩] 30)
                by_cases h3 : fl < 300
                all_goals
                  first
                    | (have h3i : decide ((fl : Int) < 300) = true := (by simp; omega); have h3d : Hid (decide (fl < 300) = true) := Lib.hid (decide_eq_true h3))
                    | (have h3i : decide ((fl : Int) < 300) = false := (by simp; omega); have h3d : Hid (decide (fl < 300) = false) := Lib.hid (decide_eq_false h3))
                  go_wp2_with (first
                    | (go_at_call 16; go_must (refine (nt_fits _ [((1000 : Int), ([] : List UInt8))] _ [] _ (hNr.ext hEb) hGj hin1 (by intro q hq; rw [List.mem_singleton.1 hq]; exact ⟨by decide, by show 0 ≤ maxLen; decide⟩) (ints_none _) (by simp)).mono ?_); rintro e w5 ⟨rfl, hE5⟩; rw [hadd.out, h3d.out])
                    | (go_at_call 14; go_must (refine (awake11_any _).mono ?_); rintro e w6 ⟨rfl, hE6⟩))
                  go_ret
                  exact ⟨rfl, ((hEr.trans hEb).trans hE5).trans hE6⟩
theorem walk_noteRooms (a0 : Int) (v1 : Value) (W : World) (_ : (Lit.int .i64 a0).wf = true) (w1 : ∃ l : List Int, IntsIn W v1 .i64 l ∧ ∀ n ∈ l, (Lit.int .i64 n).wf = true) :
    Calls Try.prog 5 #[.int .i64 a0, v1] W fun e w' => e = .returned (.bool true) ∧ Ext W w' := by
  obtain ⟨l, hl, _⟩ := w1
  exact law_noteRooms a0 v1 l W hl
end Go.Proofs.Ytmjhdfifbjdgpaa
