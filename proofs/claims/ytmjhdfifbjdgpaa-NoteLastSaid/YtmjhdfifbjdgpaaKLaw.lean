/- NoteLast: the law's walk. -/
import Derived.Test.YtmjhdfifbjdgpaaK4
import Derived.Test.YtmjhdfifbjdgpaaK5
import Derived.BigQuiet
set_option linter.unusedSimpArgs false
set_option linter.unusedVariables false
namespace Go.Proofs.Ytmjhdfifbjdgpaa
open Go Go.RowKit
attribute [local go_sem] yields yUpon

/-- The array's cells. -/
def tbc (tb : Nat → List UInt8) : Array Value := ((List.range 20).map fun k => Value.string (str (tb k))).toArray
theorem tbc_get (tb : Nat → List UInt8) {k : Nat} (hk : k < 20) : (tbc tb)[k]? = some (.string (str (tb k))) := by simp [tbc, hk]
theorem tbc_upd (tb : Nat → List UInt8) {id : Nat} (hk : id < 20) (b : List UInt8) : (tbc tb).setIfInBounds id (.string (str b)) = tbc (upd tb id b) := by
  apply Array.ext_getElem?
  intro i
  unfold tbc upd
  simp only [Array.getElem?_setIfInBounds, List.getElem?_toArray, List.getElem?_map, List.size_toArray, List.length_map, List.length_range]
  by_cases e : id = i
  · subst e; simp [hk]
  · rw [if_neg e]
    by_cases hi : i < 20
    · simp [hi, Ne.symm e]
    · simp [hi]

set_option maxRecDepth 100000 in
set_option maxHeartbeats 8000000 in
theorem law_noteLast (v : Value) (l : List Int) (w : World) (hin : IntsIn w v .i64 l) :
    Calls Try.prog 3 #[v] w fun e w' => e = .returned (.bool true) ∧ Ext w w' := by
  obtain ⟨a0, c0, rfl, hc0, hcm0, _, hcell0⟩ := hin
  have HC := Lib.hid hcell0
  unfold maxLen at hcm0
  clear hcell0
  obtain ⟨n, hn⟩ : ∃ n, n = l.length := ⟨_, rfl⟩
  have HN := Lib.hid hn
  rw [← hn] at hc0 ⊢
  clear hn
  go_enter Try.func3, Try.ntmps3
  go_wp2_with (first
    | (go_at_call 8; go_must (refine (nt_new w).mono ?_); rintro e w1 ⟨rfl, hw1⟩; have hn := nt_made w; rw [← hw1] at hn; have hE1 : Ext w w1 := (by rw [hw1]; exact ((Ext.refl w).alloc _).alloc _); clear hw1))
  obtain ⟨q, hq⟩ : ∃ q, q = w1.heap.size := ⟨_, rfl⟩
  have hqE := hE1.size
  have hqp := hn.box.lt
  have hb0 : BoxAt (w1.alloc (.cells (tbc fun _ => []) 25)) q (tbc fun _ => []) 25 := by rw [hq]; exact BoxAt.made _ _ _
  have hE2 := hE1.alloc (.cells (tbc fun _ => []) 25)
  have hn2 := hn.ext ((Ext.refl w1).alloc (.cells (tbc fun _ => []) 25))
  change Code.wp _ _ _ _ (w1.alloc (.cells (tbc fun _ => []) 25))
  rw [← hq]
  generalize (w1.alloc (.cells (tbc fun _ => []) 25)) = w2 at hb0 hE2 hn2 ⊢
  have hqn : q ≠ w.heap.size := by omega
  have hqw : w.heap.size ≤ q := by omega
  have hqp1 : w.heap.size + 1 ≠ q := by omega
  clear hn hE1 hqE hq hqp
  go_loopw [5] (fun i wr => ∃ (k : Nat) (tb : Nat → List UInt8) (F : Fl), k ≤ n ∧ i = .int .i64 (k : Int) ∧ NoteAt wr (w.heap.size + 1) w.heap.size F ∧ BoxAt wr q (tbc tb) 25 ∧ Hid (Agr tb F) ∧ Ext w wr) (fun i _ => n - (intOf i).toNat)
  case atStart => exact ⟨0, _, [], Nat.zero_le _, rfl, hn2, hb0, Lib.hid Agr.new, hE2⟩
  case round =>
    obtain ⟨k, tb, F, hk, rfl, hN, hB, HA, hE⟩ := hrel
    by_cases hlt : k < n ∧ k < 60
    · obtain ⟨hlt1, hlt2⟩ := hlt
      obtain ⟨x, hx⟩ : ∃ x, l[k]? = some x := ⟨_, List.getElem?_eq_getElem (by rw [← HN.out]; exact hlt1)⟩
      obtain ⟨b, o, rfl, hco⟩ := HC.out k (.int .i64 x) (by rw [kcells_get, hx]; rfl)
      replace hco := hE.cell hco
      clear hx
      obtain ⟨V, hV⟩ : ∃ V : Nat, (V : Int) = x % 1048576 := ⟨(x % 1048576).toNat, by omega⟩
      have hVl : V < 1048576 := by omega
      have HV := Lib.hid hV.symm
      clear hV
      obtain ⟨id, hid⟩ : ∃ id : Nat, id = 1 + V % 19 := ⟨_, rfl⟩
      have hidi : 1 + (V : Int) % 19 = (id : Int) := by omega
      have hid1 : 1 ≤ id ∧ id < 20 := by omega
      have hlk1 : decide ((k : Int) < (n : Int)) = true := by simp; omega
      have hlk2 : decide ((k : Int) < 60) = true := by simp; omega
      have hc := hB.cell id
      rw [tbc_get tb hid1.2] at hc
      have hf := hB.free id
      clear hid
      by_cases h4 : V / 19 % 4 = 0
      · have h4' : ((V : Int) / 19 % 4 == 0) = true := by simp; omega
        go_wp2_with (go_at_call 9; go_must (refine (place_any _ _ (by omega) (by omega) _).mono ?_); rintro e w3 ⟨rfl, rfl⟩; rw [HV.out])
        obtain ⟨X, hX⟩ : ∃ X, X = str (tb id) := ⟨_, rfl⟩
        have hxe : X.toList.isEmpty = !(fhas (id : Int) F) := by
          rw [HA.out.has id hid1.1 hid1.2, Bool.not_not, ByteArray.toList_eq, hX]
          simp [str]
        rw [← hX] at hc
        clear hX
        have hNd := hN.ext ((Ext.refl wr).drew)
        cases hfb : fhas (id : Int) F
        all_goals
          rw [hfb] at hxe
          simp only [Bool.not_false, Bool.not_true] at hxe
          go_region_with (go_at_call 10; go_must (refine (nt_drop (id : Int) (by omega) (by omega) _ hNd).mono ?_); rintro e w4 ⟨⟨rfl, ht4⟩, hn4⟩; rw [hfb]; have hc4 := ht4.cell hc (by simpa using hqn); have hB4 := ht4.box (hB.ext ((Ext.refl wr).drew)) (by simpa using hqn); have hf4 := hB4.free id)
          all_goals
            go_wp2
            go_roundw
            case rel =>
              refine ⟨k + 1, upd tb id [], fdel (id : Int) F, by omega, by go_num, ?_, ?_, Lib.hid HA.out.del, ?_⟩
              · exact hn4.touch (Touch.set (L := [q]) (by simp)) (by simpa using hqp1) (by simpa using hqn.symm)
              · have h1 := hB4.set id (.string ⟨#[]⟩)
                rw [show (.string ⟨#[]⟩ : Value) = .string (str []) from rfl, tbc_upd tb hid1.2] at h1
                exact h1
              · exact (Touch.set (L := [q]) (by simp)).ext (ht4.ext hE.drew (by simp)) (by simpa using hqw)
            case measure => simp [intOf]; omega
      · have h4' : ((V : Int) / 19 % 4 == 0) = false := by rw [beq_eq_false_iff_ne]; omega
        obtain ⟨c, hcd⟩ : ∃ c : Nat, c = V / 80 % 4 := ⟨_, rfl⟩
        have hci : (V : Int) / 80 % 4 = (c : Int) := by omega
        obtain ⟨c1, hc1⟩ : ∃ c1, c1 = c + 1 := ⟨_, rfl⟩
        have hc1i : (c : Int) + 1 = (c1 : Int) := by omega
        have hcl : c < 4 := by omega
        have hcc : c < c1 := by omega
        have hc1l : c1 ≤ 4 := by omega
        have hY : Hid ((ByteArray.extract ⟨#[97, 98, 99, 100]⟩ c c1).data.toList ≠ []) := Lib.hid (by
          intro h
          have := congrArg List.length h
          rw [ByteArray.data_extract] at this
          simp at this
          omega)
        clear hcd hc1
        have hNs : ∀ u, NoteAt (wr.setCell ⟨q, id, none⟩ u) (w.heap.size + 1) w.heap.size F := fun u => hN.touch (Touch.set (L := [q]) (by simp)) (by simpa using hqp1) (by simpa using hqn.symm)
        have hFl := HA.out.len
        have hAdd : ∀ m : Nat, m ≤ 4 → Hid (addB (id : Int) m F = true) := fun m hm => Lib.hid (by unfold addB; simp; omega)
        go_wp2_with (first
          | (go_at_call 9; go_must (refine (place_any _ _ (by omega) (by omega) _).mono ?_); rintro e w3 ⟨rfl, rfl⟩; rw [HV.out])
          | (go_at_call 11; go_must (refine (nt_add (id : Int) (by omega) (by omega) _ (by unfold maxLen; simp; omega) (by omega) _ (hNs _)).mono ?_); rintro e w5 ⟨⟨rfl, ht5⟩, hn5⟩; rw [(hAdd _ (by simp; omega)).out] at hn5 ⊢; simp only [if_true] at hn5))
        go_roundw
        case rel =>
          have hB5 := ht5.box (hB.set id (.string (ByteArray.extract ⟨#[97, 98, 99, 100]⟩ c c1))) (by simpa using hqn)
          rw [show (.string (ByteArray.extract ⟨#[97, 98, 99, 100]⟩ c c1) : Value) = .string (str (ByteArray.extract ⟨#[97, 98, 99, 100]⟩ c c1).data.toList) from by rw [← str_eq rfl], tbc_upd tb hid1.2] at hB5
          exact ⟨k + 1, _, _, by omega, by go_num, hn5, hB5, Lib.hid (HA.out.put hid1.1 hid1.2 hY.out), ht5.ext ((Touch.set (L := [q]) (by simp)).ext hE (by simpa using hqw)) (by simp)⟩
        case measure => simp [intOf]; omega
    · have hex : (¬ k < n ∧ decide (k < n) = false ∧ decide ((k : Int) < (n : Int)) = false) ∨ (k < n ∧ ¬ k < 60 ∧ decide (k < n) = true ∧ decide ((k : Int) < (n : Int)) = true ∧ decide ((k : Int) < 60) = false) := by
        by_cases h1 : k < n
        · right; refine ⟨h1, by omega, ?_, ?_, ?_⟩ <;> simp <;> omega
        · left; refine ⟨h1, ?_, ?_⟩ <;> simp <;> omega
      have hKb : ∀ r ∈ F, -9223372036854775808 ≤ r.1 ∧ r.1 ≤ 9223372036854775807 := fun r hr => by have := HA.out.keys r hr; omega
      have hFl := HA.out.len
      have HKb := Lib.hid hKb
      clear hKb
      clear hlt
      rcases hex with ⟨hx1, hx2, hx3⟩ | ⟨hx1, hx2, hx3, hx4, hx5⟩
      all_goals
        go_wp2_with (go_at_call 12; go_must (refine (nt_all wr hN (by omega) HKb.out).mono ?_); rintro e w3 ⟨v3, ⟨rfl, hE3⟩, hs3⟩)
        have hN3 := hN.ext hE3
        have hB3 := hB.ext hE3
        have hEw3 := hE.trans hE3
        obtain ⟨a3, c3, rfl, hc3, hcm3, _, hcell3⟩ := hs3
        unfold maxLen at hcm3
        have HC3 := Lib.hid hcell3
        clear hcell3
        go_wp2_with fail
        go_loop [8, 10] (fun kv iv => ∃ id : Nat, kv = .int .i64 (fat (id : Int) F : Int) ∧ iv = .int .i64 (id : Int) ∧ 1 ≤ id ∧ id ≤ 20) (fun _ iv => 20 - (intOf iv).toNat)
        case atStart => exact ⟨1, by rw [show ((1 : Nat) : Int) = 1 from rfl, HA.out.first]; rfl, rfl, by omega, by omega⟩
        case round =>
          obtain ⟨id, rfl, rfl, hi1, hi2⟩ := hrel
          by_cases hi : id < 20
          · have hc := hB3.cell id
            rw [tbc_get tb hi] at hc
            obtain ⟨X, hX⟩ : ∃ X, X = str (tb id) := ⟨_, rfl⟩
            have hxe : X.toList.isEmpty = !(fhas (id : Int) F) := by
              rw [HA.out.has id hi1 hi, Bool.not_not, ByteArray.toList_eq, hX]
              simp [str]
            have hgx : str (fget (id : Int) F) = X := by rw [HA.out.get id hi1 hi, hX]
            rw [← hX] at hc
            clear hX
            cases hfb : fhas (id : Int) F
            · rw [hfb] at hxe
              simp only [Bool.not_false] at hxe
              have hnx : Hid (fat ((id : Int) + 1) F = fat (id : Int) F) := Lib.hid (by rw [fat_next HA.out.rises, hfb]; rfl)
              go_wp2_with (go_at_call 13; go_must (refine (nt_get (id : Int) (by omega) (by omega) w3 hN3).mono ?_); rintro e w4 ⟨rfl, rfl⟩; rw [hfb, hgx])
              go_round
              case rel => exact ⟨id + 1, congrArg (fun z : Nat => Value.int .i64 (z : Int)) (by rw [show ((id + 1 : Nat) : Int) = (id : Int) + 1 by omega, hnx.out]), by go_num, by omega, by omega⟩
              case measure => simp [intOf]; omega
            · rw [hfb] at hxe
              simp only [Bool.not_true] at hxe
              have hnx : Hid (fat ((id : Int) + 1) F = fat (id : Int) F + 1) := Lib.hid (by rw [fat_next HA.out.rises, hfb]; rfl)
              have hfa := fhas_at (n := (id : Int)) HA.out.rises
              rw [hfb] at hfa
              have hfa2 := Bool.and_eq_true_iff.1 hfa.symm
              have hg := fget_at (n := (id : Int)) HA.out.rises hfb
              obtain ⟨K, hK⟩ : ∃ K, K = fat (id : Int) F := ⟨_, rfl⟩
              rw [← hK] at hfa2 hg hnx ⊢
              have hKl : K < F.length := by simpa using hfa2.1
              have hKe : (F[K]).1 = (id : Int) := by have := hfa2.2; rw [List.getD_eq_getElem?_getD, List.getElem?_eq_getElem hKl] at this; simpa using this
              have hKg : str (F[K]).2 = X := by rw [← hgx, hg, List.getD_eq_getElem?_getD, List.getElem?_eq_getElem hKl]; rfl
              obtain ⟨g1, g2⟩ := ncells_get hKl
              rw [hKe] at g1
              rw [hKg] at g2
              obtain ⟨b3, o3, rfl, k1⟩ := HC3.out _ _ g1
              obtain ⟨b4, o4, e4, k2⟩ := HC3.out _ _ g2
              cases e4
              rw [← Nat.add_assoc] at k2
              clear hfa hfa2 hg hKe hKg g1 g2 hK
              go_wp2_with (go_at_call 13; go_must (refine (nt_get (id : Int) (by omega) (by omega) w3 hN3).mono ?_); rintro e w4 ⟨rfl, rfl⟩; rw [hfb, hgx])
              go_round
              case rel => exact ⟨id + 1, congrArg (Value.int .i64) (by rw [show ((id + 1 : Nat) : Int) = (id : Int) + 1 by omega, hnx.out]; rfl), by go_num, by omega, by omega⟩
              case measure => simp [intOf]; omega
          · obtain rfl : id = 20 := by omega
            have hfl : Hid (fat 20 F = F.length) := Lib.hid HA.out.last
            have hw0 : Hid (addB 0 (⟨#[]⟩ : ByteArray).size F = false) := Lib.hid (by simp [addB])
            have hw1 : Hid (addB 1 (str (List.replicate 4097 0)).size F = false) := Lib.hid (by simp [addB])
            rw [show (((20 : Nat) : Int)) = 20 from rfl, hfl.out]
            go_wp2_with fail
            refine (nt_add 0 (by decide) (by decide) ⟨#[]⟩ (by decide) (by omega) w3 hN3).mono ?_
            rintro e w5 ⟨⟨rfl, ht5⟩, hn5⟩
            rw [hw0.out] at hn5 ⊢
            simp only [Bool.false_eq_true, if_false] at hn5
            obtain ⟨w6, hr6, hc6, hE6⟩ := run_zero_text w5 4097 (by decide)
            rw [show (((4097 : Nat) : Int)) = 4097 from rfl] at hr6
            obtain ⟨Z, hZ⟩ : ∃ Z, Z = str (List.replicate 4097 0) := ⟨_, rfl⟩
            have hZs : Z.size = 4097 := by rw [hZ]; simp
            rw [← hZ] at hc6 hw1
            clear hZ
            go_wp2_with fail
            refine (nt_add 1 (by decide) (by decide) Z (by unfold maxLen; omega) (by omega) w6 (hn5.ext hE6)).mono ?_
            rintro e w7 ⟨⟨rfl, ht7⟩, hn7⟩
            rw [hw1.out]
            go_wp2_with fail
            refine (awake11_any _).mono ?_
            rintro e w8 ⟨rfl, hE8⟩
            go_wp2
            go_ret
            exact ⟨rfl, (ht7.ext ((ht5.ext hEw3 (by simp)).trans hE6) (by simp)).trans hE8⟩
theorem walk_noteLast (v0 : Value) (W : World) (w0 : ∃ l : List Int, IntsIn W v0 .i64 l ∧ ∀ n ∈ l, (Lit.int .i64 n).wf = true) :
    Calls Try.prog 3 #[v0] W fun e w' => e = .returned (.bool true) ∧ Ext W w' := by
  obtain ⟨l, hl, _⟩ := w0
  exact law_noteLast v0 l W hl
end Go.Proofs.Ytmjhdfifbjdgpaa
