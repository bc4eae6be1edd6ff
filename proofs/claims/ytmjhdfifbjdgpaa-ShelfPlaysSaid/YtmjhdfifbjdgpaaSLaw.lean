/- ShelfPlays: the law's walk. -/
import Derived.Test.YtmjhdfifbjdgpaaS8
import Derived.Test.YtmjhdfifbjdgpaaS9
import Derived.Test.YtmjhdfifbjdgpaaS10
import Derived.Test.YtmjhdfifbjdgpaaS12
set_option linter.unusedSimpArgs false
set_option linter.unusedVariables false
namespace Go.Proofs.Ytmjhdfifbjdgpaa
open Go Go.RowKit
attribute [local go_sem] yields yUpon

set_option maxRecDepth 100000 in
set_option maxHeartbeats 8000000 in
theorem law_shelfPlays (v : Value) (l : List OpS) (at_ : Int) (w : World) (hin : Ops5In w v l) :
    Calls Try.prog 6 #[v, .int .i64 at_] w fun e w' => e = .returned (.bool true) ∧ Ext w w' := by
  obtain ⟨hops, hok⟩ := hin
  have hops' := hops
  obtain ⟨a0, c0, rfl, hc0, hcm0, _⟩ := hops'
  unfold maxLen at hcm0
  obtain ⟨n, hn⟩ : ∃ n, n = l.length := ⟨_, rfl⟩
  have HN := Lib.hid hn
  rw [← hn] at hc0 hops ⊢
  have HO := Lib.hid hops
  have HK := Lib.hid hok
  clear hn hops hok
  obtain ⟨K, hK⟩ : ∃ K : Nat, (K : Int) = at_ % 30 := ⟨(at_ % 30).toNat, by omega⟩
  have HKK := Lib.hid hK.symm
  clear hK
  go_enter Try.func6, Try.ntmps6
  go_wp2_with (first
    | (go_at_call 21; go_must (refine (sh_new w).mono ?_); rintro e w1 ⟨rfl, hw1⟩; have hn := sh_made w; rw [← hw1] at hn; have hs1 : w1.heap.size = w.heap.size + 2 := (by rw [hw1]; simp); have hE1 : Ext w w1 := (by rw [hw1]; exact ((Ext.refl w).alloc _).alloc _); clear hw1)
    | (go_at_call 9; go_must (refine (place_any _ _ (by omega) (by omega) _).mono ?_); rintro e w3 ⟨rfl, rfl⟩; rw [HKK.out]))
  obtain ⟨m0, hm0⟩ : ∃ m0, m0 = w.heap.size := ⟨_, rfl⟩
  have hmw : w.heap.size ≤ m0 := by omega
  have hD0 : Duo w (w1.alloc (.cells #[.string ⟨#[]⟩, .int .i64 0, .slice none 0 0, .string ⟨#[]⟩] 54)) (m0 + 1) m0 (m0 + 2) ⟨#[]⟩ 0 [] ⟨#[]⟩ :=
    ⟨by rw [hm0]; exact hn.ext ((Ext.refl w1).alloc _), ⟨_, by rw [hm0, ← hs1]; exact BoxAt.made w1 _ _, World.ownsRow_nil _ _ _ _⟩, hE1.alloc _, by omega, hmw, by omega, Small5.nil⟩
  rw [← hm0]
  clear hm0 hn hE1 hs1
  generalize (w1.alloc (.cells #[.string ⟨#[]⟩, .int .i64 0, .slice none 0 0, .string ⟨#[]⟩] 54)) = w2 at hD0 ⊢
  go_loopw [8, 9, 10] (fun t x i wr => ∃ (k m : Nat) (log : ByteArray) (good : Nat) (F : Fl) (man : ByteArray), k ≤ n ∧ i = .int .i64 (k : Int) ∧ Duo w wr (m0 + 1) m (m0 + 2) log good F man ∧ Twin w wr (m0 + 1) m (m0 + 2) t x) (fun _ _ i _ => n - (intOf i).toNat)
  case atStart => exact ⟨0, m0, _, _, _, _, Nat.zero_le _, rfl, hD0, .inl ⟨rfl, rfl⟩⟩
  case round =>
    obtain ⟨k, m, log, good, F, man, hk, rfl, hD, hT⟩ := hrel
    by_cases hlt : k < n ∧ k < 40
    · obtain ⟨hlt1, hlt2⟩ := hlt
      have hkl : k < l.length := by rw [← HN.out]; exact hlt1
      have hKo := HK.out _ (List.getElem_mem hkl)
      obtain ⟨op, hop⟩ : ∃ op, op = l[k] := ⟨_, rfl⟩
      have hcells : ∀ (j : Nat) (u : Value), j < 3 → op.cells[j]? = some u → ∃ b o, a0 = some ⟨b, o, none⟩ ∧ w.cell? ⟨b, o + k * 3 + j, none⟩ = some u := fun j u hj hu => Ops5In.cell HO.out hkl hj (by rw [← hop]; exact hu)
      rw [← hop] at hKo
      clear hop
      rcases op with ⟨kd, x, s⟩
      obtain ⟨⟨h0, h1⟩, hsb⟩ := hKo
      simp only at h0 h1 hsb
      obtain ⟨b, o, rfl, g0⟩ := hcells 0 _ (by decide) rfl
      obtain ⟨b1, o1, e1, g1⟩ := hcells 1 _ (by decide) rfl
      cases e1
      obtain ⟨b1, o1, e1, g2⟩ := hcells 2 _ (by decide) rfl
      cases e1
      simp only [Nat.add_zero] at g0
      replace g0 := hD.ext.cell g0
      replace g1 := hD.ext.cell g1
      replace g2 := hD.ext.cell g2
      clear hcells
      unfold maxLen at hsb
      have hlk1 : decide ((k : Int) < (n : Int)) = true := by simp; omega
      have hlk2 : decide ((k : Int) < 40) = true := by simp; omega
      have hEb := (Ext.refl wr).alloc (.cells #[.int .i64 kd, .int .i64 x, .string s] 56)
      have hbx := BoxAt.made wr #[.int .i64 kd, .int .i64 x, .string s] 56
      have x0 : (wr.alloc (.cells #[.int .i64 kd, .int .i64 x, .string s] 56)).cell? ⟨wr.heap.size, 0, none⟩ = some (.int .i64 kd) := hbx.cell 0
      have x1 : (wr.alloc (.cells #[.int .i64 kd, .int .i64 x, .string s] 56)).cell? ⟨wr.heap.size, 1, none⟩ = some (.int .i64 x) := hbx.cell 1
      have x2 : (wr.alloc (.cells #[.int .i64 kd, .int .i64 x, .string s] 56)).cell? ⟨wr.heap.size, 2, none⟩ = some (.string s) := hbx.cell 2
      have hEa := hD.ext.trans hEb
      by_cases hsm : s.size ≤ 300
      · have hsi : ¬ (300 : Int) < (s.size : Int) := by omega
        have hDb := hD.grow hEb
        have hTb := hT.grow hEb
        have hrs := hD.shelf.files.2
        obtain ⟨X, hX⟩ : ∃ X, X = str (fget x F) := ⟨_, rfl⟩
        obtain ⟨Y, hY⟩ : ∃ Y : Int, Y = (if fhas x F then 0 else 9) := ⟨_, rfl⟩
        have HX := Lib.hid hX
        have HY := Lib.hid hY
        have hYY : (Y != Y) = false := by simp
        clear hX hY
        by_cases hkK : k = K
        · have tk : ((k : Int) == (K : Int)) = true := by simp; omega
          clear hkK
          go_wp2_with (first
            | (go_at_call 23; go_must (refine (sh_get x h0 h1 _ hDb.shelf).mono ?_); rintro e w5 ⟨rfl, rfl⟩; rw [← HX.out, ← HY.out])
            | (go_at_call 24; go_must (refine (r5_get x _ hDb.ref hrs).mono ?_; rintro e w6 ⟨rfl, hE6⟩; rw [← HX.out, ← HY.out]); go_must (have hDc := hDb.grow hE6; have hTc := hTb.grow hE6); go_must (have y0 := hE6.cell x0; have y1 := hE6.cell x1; have y2 := hE6.cell x2))
            | (go_at_call 25; go_must (refine (do5_any kd x h0 h1 s hsm hDc).mono ?_); rintro e w7 ⟨rfl, ⟨m7, log7, good7, F7, man7, hD7, hm7⟩, ht7⟩; have hT7 := hTc.done hDc ht7 hm7 hD7.ext)
            | (go_at_call 26; go_must (refine (same5_any hD7).mono ?_); rintro e w8 ⟨rfl, hE8⟩; have hD8 := hD7.grow hE8; have hT8 := hT7.grow hE8)
            | (go_at_call 27; go_must (refine (sh_copy hD8.len.len _ hD8.shelf).mono ?_); rintro e w9 ⟨⟨rfl, hE9⟩, hs9⟩; have hD9 := hD8.grow hE9)
            | (go_at_call 28; go_must (refine (r5_copy (by have := hD8.len.len; omega) _ hD9.ref).mono ?_); rintro e w10 ⟨q', ⟨rfl, hq'⟩, hE10, hr10⟩))
          have hlt1 := hD8.shelf.box.lt
          have hlt2 := hD8.shelf.files.lt
          obtain ⟨v9, hb9, _⟩ := hD9.ref.box
          have hlt3 := hb9.lt
          have hle8 := hD8.ext.le
          have hle9 := hE9.le
          have hnew : Twin w w10 (m0 + 1) m7 (m0 + 2) (.pointer (some ⟨w8.heap.size + 1, 0, none⟩)) (.pointer (some ⟨q', 0, none⟩)) :=
            .inr ⟨w8.heap.size + 1, w8.heap.size, q', log7, good7, F7, man7, rfl, rfl, ⟨hs9.ext hE10, hr10, hD9.ext.trans hE10, by omega, hle8, by omega, hD7.len⟩, by omega, by omega, by omega⟩
          go_roundw
          case rel => exact ⟨k + 1, m7, log7, good7, F7, man7, by omega, by go_num, hD9.grow hE10, hnew⟩
          case measure => simp [intOf]; omega
        · have tk : ((k : Int) == (K : Int)) = false := by rw [beq_eq_false_iff_ne]; omega
          clear hkK
          go_wp2_with (first
            | (go_at_call 23; go_must (refine (sh_get x h0 h1 _ hDb.shelf).mono ?_); rintro e w5 ⟨rfl, rfl⟩; rw [← HX.out, ← HY.out])
            | (go_at_call 24; go_must (refine (r5_get x _ hDb.ref hrs).mono ?_; rintro e w6 ⟨rfl, hE6⟩; rw [← HX.out, ← HY.out]); go_must (have hDc := hDb.grow hE6; have hTc := hTb.grow hE6); go_must (have y0 := hE6.cell x0; have y1 := hE6.cell x1; have y2 := hE6.cell x2))
            | (go_at_call 25; go_must (refine (do5_any kd x h0 h1 s hsm hDc).mono ?_); rintro e w7 ⟨rfl, ⟨m7, log7, good7, F7, man7, hD7, hm7⟩, ht7⟩; have hT7 := hTc.done hDc ht7 hm7 hD7.ext)
            | (go_at_call 26; go_must (refine (same5_any hD7).mono ?_); rintro e w8 ⟨rfl, hE8⟩; have hD8 := hD7.grow hE8; have hT8 := hT7.grow hE8)
            | (go_at_call 27; go_must (refine (sh_copy hD8.len.len _ hD8.shelf).mono ?_); rintro e w9 ⟨⟨rfl, hE9⟩, hs9⟩; have hD9 := hD8.grow hE9)
            | (go_at_call 28; go_must (refine (r5_copy (by have := hD8.len.len; omega) _ hD9.ref).mono ?_); rintro e w10 ⟨q', ⟨rfl, hq'⟩, hE10, hr10⟩))
          go_roundw
          case rel => exact ⟨k + 1, m7, log7, good7, F7, man7, by omega, by go_num, hD8, hT8⟩
          case measure => simp [intOf]; omega
      · have hsi : (300 : Int) < (s.size : Int) := by omega
        go_wp2_with (go_at_call 22; go_must (refine (awake5_any _).mono ?_); rintro e w6 ⟨rfl, hE6⟩)
        go_ret
        exact ⟨rfl, hEa.trans hE6⟩
    · have hex : (¬ k < n ∧ decide (k < n) = false ∧ decide ((k : Int) < (n : Int)) = false) ∨ (k < n ∧ ¬ k < 40 ∧ decide (k < n) = true ∧ decide ((k : Int) < (n : Int)) = true ∧ decide ((k : Int) < 40) = false) := by
        by_cases h1 : k < n
        · right; refine ⟨h1, by omega, ?_, ?_, ?_⟩ <;> simp <;> omega
        · left; refine ⟨h1, ?_, ?_⟩ <;> simp <;> omega
      have hE := hD.ext
      clear hlt
      rcases hT with ⟨rfl, rfl⟩ | ⟨p', m', q', log', good', F', man', rfl, rfl, hD', _⟩
      all_goals
        rcases hex with ⟨hx1, hx2, hx3⟩ | ⟨hx1, hx2, hx3, hx4, hx5⟩
        all_goals
          go_wp2_with (first
            | (go_at_call 26; go_must (refine (same5_any hD').mono ?_); rintro e w8 ⟨rfl, hE8⟩)
            | (go_at_call 22; go_must (refine (awake5_any _).mono ?_); rintro e w6 ⟨rfl, hE6⟩))
          go_ret
          first
            | exact ⟨rfl, (hE.trans hE8).trans hE6⟩
            | exact ⟨rfl, hE.trans hE6⟩
theorem walk_shelfPlays (v0 : Value) (a1 : Int) (W : World) (w0 : ∃ l : List OpS, Ops5In W v0 l) (_ : (Lit.int .i64 a1).wf = true) :
    Calls Try.prog 6 #[v0, .int .i64 a1] W fun e w' => e = .returned (.bool true) ∧ Ext W w' := by
  obtain ⟨l, hl⟩ := w0
  exact law_shelfPlays v0 l a1 W hl
end Go.Proofs.Ytmjhdfifbjdgpaa
