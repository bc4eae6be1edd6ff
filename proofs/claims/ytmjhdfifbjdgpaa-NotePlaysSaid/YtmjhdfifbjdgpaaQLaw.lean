/- NotePlays: the law's walk. -/
import Derived.Test.YtmjhdfifbjdgpaaQ3
import Derived.Test.YtmjhdfifbjdgpaaQ5
import Derived.Test.YtmjhdfifbjdgpaaQ9
import Derived.Test.YtmjhdfifbjdgpaaQ10
import Derived.BigQuiet
import Derived.Deep.CutBlock
import Derived.Deep.CutRange
set_option linter.unusedSimpArgs false
set_option linter.unusedVariables false
namespace Go.Proofs.Ytmjhdfifbjdgpaa
open Go Go.RowKit
attribute [local go_sem] yields yUpon

theorem opCells_len (o : OpN) : o.cells.length = 5 := rfl
theorem ops_get : ∀ {l : List OpN} {k : Nat} (hk : k < l.length) {j : Nat} (_ : j < 5), (l.flatMap OpN.cells)[k * 5 + j]? = (l[k]).cells[j]?
  | [], k, hk, _, _ => by simp at hk
  | o :: l, 0, _, j, hj => by rw [List.flatMap_cons, Nat.zero_mul, Nat.zero_add, List.getElem?_append_left (by rw [opCells_len]; exact hj)]; rfl
  | o :: l, k + 1, hk, j, hj => by
    have ih := ops_get (l := l) (k := k) (by simpa using hk) hj
    rw [List.flatMap_cons, List.getElem?_append_right (by rw [opCells_len]; omega), opCells_len, show (k + 1) * 5 + j - 5 = k * 5 + j by omega, ih]
    rfl
theorem OpsIn.cell {w : World} {a : Option Addr} {n c : Nat} {l : List OpN} (h : SliceIn w (.slice a n c) n (l.flatMap OpN.cells)) {k : Nat} (hk : k < l.length) {j : Nat} (hj : j < 5) {u : Value} (hu : (l[k]).cells[j]? = some u) : ∃ b o, a = some ⟨b, o, none⟩ ∧ w.cell? ⟨b, o + k * 5 + j, none⟩ = some u := by
  obtain ⟨a', c', e, _, _, _, hc⟩ := h
  cases e
  obtain ⟨b, o, e, hx⟩ := hc (k * 5 + j) u (by rw [ops_get hk hj]; exact hu)
  exact ⟨b, o, e, by rw [Nat.add_assoc]; exact hx⟩

/-- The two at one. -/
structure Both (w wr : World) (m0 q : Nat) (F : Fl) : Prop where
  note : NoteAt wr (m0 + 1) m0 F
  ref : RefAt wr q q F
  good : Good F
  ext : Ext w wr
theorem Both.grow {w wr w' : World} {m0 q : Nat} {F : Fl} (h : Both w wr m0 q F) (hE : Ext wr w') : Both w w' m0 q F := ⟨h.note.ext hE, h.ref.ext hE, h.good, h.ext.trans hE⟩
theorem note_below {w w' : World} {m0 q : Nat} {F : Fl} (hq : m0 + 1 < q) (hB : Below q w w') (h : NoteAt w (m0 + 1) m0 F) : NoteAt w' (m0 + 1) m0 F := by
  refine ⟨?_, ?_, h.ne⟩
  · have hb := h.box
    unfold BoxAt at *
    rw [hB.block _ hq]; exact hb
  · obtain ⟨⟨es, clock, hb, F1, hs, hD⟩, hr⟩ := h.files
    exact ⟨⟨es, clock, by rw [hB.block m0 (by omega)]; exact hb, F1, hs, hD⟩, hr⟩

set_option maxRecDepth 100000 in
set_option maxHeartbeats 8000000 in
theorem law_notePlays (v : Value) (l : List OpN) (w : World) (hin : OpsIn w v l) :
    Calls Try.prog 4 #[v] w fun e w' => e = .returned (.bool true) ∧ Ext w w' := by
  obtain ⟨hops, hok⟩ := hin
  obtain ⟨a0, c0, rfl, hc0, hcm0, _⟩ := id hops
  unfold maxLen at hcm0
  obtain ⟨n, hn⟩ : ∃ n, n = l.length := ⟨_, rfl⟩
  have HN := Lib.hid hn
  rw [← hn] at hc0 hops ⊢
  have HO := Lib.hid hops
  have HK := Lib.hid hok
  clear hn hops hok
  go_enter Try.func4, Try.ntmps4
  go_wp2_with (first
    | (go_at_call 8; go_must (refine (nt_new w).mono ?_); rintro e w1 ⟨rfl, hw1⟩; have hn := nt_made w; rw [← hw1] at hn; have hs1 : w1.heap.size = w.heap.size + 2 := (by rw [hw1]; simp); have hE1 : Ext w w1 := (by rw [hw1]; exact ((Ext.refl w).alloc _).alloc _); clear hw1))
  obtain ⟨m0, hm0⟩ : ∃ m0, m0 = w.heap.size := ⟨_, rfl⟩
  have hmw : w.heap.size ≤ m0 := by omega
  have hB0 : Both w (w1.alloc (.cells #[.slice none 0 0] 41)) m0 (m0 + 2) [] :=
    ⟨by rw [hm0]; exact hn.ext ((Ext.refl w1).alloc _), ⟨⟨_, by rw [hm0, ← hs1]; exact BoxAt.made w1 _ _, World.ownsRow_nil _ _ _ _⟩, Nat.le_refl _⟩, Good.nil, hE1.alloc _⟩
  rw [← hm0]
  clear hm0 hn hE1 hs1
  generalize (w1.alloc (.cells #[.slice none 0 0] 41)) = w2 at hB0 ⊢
  go_loopw [5] (fun i wr => ∃ (k : Nat) (F : Fl), k ≤ n ∧ i = .int .i64 (k : Int) ∧ Both w wr m0 (m0 + 2) F) (fun i _ => n - (intOf i).toNat)
  case atStart => exact ⟨0, [], Nat.zero_le _, rfl, hB0⟩
  case round =>
    obtain ⟨k, F, hk, rfl, hB⟩ := hrel
    by_cases hlt : k < n ∧ k < 60
    · obtain ⟨hlt1, hlt2⟩ := hlt
      have hkl : k < l.length := by rw [← HN.out]; exact hlt1
      have hK := HK.out _ (List.getElem_mem hkl)
      obtain ⟨op, hop⟩ : ∃ op, op = l[k] := ⟨_, rfl⟩
      have hcells : ∀ (j : Nat) (u : Value), j < 5 → op.cells[j]? = some u → ∃ b o, a0 = some ⟨b, o, none⟩ ∧ w.cell? ⟨b, o + k * 5 + j, none⟩ = some u := fun j u hj hu => OpsIn.cell HO.out hkl hj (by rw [← hop]; exact hu)
      rw [← hop] at hK
      clear hop
      rcases op with ⟨kd, id, bd, va, A, vd, D⟩
      obtain ⟨⟨hk0, hk1⟩, ⟨hi0, hi1⟩, hbd, hA, hAb, hD, hDb⟩ := hK
      simp only at hk0 hk1 hi0 hi1 hbd hA hAb hD hDb
      obtain ⟨b, o, rfl, g0⟩ := hcells 0 _ (by decide) rfl
      obtain ⟨b1, o1, e1, g1⟩ := hcells 1 _ (by decide) rfl
      cases e1
      obtain ⟨b1, o1, e1, g2⟩ := hcells 2 _ (by decide) rfl
      cases e1
      obtain ⟨b1, o1, e1, g3⟩ := hcells 3 _ (by decide) rfl
      cases e1
      obtain ⟨b1, o1, e1, g4⟩ := hcells 4 _ (by decide) rfl
      cases e1
      simp only [Nat.add_zero] at g0
      replace g0 := hB.ext.cell g0
      replace g1 := hB.ext.cell g1
      replace g2 := hB.ext.cell g2
      replace g3 := hB.ext.cell g3
      replace g4 := hB.ext.cell g4
      clear hcells
      obtain ⟨aa, ca, rfl, hca, hcma, _⟩ := hA.get
      have hD' := hD
      obtain ⟨ad, cd, rfl, hcd, hcmd, _⟩ := hD'
      unfold maxLen at hcmd
      have hbd' := hbd
      unfold maxLen at hbd'
      have hlk1 : decide ((k : Int) < (n : Int)) = true := by simp; omega
      have hlk2 : decide ((k : Int) < 60) = true := by simp; omega
      by_cases hsm : bd.size ≤ 5000 ∧ A.length ≤ 20 ∧ D.length ≤ 20
      · obtain ⟨z1, z2, z3⟩ := hsm
        have y1 : decide ((5000 : Int) < (bd.size : Int)) = false := by simp; omega
        have y2 : decide ((20 : Int) < (A.length : Int)) = false := by simp; omega
        have y3 : decide ((20 : Int) < (D.length : Int)) = false := by simp; omega
        obtain ⟨bo, hbo⟩ : ∃ bo, bo = wr.heap.size := ⟨_, rfl⟩
        have hbx : BoxAt (wr.alloc (.cells #[.int .i64 kd, .int .i64 id, .string bd, .slice aa A.length ca, .slice ad D.length cd] 43)) bo #[.int .i64 kd, .int .i64 id, .string bd, .slice aa A.length ca, .slice ad D.length cd] 43 := by rw [hbo]; exact BoxAt.made wr _ _
        have hBn := hB.grow ((Ext.refl wr).alloc (.cells #[.int .i64 kd, .int .i64 id, .string bd, .slice aa A.length ca, .slice ad D.length cd] 43))
        have x0 := hbx.cell 0
        have x1 := hbx.cell 1
        have x2 := hbx.cell 2
        have x3 := hbx.cell 3
        have x4 := hbx.cell 4
        simp at x0 x1 x2 x3 x4
        rw [hbo] at x0 x1 x2 x3 x4
        obtain ⟨V, hV⟩ : ∃ V : Nat, (V : Int) = kd % 4 := ⟨(kd % 4).toNat, by omega⟩
        have hVl : V < 4 := by omega
        have HV := Lib.hid hV.symm
        clear hV
        go_upto_block 2 with (go_at_call 9; go_must (refine (place_any _ _ (by omega) (by omega) _).mono ?_); rintro e w3 ⟨rfl, rfl⟩; rw [HV.out])
        rw [← hbo]
        rw [← hbo] at x0 x1 x2 x3 x4
        have hbm : m0 ≠ bo := by have := hB.note.files.lt; omega
        have hqb := hB.ref.le
        clear hbo
        have hcE := hB.ext.trans ((Ext.refl wr).alloc (.cells #[.int .i64 kd, .int .i64 id, .string bd, .slice aa A.length ca, .slice ad D.length cd] 43))
        change Code.wp _ _ _ _ (wr.alloc (.cells #[.int .i64 kd, .int .i64 id, .string bd, .slice aa A.length ca, .slice ad D.length cd] 43))
        generalize (wr.alloc (.cells #[.int .i64 kd, .int .i64 id, .string bd, .slice aa A.length ca, .slice ad D.length cd] 43)) = W at hbx hBn x0 x1 x2 x3 x4 ⊢
        clear hB g0 g1 g2 g3 g4 hcE
        go_cut [7] from 17 to 126 (fun okv wc => okv = .bool true ∧ ∃ Fn, Both w wc m0 (m0 + 2) Fn ∧ BoxAt wc bo #[.int .i64 kd, .int .i64 id, .string bd, .slice aa A.length ca, .slice ad D.length cd] 43)
        case first =>
          obtain ⟨hNa, hRa, hG, hEa⟩ := hBn.grow (Ext.refl W).drew
          have hXa := hbx.ext (Ext.refl W).drew
          have hGl := hG.len
          by_cases hV2 : V = 2
          · have t1 : ((V : Int) == 2) = true := by simp; omega
            clear hV2
            obtain ⟨B, hBd⟩ : ∃ B, B = fhas id F := ⟨_, rfl⟩
            have HBd := Lib.hid hBd
            clear hBd
            go_wp2_with fail
            go_region_with (first
              | (go_at_call 10; go_must (first
                | (refine (nt_drop id hi0 hi1 _ hNb).mono ?_; rintro e w4 ⟨⟨rfl, ht4⟩, hnF⟩; have hrF := hr5.touch ht4 (by intro j hj; rw [List.mem_singleton.1 hj]; omega); have hxF := ht4.box hX5 (by simpa using hbm.symm); have hEF := ht4.ext hE5 (by simpa using hmw); rw [← HBd.out])
                | (refine (nt_drop id hi0 hi1 _ hNa).mono ?_; rintro e w4 ⟨⟨rfl, ht4⟩, hn4⟩; have hRb := hRa.touch ht4 (by intro j hj; rw [List.mem_singleton.1 hj]; omega); have hX4 := ht4.box hXa (by simpa using hbm.symm); have hE4 := ht4.ext hEa (by simpa using hmw); have y1 := hX4.cell 1; simp at y1; rw [← HBd.out])))
              | (go_at_call 15; go_must (first
                | (refine (r11_drop id (by omega) _ hRb hG.rises).mono ?_; rintro e w5 ⟨⟨rfl, ht5⟩, hrF⟩; have hnF := note_below (by omega) ht5.below hn4; have hxF := ht5.keep _ _ _ hX4 (by decide) (by decide); have hEF := Below.trans hE4 (Below.mono ht5.below (by omega)); rw [← HBd.out])
                | (refine (r11_drop id (by omega) _ hRa hG.rises).mono ?_; rintro e w5 ⟨⟨rfl, ht5⟩, hr5⟩; have hNb := note_below (by omega) ht5.below hNa; have hX5 := ht5.keep _ _ _ hXa (by decide) (by decide); have hE5 := Below.trans hEa (Below.mono ht5.below (by omega)); have y1 := hX5.cell 1; simp at y1; rw [← HBd.out]))))
            all_goals
              have hEF : Ext w _ := hEF
              go_wp2_with fail
              go_meet
              case rel => exact ⟨by simp, _, ⟨hnF, hrF, hG.del _, hEF⟩, hxF⟩
          · have t1 : ((V : Int) == 2) = false := by rw [beq_eq_false_iff_ne]; omega
            clear hV2
            by_cases hV3 : V = 3
            · have t2 : ((V : Int) == 3) = true := by simp; omega
              clear hV3
              obtain ⟨B, hBd⟩ : ∃ B, B = fitsB F A D := ⟨_, rfl⟩
              have HBd := Lib.hid hBd
              clear hBd
              have hAa := hA.ext hBn.ext
              have hDa := hD.ext hBn.ext
              have HAb := Lib.hid hAb
              have HDb := Lib.hid hDb
              clear hAb hDb
              go_wp2_with fail
              refine wp_region_tab 14 [(5, fun v _ => v = .bool B), (11, fun v _ => v = .bool B)] (by kernel_rfl) (by kernel_rfl) (by kernel_rfl) ⟨stays_eq _, stays_eq _, trivial⟩ ?_
              have y3 := hbx.cell 3
              have y4 := hbx.cell 4
              simp at y3 y4
              replace y3 := held y3
              replace y4 := held y4
              refine rg_quiet rfl rfl rfl rfl ?_; intro K hK; go_big_quiet_op; go_big_quiet_on
              refine rg_quiet rfl rfl rfl rfl ?_; intro K hK; go_big_quiet_op; go_big_quiet_on
              refine rg_quiet rfl rfl rfl rfl ?_; intro K hK; go_big_quiet_op; go_big_quiet_on
              refine rg_quiet rfl rfl rfl rfl ?_; intro K hK; go_big_quiet_op; go_big_quiet_on
              refine rg_quiet rfl rfl rfl rfl ?_; intro K hK; go_big_quiet_op; go_big_quiet_on
              refine rg_val [] rfl rfl rfl (by kernel_rfl) (fun w1 hE hf => ?_) ?_
              · go_simp
                exact (nt_fits _ A _ D w1 (hBn.note.ext hE) hG (hAa.ext hE) HAb.out (hDa.ext hE) HDb.out).mono fun e w' ⟨he, hw⟩ => ⟨_, he, rg_done hE hw (by rw [← HBd.out])⟩
              simp only [Act.put, List.setIfInBounds_toArray, List.set_cons_zero, List.set_cons_succ]
              refine rg_quiet rfl rfl rfl rfl ?_; intro K hK; go_big_quiet_op; go_big_quiet_on
              refine rg_quiet rfl rfl rfl rfl ?_; intro K hK; go_big_quiet_op; go_big_quiet_on
              refine rg_quiet rfl rfl rfl rfl ?_; intro K hK; go_big_quiet_op; go_big_quiet_on
              refine rg_quiet rfl rfl rfl rfl ?_; intro K hK; go_big_quiet_op; go_big_quiet_on
              refine rg_quiet rfl rfl rfl rfl ?_; intro K hK; go_big_quiet_op; go_big_quiet_on
              refine rg_val [] rfl rfl rfl (by kernel_rfl) (fun w1 hE hf => ?_) ?_
              · go_simp
                exact (r11_fits _ A _ D w1 (hBn.ref.ext hE) hG (hAa.ext hE) (fun q hq => (HAb.out q hq).2) (hDa.ext hE)).mono fun e w' ⟨he, hw⟩ => ⟨_, he, rg_done hE hw (by rw [← HBd.out])⟩
              simp only [Act.put, List.setIfInBounds_toArray, List.set_cons_zero, List.set_cons_succ]
              refine rg_quiet rfl rfl rfl rfl ?_; intro K hK; go_big_quiet_op; go_big_quiet_on
              refine rg_quiet rfl rfl rfl rfl ?_; intro K hK; go_big_quiet_op; go_big_quiet_on
              refine rel_nil fun w5 hEF _ => ?_
              clear y3 y4
              go_wp2_with fail
              go_meet
              case rel => exact ⟨by simp, _, ⟨hBn.note.ext hEF, hBn.ref.ext hEF, hG, hBn.ext.trans hEF⟩, hbx.ext hEF⟩
            · have t2 : ((V : Int) == 3) = false := by rw [beq_eq_false_iff_ne]; omega
              clear hV3
              obtain ⟨B, hBd⟩ : ∃ B, B = addB id bd.size F := ⟨_, rfl⟩
              have HBd := Lib.hid hBd
              clear hBd
              have hGn : Hid (Good (if B then fput id bd.data.toList F else F)) := Lib.hid (by
                cases B
                · exact hG
                · exact hG.put HBd.out.symm)
              go_wp2_with fail
              go_region_with (first
                | (go_at_call 11; go_must (refine (nt_add id hi0 hi1 bd hbd (by omega) _ hNa).mono ?_); rintro e w4 ⟨⟨rfl, ht4⟩, hn4⟩; have hRb := hRa.touch ht4 (by intro j hj; rw [List.mem_singleton.1 hj]; omega); have hX4 := ht4.box hXa (by simpa using hbm.symm); have hE4 := ht4.ext hEa (by simpa using hmw); have y1 := hX4.cell 1; have y2 := hX4.cell 2; simp at y1 y2; rw [← HBd.out] at hn4 ⊢)
                | (go_at_call 18; go_must (refine (r11_add id bd _ hRb hG.rises hbd).mono ?_); rintro e w5 ⟨⟨rfl, ht5⟩, hrF⟩; have hnF := note_below (by omega) ht5.below hn4; have hxF := ht5.keep _ _ _ hX4 (by decide) (by decide); have hEF := Below.trans hE4 (Below.mono ht5.below (by omega)); rw [← HBd.out] at hrF ⊢))
              all_goals
                have hEF : Ext w _ := hEF
                go_wp2_with fail
                go_meet
                case rel => exact ⟨by simp, _, ⟨hnF, hrF, hGn.out, hEF⟩, hxF⟩
        case rest =>
          obtain ⟨rfl, Fn, hBc, hxc⟩ := hcut
          clear hBn hbx x0 x1 x2 x3 x4
          have x1 := hxc.cell 1
          simp at x1
          have hr := hBc.good.rises
          obtain ⟨X, hX⟩ : ∃ X, X = str (fget id Fn) := ⟨_, rfl⟩
          obtain ⟨Y, hY⟩ : ∃ Y, Y = fhas id Fn := ⟨_, rfl⟩
          have HX := Lib.hid hX
          have HY := Lib.hid hY
          clear hX hY
          go_wp2_with (first
            | (go_at_call 13; go_must (refine (nt_get id hi0 hi1 _ hBc.note).mono ?_); rintro e w5 ⟨rfl, rfl⟩; rw [← HX.out, ← HY.out])
            | (go_at_call 19; go_must (refine (r11_get id _ hBc.ref hr).mono ?_); rintro e w6 ⟨rfl, hE6⟩; rw [← HX.out, ← HY.out]))
          have hBd := hBc.grow hE6
          obtain ⟨vr, c0', hinr⟩ := hBd.ref.notes
          obtain ⟨ar, cr, rfl, hcr, hcmr, _⟩ := hinr.get
          have hKb : Hid (∀ q ∈ Fn, -9223372036854775808 ≤ q.1 ∧ q.1 ≤ 9223372036854775807) := Lib.hid fun r hr => by have := hBc.good.keys r hr; omega
          have hFl := hBc.good.len
          clear hBc hxc x1
          refine wp_region_tab 22 [(14, fun v x => NotesIn x v Fn), (16, fun v _ => v = .pointer (some ⟨m0 + 2, 0, none⟩)), (19, fun v _ => v = .bool true)] (by kernel_rfl) (by kernel_rfl) (by kernel_rfl) ⟨fun _ _ _ hE h => h.ext hE, stays_eq _, stays_eq _, trivial⟩ ?_
          replace c0' := held c0'
          refine rg_quiet rfl rfl rfl rfl ?_; intro K hK; go_big_quiet_op; go_big_quiet_on
          refine rg_quiet rfl rfl rfl rfl ?_; intro K hK; go_big_quiet_op; go_big_quiet_on
          refine rg_quiet rfl rfl rfl rfl ?_; intro K hK; go_big_quiet_op; go_big_quiet_on
          refine rg_quiet rfl rfl rfl rfl ?_; intro K hK; go_big_quiet_op; go_big_quiet_on
          refine rg_quiet rfl rfl rfl rfl ?_; intro K hK; go_big_quiet_op; go_big_quiet_on
          refine rg_quiet rfl rfl rfl rfl ?_; intro K hK; go_big_quiet_op; go_big_quiet_on
          refine rg_quiet rfl rfl rfl rfl ?_; intro K hK; go_big_quiet_op; go_big_quiet_on
          refine rg_quiet rfl rfl rfl rfl ?_; intro K hK; go_big_quiet_op; go_big_quiet_on
          refine rg_quiet rfl rfl rfl rfl ?_; intro K hK; go_big_quiet_op; go_big_quiet_on
          refine rg_quiet rfl rfl rfl rfl ?_; intro K hK; go_big_quiet_op; go_big_quiet_on
          refine rg_quiet rfl rfl rfl rfl ?_; intro K hK; go_big_quiet_op; go_big_quiet_on
          refine rg_quiet rfl rfl rfl rfl ?_; intro K hK; go_big_quiet_op; go_big_quiet_on
          refine rg_quiet rfl rfl rfl rfl ?_; intro K hK; go_big_quiet_op; go_big_quiet_on
          refine rg_quiet rfl rfl rfl rfl ?_; intro K hK; go_big_quiet_op; go_big_quiet_on
          refine rg_fact [] rfl rfl rfl (by kernel_rfl) (fun y hE hf => ?_) (fun v14 y14 hE14 hG14 h14 => ?_)
          · go_simp
            refine (nt_all y (hBd.note.ext hE) (by omega) hKb.out).mono ?_
            rintro e w' ⟨v', ⟨rfl, hw⟩, hs⟩
            exact ⟨_, rfl, rg_doneR hE hw hs⟩
          obtain ⟨a14, c14, rfl, _⟩ := NotesIn.get h14
          clear hE14 hG14 h14
          simp only [Act.put, List.setIfInBounds_toArray, List.set_cons_zero, List.set_cons_succ]
          refine rg_quiet rfl rfl rfl rfl ?_; intro K hK; go_big_quiet_op; go_big_quiet_on
          refine rg_val [] rfl rfl rfl (by kernel_rfl) (fun y hE hf => ?_) ?_
          · go_simp
            exact rg_done hE (Ext.refl y) rfl
          simp only [Act.put, List.setIfInBounds_toArray, List.set_cons_zero, List.set_cons_succ]
          refine rg_quiet rfl rfl rfl rfl ?_; intro K hK; go_big_quiet_op; go_big_quiet_on
          refine rg_quiet rfl rfl rfl rfl ?_; intro K hK; go_big_quiet_op; go_big_quiet_on
          refine rg_val [14] rfl rfl rfl (by kernel_rfl) (fun y hE hf => ?_) ?_
          · have h14 : NotesIn y _ Fn := (hf 14 (by simp)).2 rfl
            go_simp
            exact (sameN_any _ _ Fn y h14 (hinr.ext hE)).mono fun e w' ⟨he, hw⟩ => ⟨_, he, rg_done hE hw rfl⟩
          simp only [Act.put, List.setIfInBounds_toArray, List.set_cons_zero, List.set_cons_succ]
          refine rg_quiet rfl rfl rfl rfl ?_; intro K hK; go_big_quiet_op; go_big_quiet_on
          refine rg_quiet rfl rfl rfl rfl ?_; intro K hK; go_big_quiet_op; go_big_quiet_on
          refine rel_nil fun w7 hE7 _ => ?_
          have hBe := hBd.grow hE7
          clear c0' hinr hBd
          go_wp2_with fail
          go_roundw
          case rel =>
            exact ⟨k + 1, Fn, by omega, by go_num, hBe⟩
          case measure => simp [intOf]; omega
      · have hex : (5000 < bd.size ∧ decide ((5000 : Int) < (bd.size : Int)) = true) ∨ (decide ((5000 : Int) < (bd.size : Int)) = false ∧ decide ((20 : Int) < (A.length : Int)) = true) ∨ (decide ((5000 : Int) < (bd.size : Int)) = false ∧ decide ((20 : Int) < (A.length : Int)) = false ∧ decide ((20 : Int) < (D.length : Int)) = true) := by
          by_cases q1 : 5000 < bd.size
          · left; exact ⟨q1, by simp; omega⟩
          · right
            by_cases q2 : 20 < A.length
            · left; refine ⟨?_, ?_⟩ <;> simp <;> omega
            · right; refine ⟨?_, ?_, ?_⟩ <;> simp <;> omega
        have hE := hB.ext
        have hEw := (Ext.refl wr).alloc (.cells #[.int .i64 kd, .int .i64 id, .string bd, .slice aa A.length ca, .slice ad D.length cd] 43)
        have hbx := BoxAt.made wr #[.int .i64 kd, .int .i64 id, .string bd, .slice aa A.length ca, .slice ad D.length cd] 43
        have x0 := hbx.cell 0
        have x1 := hbx.cell 1
        have x2 := hbx.cell 2
        have x3 := hbx.cell 3
        have x4 := hbx.cell 4
        simp at x0 x1 x2 x3 x4
        clear hsm
        rcases hex with ⟨_, q1⟩ | ⟨q1, q2⟩ | ⟨q1, q2, q3⟩
        all_goals
          go_wp2_with (go_at_call 14; go_must (refine (awake11_any _).mono ?_); rintro e w6 ⟨rfl, hE6⟩)
          go_ret
          exact ⟨rfl, (hE.trans hEw).trans hE6⟩
    · have hex : (¬ k < n ∧ decide (k < n) = false ∧ decide ((k : Int) < (n : Int)) = false) ∨ (k < n ∧ ¬ k < 60 ∧ decide (k < n) = true ∧ decide ((k : Int) < (n : Int)) = true ∧ decide ((k : Int) < 60) = false) := by
        by_cases h1 : k < n
        · right; refine ⟨h1, by omega, ?_, ?_, ?_⟩ <;> simp <;> omega
        · left; refine ⟨h1, ?_, ?_⟩ <;> simp <;> omega
      have hE := hB.ext
      clear hlt
      rcases hex with ⟨hx1, hx2, hx3⟩ | ⟨hx1, hx2, hx3, hx4, hx5⟩
      all_goals
        go_wp2_with (go_at_call 14; go_must (refine (awake11_any _).mono ?_); rintro e w6 ⟨rfl, hE6⟩)
        go_ret
        exact ⟨rfl, hE.trans hE6⟩
theorem walk_notePlays (v0 : Value) (W : World) (w0 : ∃ l : List OpN, OpsIn W v0 l) :
    Calls Try.prog 4 #[v0] W fun e w' => e = .returned (.bool true) ∧ Ext W w' := by
  obtain ⟨l, hl⟩ := w0
  exact law_notePlays v0 l W hl
end Go.Proofs.Ytmjhdfifbjdgpaa
