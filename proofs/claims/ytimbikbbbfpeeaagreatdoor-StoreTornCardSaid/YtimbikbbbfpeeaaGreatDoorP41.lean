/- Package segment: Scan. (Printed by wip/tools/gss.py.) -/
import Derived.Test.YtimbikbbbfpeeaaGreatDoorP40
import Derived.Test.YtimbikbbbfpeeaaGreatDoorP20
import Derived.Deep.QuietTactic
import Derived.BigQuiet
import Derived.Deep.DeepCutAuto
import Derived.Deep.CutRange
set_option linter.unusedSimpArgs false
set_option linter.unusedVariables false
namespace Go.Proofs.YtimbikbbbfpeeaaGreatDoor
open Go Go.RowKit
attribute [local go_sem] yields yUpon

theorem info_string : (Tryz.prog.info? 9).map (fun i => (i.zero, i.size, i.bytes)) = some (some (.string ⟨#[]⟩), 1, 16) := by kernel_rfl
theorem und_strs : Tryz.prog.underlying 56 = some (.slice 9) := by kernel_rfl
def scells (l : List (List UInt8)) : List Value := l.map fun x => .string (str x)
@[simp] theorem scells_length (l : List (List UInt8)) : (scells l).length = l.length := by simp [scells]
def StrsIn (w : World) (v : Value) (l : List (List UInt8)) : Prop := SliceIn w v l.length (scells l)
/-- What holds of the scan at each round's head; the builder lies in the first new block. -/
structure ScJ (w wr : World) (vb : Value) (l : List UInt8) (at_ : Nat) (bg : Bool) (under : List UInt8) (bodies : List (List UInt8)) (good : Nat) : Prop where
  own : wr.ownsRow w.heap.size 9 1 vb bodies.length (scells bodies)
  ne : vb.ownBlock ≠ some w.heap.size
  bld : Lib.IsBuilder 179 5 w.heap.size w.heap.size (bcells under) wr
  ext : Ext w wr
  atle : at_ ≤ l.length
  und : under.length ≤ at_
  num : bodies.length ≤ at_
  goodle : good ≤ at_
  eq : Hid (scan l 0 = (bodies ++ (resume l at_ bg under good).1, (resume l at_ bg under good).2))
theorem str_self (s : ByteArray) : str s.data.toList = s := by
  apply ByteArray.ext
  simp [str]
theorem four_list {l : List UInt8} (h : l.length = 4) : ∃ a b c d, l = [a, b, c, d] := by
  match l, h with
  | [a, b, c, d], _ => exact ⟨a, b, c, d, rfl⟩
theorem ba_of {s : ByteArray} {l : List UInt8} (h : s.data.toList = l) : s = ⟨l.toArray⟩ := by
  subst h; apply ByteArray.ext; simp
theorem gapOk_false {s : List UInt8} {n : Nat} (h : s.length < n + gap n ∨ ¬ (s.drop n).take (gap n) = zer (gap n)) : gapOk s n = false := by
  unfold gapOk
  rcases h with h | h
  · simp; intro; omega
  · simp [h]
theorem gapOk_true {s : List UInt8} {n : Nat} (h1 : n + gap n ≤ s.length) (h2 : (s.drop n).take (gap n) = zer (gap n)) : gapOk s n = true := by
  simp [gapOk, h1, h2]
theorem okP_cases (s : List UInt8) (b : Bool) (k : Nat) (hkm : k % 128 ≤ 121) :
    (¬ k + 6 ≤ s.length ∧ okP s b k = false) ∨
    (k + 6 ≤ s.length ∧ ¬ 6 + pn s k ≤ 128 - k % 128 ∧ okP s b k = false) ∨
    (k + 6 ≤ s.length ∧ 6 + pn s k ≤ 128 - k % 128 ∧ ¬ k + 6 + pn s k ≤ s.length ∧ okP s b k = false) ∨
    (k + 6 + pn s k ≤ s.length ∧ 6 + pn s k ≤ 128 - k % 128 ∧ pk s k = 0 ∧ okP s b k = false) ∨
    (k + 6 + pn s k ≤ s.length ∧ 6 + pn s k ≤ 128 - k % 128 ∧ 5 ≤ pk s k ∧ okP s b k = false) ∨
    (k + 6 + pn s k ≤ s.length ∧ 6 + pn s k ≤ 128 - k % 128 ∧ 1 ≤ pk s k ∧ pk s k ≤ 4 ∧ b = !(pk s k == 3 || pk s k == 4) ∧ okP s b k = false) ∨
    (k + 6 + pn s k ≤ s.length ∧ 6 + pn s k ≤ 128 - k % 128 ∧ (pk s k = 2 ∨ pk s k = 3) ∧ b = (pk s k == 3 || pk s k == 4) ∧ 6 + pn s k ≠ 128 - k % 128 ∧ okP s b k = false) ∨
    (k + 6 + pn s k ≤ s.length ∧ 6 + pn s k ≤ 128 - k % 128 ∧ pk s k = 4 ∧ b = true ∧ pn s k = 0 ∧ okP s b k = false) ∨
    (k + 6 + pn s k ≤ s.length ∧ 6 + pn s k ≤ 128 - k % 128 ∧ ((pk s k = 1 ∧ b = false) ∨ (pk s k = 2 ∧ b = false ∧ 6 + pn s k = 128 - k % 128) ∨ (pk s k = 3 ∧ b = true ∧ 6 + pn s k = 128 - k % 128) ∨ (pk s k = 4 ∧ b = true ∧ pn s k ≠ 0)) ∧ okP s b k = sumB s k) := by
  by_cases h1 : k + 6 ≤ s.length
  · by_cases h2 : 6 + pn s k ≤ 128 - k % 128
    · by_cases h3 : k + 6 + pn s k ≤ s.length
      · by_cases h4 : pk s k = 0
        · exact .inr (.inr (.inr (.inl ⟨h3, h2, h4, by simp [okP, h4]⟩)))
        · by_cases h5 : 5 ≤ pk s k
          · exact .inr (.inr (.inr (.inr (.inl ⟨h3, h2, h5, by simp only [okP]; rw [show decide (pk s k ≤ 4) = false by simp; omega]; simp⟩))))
          · have hk : pk s k = 1 ∨ pk s k = 2 ∨ pk s k = 3 ∨ pk s k = 4 := by omega
            rcases hk with hk | hk | hk | hk <;> cases b
            · by_cases hz : True
              · exact .inr (.inr (.inr (.inr (.inr (.inr (.inr (.inr ⟨h3, h2, .inl ⟨hk, rfl⟩, by simp [okP, h1, h2, h3, hk]⟩)))))))
              · exact absurd trivial hz
            · exact .inr (.inr (.inr (.inr (.inr (.inl ⟨h3, h2, by omega, by omega, by rw [hk]; rfl, by simp [okP, hk]⟩)))))
            · by_cases h7 : 6 + pn s k = 128 - k % 128
              · exact .inr (.inr (.inr (.inr (.inr (.inr (.inr (.inr ⟨h3, h2, .inr (.inl ⟨hk, rfl, h7⟩), by
                  have : pn s k ≠ 0 := by omega
                  simp only [okP, hk, h7]; simp [h1, h3, ← h7, this]⟩)))))))
              · exact .inr (.inr (.inr (.inr (.inr (.inr (.inl ⟨h3, h2, .inl hk, by rw [hk]; rfl, h7, by simp [okP, hk, h7]⟩))))))
            · exact .inr (.inr (.inr (.inr (.inr (.inl ⟨h3, h2, by omega, by omega, by rw [hk]; rfl, by simp [okP, hk]⟩)))))
            · exact .inr (.inr (.inr (.inr (.inr (.inl ⟨h3, h2, by omega, by omega, by rw [hk]; rfl, by simp [okP, hk]⟩)))))
            · by_cases h7 : 6 + pn s k = 128 - k % 128
              · exact .inr (.inr (.inr (.inr (.inr (.inr (.inr (.inr ⟨h3, h2, .inr (.inr (.inl ⟨hk, rfl, h7⟩)), by
                  have : pn s k ≠ 0 := by omega
                  simp only [okP, hk, h7]; simp [h1, h3, ← h7, this]⟩)))))))
              · exact .inr (.inr (.inr (.inr (.inr (.inr (.inl ⟨h3, h2, .inr hk, by rw [hk]; rfl, h7, by simp [okP, hk, h7]⟩))))))
            · exact .inr (.inr (.inr (.inr (.inr (.inl ⟨h3, h2, by omega, by omega, by rw [hk]; rfl, by simp [okP, hk]⟩)))))
            · by_cases h0 : pn s k = 0
              · exact .inr (.inr (.inr (.inr (.inr (.inr (.inr (.inl ⟨h3, h2, hk, rfl, h0, by simp [okP, hk, h0]⟩)))))))
              · exact .inr (.inr (.inr (.inr (.inr (.inr (.inr (.inr ⟨h3, h2, .inr (.inr (.inr ⟨hk, rfl, h0⟩)), by simp [okP, h1, h2, h3, hk, h0]⟩)))))))
      · exact .inr (.inr (.inl ⟨h1, h2, h3, by simp [okP, h3]⟩))
    · exact .inr (.inl ⟨h1, h2, by simp [okP, h2]⟩)
  · exact .inl ⟨h1, by simp [okP, h1]⟩

set_option maxRecDepth 100000 in
set_option maxHeartbeats 40000000 in
theorem scan_some_any (l : List UInt8) (hl : l.length ≤ 4294967296) (hne : 0 < l.length) (b0 o0 c : Nat) (hc : l.length ≤ c) (hcm : c ≤ 9223372036854775807) (w : World) (hin : BytesIn w (.slice (some ⟨b0, o0, none⟩) l.length c) l) :
    Calls Tryz.prog 66 #[.slice (some ⟨b0, o0, none⟩) l.length c] w fun e w' => ∃ v', (e = .returned (.tuple #[v', .int .i64 ((scan l 0).2 : Int)]) ∧ Ext w w') ∧ StrsIn w' v' (scan l 0).1 := by
  have hcell : ∀ j u, (bcells l)[j]? = some u → w.cell? ⟨b0, o0 + j, none⟩ = some u := by
    obtain ⟨a', c', e, _, _, _, h⟩ := hin
    cases e
    intro j u hj
    obtain ⟨b, o, e, h⟩ := h j u hj
    cases e
    exact h
  have HC := Lib.hid hcell
  have HI := Lib.hid hin
  clear hcell hin
  go_enter Tryz.func66, Tryz.ntmps66
  have hb0 := BoxAt.made w #[.pointer none, .slice none 0 0] 179
  have hbld : Lib.IsBuilder 179 5 w.heap.size w.heap.size (bcells []) (w.alloc (.cells #[.pointer none, .slice none 0 0] 179)) :=
    .inl ⟨Nat.le_refl _, .slice none 0 0, hb0, World.ownsRow_nil _ _ _ _, nofun⟩
  go_wp2
  go_step3
  go_wp2
  go_step3
  go_wp2
  go_loopw [2, 3, 5, 6] (fun vb g bg i wr => ∃ (at_ : Nat) (b : Bool) (under : List UInt8) (bodies : List (List UInt8)) (good : Nat), i = .int .i64 at_ ∧ bg = .bool b ∧ g = .int .i64 good ∧ ScJ w wr vb l at_ b under bodies good) (fun _ _ _ i _ => l.length - (intOf i).toNat)
  case atStart => exact ⟨0, false, [], [], 0, rfl, rfl, rfl, World.ownsRow_nil _ _ _ _, nofun, hbld, (Ext.refl w).alloc _, Nat.zero_le _, Nat.zero_le _, Nat.zero_le _, Nat.zero_le _, Lib.hid (by rw [resume_new]; simp)⟩
  case round =>
    obtain ⟨at_, b, under, bodies, good, rfl, rfl, rfl, hJ⟩ := hrel
    obtain ⟨own, ne, bld, ext, atle, und, num, goodle, eq⟩ := hJ
    have hgl : gap at_ = 0 ∧ 6 < 128 - at_ % 128 ∨ gap at_ = 128 - at_ % 128 ∧ 128 - at_ % 128 ≤ 6 := by unfold gap; split <;> omega
    by_cases hg : gapOk l at_ = true
    · have hgk := hg
      simp only [gapOk, Bool.and_eq_true, decide_eq_true_eq, beq_iff_eq] at hgk
      obtain ⟨hk1, hk2⟩ := hgk
      obtain ⟨K, hK⟩ : ∃ K, K = at_ + gap at_ := ⟨_, rfl⟩
      have hkm : K % 128 ≤ 121 := by have := room_left at_; have := room_pos at_; omega
      have HCS := Lib.hid (okP_cases l b K hkm)
      have hKl : K ≤ l.length := by omega
      have HK := Lib.hid hK
      have HK2 := Lib.hid hk2
      clear hk2
      have t3 : (at_ : Int) ≤ 4294967296 := by omega
      go_upto_if 17 with (go_at_call 104; go_must (refine (left_any _ (by omega) _).mono ?_); rintro e w1 ⟨rfl, rfl⟩)
      go_cut [6] from 14 to 155 (fun i wc => i = .int .i64 K ∧ Ext wr wc)
      case first =>
        rcases hgl with ⟨g1, g2⟩ | ⟨g1, g2⟩
        · have hKa : K = at_ := by omega
          clear hK HK HK2 hk1
          subst hKa
          have t1 : ¬ 128 - (K : Int) % 128 ≤ 6 := by omega
          go_wp2
          go_meet
          case rel => exact ⟨rfl, Ext.refl wr⟩
        · have t1 : 128 - (at_ : Int) % 128 ≤ 6 := by omega
          have t2 : ¬ (l.length : Int) < (K : Int) := by omega
          have hKr : (at_ : Int) + (128 - (at_ : Int) % 128) = (K : Int) := by omega
          have hin := HI.out.ext ext
          have HZ : Hid (zer (gap at_) = List.replicate (K - at_) 0) := Lib.hid (by unfold zer; congr 1; omega)
          have HD : Hid (K - at_ = gap at_) := Lib.hid (by omega)
          clear g1 g2 hK
          go_wp2_with (first
            | ((guard_target =~ wpList _ _ _ (Oper.mk (some 30) _ _ _ _ _ :: _) _ _); go_must (refine wpList_sub (by rfl) (.tmp 25) (.tmp 26) (.tmp 29) rfl (l := l) (lo := at_) (hi := K) rfl rfl rfl hin (by omega) (by omega) ?_); intro u30' h30)
            | ((guard_target =~ wpList _ _ _ (Oper.mk (some 31) _ _ _ _ _ :: _) _ _); go_must (refine wpList_text (by rfl) (.tmp 30) rfl h30 ?_); intro s31 hs31 hz31)
            | (go_at_call 105; go_must (refine (Tryz.strings_Trim_one s31 0 (by decide) _ (by rw [hz31]; simp; omega)).mono ?_); rintro e wt ⟨rfl, hwt⟩; rw [show Lib.trimB s31.data.toList 0 = [] from (trim_nought _).2 (by rw [hs31.out, HD.out, HK2.out]; simp [zer])]))
          have hEt : Ext wr wt := by
            rcases hwt with rfl | rfl
            · exact Ext.refl _
            · exact (Ext.refl _).drew
          go_meet
          case rel => exact ⟨rfl, hEt⟩
      case rest =>
        obtain ⟨rfl, hEc⟩ := hcut
        replace own := ownsRow_ext own hEc
        replace bld := builder_ext hEc bld
        replace ext := ext.trans hEc
        have hin := HI.out.ext ext
        obtain ⟨kd, hkd⟩ : ∃ kd, kd = pk l K := ⟨_, rfl⟩
        obtain ⟨n, hn⟩ : ∃ n, n = pn l K := ⟨_, rfl⟩
        have kd1 : kd < 256 := by rw [hkd]; exact (l.getD K 0).toNat_lt
        have n1 : n < 256 := by rw [hn]; exact (l.getD (K + 1) 0).toNat_lt
        have hcs := HCS.out
        rw [← hkd, ← hn] at hcs
        have Hkd := Lib.hid hkd
        have Hn := Lib.hid hn
        have hL : at_ ≤ K := by omega
        have hKb : (K : Int) ≤ 4294967296 := by omega
        have HG := Lib.hid hg
        clear hkd hn hg hk1 hK hEc HCS
        have hcells : K + 6 ≤ l.length → wc.cell? ⟨b0, o0 + K, none⟩ = some (.int .u8 (kd : Int)) ∧ wc.cell? ⟨b0, o0 + (K + 1), none⟩ = some (.int .u8 (n : Int)) := by
          intro h6
          have e0 : (bcells l)[K]? = some (.int .u8 (kd : Int)) := by
            rw [Hkd.out]; simp only [bcells, List.getElem?_map, pk, List.getD_eq_getElem?_getD, List.getElem?_eq_getElem (show K < l.length by omega)]; rfl
          have e1 : (bcells l)[K + 1]? = some (.int .u8 (n : Int)) := by
            rw [Hn.out]; simp only [bcells, List.getElem?_map, pn, List.getD_eq_getElem?_getD, List.getElem?_eq_getElem (show K + 1 < l.length by omega)]; rfl
          exact ⟨ext.cell (HC.out _ _ e0), ext.cell (HC.out _ _ e1)⟩
        have hbad : okP l b K = false → Hid (scan l 0 = (bodies, good)) := fun hx => Lib.hid (by rw [eq.out, resume_bad _ _ (by rw [← HK.out]; exact hx)]; simp)
        have Hcells := Lib.hid hcells
        have Hbad := Lib.hid hbad
        clear hcells hbad
        rcases hcs with ⟨c1, cF⟩ | ⟨c1, c2, cF⟩ | ⟨c1, c2, c3, cF⟩ | ⟨c3, c2, c4, cF⟩ | ⟨c3, c2, c5, cF⟩ | ⟨c3, c2, c4, c5, c6, cF⟩ | ⟨c3, c2, ck, c6, c7, cF⟩ | ⟨c3, c2, ck, c6, c7, cF⟩ | ⟨c3, c2, cK, cF⟩
        · -- c1
          have hfin := Hbad.out cF
          have t0 : (l.length : Int) < (K : Int) + 6 := by omega
          clear c1 cF Hbad Hcells hKl
          go_wp2
          try rw [Exit.noGoto_ret]
          go_ret2
          exact ⟨u2, ⟨by rw [hfin.out]; rfl, ext⟩, by rw [hfin.out]; exact SliceIn.of_owns (own)⟩
        · -- c2
          have hfin := Hbad.out cF
          have t2 : 128 - (K : Int) % 128 < 6 + (n : Int) := by omega
          obtain ⟨x0, x1⟩ := Hcells.out (by omega)
          have t0 : ¬ (l.length : Int) < (K : Int) + 6 := by omega
          have kd2 : (kd : Int) < 256 := by omega
          have n2 : (n : Int) < 256 := by omega
          clear Hcells hKl
          clear c1 c2 cF Hbad
          go_wp2
          go_quiet (fail)
          go_wp2_with ((go_at_call 104; go_must (refine (left_any _ (by omega) _).mono ?_); rintro e w1 ⟨rfl, rfl⟩))
          try rw [Exit.noGoto_ret]
          go_ret2
          exact ⟨u2, ⟨by rw [hfin.out]; rfl, ext.drewN _⟩, by rw [hfin.out]; exact SliceIn.of_owns (ownsRow_ext own ((Ext.refl _).drewN _))⟩
        · -- c3
          have hfin := Hbad.out cF
          have t2 : ¬ 128 - (K : Int) % 128 < 6 + (n : Int) := by omega
          have t4 : (l.length : Int) < (K : Int) + 6 + (n : Int) := by omega
          obtain ⟨x0, x1⟩ := Hcells.out (by omega)
          have t0 : ¬ (l.length : Int) < (K : Int) + 6 := by omega
          have kd2 : (kd : Int) < 256 := by omega
          have n2 : (n : Int) < 256 := by omega
          clear Hcells hKl
          clear c1 c2 c3 cF Hbad
          go_wp2
          go_quiet (fail)
          go_wp2_with ((go_at_call 104; go_must (refine (left_any _ (by omega) _).mono ?_); rintro e w1 ⟨rfl, rfl⟩))
          try rw [Exit.noGoto_ret]
          go_ret2
          exact ⟨u2, ⟨by rw [hfin.out]; rfl, ext.drewN _⟩, by rw [hfin.out]; exact SliceIn.of_owns (ownsRow_ext own ((Ext.refl _).drewN _))⟩
        · -- c4
          have hfin := Hbad.out cF
          have t5 : (kd : Int) < 1 := by omega
          have t2 : ¬ 128 - (K : Int) % 128 < 6 + (n : Int) := by omega
          have t4 : ¬ (l.length : Int) < (K : Int) + 6 + (n : Int) := by omega
          obtain ⟨x0, x1⟩ := Hcells.out (by omega)
          have t0 : ¬ (l.length : Int) < (K : Int) + 6 := by omega
          have kd2 : (kd : Int) < 256 := by omega
          have n2 : (n : Int) < 256 := by omega
          clear Hcells hKl
          clear c2 c3 c4 cF Hbad
          go_wp2
          go_quiet (fail)
          go_wp2_with ((go_at_call 104; go_must (refine (left_any _ (by omega) _).mono ?_); rintro e w1 ⟨rfl, rfl⟩))
          try rw [Exit.noGoto_ret]
          go_ret2
          exact ⟨u2, ⟨by rw [hfin.out]; rfl, ext.drewN _⟩, by rw [hfin.out]; exact SliceIn.of_owns (ownsRow_ext own ((Ext.refl _).drewN _))⟩
        · -- c5
          have hfin := Hbad.out cF
          have t5 : ¬ (kd : Int) < 1 := by omega
          have t6 : 4 < (kd : Int) := by omega
          have t2 : ¬ 128 - (K : Int) % 128 < 6 + (n : Int) := by omega
          have t4 : ¬ (l.length : Int) < (K : Int) + 6 + (n : Int) := by omega
          obtain ⟨x0, x1⟩ := Hcells.out (by omega)
          have t0 : ¬ (l.length : Int) < (K : Int) + 6 := by omega
          have kd2 : (kd : Int) < 256 := by omega
          have n2 : (n : Int) < 256 := by omega
          clear Hcells hKl
          clear c2 c3 c5 cF Hbad
          go_wp2
          go_quiet (fail)
          go_wp2_with ((go_at_call 104; go_must (refine (left_any _ (by omega) _).mono ?_); rintro e w1 ⟨rfl, rfl⟩))
          try rw [Exit.noGoto_ret]
          go_ret2
          exact ⟨u2, ⟨by rw [hfin.out]; rfl, ext.drewN _⟩, by rw [hfin.out]; exact SliceIn.of_owns (ownsRow_ext own ((Ext.refl _).drewN _))⟩
        · -- None
          have hk4 : kd = 1 ∨ kd = 2 ∨ kd = 3 ∨ kd = 4 := by omega
          rcases hk4 with ck | ck | ck | ck
          · -- c6k1
            have hb : b = true := by rw [c6, ck]; rfl
            subst hb
            have hfin := Hbad.out cF
            have t2 : ¬ 128 - (K : Int) % 128 < 6 + (n : Int) := by omega
            have t4 : ¬ (l.length : Int) < (K : Int) + 6 + (n : Int) := by omega
            have t5 : ¬ (kd : Int) < 1 := by omega
            have t6 : ¬ 4 < (kd : Int) := by omega
            have e2 : ((kd : Int) == 2) = false := by simp; omega
            have e3 : ((kd : Int) == 3) = false := by simp; omega
            have e4 : ((kd : Int) == 4) = false := by simp; omega
            have e1 : ((kd : Int) != 1) = false := by simp; omega
            obtain ⟨x0, x1⟩ := Hcells.out (by omega)
            have t0 : ¬ (l.length : Int) < (K : Int) + 6 := by omega
            have kd2 : (kd : Int) < 256 := by omega
            have n2 : (n : Int) < 256 := by omega
            clear Hcells hKl
            clear c2 c3 ck c4 c5 c6 cF Hbad
            go_wp2
            go_quiet (fail)
            go_wp2_with ((go_at_call 104; go_must (refine (left_any _ (by omega) _).mono ?_); rintro e w1 ⟨rfl, rfl⟩))
            try rw [Exit.noGoto_ret]
            go_ret2
            exact ⟨u2, ⟨by rw [hfin.out]; rfl, ext.drewN _⟩, by rw [hfin.out]; exact SliceIn.of_owns (ownsRow_ext own ((Ext.refl _).drewN _))⟩
          · -- c6k2
            have hb : b = true := by rw [c6, ck]; rfl
            subst hb
            have hfin := Hbad.out cF
            have t2 : ¬ 128 - (K : Int) % 128 < 6 + (n : Int) := by omega
            have t4 : ¬ (l.length : Int) < (K : Int) + 6 + (n : Int) := by omega
            have t5 : ¬ (kd : Int) < 1 := by omega
            have t6 : ¬ 4 < (kd : Int) := by omega
            have e2 : ((kd : Int) == 2) = true := by simp; omega
            have e3 : ((kd : Int) == 3) = false := by simp; omega
            have e4 : ((kd : Int) == 4) = false := by simp; omega
            have e1 : ((kd : Int) != 1) = true := by simp; omega
            obtain ⟨x0, x1⟩ := Hcells.out (by omega)
            have t0 : ¬ (l.length : Int) < (K : Int) + 6 := by omega
            have kd2 : (kd : Int) < 256 := by omega
            have n2 : (n : Int) < 256 := by omega
            clear Hcells hKl
            clear c2 c3 ck c4 c5 c6 cF Hbad
            go_wp2
            go_quiet (fail)
            go_wp2_with ((go_at_call 104; go_must (refine (left_any _ (by omega) _).mono ?_); rintro e w1 ⟨rfl, rfl⟩))
            try rw [Exit.noGoto_ret]
            go_ret2
            exact ⟨u2, ⟨by rw [hfin.out]; rfl, ext.drewN _⟩, by rw [hfin.out]; exact SliceIn.of_owns (ownsRow_ext own ((Ext.refl _).drewN _))⟩
          · -- c6k3
            have hb : b = false := by rw [c6, ck]; rfl
            subst hb
            have hfin := Hbad.out cF
            have t2 : ¬ 128 - (K : Int) % 128 < 6 + (n : Int) := by omega
            have t4 : ¬ (l.length : Int) < (K : Int) + 6 + (n : Int) := by omega
            have t5 : ¬ (kd : Int) < 1 := by omega
            have t6 : ¬ 4 < (kd : Int) := by omega
            have e2 : ((kd : Int) == 2) = false := by simp; omega
            have e3 : ((kd : Int) == 3) = true := by simp; omega
            have e4 : ((kd : Int) == 4) = false := by simp; omega
            have e1 : ((kd : Int) != 1) = true := by simp; omega
            obtain ⟨x0, x1⟩ := Hcells.out (by omega)
            have t0 : ¬ (l.length : Int) < (K : Int) + 6 := by omega
            have kd2 : (kd : Int) < 256 := by omega
            have n2 : (n : Int) < 256 := by omega
            clear Hcells hKl
            clear c2 c3 ck c4 c5 c6 cF Hbad
            go_wp2
            go_quiet (fail)
            go_wp2_with ((go_at_call 104; go_must (refine (left_any _ (by omega) _).mono ?_); rintro e w1 ⟨rfl, rfl⟩))
            try rw [Exit.noGoto_ret]
            go_ret2
            exact ⟨u2, ⟨by rw [hfin.out]; rfl, ext.drewN _⟩, by rw [hfin.out]; exact SliceIn.of_owns (ownsRow_ext own ((Ext.refl _).drewN _))⟩
          · -- c6k4
            have hb : b = false := by rw [c6, ck]; rfl
            subst hb
            have hfin := Hbad.out cF
            have t2 : ¬ 128 - (K : Int) % 128 < 6 + (n : Int) := by omega
            have t4 : ¬ (l.length : Int) < (K : Int) + 6 + (n : Int) := by omega
            have t5 : ¬ (kd : Int) < 1 := by omega
            have t6 : ¬ 4 < (kd : Int) := by omega
            have e2 : ((kd : Int) == 2) = false := by simp; omega
            have e3 : ((kd : Int) == 3) = false := by simp; omega
            have e4 : ((kd : Int) == 4) = true := by simp; omega
            have e1 : ((kd : Int) != 1) = true := by simp; omega
            obtain ⟨x0, x1⟩ := Hcells.out (by omega)
            have t0 : ¬ (l.length : Int) < (K : Int) + 6 := by omega
            have kd2 : (kd : Int) < 256 := by omega
            have n2 : (n : Int) < 256 := by omega
            clear Hcells hKl
            clear c2 c3 ck c4 c5 c6 cF Hbad
            go_wp2
            go_quiet (fail)
            go_wp2_with ((go_at_call 104; go_must (refine (left_any _ (by omega) _).mono ?_); rintro e w1 ⟨rfl, rfl⟩))
            try rw [Exit.noGoto_ret]
            go_ret2
            exact ⟨u2, ⟨by rw [hfin.out]; rfl, ext.drewN _⟩, by rw [hfin.out]; exact SliceIn.of_owns (ownsRow_ext own ((Ext.refl _).drewN _))⟩
        · -- None
          rcases ck with ck | ck
          · -- c7k2
            have hb : b = false := by rw [c6, ck]; rfl
            subst hb
            have hfin := Hbad.out cF
            have t7 : (6 + (n : Int) != 128 - (K : Int) % 128) = true := by simp; omega
            have t2 : ¬ 128 - (K : Int) % 128 < 6 + (n : Int) := by omega
            have t4 : ¬ (l.length : Int) < (K : Int) + 6 + (n : Int) := by omega
            have t5 : ¬ (kd : Int) < 1 := by omega
            have t6 : ¬ 4 < (kd : Int) := by omega
            have e2 : ((kd : Int) == 2) = true := by simp; omega
            have e3 : ((kd : Int) == 3) = false := by simp; omega
            have e4 : ((kd : Int) == 4) = false := by simp; omega
            have e1 : ((kd : Int) != 1) = true := by simp; omega
            obtain ⟨x0, x1⟩ := Hcells.out (by omega)
            have t0 : ¬ (l.length : Int) < (K : Int) + 6 := by omega
            have kd2 : (kd : Int) < 256 := by omega
            have n2 : (n : Int) < 256 := by omega
            clear Hcells hKl
            clear c2 c3 ck c6 c7 cF Hbad
            go_wp2
            go_quiet (fail)
            go_wp2_with ((go_at_call 104; go_must (refine (left_any _ (by omega) _).mono ?_); rintro e w1 ⟨rfl, rfl⟩))
            try rw [Exit.noGoto_ret]
            go_ret2
            exact ⟨u2, ⟨by rw [hfin.out]; rfl, ext.drewN _⟩, by rw [hfin.out]; exact SliceIn.of_owns (ownsRow_ext own ((Ext.refl _).drewN _))⟩
          · -- c7k3
            have hb : b = true := by rw [c6, ck]; rfl
            subst hb
            have hfin := Hbad.out cF
            have t7 : (6 + (n : Int) != 128 - (K : Int) % 128) = true := by simp; omega
            have t2 : ¬ 128 - (K : Int) % 128 < 6 + (n : Int) := by omega
            have t4 : ¬ (l.length : Int) < (K : Int) + 6 + (n : Int) := by omega
            have t5 : ¬ (kd : Int) < 1 := by omega
            have t6 : ¬ 4 < (kd : Int) := by omega
            have e2 : ((kd : Int) == 2) = false := by simp; omega
            have e3 : ((kd : Int) == 3) = true := by simp; omega
            have e4 : ((kd : Int) == 4) = false := by simp; omega
            have e1 : ((kd : Int) != 1) = true := by simp; omega
            obtain ⟨x0, x1⟩ := Hcells.out (by omega)
            have t0 : ¬ (l.length : Int) < (K : Int) + 6 := by omega
            have kd2 : (kd : Int) < 256 := by omega
            have n2 : (n : Int) < 256 := by omega
            clear Hcells hKl
            clear c2 c3 ck c6 c7 cF Hbad
            go_wp2
            go_quiet (fail)
            go_wp2_with ((go_at_call 104; go_must (refine (left_any _ (by omega) _).mono ?_); rintro e w1 ⟨rfl, rfl⟩))
            try rw [Exit.noGoto_ret]
            go_ret2
            exact ⟨u2, ⟨by rw [hfin.out]; rfl, ext.drewN _⟩, by rw [hfin.out]; exact SliceIn.of_owns (ownsRow_ext own ((Ext.refl _).drewN _))⟩
        · -- c8
          subst c6
          have hfin := Hbad.out cF
          have t9 : ((n : Int) == 0) = true := by simp; omega
          have t2 : ¬ 128 - (K : Int) % 128 < 6 + (n : Int) := by omega
          have t4 : ¬ (l.length : Int) < (K : Int) + 6 + (n : Int) := by omega
          have t5 : ¬ (kd : Int) < 1 := by omega
          have t6 : ¬ 4 < (kd : Int) := by omega
          have e2 : ((kd : Int) == 2) = false := by simp; omega
          have e3 : ((kd : Int) == 3) = false := by simp; omega
          have e4 : ((kd : Int) == 4) = true := by simp; omega
          have e1 : ((kd : Int) != 1) = true := by simp; omega
          obtain ⟨x0, x1⟩ := Hcells.out (by omega)
          have t0 : ¬ (l.length : Int) < (K : Int) + 6 := by omega
          have kd2 : (kd : Int) < 256 := by omega
          have n2 : (n : Int) < 256 := by omega
          clear Hcells hKl
          clear c2 c3 ck c7 cF Hbad
          go_wp2
          go_quiet (fail)
          go_wp2_with ((go_at_call 104; go_must (refine (left_any _ (by omega) _).mono ?_); rintro e w1 ⟨rfl, rfl⟩))
          try rw [Exit.noGoto_ret]
          go_ret2
          exact ⟨u2, ⟨by rw [hfin.out]; rfl, ext.drewN _⟩, by rw [hfin.out]; exact SliceIn.of_owns (ownsRow_ext own ((Ext.refl _).drewN _))⟩
        · -- None
          rcases cK with ⟨ck, c6⟩ | ⟨ck, c6, c7⟩ | ⟨ck, c6, c7⟩ | ⟨ck, c6, c7⟩
          · -- kind 1
            subst c6
            have HF0 : ((l.drop (K + 2)).take (K + 6 - (K + 2))).length = 4 := by simp; omega
            obtain ⟨xa, xb, xc, xd, hF⟩ := four_list HF0
            have HF := Lib.hid hF
            have hF4 : (l.drop (K + 2)).take 4 = [xa, xb, xc, xd] := by rw [← hF]; congr 1; omega
            obtain ⟨T, hT⟩ : ∃ T, T = tok 1 ((l.drop K).take 2 ++ pb l K) := ⟨_, rfl⟩
            have hTl : T < 2147483647 := by rw [hT]; exact tok_lt _ _ (by decide)
            have hsum : sumB l K = true ↔ num4 xa xb xc xd = T := by
              unfold sumB
              rw [beq_iff_eq, hF4, ← hT]
              exact tok4_iff xa xb xc xd T (by omega)
            have HT := Lib.hid hT
            have HP : Hid (pb l K = (l.drop (K + 6)).take n) := Lib.hid (by unfold pb; rw [← Hn.out])
            obtain ⟨V, hV⟩ : ∃ V, V = num4 xa xb xc xd := ⟨_, rfl⟩
            rw [← hV] at hsum
            have HV := Lib.hid hV
            clear HF0 hF hF4 hT hV
            have t2 : ¬ 128 - (K : Int) % 128 < 6 + (n : Int) := by omega
            have t4 : ¬ (l.length : Int) < (K : Int) + 6 + (n : Int) := by omega
            have t5 : ¬ (kd : Int) < 1 := by omega
            have t6 : ¬ 4 < (kd : Int) := by omega
            have e2 : ((kd : Int) == 2) = false := by simp; omega
            have e3 : ((kd : Int) == 3) = false := by simp; omega
            have e4 : ((kd : Int) == 4) = false := by simp; omega
            have e1 : ((kd : Int) != 1) = false := by simp; omega
            obtain ⟨x0, x1⟩ := Hcells.out (by omega)
            have t0 : ¬ (l.length : Int) < (K : Int) + 6 := by omega
            have kd2 : (kd : Int) < 256 := by omega
            have n2 : (n : Int) < 256 := by omega
            clear Hcells hKl
            by_cases hcmp : V < 2147483647
            · by_cases hVT : V = T
              · -- OK1
                have hok := cF.trans (hsum.2 hVT)
                have IFX : Hid ((if num4 xa xb xc xd < 2147483647 then (.tuple #[.int .i64 (num4 xa xb xc xd : Int), .bool true] : Value) else .tuple #[.int .i64 0, .bool false]) = .tuple #[.int .i64 (T : Int), .bool true]) := Lib.hid (by rw [if_pos (by rw [← HV.out]; exact hcmp), ← HV.out, hVT])
                have hm : midB l K = false := by simp [midB, ← Hkd.out, ck]
                rw [HK.out] at hok hm
                have hund : (under ++ pb l K).length ≤ K + 6 + n := by rw [HP.out]; simp; omega
                have HEQ : Hid (scan l 0 = ((bodies ++ [under ++ pb l K]) ++ (resume l (K + 6 + n) false [] (K + 6 + n)).1, (resume l (K + 6 + n) false [] (K + 6 + n)).2)) := Lib.hid (by rw [eq.out, resume_end _ _ HG.out hok hm, ← HK.out, ← Hn.out, resume_new]; simp)
                clear c2 c3 ck Hbad
                clear cF hsum hcmp hVT hok hm
                go_wp2
                go_quiet (fail)
                go_wp2_with (first
                  | (go_at_call 104; go_must (refine (left_any _ (by omega) _).mono ?_); rintro e w1 ⟨rfl, rfl⟩)
                  | ((guard_target =~ wpList _ _ _ (Oper.mk (some 112) _ _ _ _ _ :: _) _ _); go_must (refine wpList_sub (by rfl) (.tmp 108) (.tmp 110) (.tmp 111) rfl (l := l) (lo := K + 6) (hi := K + 6 + n) rfl rfl rfl (hin.ext ((Ext.refl _).drewN _)) (by omega) (by omega) ?_); intro u112' h112)
                  | ((guard_target =~ wpList _ _ _ (Oper.mk (some 113) _ _ _ _ _ :: _) _ _); go_must (refine wpList_text (by rfl) (.tmp 112) rfl h112 ?_); intro s113 hs113 hz113)
                  | ((guard_target =~ wpList _ _ _ (Oper.mk (some 120) _ _ _ _ _ :: _) _ _); go_must (refine wpList_sub (by rfl) (.tmp 115) (.tmp 117) (.tmp 119) rfl (l := l) (lo := K + 2) (hi := K + 6) rfl rfl rfl (hin.ext ((Ext.refl _).drewN _)) (by omega) (by omega) ?_); intro u120' h120)
                  | ((guard_target =~ wpList _ _ _ (Oper.mk (some 121) _ _ _ _ _ :: _) _ _); go_must (refine wpList_text (by rfl) (.tmp 120) rfl h120 ?_); intro s121 hs121 hz121; obtain rfl : s121 = ⟨#[xa, xb, xc, xd]⟩ := ba_of (hs121.out.trans HF.out))
                  | (go_at_call 106; go_must (refine (tnumber_any xa xb xc xd _).mono ?_); rintro e wn ⟨rfl, rfl⟩; rw [IFX.out])
                  | ((guard_target =~ wpList _ _ _ (Oper.mk (some 133) _ _ _ _ _ :: _) _ _); go_must (refine wpList_sub (by rfl) (.tmp 129) (.tmp 130) (.tmp 132) rfl (l := l) (lo := K) (hi := K + 2) rfl rfl rfl (hin.ext ((Ext.refl _).drewN _)) (by omega) (by omega) ?_); intro u133' h133)
                  | ((guard_target =~ wpList _ _ _ (Oper.mk (some 134) _ _ _ _ _ :: _) _ _); go_must (refine wpList_text (by rfl) (.tmp 133) rfl h133 ?_); intro s134 hs134 hz134)
                  | (go_at_call 59; go_must (refine (tof_any (s134 ++ s113) (by rw [ByteArray.size_append, hz134, hz113]; unfold maxLen; simp; omega) _).mono ?_); rintro e wo ⟨rfl, hEo⟩; rw [show tok 1 (s134 ++ s113).data.toList = T from by rw [ByteArray.data_append, Array.toList_append, hs134.out, hs113.out, HT.out, HP.out]; simp])
                  | (go_at_call 107; go_must (refine (writeString_any w.heap.size w.heap.size under s113 wo (builder_ext (((Ext.refl _).drewN _).trans hEo) bld) (by rw [hz113]; simp; omega) (((ext.drewN _).trans hEo).le)).mono ?_); rintro e w5 ⟨rfl, hb5, hB5, hk5⟩))
                have hS : s113.data.toList = pb l K := by rw [hs113.out, HP.out]; congr 1; omega
                rw [hS] at hb5
                have own5 := others_own hk5 (by decide) ne (ownsRow_ext own (((Ext.refl _).drewN _).trans hEo))
                have ext5 : Ext w w5 := Below.trans ((ext.drewN _).trans hEo) hB5
                clear own bld ext hk5 hB5 hEo hin h133 h112 h120
                refine (Tryz.Builder_String_any_k w.heap.size w.heap.size (under ++ pb l K) w5 (Lib.IsBuilderF.of hb5) ext5.le).mono ?_
                rintro e w6 ⟨rfl, hb6, hB6, hk6⟩
                have own6 := others_own hk6 (by decide) ne own5
                have ext6 : Ext w w6 := Below.trans ext5 hB6
                obtain ⟨p6, v6, hx6⟩ := builderF_box hb6
                clear hb5 hb6 hB6 hk6 own5 ext5
                go_wp2_with (at_builtin; go_must (refine appR info_string und_strs rfl (by decide) w6 rfl (.tmp 150) (.tmp 152) rfl w.heap.size ext6.le _ bodies.length (scells bodies) own6 (by rfl) 1 _ (by rfl) (by rfl) (by simp [Value.oneCell']) (by unfold maxLen; omega) (by omega) ?_); intro v7 w7 hown7 hg7)
                have hx7 := (hx6.ext ((Ext.refl _).alloc (.cells #[.string ⟨(under ++ pb l K).toArray⟩] 9))).grown hg7 (fun e => ne e.symm)
                have ext7 := (ext6.alloc (.cells #[.string ⟨(under ++ pb l K).toArray⟩] 9)).grown hg7 (fun k hk => (own6.lt k hk).1)
                have ne7 := own_not_box hown7 hx7 (by decide)
                clear hx6 own6 ext6 hg7
                refine (reset_any w.heap.size w.heap.size (Nat.le_refl _) p6 v6 w7 hx7).mono ?_
                rintro e w8 ⟨rfl, hb8, hB8, hk8⟩
                go_wp2
                go_roundw
                case rel =>
                  refine ⟨K + 6 + n, false, [], bodies ++ [under ++ pb l K], K + 6 + n, rfl, rfl, rfl, ?_⟩
                  refine ⟨?_, ne7, hb8, Below.trans ext7 hB8, by omega, Nat.zero_le _, by simp; omega, Nat.le_refl _, HEQ⟩
                  have h9 := others_own hk8 (by decide) ne7 hown7
                  simpa [scells, str] using h9
                case measure => simp [intOf]; omega
              · -- F2k1
                have hfin := Hbad.out (by rw [cF]; cases hx : sumB l K; rfl; exact absurd (hsum.1 hx) (by omega))
                have IFX : Hid ((if num4 xa xb xc xd < 2147483647 then (.tuple #[.int .i64 (num4 xa xb xc xd : Int), .bool true] : Value) else .tuple #[.int .i64 0, .bool false]) = .tuple #[.int .i64 (V : Int), .bool true]) := Lib.hid (by rw [if_pos (by rw [← HV.out]; exact hcmp), ← HV.out])
                have hne1 : (V == T) = false := by simp; exact hVT
                have hne2 : ((V : Int) == (T : Int)) = false := by simp; omega
                clear c2 c3 ck Hbad
                clear cF hsum hcmp hVT
                go_wp2
                go_quiet (fail)
                go_wp2_with (first
                  | (go_at_call 104; go_must (refine (left_any _ (by omega) _).mono ?_); rintro e w1 ⟨rfl, rfl⟩)
                  | ((guard_target =~ wpList _ _ _ (Oper.mk (some 112) _ _ _ _ _ :: _) _ _); go_must (refine wpList_sub (by rfl) (.tmp 108) (.tmp 110) (.tmp 111) rfl (l := l) (lo := K + 6) (hi := K + 6 + n) rfl rfl rfl (hin.ext ((Ext.refl _).drewN _)) (by omega) (by omega) ?_); intro u112' h112)
                  | ((guard_target =~ wpList _ _ _ (Oper.mk (some 113) _ _ _ _ _ :: _) _ _); go_must (refine wpList_text (by rfl) (.tmp 112) rfl h112 ?_); intro s113 hs113 hz113)
                  | ((guard_target =~ wpList _ _ _ (Oper.mk (some 120) _ _ _ _ _ :: _) _ _); go_must (refine wpList_sub (by rfl) (.tmp 115) (.tmp 117) (.tmp 119) rfl (l := l) (lo := K + 2) (hi := K + 6) rfl rfl rfl (hin.ext ((Ext.refl _).drewN _)) (by omega) (by omega) ?_); intro u120' h120)
                  | ((guard_target =~ wpList _ _ _ (Oper.mk (some 121) _ _ _ _ _ :: _) _ _); go_must (refine wpList_text (by rfl) (.tmp 120) rfl h120 ?_); intro s121 hs121 hz121; obtain rfl : s121 = ⟨#[xa, xb, xc, xd]⟩ := ba_of (hs121.out.trans HF.out))
                  | (go_at_call 106; go_must (refine (tnumber_any xa xb xc xd _).mono ?_); rintro e wn ⟨rfl, rfl⟩; rw [IFX.out])
                  | ((guard_target =~ wpList _ _ _ (Oper.mk (some 133) _ _ _ _ _ :: _) _ _); go_must (refine wpList_sub (by rfl) (.tmp 129) (.tmp 130) (.tmp 132) rfl (l := l) (lo := K) (hi := K + 2) rfl rfl rfl (hin.ext ((Ext.refl _).drewN _)) (by omega) (by omega) ?_); intro u133' h133)
                  | ((guard_target =~ wpList _ _ _ (Oper.mk (some 134) _ _ _ _ _ :: _) _ _); go_must (refine wpList_text (by rfl) (.tmp 133) rfl h133 ?_); intro s134 hs134 hz134)
                  | (go_at_call 59; go_must (refine (tof_any (s134 ++ s113) (by rw [ByteArray.size_append, hz134, hz113]; unfold maxLen; simp; omega) _).mono ?_); rintro e wo ⟨rfl, hEo⟩; rw [show tok 1 (s134 ++ s113).data.toList = T from by rw [ByteArray.data_append, Array.toList_append, hs134.out, hs113.out, HT.out, HP.out]; simp]))
                try rw [Exit.noGoto_ret]
                go_ret2
                exact ⟨u2, ⟨by rw [hfin.out]; rfl, (ext.drewN _).trans hEo⟩, by rw [hfin.out]; exact SliceIn.of_owns (ownsRow_ext own (((Ext.refl _).drewN _).trans hEo))⟩
            · -- F1k1
              have hfin := Hbad.out (by rw [cF]; cases hx : sumB l K; rfl; exact absurd (hsum.1 hx) (by omega))
              have IFX : Hid ((if num4 xa xb xc xd < 2147483647 then (.tuple #[.int .i64 (num4 xa xb xc xd : Int), .bool true] : Value) else .tuple #[.int .i64 0, .bool false]) = .tuple #[.int .i64 0, .bool false]) := Lib.hid (by rw [if_neg (by rw [← HV.out]; exact hcmp)])
              clear c2 c3 ck Hbad
              clear cF hsum hcmp
              go_wp2
              go_quiet (fail)
              go_wp2_with (first
                | (go_at_call 104; go_must (refine (left_any _ (by omega) _).mono ?_); rintro e w1 ⟨rfl, rfl⟩)
                | ((guard_target =~ wpList _ _ _ (Oper.mk (some 112) _ _ _ _ _ :: _) _ _); go_must (refine wpList_sub (by rfl) (.tmp 108) (.tmp 110) (.tmp 111) rfl (l := l) (lo := K + 6) (hi := K + 6 + n) rfl rfl rfl (hin.ext ((Ext.refl _).drewN _)) (by omega) (by omega) ?_); intro u112' h112)
                | ((guard_target =~ wpList _ _ _ (Oper.mk (some 113) _ _ _ _ _ :: _) _ _); go_must (refine wpList_text (by rfl) (.tmp 112) rfl h112 ?_); intro s113 hs113 hz113)
                | ((guard_target =~ wpList _ _ _ (Oper.mk (some 120) _ _ _ _ _ :: _) _ _); go_must (refine wpList_sub (by rfl) (.tmp 115) (.tmp 117) (.tmp 119) rfl (l := l) (lo := K + 2) (hi := K + 6) rfl rfl rfl (hin.ext ((Ext.refl _).drewN _)) (by omega) (by omega) ?_); intro u120' h120)
                | ((guard_target =~ wpList _ _ _ (Oper.mk (some 121) _ _ _ _ _ :: _) _ _); go_must (refine wpList_text (by rfl) (.tmp 120) rfl h120 ?_); intro s121 hs121 hz121; obtain rfl : s121 = ⟨#[xa, xb, xc, xd]⟩ := ba_of (hs121.out.trans HF.out))
                | (go_at_call 106; go_must (refine (tnumber_any xa xb xc xd _).mono ?_); rintro e wn ⟨rfl, rfl⟩; rw [IFX.out]))
              try rw [Exit.noGoto_ret]
              go_ret2
              exact ⟨u2, ⟨by rw [hfin.out]; rfl, ext.drewN _⟩, by rw [hfin.out]; exact SliceIn.of_owns (ownsRow_ext own ((Ext.refl _).drewN _))⟩
          · -- kind 2
            subst c6
            have HF0 : ((l.drop (K + 2)).take (K + 6 - (K + 2))).length = 4 := by simp; omega
            obtain ⟨xa, xb, xc, xd, hF⟩ := four_list HF0
            have HF := Lib.hid hF
            have hF4 : (l.drop (K + 2)).take 4 = [xa, xb, xc, xd] := by rw [← hF]; congr 1; omega
            obtain ⟨T, hT⟩ : ∃ T, T = tok 1 ((l.drop K).take 2 ++ pb l K) := ⟨_, rfl⟩
            have hTl : T < 2147483647 := by rw [hT]; exact tok_lt _ _ (by decide)
            have hsum : sumB l K = true ↔ num4 xa xb xc xd = T := by
              unfold sumB
              rw [beq_iff_eq, hF4, ← hT]
              exact tok4_iff xa xb xc xd T (by omega)
            have HT := Lib.hid hT
            have HP : Hid (pb l K = (l.drop (K + 6)).take n) := Lib.hid (by unfold pb; rw [← Hn.out])
            obtain ⟨V, hV⟩ : ∃ V, V = num4 xa xb xc xd := ⟨_, rfl⟩
            rw [← hV] at hsum
            have HV := Lib.hid hV
            clear HF0 hF hF4 hT hV
            have t2 : ¬ 128 - (K : Int) % 128 < 6 + (n : Int) := by omega
            have t4 : ¬ (l.length : Int) < (K : Int) + 6 + (n : Int) := by omega
            have t5 : ¬ (kd : Int) < 1 := by omega
            have t6 : ¬ 4 < (kd : Int) := by omega
            have e2 : ((kd : Int) == 2) = true := by simp; omega
            have e3 : ((kd : Int) == 3) = false := by simp; omega
            have e4 : ((kd : Int) == 4) = false := by simp; omega
            have e1 : ((kd : Int) != 1) = true := by simp; omega
            have t7 : (6 + (n : Int) != 128 - (K : Int) % 128) = false := by simp; omega
            have t9 : ((n : Int) == 0) = false := by simp; omega
            obtain ⟨x0, x1⟩ := Hcells.out (by omega)
            have t0 : ¬ (l.length : Int) < (K : Int) + 6 := by omega
            have kd2 : (kd : Int) < 256 := by omega
            have n2 : (n : Int) < 256 := by omega
            clear Hcells hKl
            by_cases hcmp : V < 2147483647
            · by_cases hVT : V = T
              · -- OK2
                have hok := cF.trans (hsum.2 hVT)
                have IFX : Hid ((if num4 xa xb xc xd < 2147483647 then (.tuple #[.int .i64 (num4 xa xb xc xd : Int), .bool true] : Value) else .tuple #[.int .i64 0, .bool false]) = .tuple #[.int .i64 (T : Int), .bool true]) := Lib.hid (by rw [if_pos (by rw [← HV.out]; exact hcmp), ← HV.out, hVT])
                have hm : midB l K = true := by simp [midB, ← Hkd.out, ck]
                rw [HK.out] at hok hm
                have hund : (under ++ pb l K).length ≤ K + 6 + n := by rw [HP.out]; simp; omega
                have HEQ : Hid (scan l 0 = (bodies ++ (resume l (K + 6 + n) true (under ++ pb l K) good).1, (resume l (K + 6 + n) true (under ++ pb l K) good).2)) := Lib.hid (by rw [eq.out, resume_mid _ _ HG.out hok hm, ← HK.out, ← Hn.out])
                clear c2 c3 ck c7 Hbad
                clear cF hsum hcmp hVT hok hm
                go_wp2
                go_quiet (fail)
                go_wp2_with (first
                  | (go_at_call 104; go_must (refine (left_any _ (by omega) _).mono ?_); rintro e w1 ⟨rfl, rfl⟩)
                  | ((guard_target =~ wpList _ _ _ (Oper.mk (some 112) _ _ _ _ _ :: _) _ _); go_must (refine wpList_sub (by rfl) (.tmp 108) (.tmp 110) (.tmp 111) rfl (l := l) (lo := K + 6) (hi := K + 6 + n) rfl rfl rfl (hin.ext ((Ext.refl _).drewN _)) (by omega) (by omega) ?_); intro u112' h112)
                  | ((guard_target =~ wpList _ _ _ (Oper.mk (some 113) _ _ _ _ _ :: _) _ _); go_must (refine wpList_text (by rfl) (.tmp 112) rfl h112 ?_); intro s113 hs113 hz113)
                  | ((guard_target =~ wpList _ _ _ (Oper.mk (some 120) _ _ _ _ _ :: _) _ _); go_must (refine wpList_sub (by rfl) (.tmp 115) (.tmp 117) (.tmp 119) rfl (l := l) (lo := K + 2) (hi := K + 6) rfl rfl rfl (hin.ext ((Ext.refl _).drewN _)) (by omega) (by omega) ?_); intro u120' h120)
                  | ((guard_target =~ wpList _ _ _ (Oper.mk (some 121) _ _ _ _ _ :: _) _ _); go_must (refine wpList_text (by rfl) (.tmp 120) rfl h120 ?_); intro s121 hs121 hz121; obtain rfl : s121 = ⟨#[xa, xb, xc, xd]⟩ := ba_of (hs121.out.trans HF.out))
                  | (go_at_call 106; go_must (refine (tnumber_any xa xb xc xd _).mono ?_); rintro e wn ⟨rfl, rfl⟩; rw [IFX.out])
                  | ((guard_target =~ wpList _ _ _ (Oper.mk (some 133) _ _ _ _ _ :: _) _ _); go_must (refine wpList_sub (by rfl) (.tmp 129) (.tmp 130) (.tmp 132) rfl (l := l) (lo := K) (hi := K + 2) rfl rfl rfl (hin.ext ((Ext.refl _).drewN _)) (by omega) (by omega) ?_); intro u133' h133)
                  | ((guard_target =~ wpList _ _ _ (Oper.mk (some 134) _ _ _ _ _ :: _) _ _); go_must (refine wpList_text (by rfl) (.tmp 133) rfl h133 ?_); intro s134 hs134 hz134)
                  | (go_at_call 59; go_must (refine (tof_any (s134 ++ s113) (by rw [ByteArray.size_append, hz134, hz113]; unfold maxLen; simp; omega) _).mono ?_); rintro e wo ⟨rfl, hEo⟩; rw [show tok 1 (s134 ++ s113).data.toList = T from by rw [ByteArray.data_append, Array.toList_append, hs134.out, hs113.out, HT.out, HP.out]; simp])
                  | (go_at_call 107; go_must (refine (writeString_any w.heap.size w.heap.size under s113 wo (builder_ext (((Ext.refl _).drewN _).trans hEo) bld) (by rw [hz113]; simp; omega) (((ext.drewN _).trans hEo).le)).mono ?_); rintro e w5 ⟨rfl, hb5, hB5, hk5⟩))
                go_roundw
                case rel =>
                  refine ⟨K + 6 + n, true, under ++ pb l K, bodies, good, rfl, rfl, rfl, ?_⟩
                  have hS : s113.data.toList = pb l K := by rw [hs113.out, HP.out]; congr 1; omega
                  rw [hS] at hb5
                  exact ⟨others_own hk5 (by decide) ne (ownsRow_ext own (((Ext.refl _).drewN _).trans hEo)), ne, hb5, Below.trans ((ext.drewN _).trans hEo) hB5, by omega, by omega, by omega, by omega, HEQ⟩
                case measure => simp [intOf]; omega
              · -- F2k2
                have hfin := Hbad.out (by rw [cF]; cases hx : sumB l K; rfl; exact absurd (hsum.1 hx) (by omega))
                have IFX : Hid ((if num4 xa xb xc xd < 2147483647 then (.tuple #[.int .i64 (num4 xa xb xc xd : Int), .bool true] : Value) else .tuple #[.int .i64 0, .bool false]) = .tuple #[.int .i64 (V : Int), .bool true]) := Lib.hid (by rw [if_pos (by rw [← HV.out]; exact hcmp), ← HV.out])
                have hne1 : (V == T) = false := by simp; exact hVT
                have hne2 : ((V : Int) == (T : Int)) = false := by simp; omega
                clear c2 c3 ck c7 Hbad
                clear cF hsum hcmp hVT
                go_wp2
                go_quiet (fail)
                go_wp2_with (first
                  | (go_at_call 104; go_must (refine (left_any _ (by omega) _).mono ?_); rintro e w1 ⟨rfl, rfl⟩)
                  | ((guard_target =~ wpList _ _ _ (Oper.mk (some 112) _ _ _ _ _ :: _) _ _); go_must (refine wpList_sub (by rfl) (.tmp 108) (.tmp 110) (.tmp 111) rfl (l := l) (lo := K + 6) (hi := K + 6 + n) rfl rfl rfl (hin.ext ((Ext.refl _).drewN _)) (by omega) (by omega) ?_); intro u112' h112)
                  | ((guard_target =~ wpList _ _ _ (Oper.mk (some 113) _ _ _ _ _ :: _) _ _); go_must (refine wpList_text (by rfl) (.tmp 112) rfl h112 ?_); intro s113 hs113 hz113)
                  | ((guard_target =~ wpList _ _ _ (Oper.mk (some 120) _ _ _ _ _ :: _) _ _); go_must (refine wpList_sub (by rfl) (.tmp 115) (.tmp 117) (.tmp 119) rfl (l := l) (lo := K + 2) (hi := K + 6) rfl rfl rfl (hin.ext ((Ext.refl _).drewN _)) (by omega) (by omega) ?_); intro u120' h120)
                  | ((guard_target =~ wpList _ _ _ (Oper.mk (some 121) _ _ _ _ _ :: _) _ _); go_must (refine wpList_text (by rfl) (.tmp 120) rfl h120 ?_); intro s121 hs121 hz121; obtain rfl : s121 = ⟨#[xa, xb, xc, xd]⟩ := ba_of (hs121.out.trans HF.out))
                  | (go_at_call 106; go_must (refine (tnumber_any xa xb xc xd _).mono ?_); rintro e wn ⟨rfl, rfl⟩; rw [IFX.out])
                  | ((guard_target =~ wpList _ _ _ (Oper.mk (some 133) _ _ _ _ _ :: _) _ _); go_must (refine wpList_sub (by rfl) (.tmp 129) (.tmp 130) (.tmp 132) rfl (l := l) (lo := K) (hi := K + 2) rfl rfl rfl (hin.ext ((Ext.refl _).drewN _)) (by omega) (by omega) ?_); intro u133' h133)
                  | ((guard_target =~ wpList _ _ _ (Oper.mk (some 134) _ _ _ _ _ :: _) _ _); go_must (refine wpList_text (by rfl) (.tmp 133) rfl h133 ?_); intro s134 hs134 hz134)
                  | (go_at_call 59; go_must (refine (tof_any (s134 ++ s113) (by rw [ByteArray.size_append, hz134, hz113]; unfold maxLen; simp; omega) _).mono ?_); rintro e wo ⟨rfl, hEo⟩; rw [show tok 1 (s134 ++ s113).data.toList = T from by rw [ByteArray.data_append, Array.toList_append, hs134.out, hs113.out, HT.out, HP.out]; simp]))
                try rw [Exit.noGoto_ret]
                go_ret2
                exact ⟨u2, ⟨by rw [hfin.out]; rfl, (ext.drewN _).trans hEo⟩, by rw [hfin.out]; exact SliceIn.of_owns (ownsRow_ext own (((Ext.refl _).drewN _).trans hEo))⟩
            · -- F1k2
              have hfin := Hbad.out (by rw [cF]; cases hx : sumB l K; rfl; exact absurd (hsum.1 hx) (by omega))
              have IFX : Hid ((if num4 xa xb xc xd < 2147483647 then (.tuple #[.int .i64 (num4 xa xb xc xd : Int), .bool true] : Value) else .tuple #[.int .i64 0, .bool false]) = .tuple #[.int .i64 0, .bool false]) := Lib.hid (by rw [if_neg (by rw [← HV.out]; exact hcmp)])
              clear c2 c3 ck c7 Hbad
              clear cF hsum hcmp
              go_wp2
              go_quiet (fail)
              go_wp2_with (first
                | (go_at_call 104; go_must (refine (left_any _ (by omega) _).mono ?_); rintro e w1 ⟨rfl, rfl⟩)
                | ((guard_target =~ wpList _ _ _ (Oper.mk (some 112) _ _ _ _ _ :: _) _ _); go_must (refine wpList_sub (by rfl) (.tmp 108) (.tmp 110) (.tmp 111) rfl (l := l) (lo := K + 6) (hi := K + 6 + n) rfl rfl rfl (hin.ext ((Ext.refl _).drewN _)) (by omega) (by omega) ?_); intro u112' h112)
                | ((guard_target =~ wpList _ _ _ (Oper.mk (some 113) _ _ _ _ _ :: _) _ _); go_must (refine wpList_text (by rfl) (.tmp 112) rfl h112 ?_); intro s113 hs113 hz113)
                | ((guard_target =~ wpList _ _ _ (Oper.mk (some 120) _ _ _ _ _ :: _) _ _); go_must (refine wpList_sub (by rfl) (.tmp 115) (.tmp 117) (.tmp 119) rfl (l := l) (lo := K + 2) (hi := K + 6) rfl rfl rfl (hin.ext ((Ext.refl _).drewN _)) (by omega) (by omega) ?_); intro u120' h120)
                | ((guard_target =~ wpList _ _ _ (Oper.mk (some 121) _ _ _ _ _ :: _) _ _); go_must (refine wpList_text (by rfl) (.tmp 120) rfl h120 ?_); intro s121 hs121 hz121; obtain rfl : s121 = ⟨#[xa, xb, xc, xd]⟩ := ba_of (hs121.out.trans HF.out))
                | (go_at_call 106; go_must (refine (tnumber_any xa xb xc xd _).mono ?_); rintro e wn ⟨rfl, rfl⟩; rw [IFX.out]))
              try rw [Exit.noGoto_ret]
              go_ret2
              exact ⟨u2, ⟨by rw [hfin.out]; rfl, ext.drewN _⟩, by rw [hfin.out]; exact SliceIn.of_owns (ownsRow_ext own ((Ext.refl _).drewN _))⟩
          · -- kind 3
            subst c6
            have HF0 : ((l.drop (K + 2)).take (K + 6 - (K + 2))).length = 4 := by simp; omega
            obtain ⟨xa, xb, xc, xd, hF⟩ := four_list HF0
            have HF := Lib.hid hF
            have hF4 : (l.drop (K + 2)).take 4 = [xa, xb, xc, xd] := by rw [← hF]; congr 1; omega
            obtain ⟨T, hT⟩ : ∃ T, T = tok 1 ((l.drop K).take 2 ++ pb l K) := ⟨_, rfl⟩
            have hTl : T < 2147483647 := by rw [hT]; exact tok_lt _ _ (by decide)
            have hsum : sumB l K = true ↔ num4 xa xb xc xd = T := by
              unfold sumB
              rw [beq_iff_eq, hF4, ← hT]
              exact tok4_iff xa xb xc xd T (by omega)
            have HT := Lib.hid hT
            have HP : Hid (pb l K = (l.drop (K + 6)).take n) := Lib.hid (by unfold pb; rw [← Hn.out])
            obtain ⟨V, hV⟩ : ∃ V, V = num4 xa xb xc xd := ⟨_, rfl⟩
            rw [← hV] at hsum
            have HV := Lib.hid hV
            clear HF0 hF hF4 hT hV
            have t2 : ¬ 128 - (K : Int) % 128 < 6 + (n : Int) := by omega
            have t4 : ¬ (l.length : Int) < (K : Int) + 6 + (n : Int) := by omega
            have t5 : ¬ (kd : Int) < 1 := by omega
            have t6 : ¬ 4 < (kd : Int) := by omega
            have e2 : ((kd : Int) == 2) = false := by simp; omega
            have e3 : ((kd : Int) == 3) = true := by simp; omega
            have e4 : ((kd : Int) == 4) = false := by simp; omega
            have e1 : ((kd : Int) != 1) = true := by simp; omega
            have t7 : (6 + (n : Int) != 128 - (K : Int) % 128) = false := by simp; omega
            have t9 : ((n : Int) == 0) = false := by simp; omega
            obtain ⟨x0, x1⟩ := Hcells.out (by omega)
            have t0 : ¬ (l.length : Int) < (K : Int) + 6 := by omega
            have kd2 : (kd : Int) < 256 := by omega
            have n2 : (n : Int) < 256 := by omega
            clear Hcells hKl
            by_cases hcmp : V < 2147483647
            · by_cases hVT : V = T
              · -- OK3
                have hok := cF.trans (hsum.2 hVT)
                have IFX : Hid ((if num4 xa xb xc xd < 2147483647 then (.tuple #[.int .i64 (num4 xa xb xc xd : Int), .bool true] : Value) else .tuple #[.int .i64 0, .bool false]) = .tuple #[.int .i64 (T : Int), .bool true]) := Lib.hid (by rw [if_pos (by rw [← HV.out]; exact hcmp), ← HV.out, hVT])
                have hm : midB l K = true := by simp [midB, ← Hkd.out, ck]
                rw [HK.out] at hok hm
                have hund : (under ++ pb l K).length ≤ K + 6 + n := by rw [HP.out]; simp; omega
                have HEQ : Hid (scan l 0 = (bodies ++ (resume l (K + 6 + n) true (under ++ pb l K) good).1, (resume l (K + 6 + n) true (under ++ pb l K) good).2)) := Lib.hid (by rw [eq.out, resume_mid _ _ HG.out hok hm, ← HK.out, ← Hn.out])
                clear c2 c3 ck c7 Hbad
                clear cF hsum hcmp hVT hok hm
                go_wp2
                go_quiet (fail)
                go_wp2_with (first
                  | (go_at_call 104; go_must (refine (left_any _ (by omega) _).mono ?_); rintro e w1 ⟨rfl, rfl⟩)
                  | ((guard_target =~ wpList _ _ _ (Oper.mk (some 112) _ _ _ _ _ :: _) _ _); go_must (refine wpList_sub (by rfl) (.tmp 108) (.tmp 110) (.tmp 111) rfl (l := l) (lo := K + 6) (hi := K + 6 + n) rfl rfl rfl (hin.ext ((Ext.refl _).drewN _)) (by omega) (by omega) ?_); intro u112' h112)
                  | ((guard_target =~ wpList _ _ _ (Oper.mk (some 113) _ _ _ _ _ :: _) _ _); go_must (refine wpList_text (by rfl) (.tmp 112) rfl h112 ?_); intro s113 hs113 hz113)
                  | ((guard_target =~ wpList _ _ _ (Oper.mk (some 120) _ _ _ _ _ :: _) _ _); go_must (refine wpList_sub (by rfl) (.tmp 115) (.tmp 117) (.tmp 119) rfl (l := l) (lo := K + 2) (hi := K + 6) rfl rfl rfl (hin.ext ((Ext.refl _).drewN _)) (by omega) (by omega) ?_); intro u120' h120)
                  | ((guard_target =~ wpList _ _ _ (Oper.mk (some 121) _ _ _ _ _ :: _) _ _); go_must (refine wpList_text (by rfl) (.tmp 120) rfl h120 ?_); intro s121 hs121 hz121; obtain rfl : s121 = ⟨#[xa, xb, xc, xd]⟩ := ba_of (hs121.out.trans HF.out))
                  | (go_at_call 106; go_must (refine (tnumber_any xa xb xc xd _).mono ?_); rintro e wn ⟨rfl, rfl⟩; rw [IFX.out])
                  | ((guard_target =~ wpList _ _ _ (Oper.mk (some 133) _ _ _ _ _ :: _) _ _); go_must (refine wpList_sub (by rfl) (.tmp 129) (.tmp 130) (.tmp 132) rfl (l := l) (lo := K) (hi := K + 2) rfl rfl rfl (hin.ext ((Ext.refl _).drewN _)) (by omega) (by omega) ?_); intro u133' h133)
                  | ((guard_target =~ wpList _ _ _ (Oper.mk (some 134) _ _ _ _ _ :: _) _ _); go_must (refine wpList_text (by rfl) (.tmp 133) rfl h133 ?_); intro s134 hs134 hz134)
                  | (go_at_call 59; go_must (refine (tof_any (s134 ++ s113) (by rw [ByteArray.size_append, hz134, hz113]; unfold maxLen; simp; omega) _).mono ?_); rintro e wo ⟨rfl, hEo⟩; rw [show tok 1 (s134 ++ s113).data.toList = T from by rw [ByteArray.data_append, Array.toList_append, hs134.out, hs113.out, HT.out, HP.out]; simp])
                  | (go_at_call 107; go_must (refine (writeString_any w.heap.size w.heap.size under s113 wo (builder_ext (((Ext.refl _).drewN _).trans hEo) bld) (by rw [hz113]; simp; omega) (((ext.drewN _).trans hEo).le)).mono ?_); rintro e w5 ⟨rfl, hb5, hB5, hk5⟩))
                go_roundw
                case rel =>
                  refine ⟨K + 6 + n, true, under ++ pb l K, bodies, good, rfl, rfl, rfl, ?_⟩
                  have hS : s113.data.toList = pb l K := by rw [hs113.out, HP.out]; congr 1; omega
                  rw [hS] at hb5
                  exact ⟨others_own hk5 (by decide) ne (ownsRow_ext own (((Ext.refl _).drewN _).trans hEo)), ne, hb5, Below.trans ((ext.drewN _).trans hEo) hB5, by omega, by omega, by omega, by omega, HEQ⟩
                case measure => simp [intOf]; omega
              · -- F2k3
                have hfin := Hbad.out (by rw [cF]; cases hx : sumB l K; rfl; exact absurd (hsum.1 hx) (by omega))
                have IFX : Hid ((if num4 xa xb xc xd < 2147483647 then (.tuple #[.int .i64 (num4 xa xb xc xd : Int), .bool true] : Value) else .tuple #[.int .i64 0, .bool false]) = .tuple #[.int .i64 (V : Int), .bool true]) := Lib.hid (by rw [if_pos (by rw [← HV.out]; exact hcmp), ← HV.out])
                have hne1 : (V == T) = false := by simp; exact hVT
                have hne2 : ((V : Int) == (T : Int)) = false := by simp; omega
                clear c2 c3 ck c7 Hbad
                clear cF hsum hcmp hVT
                go_wp2
                go_quiet (fail)
                go_wp2_with (first
                  | (go_at_call 104; go_must (refine (left_any _ (by omega) _).mono ?_); rintro e w1 ⟨rfl, rfl⟩)
                  | ((guard_target =~ wpList _ _ _ (Oper.mk (some 112) _ _ _ _ _ :: _) _ _); go_must (refine wpList_sub (by rfl) (.tmp 108) (.tmp 110) (.tmp 111) rfl (l := l) (lo := K + 6) (hi := K + 6 + n) rfl rfl rfl (hin.ext ((Ext.refl _).drewN _)) (by omega) (by omega) ?_); intro u112' h112)
                  | ((guard_target =~ wpList _ _ _ (Oper.mk (some 113) _ _ _ _ _ :: _) _ _); go_must (refine wpList_text (by rfl) (.tmp 112) rfl h112 ?_); intro s113 hs113 hz113)
                  | ((guard_target =~ wpList _ _ _ (Oper.mk (some 120) _ _ _ _ _ :: _) _ _); go_must (refine wpList_sub (by rfl) (.tmp 115) (.tmp 117) (.tmp 119) rfl (l := l) (lo := K + 2) (hi := K + 6) rfl rfl rfl (hin.ext ((Ext.refl _).drewN _)) (by omega) (by omega) ?_); intro u120' h120)
                  | ((guard_target =~ wpList _ _ _ (Oper.mk (some 121) _ _ _ _ _ :: _) _ _); go_must (refine wpList_text (by rfl) (.tmp 120) rfl h120 ?_); intro s121 hs121 hz121; obtain rfl : s121 = ⟨#[xa, xb, xc, xd]⟩ := ba_of (hs121.out.trans HF.out))
                  | (go_at_call 106; go_must (refine (tnumber_any xa xb xc xd _).mono ?_); rintro e wn ⟨rfl, rfl⟩; rw [IFX.out])
                  | ((guard_target =~ wpList _ _ _ (Oper.mk (some 133) _ _ _ _ _ :: _) _ _); go_must (refine wpList_sub (by rfl) (.tmp 129) (.tmp 130) (.tmp 132) rfl (l := l) (lo := K) (hi := K + 2) rfl rfl rfl (hin.ext ((Ext.refl _).drewN _)) (by omega) (by omega) ?_); intro u133' h133)
                  | ((guard_target =~ wpList _ _ _ (Oper.mk (some 134) _ _ _ _ _ :: _) _ _); go_must (refine wpList_text (by rfl) (.tmp 133) rfl h133 ?_); intro s134 hs134 hz134)
                  | (go_at_call 59; go_must (refine (tof_any (s134 ++ s113) (by rw [ByteArray.size_append, hz134, hz113]; unfold maxLen; simp; omega) _).mono ?_); rintro e wo ⟨rfl, hEo⟩; rw [show tok 1 (s134 ++ s113).data.toList = T from by rw [ByteArray.data_append, Array.toList_append, hs134.out, hs113.out, HT.out, HP.out]; simp]))
                try rw [Exit.noGoto_ret]
                go_ret2
                exact ⟨u2, ⟨by rw [hfin.out]; rfl, (ext.drewN _).trans hEo⟩, by rw [hfin.out]; exact SliceIn.of_owns (ownsRow_ext own (((Ext.refl _).drewN _).trans hEo))⟩
            · -- F1k3
              have hfin := Hbad.out (by rw [cF]; cases hx : sumB l K; rfl; exact absurd (hsum.1 hx) (by omega))
              have IFX : Hid ((if num4 xa xb xc xd < 2147483647 then (.tuple #[.int .i64 (num4 xa xb xc xd : Int), .bool true] : Value) else .tuple #[.int .i64 0, .bool false]) = .tuple #[.int .i64 0, .bool false]) := Lib.hid (by rw [if_neg (by rw [← HV.out]; exact hcmp)])
              clear c2 c3 ck c7 Hbad
              clear cF hsum hcmp
              go_wp2
              go_quiet (fail)
              go_wp2_with (first
                | (go_at_call 104; go_must (refine (left_any _ (by omega) _).mono ?_); rintro e w1 ⟨rfl, rfl⟩)
                | ((guard_target =~ wpList _ _ _ (Oper.mk (some 112) _ _ _ _ _ :: _) _ _); go_must (refine wpList_sub (by rfl) (.tmp 108) (.tmp 110) (.tmp 111) rfl (l := l) (lo := K + 6) (hi := K + 6 + n) rfl rfl rfl (hin.ext ((Ext.refl _).drewN _)) (by omega) (by omega) ?_); intro u112' h112)
                | ((guard_target =~ wpList _ _ _ (Oper.mk (some 113) _ _ _ _ _ :: _) _ _); go_must (refine wpList_text (by rfl) (.tmp 112) rfl h112 ?_); intro s113 hs113 hz113)
                | ((guard_target =~ wpList _ _ _ (Oper.mk (some 120) _ _ _ _ _ :: _) _ _); go_must (refine wpList_sub (by rfl) (.tmp 115) (.tmp 117) (.tmp 119) rfl (l := l) (lo := K + 2) (hi := K + 6) rfl rfl rfl (hin.ext ((Ext.refl _).drewN _)) (by omega) (by omega) ?_); intro u120' h120)
                | ((guard_target =~ wpList _ _ _ (Oper.mk (some 121) _ _ _ _ _ :: _) _ _); go_must (refine wpList_text (by rfl) (.tmp 120) rfl h120 ?_); intro s121 hs121 hz121; obtain rfl : s121 = ⟨#[xa, xb, xc, xd]⟩ := ba_of (hs121.out.trans HF.out))
                | (go_at_call 106; go_must (refine (tnumber_any xa xb xc xd _).mono ?_); rintro e wn ⟨rfl, rfl⟩; rw [IFX.out]))
              try rw [Exit.noGoto_ret]
              go_ret2
              exact ⟨u2, ⟨by rw [hfin.out]; rfl, ext.drewN _⟩, by rw [hfin.out]; exact SliceIn.of_owns (ownsRow_ext own ((Ext.refl _).drewN _))⟩
          · -- kind 4
            subst c6
            have HF0 : ((l.drop (K + 2)).take (K + 6 - (K + 2))).length = 4 := by simp; omega
            obtain ⟨xa, xb, xc, xd, hF⟩ := four_list HF0
            have HF := Lib.hid hF
            have hF4 : (l.drop (K + 2)).take 4 = [xa, xb, xc, xd] := by rw [← hF]; congr 1; omega
            obtain ⟨T, hT⟩ : ∃ T, T = tok 1 ((l.drop K).take 2 ++ pb l K) := ⟨_, rfl⟩
            have hTl : T < 2147483647 := by rw [hT]; exact tok_lt _ _ (by decide)
            have hsum : sumB l K = true ↔ num4 xa xb xc xd = T := by
              unfold sumB
              rw [beq_iff_eq, hF4, ← hT]
              exact tok4_iff xa xb xc xd T (by omega)
            have HT := Lib.hid hT
            have HP : Hid (pb l K = (l.drop (K + 6)).take n) := Lib.hid (by unfold pb; rw [← Hn.out])
            obtain ⟨V, hV⟩ : ∃ V, V = num4 xa xb xc xd := ⟨_, rfl⟩
            rw [← hV] at hsum
            have HV := Lib.hid hV
            clear HF0 hF hF4 hT hV
            have t2 : ¬ 128 - (K : Int) % 128 < 6 + (n : Int) := by omega
            have t4 : ¬ (l.length : Int) < (K : Int) + 6 + (n : Int) := by omega
            have t5 : ¬ (kd : Int) < 1 := by omega
            have t6 : ¬ 4 < (kd : Int) := by omega
            have e2 : ((kd : Int) == 2) = false := by simp; omega
            have e3 : ((kd : Int) == 3) = false := by simp; omega
            have e4 : ((kd : Int) == 4) = true := by simp; omega
            have e1 : ((kd : Int) != 1) = true := by simp; omega
            have t9 : ((n : Int) == 0) = false := by simp; omega
            obtain ⟨x0, x1⟩ := Hcells.out (by omega)
            have t0 : ¬ (l.length : Int) < (K : Int) + 6 := by omega
            have kd2 : (kd : Int) < 256 := by omega
            have n2 : (n : Int) < 256 := by omega
            clear Hcells hKl
            by_cases hcmp : V < 2147483647
            · by_cases hVT : V = T
              · -- OK4
                have hok := cF.trans (hsum.2 hVT)
                have IFX : Hid ((if num4 xa xb xc xd < 2147483647 then (.tuple #[.int .i64 (num4 xa xb xc xd : Int), .bool true] : Value) else .tuple #[.int .i64 0, .bool false]) = .tuple #[.int .i64 (T : Int), .bool true]) := Lib.hid (by rw [if_pos (by rw [← HV.out]; exact hcmp), ← HV.out, hVT])
                have hm : midB l K = false := by simp [midB, ← Hkd.out, ck]
                rw [HK.out] at hok hm
                have hund : (under ++ pb l K).length ≤ K + 6 + n := by rw [HP.out]; simp; omega
                have HEQ : Hid (scan l 0 = ((bodies ++ [under ++ pb l K]) ++ (resume l (K + 6 + n) false [] (K + 6 + n)).1, (resume l (K + 6 + n) false [] (K + 6 + n)).2)) := Lib.hid (by rw [eq.out, resume_end _ _ HG.out hok hm, ← HK.out, ← Hn.out, resume_new]; simp)
                clear c2 c3 ck c7 Hbad
                clear cF hsum hcmp hVT hok hm
                go_wp2
                go_quiet (fail)
                go_wp2_with (first
                  | (go_at_call 104; go_must (refine (left_any _ (by omega) _).mono ?_); rintro e w1 ⟨rfl, rfl⟩)
                  | ((guard_target =~ wpList _ _ _ (Oper.mk (some 112) _ _ _ _ _ :: _) _ _); go_must (refine wpList_sub (by rfl) (.tmp 108) (.tmp 110) (.tmp 111) rfl (l := l) (lo := K + 6) (hi := K + 6 + n) rfl rfl rfl (hin.ext ((Ext.refl _).drewN _)) (by omega) (by omega) ?_); intro u112' h112)
                  | ((guard_target =~ wpList _ _ _ (Oper.mk (some 113) _ _ _ _ _ :: _) _ _); go_must (refine wpList_text (by rfl) (.tmp 112) rfl h112 ?_); intro s113 hs113 hz113)
                  | ((guard_target =~ wpList _ _ _ (Oper.mk (some 120) _ _ _ _ _ :: _) _ _); go_must (refine wpList_sub (by rfl) (.tmp 115) (.tmp 117) (.tmp 119) rfl (l := l) (lo := K + 2) (hi := K + 6) rfl rfl rfl (hin.ext ((Ext.refl _).drewN _)) (by omega) (by omega) ?_); intro u120' h120)
                  | ((guard_target =~ wpList _ _ _ (Oper.mk (some 121) _ _ _ _ _ :: _) _ _); go_must (refine wpList_text (by rfl) (.tmp 120) rfl h120 ?_); intro s121 hs121 hz121; obtain rfl : s121 = ⟨#[xa, xb, xc, xd]⟩ := ba_of (hs121.out.trans HF.out))
                  | (go_at_call 106; go_must (refine (tnumber_any xa xb xc xd _).mono ?_); rintro e wn ⟨rfl, rfl⟩; rw [IFX.out])
                  | ((guard_target =~ wpList _ _ _ (Oper.mk (some 133) _ _ _ _ _ :: _) _ _); go_must (refine wpList_sub (by rfl) (.tmp 129) (.tmp 130) (.tmp 132) rfl (l := l) (lo := K) (hi := K + 2) rfl rfl rfl (hin.ext ((Ext.refl _).drewN _)) (by omega) (by omega) ?_); intro u133' h133)
                  | ((guard_target =~ wpList _ _ _ (Oper.mk (some 134) _ _ _ _ _ :: _) _ _); go_must (refine wpList_text (by rfl) (.tmp 133) rfl h133 ?_); intro s134 hs134 hz134)
                  | (go_at_call 59; go_must (refine (tof_any (s134 ++ s113) (by rw [ByteArray.size_append, hz134, hz113]; unfold maxLen; simp; omega) _).mono ?_); rintro e wo ⟨rfl, hEo⟩; rw [show tok 1 (s134 ++ s113).data.toList = T from by rw [ByteArray.data_append, Array.toList_append, hs134.out, hs113.out, HT.out, HP.out]; simp])
                  | (go_at_call 107; go_must (refine (writeString_any w.heap.size w.heap.size under s113 wo (builder_ext (((Ext.refl _).drewN _).trans hEo) bld) (by rw [hz113]; simp; omega) (((ext.drewN _).trans hEo).le)).mono ?_); rintro e w5 ⟨rfl, hb5, hB5, hk5⟩))
                have hS : s113.data.toList = pb l K := by rw [hs113.out, HP.out]; congr 1; omega
                rw [hS] at hb5
                have own5 := others_own hk5 (by decide) ne (ownsRow_ext own (((Ext.refl _).drewN _).trans hEo))
                have ext5 : Ext w w5 := Below.trans ((ext.drewN _).trans hEo) hB5
                clear own bld ext hk5 hB5 hEo hin h133 h112 h120
                refine (Tryz.Builder_String_any_k w.heap.size w.heap.size (under ++ pb l K) w5 (Lib.IsBuilderF.of hb5) ext5.le).mono ?_
                rintro e w6 ⟨rfl, hb6, hB6, hk6⟩
                have own6 := others_own hk6 (by decide) ne own5
                have ext6 : Ext w w6 := Below.trans ext5 hB6
                obtain ⟨p6, v6, hx6⟩ := builderF_box hb6
                clear hb5 hb6 hB6 hk6 own5 ext5
                go_wp2_with (at_builtin; go_must (refine appR info_string und_strs rfl (by decide) w6 rfl (.tmp 150) (.tmp 152) rfl w.heap.size ext6.le _ bodies.length (scells bodies) own6 (by rfl) 1 _ (by rfl) (by rfl) (by simp [Value.oneCell']) (by unfold maxLen; omega) (by omega) ?_); intro v7 w7 hown7 hg7)
                have hx7 := (hx6.ext ((Ext.refl _).alloc (.cells #[.string ⟨(under ++ pb l K).toArray⟩] 9))).grown hg7 (fun e => ne e.symm)
                have ext7 := (ext6.alloc (.cells #[.string ⟨(under ++ pb l K).toArray⟩] 9)).grown hg7 (fun k hk => (own6.lt k hk).1)
                have ne7 := own_not_box hown7 hx7 (by decide)
                clear hx6 own6 ext6 hg7
                refine (reset_any w.heap.size w.heap.size (Nat.le_refl _) p6 v6 w7 hx7).mono ?_
                rintro e w8 ⟨rfl, hb8, hB8, hk8⟩
                go_wp2
                go_roundw
                case rel =>
                  refine ⟨K + 6 + n, false, [], bodies ++ [under ++ pb l K], K + 6 + n, rfl, rfl, rfl, ?_⟩
                  refine ⟨?_, ne7, hb8, Below.trans ext7 hB8, by omega, Nat.zero_le _, by simp; omega, Nat.le_refl _, HEQ⟩
                  have h9 := others_own hk8 (by decide) ne7 hown7
                  simpa [scells, str] using h9
                case measure => simp [intOf]; omega
              · -- F2k4
                have hfin := Hbad.out (by rw [cF]; cases hx : sumB l K; rfl; exact absurd (hsum.1 hx) (by omega))
                have IFX : Hid ((if num4 xa xb xc xd < 2147483647 then (.tuple #[.int .i64 (num4 xa xb xc xd : Int), .bool true] : Value) else .tuple #[.int .i64 0, .bool false]) = .tuple #[.int .i64 (V : Int), .bool true]) := Lib.hid (by rw [if_pos (by rw [← HV.out]; exact hcmp), ← HV.out])
                have hne1 : (V == T) = false := by simp; exact hVT
                have hne2 : ((V : Int) == (T : Int)) = false := by simp; omega
                clear c2 c3 ck c7 Hbad
                clear cF hsum hcmp hVT
                go_wp2
                go_quiet (fail)
                go_wp2_with (first
                  | (go_at_call 104; go_must (refine (left_any _ (by omega) _).mono ?_); rintro e w1 ⟨rfl, rfl⟩)
                  | ((guard_target =~ wpList _ _ _ (Oper.mk (some 112) _ _ _ _ _ :: _) _ _); go_must (refine wpList_sub (by rfl) (.tmp 108) (.tmp 110) (.tmp 111) rfl (l := l) (lo := K + 6) (hi := K + 6 + n) rfl rfl rfl (hin.ext ((Ext.refl _).drewN _)) (by omega) (by omega) ?_); intro u112' h112)
                  | ((guard_target =~ wpList _ _ _ (Oper.mk (some 113) _ _ _ _ _ :: _) _ _); go_must (refine wpList_text (by rfl) (.tmp 112) rfl h112 ?_); intro s113 hs113 hz113)
                  | ((guard_target =~ wpList _ _ _ (Oper.mk (some 120) _ _ _ _ _ :: _) _ _); go_must (refine wpList_sub (by rfl) (.tmp 115) (.tmp 117) (.tmp 119) rfl (l := l) (lo := K + 2) (hi := K + 6) rfl rfl rfl (hin.ext ((Ext.refl _).drewN _)) (by omega) (by omega) ?_); intro u120' h120)
                  | ((guard_target =~ wpList _ _ _ (Oper.mk (some 121) _ _ _ _ _ :: _) _ _); go_must (refine wpList_text (by rfl) (.tmp 120) rfl h120 ?_); intro s121 hs121 hz121; obtain rfl : s121 = ⟨#[xa, xb, xc, xd]⟩ := ba_of (hs121.out.trans HF.out))
                  | (go_at_call 106; go_must (refine (tnumber_any xa xb xc xd _).mono ?_); rintro e wn ⟨rfl, rfl⟩; rw [IFX.out])
                  | ((guard_target =~ wpList _ _ _ (Oper.mk (some 133) _ _ _ _ _ :: _) _ _); go_must (refine wpList_sub (by rfl) (.tmp 129) (.tmp 130) (.tmp 132) rfl (l := l) (lo := K) (hi := K + 2) rfl rfl rfl (hin.ext ((Ext.refl _).drewN _)) (by omega) (by omega) ?_); intro u133' h133)
                  | ((guard_target =~ wpList _ _ _ (Oper.mk (some 134) _ _ _ _ _ :: _) _ _); go_must (refine wpList_text (by rfl) (.tmp 133) rfl h133 ?_); intro s134 hs134 hz134)
                  | (go_at_call 59; go_must (refine (tof_any (s134 ++ s113) (by rw [ByteArray.size_append, hz134, hz113]; unfold maxLen; simp; omega) _).mono ?_); rintro e wo ⟨rfl, hEo⟩; rw [show tok 1 (s134 ++ s113).data.toList = T from by rw [ByteArray.data_append, Array.toList_append, hs134.out, hs113.out, HT.out, HP.out]; simp]))
                try rw [Exit.noGoto_ret]
                go_ret2
                exact ⟨u2, ⟨by rw [hfin.out]; rfl, (ext.drewN _).trans hEo⟩, by rw [hfin.out]; exact SliceIn.of_owns (ownsRow_ext own (((Ext.refl _).drewN _).trans hEo))⟩
            · -- F1k4
              have hfin := Hbad.out (by rw [cF]; cases hx : sumB l K; rfl; exact absurd (hsum.1 hx) (by omega))
              have IFX : Hid ((if num4 xa xb xc xd < 2147483647 then (.tuple #[.int .i64 (num4 xa xb xc xd : Int), .bool true] : Value) else .tuple #[.int .i64 0, .bool false]) = .tuple #[.int .i64 0, .bool false]) := Lib.hid (by rw [if_neg (by rw [← HV.out]; exact hcmp)])
              clear c2 c3 ck c7 Hbad
              clear cF hsum hcmp
              go_wp2
              go_quiet (fail)
              go_wp2_with (first
                | (go_at_call 104; go_must (refine (left_any _ (by omega) _).mono ?_); rintro e w1 ⟨rfl, rfl⟩)
                | ((guard_target =~ wpList _ _ _ (Oper.mk (some 112) _ _ _ _ _ :: _) _ _); go_must (refine wpList_sub (by rfl) (.tmp 108) (.tmp 110) (.tmp 111) rfl (l := l) (lo := K + 6) (hi := K + 6 + n) rfl rfl rfl (hin.ext ((Ext.refl _).drewN _)) (by omega) (by omega) ?_); intro u112' h112)
                | ((guard_target =~ wpList _ _ _ (Oper.mk (some 113) _ _ _ _ _ :: _) _ _); go_must (refine wpList_text (by rfl) (.tmp 112) rfl h112 ?_); intro s113 hs113 hz113)
                | ((guard_target =~ wpList _ _ _ (Oper.mk (some 120) _ _ _ _ _ :: _) _ _); go_must (refine wpList_sub (by rfl) (.tmp 115) (.tmp 117) (.tmp 119) rfl (l := l) (lo := K + 2) (hi := K + 6) rfl rfl rfl (hin.ext ((Ext.refl _).drewN _)) (by omega) (by omega) ?_); intro u120' h120)
                | ((guard_target =~ wpList _ _ _ (Oper.mk (some 121) _ _ _ _ _ :: _) _ _); go_must (refine wpList_text (by rfl) (.tmp 120) rfl h120 ?_); intro s121 hs121 hz121; obtain rfl : s121 = ⟨#[xa, xb, xc, xd]⟩ := ba_of (hs121.out.trans HF.out))
                | (go_at_call 106; go_must (refine (tnumber_any xa xb xc xd _).mono ?_); rintro e wn ⟨rfl, rfl⟩; rw [IFX.out]))
              try rw [Exit.noGoto_ret]
              go_ret2
              exact ⟨u2, ⟨by rw [hfin.out]; rfl, ext.drewN _⟩, by rw [hfin.out]; exact SliceIn.of_owns (ownsRow_ext own ((Ext.refl _).drewN _))⟩
    · have hg0 : gapOk l at_ = false := by simpa using hg
      have hfin : Hid (scan l 0 = (bodies, good)) := Lib.hid (by rw [eq.out, resume_gap _ _ _ hg0]; simp)
      rcases hgl with ⟨g1, g2⟩ | ⟨g1, g2⟩
      · exfalso
        have := gapOk_true (s := l) (n := at_) (by omega) (by rw [g1]; rfl)
        exact hg this
      · have t1 : 128 - (at_ : Int) % 128 ≤ 6 := by omega
        by_cases hlen : l.length < at_ + (128 - at_ % 128)
        · have t2 : (l.length : Int) < (at_ : Int) + (128 - (at_ : Int) % 128) := by omega
          have t3 : (at_ : Int) ≤ 4294967296 := by omega
          clear hg hg0 g1 g2
          go_wp2_with (go_at_call 104; go_must (refine (left_any _ (by omega) _).mono ?_); rintro e w1 ⟨rfl, rfl⟩)
          try rw [Exit.noGoto_ret]
          go_ret2
          exact ⟨u2, ⟨by rw [hfin.out]; rfl, ext⟩, by rw [hfin.out]; exact SliceIn.of_owns own⟩
        · obtain ⟨K, hK⟩ : ∃ K, K = at_ + (128 - at_ % 128) := ⟨_, rfl⟩
          have t2 : ¬ (l.length : Int) < (K : Int) := by omega
          have t3 : (at_ : Int) ≤ 4294967296 := by omega
          have hKr : (at_ : Int) + (128 - (at_ : Int) % 128) = (K : Int) := by omega
          have hin := HI.out.ext ext
          have hnz : ¬ (l.drop at_).take (K - at_) = List.replicate (K - at_) 0 := by
            intro hx
            apply hg
            exact gapOk_true (by omega) (by rw [g1]; rw [show K - at_ = 128 - at_ % 128 by omega] at hx; exact hx)
          have hKa : K - at_ ≤ l.length - at_ := by omega
          have HNZ : Hid (Lib.trimB ((l.drop at_).take (K - at_)) 0 ≠ []) := Lib.hid (by
            intro hx
            have h1 := (trim_nought _).1 hx
            rw [show ((l.drop at_).take (K - at_)).length = K - at_ by simp; omega] at h1
            exact hnz h1)
          have hKl : K ≤ l.length := by omega
          have t4 : decide (l.length < K) = false := by simp; omega
          have t5 : decide ((l.length : Int) < (K : Int)) = false := by simp; omega
          have hKa2 : at_ ≤ K := by omega
          clear hg hg0 g1 g2 hK hnz hlen hKa
          go_wp2_with (first
            | (go_at_call 104; go_must (refine (left_any _ (by omega) _).mono ?_); rintro e w1 ⟨rfl, rfl⟩)
            | ((guard_target =~ wpList _ _ _ (Oper.mk (some 30) _ _ _ _ _ :: _) _ _); go_must (refine wpList_sub (by rfl) (.tmp 25) (.tmp 26) (.tmp 29) rfl (l := l) (lo := at_) (hi := K) rfl rfl rfl hin (by omega) (by omega) ?_); intro u30' h30)
            | ((guard_target =~ wpList _ _ _ (Oper.mk (some 31) _ _ _ _ _ :: _) _ _); go_must (refine wpList_text (by rfl) (.tmp 30) rfl h30 ?_); intro s31 hs31 hz31)
            | (go_at_call 105; go_must (refine (Tryz.strings_Trim_one s31 0 (by decide) _ (by rw [hz31]; simp; omega)).mono ?_); rintro e wt ⟨rfl, hwt⟩; obtain ⟨tS, htS⟩ : ∃ tS : ByteArray, tS = ⟨(Lib.trimB s31.data.toList 0).toArray⟩ := ⟨_, rfl⟩; have hne0 : tS.toList ≠ [] := (by rw [htS, ByteArray.toList_eq, hs31.out]; simpa using HNZ.out); rw [← htS]; clear htS; have hne1 : (tS.toList == []) = false := (by simpa using hne0); have hne2 : tS.toList.isEmpty = false := (by simpa using hne0); have hEt : Ext wr wt := (by rcases hwt with rfl | rfl; exact Ext.refl _; exact (Ext.refl _).drew); clear hwt hne0))
          try rw [Exit.noGoto_ret]
          go_ret2
          exact ⟨u2, ⟨by rw [hfin.out]; rfl, ext.trans hEt⟩, by rw [hfin.out]; exact SliceIn.of_owns (ownsRow_ext own hEt)⟩
end Go.Proofs.YtimbikbbbfpeeaaGreatDoor

/- Package segment: Put behind nothing. (Printed by wip/tools/gsp0.py out of XSegPut.) -/
namespace Go.Proofs.YtimbikbbbfpeeaaGreatDoor
open Go Go.RowKit
attribute [local go_sem] yields yUpon

set_option maxRecDepth 100000 in
set_option maxHeartbeats 8000000 in
theorem put_tip0 (v : Value) (l : List UInt8) (hl : l.length ≤ 4294967296) (body : ByteArray) (hb : body.size ≤ 4294967296) (w : World) (ao : Option Addr) (c : Nat) (hc : l.length ≤ c) (hcm : c ≤ 9223372036854775807) (hv : v = .slice ao l.length c) (hA : ao = none) (h : Tip w w.heap.size (.slice ao l.length l.length) l) :
    Calls Tryz.prog 68 #[v, .string body] w fun e w' => ∃ v', (e = .returned v' ∧ Ext w w') ∧ OwnB w' w.heap.size v' (l ++ sput false l.length body.data.toList) := by
  subst hA
  subst hv
  go_enter Tryz.func68, Tryz.ntmps68
  go_wp2
  refine wp_scope_jumps 0 (fun a' w' => ∃ (v1 : Value) (lb : List UInt8) (bd : ByteArray) (u2 u3 u4 u5 u6 u8 u9 u10 u11 u12 u13 u14 u15 u16 u17 u18 u19 u20 u21 u22 u23 u24 u25 u26 u27 u28 u29 u30 u31 u32 u33 u34 u35 u36 u37 u38 u39 u40 u41 u42 u43 u44 u45 u46 u47 u48 u49 : Value), a' = { tmps := #[v1, .string bd, u2, u3, u4, u5, u6, .int .i64 4, u8, u9, u10, u11, u12, u13, u14, u15, u16, u17, u18, u19, u20, u21, u22, u23, u24, u25, u26, u27, u28, u29, u30, u31, u32, u33, u34, u35, u36, u37, u38, u39, u40, u41, u42, u43, u44, u45, u46, u47, u48, u49], defers := [] } ∧ PutJ w w' v1 lb bd l body) (fun a' _ => strSize (a'.tmps.getD 1 undef)) rfl ?_ ?_
  · go_wp2_with (go_at_call 104; go_must (refine (left_any _ (by omega) _).mono ?_); rintro e w1 ⟨rfl, rfl⟩)
    have hgl : gap l.length = 0 ∧ 6 < 128 - l.length % 128 ∨ gap l.length = 128 - l.length % 128 ∧ 128 - l.length % 128 ≤ 6 := by unfold gap; split <;> omega
    have HT0 := Lib.hid h
    clear h
    go_loopw [0, 5] (fun b n wr => ∃ k : Nat, k ≤ gap l.length ∧ n = .int .i64 (128 - (l.length : Int) % 128 - k) ∧ Tip wr w.heap.size b (l ++ zer k) ∧ Ext w wr) (fun _ n _ => (intOf n).toNat)
    case atStart => exact ⟨0, Nat.zero_le _, by simp, by simpa [zer] using HT0.out, Ext.refl w⟩
    case round =>
      obtain ⟨k, hk, rfl, hT, hE⟩ := hrel
      by_cases hkk : k < gap l.length
      · have hg6 : gap l.length = 128 - l.length % 128 ∧ 128 - l.length % 128 ≤ 6 := by omega
        have hd1 : 128 - (l.length : Int) % 128 - k ≤ 6 := by omega
        have hd0 : 1 ≤ 128 - (l.length : Int) % 128 - k := by omega
        have hd2 : (128 - (l.length : Int) % 128 - k == 0) = false := by simp; omega
        clear hgl
        have HZ : Hid (l ++ zer k ++ [UInt8.ofNat (0 : Int).toNat] = l ++ zer (k + 1)) := Lib.hid (by simp [zer, List.replicate_succ'])
        have hlk : (l ++ zer k).length ≤ 4294967302 := by simp; omega
        go_wp2_with (at_builtin; go_must (refine appB wr rfl (.tmp 24) (.tmp 25) rfl w hE _ (l ++ zer k) _ [UInt8.ofNat (0 : Int).toNat] (cs1 (by omega) (by omega)) (by decide) (by rfl) hT 1 (by rfl) rfl (by simp; omega) ?_); intro v2 w2 ho2 hE2)
        rw [HZ.out] at ho2
        clear hT hE hd2
        go_wp2
        go_roundw
        case rel => exact ⟨k + 1, by omega, by go_num, Tip.own ho2, hE2⟩
        case measure => simp [intOf]; omega
      · obtain rfl : k = gap l.length := by omega
        have hlb : (l ++ zer (gap l.length)).length = l.length + gap l.length := by simp
        have hgg : gap (l ++ zer (gap l.length)).length = 0 := by rw [hlb]; exact gap_gap _
        have hsg : Hid (l ++ zer (gap l.length) ++ sput false (l ++ zer (gap l.length)).length body.data.toList = l ++ sput false l.length body.data.toList) := Lib.hid (by rw [hlb, List.append_assoc, sput_gap])
        obtain ⟨lb, hlbe⟩ : ∃ lb, lb = l ++ zer (gap l.length) := ⟨_, rfl⟩
        rw [← hlbe] at hT hgg hsg hlb
        rcases hgl with ⟨g1, g2⟩ | ⟨g1, g2⟩
        · have hd1 : ¬ 128 - (l.length : Int) % 128 - (gap l.length : Int) ≤ 6 := by omega
          obtain ⟨a1, c1, rfl, hlc1, hcm1, _⟩ := hT.bytes
          have hlen : lb.length ≤ 4294967302 := by omega
          have hroom : (room lb.length : Int) = 128 - (lb.length : Int) % 128 - 6 := by have := room_left lb.length; rw [hgg] at this; omega
          have HR := Lib.hid hroom
          unfold maxLen at hcm1
          clear g1 g2 hlbe hlb hk hroom
          by_cases hgt : room lb.length < body.size
          · have ht : 128 - (lb.length : Int) % 128 - 6 < (body.size : Int) := by have := HR.out; omega
            have ht0 : 0 ≤ 128 - (lb.length : Int) % 128 - 6 := by have := HR.out; omega
            go_wp2
            go_step3
            go_wp2_with (go_at_call 104; go_must (refine (left_any _ (by omega) _).mono ?_); rintro e w1 ⟨rfl, rfl⟩)
            rw [← HR.out]
            have hrl := room_le lb.length
            have hbsz : (body.extract 0 (room lb.length)).size = room lb.length := by rw [ByteArray.size_extract]; omega
            have hgt' : (room lb.length : Int) ≤ body.size := by omega
            clear ht ht0 hkk
            have hEd := hE.drew
            have hTd := hT.ext ((Ext.refl wr).drew)
            clear hE hT
            go_region_with (go_at_call 119; refine (piece_any w _ lb 2 (by decide) (body.extract 0 (room lb.length)) (by omega) (by omega) _ hEd hTd).mono ?_; rintro e w5 ⟨v5, ⟨rfl, hE5⟩, ho5⟩)
            have hJ : PutJ w w5 v5 (lb ++ pc 2 (body.extract 0 (room lb.length)).data.toList) (body.extract (room lb.length) body.size) l body := by
              have hd : (body.extract (room lb.length) body.size).size = body.size - room lb.length := by rw [ByteArray.size_extract]; omega
              obtain ⟨s1, s2, s3⟩ := putj_step (begun := false) hgg (show room lb.length < body.data.toList.length from hgt) hsg.out
              rw [← ext_take] at s1 s2
              rw [← ext_drop] at s1
              exact ⟨ho5, hE5, by rw [show (2 : Nat) = kindOf false false from rfl, s2]; exact s3, by omega, by omega, by rw [show (2 : Nat) = kindOf false false from rfl, s2]; omega, Lib.hid s1⟩
            go_wp2
            go_step3
            refine And.intro (rfl : 0 = 0) ?_
            exact ⟨v5, _, _, _, _, _, _, _, _, _, _, _, _, _, _, _, _, _, _, _, _, _, _, _, _, _, _, _, _, _, _, _, _, _, _, _, _, _, _, _, _, _, _, _, _, _, _, _, _, _, rfl, hJ⟩
          · have ht : ¬ 128 - (lb.length : Int) % 128 - 6 < (body.size : Int) := by have := HR.out; omega
            have ht0 : 0 ≤ 128 - (lb.length : Int) % 128 - 6 := by have := HR.out; omega
            have hrl := room_le lb.length
            go_wp2
            go_step3
            go_wp2_with (go_at_call 104; go_must (refine (left_any _ (by omega) _).mono ?_); rintro e w1 ⟨rfl, rfl⟩)
            refine (piece_any w _ lb 1 (by decide) body (by omega) (by omega) _ hE hT).mono ?_
            rintro e w5 ⟨v5, ⟨rfl, hE5⟩, ho5⟩
            have hend := putj_end (begun := false) hgg (show body.data.toList.length ≤ room lb.length from by have e : body.data.toList.length = body.size := rfl; omega) hsg.out
            have HEND : Hid (lb ++ pc 1 body.data.toList = l ++ sput false l.length body.data.toList) := Lib.hid hend
            clear hend
            go_wp2
            simp only [Exit.jump]
            go_ret
            exact ⟨v5, ⟨rfl, hE5⟩, by rw [← HEND.out]; exact ho5⟩
        · have hd1 : 128 - (l.length : Int) % 128 - (gap l.length : Int) ≤ 6 := by omega
          have hd2 : (128 - (l.length : Int) % 128 - (gap l.length : Int) == 0) = true := by simp; omega
          obtain ⟨a1, c1, rfl, hlc1, hcm1, _⟩ := hT.bytes
          have hlen : lb.length ≤ 4294967302 := by omega
          have hroom : (room lb.length : Int) = 128 - (lb.length : Int) % 128 - 6 := by have := room_left lb.length; rw [hgg] at this; omega
          have HR := Lib.hid hroom
          unfold maxLen at hcm1
          clear g1 g2 hlbe hlb hk hroom
          by_cases hgt : room lb.length < body.size
          · have ht : 128 - (lb.length : Int) % 128 - 6 < (body.size : Int) := by have := HR.out; omega
            have ht0 : 0 ≤ 128 - (lb.length : Int) % 128 - 6 := by have := HR.out; omega
            go_wp2
            go_step3
            go_wp2_with (go_at_call 104; go_must (refine (left_any _ (by omega) _).mono ?_); rintro e w1 ⟨rfl, rfl⟩)
            rw [← HR.out]
            have hrl := room_le lb.length
            have hbsz : (body.extract 0 (room lb.length)).size = room lb.length := by rw [ByteArray.size_extract]; omega
            have hgt' : (room lb.length : Int) ≤ body.size := by omega
            clear ht ht0 hkk
            have hEd := hE.drew
            have hTd := hT.ext ((Ext.refl wr).drew)
            clear hE hT
            go_region_with (go_at_call 119; refine (piece_any w _ lb 2 (by decide) (body.extract 0 (room lb.length)) (by omega) (by omega) _ hEd hTd).mono ?_; rintro e w5 ⟨v5, ⟨rfl, hE5⟩, ho5⟩)
            have hJ : PutJ w w5 v5 (lb ++ pc 2 (body.extract 0 (room lb.length)).data.toList) (body.extract (room lb.length) body.size) l body := by
              have hd : (body.extract (room lb.length) body.size).size = body.size - room lb.length := by rw [ByteArray.size_extract]; omega
              obtain ⟨s1, s2, s3⟩ := putj_step (begun := false) hgg (show room lb.length < body.data.toList.length from hgt) hsg.out
              rw [← ext_take] at s1 s2
              rw [← ext_drop] at s1
              exact ⟨ho5, hE5, by rw [show (2 : Nat) = kindOf false false from rfl, s2]; exact s3, by omega, by omega, by rw [show (2 : Nat) = kindOf false false from rfl, s2]; omega, Lib.hid s1⟩
            go_wp2
            go_step3
            refine And.intro (rfl : 0 = 0) ?_
            exact ⟨v5, _, _, _, _, _, _, _, _, _, _, _, _, _, _, _, _, _, _, _, _, _, _, _, _, _, _, _, _, _, _, _, _, _, _, _, _, _, _, _, _, _, _, _, _, _, _, _, _, _, rfl, hJ⟩
          · have ht : ¬ 128 - (lb.length : Int) % 128 - 6 < (body.size : Int) := by have := HR.out; omega
            have ht0 : 0 ≤ 128 - (lb.length : Int) % 128 - 6 := by have := HR.out; omega
            have hrl := room_le lb.length
            go_wp2
            go_step3
            go_wp2_with (go_at_call 104; go_must (refine (left_any _ (by omega) _).mono ?_); rintro e w1 ⟨rfl, rfl⟩)
            refine (piece_any w _ lb 1 (by decide) body (by omega) (by omega) _ hE hT).mono ?_
            rintro e w5 ⟨v5, ⟨rfl, hE5⟩, ho5⟩
            have hend := putj_end (begun := false) hgg (show body.data.toList.length ≤ room lb.length from by have e : body.data.toList.length = body.size := rfl; omega) hsg.out
            have HEND : Hid (lb ++ pc 1 body.data.toList = l ++ sput false l.length body.data.toList) := Lib.hid hend
            clear hend
            go_wp2
            simp only [Exit.jump]
            go_ret
            exact ⟨v5, ⟨rfl, hE5⟩, by rw [← HEND.out]; exact ho5⟩
  · rintro a' w' ⟨v1, lb, bd, u2, u3, u4, u5, u6, u8, u9, u10, u11, u12, u13, u14, u15, u16, u17, u18, u19, u20, u21, u22, u23, u24, u25, u26, u27, u28, u29, u30, u31, u32, u33, u34, u35, u36, u37, u38, u39, u40, u41, u42, u43, u44, u45, u46, u47, u48, u49, rfl, hJ⟩
    obtain ⟨own, ext, full, more, le, len, eq⟩ := hJ
    have hT := Tip.own own
    have hE := ext
    have hgg := gap_zero full
    have hsg := eq
    clear own ext eq
    obtain ⟨a1, c1, rfl, hlc1, hcm1, _⟩ := hT.bytes
    have hroom : (room lb.length : Int) = 128 - (lb.length : Int) % 128 - 6 := by have := room_left lb.length; rw [hgg] at this; omega
    have HR := Lib.hid hroom
    have hrp := room_pos lb.length
    unfold maxLen at hcm1
    clear hroom full
    by_cases hgt : room lb.length < bd.size
    · have ht : 128 - (lb.length : Int) % 128 - 6 < (bd.size : Int) := by have := HR.out; omega
      have ht0 : 0 ≤ 128 - (lb.length : Int) % 128 - 6 := by have := HR.out; omega
      go_wp2_with (go_at_call 104; go_must (refine (left_any _ (by omega) _).mono ?_); rintro e w1 ⟨rfl, rfl⟩)
      rw [← HR.out]
      have hrl := room_le lb.length
      have hbsz : (bd.extract 0 (room lb.length)).size = room lb.length := by rw [ByteArray.size_extract]; omega
      have hgt' : (room lb.length : Int) ≤ bd.size := by omega
      clear ht ht0
      have hEd := hE.drew
      have hTd := hT.ext ((Ext.refl w').drew)
      clear hE hT
      go_region_with (go_at_call 119; refine (piece_any w _ lb 3 (by decide) (bd.extract 0 (room lb.length)) (by omega) (by omega) _ hEd hTd).mono ?_; rintro e w5 ⟨v5, ⟨rfl, hE5⟩, ho5⟩)
      have hd : (bd.extract (room lb.length) bd.size).size = bd.size - room lb.length := by rw [ByteArray.size_extract]; omega
      have hJ : PutJ w w5 v5 (lb ++ pc 3 (bd.extract 0 (room lb.length)).data.toList) (bd.extract (room lb.length) bd.size) l body := by
        obtain ⟨s1, s2, s3⟩ := putj_step (begun := true) hgg (show room lb.length < bd.data.toList.length from hgt) hsg.out
        rw [← ext_take] at s1 s2
        rw [← ext_drop] at s1
        refine ⟨ho5, hE5, by rw [show (3 : Nat) = kindOf true false from rfl, s2]; exact s3, by omega, by omega, ?_, Lib.hid s1⟩
        have hl3 := congrArg List.length s1
        have h4 := sput_lenS false l.length body.data.toList
        have h5 := lenS_le _ l.length body.data.toList.length (Nat.le_refl _)
        have h6 : body.data.toList.length = body.size := rfl
        simp only [List.length_append, h4] at hl3
        rw [show (3 : Nat) = kindOf true false from rfl, List.length_append]
        omega
      go_wp2
      go_step3
      refine And.intro (rfl : 0 = 0) ?_
      refine ⟨⟨v5, _, _, _, _, _, _, _, _, _, _, _, _, _, _, _, _, _, _, _, _, _, _, _, _, _, _, _, _, _, _, _, _, _, _, _, _, _, _, _, _, _, _, _, _, _, _, _, _, _, rfl, hJ⟩, ?_⟩
      show (bd.extract (room lb.length) bd.size).size < bd.size
      omega
    · have ht : ¬ 128 - (lb.length : Int) % 128 - 6 < (bd.size : Int) := by have := HR.out; omega
      have ht0 : 0 ≤ 128 - (lb.length : Int) % 128 - 6 := by have := HR.out; omega
      have hrl := room_le lb.length
      go_wp2_with (go_at_call 104; go_must (refine (left_any _ (by omega) _).mono ?_); rintro e w1 ⟨rfl, rfl⟩)
      refine (piece_any w _ lb 4 (by decide) bd (by omega) (by omega) _ hE hT).mono ?_
      rintro e w5 ⟨v5, ⟨rfl, hE5⟩, ho5⟩
      have hend := putj_end (begun := true) hgg (show bd.data.toList.length ≤ room lb.length from by have e : bd.data.toList.length = bd.size := rfl; omega) hsg.out
      have HEND : Hid (lb ++ pc 4 bd.data.toList = l ++ sput false l.length body.data.toList) := Lib.hid hend
      clear hend
      go_wp2
      simp only [Exit.jump]
      go_ret
      exact ⟨v5, ⟨rfl, hE5⟩, by rw [← HEND.out]; exact ho5⟩

theorem put_nil (body : ByteArray) (hb : body.size ≤ 4294967296) (w : World) :
    Calls Tryz.prog 68 #[.slice none 0 0, .string body] w fun e w' => ∃ v', (e = .returned v' ∧ Ext w w') ∧ OwnB w' w.heap.size v' (sput false 0 body.data.toList) :=
  put_tip0 (.slice none 0 0) [] (by decide) body hb w none 0 (Nat.le_refl _) (by omega) rfl rfl (Tip.nil w _)
end Go.Proofs.YtimbikbbbfpeeaaGreatDoor

/- Package segment: Scan of any slice of bytes; clerestorylaw04.awake. (what a smaller cut has) -/
namespace Go.Proofs.YtimbikbbbfpeeaaGreatDoor
open Go Go.RowKit
attribute [local go_sem] yields yUpon

theorem scan_end {s : List UInt8} {n : Nat} (h : s.length ≤ n) : scan s n = ([], n) := by
  refine scan_none ?_
  cases hr : rd s false n with
  | none => rfl
  | some p =>
    obtain ⟨b, e⟩ := p
    obtain ⟨_, h2, h3, h4⟩ := rd_spec hr
    have := sput_pos false n b
    omega
theorem scan_all (l : List (List UInt8)) : scan (puts 0 l) 0 = (l, (puts 0 l).length) := by
  have h := scan_puts (puts 0 l) l 0 [] (by simp)
  rw [Nat.zero_add, scan_end (Nat.le_refl _)] at h
  rw [h, List.append_nil]
theorem scan_one (b : List UInt8) : scan (sput false 0 b) 0 = ([b], (sput false 0 b).length) := by
  have h := scan_all [b]
  simpa [puts] using h

set_option maxRecDepth 100000 in
set_option maxHeartbeats 2000000 in
theorem scan_empty_any (a : Option Addr) (c : Nat) (hc : c ≤ 9223372036854775807) (w : World) :
    Calls Tryz.prog 66 #[.slice a 0 c] w fun e w' => (e = .returned (.tuple #[.slice none 0 0, .int .i64 0]) ∧ Ext w w') := by
  go_enter Tryz.func66, Tryz.ntmps66
  go_wp2
  go_step3
  go_wp2
  go_step3
  go_wp2
  refine wp_loop_rounds 1 ?_
  rw [rounds_succ]
  go_wp2_with (go_at_call 104; go_must (refine (left_any 0 (by omega) _).mono ?_); rintro e w1 ⟨rfl, rfl⟩)
  try rw [Exit.noGoto_ret]
  go_ret2
  exact ⟨rfl, (Ext.refl w).alloc _⟩

theorem scan_any (v : Value) (l : List UInt8) (hl : l.length ≤ 4294967296) (w : World) (hin : BytesIn w v l) :
    Calls Tryz.prog 66 #[v] w fun e w' => ∃ v', (e = .returned (.tuple #[v', .int .i64 ((scan l 0).2 : Int)]) ∧ Ext w w') ∧ StrsIn w' v' (scan l 0).1 := by
  have hin' := hin
  obtain ⟨a, c, rfl, hc, hcm, ha, hcell⟩ := hin
  unfold maxLen at hcm
  by_cases hne : 0 < l.length
  · obtain ⟨b, o, rfl, _⟩ := hcell 0 ((bcells l)[0]'(by simpa using hne)) (by rw [List.getElem?_eq_getElem])
    exact scan_some_any l hl hne b o c hc hcm w hin'
  · obtain rfl : l = [] := List.eq_nil_of_length_eq_zero (by omega)
    rw [scan_end (by simp)]
    exact (scan_empty_any a c hcm w).mono fun e w' ⟨he, hE⟩ => ⟨_, ⟨he, hE⟩, SliceIn.nil w'⟩

theorem put_gen (v : Value) (l : List UInt8) (hl : l.length ≤ 4294967296) (body : ByteArray) (hb : body.size ≤ 4294967296) (w : World) (h : BytesIn w v l) :
    Calls Tryz.prog 68 #[v, .string body] w fun e w' => ∃ v', (e = .returned v' ∧ Ext w w') ∧ OwnB w' w.heap.size v' (l ++ sput false l.length body.data.toList) := by
  have h' := h
  obtain ⟨a, c, rfl, hc, hcm, ha, _⟩ := h'
  cases a with
  | none =>
    have h0 := ha rfl
    subst h0
    obtain rfl : l = [] := List.eq_nil_of_length_eq_zero (by omega)
    exact put_nil body hb w
  | some ad => exact put_any _ l hl body hb w h ⟨ad, c, rfl⟩
end Go.Proofs.YtimbikbbbfpeeaaGreatDoor
