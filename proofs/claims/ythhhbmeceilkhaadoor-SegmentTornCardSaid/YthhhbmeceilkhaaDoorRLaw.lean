/- SegmentTorn: the law's walk. -/
import Derived.Test.YthhhbmeceilkhaaDoorR5
import Derived.Test.YthhhbmeceilkhaaDoorR7
import Derived.Test.YthhhbmeceilkhaaDoorR8
set_option linter.unusedSimpArgs false
set_option linter.unusedVariables false
namespace Go.Proofs.YthhhbmeceilkhaaDoor
open Go Go.RowKit
attribute [local go_sem] yields yUpon

theorem info_intT : (Tryd.prog.info? 3).map (fun i => (i.zero, i.size, i.bytes)) = some (some (.int .i64 0), 1, 8) := by kernel_rfl
theorem und_intsT : Tryd.prog.underlying 32 = some (.slice 3) := by kernel_rfl
theorem ownB_form {w : World} {B : Nat} {v : Value} {l : List UInt8} (h : OwnB w B v l) (hn : 0 < l.length) : ∃ g c, v = .slice (some ⟨g, 0, none⟩) l.length c ∧ l.length ≤ c ∧ c ≤ maxLen := by
  obtain ⟨_, ⟨_, h0⟩ | ⟨g, c, cur, e, _, _, h1, h2, _⟩⟩ := h
  · omega
  · exact ⟨g, c, e, h1, h2⟩
def eN (l : List (List UInt8)) (j : Nat) : Nat := (puts 0 (l.take j)).length
theorem eN_zero (l : List (List UInt8)) : eN l 0 = 0 := rfl

set_option maxRecDepth 100000 in
set_option maxHeartbeats 16000000 in
theorem law_segmentTorn (v0 : Value) (l : List (List UInt8)) (cut at_ by_ : Int) (hby : 0 ≤ by_ ∧ by_ < 256) (hl : ∀ x ∈ l, x.length ≤ maxLen) (w : World) (hin : StrsIn w v0 l) :
    Calls Tryd.prog 4 #[v0, .int .i64 cut, .int .i64 at_, .int .u8 by_] w fun e w' => e = .returned (.bool true) ∧ Ext w w' := by
  have hin0 := hin
  obtain ⟨a0, c0, rfl, hc0, hcm0, hcell0⟩ := hin.get
  have HC := Lib.hid hcell0
  have HLn := Lib.hid hl
  unfold maxLen at hcm0
  clear hcell0 hin hl
  obtain ⟨n, hn⟩ : ∃ n, n = l.length := ⟨_, rfl⟩
  have HN := Lib.hid hn
  rw [← hn] at hc0 hin0 ⊢
  clear hn
  by_cases h12 : 12 < (n : Int)
  · go_enter Tryd.func4, Tryd.ntmps4
    go_wp2_with (go_at_call 8; go_must (refine (awake4_any _).mono ?_); rintro e w7 ⟨rfl, hE7⟩)
    go_ret
    exact ⟨rfl, hE7⟩
  go_enter Tryd.func4, Tryd.ntmps4
  go_wp2
  go_loopw [9, 10, 11] (fun vb ve i wr => ∃ k : Nat, k ≤ n ∧ i = .int .i64 k ∧ BytesIn wr vb (puts 0 (l.take k)) ∧ wr.ownsRow w.heap.size 3 1 ve k (kcells .i64 (endsL l k)) ∧ Ext w wr ∧ Hid (∀ x ∈ l.take k, x.length ≤ 400)) (fun _ _ i _ => n - (intOf i).toNat)
  case atStart => exact ⟨0, Nat.zero_le _, rfl, SliceIn.nil w, World.ownsRow_nil _ _ _ _, Ext.refl w, Lib.hid (by simp)⟩
  case round =>
    obtain ⟨k, hk, rfl, hB, hO, hE, HT⟩ := hrel
    have hpl : (puts 0 (l.take k)).length ≤ 33744 := by
      have h1 := puts_le (l.take k) 0 HT.out
      rw [List.length_take] at h1
      omega
    by_cases hlt : k < n
    · have hkl : k < l.length := by rw [← HN.out]; exact hlt
      obtain ⟨b, o, rfl, hco⟩ := HC.out k hkl
      replace hco := hE.cell hco
      have hxl : l[k].length ≤ maxLen := HLn.out _ (List.getElem_mem hkl)
      have hxs : (str l[k]).size = l[k].length := by simp
      obtain ⟨x, hx⟩ : ∃ x, x = str l[k] := ⟨_, rfl⟩
      have HX := Lib.hid hx
      rw [← hx] at hco hxs
      unfold maxLen at hxl
      rw [← hxs] at hxl
      clear hx
      by_cases hx4 : 400 < (x.size : Int)
      · go_wp2_with (go_at_call 8; go_must (refine (awake4_any _).mono ?_); rintro e w7 ⟨rfl, hE7⟩)
        go_ret
        exact ⟨rfl, hE.trans hE7⟩
      · have HTk : Hid (∀ y ∈ l.take (k + 1), y.length ≤ 400) := Lib.hid (take_le hkl HT.out (by omega))
        have HP : Hid (puts 0 (l.take k) ++ sput false (puts 0 (l.take k)).length x.data.toList = puts 0 (l.take (k + 1))) := Lib.hid (by rw [HX.out]; simpa using puts_take hkl)
        have hpl1 : eN l (k + 1) ≤ 36556 := by
          have h1 := puts_le (l.take (k + 1)) 0 HTk.out
          rw [List.length_take] at h1
          unfold eN
          omega
        clear hxs
        go_wp2_with (first
          | (go_at_call 11; go_must (refine (put_gen _ (puts 0 (l.take k)) (by omega) x (by omega) wr hB).mono ?_); rintro e w7 ⟨v7, ⟨rfl, hE7⟩, ho7⟩; rw [HP.out] at ho7; obtain ⟨a7, c7, rfl, hc7, hcm7, _, _⟩ := ho7.bytes; unfold maxLen at hcm7; rw [show (puts 0 (l.take (k + 1))).length = eN l (k + 1) from rfl] at hc7 ⊢; have hO7 := ownsRow_ext hO hE7)
          | (at_builtin; go_must (refine appR info_intT und_intsT rfl (by decide) w7 rfl (.tmp 44) (.tmp 47) rfl w.heap.size (hE.trans hE7).le _ k (kcells .i64 (endsL l k)) hO7 (by rfl) 1 _ (by rfl) (by rfl) (by simp [Value.oneCell']) (by unfold maxLen; omega) (by omega) ?_); intro v8 w8 ho8 hg8))
        have hb8 : BytesIn w8 (.slice a7 (eN l (k + 1)) c7) (puts 0 (l.take (k + 1))) := by
          have h1 : OwnB (w7.alloc (.cells #[.int .i64 (eN l (k + 1) : Int)] 3)) wr.heap.size (.slice a7 (eN l (k + 1)) c7) (puts 0 (l.take (k + 1))) := ho7.ext ((Ext.refl w7).alloc _)
          have h2 := World.ownsRow.kept h1 hg8 (by
            cases hv : (Value.slice a7 (eN l (k + 1)) c7).ownBlock with
            | none => exact .inl rfl
            | some p =>
              refine .inr fun e => ?_
              have g1 := (ho7.lt p hv).1
              have g2 := (hO.lt p e.symm).2
              omega)
          exact OwnB.bytes h2
        have hE8 := ((hE.trans hE7).alloc (.cells #[.int .i64 (eN l (k + 1) : Int)] 3)).grown hg8 (fun q hq => (hO7.lt q hq).1)
        have hO8 : w8.ownsRow w.heap.size 3 1 v8 (k + 1) (kcells .i64 (endsL l (k + 1))) := by
          have e : kcells .i64 (endsL l (k + 1)) = kcells .i64 (endsL l k) ++ [.int .i64 (eN l (k + 1) : Int)] := by rw [endsL_succ]; simp [kcells, eN]
          rw [e]
          exact ho8
        go_roundw
        case rel => exact ⟨k + 1, by omega, by go_num, hb8, hO8, hE8, HTk⟩
        case measure => simp [intOf]; omega
    · obtain rfl : k = n := by omega
      rw [HN.out, List.take_length] at hB
      rw [HN.out, List.take_length] at hpl
      obtain ⟨L, hL⟩ : ∃ L, L = puts 0 l := ⟨_, rfl⟩
      rw [← hL] at hB hpl
      have HL := Lib.hid hL
      clear hL HT
      obtain ⟨ab, cb, rfl, hcb, hcmb, _, _⟩ := id hB
      unfold maxLen at hcmb
      obtain ⟨K, hK⟩ : ∃ K : Nat, (K : Int) = cut % ((L.length : Int) + 1) := ⟨(cut % ((L.length : Int) + 1)).toNat, by have := Int.emod_nonneg cut (show (L.length : Int) + 1 ≠ 0 by omega); omega⟩
      have hKl : K ≤ L.length := by have := Int.emod_lt_of_pos cut (show (0 : Int) < (L.length : Int) + 1 by omega); omega
      have HK := Lib.hid hK.symm
      clear hK
      go_wp2_with (first
        | (go_at_call 14; go_must (refine (place_any _ _ (by omega) (by omega) _).mono ?_); rintro e w3 ⟨rfl, rfl⟩; rw [HK.out])
        | ((guard_target =~ wpList _ _ _ (Oper.mk (some 57) _ _ _ _ _ :: _) _ _); go_must (refine wpList_subTo (by rfl) (.tmp 55) (.tmp 56) rfl (l := L) (hi := K) rfl rfl hB hKl ?_); intro u57 h57))
      refine (scan_any _ (L.take K) (by rw [List.length_take]; omega) _ h57).mono ?_
      rintro e w5 ⟨v5, ⟨rfl, hE5⟩, hs5⟩
      have hfull : scan (L.take K) 0 = (l.take (wholes 0 K l), eN l (wholes 0 K l)) := by rw [HL.out]; exact torn_full l (by rw [← HL.out]; exact hKl)
      rw [hfull] at hs5 ⊢
      have hwl := wholes_le K l 0
      have HWL : Hid (∀ j, j ≤ wholes 0 K l → (j < wholes 0 K l ↔ j < l.length ∧ eN l (j + 1) ≤ K)) := Lib.hid fun j hj => by
        have := wholes_lt K l 0 j hj
        rwa [Nat.zero_add] at this
      rw [← HN.out] at hwl
      generalize wholes 0 K l = wn at hs5 hwl HWL ⊢
      clear hfull h57
      have hO5 := ownsRow_ext hO hE5
      obtain ⟨ae, ce, rfl, hce, hcme, _, hcelle⟩ := SliceIn.of_owns hO5
      have HCE := Lib.hid hcelle
      unfold maxLen at hcme
      clear hcelle
      have heN : ∀ j, j ≤ k → Hid (eN l j ≤ L.length) := fun j _ => Lib.hid (by
        have h1 := congrArg List.length (puts_pre l j)
        rw [List.length_take, ← HL.out] at h1
        unfold eN
        omega)
      have hLk : L.length = 0 ↔ k = 0 := by rw [HL.out, puts_nil, ← HN.out]
      have hE05 := hE.trans hE5
      replace hB := hB.ext hE5
      have hpre : Hid (∀ j, j ≤ k → ∀ w', Ext w w' → StrsIn w' (.slice a0 j c0) (l.take j)) := Lib.hid fun j hj w' hE' => by
        have h1 : StrsIn w' (.slice a0 k c0) (l.take j ++ l.drop j) := by rw [List.take_append_drop]; exact hin0.ext hE'
        have h2 := h1.pre
        rwa [List.length_take, ← HN.out, Nat.min_eq_left hj] at h2
      clear hO hO5 hin0
      go_wp2_with fail
      go_loop [15, 16] (fun nv ev => ∃ j : Nat, nv = .int .i64 (j : Int) ∧ ev = .int .i64 (eN l j : Int) ∧ j ≤ wn) (fun nv _ => wn - (intOf nv).toNat)
      case atStart => exact ⟨0, rfl, rfl, Nat.zero_le _⟩
      case round =>
        obtain ⟨j, rfl, rfl, hj⟩ := hrel
        by_cases hjw : j < wn
        · have h1 := (HWL.out j hj).1 hjw
          have hjk : j < k := by omega
          obtain ⟨b, o, rfl, hce1⟩ := HCE.out j (.int .i64 (eN l (j + 1) : Int)) (by rw [kcells_get, endsL_get hjk]; rfl)
          have h2 := h1.2
          obtain ⟨ev, hev⟩ : ∃ ev, ev = eN l (j + 1) := ⟨_, rfl⟩
          rw [← hev] at hce1 h2
          have HEV := Lib.hid hev
          clear hev h1
          go_wp2
          go_round
          case rel => exact ⟨j + 1, by go_num, by rw [HEV.out], by omega⟩
          case measure => simp [intOf]; omega
        · obtain rfl : j = wn := by omega
          have hcase : (j < k ∧ ∃ (b o : Nat) (ev : Nat), ae = some ⟨b, o, none⟩ ∧ w5.cell? ⟨b, o + j, none⟩ = some (.int .i64 (ev : Int)) ∧ ¬ ev ≤ K) ∨ j = k := by
            by_cases hjk : j < k
            · obtain ⟨b, o, e1, hce1⟩ := HCE.out j (.int .i64 (eN l (j + 1) : Int)) (by rw [kcells_get, endsL_get hjk]; rfl)
              refine .inl ⟨hjk, b, o, _, e1, hce1, fun h => ?_⟩
              have := (HWL.out j hj).2 ⟨by rw [← HN.out]; exact hjk, h⟩
              omega
            · exact .inr (by omega)
          have hs13 := hpre.out j hwl w5 hE05
          have heg : Hid (eN l j ≤ L.length) := heN j hwl
          clear hjw
          rcases hcase with ⟨hjk, b, o, ev, rfl, hce1, hev⟩ | hjk
          · have hjk' : decide ((j : Int) < (k : Int)) = true := by simp; omega
            by_cases hL0 : L.length = 0
            · have := hLk.1 hL0
              omega
            · have hLn : ((L.length : Int) == 0) = false := by rw [beq_eq_false_iff_ne]; omega
              have hkn : ((k : Int) == 0) = false := by rw [beq_eq_false_iff_ne]; intro h; exact hL0 (hLk.2 (by omega))
              by_cases hb0 : by_ = 0
              · go_wp2_with (first
                  | (go_at_call 13; go_must (refine (sameStr_any _ _ _ _ hs5 hs13).mono ?_); rintro e w6 ⟨rfl, hE6⟩)
                  | (go_at_call 8; go_must (refine (awake4_any _).mono ?_); rintro e w7 ⟨rfl, hE7⟩))
                go_ret
                exact ⟨rfl, hE05.trans (hE6.trans hE7)⟩
              · have hbn : (by_ == 0) = false := by rw [beq_eq_false_iff_ne]; exact hb0
                obtain ⟨I, hI⟩ : ∃ I : Nat, (I : Int) = at_ % (L.length : Int) := ⟨(at_ % (L.length : Int)).toNat, by have := Int.emod_nonneg at_ (show (L.length : Int) ≠ 0 by omega); omega⟩
                have hIl : I < L.length := by have := Int.emod_lt_of_pos at_ (show (0 : Int) < (L.length : Int) by omega); omega
                have HI := Lib.hid hI.symm
                clear hI
                go_wp2_with (first
                  | (go_at_call 13; go_must (refine (sameStr_any _ _ _ _ hs5 hs13).mono ?_); rintro e w6 ⟨rfl, hE6⟩)
                  | (go_at_call 14; go_must (refine (place_any _ _ (by omega) (by omega) _).mono ?_); rintro e w7 ⟨rfl, rfl⟩; rw [HI.out])
                  | ((guard_target =~ wpList _ _ _ (Oper.mk (some 112) _ _ _ _ _ :: _) _ _); go_must (refine wpList_cloneB (by rfl) (.const (.slice none 0 0)) (.tmp 111) rfl rfl (by rfl) (hB.ext hE6) (by omega) ?_); intro v18 w18 ho18 hE18; go_must (obtain ⟨g18, c18, rfl, hc181, hc182⟩ := ownB_form ho18 (by omega); unfold maxLen at hc182; obtain ⟨x18, hx18⟩ : ∃ x : UInt8, L[I]? = some x := ⟨_, List.getElem?_eq_getElem hIl⟩; have hc18 := World.ownsRow.cellAt ho18 I (by omega); have hf18 := World.ownsRow.frozenAt ho18 I; rw [show (bcells L)[I]? = some (.int .u8 (x18.toNat : Int)) from (by simp [bcells, hx18])] at hc18)))
                obtain ⟨X, hX⟩ : ∃ X, X = bits BinOp.xor IntKind.u8 (x18.toNat : Int) by_ := ⟨_, rfl⟩
                have hX1 : 0 ≤ X ∧ X < 256 := by rw [hX]; exact xor_u8 _ _
                rw [← hX]
                clear hX hc18 hf18
                obtain ⟨hs18, hg18⟩ := World.ownsRow.stored ho18 I (.int .u8 X)
                have hgw := (ho18.lt g18 rfl).1
                obtain ⟨C, hC⟩ : ∃ C, C = L.set I (UInt8.ofNat X.toNat) := ⟨_, rfl⟩
                have hCl : C.length = L.length := by rw [hC, List.length_set]
                have hbC : BytesIn (w18.setCell ⟨g18, I, none⟩ (.int .u8 X)) (.slice (some ⟨g18, 0, none⟩) L.length c18) C := by
                  have e : (bcells L).set I (.int .u8 X) = bcells C := by
                    rw [hC]
                    unfold bcells
                    rw [List.map_set, byte_of hX1.1 hX1.2]
                  rw [e] at hs18
                  have h1 := SliceIn.of_owns hs18
                  rw [← hCl] at h1 ⊢
                  exact h1
                have hE19 : Ext w6 (w18.setCell ⟨g18, I, none⟩ (.int .u8 X)) := hE18.grown hg18 (fun q hq => by cases hq; exact hgw)
                generalize w18.setCell ⟨g18, I, none⟩ (.int .u8 X) = w19 at hbC hE19 ⊢
                obtain ⟨r, g, hsc, hge⟩ := turned (l := l) (C := C) (i := I) (by rw [hC, xor_take, HL.out])
                have hgl := (scan_le C _ 0 (Nat.le_refl _) (Nat.zero_le _)).1
                rw [hsc] at hgl
                simp only at hgl
                refine (scan_any _ C (by omega) w19 hbC).mono ?_
                rw [hsc]
                rintro e w20 ⟨v20, ⟨rfl, hE20⟩, hs20⟩
                have HSC := Lib.hid hsc
                have hw2 := wholes_le I l 0
                have HW2 : Hid (∀ q, q ≤ wholes 0 I l → (q < wholes 0 I l ↔ q < l.length ∧ eN l (q + 1) ≤ I)) := Lib.hid fun q hq => by
                  have := wholes_lt I l 0 q hq
                  rwa [Nat.zero_add] at this
                rw [← HN.out] at hw2
                change eN l (wholes 0 I l) ≤ g at hge
                generalize wholes 0 I l = wm at hs20 hw2 HW2 hge HSC ⊢
                have hE620 := hE19.trans hE20
                have hEw := (hE05.trans hE6).trans hE620
                have hE520 := hE6.trans hE620
                clear hsc hs18 hg18 ho18 hC hX1
                have hsl := hs20
                obtain ⟨a20, c20, rfl, hc20, hcm20, _⟩ := hs20.get
                unfold maxLen at hcm20
                obtain ⟨ML, hML⟩ : ∃ ML, ML = (l.take wm ++ r).length := ⟨_, rfl⟩
                have hMw : wm ≤ ML := by rw [hML, List.length_append, List.length_take, ← HN.out]; omega
                rw [← hML] at hc20 ⊢
                have HML := Lib.hid hML
                clear hML hs20 hs13 hs5
                try clear hce1
                replace hbC := hbC.ext hE20
                go_wp2_with fail
                go_loop [15, 16] (fun nv ev => ∃ q : Nat, nv = .int .i64 (q : Int) ∧ ev = .int .i64 (eN l q : Int) ∧ q ≤ wm) (fun nv _ => wm - (intOf nv).toNat)
                case atStart => exact ⟨0, rfl, rfl, Nat.zero_le _⟩
                case round =>
                  obtain ⟨q, rfl, rfl, hq⟩ := hrel
                  by_cases hqw : q < wm
                  · have h1 := (HW2.out q hq).1 hqw
                    have hqk : q < k := by omega
                    obtain ⟨b3, o3, e3, hce3⟩ := HCE.out q (.int .i64 (eN l (q + 1) : Int)) (by rw [kcells_get, endsL_get hqk]; rfl)
                    cases e3
                    replace hce3 := hE520.cell hce3
                    have h2 := h1.2
                    obtain ⟨ev2, hev2⟩ : ∃ ev, ev = eN l (q + 1) := ⟨_, rfl⟩
                    rw [← hev2] at hce3 h2
                    have HEV2 := Lib.hid hev2
                    clear hev2 h1
                    go_wp2
                    go_round
                    case rel => exact ⟨q + 1, by go_num, by rw [HEV2.out], by omega⟩
                    case measure => simp [intOf]; omega
                  · obtain rfl : q = wm := by omega
                    by_cases hqk : q < k
                    · obtain ⟨b3, o3, e3, hce3⟩ := HCE.out q (.int .i64 (eN l (q + 1) : Int)) (by rw [kcells_get, endsL_get hqk]; rfl)
                      cases e3
                      replace hce3 := hE520.cell hce3
                      have hno : ¬ eN l (q + 1) ≤ I := fun h => by
                        have := (HW2.out q hq).2 ⟨by rw [← HN.out]; exact hqk, h⟩
                        omega
                      obtain ⟨ev2, hev2⟩ : ∃ ev, ev = eN l (q + 1) := ⟨_, rfl⟩
                      rw [← hev2] at hce3 hno
                      have hqk' : decide ((q : Int) < (k : Int)) = true := by simp; omega
                      clear hev2 hqw
                      have hs20m : StrsIn w20 (.slice a20 q c20) (l.take q) := by
                        have h1 := hsl.pre
                        rwa [List.length_take, ← HN.out, Nat.min_eq_left hw2] at h1
                      have hs20k := hpre.out q hw2 w20 hEw
                      go_wp2_with ((guard_target =~ wpList _ _ _ (Oper.mk (some 147) _ _ _ _ _ :: _) _ _); go_must (refine wpList_text (by rfl) (.tmp 146) rfl hbC ?_); intro s147 hs147 hz147)
                      refine (rscan4_any s147 (by omega) w20).mono ?_
                      rw [hs147.out, HSC.out]
                      rintro e w21 ⟨v21, ⟨rfl, hE21⟩, hs21⟩
                      have hsl1 := hsl.ext hE21
                      rw [← HML.out] at hsl1
                      replace hs20m := hs20m.ext hE21
                      replace hs20k := hs20k.ext hE21
                      clear hs147 hz147
                      go_wp2_with fail
                      refine wp_region_tab 32 [(11, fun v _ => v = .bool true), (21, fun v _ => v = .bool true), (29, fun v _ => v = .bool true)] (by kernel_rfl) (by kernel_rfl) (by kernel_rfl) ⟨stays_eq _, stays_eq _, stays_eq _, trivial⟩ ?_
                      refine rg_quiet rfl rfl rfl rfl ?_; intro K hK; go_big_quiet_op; go_big_quiet_on
                      refine rg_quiet rfl rfl rfl rfl ?_; intro K hK; go_big_quiet_op; go_big_quiet_on
                      refine rg_quiet rfl rfl rfl rfl ?_; intro K hK; go_big_quiet_op; go_big_quiet_on
                      refine rg_quiet rfl rfl rfl rfl ?_; intro K hK; go_big_quiet_op; go_big_quiet_on
                      refine rg_quiet rfl rfl rfl rfl ?_; intro K hK; go_big_quiet_op; go_big_quiet_on
                      refine rg_quiet rfl rfl rfl rfl ?_; intro K hK; go_big_quiet_op; go_big_quiet_on
                      refine rg_quiet rfl rfl rfl rfl ?_; intro K hK; go_big_quiet_op; go_big_quiet_on
                      refine rg_quiet rfl rfl rfl rfl ?_; intro K hK; go_big_quiet_op; go_big_quiet_on
                      refine rg_quiet rfl rfl rfl rfl ?_; intro K hK; go_big_quiet_op; go_big_quiet_on
                      refine rg_quiet rfl rfl rfl rfl ?_; intro K hK; go_big_quiet_op; go_big_quiet_on
                      refine rg_quiet rfl rfl rfl rfl ?_; intro K hK; go_big_quiet_op; go_big_quiet_on
                      refine rg_val [] rfl rfl rfl (by kernel_rfl) (fun w1 hE hf => ?_) ?_
                      · go_simp
                        exact (sameStr_any _ _ (l.take q) w1 (hs20m.ext hE) (hs20k.ext hE)).mono fun e w' ⟨he, hw⟩ => ⟨_, he, rg_done hE hw (rfl)⟩
                      simp only [Act.put, List.setIfInBounds_toArray, List.set_cons_zero, List.set_cons_succ]
                      refine rg_quiet rfl rfl rfl rfl ?_; intro K hK; go_big_quiet_op; go_big_quiet_on
                      refine rg_quiet rfl rfl rfl rfl ?_; intro K hK; go_big_quiet_op; go_big_quiet_on
                      refine rg_quiet rfl rfl rfl rfl ?_; intro K hK; go_big_quiet_op; go_big_quiet_on
                      refine rg_quiet rfl rfl rfl rfl ?_; intro K hK; go_big_quiet_op; go_big_quiet_on
                      refine rg_quiet rfl rfl rfl rfl ?_; intro K hK; go_big_quiet_op; go_big_quiet_on
                      refine rg_quiet rfl rfl rfl rfl ?_; intro K hK; go_big_quiet_op; go_big_quiet_on
                      refine rg_quiet rfl rfl rfl rfl ?_; intro K hK; go_big_quiet_op; go_big_quiet_on
                      refine rg_quiet rfl rfl rfl rfl ?_; intro K hK; go_big_quiet_op; go_big_quiet_on
                      refine rg_quiet rfl rfl rfl rfl ?_; intro K hK; go_big_quiet_op; go_big_quiet_on
                      refine rg_val [] rfl rfl rfl (by kernel_rfl) (fun w1 hE hf => ?_) ?_
                      · go_simp
                        exact (sameStr_any _ _ _ w1 (hsl1.ext hE) (hs21.ext hE)).mono fun e w' ⟨he, hw⟩ => ⟨_, he, rg_done hE hw (rfl)⟩
                      simp only [Act.put, List.setIfInBounds_toArray, List.set_cons_zero, List.set_cons_succ]
                      refine rg_quiet rfl rfl rfl rfl ?_; intro K hK; go_big_quiet_op; go_big_quiet_on
                      refine rg_quiet rfl rfl rfl rfl ?_; intro K hK; go_big_quiet_op; go_big_quiet_on
                      refine rg_quiet rfl rfl rfl rfl ?_; intro K hK; go_big_quiet_op; go_big_quiet_on
                      refine rg_quiet rfl rfl rfl rfl ?_; intro K hK; go_big_quiet_op; go_big_quiet_on
                      refine rg_quiet rfl rfl rfl rfl ?_; intro K hK; go_big_quiet_op; go_big_quiet_on
                      refine rg_quiet rfl rfl rfl rfl ?_; intro K hK; go_big_quiet_op; go_big_quiet_on
                      refine rg_quiet rfl rfl rfl rfl ?_; intro K hK; go_big_quiet_op; go_big_quiet_on
                      refine rg_val [] rfl rfl rfl (by kernel_rfl) (fun w1 hE hf => ?_) ?_
                      · go_simp
                        exact (awake4_any w1).mono fun e w' ⟨he, hw⟩ => ⟨_, he, rg_done hE hw (rfl)⟩
                      simp only [Act.put, List.setIfInBounds_toArray, List.set_cons_zero, List.set_cons_succ]
                      refine rg_quiet rfl rfl rfl rfl ?_; intro K hK; go_big_quiet_op; go_big_quiet_on
                      refine rg_quiet rfl rfl rfl rfl ?_; intro K hK; go_big_quiet_op; go_big_quiet_on
                      refine rel_nil fun w22 hE22 _ => ?_
                      go_wp2
                      go_ret
                      exact ⟨rfl, hEw.trans (hE21.trans hE22)⟩
                    · have hqk' : decide ((q : Int) < (k : Int)) = false := by simp; omega
                      clear hqw
                      have hs20m : StrsIn w20 (.slice a20 q c20) (l.take q) := by
                        have h1 := hsl.pre
                        rwa [List.length_take, ← HN.out, Nat.min_eq_left hw2] at h1
                      have hs20k := hpre.out q hw2 w20 hEw
                      go_wp2_with ((guard_target =~ wpList _ _ _ (Oper.mk (some 147) _ _ _ _ _ :: _) _ _); go_must (refine wpList_text (by rfl) (.tmp 146) rfl hbC ?_); intro s147 hs147 hz147)
                      refine (rscan4_any s147 (by omega) w20).mono ?_
                      rw [hs147.out, HSC.out]
                      rintro e w21 ⟨v21, ⟨rfl, hE21⟩, hs21⟩
                      have hsl1 := hsl.ext hE21
                      rw [← HML.out] at hsl1
                      replace hs20m := hs20m.ext hE21
                      replace hs20k := hs20k.ext hE21
                      clear hs147 hz147
                      go_wp2_with fail
                      refine wp_region_tab 32 [(11, fun v _ => v = .bool true), (21, fun v _ => v = .bool true), (29, fun v _ => v = .bool true)] (by kernel_rfl) (by kernel_rfl) (by kernel_rfl) ⟨stays_eq _, stays_eq _, stays_eq _, trivial⟩ ?_
                      refine rg_quiet rfl rfl rfl rfl ?_; intro K hK; go_big_quiet_op; go_big_quiet_on
                      refine rg_quiet rfl rfl rfl rfl ?_; intro K hK; go_big_quiet_op; go_big_quiet_on
                      refine rg_quiet rfl rfl rfl rfl ?_; intro K hK; go_big_quiet_op; go_big_quiet_on
                      refine rg_quiet rfl rfl rfl rfl ?_; intro K hK; go_big_quiet_op; go_big_quiet_on
                      refine rg_quiet rfl rfl rfl rfl ?_; intro K hK; go_big_quiet_op; go_big_quiet_on
                      refine rg_quiet rfl rfl rfl rfl ?_; intro K hK; go_big_quiet_op; go_big_quiet_on
                      refine rg_quiet rfl rfl rfl rfl ?_; intro K hK; go_big_quiet_op; go_big_quiet_on
                      refine rg_quiet rfl rfl rfl rfl ?_; intro K hK; go_big_quiet_op; go_big_quiet_on
                      refine rg_quiet rfl rfl rfl rfl ?_; intro K hK; go_big_quiet_op; go_big_quiet_on
                      refine rg_quiet rfl rfl rfl rfl ?_; intro K hK; go_big_quiet_op; go_big_quiet_on
                      refine rg_quiet rfl rfl rfl rfl ?_; intro K hK; go_big_quiet_op; go_big_quiet_on
                      refine rg_val [] rfl rfl rfl (by kernel_rfl) (fun w1 hE hf => ?_) ?_
                      · go_simp
                        exact (sameStr_any _ _ (l.take q) w1 (hs20m.ext hE) (hs20k.ext hE)).mono fun e w' ⟨he, hw⟩ => ⟨_, he, rg_done hE hw (rfl)⟩
                      simp only [Act.put, List.setIfInBounds_toArray, List.set_cons_zero, List.set_cons_succ]
                      refine rg_quiet rfl rfl rfl rfl ?_; intro K hK; go_big_quiet_op; go_big_quiet_on
                      refine rg_quiet rfl rfl rfl rfl ?_; intro K hK; go_big_quiet_op; go_big_quiet_on
                      refine rg_quiet rfl rfl rfl rfl ?_; intro K hK; go_big_quiet_op; go_big_quiet_on
                      refine rg_quiet rfl rfl rfl rfl ?_; intro K hK; go_big_quiet_op; go_big_quiet_on
                      refine rg_quiet rfl rfl rfl rfl ?_; intro K hK; go_big_quiet_op; go_big_quiet_on
                      refine rg_quiet rfl rfl rfl rfl ?_; intro K hK; go_big_quiet_op; go_big_quiet_on
                      refine rg_quiet rfl rfl rfl rfl ?_; intro K hK; go_big_quiet_op; go_big_quiet_on
                      refine rg_quiet rfl rfl rfl rfl ?_; intro K hK; go_big_quiet_op; go_big_quiet_on
                      refine rg_quiet rfl rfl rfl rfl ?_; intro K hK; go_big_quiet_op; go_big_quiet_on
                      refine rg_val [] rfl rfl rfl (by kernel_rfl) (fun w1 hE hf => ?_) ?_
                      · go_simp
                        exact (sameStr_any _ _ _ w1 (hsl1.ext hE) (hs21.ext hE)).mono fun e w' ⟨he, hw⟩ => ⟨_, he, rg_done hE hw (rfl)⟩
                      simp only [Act.put, List.setIfInBounds_toArray, List.set_cons_zero, List.set_cons_succ]
                      refine rg_quiet rfl rfl rfl rfl ?_; intro K hK; go_big_quiet_op; go_big_quiet_on
                      refine rg_quiet rfl rfl rfl rfl ?_; intro K hK; go_big_quiet_op; go_big_quiet_on
                      refine rg_quiet rfl rfl rfl rfl ?_; intro K hK; go_big_quiet_op; go_big_quiet_on
                      refine rg_quiet rfl rfl rfl rfl ?_; intro K hK; go_big_quiet_op; go_big_quiet_on
                      refine rg_quiet rfl rfl rfl rfl ?_; intro K hK; go_big_quiet_op; go_big_quiet_on
                      refine rg_quiet rfl rfl rfl rfl ?_; intro K hK; go_big_quiet_op; go_big_quiet_on
                      refine rg_quiet rfl rfl rfl rfl ?_; intro K hK; go_big_quiet_op; go_big_quiet_on
                      refine rg_val [] rfl rfl rfl (by kernel_rfl) (fun w1 hE hf => ?_) ?_
                      · go_simp
                        exact (awake4_any w1).mono fun e w' ⟨he, hw⟩ => ⟨_, he, rg_done hE hw (rfl)⟩
                      simp only [Act.put, List.setIfInBounds_toArray, List.set_cons_zero, List.set_cons_succ]
                      refine rg_quiet rfl rfl rfl rfl ?_; intro K hK; go_big_quiet_op; go_big_quiet_on
                      refine rg_quiet rfl rfl rfl rfl ?_; intro K hK; go_big_quiet_op; go_big_quiet_on
                      refine rel_nil fun w22 hE22 _ => ?_
                      go_wp2
                      go_ret
                      exact ⟨rfl, hEw.trans (hE21.trans hE22)⟩
          · obtain rfl : k = j := hjk.symm
            by_cases hL0 : L.length = 0
            · obtain rfl : k = 0 := hLk.1 hL0
              go_wp2_with (first
                | (go_at_call 13; go_must (refine (sameStr_any _ _ _ _ hs5 hs13).mono ?_); rintro e w6 ⟨rfl, hE6⟩)
                | (go_at_call 8; go_must (refine (awake4_any _).mono ?_); rintro e w7 ⟨rfl, hE7⟩))
              go_ret
              exact ⟨rfl, hE05.trans (hE6.trans hE7)⟩
            · have hLn : ((L.length : Int) == 0) = false := by rw [beq_eq_false_iff_ne]; omega
              have hkn : ((k : Int) == 0) = false := by rw [beq_eq_false_iff_ne]; intro h; exact hL0 (hLk.2 (by omega))
              by_cases hb0 : by_ = 0
              · go_wp2_with (first
                  | (go_at_call 13; go_must (refine (sameStr_any _ _ _ _ hs5 hs13).mono ?_); rintro e w6 ⟨rfl, hE6⟩)
                  | (go_at_call 8; go_must (refine (awake4_any _).mono ?_); rintro e w7 ⟨rfl, hE7⟩))
                go_ret
                exact ⟨rfl, hE05.trans (hE6.trans hE7)⟩
              · have hbn : (by_ == 0) = false := by rw [beq_eq_false_iff_ne]; exact hb0
                obtain ⟨I, hI⟩ : ∃ I : Nat, (I : Int) = at_ % (L.length : Int) := ⟨(at_ % (L.length : Int)).toNat, by have := Int.emod_nonneg at_ (show (L.length : Int) ≠ 0 by omega); omega⟩
                have hIl : I < L.length := by have := Int.emod_lt_of_pos at_ (show (0 : Int) < (L.length : Int) by omega); omega
                have HI := Lib.hid hI.symm
                clear hI
                go_wp2_with (first
                  | (go_at_call 13; go_must (refine (sameStr_any _ _ _ _ hs5 hs13).mono ?_); rintro e w6 ⟨rfl, hE6⟩)
                  | (go_at_call 14; go_must (refine (place_any _ _ (by omega) (by omega) _).mono ?_); rintro e w7 ⟨rfl, rfl⟩; rw [HI.out])
                  | ((guard_target =~ wpList _ _ _ (Oper.mk (some 112) _ _ _ _ _ :: _) _ _); go_must (refine wpList_cloneB (by rfl) (.const (.slice none 0 0)) (.tmp 111) rfl rfl (by rfl) (hB.ext hE6) (by omega) ?_); intro v18 w18 ho18 hE18; go_must (obtain ⟨g18, c18, rfl, hc181, hc182⟩ := ownB_form ho18 (by omega); unfold maxLen at hc182; obtain ⟨x18, hx18⟩ : ∃ x : UInt8, L[I]? = some x := ⟨_, List.getElem?_eq_getElem hIl⟩; have hc18 := World.ownsRow.cellAt ho18 I (by omega); have hf18 := World.ownsRow.frozenAt ho18 I; rw [show (bcells L)[I]? = some (.int .u8 (x18.toNat : Int)) from (by simp [bcells, hx18])] at hc18)))
                obtain ⟨X, hX⟩ : ∃ X, X = bits BinOp.xor IntKind.u8 (x18.toNat : Int) by_ := ⟨_, rfl⟩
                have hX1 : 0 ≤ X ∧ X < 256 := by rw [hX]; exact xor_u8 _ _
                rw [← hX]
                clear hX hc18 hf18
                obtain ⟨hs18, hg18⟩ := World.ownsRow.stored ho18 I (.int .u8 X)
                have hgw := (ho18.lt g18 rfl).1
                obtain ⟨C, hC⟩ : ∃ C, C = L.set I (UInt8.ofNat X.toNat) := ⟨_, rfl⟩
                have hCl : C.length = L.length := by rw [hC, List.length_set]
                have hbC : BytesIn (w18.setCell ⟨g18, I, none⟩ (.int .u8 X)) (.slice (some ⟨g18, 0, none⟩) L.length c18) C := by
                  have e : (bcells L).set I (.int .u8 X) = bcells C := by
                    rw [hC]
                    unfold bcells
                    rw [List.map_set, byte_of hX1.1 hX1.2]
                  rw [e] at hs18
                  have h1 := SliceIn.of_owns hs18
                  rw [← hCl] at h1 ⊢
                  exact h1
                have hE19 : Ext w6 (w18.setCell ⟨g18, I, none⟩ (.int .u8 X)) := hE18.grown hg18 (fun q hq => by cases hq; exact hgw)
                generalize w18.setCell ⟨g18, I, none⟩ (.int .u8 X) = w19 at hbC hE19 ⊢
                obtain ⟨r, g, hsc, hge⟩ := turned (l := l) (C := C) (i := I) (by rw [hC, xor_take, HL.out])
                have hgl := (scan_le C _ 0 (Nat.le_refl _) (Nat.zero_le _)).1
                rw [hsc] at hgl
                simp only at hgl
                refine (scan_any _ C (by omega) w19 hbC).mono ?_
                rw [hsc]
                rintro e w20 ⟨v20, ⟨rfl, hE20⟩, hs20⟩
                have HSC := Lib.hid hsc
                have hw2 := wholes_le I l 0
                have HW2 : Hid (∀ q, q ≤ wholes 0 I l → (q < wholes 0 I l ↔ q < l.length ∧ eN l (q + 1) ≤ I)) := Lib.hid fun q hq => by
                  have := wholes_lt I l 0 q hq
                  rwa [Nat.zero_add] at this
                rw [← HN.out] at hw2
                change eN l (wholes 0 I l) ≤ g at hge
                generalize wholes 0 I l = wm at hs20 hw2 HW2 hge HSC ⊢
                have hE620 := hE19.trans hE20
                have hEw := (hE05.trans hE6).trans hE620
                have hE520 := hE6.trans hE620
                clear hsc hs18 hg18 ho18 hC hX1
                have hsl := hs20
                obtain ⟨a20, c20, rfl, hc20, hcm20, _⟩ := hs20.get
                unfold maxLen at hcm20
                obtain ⟨ML, hML⟩ : ∃ ML, ML = (l.take wm ++ r).length := ⟨_, rfl⟩
                have hMw : wm ≤ ML := by rw [hML, List.length_append, List.length_take, ← HN.out]; omega
                rw [← hML] at hc20 ⊢
                have HML := Lib.hid hML
                clear hML hs20 hs13 hs5
                try clear hce1
                replace hbC := hbC.ext hE20
                go_wp2_with fail
                go_loop [15, 16] (fun nv ev => ∃ q : Nat, nv = .int .i64 (q : Int) ∧ ev = .int .i64 (eN l q : Int) ∧ q ≤ wm) (fun nv _ => wm - (intOf nv).toNat)
                case atStart => exact ⟨0, rfl, rfl, Nat.zero_le _⟩
                case round =>
                  obtain ⟨q, rfl, rfl, hq⟩ := hrel
                  by_cases hqw : q < wm
                  · have h1 := (HW2.out q hq).1 hqw
                    have hqk : q < k := by omega
                    obtain ⟨b3, o3, e3, hce3⟩ := HCE.out q (.int .i64 (eN l (q + 1) : Int)) (by rw [kcells_get, endsL_get hqk]; rfl)
                    cases e3
                    replace hce3 := hE520.cell hce3
                    have h2 := h1.2
                    obtain ⟨ev2, hev2⟩ : ∃ ev, ev = eN l (q + 1) := ⟨_, rfl⟩
                    rw [← hev2] at hce3 h2
                    have HEV2 := Lib.hid hev2
                    clear hev2 h1
                    go_wp2
                    go_round
                    case rel => exact ⟨q + 1, by go_num, by rw [HEV2.out], by omega⟩
                    case measure => simp [intOf]; omega
                  · obtain rfl : q = wm := by omega
                    by_cases hqk : q < k
                    · obtain ⟨b3, o3, e3, hce3⟩ := HCE.out q (.int .i64 (eN l (q + 1) : Int)) (by rw [kcells_get, endsL_get hqk]; rfl)
                      cases e3
                      replace hce3 := hE520.cell hce3
                      have hno : ¬ eN l (q + 1) ≤ I := fun h => by
                        have := (HW2.out q hq).2 ⟨by rw [← HN.out]; exact hqk, h⟩
                        omega
                      obtain ⟨ev2, hev2⟩ : ∃ ev, ev = eN l (q + 1) := ⟨_, rfl⟩
                      rw [← hev2] at hce3 hno
                      have hqk' : decide ((q : Int) < (k : Int)) = true := by simp; omega
                      clear hev2 hqw
                      have hs20m : StrsIn w20 (.slice a20 q c20) (l.take q) := by
                        have h1 := hsl.pre
                        rwa [List.length_take, ← HN.out, Nat.min_eq_left hw2] at h1
                      have hs20k := hpre.out q hw2 w20 hEw
                      go_wp2_with ((guard_target =~ wpList _ _ _ (Oper.mk (some 147) _ _ _ _ _ :: _) _ _); go_must (refine wpList_text (by rfl) (.tmp 146) rfl hbC ?_); intro s147 hs147 hz147)
                      refine (rscan4_any s147 (by omega) w20).mono ?_
                      rw [hs147.out, HSC.out]
                      rintro e w21 ⟨v21, ⟨rfl, hE21⟩, hs21⟩
                      have hsl1 := hsl.ext hE21
                      rw [← HML.out] at hsl1
                      replace hs20m := hs20m.ext hE21
                      replace hs20k := hs20k.ext hE21
                      clear hs147 hz147
                      go_wp2_with fail
                      refine wp_region_tab 32 [(11, fun v _ => v = .bool true), (21, fun v _ => v = .bool true), (29, fun v _ => v = .bool true)] (by kernel_rfl) (by kernel_rfl) (by kernel_rfl) ⟨stays_eq _, stays_eq _, stays_eq _, trivial⟩ ?_
                      refine rg_quiet rfl rfl rfl rfl ?_; intro K hK; go_big_quiet_op; go_big_quiet_on
                      refine rg_quiet rfl rfl rfl rfl ?_; intro K hK; go_big_quiet_op; go_big_quiet_on
                      refine rg_quiet rfl rfl rfl rfl ?_; intro K hK; go_big_quiet_op; go_big_quiet_on
                      refine rg_quiet rfl rfl rfl rfl ?_; intro K hK; go_big_quiet_op; go_big_quiet_on
                      refine rg_quiet rfl rfl rfl rfl ?_; intro K hK; go_big_quiet_op; go_big_quiet_on
                      refine rg_quiet rfl rfl rfl rfl ?_; intro K hK; go_big_quiet_op; go_big_quiet_on
                      refine rg_quiet rfl rfl rfl rfl ?_; intro K hK; go_big_quiet_op; go_big_quiet_on
                      refine rg_quiet rfl rfl rfl rfl ?_; intro K hK; go_big_quiet_op; go_big_quiet_on
                      refine rg_quiet rfl rfl rfl rfl ?_; intro K hK; go_big_quiet_op; go_big_quiet_on
                      refine rg_quiet rfl rfl rfl rfl ?_; intro K hK; go_big_quiet_op; go_big_quiet_on
                      refine rg_quiet rfl rfl rfl rfl ?_; intro K hK; go_big_quiet_op; go_big_quiet_on
                      refine rg_val [] rfl rfl rfl (by kernel_rfl) (fun w1 hE hf => ?_) ?_
                      · go_simp
                        exact (sameStr_any _ _ (l.take q) w1 (hs20m.ext hE) (hs20k.ext hE)).mono fun e w' ⟨he, hw⟩ => ⟨_, he, rg_done hE hw (rfl)⟩
                      simp only [Act.put, List.setIfInBounds_toArray, List.set_cons_zero, List.set_cons_succ]
                      refine rg_quiet rfl rfl rfl rfl ?_; intro K hK; go_big_quiet_op; go_big_quiet_on
                      refine rg_quiet rfl rfl rfl rfl ?_; intro K hK; go_big_quiet_op; go_big_quiet_on
                      refine rg_quiet rfl rfl rfl rfl ?_; intro K hK; go_big_quiet_op; go_big_quiet_on
                      refine rg_quiet rfl rfl rfl rfl ?_; intro K hK; go_big_quiet_op; go_big_quiet_on
                      refine rg_quiet rfl rfl rfl rfl ?_; intro K hK; go_big_quiet_op; go_big_quiet_on
                      refine rg_quiet rfl rfl rfl rfl ?_; intro K hK; go_big_quiet_op; go_big_quiet_on
                      refine rg_quiet rfl rfl rfl rfl ?_; intro K hK; go_big_quiet_op; go_big_quiet_on
                      refine rg_quiet rfl rfl rfl rfl ?_; intro K hK; go_big_quiet_op; go_big_quiet_on
                      refine rg_quiet rfl rfl rfl rfl ?_; intro K hK; go_big_quiet_op; go_big_quiet_on
                      refine rg_val [] rfl rfl rfl (by kernel_rfl) (fun w1 hE hf => ?_) ?_
                      · go_simp
                        exact (sameStr_any _ _ _ w1 (hsl1.ext hE) (hs21.ext hE)).mono fun e w' ⟨he, hw⟩ => ⟨_, he, rg_done hE hw (rfl)⟩
                      simp only [Act.put, List.setIfInBounds_toArray, List.set_cons_zero, List.set_cons_succ]
                      refine rg_quiet rfl rfl rfl rfl ?_; intro K hK; go_big_quiet_op; go_big_quiet_on
                      refine rg_quiet rfl rfl rfl rfl ?_; intro K hK; go_big_quiet_op; go_big_quiet_on
                      refine rg_quiet rfl rfl rfl rfl ?_; intro K hK; go_big_quiet_op; go_big_quiet_on
                      refine rg_quiet rfl rfl rfl rfl ?_; intro K hK; go_big_quiet_op; go_big_quiet_on
                      refine rg_quiet rfl rfl rfl rfl ?_; intro K hK; go_big_quiet_op; go_big_quiet_on
                      refine rg_quiet rfl rfl rfl rfl ?_; intro K hK; go_big_quiet_op; go_big_quiet_on
                      refine rg_quiet rfl rfl rfl rfl ?_; intro K hK; go_big_quiet_op; go_big_quiet_on
                      refine rg_val [] rfl rfl rfl (by kernel_rfl) (fun w1 hE hf => ?_) ?_
                      · go_simp
                        exact (awake4_any w1).mono fun e w' ⟨he, hw⟩ => ⟨_, he, rg_done hE hw (rfl)⟩
                      simp only [Act.put, List.setIfInBounds_toArray, List.set_cons_zero, List.set_cons_succ]
                      refine rg_quiet rfl rfl rfl rfl ?_; intro K hK; go_big_quiet_op; go_big_quiet_on
                      refine rg_quiet rfl rfl rfl rfl ?_; intro K hK; go_big_quiet_op; go_big_quiet_on
                      refine rel_nil fun w22 hE22 _ => ?_
                      go_wp2
                      go_ret
                      exact ⟨rfl, hEw.trans (hE21.trans hE22)⟩
                    · have hqk' : decide ((q : Int) < (k : Int)) = false := by simp; omega
                      clear hqw
                      have hs20m : StrsIn w20 (.slice a20 q c20) (l.take q) := by
                        have h1 := hsl.pre
                        rwa [List.length_take, ← HN.out, Nat.min_eq_left hw2] at h1
                      have hs20k := hpre.out q hw2 w20 hEw
                      go_wp2_with ((guard_target =~ wpList _ _ _ (Oper.mk (some 147) _ _ _ _ _ :: _) _ _); go_must (refine wpList_text (by rfl) (.tmp 146) rfl hbC ?_); intro s147 hs147 hz147)
                      refine (rscan4_any s147 (by omega) w20).mono ?_
                      rw [hs147.out, HSC.out]
                      rintro e w21 ⟨v21, ⟨rfl, hE21⟩, hs21⟩
                      have hsl1 := hsl.ext hE21
                      rw [← HML.out] at hsl1
                      replace hs20m := hs20m.ext hE21
                      replace hs20k := hs20k.ext hE21
                      clear hs147 hz147
                      go_wp2_with fail
                      refine wp_region_tab 32 [(11, fun v _ => v = .bool true), (21, fun v _ => v = .bool true), (29, fun v _ => v = .bool true)] (by kernel_rfl) (by kernel_rfl) (by kernel_rfl) ⟨stays_eq _, stays_eq _, stays_eq _, trivial⟩ ?_
                      refine rg_quiet rfl rfl rfl rfl ?_; intro K hK; go_big_quiet_op; go_big_quiet_on
                      refine rg_quiet rfl rfl rfl rfl ?_; intro K hK; go_big_quiet_op; go_big_quiet_on
                      refine rg_quiet rfl rfl rfl rfl ?_; intro K hK; go_big_quiet_op; go_big_quiet_on
                      refine rg_quiet rfl rfl rfl rfl ?_; intro K hK; go_big_quiet_op; go_big_quiet_on
                      refine rg_quiet rfl rfl rfl rfl ?_; intro K hK; go_big_quiet_op; go_big_quiet_on
                      refine rg_quiet rfl rfl rfl rfl ?_; intro K hK; go_big_quiet_op; go_big_quiet_on
                      refine rg_quiet rfl rfl rfl rfl ?_; intro K hK; go_big_quiet_op; go_big_quiet_on
                      refine rg_quiet rfl rfl rfl rfl ?_; intro K hK; go_big_quiet_op; go_big_quiet_on
                      refine rg_quiet rfl rfl rfl rfl ?_; intro K hK; go_big_quiet_op; go_big_quiet_on
                      refine rg_quiet rfl rfl rfl rfl ?_; intro K hK; go_big_quiet_op; go_big_quiet_on
                      refine rg_quiet rfl rfl rfl rfl ?_; intro K hK; go_big_quiet_op; go_big_quiet_on
                      refine rg_val [] rfl rfl rfl (by kernel_rfl) (fun w1 hE hf => ?_) ?_
                      · go_simp
                        exact (sameStr_any _ _ (l.take q) w1 (hs20m.ext hE) (hs20k.ext hE)).mono fun e w' ⟨he, hw⟩ => ⟨_, he, rg_done hE hw (rfl)⟩
                      simp only [Act.put, List.setIfInBounds_toArray, List.set_cons_zero, List.set_cons_succ]
                      refine rg_quiet rfl rfl rfl rfl ?_; intro K hK; go_big_quiet_op; go_big_quiet_on
                      refine rg_quiet rfl rfl rfl rfl ?_; intro K hK; go_big_quiet_op; go_big_quiet_on
                      refine rg_quiet rfl rfl rfl rfl ?_; intro K hK; go_big_quiet_op; go_big_quiet_on
                      refine rg_quiet rfl rfl rfl rfl ?_; intro K hK; go_big_quiet_op; go_big_quiet_on
                      refine rg_quiet rfl rfl rfl rfl ?_; intro K hK; go_big_quiet_op; go_big_quiet_on
                      refine rg_quiet rfl rfl rfl rfl ?_; intro K hK; go_big_quiet_op; go_big_quiet_on
                      refine rg_quiet rfl rfl rfl rfl ?_; intro K hK; go_big_quiet_op; go_big_quiet_on
                      refine rg_quiet rfl rfl rfl rfl ?_; intro K hK; go_big_quiet_op; go_big_quiet_on
                      refine rg_quiet rfl rfl rfl rfl ?_; intro K hK; go_big_quiet_op; go_big_quiet_on
                      refine rg_val [] rfl rfl rfl (by kernel_rfl) (fun w1 hE hf => ?_) ?_
                      · go_simp
                        exact (sameStr_any _ _ _ w1 (hsl1.ext hE) (hs21.ext hE)).mono fun e w' ⟨he, hw⟩ => ⟨_, he, rg_done hE hw (rfl)⟩
                      simp only [Act.put, List.setIfInBounds_toArray, List.set_cons_zero, List.set_cons_succ]
                      refine rg_quiet rfl rfl rfl rfl ?_; intro K hK; go_big_quiet_op; go_big_quiet_on
                      refine rg_quiet rfl rfl rfl rfl ?_; intro K hK; go_big_quiet_op; go_big_quiet_on
                      refine rg_quiet rfl rfl rfl rfl ?_; intro K hK; go_big_quiet_op; go_big_quiet_on
                      refine rg_quiet rfl rfl rfl rfl ?_; intro K hK; go_big_quiet_op; go_big_quiet_on
                      refine rg_quiet rfl rfl rfl rfl ?_; intro K hK; go_big_quiet_op; go_big_quiet_on
                      refine rg_quiet rfl rfl rfl rfl ?_; intro K hK; go_big_quiet_op; go_big_quiet_on
                      refine rg_quiet rfl rfl rfl rfl ?_; intro K hK; go_big_quiet_op; go_big_quiet_on
                      refine rg_val [] rfl rfl rfl (by kernel_rfl) (fun w1 hE hf => ?_) ?_
                      · go_simp
                        exact (awake4_any w1).mono fun e w' ⟨he, hw⟩ => ⟨_, he, rg_done hE hw (rfl)⟩
                      simp only [Act.put, List.setIfInBounds_toArray, List.set_cons_zero, List.set_cons_succ]
                      refine rg_quiet rfl rfl rfl rfl ?_; intro K hK; go_big_quiet_op; go_big_quiet_on
                      refine rg_quiet rfl rfl rfl rfl ?_; intro K hK; go_big_quiet_op; go_big_quiet_on
                      refine rel_nil fun w22 hE22 _ => ?_
                      go_wp2
                      go_ret
                      exact ⟨rfl, hEw.trans (hE21.trans hE22)⟩
theorem walk_segmentTorn (v0 : Value) (cut at_ by_ : Int) (w : World) (hin : ∃ l : List (List UInt8), StrsIn w v0 l ∧ ∀ x ∈ l, x.length ≤ maxLen) (_ : (Lit.int .i64 cut).wf = true) (_ : (Lit.int .i64 at_).wf = true) (hb : (Lit.int .u8 by_).wf = true) :
    Calls Tryd.prog 4 #[v0, .int .i64 cut, .int .i64 at_, .int .u8 by_] w fun e w' => e = .returned (.bool true) ∧ Ext w w' := by
  obtain ⟨l, h1, h2⟩ := hin
  exact law_segmentTorn v0 l cut at_ by_ (wf_u8 hb) h2 w h1
end Go.Proofs.YthhhbmeceilkhaaDoor
