/- pack.Batch of a small batch that may be. -/
import Derived.Test.YtmjhdfifbjdgpaaDoorS5
import Derived.Test.YtmjhdfifbjdgpaaDoorS1
import Derived.Test.YtmjhdfifbjdgpaaDoorS3
import Derived.Deep.CutBlock
import Derived.Deep.CutRange
set_option linter.unusedSimpArgs false
set_option linter.unusedVariables false
namespace Go.Proofs.YtmjhdfifbjdgpaaDoor
open Go Go.RowKit
attribute [local go_sem] yields yUpon

/-- Bytes of one's own, so many at most. -/
def Few (x : World) (S : Nat) (v : Value) (n : Nat) : Prop := ∃ L, OwnB x S v L ∧ L.length ≤ n
theorem Few.ext {x y : World} {S n : Nat} {v : Value} (hE : Ext x y) (h : Few x S v n) : Few y S v n := by obtain ⟨L, h1, h2⟩ := h; exact ⟨L, h1.ext hE, h2⟩
theorem Few.more {x : World} {S n n' : Nat} {v : Value} (h : Few x S v n) (hn : n ≤ n') : Few x S v n' := by obtain ⟨L, h1, h2⟩ := h; exact ⟨L, h1, Nat.le_trans h2 hn⟩
theorem Few.shape {x : World} {S n : Nat} {v : Value} (h : Few x S v n) : ∃ a k c, v = .slice a k c ∧ k ≤ n := by
  obtain ⟨L, h1, h2⟩ := h
  obtain ⟨a, c, e⟩ := ownB_shape h1
  exact ⟨a, _, c, e, h2⟩
theorem whole0_length (k : ByteArray) (g : Nat) (hk : k.size ≤ 100) (hg : g ≤ 1099511627776) : (whole0 k g).length ≤ 127 := by
  have l1 := num_length (x := k.size) (by omega)
  have l2 := num_length (x := g) (by omega)
  have l3 := num_length (x := 0) (by omega)
  have lk : k.data.toList.length = k.size := by rw [Array.length_toList]; rfl
  unfold whole0
  simp only [List.length_append]
  omega
theorem few_number {S : Nat} {v : Value} {n : Nat} (X : Int) (h0 : 0 ≤ X) (h1 : X ≤ 9223372036854775807) (w : World) (hS : S ≤ w.heap.size) (h : Few w S v n) (hn : n ≤ 1000000) :
    Calls Tryd.prog 32 #[v, .int .i64 X] w fun e w' => ∃ v', e = .returned v' ∧ Few w' S v' (n + 9) ∧ Ext w w' := by
  obtain ⟨L, ho, hl⟩ := h
  refine (pk_number v L X h0 h1 w ho.bytes (by omega)).mono ?_
  rintro e w' ⟨v', rfl, ho', hE⟩
  exact ⟨v', rfl, ⟨_, ho'.base hS, by have := num_length (x := X.toNat) (by omega); rw [List.length_append]; omega⟩, hE⟩
theorem few_text {S : Nat} {v : Value} {n : Nat} (s : ByteArray) (hs : s.size ≤ 10000) (w : World) (hS : S ≤ w.heap.size) (h : Few w S v n) (hn : n ≤ 1000000) :
    Calls Tryd.prog 33 #[v, .string s] w fun e w' => ∃ v', e = .returned v' ∧ Few w' S v' (n + 9 + s.size) ∧ Ext w w' := by
  obtain ⟨L, ho, hl⟩ := h
  refine (pk_text v L s (by omega) w ho.bytes (by omega)).mono ?_
  rintro e w' ⟨v', rfl, ho', hE⟩
  have lk : s.data.toList.length = s.size := by rw [Array.length_toList]; rfl
  exact ⟨v', rfl, ⟨_, ho'.base hS, by have := num_length (x := s.size) (by omega); rw [List.length_append, List.length_append]; omega⟩, hE⟩

set_option maxRecDepth 100000 in
set_option maxHeartbeats 8000000 in
theorem batch_ok (vm va vd : Value) (M : List Mu) (A : List Nt) (D : List Int) (w : World) (hT : TabU w) (hM : MusIn w vm M) (hA : NtsIn w va A) (hD : IntsIn w vd .i64 D) (hMb : ∀ x ∈ M, x.table.size ≤ 100 ∧ x.key.size ≤ 100 ∧ x.gone ≤ 1099511627776 ∧ 0 ≤ x.gone) (hAb : ∀ x ∈ A, x.body.size ≤ 1000 ∧ 0 ≤ x.id ∧ x.id ≤ 1099511627776) (hDb : ∀ x ∈ D, 0 ≤ x ∧ x ≤ 1099511627776) (hM1 : M.length ≤ 10) (hA1 : A.length ≤ 10) (hD1 : D.length ≤ 10) (hc : cbB M A D = true) :
    Calls Tryd.prog 10 #[.agg #[vm, va, vd]] w fun e w' => ∃ v', e = .returned (.tuple #[v', .int .i64 0]) ∧ Few w' w.heap.size v' 100000 ∧ Ext w w' := by
  have hE0 := (Ext.refl w).alloc (.cells #[vm, va, vd] 34)
  have hbx := BoxAt.made w #[vm, va, vd] 34
  obtain ⟨am, cm, rfl, hcm, hcmm, hgm⟩ := hM.get
  obtain ⟨aa, ca, rfl, hca, hcma, hga⟩ := hA.get
  have hD' := hD
  obtain ⟨ad, cd, rfl, hcd, hcmd, _, hgd⟩ := hD'
  unfold maxLen at hcmd
  have HGM := Lib.hid hgm
  have HGA := Lib.hid hga
  have HGD := Lib.hid hgd
  have HC := Lib.hid hc
  have HMB := Lib.hid hMb
  have HAB := Lib.hid hAb
  have HDB := Lib.hid hDb
  clear hgm hga hgd hc hMb hAb hDb
  have HCB := fun (w1 : World) (hE : Ext w w1) => Lib.hid (cb_any _ _ _ M A D w1 (hT.ext hE) (hM.ext hE) (hA.ext hE) (hD.ext hE) (fun x hx => let ⟨p, q, r, _⟩ := HMB.out x hx; ⟨p, q, r⟩) (fun x hx => by have := (HAB.out x hx).1; omega))
  clear hT hM hA hD
  obtain ⟨mn, hmn⟩ : ∃ n, n = M.length := ⟨_, rfl⟩
  obtain ⟨an, han⟩ : ∃ n, n = A.length := ⟨_, rfl⟩
  obtain ⟨dn, hdn⟩ : ∃ n, n = D.length := ⟨_, rfl⟩
  rw [← hmn] at hcm hM1 hbx hE0 ⊢
  rw [← han] at hca hA1 hbx hE0 ⊢
  rw [← hdn] at hcd hD1 hbx hE0 ⊢
  rw [← hmn, ← han, ← hdn] at HCB
  have HMN := Lib.hid hmn
  have HAN := Lib.hid han
  have HDN := Lib.hid hdn
  clear hmn han hdn
  go_enter Tryd.func10, Tryd.ntmps10
  go_wp2_with (first
    | (go_at_call 11; go_must (refine (HCB _ hE0).out.mono ?_); rintro e w1 ⟨rfl, hE1⟩; rw [HC.out]; have hb1 := hbx.ext hE1; have c0 : w1.cell? ⟨w.heap.size, 0, none⟩ = some (.slice am mn cm) := hb1.cell 0)
    | (go_at_call 32; go_must (refine (few_number (S := w.heap.size) (n := 0) (mn : Int) (by omega) (by omega) w1 (hE0.trans hE1).le ⟨[], World.ownsRow_nil _ _ _ _, by simp⟩ (by omega)).mono ?_); rintro e w2 ⟨v2, rfl, ho2, hE2⟩; have hb2 := hb1.ext hE2; have d0 : w2.cell? ⟨w.heap.size, 0, none⟩ = some (.slice am mn cm) := hb2.cell 0))
  have hEw2 := (hE0.trans hE1).trans hE2
  clear c0 d0
  go_loopw [4, 21] (fun o i wr => ∃ k : Nat, k ≤ mn ∧ i = .int .i64 (k : Int) ∧ Few wr w.heap.size o (9 + k * 1000) ∧ Ext w2 wr) (fun _ i _ => mn - (intOf i).toNat)
  case atStart => exact ⟨0, Nat.zero_le _, rfl, by simpa using ho2, Ext.refl w2⟩
  case round =>
    rename_i o0 _ _
    obtain ⟨k, hk, rfl, hF, hE⟩ := hrel
    have hEw := hEw2.trans hE
    by_cases hlt : k < mn
    · have hkF : k < M.length := by rw [← HMN.out]; exact hlt
      obtain ⟨b, o, rfl, g0, g1, g2, g3⟩ := HGM.out k hkF
      replace g0 := hEw.cell g0
      replace g1 := hEw.cell g1
      replace g2 := hEw.cell g2
      replace g3 := hEw.cell g3
      obtain ⟨q1, q2, q3, q4⟩ := HMB.out _ (List.getElem_mem hkF)
      obtain ⟨t, ht⟩ : ∃ t, t = (M[k]).table := ⟨_, rfl⟩
      obtain ⟨ky, hky⟩ : ∃ t, t = (M[k]).key := ⟨_, rfl⟩
      obtain ⟨gn, hgn⟩ : ∃ t : Nat, (t : Int) = (M[k]).gone := ⟨(M[k]).gone.toNat, by omega⟩
      rw [← ht] at g0 q1
      rw [← hky] at g1 q2
      rw [← hgn] at g2 q3
      clear ht hky hgn q4
      have hEb := (Ext.refl wr).alloc (.cells #[.string t, .string ky, .int .i64 (gn : Int), .slice none 0 0] 27)
      have hbm := BoxAt.made wr #[.string t, .string ky, .int .i64 (gn : Int), .slice none 0 0] 27
      have hFb := hF.ext hEb
      have hEwb := hEw.trans hEb
      have hwl := whole0_length ky gn q2 (by omega)
      have hws : (str (whole0 ky gn)).size = (whole0 ky gn).length := str_size _
      obtain ⟨Wh, hWh⟩ : ∃ L, L = whole0 ky gn := ⟨_, rfl⟩
      have HWH := Lib.hid hWh
      rw [← hWh] at hwl hws
      have t1 : decide ((k : Int) < (mn : Int)) = true := by simp; omega
      clear hWh
      go_wp2_with fail
      refine wp_region_tab 10 [(3, fun v x => Few x w.heap.size v (9 + k * 1000 + 9 + t.size)), (6, fun v x => OwnB x w.heap.size v Wh), (7, fun v _ => v = .string (str Wh)), (8, fun v x => Few x w.heap.size v (9 + k * 1000 + 9 + t.size + 9 + Wh.length))] (by kernel_rfl) (by kernel_rfl) (by kernel_rfl) ⟨fun _ _ _ hE h => Few.ext hE h, fun _ _ _ hE h => OwnB.ext h hE, stays_eq _, fun _ _ _ hE h => Few.ext hE h, trivial⟩ ?_
      have x0 := held (show (wr.alloc (.cells #[.string t, .string ky, .int .i64 (gn : Int), .slice none 0 0] 27)).cell? ⟨wr.heap.size, 0, none⟩ = some (.string t) from hbm.cell 0)
      have x1 := held (show (wr.alloc (.cells #[.string t, .string ky, .int .i64 (gn : Int), .slice none 0 0] 27)).cell? ⟨wr.heap.size, 1, none⟩ = some (.string ky) from hbm.cell 1)
      have x2 := held (show (wr.alloc (.cells #[.string t, .string ky, .int .i64 (gn : Int), .slice none 0 0] 27)).cell? ⟨wr.heap.size, 2, none⟩ = some (.int .i64 (gn : Int)) from hbm.cell 2)
      have x3 := held (show (wr.alloc (.cells #[.string t, .string ky, .int .i64 (gn : Int), .slice none 0 0] 27)).cell? ⟨wr.heap.size, 3, none⟩ = some (.slice none 0 0) from hbm.cell 3)
      refine rg_quiet rfl rfl rfl rfl ?_; intro K hK; go_big_quiet_op; go_big_quiet_on
      refine rg_quiet rfl rfl rfl rfl ?_; intro K hK; go_big_quiet_op; go_big_quiet_on
      refine rg_quiet rfl rfl rfl rfl ?_; intro K hK; go_big_quiet_op; go_big_quiet_on
      refine rg_fact [] rfl rfl rfl (by kernel_rfl) (fun y hE hf => ?_) (fun v3 y3 hE3 hG3 h3 => ?_)
      · go_simp
        refine (few_text (S := w.heap.size) (n := 9 + k * 1000) t (by omega) y (hEwb.trans hE).le (hFb.ext hE) (by omega)).mono ?_
        rintro e w' ⟨v', rfl, ho, hw⟩
        exact ⟨_, rfl, rg_doneR hE hw ho⟩
      clear hE3 hG3 h3
      simp only [Act.put, List.setIfInBounds_toArray, List.set_cons_zero, List.set_cons_succ]
      refine rg_quiet rfl rfl rfl rfl ?_; intro K hK; go_big_quiet_op; go_big_quiet_on
      refine rg_quiet rfl rfl rfl rfl ?_; intro K hK; go_big_quiet_op; go_big_quiet_on
      refine rg_fact [] rfl rfl rfl (by kernel_rfl) (fun y hE hf => ?_) (fun v6 y6 hE6 hG6 h6 => ?_)
      · go_simp
        refine (whole0_any ky gn q2 (by omega) y).mono ?_
        rintro e w' ⟨v', rfl, ho, hw⟩
        exact ⟨_, rfl, rg_doneR hE hw (by rw [HWH.out]; exact ho.base (hEwb.trans hE).le)⟩
      obtain ⟨a6, n6, rfl⟩ := ownB_shape h6
      clear hE6 hG6 h6
      simp only [Act.put, List.setIfInBounds_toArray, List.set_cons_zero, List.set_cons_succ]
      refine rg_text [6] 35 9 5 (.tmp 31) Wh rfl rfl rfl rfl (by kernel_rfl) und_bytes und_u8 und_string (fun y hE hf => OwnB.bytes ((hf 6 (by simp)).2 rfl)) ?_
      simp only [Act.put, List.setIfInBounds_toArray, List.set_cons_zero, List.set_cons_succ]
      refine rg_fact [3] rfl rfl rfl (by kernel_rfl) (fun y hE hf => ?_) (fun v8 y8 hE8 hG8 h8 => ?_)
      · have h3 := (hf 3 (by simp)).1.2 rfl
        go_simp
        refine (few_text (S := w.heap.size) (str Wh) (by omega) y (hEwb.trans hE).le h3 (by omega)).mono ?_
        rintro e w' ⟨v', rfl, ho, hw⟩
        rw [hws] at ho
        exact ⟨_, rfl, rg_doneR hE hw ho⟩
      clear hE8 hG8 h8
      simp only [Act.put, List.setIfInBounds_toArray, List.set_cons_zero, List.set_cons_succ]
      refine rg_quiet rfl rfl rfl rfl ?_; intro K hK; go_big_quiet_op; go_big_quiet_on
      refine rel_nil fun w5 hE5 hG => ?_
      have h8 := (hG 8).2 rfl
      clear x0 x1 x2 x3 hG
      go_wp2_with fail
      go_roundw
      case rel =>
        refine ⟨k + 1, by omega, by go_num, ?_, (hE.trans hEb).trans hE5⟩
        obtain ⟨L, hL1, hL2⟩ := h8
        exact ⟨L, hL1, by omega⟩
      case measure => simp [intOf]; omega
    · obtain rfl : k = mn := by omega
      have hb3 := hb2.ext hE
      have c1 : wr.cell? ⟨w.heap.size, 1, none⟩ = some (.slice aa an ca) := hb3.cell 1
      go_wp2_with (go_at_call 32; go_must (refine (few_number (S := w.heap.size) (n := 9 + k * 1000) (an : Int) (by omega) (by omega) wr hEw.le hF (by omega)).mono ?_); rintro e w3 ⟨v3, rfl, ho3, hE3⟩; have hb4 := hb3.ext hE3; have d1 : w3.cell? ⟨w.heap.size, 1, none⟩ = some (.slice aa an ca) := hb4.cell 1)
      have hEw3 := hEw.trans hE3
      have ho3' : Few w3 w.heap.size v3 20000 := by obtain ⟨L, hL1, hL2⟩ := ho3; exact ⟨L, hL1, by omega⟩
      clear c1 d1 ho3
      go_loopw [4, 43] (fun o i wr => ∃ k : Nat, k ≤ an ∧ i = .int .i64 (k : Int) ∧ Few wr w.heap.size o (20000 + k * 2000) ∧ Ext w3 wr) (fun _ i _ => an - (intOf i).toNat)
      case atStart => exact ⟨0, Nat.zero_le _, rfl, by simpa using ho3', Ext.refl w3⟩
      case round =>
        obtain ⟨j, hj, rfl, hF2, hE4⟩ := hrel
        have hEv := hEw3.trans hE4
        by_cases hlt2 : j < an
        · have hkF : j < A.length := by rw [← HAN.out]; exact hlt2
          obtain ⟨b, o, rfl, g0, g1⟩ := HGA.out j hkF
          replace g0 := hEv.cell g0
          replace g1 := hEv.cell g1
          obtain ⟨q1, q2, q3⟩ := HAB.out _ (List.getElem_mem hkF)
          obtain ⟨x, hx⟩ : ∃ t, t = (A[j]).id := ⟨_, rfl⟩
          obtain ⟨bd, hbd⟩ : ∃ t, t = (A[j]).body := ⟨_, rfl⟩
          rw [← hx] at g0 q2 q3
          rw [← hbd] at g1 q1
          clear hx hbd
          have hEb := (Ext.refl wr).alloc (.cells #[.int .i64 x, .string bd] 30)
          have hbn := BoxAt.made wr #[.int .i64 x, .string bd] 30
          have hFb := hF2.ext hEb
          have hEvb := hEv.trans hEb
          have t1 : decide ((j : Int) < (an : Int)) = true := by simp; omega
          go_wp2_with fail
          refine wp_region_tab 8 [(3, fun v x => Few x w.heap.size v (20000 + j * 2000 + 9)), (6, fun v x => Few x w.heap.size v (20000 + j * 2000 + 9 + 9 + bd.size))] (by kernel_rfl) (by kernel_rfl) (by kernel_rfl) ⟨fun _ _ _ hE h => Few.ext hE h, fun _ _ _ hE h => Few.ext hE h, trivial⟩ ?_
          have x0 := held (show (wr.alloc (.cells #[.int .i64 x, .string bd] 30)).cell? ⟨wr.heap.size, 0, none⟩ = some (.int .i64 x) from hbn.cell 0)
          have x1 := held (show (wr.alloc (.cells #[.int .i64 x, .string bd] 30)).cell? ⟨wr.heap.size, 1, none⟩ = some (.string bd) from hbn.cell 1)
          refine rg_quiet rfl rfl rfl rfl ?_; intro K hK; go_big_quiet_op; go_big_quiet_on
          refine rg_quiet rfl rfl rfl rfl ?_; intro K hK; go_big_quiet_op; go_big_quiet_on
          refine rg_quiet rfl rfl rfl rfl ?_; intro K hK; go_big_quiet_op; go_big_quiet_on
          refine rg_fact [] rfl rfl rfl (by kernel_rfl) (fun y hE hf => ?_) (fun v3 y3 hE3 hG3 h3 => ?_)
          · go_simp
            refine (few_number (S := w.heap.size) (n := 20000 + j * 2000) x q2 (by omega) y (hEvb.trans hE).le (hFb.ext hE) (by omega)).mono ?_
            rintro e w' ⟨v', rfl, ho, hw⟩
            exact ⟨_, rfl, rg_doneR hE hw ho⟩
          clear hE3 hG3 h3
          simp only [Act.put, List.setIfInBounds_toArray, List.set_cons_zero, List.set_cons_succ]
          refine rg_quiet rfl rfl rfl rfl ?_; intro K hK; go_big_quiet_op; go_big_quiet_on
          refine rg_quiet rfl rfl rfl rfl ?_; intro K hK; go_big_quiet_op; go_big_quiet_on
          refine rg_fact [3] rfl rfl rfl (by kernel_rfl) (fun y hE hf => ?_) (fun v6 y6 hE6 hG6 h6 => ?_)
          · have h3 := (hf 3 (by simp)).2 rfl
            go_simp
            refine (few_text (S := w.heap.size) bd (by omega) y (hEvb.trans hE).le h3 (by omega)).mono ?_
            rintro e w' ⟨v', rfl, ho, hw⟩
            exact ⟨_, rfl, rg_doneR hE hw ho⟩
          clear hE6 hG6 h6
          simp only [Act.put, List.setIfInBounds_toArray, List.set_cons_zero, List.set_cons_succ]
          refine rg_quiet rfl rfl rfl rfl ?_; intro K hK; go_big_quiet_op; go_big_quiet_on
          refine rel_nil fun w5 hE5 hG => ?_
          have h6 := (hG 6).2 rfl
          clear x0 x1 hG
          go_wp2_with fail
          go_roundw
          case rel =>
            refine ⟨j + 1, by omega, by go_num, ?_, (hE4.trans hEb).trans hE5⟩
            obtain ⟨L, hL1, hL2⟩ := h6
            exact ⟨L, hL1, by omega⟩
          case measure => simp [intOf]; omega
        · obtain rfl : j = an := by omega
          have hb5 := hb4.ext hE4
          have c2 : wr.cell? ⟨w.heap.size, 2, none⟩ = some (.slice ad dn cd) := hb5.cell 2
          go_wp2_with (go_at_call 32; go_must (refine (few_number (S := w.heap.size) (n := 20000 + j * 2000) (dn : Int) (by omega) (by omega) wr hEv.le hF2 (by omega)).mono ?_); rintro e w4 ⟨v4, rfl, ho4, hE5⟩; have hb6 := hb5.ext hE5; have d2 : w4.cell? ⟨w.heap.size, 2, none⟩ = some (.slice ad dn cd) := hb6.cell 2)
          have hEw4 := hEv.trans hE5
          have ho4' : Few w4 w.heap.size v4 50000 := by obtain ⟨L, hL1, hL2⟩ := ho4; exact ⟨L, hL1, by omega⟩
          clear c2 d2 ho4
          go_loopw [4, 63] (fun o i wr => ∃ k : Nat, k ≤ dn ∧ i = .int .i64 (k : Int) ∧ Few wr w.heap.size o (50000 + k * 10) ∧ Ext w4 wr) (fun _ i _ => dn - (intOf i).toNat)
          case atStart => exact ⟨0, Nat.zero_le _, rfl, by simpa using ho4', Ext.refl w4⟩
          case round =>
            obtain ⟨d, hd, rfl, hF3, hE6⟩ := hrel
            have hEu := hEw4.trans hE6
            by_cases hlt3 : d < dn
            · have hkF : d < D.length := by rw [← HDN.out]; exact hlt3
              obtain ⟨b, o, rfl, g0⟩ := HGD.out d (.int .i64 D[d]) (by rw [kcells_get, List.getElem?_eq_getElem hkF]; rfl)
              replace g0 := hEu.cell g0
              obtain ⟨q1, q2⟩ := HDB.out _ (List.getElem_mem hkF)
              obtain ⟨x, hx⟩ : ∃ t, t = D[d] := ⟨_, rfl⟩
              rw [← hx] at g0 q1 q2
              clear hx
              have t1 : decide ((d : Int) < (dn : Int)) = true := by simp; omega
              go_wp2_with (go_at_call 32; go_must (refine (few_number (S := w.heap.size) (n := 50000 + d * 10) x q1 (by omega) wr hEu.le hF3 (by omega)).mono ?_); rintro e w7 ⟨v7, rfl, ho7, hE7⟩)
              go_roundw
              case rel =>
                refine ⟨d + 1, by omega, by go_num, ?_, hE6.trans hE7⟩
                obtain ⟨L, hL1, hL2⟩ := ho7
                exact ⟨L, hL1, by omega⟩
              case measure => simp [intOf]; omega
            · obtain rfl : d = dn := by omega
              have hF4 := Few.more (n' := 100000) hF3 (by omega)
              have hF5 := hF4
              obtain ⟨ax, kx, cx, rfl, hkx⟩ := hF5.shape
              go_wp2_with fail
              go_ret2
              exact ⟨_, rfl, hF4, hEu⟩
end Go.Proofs.YtmjhdfifbjdgpaaDoor

/- A text of so many noughts: make, convert. -/
namespace Go.Proofs.YtmjhdfifbjdgpaaDoor
open Go Go.RowKit

theorem info_b8z : Tryd.prog.info? 5 = some (Tryd.prog.info? 5).get! ∧ (Tryd.prog.info? 5).get!.zero = some (.int .u8 0) ∧ (Tryd.prog.info? 5).get!.size = 1 ∧ (Tryd.prog.info? 5).get!.bytes = 1 := ⟨by kernel_rfl, by kernel_rfl, by kernel_rfl, by kernel_rfl⟩
theorem made_zeros (N : Nat) : (madeCells (Value.int .u8 0).cells (N * 1)).toList = bcells (List.replicate N 0) := by
  apply List.ext_getElem?
  intro j
  simp only [madeCells, Nat.mul_one, bcells]
  by_cases hj : j < N
  · simp [hj, Value.cells, Nat.mod_one]
  · rw [List.getElem?_eq_none (by simp; omega), List.getElem?_eq_none (by simp; omega)]
/-- 'make([]byte, N)'. -/
theorem run_zeros (w : World) (N : Nat) (hN : N ≤ 16777216) : ∃ w', (Instr.makeSlice 35 (.int .i64 (N : Int)) (.int .i64 (N : Int))).run Tryd.prog w = .ok (.slice (some ⟨w.heap.size, 0, none⟩) N N) w' ∧
    w'.ownsRow w.heap.size 5 1 (.slice (some ⟨w.heap.size, 0, none⟩) N N) N (bcells (List.replicate N 0)) ∧ w.grownBy w' none := by
  obtain ⟨w4, he, hown, hg⟩ := run_makeSlice_full w w.heap.size 35 5 _ _ 1 und_bytes info_b8z.1 info_b8z.2.1 info_b8z.2.2.1 .i64 .i64 N (by omega) (by rw [info_b8z.2.2.2]; omega) (by unfold maxLen; omega) (Nat.le_refl _)
  rw [made_zeros] at hown
  exact ⟨w4, he, hown, hg⟩
/-- The same, and the text that it is: facts for the walk. -/
theorem run_zero_text (w : World) (N : Nat) (hN : N ≤ 16777216) : ∃ w', (Instr.makeSlice 35 (.int .i64 (N : Int)) (.int .i64 (N : Int))).run Tryd.prog w = .ok (.slice (some ⟨w.heap.size, 0, none⟩) N N) w' ∧
    (convert 35 9 (.slice (some ⟨w.heap.size, 0, none⟩) N N)).run Tryd.prog w' = .ok (.string (str (List.replicate N 0))) w' ∧ Ext w w' := by
  obtain ⟨w4, he, hown, hg⟩ := run_zeros w N hN
  refine ⟨w4, he, ?_, (Ext.refl w).grown hg nofun⟩
  refine run_convert_bytesIn _ 35 9 5 und_bytes und_u8 und_string ?_
  have := SliceIn.of_owns hown
  unfold BytesIn
  rw [List.length_replicate]
  exact this
section
variable {ops : Array Oper} {Q : Exit → Act → World → Prop} {a : Act} {w : World} {rest : List Oper} {o : Oper}
theorem yields_zeros (x y : Operand) (hop : o.op = Op.makeSlice 35 x y) {N : Nat} (hx : a.eval x = .int .i64 (N : Int)) (hy : a.eval y = .int .i64 (N : Int)) (hN : N ≤ 16777216) {R : Value → World → Prop}
    (hR : ∀ v' w', OwnB w' w.heap.size v' (List.replicate N 0) → Ext w w' → R v' w') : yields Tryd.prog o a w R := by
  obtain ⟨w', he, hown, hg⟩ := run_zeros w N hN
  unfold yields execOp
  simp only [hop, hx, hy, Sem.run_bind, he, Result.andThen_ok, Sem.run_pure]
  exact hR _ w' (by unfold OwnB; rw [List.length_replicate]; exact hown) ((Ext.refl w).grown hg nofun)
theorem wpList_zeros (hw : Region.wanted o (yielded ops a.tmps) = true) (x y : Operand) (hop : o.op = Op.makeSlice 35 x y) {N : Nat} (hx : a.eval x = .int .i64 (N : Int)) (hy : a.eval y = .int .i64 (N : Int)) (hN : N ≤ 16777216)
    (hK : ∀ v' w', OwnB w' w.heap.size v' (List.replicate N 0) → Ext w w' → wpList Tryd.prog ops Q rest (a.put o.dst v') w') : wpList Tryd.prog ops Q (o :: rest) a w := by
  unfold wpList
  rw [if_pos hw]
  exact .inl (yields_wp (yields_zeros (R := fun v w' => wpList Tryd.prog ops Q rest (a.put o.dst v) w') x y hop hx hy hN hK) fun v w' h => h)
end
end Go.Proofs.YtmjhdfifbjdgpaaDoor

/- make([]int, n), make([]api.Note, n) as rows in memory; a number stored into them. -/
namespace Go.Proofs.YtmjhdfifbjdgpaaDoor
open Go Go.RowKit

theorem info_i64 : Tryd.prog.info? 3 = some (Tryd.prog.info? 3).get! ∧ (Tryd.prog.info? 3).get!.zero = some (.int .i64 0) ∧ (Tryd.prog.info? 3).get!.size = 1 ∧ (Tryd.prog.info? 3).get!.bytes = 8 := ⟨by kernel_rfl, by kernel_rfl, by kernel_rfl, by kernel_rfl⟩
theorem info_nt : Tryd.prog.info? 30 = some (Tryd.prog.info? 30).get! ∧ (Tryd.prog.info? 30).get!.zero = some (.agg #[.int .i64 0, .string ⟨#[]⟩]) ∧ (Tryd.prog.info? 30).get!.size = 2 ∧ (Tryd.prog.info? 30).get!.bytes = 24 := ⟨by kernel_rfl, by kernel_rfl, by kernel_rfl, by kernel_rfl⟩
theorem und_ints : Tryd.prog.underlying 32 = some (.slice 3) := by kernel_rfl
theorem und_nts : Tryd.prog.underlying 31 = some (.slice 30) := by kernel_rfl
theorem made_ints (N : Nat) : (madeCells (Value.int .i64 0).cells (N * 1)).toList = kcells .i64 (List.replicate N 0) := by
  apply List.ext_getElem?
  intro j
  simp only [madeCells, Nat.mul_one, kcells]
  by_cases hj : j < N
  · simp [hj, Value.cells, Nat.mod_one]
  · rw [List.getElem?_eq_none (by simp; omega), List.getElem?_eq_none (by simp; omega)]
theorem nts_len (l : List Nt) : (l.flatMap Nt.cells).length = l.length * 2 := by
  induction l with
  | nil => rfl
  | cons a l ih => simp [Nt.cells] at ih ⊢; omega
theorem made_nts (N : Nat) : (madeCells (Value.agg #[.int .i64 0, .string ⟨#[]⟩]).cells (N * 2)).toList = (List.replicate N (⟨0, ⟨#[]⟩⟩ : Nt)).flatMap Nt.cells := by
  apply List.ext_getElem?
  intro j
  by_cases hj : j < N * 2
  · have e : j = (j / 2) * 2 + j % 2 := by omega
    have h2 := nts_at (l := List.replicate N (⟨0, ⟨#[]⟩⟩ : Nt)) (k := j / 2) (by simp; omega) (j := j % 2) (by omega)
    rw [← e] at h2
    rw [h2, List.getElem_replicate]
    simp only [madeCells]
    have hm : j % 2 = 0 ∨ j % 2 = 1 := by omega
    rcases hm with hm | hm
    · simp [hj, Value.cells, hm, Nt.cells]
    · simp [hj, Value.cells, hm, Nt.cells]
  · rw [List.getElem?_eq_none (by simp [madeCells]; omega), List.getElem?_eq_none (by rw [nts_len]; simp; omega)]
theorem own_full {w : World} {B : Nat} {e : TypeId} {size r N : Nat} {xs : List Value} (h : w.ownsRow B e size (.slice (some ⟨r, 0, none⟩) N N) N xs) : BoxAt w r xs.toArray e := by
  obtain ⟨hl, h⟩ := h
  rcases h with ⟨e, _⟩ | ⟨g, cap, cur, e, _, hh, _, _, hcs, ht⟩
  · cases e
  · cases e
    have : xs.toArray = cur := by
      apply Array.toList_inj.1
      rw [← ht, List.take_of_length_le (by rw [Array.length_toList]; omega)]
    rw [this]
    exact hh
theorem run_ints0 (w : World) (N : Nat) (hN : N ≤ 100000) : ∃ w', (Instr.makeSlice 32 (.int .i64 (N : Int)) (.int .i64 (N : Int))).run Tryd.prog w = .ok (.slice (some ⟨w.heap.size, 0, none⟩) N N) w' ∧
    BoxAt w' w.heap.size (kcells .i64 (List.replicate N 0)).toArray 3 ∧ Ext w w' := by
  obtain ⟨w4, he, hown, hg⟩ := run_makeSlice_full w w.heap.size 32 3 _ _ 1 und_ints info_i64.1 info_i64.2.1 info_i64.2.2.1 .i64 .i64 N (by omega) (by rw [info_i64.2.2.2]; omega) (by unfold maxLen; omega) (Nat.le_refl _)
  rw [made_ints] at hown
  exact ⟨w4, he, own_full hown, (Ext.refl w).grown hg nofun⟩
theorem run_nts0 (w : World) (N : Nat) (hN : N ≤ 100000) : ∃ w', (Instr.makeSlice 31 (.int .i64 (N : Int)) (.int .i64 (N : Int))).run Tryd.prog w = .ok (.slice (some ⟨w.heap.size, 0, none⟩) N N) w' ∧
    BoxAt w' w.heap.size ((List.replicate N (⟨0, ⟨#[]⟩⟩ : Nt)).flatMap Nt.cells).toArray 30 ∧ Ext w w' := by
  obtain ⟨w4, he, hown, hg⟩ := run_makeSlice_full w w.heap.size 31 30 _ _ 2 und_nts info_nt.1 info_nt.2.1 info_nt.2.2.1 .i64 .i64 N (by omega) (by rw [info_nt.2.2.2]; omega) (by unfold maxLen; omega) (Nat.le_refl _)
  rw [made_nts] at hown
  exact ⟨w4, he, own_full hown, (Ext.refl w).grown hg nofun⟩
theorem ints_set (l : List Int) (i : Nat) (x : Int) : (kcells .i64 l).toArray.setIfInBounds i (.int .i64 x) = (kcells .i64 (l.set i x)).toArray := by
  simp [kcells, List.map_set]
theorem nts_set : ∀ (l : List Nt) (i : Nat) (_ : i < l.length) (x : Int), (l.flatMap Nt.cells).set (i * 2) (.int .i64 x) = ((l.set i ⟨x, (l.getD i ⟨0, ⟨#[]⟩⟩).body⟩).flatMap Nt.cells)
  | [], i, h, _ => by simp at h
  | a :: l, 0, _, x => by simp [Nt.cells]
  | a :: l, i + 1, h, x => by
    have ih := nts_set l i (by simpa using h) x
    have e : ∀ (a : Nt) (l : List Nt), (a :: l).flatMap Nt.cells = .int .i64 a.id :: .string a.body :: l.flatMap Nt.cells := fun a l => by simp [Nt.cells]
    rw [List.set_cons_succ, e, e, show (i + 1) * 2 = i * 2 + 1 + 1 by omega, List.set_cons_succ, List.set_cons_succ, ih]
    rfl
theorem ints_box {w : World} {r N : Nat} {l : List Int} {e : TypeId} (h : BoxAt w r (kcells .i64 l).toArray e) (hl : l.length = N) (hN : N ≤ 100000) : IntsIn w (.slice (some ⟨r, 0, none⟩) N N) .i64 l :=
  by subst hl; exact ⟨some ⟨r, 0, none⟩, l.length, rfl, Nat.le_refl _, by unfold maxLen; omega, nofun, fun j u hj => ⟨r, 0, rfl, by rw [Nat.zero_add, h.cell j]; simpa using hj⟩⟩
theorem nts_box {w : World} {r N : Nat} {l : List Nt} {e : TypeId} (h : BoxAt w r (l.flatMap Nt.cells).toArray e) (hl : l.length = N) (hN : N ≤ 100000) : NtsIn w (.slice (some ⟨r, 0, none⟩) N N) l :=
  by subst hl; exact ⟨some ⟨r, 0, none⟩, l.length, rfl, Nat.le_refl _, by unfold maxLen; omega, nofun, fun j u hj => ⟨r, 0, rfl, by rw [Nat.zero_add, h.cell j]; simpa using hj⟩⟩
theorem nts_setA (l : List Nt) (i : Nat) (h : i < l.length) (x : Int) : (l.flatMap Nt.cells).toArray.setIfInBounds (i * 2) (.int .i64 x) = ((l.set i ⟨x, (l.getD i ⟨0, ⟨#[]⟩⟩).body⟩).flatMap Nt.cells).toArray := by
  rw [← nts_set l i h x]
  simp
theorem nts_small {l : List Nt} (h : ∀ x ∈ l, x.body.size ≤ 1000000) {i : Nat} (hi : i < l.length) {x : Int} : ∀ y ∈ l.set i ⟨x, (l.getD i ⟨0, ⟨#[]⟩⟩).body⟩, y.body.size ≤ 1000000 := by
  intro y hy
  rcases List.mem_or_eq_of_mem_set hy with hy | rfl
  · exact h y hy
  · show (l.getD i ⟨0, ⟨#[]⟩⟩).body.size ≤ 1000000
    rw [List.getD_eq_getElem?_getD, List.getElem?_eq_getElem hi]
    exact h _ (List.getElem_mem hi)
end Go.Proofs.YtmjhdfifbjdgpaaDoor

/- PackRefuses: the law's walk. -/
namespace Go.Proofs.YtmjhdfifbjdgpaaDoor
open Go Go.RowKit
attribute [local go_sem] yields yUpon

theorem name_t : nameB ⟨#[116]⟩ = true := by decide
theorem name_T : nameB ⟨#[84]⟩ = false := by decide
theorem cb_base : cbB [⟨⟨#[116]⟩, ⟨#[97]⟩, 0⟩] [⟨1, ⟨#[120]⟩⟩] [2] = true := by decide
theorem mus_one {w : World} {b : Nat} {t k : ByteArray} {g : Int} {e : TypeId} (h : BoxAt w b #[.string t, .string k, .int .i64 g, .slice none 0 0] e) : MusIn w (.slice (some ⟨b, 0, none⟩) 1 1) [⟨t, k, g⟩] :=
  ⟨_, _, rfl, Nat.le_refl _, by unfold maxLen; simp, nofun, fun j u hj => ⟨b, 0, rfl, by rw [Nat.zero_add, h.cell j]; simpa [Mu.cells] using hj⟩⟩
theorem nts_one {w : World} {b : Nat} {n : Int} {s : ByteArray} {e : TypeId} (h : BoxAt w b #[.int .i64 n, .string s] e) : NtsIn w (.slice (some ⟨b, 0, none⟩) 1 1) [⟨n, s⟩] :=
  ⟨_, _, rfl, Nat.le_refl _, by unfold maxLen; simp, nofun, fun j u hj => ⟨b, 0, rfl, by rw [Nat.zero_add, h.cell j]; simpa [Nt.cells] using hj⟩⟩
theorem ints_one {w : World} {b : Nat} {n : Int} {e : TypeId} (h : BoxAt w b #[.int .i64 n] e) : IntsIn w (.slice (some ⟨b, 0, none⟩) 1 1) .i64 [n] :=
  ⟨_, _, rfl, Nat.le_refl _, by unfold maxLen; simp, nofun, fun j u hj => ⟨b, 0, rfl, by rw [Nat.zero_add, h.cell j]; simpa [kcells] using hj⟩⟩

/-- All blocks but one stay. -/
structure Touch9 (w w' : World) (q : Nat) : Prop where
  os : w'.os = w.os
  tape : w'.tape = w.tape
  output : w'.output = w.output
  size : w.heap.size ≤ w'.heap.size
  block : ∀ k, k < w.heap.size → k ≠ q → w'.heap[k]? = w.heap[k]?
theorem Touch9.set (w : World) {q : Nat} (i : Nat) (u : Value) : Touch9 w (w.setCell ⟨q, i, none⟩ u) q := ⟨rfl, rfl, rfl, by rw [Deep.nblk_setCell]; exact Nat.le_refl _, fun k _ hn => heap_setCell_other _ _ _ _ hn⟩
theorem Touch9.more {w a b : World} {q : Nat} (h : Touch9 w a q) (hE : Ext a b) : Touch9 w b q := ⟨hE.os.trans h.os, hE.tape.trans h.tape, hE.output.trans h.output, Nat.le_trans h.size hE.size, fun k hk hn => (hE.block k (Nat.lt_of_lt_of_le hk h.size)).trans (h.block k hk hn)⟩
theorem Touch9.grown {w a b : World} {q : Nat} {r : Option Nat} (h : Touch9 w a q) (hg : a.grownBy b r) (hr : ∀ k, r = some k → w.heap.size ≤ k) : Touch9 w b q := ⟨hg.os.trans h.os, hg.tape.trans h.tape, hg.output.trans h.output, Nat.le_trans h.size hg.size, fun k hk hn => (hg.block k (Nat.lt_of_lt_of_le hk h.size) (fun e => by have := hr k e.symm; omega)).trans (h.block k hk hn)⟩
theorem Touch9.put {w a : World} {q : Nat} (h : Touch9 w a q) (i : Nat) (u : Value) : Touch9 w (a.setCell ⟨q, i, none⟩ u) q := ⟨h.os, h.tape, h.output, by rw [Deep.nblk_setCell]; exact h.size, fun k hk hn => (heap_setCell_other _ _ _ _ hn).trans (h.block k hk hn)⟩
theorem Touch9.slice {w a : World} {q : Nat} (h : Touch9 w a q) {v : Value} {n : Nat} {xs : List Value} (hs : SliceIn w v n xs) (hv : ∀ b o k c, v = .slice (some ⟨b, o, none⟩) k c → b ≠ q) : SliceIn a v n xs := by
  obtain ⟨ad, c, rfl, hc, hcm, ha, hcell⟩ := hs
  refine ⟨ad, c, rfl, hc, hcm, ha, fun j x hj => ?_⟩
  obtain ⟨b, o, rfl, hx⟩ := hcell j x hj
  have hne := hv b o n c rfl
  have hl := World.block_lt_of_cell? w _ hx
  refine ⟨b, o, rfl, ?_⟩
  rw [World.cell?_of_block (w := w) (h.block b hl hne)]
  exact hx
theorem Touch9.box {w a : World} {q p : Nat} (h : Touch9 w a q) {cs : Array Value} {e : TypeId} (hb : BoxAt w p cs e) (hp : p ≠ q) : BoxAt a p cs e := by
  have hl := hb.lt
  unfold BoxAt at *
  rw [h.block p hl hp]; exact hb
theorem Touch9.ext {w0 w a : World} {q : Nat} (h : Touch9 w a q) (hE : Ext w0 w) (hq : w0.heap.size ≤ q) : Ext w0 a := ⟨h.os.trans hE.os, h.tape.trans hE.tape, h.output.trans hE.output, Nat.le_trans hE.size h.size, fun k hk => (h.block k (Nat.lt_of_lt_of_le hk hE.size) (by omega)).trans (hE.block k hk)⟩
theorem Touch9.put2 {w a : World} {q p : Nat} (h : Touch9 w a q) (hp : w.heap.size ≤ p) (i : Nat) (u : Value) : Touch9 w (a.setCell ⟨p, i, none⟩ u) q := ⟨h.os, h.tape, h.output, by rw [Deep.nblk_setCell]; exact h.size, fun k hk hn => (heap_setCell_other _ _ _ _ (by show k ≠ p; omega)).trans (h.block k hk hn)⟩
theorem info_Mut : (Tryd.prog.info? 27).map (fun i => (i.zero, i.size, i.bytes)) = some (some (.agg #[.string ⟨#[]⟩, .string ⟨#[]⟩, .int .i64 0, .slice none 0 0]), 4, 64) := by kernel_rfl
theorem und_Muts : Tryd.prog.underlying 28 = some (.slice 27) := by kernel_rfl
/-- A batch in memory that may not be. -/
structure Bad (w wc : World) (b : Nat) : Prop where
  ext : Ext w wc
  some_ : ∃ (vm va vd : Value) (M : List Mu) (A : List Nt) (D : List Int), BoxAt wc b #[vm, va, vd] 34 ∧ MusIn wc vm M ∧ NtsIn wc va A ∧ IntsIn wc vd .i64 D ∧ (∀ x ∈ M, x.table.size ≤ 100 ∧ x.key.size ≤ 100 ∧ x.gone ≤ 1099511627776) ∧ (∀ x ∈ A, x.body.size ≤ 1000000) ∧ cbB M A D = false

theorem slice_off {w : World} {q i : Nat} {u v : Value} {n : Nat} {xs : List Value} (h : SliceIn w v n xs) (hv : ∀ b o k c, v = .slice (some ⟨b, o, none⟩) k c → b ≠ q) : SliceIn (w.setCell ⟨q, i, none⟩ u) v n xs := by
  obtain ⟨a, c, rfl, hc, hcm, ha, hcell⟩ := h
  refine ⟨a, c, rfl, hc, hcm, ha, fun j x hj => ?_⟩
  obtain ⟨b, o, rfl, hx⟩ := hcell j x hj
  have hne := hv b o n c rfl
  refine ⟨b, o, rfl, ?_⟩
  rw [World.cell?_of_block (w := w) (heap_setCell_other _ _ _ _ hne)]
  exact hx
/-- A field of the batch stored: it may not be. -/
theorem bad_set {w w7 wa : World} {q : Nat} {s0 s1 s2 v : Value} (hE : Ext w w7) (hq : w.heap.size ≤ q) (hb : BoxAt wa q #[s0, s1, s2] 34) (hEa : Ext w7 wa) (i : Nat) {vm va vd : Value} (M : List Mu) (A : List Nt) (D : List Int)
    (hM : MusIn wa vm M) (hA : NtsIn wa va A) (hD : IntsIn wa vd .i64 D) (e : #[s0, s1, s2].setIfInBounds i v = #[vm, va, vd])
    (n0 : ∀ b o k c, vm = .slice (some ⟨b, o, none⟩) k c → b ≠ q) (n1 : ∀ b o k c, va = .slice (some ⟨b, o, none⟩) k c → b ≠ q) (n2 : ∀ b o k c, vd = .slice (some ⟨b, o, none⟩) k c → b ≠ q)
    (h1 : ∀ x ∈ M, x.table.size ≤ 100 ∧ x.key.size ≤ 100 ∧ x.gone ≤ 1099511627776) (h2 : ∀ x ∈ A, x.body.size ≤ 1000000) (h3 : cbB M A D = false) : Bad w (wa.setCell ⟨q, i, none⟩ v) q :=
  ⟨(hE.trans hEa).setCell (by exact hq) v, vm, va, vd, M, A, D, by rw [← e]; exact hb.set i v, slice_off hM n0, slice_off hA n1, slice_off hD n2, h1, h2, h3⟩
theorem mu_ok {t k : ByteArray} {g : Int} (h1 : t.size ≤ 100) (h2 : k.size ≤ 100) (h3 : g ≤ 1099511627776) : ∀ x ∈ [(⟨t, k, g⟩ : Mu)], x.table.size ≤ 100 ∧ x.key.size ≤ 100 ∧ x.gone ≤ 1099511627776 := by
  intro x hx
  rw [List.mem_singleton.1 hx]
  exact ⟨h1, h2, h3⟩
theorem nt_ok {n : Int} {s : ByteArray} (h : s.size ≤ 1000000) : ∀ x ∈ [(⟨n, s⟩ : Nt)], x.body.size ≤ 1000000 := by
  intro x hx
  rw [List.mem_singleton.1 hx]
  exact h
theorem off_blk {b0 q : Nat} (h : b0 ≠ q) (n0 c0 : Nat) : ∀ b o k c, (.slice (some ⟨b0, 0, none⟩) n0 c0 : Value) = .slice (some ⟨b, o, none⟩) k c → b ≠ q := by
  intro b o k c e
  cases e
  exact h

set_option maxRecDepth 100000 in
set_option maxHeartbeats 8000000 in
theorem law_packRefuses (how v : Int) (w : World) (hT : TabU w) :
    Calls Tryd.prog 3 #[.int .i64 how, .int .i64 v] w fun e w' => e = .returned (.bool true) ∧ Ext w w' := by
  obtain ⟨K, hK⟩ : ∃ K : Nat, (K : Int) = 1 + v % 100 := ⟨(1 + v % 100).toNat, by omega⟩
  have hKl : 1 ≤ K ∧ K ≤ 100 := by omega
  have HK := Lib.hid hK.symm
  clear hK
  obtain ⟨V, hV⟩ : ∃ V, V = how % 8 := ⟨_, rfl⟩
  have hVc : V = 0 ∨ V = 1 ∨ V = 2 ∨ V = 3 ∨ V = 4 ∨ V = 5 ∨ V = 6 ∨ V = 7 := by omega
  have HV := Lib.hid hV
  clear hV
  obtain ⟨h1, h2, h3, h4, h5, hE⟩ := boxes5 w #[.string ⟨#[116]⟩, .string ⟨#[97]⟩, .int .i64 0, .slice none 0 0] #[.string ⟨#[116]⟩, .string ⟨#[97]⟩, .int .i64 0, .slice none 0 0] #[.int .i64 1, .string ⟨#[120]⟩] #[.int .i64 2] #[.slice (some ⟨w.heap.size + 1, 0, none⟩) 1 1, .slice (some ⟨w.heap.size + 1 + 1, 0, none⟩) 1 1, .slice (some ⟨w.heap.size + 1 + 1 + 1, 0, none⟩) 1 1] 27 27 30 3 34
  have hm := mus_one h2
  have hn := nts_one h3
  have hi := ints_one h4
  have hT5 := hT.ext hE
  go_enter Tryd.func3, Tryd.ntmps3
  go_upto_block 0 with (first
    | (go_at_call 9; go_must (refine (place_any _ _ (by omega) (by omega) _).mono ?_); rintro e w3 ⟨rfl, rfl⟩; (try rw [HK.out]); (try rw [← HV.out]))
    | (go_at_call 10; go_must (refine (batch_ok _ _ _ [⟨⟨#[116]⟩, ⟨#[97]⟩, 0⟩] [⟨1, ⟨#[120]⟩⟩] [2] _ hT5 hm hn hi (by decide) (by decide) (by decide) (by decide) (by decide) (by decide) cb_base).mono ?_); rintro e w6 ⟨v6, rfl, ho6, hE6⟩; have g5 := h5.ext hE6; have c0 := g5.cell 0; have c1 := g5.cell 1; have c2 := g5.cell 2; simp at c0 c1 c2)
    | (go_at_call 11; go_must (refine (cb_any _ _ _ [⟨⟨#[116]⟩, ⟨#[97]⟩, 0⟩] [⟨1, ⟨#[120]⟩⟩] [2] _ (hT5.ext hE6) (hm.ext hE6) (hn.ext hE6) (hi.ext hE6) (by decide) (by decide)).mono ?_); rintro e w7 ⟨rfl, hE7⟩; rw [cb_base]))
  have hE7w : Ext w w7 := (hE.trans hE6).trans hE7
  replace g5 := g5.ext hE7
  have g1 := h1.ext (hE6.trans hE7)
  have hm7 := hm.ext (hE6.trans hE7)
  have hn7 := hn.ext (hE6.trans hE7)
  have hi7 := hi.ext (hE6.trans hE7)
  have hTw := hT
  have c0 : w7.cell? ⟨w.heap.size + 1 + 1 + 1 + 1, 0, none⟩ = some (.slice (some ⟨w.heap.size + 1, 0, none⟩) 1 1) := g5.cell 0
  have c1 : w7.cell? ⟨w.heap.size + 1 + 1 + 1 + 1, 1, none⟩ = some (.slice (some ⟨w.heap.size + 1 + 1, 0, none⟩) 1 1) := g5.cell 1
  have c2 : w7.cell? ⟨w.heap.size + 1 + 1 + 1 + 1, 2, none⟩ = some (.slice (some ⟨w.heap.size + 1 + 1 + 1, 0, none⟩) 1 1) := g5.cell 2
  have hA5 := g5.allocs
  have hF5 := g5.frees
  have hq7 : w.heap.size + 1 + 1 + 1 + 1 ≠ w7.heap.size := by have := g5.lt; omega
  have f0 := g5.free 0
  have f1 := g5.free 1
  have f2 := g5.free 2
  have m1 : w7.cell? ⟨w.heap.size, 1, none⟩ = some (.string ⟨#[97]⟩) := g1.cell 1
  have m2 : w7.cell? ⟨w.heap.size, 2, none⟩ = some (.int .i64 0) := g1.cell 2
  have m3 : w7.cell? ⟨w.heap.size, 3, none⟩ = some (.slice none 0 0) := g1.cell 3
  have hqw : w.heap.size ≤ w.heap.size + 1 + 1 + 1 + 1 := by omega
  clear hE h1 h2 h3 h4 h5 hm hn hi hT5 hE6 hE7 ho6
  go_cut [10, 11, 12] from 40 to 128 (fun _ _ _ wc => Bad w wc (w.heap.size + 1 + 1 + 1 + 1))
  case first =>
    rcases hVc with rfl | rfl | rfl | rfl | rfl | rfl | rfl | rfl
    · -- case 0
      go_wp2_with fail
      go_meet
      case rel =>
        have hb := BoxAt.made w7 #[.string ⟨#[84]⟩, .string ⟨#[97]⟩, .int .i64 0, .slice none 0 0] 27
        have hEa := (Ext.refl w7).alloc (.cells #[.string ⟨#[84]⟩, .string ⟨#[97]⟩, .int .i64 0, .slice none 0 0] 27)
        exact bad_set hE7w hqw (g5.ext hEa) hEa 0 [⟨⟨#[84]⟩, ⟨#[97]⟩, 0⟩] [⟨1, ⟨#[120]⟩⟩] [2] (mus_one hb) (hn7.ext hEa) (hi7.ext hEa) rfl (off_blk hq7.symm _ _) (off_blk (by omega) _ _) (off_blk (by omega) _ _) (by decide) (by decide) (by decide)
    · -- case 1
      go_wp2_with fail
      go_meet
      case rel =>
        have hb := BoxAt.made w7 #[.string ⟨#[116]⟩, .string ⟨#[]⟩, .int .i64 (-(K : Int)), .slice none 0 0] 27
        have hEa := (Ext.refl w7).alloc (.cells #[.string ⟨#[116]⟩, .string ⟨#[]⟩, .int .i64 (-(K : Int)), .slice none 0 0] 27)
        exact bad_set hE7w hqw (g5.ext hEa) hEa 0 [⟨⟨#[116]⟩, ⟨#[]⟩, -(K : Int)⟩] [⟨1, ⟨#[120]⟩⟩] [2] (mus_one hb) (hn7.ext hEa) (hi7.ext hEa) rfl (off_blk hq7.symm _ _) (off_blk (by omega) _ _) (off_blk (by omega) _ _) (mu_ok (by decide) (by decide) (by omega)) (nt_ok (by decide)) (by unfold cbB okMu; simp; omega)
    · -- case 2
      have hle7 : w.heap.size + 1 + 1 + 1 + 1 < w7.heap.size := g5.lt
      obtain ⟨N, hN⟩ : ∃ N : Nat, (64 : Int) + (K : Int) = (N : Int) := ⟨64 + K, by omega⟩
      have hNl : 64 < N ∧ N ≤ 164 := by omega
      go_wp2_with fail
      have hT0 : Touch9 w7 (w7.setCell ⟨w.heap.size + 1 + 1 + 1 + 1, 0, none⟩ (.slice none 0 0)) (w.heap.size + 1 + 1 + 1 + 1) := Touch9.set w7 0 _
      have hq0 : BoxAt (w7.setCell ⟨w.heap.size + 1 + 1 + 1 + 1, 0, none⟩ (.slice none 0 0)) (w.heap.size + 1 + 1 + 1 + 1) #[.slice none 0 0, .slice (some ⟨w.heap.size + 1 + 1, 0, none⟩) 1 1, .slice (some ⟨w.heap.size + 1 + 1 + 1, 0, none⟩) 1 1] 34 := g5.set 0 _
      generalize (w7.setCell ⟨w.heap.size + 1 + 1 + 1 + 1, 0, none⟩ (.slice none 0 0)) = w8 at hT0 hq0 ⊢
      go_loopw [10] (fun i wr => ∃ (j : Nat) (v0 : Value), j ≤ N ∧ i = .int .i64 (j : Int) ∧ wr.ownsRow w7.heap.size 27 4 v0 j ((List.replicate j (⟨⟨#[116]⟩, ⟨#[97]⟩, 0⟩ : Mu)).flatMap Mu.cells) ∧ BoxAt wr (w.heap.size + 1 + 1 + 1 + 1) #[v0, .slice (some ⟨w.heap.size + 1 + 1, 0, none⟩) 1 1, .slice (some ⟨w.heap.size + 1 + 1 + 1, 0, none⟩) 1 1] 34 ∧ Touch9 w7 wr (w.heap.size + 1 + 1 + 1 + 1)) (fun i _ => N - (intOf i).toNat)
      case atStart => exact ⟨0, _, Nat.zero_le _, rfl, World.ownsRow_nil _ _ _ _, hq0, hT0⟩
      case round =>
        obtain ⟨j, v0, hj, rfl, hown, hq, hTr⟩ := hrel
        by_cases hlt : j < N
        · have z0 : wr.cell? ⟨w.heap.size + 1 + 1 + 1 + 1, 0, none⟩ = some v0 := hq.cell 0
          have g1r := hTr.box g1 (by omega)
          have x0 : wr.cell? ⟨w.heap.size, 0, none⟩ = some (.string ⟨#[116]⟩) := g1r.cell 0
          have x1 : wr.cell? ⟨w.heap.size, 1, none⟩ = some (.string ⟨#[97]⟩) := g1r.cell 1
          have x2 : wr.cell? ⟨w.heap.size, 2, none⟩ = some (.int .i64 0) := g1r.cell 2
          have x3 : wr.cell? ⟨w.heap.size, 3, none⟩ = some (.slice none 0 0) := g1r.cell 3
          have hT8 := hTr.more ((Ext.refl wr).alloc (.cells #[.string ⟨#[116]⟩, .string ⟨#[97]⟩, .int .i64 0, .slice none 0 0] 27))
          have hqe := hq.ext ((Ext.refl wr).alloc (.cells #[.string ⟨#[116]⟩, .string ⟨#[97]⟩, .int .i64 0, .slice none 0 0] 27))
          have hol := hown.lt
          have hTs := hTr.size
          go_wp2_with (at_builtin; go_must (refine appR info_Mut und_Muts rfl (by decide) wr rfl (.tmp 82) (.tmp 84) rfl w7.heap.size hTs _ j _ hown (by rfl) 1 _ (by rfl) (by rfl) (by simp [Value.oneCell']) (by unfold maxLen; omega) (by omega) ?_); intro v9 w9 ho9 hg9; have hs9 := SliceIn.of_owns ho9; obtain ⟨a9, c9, rfl, _⟩ := hs9; have hq9 := hqe.grown hg9 (fun e => by have := (hol _ e.symm).1; omega); have y0 : w9.cell? ⟨w.heap.size + 1 + 1 + 1 + 1, 0, none⟩ = some v0 := hq9.cell 0; have yf := hq9.free 0)
          go_roundw
          case rel =>
            refine ⟨j + 1, .slice a9 (j + 1) c9, by omega, by go_num, ?_, hq9.set 0 _, (hT8.grown hg9 (fun k hk => (hol k hk).1)).put 0 _⟩
            have h := ownsRow_setCell_below ho9 (a := ⟨w.heap.size + 1 + 1 + 1 + 1, 0, none⟩) (by exact hle7) (.slice a9 (j + 1) c9)
            rw [List.replicate_succ', List.flatMap_append]
            exact h
          case measure => simp [intOf]; omega
        · obtain rfl : j = N := by omega
          go_wp2_with fail
          go_meet
          case rel =>
            have hs := SliceIn.of_owns hown
            refine ⟨hTr.ext hE7w hqw, v0, _, _, List.replicate j ⟨⟨#[116]⟩, ⟨#[97]⟩, 0⟩, [⟨1, ⟨#[120]⟩⟩], [2], hq, by unfold MusIn; rw [List.length_replicate]; exact hs, hTr.slice hn7 (off_blk (by omega) _ _), hTr.slice hi7 (off_blk (by omega) _ _), ?_, nt_ok (by decide), ?_⟩
            · intro x hx
              rw [(List.mem_replicate.1 hx).2]
              exact ⟨by show 1 ≤ 100; omega, by show 1 ≤ 100; omega, by show (0 : Int) ≤ 1099511627776; omega⟩
            · unfold cbB
              rw [List.length_replicate, decide_eq_false (p := j ≤ 64) (by omega)]
              simp
    · -- case 3
      go_wp2_with fail
      go_meet
      case rel =>
        have hb := BoxAt.made w7 #[.int .i64 (1 - (K : Int)), .string ⟨#[]⟩] 30
        have hEa := (Ext.refl w7).alloc (.cells #[.int .i64 (1 - (K : Int)), .string ⟨#[]⟩] 30)
        exact bad_set hE7w hqw (g5.ext hEa) hEa 1 [⟨⟨#[116]⟩, ⟨#[97]⟩, 0⟩] [⟨1 - (K : Int), ⟨#[]⟩⟩] [2] (hm7.ext hEa) (nts_one hb) (hi7.ext hEa) rfl (off_blk (by omega) _ _) (off_blk hq7.symm _ _) (off_blk (by omega) _ _) (mu_ok (by decide) (by decide) (by omega)) (nt_ok (by decide)) (by unfold cbB okNt idB; simp; omega)
    · -- case 4
      obtain ⟨N, hN⟩ : ∃ N : Nat, (4096 : Int) + (K : Int) = (N : Int) := ⟨4096 + K, by omega⟩
      have hNl : 4096 < N ∧ N ≤ 5000 := by omega
      obtain ⟨wz, hr1, hr2, hEz⟩ := run_zero_text w7 N (by omega)
      have hAz := (g5.ext hEz).allocs
      have hFz := (g5.ext hEz).frees
      have hqz : w.heap.size + 1 + 1 + 1 + 1 ≠ wz.heap.size := by have := (g5.ext hEz).lt; omega
      obtain ⟨Z, hZ⟩ : ∃ Z, Z = str (List.replicate N 0) := ⟨_, rfl⟩
      have hZl : Z.size = N := by rw [hZ, str_size, List.length_replicate]
      rw [← hZ] at hr2
      clear hZ
      go_wp2_with fail
      go_meet
      case rel =>
        have hb := BoxAt.made wz #[.int .i64 1, .string Z] 30
        have hEa := hEz.alloc (.cells #[.int .i64 1, .string Z] 30)
        exact bad_set hE7w hqw (g5.ext hEa) hEa 1 [⟨⟨#[116]⟩, ⟨#[97]⟩, 0⟩] [⟨1, Z⟩] [2] (hm7.ext hEa) (nts_one hb) (hi7.ext hEa) rfl (off_blk (by omega) _ _) (off_blk hqz.symm _ _) (off_blk (by omega) _ _) (mu_ok (by decide) (by decide) (by omega)) (nt_ok (by omega)) (by unfold cbB okNt; simp; omega)
    · -- case 5
      have hle7 : w.heap.size + 1 + 1 + 1 + 1 < w7.heap.size := g5.lt
      obtain ⟨N, hN⟩ : ∃ N : Nat, (300 : Int) + (K : Int) = (N : Int) := ⟨300 + K, by omega⟩
      have hNl : 300 < N ∧ N ≤ 400 := by omega
      obtain ⟨wz, hr1, hbz, hEz⟩ := run_nts0 w7 N (by omega)
      have gz := g5.ext hEz
      have z0 : wz.cell? ⟨w.heap.size + 1 + 1 + 1 + 1, 1, none⟩ = some (.slice (some ⟨w.heap.size + 1 + 1, 0, none⟩) 1 1) := gz.cell 1
      have zf := gz.free 1
      go_wp2_with fail
      have hT0 : Touch9 w7 (wz.setCell ⟨w.heap.size + 1 + 1 + 1 + 1, 1, none⟩ (.slice (some ⟨w7.heap.size, 0, none⟩) N N)) (w.heap.size + 1 + 1 + 1 + 1) := (Touch9.more ⟨rfl, rfl, rfl, Nat.le_refl _, fun _ _ _ => rfl⟩ hEz).put 1 _
      have hq0 : BoxAt (wz.setCell ⟨w.heap.size + 1 + 1 + 1 + 1, 1, none⟩ (.slice (some ⟨w7.heap.size, 0, none⟩) N N)) (w.heap.size + 1 + 1 + 1 + 1) #[.slice (some ⟨w.heap.size + 1, 0, none⟩) 1 1, .slice (some ⟨w7.heap.size, 0, none⟩) N N, .slice (some ⟨w.heap.size + 1 + 1 + 1, 0, none⟩) 1 1] 34 := gz.set 1 _
      have hr0 : BoxAt (wz.setCell ⟨w.heap.size + 1 + 1 + 1 + 1, 1, none⟩ (.slice (some ⟨w7.heap.size, 0, none⟩) N N)) w7.heap.size _ 30 := hbz.other (by omega) 1 _
      generalize (wz.setCell ⟨w.heap.size + 1 + 1 + 1 + 1, 1, none⟩ (.slice (some ⟨w7.heap.size, 0, none⟩) N N)) = w8 at hT0 hq0 hr0 ⊢
      clear hr1 hbz z0 zf gz
      go_loopw [11] (fun i wr => ∃ (j : Nat) (l : List Nt), j ≤ N ∧ i = .int .i64 (j : Int) ∧ l.length = N ∧ Hid (∀ x ∈ l, x.body.size ≤ 1000000) ∧ BoxAt wr w7.heap.size (l.flatMap Nt.cells).toArray 30 ∧ BoxAt wr (w.heap.size + 1 + 1 + 1 + 1) #[.slice (some ⟨w.heap.size + 1, 0, none⟩) 1 1, .slice (some ⟨w7.heap.size, 0, none⟩) N N, .slice (some ⟨w.heap.size + 1 + 1 + 1, 0, none⟩) 1 1] 34 ∧ Touch9 w7 wr (w.heap.size + 1 + 1 + 1 + 1)) (fun i _ => N - (intOf i).toNat)
      case atStart => exact ⟨0, _, Nat.zero_le _, rfl, List.length_replicate, Lib.hid (by intro x hx; rw [(List.mem_replicate.1 hx).2]; show 0 ≤ 1000000; omega), hr0, hq0, hT0⟩
      case round =>
        obtain ⟨j, l, hj, rfl, hl, HI, hr, hq, hTr⟩ := hrel
        have z0 : wr.cell? ⟨w.heap.size + 1 + 1 + 1 + 1, 1, none⟩ = some (.slice (some ⟨w7.heap.size, 0, none⟩) N N) := hq.cell 1
        by_cases hlt : j < N
        · have t1 : decide ((j : Int) < (N : Int)) = true := by simp; omega
          obtain ⟨u, hu⟩ : ∃ u, wr.cell? ⟨w7.heap.size, j * 2, none⟩ = some u := ⟨_, by rw [hr.cell, Array.getElem?_eq_getElem (by rw [List.size_toArray, nts_len, hl]; omega)]⟩
          have uf := hr.free (j * 2)
          obtain ⟨j1, hj1⟩ : ∃ j1 : Nat, (1 : Int) + (j : Int) = (j1 : Int) := ⟨1 + j, by omega⟩
          go_wp2_with fail
          go_roundw
          case rel => exact ⟨j + 1, (l.set j ⟨(j1 : Int), (l.getD j ⟨0, ⟨#[]⟩⟩).body⟩), by omega, by go_num, by rw [List.length_set]; exact hl, Lib.hid (nts_small HI.out (by omega)), by rw [← nts_setA l j (by omega)]; exact hr.set (j * 2) _, hq.other (by omega) _ _, hTr.put2 (Nat.le_refl _) _ _⟩
          case measure => simp [intOf]; omega
        · obtain rfl : j = N := by omega
          go_wp2_with fail
          go_meet
          case rel =>
            exact ⟨hTr.ext hE7w hqw, _, _, _, [⟨⟨#[116]⟩, ⟨#[97]⟩, 0⟩], l, [2], hq, hTr.slice hm7 (off_blk (by omega) _ _), nts_box hr hl (by omega), hTr.slice hi7 (off_blk (by omega) _ _), mu_ok (by decide) (by decide) (by omega), HI.out, by unfold cbB; rw [hl, decide_eq_false (p := j ≤ 300) (by omega)]; simp⟩
    · -- case 6
      go_wp2_with fail
      go_meet
      case rel =>
        have hb := BoxAt.made w7 #[.int .i64 (1099511627776 + (K : Int))] 3
        have hEa := (Ext.refl w7).alloc (.cells #[.int .i64 (1099511627776 + (K : Int))] 3)
        exact bad_set hE7w hqw (g5.ext hEa) hEa 2 [⟨⟨#[116]⟩, ⟨#[97]⟩, 0⟩] [⟨1, ⟨#[120]⟩⟩] [1099511627776 + (K : Int)] (hm7.ext hEa) (hn7.ext hEa) (ints_one hb) rfl (off_blk (by omega) _ _) (off_blk (by omega) _ _) (off_blk hq7.symm _ _) (mu_ok (by decide) (by decide) (by omega)) (nt_ok (by decide)) (by unfold cbB idB; simp; omega)
    · -- case 7
      have hle7 : w.heap.size + 1 + 1 + 1 + 1 < w7.heap.size := g5.lt
      obtain ⟨N, hN⟩ : ∃ N : Nat, (300 : Int) + (K : Int) = (N : Int) := ⟨300 + K, by omega⟩
      have hNl : 300 < N ∧ N ≤ 400 := by omega
      obtain ⟨wz, hr1, hbz, hEz⟩ := run_ints0 w7 N (by omega)
      have gz := g5.ext hEz
      have z0 : wz.cell? ⟨w.heap.size + 1 + 1 + 1 + 1, 2, none⟩ = some (.slice (some ⟨w.heap.size + 1 + 1 + 1, 0, none⟩) 1 1) := gz.cell 2
      have zf := gz.free 2
      go_wp2_with fail
      have hT0 : Touch9 w7 (wz.setCell ⟨w.heap.size + 1 + 1 + 1 + 1, 2, none⟩ (.slice (some ⟨w7.heap.size, 0, none⟩) N N)) (w.heap.size + 1 + 1 + 1 + 1) := (Touch9.more ⟨rfl, rfl, rfl, Nat.le_refl _, fun _ _ _ => rfl⟩ hEz).put 2 _
      have hq0 : BoxAt (wz.setCell ⟨w.heap.size + 1 + 1 + 1 + 1, 2, none⟩ (.slice (some ⟨w7.heap.size, 0, none⟩) N N)) (w.heap.size + 1 + 1 + 1 + 1) #[.slice (some ⟨w.heap.size + 1, 0, none⟩) 1 1, .slice (some ⟨w.heap.size + 1 + 1, 0, none⟩) 1 1, .slice (some ⟨w7.heap.size, 0, none⟩) N N] 34 := gz.set 2 _
      have hr0 : BoxAt (wz.setCell ⟨w.heap.size + 1 + 1 + 1 + 1, 2, none⟩ (.slice (some ⟨w7.heap.size, 0, none⟩) N N)) w7.heap.size _ 3 := hbz.other (by omega) 2 _
      generalize (wz.setCell ⟨w.heap.size + 1 + 1 + 1 + 1, 2, none⟩ (.slice (some ⟨w7.heap.size, 0, none⟩) N N)) = w8 at hT0 hq0 hr0 ⊢
      clear hr1 hbz z0 zf gz
      go_loopw [12] (fun i wr => ∃ (j : Nat) (l : List Int), j ≤ N ∧ i = .int .i64 (j : Int) ∧ l.length = N ∧ Hid (True) ∧ BoxAt wr w7.heap.size (kcells .i64 l).toArray 3 ∧ BoxAt wr (w.heap.size + 1 + 1 + 1 + 1) #[.slice (some ⟨w.heap.size + 1, 0, none⟩) 1 1, .slice (some ⟨w.heap.size + 1 + 1, 0, none⟩) 1 1, .slice (some ⟨w7.heap.size, 0, none⟩) N N] 34 ∧ Touch9 w7 wr (w.heap.size + 1 + 1 + 1 + 1)) (fun i _ => N - (intOf i).toNat)
      case atStart => exact ⟨0, _, Nat.zero_le _, rfl, List.length_replicate, Lib.hid (trivial), hr0, hq0, hT0⟩
      case round =>
        obtain ⟨j, l, hj, rfl, hl, HI, hr, hq, hTr⟩ := hrel
        have z0 : wr.cell? ⟨w.heap.size + 1 + 1 + 1 + 1, 2, none⟩ = some (.slice (some ⟨w7.heap.size, 0, none⟩) N N) := hq.cell 2
        by_cases hlt : j < N
        · have t1 : decide ((j : Int) < (N : Int)) = true := by simp; omega
          obtain ⟨u, hu⟩ : ∃ u, wr.cell? ⟨w7.heap.size, j, none⟩ = some u := ⟨_, by rw [hr.cell, Array.getElem?_eq_getElem (by rw [List.size_toArray, kcells_length, hl]; omega)]⟩
          have uf := hr.free (j)
          obtain ⟨j1, hj1⟩ : ∃ j1 : Nat, (1 : Int) + (j : Int) = (j1 : Int) := ⟨1 + j, by omega⟩
          go_wp2_with fail
          go_roundw
          case rel => exact ⟨j + 1, (l.set j (j1 : Int)), by omega, by go_num, by rw [List.length_set]; exact hl, Lib.hid (trivial), by rw [← ints_set]; exact hr.set (j) _, hq.other (by omega) _ _, hTr.put2 (Nat.le_refl _) _ _⟩
          case measure => simp [intOf]; omega
        · obtain rfl : j = N := by omega
          go_wp2_with fail
          go_meet
          case rel =>
            exact ⟨hTr.ext hE7w hqw, _, _, _, [⟨⟨#[116]⟩, ⟨#[97]⟩, 0⟩], [⟨1, ⟨#[120]⟩⟩], l, hq, hTr.slice hm7 (off_blk (by omega) _ _), hTr.slice hn7 (off_blk (by omega) _ _), ints_box hr hl (by omega), mu_ok (by decide) (by decide) (by omega), nt_ok (by decide), by unfold cbB; rw [hl, decide_eq_false (p := j ≤ 300) (by omega)]; simp⟩
  case rest =>
    obtain ⟨hEc, vm, va, vd, M, A, D, hb, hM, hA, hD, hMb, hAb, hcb⟩ := hcut
    have z0 : wc.cell? ⟨w.heap.size + 1 + 1 + 1 + 1, 0, none⟩ = some vm := hb.cell 0
    have z1 : wc.cell? ⟨w.heap.size + 1 + 1 + 1 + 1, 1, none⟩ = some va := hb.cell 1
    have z2 : wc.cell? ⟨w.heap.size + 1 + 1 + 1 + 1, 2, none⟩ = some vd := hb.cell 2
    have HCB := Lib.hid hcb
    have HMB := Lib.hid hMb
    have HAB := Lib.hid hAb
    have hTc := hT.ext hEc
    clear hcb hMb hAb c0 c1 c2 f0 f1 f2 m1 m2 m3 hA5 hF5
    go_wp2_with (first
      | (go_at_call 10; go_must (refine (batch_no _ _ _ M A D _ hTc hM hA hD HMB.out HAB.out HCB.out).mono ?_); rintro e w8 ⟨rfl, hE8⟩; have hb8 := hb.ext hE8; have y0 : w8.cell? ⟨w.heap.size + 1 + 1 + 1 + 1, 0, none⟩ = some vm := hb8.cell 0; have y1 : w8.cell? ⟨w.heap.size + 1 + 1 + 1 + 1, 1, none⟩ = some va := hb8.cell 1; have y2 : w8.cell? ⟨w.heap.size + 1 + 1 + 1 + 1, 2, none⟩ = some vd := hb8.cell 2)
      | (go_at_call 11; go_must (refine (cb_any _ _ _ M A D _ (hTc.ext hE8) (hM.ext hE8) (hA.ext hE8) (hD.ext hE8) HMB.out HAB.out).mono ?_); rintro e w9 ⟨rfl, hE9⟩; rw [HCB.out])
      | (go_at_call 12; go_must (refine (awake9_any _ ((hTc.ext hE8).ext hE9)).mono ?_); rintro e w10 ⟨rfl, hE10⟩))
    go_ret
    exact ⟨rfl, ((hEc.trans hE8).trans hE9).trans hE10⟩
theorem walk_packRefuses (a0 a1 : Int) (_ : (Lit.int .i64 a0).wf = true) (_ : (Lit.int .i64 a1).wf = true) (W : World) (hT : TabU W) :
    Calls Tryd.prog 3 #[.int .i64 a0, .int .i64 a1] W fun e w' => e = .returned (.bool true) ∧ Ext W w' := law_packRefuses a0 a1 W hT
end Go.Proofs.YtmjhdfifbjdgpaaDoor
