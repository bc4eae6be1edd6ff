/- How many bytes a partition of few rows takes. -/
import Derived.Test.YtdkkbglfipkmdaaDoorC13
import Derived.Test.YtdkkbglfipkmdaaDoorC14
import Derived.Test.YtdkkbglfipkmdaaDoorC15
import Derived.Test.YtdkkbglfipkmdaaDoorC16
import Derived.Test.YtdkkbglfipkmdaaDoorC17
import Derived.Test.YtdkkbglfipkmdaaDoorC18
import Derived.Test.YtdkkbglfipkmdaaDoorC2
import Derived.Deep.CutBlock
import Derived.Deep.CutRange
set_option linter.unusedSimpArgs false
set_option linter.unusedVariables false
namespace Go.Proofs.YtdkkbglfipkmdaaDoor
open Go Go.RowKit
theorem cellP_few2 {c : Cl} (h : checkC c.val c.dead c.at_ c.fin = true) : (cellP c).length ≤ 128 := by
  rcases check_shape h with rfl | ⟨n, h0, h1, rfl⟩ | ⟨n, m, h0, h1, h2, h3, h4⟩
  · decide
  · have l1 := num_length (x := n) (by omega)
    unfold cellP
    simp only [Int.toNat_natCast]
    rw [if_neg (show ¬ (n : Int) = 0 by omega)]
    simp only [if_true, List.length_append, List.length_cons, List.length_nil]
    omega
  · have hok := checkC_ok h
    obtain ⟨g0, g1, g2, g3, g4⟩ := hok
    have l1 := num_length (x := c.at_.toNat) (by omega)
    have l2 := num_length (x := c.val.size) (by omega)
    have l3 := num_length (x := c.fin.toNat) (by omega)
    unfold cellP
    split
    · simp only [List.append_nil]; omega
    · split
      · simp only [List.length_append, List.length_cons, List.length_nil]; omega
      · simp only [List.length_append, List.length_cons, List.length_nil, dat_size]; omega
theorem rowP_few2 {r : Ro} (h : rwB r = true) : (rowP r).length ≤ 2500 := by
  have hok := rwB_ok h
  unfold rwB at h
  simp only [Bool.and_eq_true] at h
  obtain ⟨a, hl, _, _, _, _, g⟩ := hdB_parts h.1
  have a' := of_decide_eq_false a
  have g' := of_decide_eq_false g
  obtain ⟨h1, h2, h3, h4, h5, h6, h7, h8⟩ := hok
  have l1 := num_length (x := r.key.size) (by omega)
  have l2 := cellP_few2 hl
  have l3 := num_length (x := r.gone.toNat) (by omega)
  have l4 := num_length (x := r.shade.toNat) (by omega)
  have l5 := num_length (x := r.cols.length) (by omega)
  have l6 := flat_le (f := colP) (n := 237) (fun c hc => by
    obtain ⟨_, k1, k2, _⟩ := csB_ok h.2 c hc
    have m1 := nameB_size k1
    have m2 := cellP_few2 k2
    have m3 := num_length (x := c.name.size) (by omega)
    unfold colP
    simp only [List.length_append, dat_size]
    omega)
  unfold rowP
  simp only [List.length_append, dat_size]
  omega
theorem wholeP_few2 {k : ByteArray} {g : Int} {rs : List Ro} (h : ptB k g rs = true) : (wholeP k g rs).length ≤ 200 + rs.length * 2500 ∧ 3 ≤ (wholeP k g rs).length := by
  have hok := ptB_ok h
  unfold ptB at h
  simp only [Bool.and_eq_true, Bool.not_eq_true'] at h
  obtain ⟨⟨⟨⟨h0, _⟩, _⟩, h4⟩, h5⟩ := h
  have c := of_decide_eq_false h0
  obtain ⟨h1, h2, h3, _, _⟩ := hok
  have l1 := num_length (x := k.size) (by omega)
  have l3 := num_length (x := g.toNat) (by omega)
  have l5 := num_length (x := rs.length) (by have := of_decide_eq_false h4; omega)
  have l6 := flat_le (f := rowP) (fun c hc => rowP_few2 (rsB_ok h5 c hc))
  have n1 := num_ge k.size
  have n2 := num_ge g.toNat
  have n3 := num_ge rs.length
  unfold wholeP
  simp only [List.length_append, dat_size]
  constructor <;> omega
end Go.Proofs.YtdkkbglfipkmdaaDoor

/- PackBack: the law's walk. -/
namespace Go.Proofs.YtdkkbglfipkmdaaDoor
open Go Go.RowKit
attribute [local go_sem] yields yUpon

theorem ownB_form {w : World} {B : Nat} {v : Value} {l : List UInt8} (h : OwnB w B v l) (hn : 0 < l.length) : ∃ g c, v = .slice (some ⟨g, 0, none⟩) l.length c ∧ l.length ≤ c ∧ c ≤ maxLen := by
  obtain ⟨_, ⟨_, h0⟩ | ⟨g, c, cur, e, _, _, h1, h2, _⟩⟩ := h
  · omega
  · exact ⟨g, c, e, h1, h2⟩
theorem own_low {w : World} {B : Nat} {e : TypeId} {size : Nat} {v : Value} {n : Nat} {xs : List Value} (h : w.ownsRow B e size v n xs) : ∀ b o k c, v = .slice (some ⟨b, o, none⟩) k c → b < w.heap.size := by
  intro b o k c e
  subst e
  exact (h.lt b rfl).2
theorem gen_lowB {ps : List (Ro × Value)} {key : ByteArray} {g : Int} (h : ptB key g (ps.map (·.1)) = true) : ∀ q ∈ ps, ∀ c ∈ q.1.cols, c.name.size ≤ 1000000 := fun q hq c hc => by
  have := (((ptB_ok h).rows q.1 (List.mem_map_of_mem (f := (·.1)) hq)).cols c hc).name
  omega
theorem few_low {rows : Int} {M : List Mt} (h : ∀ m ∈ M, FewM rows m) : ∀ x ∈ M, x.table.size ≤ 1000000 ∧ ∀ p ∈ x.pa.ps, ∀ c ∈ p.1.cols, c.name.size ≤ 1000000 := fun x hx => by
  obtain ⟨h1, h2, h3⟩ := h x hx
  refine ⟨by omega, fun p hp c hc => ?_⟩
  have := ((h3 p hp).each c hc).1
  omega

set_option maxRecDepth 100000 in
set_option maxHeartbeats 16000000 in
theorem law_packBack (k : ByteArray) (g : Int) (u : Value) (ps : List (Ro × Value)) (vm va vd : Value) (M : List Mt) (A : List Nt) (D : List Int) (s : ByteArray) (at_ : Int) (w : World) (hin : RowsIn w u ps) (hM : MtsIn w vm M) (hA : NtsIn w va A) (hD : IntsIn w vd .i64 D) (hAb : ∀ a ∈ A, a.body.size ≤ maxLen) (hs : s.size ≤ maxLen) (hT : TabU w) :
    Calls Tryd.prog 5 #[.agg #[.string k, .int .i64 g, u], .agg #[vm, va, vd], .string s, .int .i64 at_] w fun e w' => e = .returned (.bool true) ∧ Ext w w' := by
  obtain ⟨b0, b1, hE0⟩ := boxes2 w (pa3 k g u) #[vm, va, vd] 30 39
  replace hin := hin.ext hE0
  replace hM := hM.ext hE0
  replace hA := hA.ext hE0
  replace hD := SliceIn.ext hE0 hD
  replace hT := hT.ext hE0
  obtain ⟨au, cu, rfl, _⟩ := hin.get
  obtain ⟨am, cm, rfl, _⟩ := hM.get
  obtain ⟨aa, ca, rfl, _⟩ := hA.get
  obtain ⟨ad, cd, rfl, _⟩ := id hD
  unfold maxLen at hs
  go_enter Tryd.func5, Tryd.ntmps5
  go_wp2_with fail
  unfold pa3 at b0 b1 hE0 hin hM hA hD hT
  obtain ⟨w0, hw0⟩ : ∃ w0, w0 = (w.alloc (.cells #[.string k, .int .i64 g, .slice au ps.length cu] 30)).alloc (.cells #[.slice am M.length cm, .slice aa A.length ca, .slice ad D.length cd] 39) := ⟨_, rfl⟩
  rw [← hw0] at b0 b1 hE0 hin hM hA hD hT ⊢
  clear hw0
  refine (fewPart_any k g _ ps 30 w0 hin).mono ?_
  rintro e w1 ⟨F1, rfl, hF1, hE1⟩
  have b11 := b1.ext hE1
  have y0 : w1.cell? ⟨w.heap.size + 1, 0, none⟩ = some (.slice am M.length cm) := b11.cell 0
  have y1 : w1.cell? ⟨w.heap.size + 1, 1, none⟩ = some (.slice aa A.length ca) := b11.cell 1
  have y2 : w1.cell? ⟨w.heap.size + 1, 2, none⟩ = some (.slice ad D.length cd) := b11.cell 2
  have HF1 := Lib.hid hF1
  clear hF1
  cases F1
  · go_wp2_with (go_at_call 13; go_must (refine (awake9_any _ (hT.ext hE1)).mono ?_); rintro e w7 ⟨rfl, hE7⟩)
    go_ret
    exact ⟨rfl, (hE0.trans hE1).trans hE7⟩
  go_wp2_with fail
  refine (fewBatch_any _ _ _ M A D w1 (hM.ext hE1) (hA.ext hE1) (SliceIn.ext hE1 hD) hAb).mono ?_
  rintro e w2 ⟨F2, rfl, hF2, hE2⟩
  have HF2 := Lib.hid hF2
  clear hF2
  cases F2
  · go_wp2_with (go_at_call 13; go_must (refine (awake9_any _ (hT.ext (hE1.trans hE2))).mono ?_); rintro e w7 ⟨rfl, hE7⟩)
    go_ret
    exact ⟨rfl, ((hE0.trans hE1).trans hE2).trans hE7⟩
  cases hs3 : decide ((3000 : Int) < (s.size : Int))
  rotate_left
  · go_wp2_with (go_at_call 13; go_must (refine (awake9_any _ (hT.ext (hE1.trans hE2))).mono ?_); rintro e w7 ⟨rfl, hE7⟩)
    go_ret
    exact ⟨rfl, ((hE0.trans hE1).trans hE2).trans hE7⟩
  have hs30 : s.size ≤ 3000 := by simp at hs3; omega
  have hE12 := hE1.trans hE2
  have hw02 : Ext w0 w2 := hE12
  have hlowP : ∀ p ∈ ps, ∀ c ∈ p.1.cols, c.name.size ≤ 1000000 := fun p hp c hc => by
    have := (((HF1.out trivial).2.2 p hp).each c hc).1
    omega
  have hps30 : ps.length ≤ 30 := by have := (HF1.out trivial).2.1; omega
  have HLP := Lib.hid hlowP
  clear hlowP b11 y0 y1 y2 hs3
  -- a partition, there and back
  have c0 := b0.ext hw02
  have x0 : w2.cell? ⟨w.heap.size, 0, none⟩ = some (.string k) := c0.cell 0
  have x1 : w2.cell? ⟨w.heap.size, 1, none⟩ = some (.int .i64 g) := c0.cell 1
  have x2 : w2.cell? ⟨w.heap.size, 2, none⟩ = some (.slice au ps.length cu) := c0.cell 2
  go_upto_if 49 with (go_at_call 14; go_must (refine (pk_part k g _ ps w2 (hin.ext hw02) HLP.out (hT.ext hw02)).mono ?_); rintro e w3 ⟨v3, rfl, ho3, hE3⟩)
  clear x0 x1 x2 c0
  go_cut [] from 9 (fun wc => Ext w0 wc)
  case first =>
    have hw03 := hw02.trans hE3
    cases hq : ptB k g (ps.map (·.1))
    · have hpr : partR k g (ps.map (·.1)) = ([], 1) := by unfold partR; rw [hq]; rfl
      rw [hpr]
      clear ho3 hpr
      go_wp2_with fail
      go_meet
      case rel => exact hw03
    · have hwl := wholeP_few2 hq
      have hmap : (ps.map (·.1)).length ≤ 30 := by rw [List.length_map]; exact hps30
      have hpr : partR k g (ps.map (·.1)) = (wholeP k g (ps.map (·.1)), 0) := by unfold partR; rw [hq, if_pos rfl, if_pos (by omega)]
      rw [hpr] at ho3 ⊢
      simp only at ho3 ⊢
      obtain ⟨B, hB⟩ : ∃ B, B = wholeP k g (ps.map (·.1)) := ⟨_, rfl⟩
      rw [← hB] at ho3 hwl
      have hB1 : 3 ≤ B.length := hwl.2
      have hB2 : B.length ≤ 75200 := by omega
      have hgp := gp_put hq hB (by omega)
      have HCUT := Lib.hid (fun (j : Nat) (hj : j < B.length) => (by rw [hB] at hj ⊢; exact gp_cut hq (by rw [← hB]; omega) hj : gpErr (B.take j) = 8))
      have HMORE : Hid (gpErr (B ++ [0]) = 6) := Lib.hid (by rw [hB]; exact gp_more hq (by simp) (by rw [List.length_append, ← hB]; simp; omega))
      obtain ⟨g3, c3, rfl, hc31, hc32⟩ := ownB_form ho3 (by omega)
      unfold maxLen at hc32
      obtain ⟨I, hI⟩ : ∃ I : Nat, (I : Int) = at_ % (B.length : Int) := ⟨(at_ % (B.length : Int)).toNat, by have := Int.emod_nonneg at_ (show (B.length : Int) ≠ 0 by omega); omega⟩
      have hIl : I < B.length := by have := Int.emod_lt_of_pos at_ (show (0 : Int) < (B.length : Int) by omega); omega
      have HI := Lib.hid hI.symm
      have HE1 := Lib.hid hgp.1
      have HE2 := Lib.hid hgp.2
      have HQ := Lib.hid hq
      clear hpr hB hwl hgp hI hq hmap
      go_wp2_with ((guard_target =~ wpList _ _ _ (Oper.mk (some 52) _ _ _ _ _ :: _) _ _); go_must (refine wpList_cloneB (by rfl) (.const (.slice none 0 0)) (.tmp 51) rfl rfl (by rfl) (OwnB.bytes ho3) (by omega) ?_); intro v4 w4 ho4 hE4; obtain ⟨a4, c4, rfl⟩ := ownB_shapeP (id ho4))
      refine (pk_getpart _ B w4 (OwnB.bytes ho4) (by omega) (own_low ho4) (hT.ext (hw03.trans hE4))).mono ?_
      rintro e w5 ⟨u5, ps5, rfl, hr5, hm5, hE5⟩
      rw [HE1.out, HE2.out]
      rw [HE2.out] at hm5
      simp only at hm5 ⊢
      obtain ⟨a5, c5, rfl⟩ := hr5.shape
      have hw05 := (hw03.trans hE4).trans hE5
      have hE6 : Ext w5 (w5.alloc (.cells #[.string k, .int .i64 g, .slice a5 ps5.length c5] 30)) := (Ext.refl w5).alloc _
      have hb6 := BoxAt.made w5 #[.string k, .int .i64 g, .slice a5 ps5.length c5] 30
      have hr6 := hr5.rows.ext hE6
      have hw06 := hw05.trans hE6
      have c6 := b0.ext hw06
      have ho6 := ho3.ext ((hE4.trans hE5).trans hE6)
      unfold pa3
      have x0 : (w5.alloc (.cells #[.string k, .int .i64 g, .slice a5 ps5.length c5] 30)).cell? ⟨w.heap.size, 0, none⟩ = some (.string k) := c6.cell 0
      have x1 : (w5.alloc (.cells #[.string k, .int .i64 g, .slice a5 ps5.length c5] 30)).cell? ⟨w.heap.size, 1, none⟩ = some (.int .i64 g) := c6.cell 1
      have x2 : (w5.alloc (.cells #[.string k, .int .i64 g, .slice a5 ps5.length c5] 30)).cell? ⟨w.heap.size, 2, none⟩ = some (.slice au ps.length cu) := c6.cell 2
      have z0 : ∀ o, (w5.alloc o).cell? ⟨w.heap.size, 0, none⟩ = some (.string k) := fun o => (b0.ext hw05).allocs o 0
      have z1 : ∀ o, (w5.alloc o).cell? ⟨w.heap.size, 1, none⟩ = some (.int .i64 g) := fun o => (b0.ext hw05).allocs o 1
      have z2 : ∀ o, (w5.alloc o).cell? ⟨w.heap.size, 2, none⟩ = some (.slice au ps.length cu) := fun o => (b0.ext hw05).allocs o 2
      have hB3 : decide ((B.length : Int) < 3) = false := by simp; omega
      go_wp2_with (go_at_call 28; go_must (refine (same8_alike k g _ _ ps5 ps _ hr6 (hin.ext hw06) hm5).mono ?_); rintro e w7 ⟨rfl, hE7⟩)
      have hw07 := hw06.trans hE7
      have ho7 := ho6.ext hE7
      clear x0 x1 x2 z0 z1 z2
      -- cut
      go_wp2_with (first
        | (go_at_call 16; go_must (refine (place_any _ _ (by omega) (by omega) _).mono ?_); rintro e w8 ⟨rfl, rfl⟩; rw [HI.out])
        | ((guard_target =~ wpList _ _ _ (Oper.mk (some 75) _ _ _ _ _ :: _) _ _); go_must (refine wpList_subToV (by rfl) (.tmp 70) (.tmp 74) rfl (l := B) (hi := I) rfl rfl (OwnB.bytes ho7) (by omega) ?_); intro h75))
      have hg3 := own_low ho7 g3 0 B.length c3 rfl
      refine (pk_getpart _ (B.take I) _ h75 (by rw [List.length_take]; omega) (fun b o k' c' e => by rw [subV_low b o k' c' e]; exact hg3) (hT.ext hw07)).mono ?_
      rintro e w9 ⟨u9, ps9, rfl, hr9, hm9, hE9⟩
      have hc8 := HCUT.out I hIl
      rw [hc8, gp_none (by rw [hc8]; decide)]
      obtain ⟨a9, c9, rfl⟩ := hr9.shape
      have hw09 := hw07.trans hE9
      have hE10 : Ext w9 (w9.alloc (.cells #[.string ⟨#[]⟩, .int .i64 0, .slice a9 ps9.length c9] 30)) := (Ext.refl w9).alloc _
      have hw10 := hw09.trans hE10
      have ho10 := ho7.ext (hE9.trans hE10)
      unfold pa3
      simp only
      clear hc8
      -- more
      go_wp2_with (first
        | ((guard_target =~ wpList _ _ _ (Oper.mk (some 81) _ _ _ _ _ :: _) _ _); go_must (refine wpList_cloneB (by rfl) (.const (.slice none 0 0)) (.tmp 80) rfl rfl (by rfl) (OwnB.bytes ho10) (by omega) ?_); intro v11 w11 ho11 hE11; obtain ⟨a11, c11, rfl⟩ := ownB_shapeP (id ho11))
        | ((guard_target =~ wpList _ _ _ (Oper.mk (some 83) _ _ _ _ _ :: _) _ _); go_must (refine wpList_ownB (by rfl) (.tmp 81) (.tmp 82) rfl (B := (w9.alloc (.cells #[.string ⟨#[]⟩, .int .i64 0, .slice a9 ps9.length c9] 30)).heap.size) (v := .slice a11 B.length c11) (u := .slice (some ⟨w11.heap.size, 0, none⟩) 1 1) (l := B) (m := [0]) rfl rfl (Nat.le_trans hE11.le ((Ext.refl w11).alloc (.cells #[.int .u8 0] 5)).le) (ho11.ext ((Ext.refl w11).alloc _)) ⟨_, _, rfl, Nat.le_refl _, by unfold maxLen; decide, nofun, fun j u hj => ⟨w11.heap.size, 0, rfl, by rw [Nat.zero_add, (BoxAt.made w11 #[.int .u8 0] 5).cell j]; simpa [bcells] using hj⟩⟩ (by simp; omega) ?_); intro v12 w12 ho12 hg12; obtain ⟨a12, c12, rfl⟩ := ownB_shapeP (id ho12)))
      have hl12 : (B ++ [(0 : UInt8)]).length = B.length + 1 := by simp
      have hw12 := ((hw10.trans hE11).alloc (.cells #[.int .u8 0] 5)).grownOwn (ho11.ext ((Ext.refl w11).alloc _)) hw10.le hg12
      rw [hl12] at ho12
      refine (pk_getpart _ (B ++ [0]) w12 (OwnB.bytes ho12) (by omega) (own_low ho12) (hT.ext hw12)).mono ?_
      rintro e w13 ⟨u13, ps13, rfl, hr13, hm13, hE13⟩
      rw [HMORE.out, gp_none (by rw [HMORE.out]; decide)]
      obtain ⟨a13, c13, rfl⟩ := hr13.shape
      have hw13 := hw12.trans hE13
      have hE14 : Ext w13 (w13.alloc (.cells #[.string ⟨#[]⟩, .int .i64 0, .slice a13 ps13.length c13] 30)) := (Ext.refl w13).alloc _
      have hw14 := hw13.trans hE14
      clear hl12
      unfold pa3
      simp only
      go_wp2_with fail
      go_meet
      case rel => exact hw14
  case rest =>
    -- a batch, there and back
    have hMb := few_low (HF2.out trivial).2.1
    have hAb2 : ∀ x ∈ A, x.body.size ≤ 1000000 := fun x hx => by have := (HF2.out trivial).2.2.2.2 x hx; omega
    have k2 := Lib.hid (batch_gen _ _ _ M A D wc (hT.ext hcut) (hM.ext hcut) (hA.ext hcut) (SliceIn.ext hcut hD) hMb hAb2)
    have d0 := b1.ext hcut
    have y0 : wc.cell? ⟨w.heap.size + 1, 0, none⟩ = some (.slice am M.length cm) := d0.cell 0
    have y1 : wc.cell? ⟨w.heap.size + 1, 1, none⟩ = some (.slice aa A.length ca) := d0.cell 1
    have y2 : wc.cell? ⟨w.heap.size + 1, 2, none⟩ = some (.slice ad D.length cd) := d0.cell 2
    clear hMb hAb2
    go_upto_if 99 with (go_at_call 22; go_must (refine k2.out.mono ?_); rintro e w3 ⟨v3, rfl, ho3, hE3⟩)
    clear y0 y1 y2 d0 k2
    obtain ⟨wd, hwd⟩ : ∃ wd, wd = wc := ⟨_, rfl⟩
    rw [← hwd] at hcut hE3 ho3
    clear hwd
    go_cut [] from 9 (fun wc => Ext w0 wc)
    case first =>
      have hw03 := hcut.trans hE3
      by_cases hb : (batR M A D).2 = 0
      · have hcb : cbG M A D = true := by
          cases hc : cbG M A D
          · unfold batR at hb; rw [hc] at hb; simp at hb
          · rfl
        have hlen : (batP M A D).length ≤ 262144 := by
          by_cases h : (batP M A D).length ≤ 262144
          · exact h
          · unfold batR at hb; rw [hcb, if_pos rfl, if_neg h] at hb; simp at hb
        have hbr : batR M A D = (batP M A D, 0) := by unfold batR; rw [hcb, if_pos rfl, if_pos hlen]
        have hgb := gb_put (B := batP M A D) (b := ⟨M.map Mt.q, A, D⟩) (by rw [← cbG_q]; exact hcb) (batP_q _ _ _) hlen
        have hB0 : 0 < (batP M A D).length := by unfold batP num; simp
        rw [hbr] at ho3 ⊢
        simp only at ho3 ⊢
        obtain ⟨B, hB⟩ : ∃ B, B = batP M A D := ⟨_, rfl⟩
        rw [← hB] at ho3 hgb hlen hB0
        have HG1 := Lib.hid hgb.1
        have HG2 := Lib.hid hgb.2
        clear hbr hB hgb hcb hb
        obtain ⟨g3, c3, rfl, hc31, hc32⟩ := ownB_form ho3 hB0
        unfold maxLen at hc32
        go_wp2_with ((guard_target =~ wpList _ _ _ (Oper.mk (some 102) _ _ _ _ _ :: _) _ _); go_must (refine wpList_cloneB (by rfl) (.const (.slice none 0 0)) (.tmp 101) rfl rfl (by rfl) (OwnB.bytes ho3) (by omega) ?_); intro v4 w4 ho4 hE4; obtain ⟨a4, c4, rfl⟩ := ownB_shapeP (id ho4))
        refine (pk_getbatch _ B w4 (OwnB.bytes ho4) (by omega) (own_low ho4) (hT.ext (hw03.trans hE4))).mono ?_
        rintro e w5 ⟨vm5, va5, vd5, ms5, rfl, hG5, hq5, hE5⟩
        rw [HG1.out]
        rw [HG2.out] at hG5 hq5
        simp only at hG5 hq5
        obtain ⟨a51, c51, rfl⟩ := hG5.mt.shape
        obtain ⟨a52, c52, rfl⟩ := hG5.nt.shape
        obtain ⟨a53, c53, rfl⟩ := hG5.it.shape
        have hw05 := (hw03.trans hE4).trans hE5
        have hE6 : Ext w5 (w5.alloc (.cells #[.slice a51 ms5.length c51, .slice a52 A.length c52, .slice a53 D.length c53] 39)) := (Ext.refl w5).alloc _
        have hG6 := hG5.ext hE6
        have hw06 := hw05.trans hE6
        have HQ5 := Lib.hid hq5
        clear hq5
        have z0 : ∀ o, (w5.alloc o).cell? ⟨w.heap.size + 1, 0, none⟩ = some (.slice am M.length cm) := fun o => (b1.ext hw05).allocs o 0
        have z1 : ∀ o, (w5.alloc o).cell? ⟨w.heap.size + 1, 1, none⟩ = some (.slice aa A.length ca) := fun o => (b1.ext hw05).allocs o 1
        have z2 : ∀ o, (w5.alloc o).cell? ⟨w.heap.size + 1, 2, none⟩ = some (.slice ad D.length cd) := fun o => (b1.ext hw05).allocs o 2
        go_wp2_with (go_at_call 29; go_must (refine (sameBt_any _ _ _ _ _ _ ms5 M HQ5.out A D _ ⟨hG6.mt.slice, fun m hm => (hG6.rows m hm).rows⟩ (hM.ext hw06) (nts_of hG6.nt) (hA.ext hw06) (ints_of hG6.it) (SliceIn.ext hw06 hD)).mono ?_); rintro e w7 ⟨rfl, hE7⟩)
        go_meet
        case rel => exact hw06.trans hE7
      · have hbi : ((batR M A D).2 == 0) = false := by simpa using hb
        obtain ⟨er, her⟩ : ∃ er, er = (batR M A D).2 := ⟨_, rfl⟩
        rw [← her] at hbi hb ⊢
        clear her
        go_wp2_with fail
        go_meet
        case rel => exact hw03
    case rest =>
      -- bytes that are a partition
      clear ho3
      obtain ⟨we, hwe⟩ : ∃ we, we = wc := ⟨_, rfl⟩
      rw [← hwe] at hcut ⊢
      have hX := hcut
      clear hwe hcut
      obtain ⟨S, hS⟩ : ∃ S, S = s.data.toList := ⟨_, rfl⟩
      have hSl : S.length ≤ 3000 := by rw [hS, dat_size]; exact hs30
      have HS := Lib.hid hS
      clear hS
      go_upto_if 121 with (first
        | ((guard_target =~ wpList _ _ _ (Oper.mk (some 116) _ _ _ _ _ :: _) _ _); go_must (refine wpList_strB (by rfl) (.tmp 115) rfl rfl (by unfold maxLen; omega) ?_); intro c23 w23 hby hE23 hsz23)
        | (go_at_call 17; go_must (refine (pk_getpart _ S w23 (by rw [HS.out]; exact hby) (by omega) (fun b o k c e => by cases e; omega) (hT.ext (hX.trans hE23))).mono ?_); rintro e w25 ⟨u25, ps25, rfl, hr25, hm25, hE25⟩; obtain ⟨a25, c25, rfl⟩ := hr25.shape; unfold pa3))
      have hw25 := (hX.trans hE23).trans hE25
      clear hby hsz23
      have hE26 : Ext w25 (w25.alloc (.cells #[.string (gpPt S).key, .int .i64 (gpPt S).gone, .slice a25 ps25.length c25] 30)) := (Ext.refl w25).alloc _
      have hw26 := hw25.trans hE26
      have hb26 := BoxAt.made w25 #[.string (gpPt S).key, .int .i64 (gpPt S).gone, .slice a25 ps25.length c25] 30
      have hr26 := hr25.rows.ext hE26
      generalize (w25.alloc (.cells #[.string (gpPt S).key, .int .i64 (gpPt S).gone, .slice a25 ps25.length c25] 30)) = w26 at hE26 hw26 hb26 hr26 ⊢
      go_cut [] from 9 (fun wc => Ext w0 wc)
      case first =>
        by_cases hg : gpErr S = 0
        · have hback := gp_back hg
          obtain ⟨⟨key, gone, rows⟩, hG⟩ : ∃ p, gpPt S = p := ⟨_, rfl⟩
          rw [hG] at hback hm25 hb26 ⊢
          rw [hg]
          simp only at hback hm25 hb26 ⊢
          rw [← hm25] at hback
          have hpr2 : partR key gone (ps25.map (·.1)) = (S, 0) := by unfold partR; rw [hback.1, if_pos rfl, hback.2.1, if_pos hback.2.2]
          have k6 := pk_part key gone _ ps25 w26 hr26 (gen_lowB hback.1) (hT.ext hw26)
          rw [hpr2] at k6
          have K6 := Lib.hid k6
          have x0 : w26.cell? ⟨w25.heap.size, 0, none⟩ = some (.string key) := hb26.cell 0
          have x1 : w26.cell? ⟨w25.heap.size, 1, none⟩ = some (.int .i64 gone) := hb26.cell 1
          have x2 : w26.cell? ⟨w25.heap.size, 2, none⟩ = some (.slice a25 ps25.length c25) := hb26.cell 2
          have hse : Hid (str S = s) := Lib.hid (by rw [HS.out]; rfl)
          have hne : (s.toList != s.toList) = false := by simp
          clear hG hback hpr2 hm25 k6 hg
          go_wp2_with (first
            | (go_at_call 14; go_must (refine K6.out.mono ?_); rintro e w7 ⟨v7, rfl, ho7, hE7⟩; simp only at ho7; obtain ⟨a7, c7, rfl⟩ := ownB_shapeP (id ho7))
            | ((guard_target =~ wpList _ _ _ (Oper.mk (some 131) _ _ _ _ _ :: _) _ _); go_must (refine wpList_convert_bytes rfl 24 9 5 (.tmp 130) rfl und_bytes und_u8 und_string (OwnB.bytes ho7) ?_); rw [hse.out]))
          go_meet
          case rel => exact hw26.trans hE7
        · have hbi : (gpErr S == 0) = false := by simpa using hg
          obtain ⟨er, her⟩ : ∃ er, er = gpErr S := ⟨_, rfl⟩
          rw [← her] at hbi hg ⊢
          clear her
          go_wp2_with fail
          go_meet
          case rel => exact hw26
      case rest =>
        -- bytes that are a batch
        obtain ⟨wf, hwf⟩ : ∃ wf, wf = wc := ⟨_, rfl⟩
        rw [← hwf] at hcut ⊢
        have hY := hcut
        clear hwf hcut
        go_upto_if 142 with (first
          | ((guard_target =~ wpList _ _ _ (Oper.mk (some 137) _ _ _ _ _ :: _) _ _); go_must (refine wpList_strB (by rfl) (.tmp 136) rfl rfl (by unfold maxLen; omega) ?_); intro c33 w33 hby hE33 hsz33)
          | (go_at_call 26; go_must (refine (pk_getbatch _ S w33 (by rw [HS.out]; exact hby) (by omega) (fun b o k c e => by cases e; omega) (hT.ext (hY.trans hE33))).mono ?_); rintro e w35 ⟨vm35, va35, vd35, ms35, rfl, hG35, hq35, hE35⟩; obtain ⟨a351, c351, rfl⟩ := hG35.mt.shape; obtain ⟨a352, c352, rfl⟩ := hG35.nt.shape; obtain ⟨a353, c353, rfl⟩ := hG35.it.shape))
        have hw35 := (hY.trans hE33).trans hE35
        clear hby hsz33
        have hE36 : Ext w35 (w35.alloc (.cells #[.slice a351 ms35.length c351, .slice a352 (gbBt S).add.length c352, .slice a353 (gbBt S).drop.length c353] 39)) := (Ext.refl w35).alloc _
        have hw36 := hw35.trans hE36
        have hb36 := BoxAt.made w35 #[.slice a351 ms35.length c351, .slice a352 (gbBt S).add.length c352, .slice a353 (gbBt S).drop.length c353] 39
        have hG36 := hG35.ext hE36
        generalize (w35.alloc (.cells #[.slice a351 ms35.length c351, .slice a352 (gbBt S).add.length c352, .slice a353 (gbBt S).drop.length c353] 39)) = w36 at hE36 hw36 hb36 hG36 ⊢
        go_cut [] from 9 (fun wc => Ext w0 wc)
        case first =>
          by_cases hg : gbErr S = 0
          · have hback := gb_back hg
            have hlowB := (btR_low S (0, if S.length ≤ 262144 then 0 else 2))
            have hgb1 : (btR S (0, if S.length ≤ 262144 then 0 else 2)).1 = gbBt S := by unfold gbBt; rw [if_pos hg]; rfl
            rw [hgb1] at hlowB
            obtain ⟨⟨MQ, AQ, DQ⟩, hG⟩ : ∃ p, gbBt S = p := ⟨_, rfl⟩
            rw [hG] at hback hq35 hb36 hG36 hlowB ⊢
            rw [hg]
            simp only at hback hq35 hb36 hG36 hlowB ⊢
            rw [← hq35, ← cbG_q] at hback
            have hb2 := hback.2.1
            rw [← batP_q] at hb2
            have hbr : batR ms35 AQ DQ = (S, 0) := by unfold batR; rw [hback.1, if_pos rfl, hb2, if_pos hback.2.2]
            have hMb : ∀ x ∈ ms35, x.table.size ≤ 1000000 ∧ ∀ p ∈ x.pa.ps, ∀ c ∈ p.1.cols, c.name.size ≤ 1000000 := fun x hx => by
              have h1 := hlowB.1 x.q (by rw [← hq35]; exact List.mem_map_of_mem hx)
              exact ⟨Nat.le_trans h1.1 (by omega), fun p hp c hc => Nat.le_trans (h1.2 p.1 (List.mem_map_of_mem (f := (·.1)) hp) c hc) (by omega)⟩
            have k6 := batch_gen _ _ _ ms35 AQ DQ w36 (hT.ext hw36) ⟨hG36.mt.slice, fun m hm => (hG36.rows m hm).rows⟩ (nts_of hG36.nt) (ints_of hG36.it) hMb (fun x hx => Nat.le_trans (hlowB.2 x hx) (by omega))
            rw [hbr] at k6
            have K6 := Lib.hid k6
            have x0 : w36.cell? ⟨w35.heap.size, 0, none⟩ = some (.slice a351 ms35.length c351) := hb36.cell 0
            have x1 : w36.cell? ⟨w35.heap.size, 1, none⟩ = some (.slice a352 AQ.length c352) := hb36.cell 1
            have x2 : w36.cell? ⟨w35.heap.size, 2, none⟩ = some (.slice a353 DQ.length c353) := hb36.cell 2
            have hse : Hid (str S = s) := Lib.hid (by rw [HS.out]; rfl)
            have hne : (s.toList != s.toList) = false := by simp
            clear hG hback hbr hq35 k6 hg hMb hlowB hb2 hgb1
            go_wp2_with (first
              | (go_at_call 22; go_must (refine K6.out.mono ?_); rintro e w7 ⟨v7, rfl, ho7, hE7⟩; simp only at ho7; obtain ⟨a7, c7, rfl⟩ := ownB_shapeP (id ho7))
              | ((guard_target =~ wpList _ _ _ (Oper.mk (some 152) _ _ _ _ _ :: _) _ _); go_must (refine wpList_convert_bytes rfl 24 9 5 (.tmp 151) rfl und_bytes und_u8 und_string (OwnB.bytes ho7) ?_); rw [hse.out]))
            go_meet
            case rel => exact hw36.trans hE7
          · have hbi : (gbErr S == 0) = false := by simpa using hg
            obtain ⟨er, her⟩ : ∃ er, er = gbErr S := ⟨_, rfl⟩
            rw [← her] at hbi hg ⊢
            clear her
            go_wp2_with fail
            go_meet
            case rel => exact hw36
        case rest =>
          go_wp2_with (go_at_call 13; go_must (refine (awake9_any _ (hT.ext hcut)).mono ?_); rintro e w7 ⟨rfl, hE7⟩)
          go_ret
          exact ⟨rfl, (hE0.trans hcut).trans hE7⟩

theorem walk_packBack (v0 v1 : Value) (s : ByteArray) (a3 : Int) (W : World) (w0 : ∃ (k : ByteArray) (g : Int) (u : Value) (ps : List (Ro × Value)), v0 = .agg #[.string k, .int .i64 g, u] ∧ RowsIn W u ps)
    (w1 : ∃ (vm va vd : Value) (M : List Mt) (A : List Nt) (D : List Int), v1 = .agg #[vm, va, vd] ∧ MtsIn W vm M ∧ NtsIn W va A ∧ IntsIn W vd .i64 D ∧ (∀ m ∈ M, m.table.size ≤ maxLen) ∧ ∀ a ∈ A, a.body.size ≤ maxLen) (hs : s.size ≤ maxLen) (_ : (Lit.int .i64 a3).wf = true) (hT : TabU W) :
    Calls Tryd.prog 5 #[v0, v1, .string s, .int .i64 a3] W fun e w' => e = .returned (.bool true) ∧ Ext W w' := by
  obtain ⟨k, g, u, ps, rfl, hp⟩ := w0
  obtain ⟨vm, va, vd, M, A, D, rfl, hM, hA, hD, _, hAb⟩ := w1
  exact law_packBack k g u ps vm va vd M A D s a3 W hp hM hA hD hAb hs hT
end Go.Proofs.YtdkkbglfipkmdaaDoor
