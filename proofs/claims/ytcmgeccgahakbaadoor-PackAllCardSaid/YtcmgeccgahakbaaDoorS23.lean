/- The reference of chapter 9: GetBatch. -/
import Derived.Test.YtcmgeccgahakbaaDoorS22
import Derived.Test.YtcmgeccgahakbaaDoorS19
import Derived.Test.YtcmgeccgahakbaaDoorS20
import Derived.Deep.RegionLaw
import Derived.Deep.AppendLies
import Derived.Test.YtcmgeccgahakbaaDoorS14
import Derived.Test.YtcmgeccgahakbaaDoorS15
import Derived.Test.YtcmgeccgahakbaaDoorS16
import Derived.Test.YtcmgeccgahakbaaDoorS17
import Derived.Test.YtcmgeccgahakbaaDoorS21
import Derived.Test.YtcmgeccgahakbaaDoorS11
import Derived.Test.YtcmgeccgahakbaaDoorProg
import Derived.Test.YtcmgeccgahakbaaDoorS5
set_option linter.unusedSimpArgs false
set_option linter.unusedVariables false
namespace Go.Proofs.YtcmgeccgahakbaaDoor
open Go Go.RowKit
attribute [local go_sem] yields yUpon

theorem info_Note : (Tryd.prog.info? 94).map (fun i => (i.zero, i.size, i.bytes)) = some (some (.agg #[.int .i64 0, .string ⟨#[]⟩]), 2, 24) := by kernel_rfl
theorem und_Notes : Tryd.prog.underlying 26 = some (.slice 94) := by kernel_rfl
section
variable {w w' : World} {vm va vd : Value} {ms : List Mt} {A : List Nt} {D : List Int}
theorem Got.touchR {q : Nat} {W : Array Value} (h : Got w vm va vd ms A D) (hT : Touch9 w w' q) (hq : BoxAt w q W 105) : Got w' vm va vd ms A D :=
  ⟨h.mt.touch9 hT hq (by decide), fun m hm => (h.rows m hm).touch9 hT hq (by decide) (by decide), h.nt.touch9 hT hq (by decide), h.it.touch9 hT hq (by decide)⟩
theorem Got.keepN {B size m : Nat} {vo : Value} {ys : List Value} (h : Got w vm (.slice Option.none 0 0) (.slice Option.none 0 0) ms [] []) (hown : w.ownsRow B 94 size vo m ys) (hg : w.grownBy w' vo.ownBlock) : Got w' vm (.slice Option.none 0 0) (.slice Option.none 0 0) ms [] [] :=
  ⟨TIn.keepOwn hown hg (by decide) h.mt, fun m hm => RowsT.keepOwn hown hg (by decide) (by decide) (h.rows m hm), TIn.nil _ _, TIn.nil _ _⟩
theorem Got.keepI {B size m : Nat} {vo : Value} {ys : List Value} (h : Got w vm va (.slice Option.none 0 0) ms A []) (hown : w.ownsRow B 3 size vo m ys) (hg : w.grownBy w' vo.ownBlock) : Got w' vm va (.slice Option.none 0 0) ms A [] :=
  ⟨TIn.keepOwn hown hg (by decide) h.mt, fun m hm => RowsT.keepOwn hown hg (by decide) (by decide) (h.rows m hm), TIn.keepOwn hown hg (by decide) h.nt, TIn.nil _ _⟩
end
theorem ki_app (D : List Int) (x : Int) : kcells .i64 (D ++ [x]) = kcells .i64 D ++ [.int .i64 x] := by simp [kcells]
theorem nt_app (D : List Nt) (x : Nt) : (D ++ [x]).flatMap Nt.cells = D.flatMap Nt.cells ++ x.cells := by simp

set_option maxRecDepth 100000 in
set_option maxHeartbeats 16000000 in
theorem r9_getbatch (S : ByteArray) (w : World) (hS : S.size ≤ 262144) :
    Calls Tryd.prog 21 #[.string S] w fun e w' => ∃ vm va vd ms, e = .returned (.tuple #[.agg #[vm, va, vd], .int .i64 (gbErr S.data.toList)]) ∧ Got w' vm va vd ms (gbBt S.data.toList).add (gbBt S.data.toList).drop ∧ ms.map Mt.q = (gbBt S.data.toList).muts ∧ Ext w w' := by
  have hE0 := (Ext.refl w).alloc (.cells #[.slice none 0 0, .slice none 0 0, .slice none 0 0] 29)
  have b2 := BoxAt.made w #[.slice none 0 0, .slice none 0 0, .slice none 0 0] 29
  obtain ⟨l, hl⟩ : ∃ l, l = S.data.toList := ⟨_, rfl⟩
  have hll : l.length ≤ 262144 := by rw [hl, dat_size9]; exact hS
  rw [← hl]
  obtain ⟨ML, s1, hM⟩ : ∃ M s1, listR l (mutR l) (0, 0) = (M, s1) := ⟨_, _, rfl⟩
  obtain ⟨AL, s2, hA⟩ : ∃ M t, listR l (noteR l) s1 = (M, t) := ⟨_, _, rfl⟩
  obtain ⟨DL, s3, hD⟩ : ∃ M t, listR l (numIR l) s2 = (M, t) := ⟨_, _, rfl⟩
  obtain ⟨i4, e4, h4⟩ : ∃ i e, endR l s3 = (i, e) := ⟨_, _, rfl⟩
  obtain ⟨N1, r1, hN1⟩ : ∃ N t, cntR l s1 = (N, t) := ⟨_, _, rfl⟩
  obtain ⟨N2, r2, hN2⟩ : ∃ N t, cntR l s2 = (N, t) := ⟨_, _, rfl⟩
  have hA2 : manyR (noteR l) N1 r1 = (AL, s2) := by
    have h := hA
    unfold listR at h
    rw [hN1] at h
    exact h
  have hD2 : manyR (numIR l) N2 r2 = (DL, s3) := by
    have h := hD
    unfold listR at h
    rw [hN2] at h
    exact h
  have hbt : btR l (0, 0) = (⟨ML, AL, DL⟩, (i4, e4)) := by
    unfold btR
    rw [hM]
    simp only
    rw [hA]
    simp only
    rw [hD]
    simp only
    rw [h4]
  have hgB : gB l = (⟨ML, AL, DL⟩, (i4, e4)) := by
    unfold gB
    rw [if_pos hll]
    exact hbt
  have hlw := btR_low l (0, 0)
  rw [hbt] at hlw
  simp only at hlw
  have HLM := far hlw.1
  have HLA := far hlw.2
  have HN1 := far hN1
  have HN2 := far hN2
  have HA := far hA2
  have HD := far hD2
  have HGB := far hgB
  have HL := far hl
  have HLL := far hll
  have hsz : (w.alloc (.cells #[.slice none 0 0, .slice none 0 0, .slice none 0 0] 29)).heap.size = w.heap.size + 1 := by simp
  have hd : ¬ (262144 : Int) < (S.size : Int) := by omega
  have h1 : RqAt ((w.alloc (.cells #[.slice none 0 0, .slice none 0 0, .slice none 0 0] 29)).alloc (.cells #[.string S, .int .i64 0, .int .i64 0] 105)) (w.heap.size + 1) S (0, 0) := ⟨BoxAt.madeN _ _ hsz, Nat.zero_le _, by omega⟩
  have hE1 := hE0.alloc (.cells #[.string S, .int .i64 0, .int .i64 0] 105)
  have b21 := b2.ext ((Ext.refl _).alloc (.cells #[.string S, .int .i64 0, .int .i64 0] 105))
  have hq2 : w.heap.size ≠ w.heap.size + 1 := by omega
  have k1 := rq_muts h1
  rw [← hl, hM] at k1
  simp only at k1
  have K1 := far k1
  have HEN : Far (∀ q (u : World), RqAt u q S s3 → Calls Tryd.prog 66 #[.pointer (some ⟨q, 0, none⟩)] u fun e w' => e = .returned (.tuple #[]) ∧ RqAt w' q S (i4, e4) ∧ Touch9 u w' q) := far (fun q u hu => by
    have h := rq_end hu
    rw [← hl, h4] at h
    exact h)
  have hb1 : Far (∀ {u : World} {q : Nat}, RqAt u q S s1 → N1 ≤ 900000) := far (fun hu => by
    have h9 := cntR_big (B := S.data.toList) (s := s1) hu.len (by rw [dat_size9]; exact hu.big)
    rw [← hl, hN1] at h9
    exact h9)
  have hb2 : Far (∀ {u : World} {q : Nat}, RqAt u q S s2 → N2 ≤ 900000) := far (fun hu => by
    have h9 := cntR_big (B := S.data.toList) (s := s2) hu.len (by rw [dat_size9]; exact hu.big)
    rw [← hl, hN2] at h9
    exact h9)
  clear k1 hA hA2 hD hD2 h4 hN1 hN2 hgB hbt hlw hM hl hll
  go_enter Tryd.func21, Tryd.ntmps21
  go_wp2_with fail
  obtain ⟨Q, hQ⟩ : ∃ Q, Q = w.heap.size + 1 := ⟨_, rfl⟩
  have hK1 := K1.out
  rw [← hQ] at h1 hq2 hK1 ⊢
  have hQ1 : w.heap.size ≤ Q := by omega
  clear hQ hsz K1
  generalize World.alloc (World.alloc w _) _ = w1 at h1 hE1 b21 hK1 ⊢
  clear hE0 b2
  -- the mutations
  refine hK1.mono ?_
  clear hK1
  rintro e w2 ⟨u1, ms, rfl, ho2, hr2, hm2, h2, hT2⟩
  obtain ⟨a1, c1, rfl⟩ := own_shape (id ho2)
  have HMS := far hm2
  have G2 : Got w2 (.slice a1 ms.length c1) (.slice none 0 0) (.slice none 0 0) ms [] [] := ⟨TIn.own ho2, hr2, (Got.none w2).nt, (Got.none w2).it⟩
  have b22 := hT2.box b21 hq2
  have hX2 : Ext w w2 := hT2.ext hE1 hQ1
  have b3 := BoxAt.made w2 #[.slice a1 ms.length c1, .slice none 0 0, .slice none 0 0] 29
  have hEa := (Ext.refl w2).alloc (.cells #[.slice a1 ms.length c1, .slice none 0 0, .slice none 0 0] 29)
  have h3 := h2.ext hEa
  have b23 := b22.ext hEa
  have hX3 := hX2.trans hEa
  have G3 := G2.ext hEa
  have hq3 : w2.heap.size ≠ Q := by have := h2.lt; omega
  have hQp : Q < w2.heap.size := h2.lt
  have hp2 : w2.heap.size ≠ w.heap.size := by have := b22.lt; omega
  have hle : w.heap.size ≤ w2.heap.size := hX2.le
  have hsz3 : w2.heap.size + 1 ≤ (w2.alloc (.cells #[.slice a1 ms.length c1, .slice none 0 0, .slice none 0 0] 29)).heap.size := by simp
  obtain ⟨p, hp⟩ : ∃ p, p = w2.heap.size := ⟨_, rfl⟩
  clear ho2 hr2 hm2 b21 h1 hT2 G2 b22 h2 hE1 hX2
  go_wp2_with fail
  rw [← hp] at b3 hq3 hQp hp2 hle hsz3 ⊢
  clear hp
  generalize World.alloc w2 _ = w3 at b3 h3 b23 hX3 G3 hsz3 hEa ⊢
  clear hEa
  have hbn1 := hb1.out h3
  refine (rq_count h3).mono ?_
  rintro e w4 ⟨rfl, h4, hT4⟩
  rw [← HL.out, HN1.out] at h4
  simp only at h4
  rw [← HL.out, HN1.out]
  have b24 := hT4.box b23 hq2
  have b34 := hT4.box b3 hq3
  have G4 := G3.touchR hT4 h3.box
  have hX4 : Ext w w4 := hT4.ext hX3 hQ1
  have hsz4 : p + 1 ≤ w4.heap.size := Nat.le_trans hsz3 hT4.size
  clear h3 b23 b3 G3 hX3 hT4 hsz3
  simp only
  go_wp2_with fail
  go_loopw [7] (fun i wr => ∃ (k kk : Nat) (D : List Nt) (vo : Value) (t : Nat × Int), k + kk = N1 ∧ D.length ≤ k ∧ i = .int .i64 (k : Int) ∧ RqAt wr Q S t ∧ Ext w wr ∧ BoxAt wr w.heap.size #[.slice none 0 0, .slice none 0 0, .slice none 0 0] 29 ∧ BoxAt wr p #[.slice a1 ms.length c1, vo, .slice none 0 0] 29 ∧ Hid (Got wr (.slice a1 ms.length c1) (.slice none 0 0) (.slice none 0 0) ms [] []) ∧ wr.ownsRow (p + 1) 94 2 vo D.length (D.flatMap Nt.cells) ∧ p + 1 ≤ wr.heap.size ∧ Far ((AL, s2) = (D ++ (manyR (noteR l) kk t).1, (manyR (noteR l) kk t).2))) (fun i _ => N1 - (intOf i).toNat)
  case atStart => exact ⟨0, N1, [], _, r1, Nat.zero_add _, Nat.le_refl _, rfl, h4, hX4, b24, b34, Lib.hid G4, World.ownsRow_nil _ _ _ _, hsz4, far HA.out.symm⟩
  case round =>
    clear h4 hX4 b24 b34 G4 hsz4
    obtain ⟨k, kk, D, vo, ⟨i, e⟩, hkk, hDk, rfl, ht, hX, bz, bp, HG, hown, hsz, HX⟩ := hrel
    obtain ⟨ua, uc, rfl⟩ := own_shape (id hown)
    have c2 : wr.cell? ⟨Q, 2, none⟩ = some (.int .i64 e) := ht.c2
    by_cases hgo : k < N1 ∧ e = 0
    · obtain ⟨hkN, rfl⟩ := hgo
      obtain ⟨kk, rfl⟩ : ∃ k', kk = k' + 1 := ⟨kk - 1, by omega⟩
      obtain ⟨ID, t1, hZ⟩ : ∃ Z t1, numR l (i, 0) = (Z, t1) := ⟨_, _, rfl⟩
      obtain ⟨T, t2, hT⟩ : ∃ T t2, txtR l t1 = (T, t2) := ⟨_, _, rfl⟩
      have HNO : Far (noteR l (i, 0) = (⟨(ID : Int), T⟩, t2)) := far (by
        unfold noteR
        rw [hZ]
        simp only
        rw [hT])
      have HZ := far hZ
      have HT := far hT
      clear hZ hT
      go_upto_region 10 with (go_at_call 79; go_must (refine (rq_num ht).mono ?_); rintro e' w4 ⟨rfl, h4, hT4⟩; rw [← HL.out, HZ.out] at h4; simp only at h4; rw [← HL.out, HZ.out])
      have bz4 := hT4.box bz hq2
      have bp4 := hT4.box bp hq3
      have hX4 : Ext w w4 := hT4.ext hX hQ1
      have hown4 := hT4.owns hown (by omega)
      have HG4 := Lib.hid (HG.out.touchR hT4 ht.box)
      have hsz4 := Nat.le_trans hsz hT4.size
      clear bz bp hX hown HG hsz c2 ht hT4
      go_wp2_with fail
      have bz2 := bz4.ext (Ext.refl w4).drew
      have bp2 := bp4.ext (Ext.refl w4).drew
      have hown2 := ownsRow_ext hown4 (Ext.refl w4).drew
      have h2d := h4.ext (Ext.refl w4).drew
      have hX2d : Ext w w4.drew := hX4.trans (Ext.refl w4).drew
      have hszd : p + 1 ≤ w4.drew.heap.size := Nat.le_trans hsz4 (Ext.refl w4).drew.le
      have HG2 := Lib.hid (HG4.out.ext (Ext.refl w4).drew)
      have y7 : w4.drew.cell? ⟨p, 1, none⟩ = some (.slice ua D.length uc) := bp2.cell 1
      clear bz4 bp4 hown4 h4 hX4 hsz4 HG4
      obtain ⟨i0, hi, hz0, hz1, hz2⟩ := info_parts info_Note
      go_region_law (first
        | (go_simp; go_at_call 80; go_must (refine (rq_text h2d).mono ?_); rintro e' w5 ⟨rfl, h5, hT5⟩; rw [← HL.out, HT.out] at h5; simp only at h5; rw [← HL.out, HT.out]; have bz5 := hT5.box bz2 hq2; have bp5 := hT5.box bp2 hq3; have hown5 := hT5.owns hown2 (by omega); have hsz5 := Nat.le_trans hszd hT5.size; have HG5 := Lib.hid (HG2.out.touchR hT5 h2d.box); have hX5 : Ext w w5 := hT5.ext hX2d hQ1; have y7 : w5.cell? ⟨p, 1, none⟩ = some (.slice ua D.length uc) := bp5.cell 1; have y7a : ∀ o, (w5.alloc o).cell? ⟨p, 1, none⟩ = some (.slice ua D.length uc) := fun o => bp5.allocs o 1)
        | (refine step_append_lies (w5.alloc (.cells #[.int .i64 (ID : Int), .string T] 94)) rfl (.tmp 37) (.tmp 42) 26 rfl (p + 1) 94 i0 _ 2 24 und_Notes hi hz0 hz1 hz2 rfl (by decide) (.slice ua D.length uc) D.length (D.flatMap Nt.cells) (by simp [Act.eval, Act.put]) (hown5.alloc _) ⟨w5.heap.size, 0, none⟩ 1 1 [.int .i64 (ID : Int), .string T] (by simp [Act.eval, Act.put]) rfl (fun j u hj => by rw [Addr.add_lit, Nat.zero_add, (BoxAt.made w5 #[.int .i64 (ID : Int), .string T] 94).cell j]; simpa using hj) (by simp [Value.oneCell']) (by omega) (by unfold maxLen; omega) (by omega) (by simp; omega) _ rfl ?_; intro g6 n6 w6 hown6 hg6 _ _; have bp6 := (bp5.ext ((Ext.refl w5).alloc _)).grown hg6 (fun e => by have := (hown5.lt _ e.symm).1; omega); have bz6 := (bz5.ext ((Ext.refl w5).alloc _)).grown hg6 (fun e => by have := (hown5.lt _ e.symm).1; omega); have y7 : w6.cell? ⟨p, 1, none⟩ = some (.slice ua D.length uc) := bp6.cell 1; have f7 := bp6.free 1))
      all_goals
        have hE5 := (Ext.refl w5).alloc (.cells #[.int .i64 (ID : Int), .string T] 94)
        have hq6 : RqAt w6 Q S t2 := ⟨(h5.box.ext hE5).grown hg6 (fun e => by have := (hown5.lt _ e.symm).1; omega), h5.le, h5.big⟩
        have hX6 : Ext w w6 := (hX5.trans hE5).grown hg6 (fun b hb => by have := (hown5.lt b hb).1; omega)
        have HG6 := Lib.hid ((HG5.out.ext hE5).keepN (ownsRow_ext hown5 hE5) hg6)
        have hsz6 : p + 1 ≤ w6.heap.size := Nat.le_trans hsz5 (Nat.le_trans hE5.le hg6.size)
        have HX2 : Far ((AL, s2) = (D ++ [(⟨(ID : Int), T⟩ : Nt)] ++ (manyR (noteR l) kk t2).1, (manyR (noteR l) kk t2).2)) := far (by
          rw [HX.out, manyR_step _ _ _ rfl, HNO.out]
          simp only [List.append_assoc, List.singleton_append])
        go_wp2_with fail
        go_roundw
        case rel =>
          refine ⟨k + 1, kk, D ++ [⟨(ID : Int), T⟩], _, t2, by omega, by simp; omega, by go_num, ⟨hq6.box.other hq3.symm 1 _, hq6.le, hq6.big⟩, hX6.setCell (p := ⟨p, 1, none⟩) hle _, bz6.other hp2.symm 1 _, bp6.set 1 _, Lib.hid (HG6.out.set 1 _ bp6), ?_, by simpa [Deep.nblk_setCell] using hsz6, HX2⟩
          rw [nt_app, List.length_append]
          exact ownsRow_setCell_below hown6 (a := ⟨p, 1, none⟩) (by show p < p + 1; omega) _
        case measure => simp [intOf] <;> omega
    · have e0 : Far ((AL, s2) = (D, (i, e))) := far (by
        rw [HX.out, manyR_stop _ _ _ (by
          rcases Nat.lt_or_ge k N1 with h1 | h1
          · exact .inr (fun he => hgo ⟨h1, he⟩)
          · exact .inl (by omega))]
        simp only [List.append_nil])
      have ht2 : RqAt wr Q S s2 := by rw [(Prod.mk.inj e0.out).2]; exact ht
      have eD : AL = D := (Prod.mk.inj e0.out).1
      clear e0
      subst eD
      have HG2 : Hid (Got wr (.slice a1 ms.length c1) (.slice ua AL.length uc) (.slice none 0 0) ms AL []) := Lib.hid ⟨HG.out.mt, HG.out.rows, TIn.own hown, TIn.nil _ _⟩
      have hkN : k ≤ N1 := by omega
      have hkk2 : (k < N1 ∧ ¬ e = 0) ∨ k = N1 := by
        rcases Nat.lt_or_ge k N1 with h1 | h1
        · exact .inl ⟨h1, fun he => hgo ⟨h1, he⟩⟩
        · exact .inr (by omega)
      have hbn2 := hb2.out ht2
      clear HX HG hown HA HN1 hb1 hkk hgo ht
      have d9 : k < N1 → (e == 0) = false := fun h => by
        rcases hkk2 with ⟨h1, h2⟩ | h1
        · simpa using h2
        · omega
      rcases hkk2 with ⟨h1, h2⟩ | h1
      all_goals
        first | subst h1 | (have d0 := d9 h1)
        go_wp2_with fail
        clear d9
        refine (rq_count ht2).mono ?_
        rintro e' w5 ⟨rfl, h5, hT5⟩
        rw [← HL.out, HN2.out] at h5
        simp only at h5
        rw [← HL.out, HN2.out]
        have bz5 := hT5.box bz hq2
        have bp5 := hT5.box bp hq3
        have HG5 := Lib.hid (HG2.out.touchR hT5 ht2.box)
        have hX5 : Ext w w5 := hT5.ext hX hQ1
        have hsz5 : p + 1 ≤ w5.heap.size := Nat.le_trans hsz hT5.size
        clear ht2 bz bp HG2 hX hsz hT5 c2
        simp only
        go_wp2_with fail
        go_loopw [9] (fun i wr => ∃ (k kk : Nat) (D : List Int) (vo : Value) (t : Nat × Int), k + kk = N2 ∧ D.length ≤ k ∧ i = .int .i64 (k : Int) ∧ RqAt wr Q S t ∧ Ext w wr ∧ BoxAt wr w.heap.size #[.slice none 0 0, .slice none 0 0, .slice none 0 0] 29 ∧ BoxAt wr p #[.slice a1 ms.length c1, .slice ua AL.length uc, vo] 29 ∧ Hid (Got wr (.slice a1 ms.length c1) (.slice ua AL.length uc) (.slice none 0 0) ms AL []) ∧ wr.ownsRow (p + 1) 3 1 vo D.length (kcells .i64 D) ∧ p + 1 ≤ wr.heap.size ∧ Far ((DL, s3) = (D ++ (manyR (numIR l) kk t).1, (manyR (numIR l) kk t).2))) (fun i _ => N2 - (intOf i).toNat)
        case atStart => exact ⟨0, N2, [], _, r2, Nat.zero_add _, Nat.le_refl _, rfl, h5, hX5, bz5, bp5, HG5, World.ownsRow_nil _ _ _ _, hsz5, far HD.out.symm⟩
        case round =>
          clear h5 hX5 bz5 bp5 HG5 hsz5
          obtain ⟨j, jj, D, vo, ⟨i, f⟩, hkk, hDk, rfl, ht, hX, bz, bp, HG, hown, hsz, HX⟩ := hrel
          obtain ⟨da, dc, rfl⟩ := own_shape (id hown)
          have c2 : wr.cell? ⟨Q, 2, none⟩ = some (.int .i64 f) := ht.c2
          by_cases hgo : j < N2 ∧ f = 0
          · obtain ⟨hkN, rfl⟩ := hgo
            obtain ⟨jj, rfl⟩ : ∃ k', jj = k' + 1 := ⟨jj - 1, by omega⟩
            obtain ⟨ID, t1, hZ⟩ : ∃ Z t1, numR l (i, 0) = (Z, t1) := ⟨_, _, rfl⟩
            have HNO : Far (numIR l (i, 0) = ((ID : Int), t1)) := far (by
              unfold numIR
              rw [hZ])
            have HZ := far hZ
            clear hZ
            go_wp2_with fail
            have bz2 := bz.ext (Ext.refl wr).drew
            have bp2 := bp.ext (Ext.refl wr).drew
            have hown2 := ownsRow_ext hown (Ext.refl wr).drew
            have h2d := ht.ext (Ext.refl wr).drew
            have hX2d : Ext w wr.drew := hX.trans (Ext.refl wr).drew
            have hszd : p + 1 ≤ wr.drew.heap.size := Nat.le_trans hsz (Ext.refl wr).drew.le
            have HG2 := Lib.hid (HG.out.ext (Ext.refl wr).drew)
            have y7 : wr.drew.cell? ⟨p, 2, none⟩ = some (.slice da D.length dc) := bp2.cell 2
            clear bz bp hown ht hX hsz HG c2
            obtain ⟨i0, hi, hz0, hz1, hz2⟩ := info_parts info_intP
            go_region_law (first
              | (go_simp; go_at_call 79; go_must (refine (rq_num h2d).mono ?_); rintro e' w5 ⟨rfl, h5, hT5⟩; rw [← HL.out, HZ.out] at h5; simp only at h5; rw [← HL.out, HZ.out]; have bz5 := hT5.box bz2 hq2; have bp5 := hT5.box bp2 hq3; have hown5 := hT5.owns hown2 (by omega); have hsz5 := Nat.le_trans hszd hT5.size; have HG5 := Lib.hid (HG2.out.touchR hT5 h2d.box); have hX5 : Ext w w5 := hT5.ext hX2d hQ1; have y7 : w5.cell? ⟨p, 2, none⟩ = some (.slice da D.length dc) := bp5.cell 2; have y7a : ∀ o, (w5.alloc o).cell? ⟨p, 2, none⟩ = some (.slice da D.length dc) := fun o => bp5.allocs o 2)
              | (refine step_append_lies (w5.alloc (.cells #[.int .i64 (ID : Int)] 3)) rfl (.tmp 60) (.tmp 63) 27 rfl (p + 1) 3 i0 _ 1 8 und_intsP hi hz0 hz1 hz2 rfl (by decide) (.slice da D.length dc) D.length (kcells .i64 D) (by simp [Act.eval, Act.put]) (hown5.alloc _) ⟨w5.heap.size, 0, none⟩ 1 1 [.int .i64 (ID : Int)] (by simp [Act.eval, Act.put]) rfl (fun j u hj => by rw [Addr.add_lit, Nat.zero_add, (BoxAt.made w5 #[.int .i64 (ID : Int)] 3).cell j]; simpa using hj) (by simp [Value.oneCell']) (by omega) (by unfold maxLen; omega) (by omega) (by simp; omega) _ rfl ?_; intro g6 n6 w6 hown6 hg6 _ _; have bp6 := (bp5.ext ((Ext.refl w5).alloc _)).grown hg6 (fun e => by have := (hown5.lt _ e.symm).1; omega); have bz6 := (bz5.ext ((Ext.refl w5).alloc _)).grown hg6 (fun e => by have := (hown5.lt _ e.symm).1; omega); have y7 : w6.cell? ⟨p, 2, none⟩ = some (.slice da D.length dc) := bp6.cell 2; have f7 := bp6.free 2))
            all_goals
              have hE5 := (Ext.refl w5).alloc (.cells #[.int .i64 (ID : Int)] 3)
              have hq6 : RqAt w6 Q S t1 := ⟨(h5.box.ext hE5).grown hg6 (fun e => by have := (hown5.lt _ e.symm).1; omega), h5.le, h5.big⟩
              have hX6 : Ext w w6 := (hX5.trans hE5).grown hg6 (fun b hb => by have := (hown5.lt b hb).1; omega)
              have HG6 := Lib.hid ((HG5.out.ext hE5).keepI (ownsRow_ext hown5 hE5) hg6)
              have hsz6 : p + 1 ≤ w6.heap.size := Nat.le_trans hsz5 (Nat.le_trans hE5.le hg6.size)
              have HX2 : Far ((DL, s3) = (D ++ [(ID : Int)] ++ (manyR (numIR l) jj t1).1, (manyR (numIR l) jj t1).2)) := far (by
                rw [HX.out, manyR_step _ _ _ rfl, HNO.out]
                simp only [List.append_assoc, List.singleton_append])
              go_wp2_with fail
              go_roundw
              case rel =>
                refine ⟨j + 1, jj, D ++ [(ID : Int)], _, t1, by omega, by simp; omega, by go_num, ⟨hq6.box.other hq3.symm 2 _, hq6.le, hq6.big⟩, hX6.setCell (p := ⟨p, 2, none⟩) hle _, bz6.other hp2.symm 2 _, bp6.set 2 _, Lib.hid (HG6.out.set 2 _ bp6), ?_, by simpa [Deep.nblk_setCell] using hsz6, HX2⟩
                rw [ki_app, List.length_append]
                exact ownsRow_setCell_below hown6 (a := ⟨p, 2, none⟩) (by show p < p + 1; omega) _
              case measure => simp [intOf] <;> omega
          · have e0 : Far ((DL, s3) = (D, (i, f))) := far (by
              rw [HX.out, manyR_stop _ _ _ (by
                rcases Nat.lt_or_ge j N2 with h1 | h1
                · exact .inr (fun he => hgo ⟨h1, he⟩)
                · exact .inl (by omega))]
              simp only [List.append_nil])
            have ht2 : RqAt wr Q S s3 := by rw [(Prod.mk.inj e0.out).2]; exact ht
            have eD : DL = D := (Prod.mk.inj e0.out).1
            clear e0
            subst eD
            have HG2 : Far (Got wr (.slice a1 ms.length c1) (.slice ua AL.length uc) (.slice da DL.length dc) ms AL DL) := far ⟨HG.out.mt, HG.out.rows, HG.out.nt, TIn.own hown⟩
            have hkN2 : j ≤ N2 := by omega
            have hkk2 : (j < N2 ∧ ¬ f = 0) ∨ j = N2 := by
              rcases Nat.lt_or_ge j N2 with h1 | h1
              · exact .inl ⟨h1, fun he => hgo ⟨h1, he⟩⟩
              · exact .inr (by omega)
            clear HX HG hown HD HN2 hb2 hkk hgo ht
            have d9 : j < N2 → (f == 0) = false := fun h => by
              rcases hkk2 with ⟨h1, h2⟩ | h1
              · simpa using h2
              · omega
            rcases hkk2 with ⟨h1, h2⟩ | h1
            all_goals
              first | subst h1 | (have d0 := d9 h1)
              go_wp2_with fail
              clear d9
              refine (HEN.out _ _ ht2).mono ?_
              rintro e' w5 ⟨rfl, h5, hT5⟩
              have b25 := hT5.box bz hq2
              have b35 := hT5.box bp hq3
              have G5 := HG2.out.touchR hT5 ht2.box
              have hE5 : Ext w w5 := hT5.ext hX hQ1
              have HG5 := far G5
              clear ht2 bz bp HG2 hX hsz hT5 c2 HEN
              have c2 : w5.cell? ⟨Q, 2, none⟩ = some (.int .i64 e4) := h5.c2
              have hcq : cbG ms AL DL = cbQ ⟨ML, AL, DL⟩ := by rw [cbG_q, HMS.out]
              have hlm : ∀ x ∈ ms, x.table.size ≤ 1000000 ∧ ∀ p ∈ x.pa.ps, ∀ c ∈ p.1.cols, c.name.size ≤ 1000000 := fun x hx => by
                have hy := HLL.out
                have h1 := HLM.out x.q (by rw [← HMS.out]; exact List.mem_map_of_mem hx)
                exact ⟨Nat.le_trans h1.1 (by omega), fun p hp c hc => Nat.le_trans (h1.2 p.1 (List.mem_map_of_mem (f := (·.1)) hp) c hc) (by omega)⟩
              have k6 := r9_checkbatch _ _ _ ms AL DL w5 ⟨G5.mt.slice, fun m hm => (G5.rows m hm).rows⟩ (nts_of G5.nt) (ints_of G5.it) hlm
              rw [hcq] at k6
              have K6 := far k6
              clear hlm hcq k6 G5
              have z0 : w5.cell? ⟨p, 0, none⟩ = some (.slice a1 ms.length c1) := b35.cell 0
              have z1 : w5.cell? ⟨p, 1, none⟩ = some (.slice ua AL.length uc) := b35.cell 1
              have z2 : w5.cell? ⟨p, 2, none⟩ = some (.slice da DL.length dc) := b35.cell 2
              by_cases he : e4 = 0
              · subst he
                cases hq : cbQ ⟨ML, AL, DL⟩
                · have HER : Far (gbErr l = 1) := far (by unfold gbErr; rw [HGB.out]; simp [hq])
                  have HBT : Far (gbBt l = ⟨[], [], []⟩) := far (by unfold gbBt; rw [HER.out, if_neg (by decide)])
                  have HQ := far hq
                  clear hq
                  go_upto_region 20 with (first
                    | (go_at_call 25; go_must (refine K6.out.mono ?_); rintro e w6 ⟨rfl, hE6⟩; rw [HQ.out])
                    | (go_at_call 67; go_must (refine (rq_wrong 1 (h5.ext hE6)).mono ?_); rintro e w7 ⟨rfl, h7, hT7⟩; rw [show failR 1 (i4, (0 : Int)) = (i4, 1) from if_pos rfl] at h7; have c2 : w7.cell? ⟨Q, 2, none⟩ = some (.int .i64 1) := h7.c2; have b27 := hT7.box (b25.ext hE6) hq2; have hE7 : Ext w w7 := hT7.ext (hE5.trans hE6) hQ1))
                  have x0 : w7.cell? ⟨w.heap.size, 0, none⟩ = some (.slice none 0 0) := b27.cell 0
                  have x1 : w7.cell? ⟨w.heap.size, 1, none⟩ = some (.slice none 0 0) := b27.cell 1
                  have x2 : w7.cell? ⟨w.heap.size, 2, none⟩ = some (.slice none 0 0) := b27.cell 2
                  have xf := b27.free
                  go_region
                  have b8 := (((b27.set 0 (.slice none 0 0)).set 1 (.slice none 0 0)).set 2 (.slice none 0 0)).ext (Ext.refl _).drew
                  have hE8 := (((hE7.setCell (p := ⟨w.heap.size, 0, none⟩) (Nat.le_refl _) (.slice none 0 0)).setCell (p := ⟨w.heap.size, 1, none⟩) (Nat.le_refl _) (.slice none 0 0)).setCell (p := ⟨w.heap.size, 2, none⟩) (Nat.le_refl _) (.slice none 0 0)).drew
                  generalize World.drew _ = w9 at b8 hE8 ⊢
                  replace b8 : BoxAt w9 w.heap.size #[.slice none 0 0, .slice none 0 0, .slice none 0 0] 29 := b8
                  go_wp2
                  refine bodyPost_ret (v := .tuple #[.agg #[.slice none 0 0, .slice none 0 0, .slice none 0 0], .int .i64 1]) ?_ rfl ⟨_, _, _, [], by rw [HER.out], by rw [HBT.out]; exact Got.none w9, by rw [HBT.out]; rfl, hE8⟩
                  obtain ⟨z0, z1, z2⟩ := b8.bt
                  simp [results, Tryd.results21, go_sem, z0, z1, z2]
                  try rfl
                · have HER : Far (gbErr l = 0) := far (by unfold gbErr; rw [HGB.out]; simp [hq])
                  have HBT : Far (gbBt l = ⟨ML, AL, DL⟩) := far (by unfold gbBt; rw [HER.out, if_pos rfl, HGB.out])
                  have HQ := far hq
                  clear hq
                  go_wp2_with (go_at_call 25; go_must (refine K6.out.mono ?_); rintro e w6 ⟨rfl, hE6⟩; rw [HQ.out]; have c2 : w6.cell? ⟨Q, 2, none⟩ = some (.int .i64 0) := (h5.ext hE6).c2; have b36 := b35.ext hE6; have b26 := b25.ext hE6; have G6 := HG5.out.ext hE6; have hX6 := hE5.trans hE6; have z0 : w6.cell? ⟨p, 0, none⟩ = some (.slice a1 ms.length c1) := b36.cell 0; have z1 : w6.cell? ⟨p, 1, none⟩ = some (.slice ua AL.length uc) := b36.cell 1; have z2 : w6.cell? ⟨p, 2, none⟩ = some (.slice da DL.length dc) := b36.cell 2; have x0 : w6.cell? ⟨w.heap.size, 0, none⟩ = some (.slice none 0 0) := b26.cell 0; have x1 : w6.cell? ⟨w.heap.size, 1, none⟩ = some (.slice none 0 0) := b26.cell 1; have x2 : w6.cell? ⟨w.heap.size, 2, none⟩ = some (.slice none 0 0) := b26.cell 2; have xf := b26.free)
                  have b9 := ((b26.set 0 (.slice a1 ms.length c1)).set 1 (.slice ua AL.length uc)).set 2 (.slice da DL.length dc)
                  have G9 := ((G6.set 0 (.slice a1 ms.length c1) b26).set 1 (.slice ua AL.length uc) (b26.set 0 (.slice a1 ms.length c1))).set 2 (.slice da DL.length dc) ((b26.set 0 (.slice a1 ms.length c1)).set 1 (.slice ua AL.length uc))
                  have hE9 := ((hX6.setCell (p := ⟨w.heap.size, 0, none⟩) (Nat.le_refl _) (.slice a1 ms.length c1)).setCell (p := ⟨w.heap.size, 1, none⟩) (Nat.le_refl _) (.slice ua AL.length uc)).setCell (p := ⟨w.heap.size, 2, none⟩) (Nat.le_refl _) (.slice da DL.length dc)
                  generalize World.setCell (World.setCell (World.setCell w6 _ _) _ _) _ _ = w9 at b9 hE9 G9 ⊢
                  replace b9 : BoxAt w9 w.heap.size #[.slice a1 ms.length c1, .slice ua AL.length uc, .slice da DL.length dc] 29 := b9
                  refine bodyPost_ret (v := .tuple #[.agg #[.slice a1 ms.length c1, .slice ua AL.length uc, .slice da DL.length dc], .int .i64 0]) ?_ rfl ⟨_, _, _, ms, by rw [HER.out], by rw [HBT.out]; exact G9, by rw [HBT.out]; exact HMS.out, hE9⟩
                  obtain ⟨z0, z1, z2⟩ := b9.bt
                  simp [results, Tryd.results21, go_sem, z0, z1, z2]
                  try rfl
              · have HER : Far (gbErr l = e4) := far (by unfold gbErr; rw [HGB.out]; exact if_neg he)
                have HBT : Far (gbBt l = ⟨[], [], []⟩) := far (by unfold gbBt; rw [HER.out, if_neg he])
                have d0 : (e4 == 0) = false := by simpa using he
                have x0 : w5.cell? ⟨w.heap.size, 0, none⟩ = some (.slice none 0 0) := b25.cell 0
                have x1 : w5.cell? ⟨w.heap.size, 1, none⟩ = some (.slice none 0 0) := b25.cell 1
                have x2 : w5.cell? ⟨w.heap.size, 2, none⟩ = some (.slice none 0 0) := b25.cell 2
                have xf := b25.free
                go_upto_region 20 with fail
                go_region
                have b8 := (((b25.set 0 (.slice none 0 0)).set 1 (.slice none 0 0)).set 2 (.slice none 0 0)).ext (Ext.refl _).drew
                have hE8 := (((hE5.setCell (p := ⟨w.heap.size, 0, none⟩) (Nat.le_refl _) (.slice none 0 0)).setCell (p := ⟨w.heap.size, 1, none⟩) (Nat.le_refl _) (.slice none 0 0)).setCell (p := ⟨w.heap.size, 2, none⟩) (Nat.le_refl _) (.slice none 0 0)).drew
                generalize World.drew _ = w9 at b8 hE8 ⊢
                replace b8 : BoxAt w9 w.heap.size #[.slice none 0 0, .slice none 0 0, .slice none 0 0] 29 := b8
                go_wp2
                refine bodyPost_ret (v := .tuple #[.agg #[.slice none 0 0, .slice none 0 0, .slice none 0 0], .int .i64 e4]) ?_ rfl ⟨_, _, _, [], by rw [HER.out], by rw [HBT.out]; exact Got.none w9, by rw [HBT.out]; rfl, hE8⟩
                obtain ⟨z0, z1, z2⟩ := b8.bt
                simp [results, Tryd.results21, go_sem, z0, z1, z2]
                try rfl
end Go.Proofs.YtcmgeccgahakbaaDoor

/- PackAll: the law's walk. -/
namespace Go.Proofs.YtcmgeccgahakbaaDoor
open Go Go.RowKit
attribute [local go_sem] yields yUpon

theorem few_low {rows : Int} {M : List Mt} (h : ∀ m ∈ M, FewM rows m) : ∀ x ∈ M, x.table.size ≤ 1000000 ∧ ∀ p ∈ x.pa.ps, ∀ c ∈ p.1.cols, c.name.size ≤ 1000000 := fun x hx => by
  obtain ⟨h1, h2, h3⟩ := h x hx
  refine ⟨by omega, fun p hp c hc => ?_⟩
  have := ((h3 p hp).each c hc).1
  omega
theorem batR_q {M L : List Mt} {A : List Nt} {D : List Int} (h : L.map Mt.q = M.map Mt.q) : batR L A D = batR M A D := by
  unfold batR
  rw [cbG_q, cbG_q, batP_q, batP_q, h]
theorem lowM_q {M L : List Mt} (h : L.map Mt.q = M.map Mt.q) (hM : ∀ x ∈ M, x.table.size ≤ 1000000 ∧ ∀ p ∈ x.pa.ps, ∀ c ∈ p.1.cols, c.name.size ≤ 1000000) : ∀ x ∈ L, x.table.size ≤ 1000000 ∧ ∀ p ∈ x.pa.ps, ∀ c ∈ p.1.cols, c.name.size ≤ 1000000 := by
  intro x hx
  have h1 : x.q ∈ M.map Mt.q := by rw [← h]; exact List.mem_map_of_mem hx
  obtain ⟨m, hm, e⟩ := List.mem_map.1 h1
  have e1 : m.table = x.table := congrArg (fun q => q.table) e
  have e2 : m.pa.ps.map (·.1) = x.pa.ps.map (·.1) := congrArg (fun q => q.pt.rows) e
  obtain ⟨h2, h3⟩ := hM m hm
  refine ⟨by rw [← e1]; exact h2, fun p hp c hc => ?_⟩
  have h4 : p.1 ∈ m.pa.ps.map (·.1) := by rw [e2]; exact List.mem_map_of_mem (f := (·.1)) hp
  obtain ⟨p', hp', e3⟩ := List.mem_map.1 h4
  exact h3 p' hp' c (by rw [e3]; exact hc)
theorem lowP_q {ps qs : List (Ro × Value)} (h : qs.map (·.1) = ps.map (·.1)) (hP : ∀ p ∈ ps, ∀ c ∈ p.1.cols, c.name.size ≤ 1000000) : ∀ p ∈ qs, ∀ c ∈ p.1.cols, c.name.size ≤ 1000000 := by
  intro p hp c hc
  have h4 : p.1 ∈ ps.map (·.1) := by rw [← h]; exact List.mem_map_of_mem (f := (·.1)) hp
  obtain ⟨p', hp', e3⟩ := List.mem_map.1 h4
  exact hP p' hp' c (by rw [e3]; exact hc)

set_option maxRecDepth 100000 in
set_option maxHeartbeats 16000000 in
theorem law_packAll (k : ByteArray) (g : Int) (u : Value) (ps : List (Ro × Value)) (vm va vd : Value) (M : List Mt) (A : List Nt) (D : List Int) (s : ByteArray) (w : World) (hin : RowsIn w u ps) (hM : MtsIn w vm M) (hA : NtsIn w va A) (hD : IntsIn w vd .i64 D) (hAb : ∀ a ∈ A, a.body.size ≤ maxLen) (hs : s.size ≤ maxLen) (hT : TabU w) :
    Calls Tryd.prog 3 #[.agg #[.string k, .int .i64 g, u], .agg #[vm, va, vd], .string s] w fun e w' => e = .returned (.bool true) ∧ Ext w w' := by
  obtain ⟨b0, b1, hE0⟩ := boxes2 w (pa3 k g u) #[vm, va, vd] 24 29
  replace hin := hin.ext hE0
  replace hM := hM.ext hE0
  replace hA := hA.ext hE0
  replace hD := SliceIn.ext hE0 hD
  replace hT := hT.ext hE0
  obtain ⟨au, cu, rfl, _⟩ := hin.get
  obtain ⟨am, cm, rfl, _⟩ := hM.get
  obtain ⟨aa, ca, rfl, _⟩ := hA.get
  obtain ⟨ad, cd, rfl, _⟩ := id hD
  unfold maxLen at hs
  go_enter Tryd.func3, Tryd.ntmps3
  go_wp2_with fail
  unfold pa3 at b0 b1 hE0 hin hM hA hD hT
  obtain ⟨w0, hw0⟩ : ∃ w0, w0 = (w.alloc (.cells #[.string k, .int .i64 g, .slice au ps.length cu] 24)).alloc (.cells #[.slice am M.length cm, .slice aa A.length ca, .slice ad D.length cd] 29) := ⟨_, rfl⟩
  rw [← hw0] at b0 b1 hE0 hin hM hA hD hT ⊢
  clear hw0
  refine (fewPart_any k g _ ps 30 w0 hin).mono ?_
  rintro e w1 ⟨F1, rfl, hF1, hE1⟩
  have b11 := b1.ext hE1
  have y0 : w1.cell? ⟨w.heap.size + 1, 0, none⟩ = some (.slice am M.length cm) := b11.cell 0
  have y1 : w1.cell? ⟨w.heap.size + 1, 1, none⟩ = some (.slice aa A.length ca) := b11.cell 1
  have y2 : w1.cell? ⟨w.heap.size + 1, 2, none⟩ = some (.slice ad D.length cd) := b11.cell 2
  have HF1 := Lib.hid hF1
  clear hF1
  cases F1
  · go_wp2_with (go_at_call 11; go_must (refine (awake9_any _ (hT.ext hE1)).mono ?_); rintro e w7 ⟨rfl, hE7⟩)
    go_ret
    exact ⟨rfl, (hE0.trans hE1).trans hE7⟩
  go_wp2_with fail
  refine (fewBatch_any _ _ _ M A D w1 (hM.ext hE1) (hA.ext hE1) (SliceIn.ext hE1 hD) hAb).mono ?_
  rintro e w2 ⟨F2, rfl, hF2, hE2⟩
  have HF2 := Lib.hid hF2
  clear hF2
  cases F2
  · go_wp2_with (go_at_call 11; go_must (refine (awake9_any _ (hT.ext (hE1.trans hE2))).mono ?_); rintro e w7 ⟨rfl, hE7⟩)
    go_ret
    exact ⟨rfl, ((hE0.trans hE1).trans hE2).trans hE7⟩
  cases hs3 : decide ((3000 : Int) < (s.size : Int))
  rotate_left
  · go_wp2_with (go_at_call 11; go_must (refine (awake9_any _ (hT.ext (hE1.trans hE2))).mono ?_); rintro e w7 ⟨rfl, hE7⟩)
    go_ret
    exact ⟨rfl, ((hE0.trans hE1).trans hE2).trans hE7⟩
  have hs30 : s.size ≤ 3000 := by simp at hs3; omega
  have hw02 : Ext w0 w2 := hE1.trans hE2
  have hlowP : ∀ p ∈ ps, ∀ c ∈ p.1.cols, c.name.size ≤ 1000000 := fun p hp c hc => by
    have := (((HF1.out (by first | rfl | trivial)).2.2 p hp).each c hc).1
    omega
  have hps30 : ps.length ≤ 10000 := by have := (HF1.out (by first | rfl | trivial)).2.1; omega
  have hcolP : ∀ p ∈ ps, p.1.cols.length ≤ 1000000 := fun p hp => by have := ((HF1.out (by first | rfl | trivial)).2.2 p hp).cols; omega
  have hMb := few_low (HF2.out (by first | rfl | trivial)).2.1
  have hAb2 : ∀ x ∈ A, x.body.size ≤ 1000000 := fun x hx => by have := (HF2.out (by first | rfl | trivial)).2.2.2.2 x hx; omega
  have hM6 : M.length ≤ 1000000 := by have := (HF2.out (by first | rfl | trivial)).1; omega
  have hA6 : A.length ≤ 1000000 := by have := (HF2.out (by first | rfl | trivial)).2.2.1; omega
  have hD6 : D.length ≤ 1000000 := by have := (HF2.out (by first | rfl | trivial)).2.2.2.1; omega
  have hrowM : ∀ m ∈ M, m.pa.ps.length ≤ 10000 ∧ ∀ q ∈ m.pa.ps, q.1.cols.length ≤ 1000000 := fun m hm => by
    obtain ⟨_, h2, h3⟩ := (HF2.out (by first | rfl | trivial)).2.1 m hm
    exact ⟨by omega, fun q hq => by have := (h3 q hq).cols; omega⟩
  have HLP := Lib.hid hlowP
  have HCP := Lib.hid hcolP
  have HMB := Lib.hid hMb
  have HAB := Lib.hid hAb2
  have HRM := Lib.hid hrowM
  obtain ⟨S, hS⟩ : ∃ S, S = s.data.toList := ⟨_, rfl⟩
  have hSl : S.length ≤ 3000 := by rw [hS, dat_size]; exact hs30
  have HS := Lib.hid hS
  clear hlowP b11 y0 y1 y2 hs3 hcolP hMb hAb2 hrowM hS HF1 HF2 hAb
  -- the partition's bytes, both ways
  have c0 := b0.ext hw02
  have x0 : w2.cell? ⟨w.heap.size, 0, none⟩ = some (.string k) := c0.cell 0
  have x1 : w2.cell? ⟨w.heap.size, 1, none⟩ = some (.int .i64 g) := c0.cell 1
  have x2 : w2.cell? ⟨w.heap.size, 2, none⟩ = some (.slice au ps.length cu) := c0.cell 2
  go_wp2_with fail
  refine (lpart8_any k g _ ps w2 (hin.ext hw02) hps30 HCP.out).mono ?_
  rintro e w3 ⟨v3, rfl, qs, hr3, hm3, hE3⟩
  obtain ⟨a3, c3, rfl⟩ := hr3.shape
  have hw03 := hw02.trans hE3
  clear x0 x1 x2 c0
  go_wp2_with fail
  refine (pk_part k g _ qs w3 hr3.rows (lowP_q hm3 HLP.out) (hT.ext hw03)).mono ?_
  rintro e w4 ⟨v4, rfl, ho4, hE4⟩
  rw [hm3] at ho4 ⊢
  obtain ⟨E1, hE1x⟩ : ∃ E, E = (partR k g (ps.map (·.1))).2 := ⟨_, rfl⟩
  obtain ⟨B1, hB1x⟩ : ∃ B, B = (partR k g (ps.map (·.1))).1 := ⟨_, rfl⟩
  rw [← hB1x] at ho4
  rw [← hE1x]
  obtain ⟨a4, n4, rfl⟩ := ownB_shapeP (id ho4)
  have hw04 := hw03.trans hE4
  clear hr3 hm3 hw02 hw03 hE1 hE2 hE3 hE4
  have c0 := b0.ext hw04
  have x0 : w4.cell? ⟨w.heap.size, 0, none⟩ = some (.string k) := c0.cell 0
  have x1 : w4.cell? ⟨w.heap.size, 1, none⟩ = some (.int .i64 g) := c0.cell 1
  have x2 : w4.cell? ⟨w.heap.size, 2, none⟩ = some (.slice au ps.length cu) := c0.cell 2
  go_wp2_with fail
  refine (r9_part k g _ ps w4 (hin.ext hw04) HLP.out).mono ?_
  rintro e w5 ⟨rfl, hE5⟩
  rw [← hE1x, ← hB1x]
  have hw05 := hw04.trans hE5
  have ho5 := ho4.ext hE5
  clear x0 x1 x2 c0 ho4 hE5 hw04 hE1x hB1x
  -- the batch's bytes, both ways
  have d0 := b1.ext hw05
  have y0 : w5.cell? ⟨w.heap.size + 1, 0, none⟩ = some (.slice am M.length cm) := d0.cell 0
  have y1 : w5.cell? ⟨w.heap.size + 1, 1, none⟩ = some (.slice aa A.length ca) := d0.cell 1
  have y2 : w5.cell? ⟨w.heap.size + 1, 2, none⟩ = some (.slice ad D.length cd) := d0.cell 2
  go_wp2_with fail
  refine (lbatch_any _ _ _ M A D w5 (hM.ext hw05) (hA.ext hw05) (SliceIn.ext hw05 hD) hM6 hA6 hD6 HRM.out).mono ?_
  rintro e w6 ⟨vm6, va6, vd6, L6, rfl, hG6, hq6, hE6⟩
  obtain ⟨a61, c61, rfl⟩ := hG6.mt.shape
  obtain ⟨a62, c62, rfl⟩ := hG6.nt.shape
  obtain ⟨a63, c63, rfl⟩ := hG6.it.shape
  have hw06 := hw05.trans hE6
  clear y0 y1 y2 d0
  go_wp2_with fail
  refine (batch_gen _ _ _ L6 A D w6 (hT.ext hw06) ⟨hG6.mt.slice, fun m hm => (hG6.rows m hm).rows⟩ (nts_of hG6.nt) (ints_of hG6.it) (lowM_q hq6 HMB.out) HAB.out).mono ?_
  rintro e w7 ⟨v7, rfl, ho7, hE7⟩
  rw [batR_q hq6] at ho7 ⊢
  obtain ⟨E2, hE2x⟩ : ∃ E, E = (batR M A D).2 := ⟨_, rfl⟩
  obtain ⟨B2, hB2x⟩ : ∃ B, B = (batR M A D).1 := ⟨_, rfl⟩
  rw [← hB2x] at ho7
  rw [← hE2x]
  obtain ⟨a7, n7, rfl⟩ := ownB_shapeP (id ho7)
  have hw07 := hw06.trans hE7
  have ho57 := (ho5.ext hE6).ext hE7
  clear hG6 hq6 ho5 hw05 hw06 hE6 hE7
  have d0 := b1.ext hw07
  have y0 : w7.cell? ⟨w.heap.size + 1, 0, none⟩ = some (.slice am M.length cm) := d0.cell 0
  have y1 : w7.cell? ⟨w.heap.size + 1, 1, none⟩ = some (.slice aa A.length ca) := d0.cell 1
  have y2 : w7.cell? ⟨w.heap.size + 1, 2, none⟩ = some (.slice ad D.length cd) := d0.cell 2
  go_wp2_with fail
  refine (r9_batch _ _ _ M A D w7 (hM.ext hw07) (hA.ext hw07) (SliceIn.ext hw07 hD) HMB.out).mono ?_
  rintro e w8 ⟨rfl, hE8⟩
  rw [← hE2x, ← hB2x]
  have hw08 := hw07.trans hE8
  have hoP := ho57.ext hE8
  have hoB := ho7.ext hE8
  clear y0 y1 y2 d0 ho57 ho7 hw07 hE8 hE2x hB2x
  -- bytes that may be a partition, both ways
  go_upto_region 8 with (first
    | ((guard_target =~ wpList _ _ _ (Oper.mk (some 61) _ _ _ _ _ :: _) _ _); go_must (refine wpList_strB (by rfl) (.tmp 60) rfl rfl (by unfold maxLen; omega) ?_); intro c9 w9 hby hE9 hsz9)
    | (go_at_call 18; go_must (refine (pk_getpart _ S w9 (by rw [HS.out]; exact hby) (by omega) (fun b o k c e => by cases e; omega) (hT.ext (hw08.trans hE9))).mono ?_); rintro e w10 ⟨u10, ps10, rfl, hr10, hm10, hE10⟩; obtain ⟨a10, c10, rfl⟩ := hr10.shape; unfold pa3))
  have hw10 := (hw08.trans hE9).trans hE10
  have hE89 := hE9.trans hE10
  have hEb := (Ext.refl w10).alloc (.cells #[.string (gpPt S).key, .int .i64 (gpPt S).gone, .slice a10 ps10.length c10] 24)
  have bP := BoxAt.made w10 #[.string (gpPt S).key, .int .i64 (gpPt S).gone, .slice a10 ps10.length c10] 24
  replace hr10 := hr10.rows.ext hEb
  replace hw10 := hw10.trans hEb
  replace hoP := hoP.ext (hE89.trans hEb)
  replace hoB := hoB.ext (hE89.trans hEb)
  obtain ⟨p15, hp15⟩ : ∃ p, p = w10.heap.size := ⟨_, rfl⟩
  rw [← hp15] at bP ⊢
  clear hp15 hby hsz9 hE89 hE10 hE9
  generalize World.alloc w10 _ = w11 at hEb bP hr10 hw10 hoP hoB ⊢
  clear hEb hw08
  go_upto_region 9 with (go_at_call 19; go_must (refine (r9_getpart s w11 (by omega)).mono ?_); rintro e w12 ⟨u12, ps12, rfl, hr12, hm12, hE12⟩; rw [← HS.out] at hm12 ⊢; obtain ⟨a12, c12, rfl⟩ := hr12.shape; unfold pa3)
  have hw12 := hw10.trans hE12
  have hEb := (Ext.refl w12).alloc (.cells #[.string (gpPt S).key, .int .i64 (gpPt S).gone, .slice a12 ps12.length c12] 24)
  have bR := BoxAt.made w12 #[.string (gpPt S).key, .int .i64 (gpPt S).gone, .slice a12 ps12.length c12] 24
  replace bP := bP.ext (hE12.trans hEb)
  replace hr10 := hr10.ext (hE12.trans hEb)
  replace hr12 := hr12.rows.ext hEb
  replace hw12 := hw12.trans hEb
  replace hoP := hoP.ext (hE12.trans hEb)
  replace hoB := hoB.ext (hE12.trans hEb)
  obtain ⟨p17, hp17⟩ : ∃ p, p = w12.heap.size := ⟨_, rfl⟩
  rw [← hp17] at bR ⊢
  clear hp17 hE12 hw10
  generalize World.alloc w12 _ = w13 at hEb bP bR hr10 hr12 hw12 hoP hoB ⊢
  clear hEb
  have HMP := Lib.hid (hm10.trans hm12.symm)
  clear hm10 hm12
  obtain ⟨Ep, hEp⟩ : ∃ E, E = gpErr S := ⟨_, rfl⟩
  obtain ⟨Kp, hKp⟩ : ∃ E, E = (gpPt S).key := ⟨_, rfl⟩
  obtain ⟨Gp, hGp⟩ : ∃ E, E = (gpPt S).gone := ⟨_, rfl⟩
  simp only [← hEp, ← hKp, ← hGp] at bP bR ⊢
  clear hEp hKp hGp
  -- bytes that may be a batch, both ways
  go_upto_region 10 with (first
    | ((guard_target =~ wpList _ _ _ (Oper.mk (some 72) _ _ _ _ _ :: _) _ _); go_must (refine wpList_strB (by rfl) (.tmp 71) rfl rfl (by unfold maxLen; omega) ?_); intro c14 w14 hby hE14 hsz14)
    | (go_at_call 20; go_must (refine (pk_getbatch _ S w14 (by rw [HS.out]; exact hby) (by omega) (fun b o k c e => by cases e; omega) (hT.ext (hw12.trans hE14))).mono ?_); rintro e w15 ⟨vm15, va15, vd15, ms15, rfl, hG15, hq15, hE15⟩; obtain ⟨a151, c151, rfl⟩ := hG15.mt.shape; obtain ⟨a152, c152, rfl⟩ := hG15.nt.shape; obtain ⟨a153, c153, rfl⟩ := hG15.it.shape))
  obtain ⟨Eb, hEbx⟩ : ∃ E, E = gbErr S := ⟨_, rfl⟩
  obtain ⟨Ab, hAbx⟩ : ∃ E, E = (gbBt S).add := ⟨_, rfl⟩
  obtain ⟨Db, hDbx⟩ : ∃ E, E = (gbBt S).drop := ⟨_, rfl⟩
  have HEB := Lib.hid hEbx
  have HAX := Lib.hid hAbx
  have HDX := Lib.hid hDbx
  simp only [← hEbx, ← hAbx, ← hDbx] at hG15 ⊢
  clear hEbx hAbx hDbx
  have hw15 := (hw12.trans hE14).trans hE15
  have hE35 := hE14.trans hE15
  have hEc := (Ext.refl w15).alloc (.cells #[.slice a151 ms15.length c151, .slice a152 Ab.length c152, .slice a153 Db.length c153] 29)
  have bQ := BoxAt.made w15 #[.slice a151 ms15.length c151, .slice a152 Ab.length c152, .slice a153 Db.length c153] 29
  replace hG15 := hG15.ext hEc
  replace hw15 := hw15.trans hEc
  replace bP := bP.ext (hE35.trans hEc)
  replace bR := bR.ext (hE35.trans hEc)
  replace hr10 := hr10.ext (hE35.trans hEc)
  replace hr12 := hr12.ext (hE35.trans hEc)
  replace hoP := hoP.ext (hE35.trans hEc)
  replace hoB := hoB.ext (hE35.trans hEc)
  obtain ⟨p19, hp19⟩ : ∃ p, p = w15.heap.size := ⟨_, rfl⟩
  rw [← hp19] at bQ ⊢
  clear hp19 hby hsz14 hE35 hE14 hE15
  generalize World.alloc w15 _ = w16 at hEc bP bR bQ hr10 hr12 hG15 hw15 hoP hoB ⊢
  clear hEc hw12
  go_upto_region 11 with (go_at_call 21; go_must (refine (r9_getbatch s w16 (by omega)).mono ?_); rintro e w17 ⟨vm17, va17, vd17, ms17, rfl, hG17, hq17, hE17⟩; rw [← HS.out, ← HAX.out, ← HDX.out] at hG17; rw [← HS.out] at hq17; rw [← HS.out, ← HEB.out]; obtain ⟨a171, c171, rfl⟩ := hG17.mt.shape; obtain ⟨a172, c172, rfl⟩ := hG17.nt.shape; obtain ⟨a173, c173, rfl⟩ := hG17.it.shape)
  have HMQ := Lib.hid (hq15.trans hq17.symm)
  clear hq15 hq17
  have hEc := (Ext.refl w17).alloc (.cells #[.slice a171 ms17.length c171, .slice a172 Ab.length c172, .slice a173 Db.length c173] 29)
  have bT := BoxAt.made w17 #[.slice a171 ms17.length c171, .slice a172 Ab.length c172, .slice a173 Db.length c173] 29
  have hw17 := (hw15.trans hE17).trans hEc
  replace hG15 := (hG15.ext hE17).ext hEc
  replace hG17 := hG17.ext hEc
  replace bP := bP.ext (hE17.trans hEc)
  replace bR := bR.ext (hE17.trans hEc)
  replace bQ := bQ.ext (hE17.trans hEc)
  replace hr10 := hr10.ext (hE17.trans hEc)
  replace hr12 := hr12.ext (hE17.trans hEc)
  replace hoP := hoP.ext (hE17.trans hEc)
  replace hoB := hoB.ext (hE17.trans hEc)
  obtain ⟨p21, hp21⟩ : ∃ p, p = w17.heap.size := ⟨_, rfl⟩
  rw [← hp21] at bT ⊢
  clear hp21 hE17 hw15
  generalize World.alloc w17 _ = W at hEc bP bR bQ bT hr10 hr12 hG15 hG17 hw17 hoP hoB ⊢
  clear hEc
  -- all alike
  have bI := b1.ext hw17
  have HOP := Lib.hid hoP
  have HOB := Lib.hid hoB
  have HR10 := Lib.hid hr10
  have HR12 := Lib.hid hr12
  have HG15 := Lib.hid hG15
  have HG17 := Lib.hid hG17
  have HMW := Lib.hid (hM.ext hw17)
  have HAW := Lib.hid (hA.ext hw17)
  have HDW := Lib.hid (SliceIn.ext hw17 hD)
  have HTW := Lib.hid (hT.ext hw17)
  obtain ⟨C, hC⟩ : ∃ C, C = cbG M A D := ⟨_, rfl⟩
  have HC := Lib.hid hC
  clear hC hoP hoB hr10 hr12 hG15 hG17 hM hA hD hT hin
  have x0 := held (show W.cell? ⟨p15, 0, none⟩ = some (.string Kp) from bP.cell 0)
  have x1 := held (show W.cell? ⟨p15, 1, none⟩ = some (.int .i64 Gp) from bP.cell 1)
  have x2 := held (show W.cell? ⟨p15, 2, none⟩ = some (.slice a10 ps10.length c10) from bP.cell 2)
  have y0 := held (show W.cell? ⟨p17, 0, none⟩ = some (.string Kp) from bR.cell 0)
  have y1 := held (show W.cell? ⟨p17, 1, none⟩ = some (.int .i64 Gp) from bR.cell 1)
  have y2 := held (show W.cell? ⟨p17, 2, none⟩ = some (.slice a12 ps12.length c12) from bR.cell 2)
  have z0 := held (show W.cell? ⟨p19, 0, none⟩ = some (.slice a151 ms15.length c151) from bQ.cell 0)
  have z1 := held (show W.cell? ⟨p19, 1, none⟩ = some (.slice a152 Ab.length c152) from bQ.cell 1)
  have z2 := held (show W.cell? ⟨p19, 2, none⟩ = some (.slice a153 Db.length c153) from bQ.cell 2)
  have t0 := held (show W.cell? ⟨p21, 0, none⟩ = some (.slice a171 ms17.length c171) from bT.cell 0)
  have t1 := held (show W.cell? ⟨p21, 1, none⟩ = some (.slice a172 Ab.length c172) from bT.cell 1)
  have t2 := held (show W.cell? ⟨p21, 2, none⟩ = some (.slice a173 Db.length c173) from bT.cell 2)
  have i0 := held (show W.cell? ⟨w.heap.size + 1, 0, none⟩ = some (.slice am M.length cm) from bI.cell 0)
  have i1 := held (show W.cell? ⟨w.heap.size + 1, 1, none⟩ = some (.slice aa A.length ca) from bI.cell 1)
  have i2 := held (show W.cell? ⟨w.heap.size + 1, 2, none⟩ = some (.slice ad D.length cd) from bI.cell 2)
  go_wp2_with fail
  refine wp_region_tab 51 [(1, fun v _ => v = .string (str B1)), (11, fun v _ => v = .string (str B2)), (23, fun v _ => v = .bool true), (33, fun v _ => v = .bool true), (42, fun v _ => v = .bool C), (44, fun v _ => v = .bool C), (48, fun v _ => v = .bool true)] (by kernel_rfl) (by kernel_rfl) (by kernel_rfl) ⟨stays_eq _, stays_eq _, stays_eq _, stays_eq _, stays_eq _, stays_eq _, stays_eq _, trivial⟩ ?_
  refine rg_quiet rfl rfl rfl rfl ?_; intro K hK; go_big_quiet_op; go_big_quiet_on
  refine rg_text [] 33 9 5 (.tmp 81) B1 rfl rfl rfl rfl (by kernel_rfl) und_bytes und_u8 und_string (fun y hE hf => OwnB.bytes (HOP.out.ext hE)) ?_
  simp only [Act.put, List.setIfInBounds_toArray, List.set_cons_zero, List.set_cons_succ]
  refine rg_quiet rfl rfl rfl rfl ?_; intro K hK; go_big_quiet_op; go_big_quiet_on
  refine rg_quiet rfl rfl rfl rfl ?_; intro K hK; go_big_quiet_op; go_big_quiet_on
  refine rg_quiet rfl rfl rfl rfl ?_; intro K hK; go_big_quiet_op; go_big_quiet_on
  refine rg_quiet rfl rfl rfl rfl ?_; intro K hK; go_big_quiet_op; go_big_quiet_on
  refine rg_quiet rfl rfl rfl rfl ?_; intro K hK; go_big_quiet_op; go_big_quiet_on
  refine rg_quiet rfl rfl rfl rfl ?_; intro K hK; go_big_quiet_op; go_big_quiet_on
  refine rg_quiet rfl rfl rfl rfl ?_; intro K hK; go_big_quiet_op; go_big_quiet_on
  refine rg_quiet rfl rfl rfl rfl ?_; intro K hK; go_big_quiet_op; go_big_quiet_on
  refine rg_quiet rfl rfl rfl rfl ?_; intro K hK; go_big_quiet_op; go_big_quiet_on
  refine rg_text [] 33 9 5 (.tmp 91) B2 rfl rfl rfl rfl (by kernel_rfl) und_bytes und_u8 und_string (fun y hE hf => OwnB.bytes (HOB.out.ext hE)) ?_
  simp only [Act.put, List.setIfInBounds_toArray, List.set_cons_zero, List.set_cons_succ]
  refine rg_quiet rfl rfl rfl rfl ?_; intro K hK; go_big_quiet_op; go_big_quiet_on
  refine rg_quiet rfl rfl rfl rfl ?_; intro K hK; go_big_quiet_op; go_big_quiet_on
  refine rg_quiet rfl rfl rfl rfl ?_; intro K hK; go_big_quiet_op; go_big_quiet_on
  refine rg_quiet rfl rfl rfl rfl ?_; intro K hK; go_big_quiet_op; go_big_quiet_on
  refine rg_quiet rfl rfl rfl rfl ?_; intro K hK; go_big_quiet_op; go_big_quiet_on
  refine rg_quiet rfl rfl rfl rfl ?_; intro K hK; go_big_quiet_op; go_big_quiet_on
  refine rg_quiet rfl rfl rfl rfl ?_; intro K hK; go_big_quiet_op; go_big_quiet_on
  refine rg_quiet rfl rfl rfl rfl ?_; intro K hK; go_big_quiet_op; go_big_quiet_on
  refine rg_quiet rfl rfl rfl rfl ?_; intro K hK; go_big_quiet_op; go_big_quiet_on
  refine rg_quiet rfl rfl rfl rfl ?_; intro K hK; go_big_quiet_op; go_big_quiet_on
  refine rg_quiet rfl rfl rfl rfl ?_; intro K hK; go_big_quiet_op; go_big_quiet_on
  refine rg_val [] rfl rfl rfl (by kernel_rfl) (fun w1 hE hf => ?_) ?_
  · go_simp
    exact ((same8_alike Kp Gp _ _ ps10 ps12 _ (HR10.out.ext hE) (HR12.out.ext hE) HMP.out)).mono fun e w' ⟨he, hw⟩ => ⟨_, he, rg_done hE hw (rfl)⟩
  simp only [Act.put, List.setIfInBounds_toArray, List.set_cons_zero, List.set_cons_succ]
  refine rg_quiet rfl rfl rfl rfl ?_; intro K hK; go_big_quiet_op; go_big_quiet_on
  refine rg_quiet rfl rfl rfl rfl ?_; intro K hK; go_big_quiet_op; go_big_quiet_on
  refine rg_quiet rfl rfl rfl rfl ?_; intro K hK; go_big_quiet_op; go_big_quiet_on
  refine rg_quiet rfl rfl rfl rfl ?_; intro K hK; go_big_quiet_op; go_big_quiet_on
  refine rg_quiet rfl rfl rfl rfl ?_; intro K hK; go_big_quiet_op; go_big_quiet_on
  refine rg_quiet rfl rfl rfl rfl ?_; intro K hK; go_big_quiet_op; go_big_quiet_on
  refine rg_quiet rfl rfl rfl rfl ?_; intro K hK; go_big_quiet_op; go_big_quiet_on
  refine rg_quiet rfl rfl rfl rfl ?_; intro K hK; go_big_quiet_op; go_big_quiet_on
  refine rg_quiet rfl rfl rfl rfl ?_; intro K hK; go_big_quiet_op; go_big_quiet_on
  refine rg_val [] rfl rfl rfl (by kernel_rfl) (fun w1 hE hf => ?_) ?_
  · go_simp
    exact ((sameBt_any _ _ _ _ _ _ ms15 ms17 HMQ.out Ab Db _ ⟨(HG15.out.ext hE).mt.slice, fun m hm => ((HG15.out.ext hE).rows m hm).rows⟩ ⟨(HG17.out.ext hE).mt.slice, fun m hm => ((HG17.out.ext hE).rows m hm).rows⟩ (nts_of (HG15.out.ext hE).nt) (nts_of (HG17.out.ext hE).nt) (ints_of (HG15.out.ext hE).it) (ints_of (HG17.out.ext hE).it))).mono fun e w' ⟨he, hw⟩ => ⟨_, he, rg_done hE hw (rfl)⟩
  simp only [Act.put, List.setIfInBounds_toArray, List.set_cons_zero, List.set_cons_succ]
  refine rg_quiet rfl rfl rfl rfl ?_; intro K hK; go_big_quiet_op; go_big_quiet_on
  refine rg_quiet rfl rfl rfl rfl ?_; intro K hK; go_big_quiet_op; go_big_quiet_on
  refine rg_quiet rfl rfl rfl rfl ?_; intro K hK; go_big_quiet_op; go_big_quiet_on
  refine rg_quiet rfl rfl rfl rfl ?_; intro K hK; go_big_quiet_op; go_big_quiet_on
  refine rg_quiet rfl rfl rfl rfl ?_; intro K hK; go_big_quiet_op; go_big_quiet_on
  refine rg_quiet rfl rfl rfl rfl ?_; intro K hK; go_big_quiet_op; go_big_quiet_on
  refine rg_quiet rfl rfl rfl rfl ?_; intro K hK; go_big_quiet_op; go_big_quiet_on
  refine rg_quiet rfl rfl rfl rfl ?_; intro K hK; go_big_quiet_op; go_big_quiet_on
  refine rg_val [] rfl rfl rfl (by kernel_rfl) (fun w1 hE hf => ?_) ?_
  · go_simp
    exact ((HC.out ▸ cb_gen _ _ _ M A D _ (HTW.out.ext hE) (HMW.out.ext hE) (HAW.out.ext hE) (SliceIn.ext hE HDW.out) HMB.out HAB.out)).mono fun e w' ⟨he, hw⟩ => ⟨_, he, rg_done hE hw (rfl)⟩
  simp only [Act.put, List.setIfInBounds_toArray, List.set_cons_zero, List.set_cons_succ]
  refine rg_quiet rfl rfl rfl rfl ?_; intro K hK; go_big_quiet_op; go_big_quiet_on
  refine rg_val [] rfl rfl rfl (by kernel_rfl) (fun w1 hE hf => ?_) ?_
  · go_simp
    exact ((HC.out ▸ r9_checkbatch _ _ _ M A D _ (HMW.out.ext hE) (HAW.out.ext hE) (SliceIn.ext hE HDW.out) HMB.out)).mono fun e w' ⟨he, hw⟩ => ⟨_, he, rg_done hE hw (rfl)⟩
  simp only [Act.put, List.setIfInBounds_toArray, List.set_cons_zero, List.set_cons_succ]
  refine rg_quiet rfl rfl rfl rfl ?_; intro K hK; go_big_quiet_op; go_big_quiet_on
  refine rg_quiet rfl rfl rfl rfl ?_; intro K hK; go_big_quiet_op; go_big_quiet_on
  refine rg_quiet rfl rfl rfl rfl ?_; intro K hK; go_big_quiet_op; go_big_quiet_on
  refine rg_val [] rfl rfl rfl (by kernel_rfl) (fun w1 hE hf => ?_) ?_
  · go_simp
    exact ((awake9_any _ (HTW.out.ext hE))).mono fun e w' ⟨he, hw⟩ => ⟨_, he, rg_done hE hw (rfl)⟩
  simp only [Act.put, List.setIfInBounds_toArray, List.set_cons_zero, List.set_cons_succ]
  refine rg_quiet rfl rfl rfl rfl ?_; intro K hK; go_big_quiet_op; go_big_quiet_on
  refine rg_quiet rfl rfl rfl rfl ?_; intro K hK; go_big_quiet_op; go_big_quiet_on
  refine rel_nil fun w2 hE2 _ => ?_
  go_wp2_with fail
  go_ret
  exact ⟨rfl, (hE0.trans hw17).trans hE2⟩

theorem walk_packAll (v0 v1 : Value) (s : ByteArray) (W : World) (w0 : ∃ (k : ByteArray) (g : Int) (u : Value) (ps : List (Ro × Value)), v0 = .agg #[.string k, .int .i64 g, u] ∧ RowsIn W u ps)
    (w1 : ∃ (vm va vd : Value) (M : List Mt) (A : List Nt) (D : List Int), v1 = .agg #[vm, va, vd] ∧ MtsIn W vm M ∧ NtsIn W va A ∧ IntsIn W vd .i64 D ∧ (∀ m ∈ M, m.table.size ≤ maxLen) ∧ ∀ a ∈ A, a.body.size ≤ maxLen) (hs : s.size ≤ maxLen) (hT : TabU W) :
    Calls Tryd.prog 3 #[v0, v1, .string s] W fun e w' => e = .returned (.bool true) ∧ Ext W w' := by
  obtain ⟨k, g, u, ps, rfl, hp⟩ := w0
  obtain ⟨vm, va, vd, M, A, D, rfl, hM, hA, hD, _, hAb⟩ := w1
  exact law_packAll k g u ps vm va vd M A D s W hp hM hA hD hAb hs hT
end Go.Proofs.YtcmgeccgahakbaaDoor

/- Slices and structs that come in, read. -/
namespace Go.Proofs.YtcmgeccgahakbaaDoor
open Go Go.RowKit Go.ChangeShapes Go.WideShapes Go.ChangeAt

theorem flat_get {α β : Type} {f : α → List β} {n : Nat} : ∀ {l : List α} {j : Nat} {u : β}, (∀ a ∈ l, (f a).length = n) → (l.flatMap f)[j]? = some u → ∃ (k : Nat) (h : k < l.length) (r : Nat), r < n ∧ j = k * n + r ∧ (f l[k])[r]? = some u
  | [], j, u, _, h => by simp at h
  | a :: l, j, u, hn, h => by
    have ha := hn a (List.mem_cons_self ..)
    rw [List.flatMap_cons] at h
    by_cases hj : j < n
    · rw [List.getElem?_append_left (by omega)] at h
      exact ⟨0, by simp, j, hj, by omega, h⟩
    · rw [List.getElem?_append_right (by omega), ha] at h
      obtain ⟨k, hk, r, hr, e, hu⟩ := flat_get (fun b hb => hn b (List.mem_cons_of_mem _ hb)) h
      exact ⟨k + 1, by simpa using hk, r, hr, by rw [Nat.succ_mul]; omega, by simpa using hu⟩
theorem list_of {α : Type} {p : Nat → α → Prop} : ∀ n, (∀ i, i < n → ∃ a, p i a) → ∃ l : List α, l.length = n ∧ ∀ i (h : i < l.length), p i l[i]
  | 0, _ => ⟨[], rfl, fun i h => absurd h (Nat.not_lt_zero _)⟩
  | n + 1, h => by
    obtain ⟨l, hl, hp⟩ := list_of n (fun i hi => h i (by omega))
    obtain ⟨a, ha⟩ := h n (by omega)
    refine ⟨l ++ [a], by simp [hl], fun i hi => ?_⟩
    by_cases hlt : i < l.length
    · rw [List.getElem_append_left hlt]; exact hp i hlt
    · have e : i = l.length := by simp at hi; omega
      subst e
      rw [List.getElem_append_right (Nat.le_refl _)]
      simpa [hl] using ha

section
variable {H : Type} {enc : TypeId × Value → H} {P : Program} {W : World} {spare : Nat → Bool} {held : Bool} {n : Nat} {cs : List Value} {x : DataW H × List MemPlace}
theorem read_slice {α : Type} {T e : TypeId} {size fuel : Nat} (ht : P.underlying T = some (.slice e)) (hs : P.cellsOf e = size) (hpos : 0 < size) (f : α → List Value) (Q : α → Prop)
    (h1 : ∀ n cs x, DataW.trod enc P W 0 spare held n e cs = some x → ∃ a, cs = f a ∧ Q a) (h : DataW.trod enc P W 0 spare held fuel T cs = some x) :
    ∃ v, cs = [v] ∧ ∃ l : List α, SliceIn W v l.length (l.flatMap f) ∧ ∀ a ∈ l, Q a := by
  rcases DataW.trod_slice ht h with ⟨rfl, _⟩ | ⟨a, len, cap, elems, rest, n, _, rfl, _, _, hl, hm, hlen, hel, _⟩
  · exact ⟨_, rfl, [], SliceIn.nil W, nofun⟩
  · have each : ∀ i, i < len → ∃ b : α, W.cells? 0 (a.add (i * size)) size = some (f b) ∧ Q b := by
      intro i hi
      have := hel i hi
      rw [List.getElem?_eq_getElem (by omega), hs, Option.bind_eq_some_iff] at this
      obtain ⟨cs', h2, h3⟩ := this
      obtain ⟨b, rfl, hq⟩ := h1 _ _ _ h3
      exact ⟨b, h2, hq⟩
    obtain ⟨l, hll, hp⟩ := list_of len each
    have flen : ∀ b ∈ l, (f b).length = size := by
      intro b hb
      obtain ⟨i, hi, rfl⟩ := List.getElem_of_mem hb
      exact (World.cells?_some (hp i hi).1).2.1
    refine ⟨_, rfl, l, ⟨some a, cap, by rw [hll], by rw [hll]; exact hl, hm, nofun, fun j u hj => ?_⟩, fun b hb => ?_⟩
    · obtain ⟨k, hk, r, hr, rfl, hu⟩ := flat_get flen hj
      have h2 := (World.cells?_some (hp k hk).1).2.2 r hr
      rw [hu] at h2
      obtain ⟨b, o, s⟩ := a
      cases s with
      | none =>
        rw [Addr.add_lit, Addr.add_lit] at h2
        exact ⟨b, o, rfl, by rw [← Nat.add_assoc]; exact h2⟩
      | some s =>
        exfalso
        have h0 := (World.cells?_some (hp 0 (by omega)).1).2.2 0 hpos
        rw [Nat.zero_mul] at h0
        simp only [Addr.add, if_pos] at h0
        unfold World.cell? at h0
        have hf0 : (f l[0])[0]? ≠ none := by
          rw [Ne, List.getElem?_eq_none_iff, flen _ (List.getElem_mem _)]
          omega
        split at h0 <;> simp at h0 <;> exact hf0 (by simp [← h0])
    · obtain ⟨i, hi, rfl⟩ := List.getElem_of_mem hb
      exact (hp i hi).2
theorem fld_string {t : TypeId} {o : Nat} {y : DataW H × List MemPlace} (ht : P.underlying t = some .string) (hc : P.cellsOf t = 1) (h : DataW.trod enc P W 0 spare held n t ((cs.drop o).take (P.cellsOf t)) = some y) : ∃ s : ByteArray, cs[o]? = some (.string s) := by
  obtain ⟨s, e, _⟩ := DataW.trod_string ht h
  rw [hc] at e
  exact ⟨s, cell_of_cut e⟩
theorem fld_int {t : TypeId} {o : Nat} {y : DataW H × List MemPlace} {k : IntKind} (ht : P.underlying t = some (.int k)) (hc : P.cellsOf t = 1) (h : DataW.trod enc P W 0 spare held n t ((cs.drop o).take (P.cellsOf t)) = some y) : ∃ s : Int, cs[o]? = some (.int k s) ∧ (Lit.int k s).wf = true := by
  obtain ⟨s, e, _, hw⟩ := DataW.trod_int ht h
  rw [hc] at e
  exact ⟨s, cell_of_cut e, hw⟩
theorem fld_bool {t : TypeId} {o : Nat} {y : DataW H × List MemPlace} (ht : P.underlying t = some .bool) (hc : P.cellsOf t = 1) (h : DataW.trod enc P W 0 spare held n t ((cs.drop o).take (P.cellsOf t)) = some y) : ∃ s : Bool, cs[o]? = some (.bool s) := by
  obtain ⟨s, e, _⟩ := DataW.trod_bool ht h
  rw [hc] at e
  exact ⟨s, cell_of_cut e⟩
theorem list3 {α : Type} {l : List α} {a b c : α} (h : l.length = 3) (h0 : l[0]? = some a) (h1 : l[1]? = some b) (h2 : l[2]? = some c) : l = [a, b, c] := by
  match l, h with
  | [x, y, z], _ => simp at h0 h1 h2; rw [h0, h1, h2]
theorem list4 {α : Type} {l : List α} {a b c d : α} (h : l.length = 4) (h0 : l[0]? = some a) (h1 : l[1]? = some b) (h2 : l[2]? = some c) (h3 : l[3]? = some d) : l = [a, b, c, d] := by
  match l, h with
  | [x, y, z, u], _ => simp at h0 h1 h2 h3; rw [h0, h1, h2, h3]
theorem list5 {α : Type} {l : List α} {a b c d e : α} (h : l.length = 5) (h0 : l[0]? = some a) (h1 : (l.drop 1).take 4 = [b, c, d, e]) : l = [a, b, c, d, e] := by
  match l, h with
  | [x, y, z, u, v], _ => simp at h0 h1; simp [h0, h1]
theorem list8 {α : Type} {l : List α} {a b c d e f g i : α} (h : l.length = 8) (h0 : l[0]? = some a) (h1 : (l.drop 1).take 4 = [b, c, d, e]) (h5 : l[5]? = some f) (h6 : l[6]? = some g) (h7 : l[7]? = some i) : l = [a, b, c, d, e, f, g, i] := by
  match l, h with
  | [x, y, z, u, v, p, q, r], _ => simp at h0 h1 h5 h6 h7; simp [h0, h1, h5, h6, h7]
end
theorem cells_string : Tryd.prog.cellsOf 9 = 1 := by kernel_rfl
theorem cells_int : Tryd.prog.cellsOf 3 = 1 := by kernel_rfl
theorem cells_bool : Tryd.prog.cellsOf 4 = 1 := by kernel_rfl
end Go.Proofs.YtcmgeccgahakbaaDoor

/- Rows and partitions that come in, read. -/
namespace Go.Proofs.YtcmgeccgahakbaaDoor
open Go Go.RowKit Go.ChangeShapes Go.WideShapes Go.ChangeAt

section
variable {H : Type} {enc : TypeId × Value → H} {W : World} {spare : Nat → Bool} {held : Bool} {n : Nat} {cs : List Value} {x : DataW H × List MemPlace}
theorem cellsA_Cell : Tryd.prog.cellsOf 88 = 4 := by kernel_rfl
theorem cellsA_Col : Tryd.prog.cellsOf 154 = 5 := by kernel_rfl
theorem cellsA_Row : Tryd.prog.cellsOf 91 = 8 := by kernel_rfl
theorem cellsA_Part : Tryd.prog.cellsOf 24 = 3 := by kernel_rfl
theorem cellsA_Cols : Tryd.prog.cellsOf 89 = 1 := by kernel_rfl
theorem cellsA_Rows : Tryd.prog.cellsOf 22 = 1 := by kernel_rfl
theorem trod_cell (h : DataW.trod enc Tryd.prog W 0 spare held n 88 cs = some x) : ∃ c : Cl, cs = [.string c.val, .bool c.dead, .int .i64 c.at_, .int .i64 c.fin] := by
  obtain ⟨xs, m, _, _, hl, hlen, hf⟩ := DataW.trod_struct Tryd.underlying88 h
  rw [cellsA_Cell] at hl
  match xs, hlen with
  | [y0, y1, y2, y3], _ =>
    obtain ⟨s, e0⟩ := fld_string Tryd.underlying9 cells_string (hf 0 _ rfl)
    obtain ⟨b, e1⟩ := fld_bool Tryd.underlying4 cells_bool (hf 1 _ rfl)
    obtain ⟨i, e2, _⟩ := fld_int Tryd.underlying3 cells_int (hf 2 _ rfl)
    obtain ⟨j, e3, _⟩ := fld_int Tryd.underlying3 cells_int (hf 3 _ rfl)
    exact ⟨⟨s, b, i, j⟩, list4 hl e0 e1 e2 e3⟩
theorem trod_col (h : DataW.trod enc Tryd.prog W 0 spare held n 154 cs = some x) : ∃ c : Co, cs = [.string c.name, .string c.cell.val, .bool c.cell.dead, .int .i64 c.cell.at_, .int .i64 c.cell.fin] := by
  obtain ⟨xs, m, _, _, hl, hlen, hf⟩ := DataW.trod_struct Tryd.underlying154 h
  rw [cellsA_Col] at hl
  match xs, hlen with
  | [y0, y1], _ =>
    obtain ⟨s, e0⟩ := fld_string Tryd.underlying9 cells_string (hf 0 _ rfl)
    obtain ⟨c, e1⟩ := trod_cell (hf 1 _ rfl)
    have e1' : (cs.drop 1).take (Tryd.prog.cellsOf 88) = _ := e1
    rw [cellsA_Cell] at e1'
    exact ⟨⟨s, c⟩, list5 hl e0 e1'⟩
theorem coCells_flat (l : List Co) : coCells l = l.flatMap fun c => [.string c.name, .string c.cell.val, .bool c.cell.dead, .int .i64 c.cell.at_, .int .i64 c.cell.fin] := by
  induction l with
  | nil => rfl
  | cons c l ih => simp [coCells, ih]
theorem roCells_flat (l : List (Ro × Value)) : roCells l = l.flatMap fun p => [.string p.1.key, .string p.1.live.val, .bool p.1.live.dead, .int .i64 p.1.live.at_, .int .i64 p.1.live.fin, .int .i64 p.1.gone, .int .i64 p.1.shade, p.2] := by
  induction l with
  | nil => rfl
  | cons c l ih => simp [roCells, ih]
theorem trod_cols (h : DataW.trod enc Tryd.prog W 0 spare held n 89 cs = some x) : ∃ v l, cs = [v] ∧ ColsIn W v l := by
  obtain ⟨v, rfl, l, h, _⟩ := read_slice Tryd.underlying89 cellsA_Col (by decide) _ (fun _ => True) (fun _ _ _ h => let ⟨c, e⟩ := trod_col h; ⟨c, e, trivial⟩) h
  exact ⟨v, l, rfl, by unfold ColsIn; rw [coCells_flat]; exact h⟩
/-- A row's cells, its columns in memory. -/
theorem trod_row (h : DataW.trod enc Tryd.prog W 0 spare held n 91 cs = some x) : ∃ p : Ro × Value, cs = [.string p.1.key, .string p.1.live.val, .bool p.1.live.dead, .int .i64 p.1.live.at_, .int .i64 p.1.live.fin, .int .i64 p.1.gone, .int .i64 p.1.shade, p.2] ∧ ColsIn W p.2 p.1.cols := by
  obtain ⟨xs, m, _, _, hl, hlen, hf⟩ := DataW.trod_struct Tryd.underlying91 h
  rw [cellsA_Row] at hl
  match xs, hlen with
  | [y0, y1, y2, y3, y4], _ =>
    obtain ⟨s, e0⟩ := fld_string Tryd.underlying9 cells_string (hf 0 _ rfl)
    obtain ⟨c, e1⟩ := trod_cell (hf 1 _ rfl)
    obtain ⟨i, e2, _⟩ := fld_int Tryd.underlying3 cells_int (hf 2 _ rfl)
    obtain ⟨j, e3, _⟩ := fld_int Tryd.underlying3 cells_int (hf 3 _ rfl)
    obtain ⟨v, l, e4, hin⟩ := trod_cols (hf 4 _ rfl)
    have e1' : (cs.drop 1).take (Tryd.prog.cellsOf 88) = _ := e1
    have e4' : (cs.drop 7).take (Tryd.prog.cellsOf 89) = _ := e4
    rw [cellsA_Cell] at e1'
    rw [cellsA_Cols] at e4'
    exact ⟨(⟨s, c, i, j, l⟩, v), list8 hl e0 e1' e2 e3 (cell_of_cut e4'), hin⟩
theorem trod_rows (h : DataW.trod enc Tryd.prog W 0 spare held n 22 cs = some x) : ∃ v ps, cs = [v] ∧ RowsIn W v ps := by
  obtain ⟨v, rfl, l, h, hc⟩ := read_slice Tryd.underlying22 cellsA_Row (by decide) _ _ (fun _ _ _ h => trod_row h) h
  exact ⟨v, l, rfl, by rw [roCells_flat]; exact h, hc⟩
set_option maxRecDepth 100000 in
/-- A row that comes in. -/
theorem read_row {base : Nat} {v : Value} {d : DataW H} {p : List MemPlace} (hv : Value.okWide Tryd.prog W .any base 91 v)
    (h : DataW.Trod enc Tryd.prog W 0 (fun _ => true) true 91 v d p) : ∃ (r : Ro) (u : Value), v = (.agg #[.string r.key, .string r.live.val, .bool r.live.dead, .int .i64 r.live.at_, .int .i64 r.live.fin, .int .i64 r.gone, .int .i64 r.shade, u]) ∧ ColsIn W u r.cols := by
  obtain ⟨cs, rfl, hsz⟩ := okWide_struct Tryd.underlying91 hv
  obtain ⟨fuel, hf⟩ := h
  obtain ⟨⟨r, u⟩, e, hin⟩ := trod_row hf
  exact ⟨r, u, congrArg Value.agg (Array.toList_inj.1 e), hin⟩
set_option maxRecDepth 100000 in
/-- A partition that comes in. -/
theorem read_part {base : Nat} {v : Value} {d : DataW H} {p : List MemPlace} (hv : Value.okWide Tryd.prog W .any base 24 v)
    (h : DataW.Trod enc Tryd.prog W 0 (fun _ => true) true 24 v d p) : ∃ (k : ByteArray) (g : Int) (u : Value) (ps : List (Ro × Value)), v = .agg #[.string k, .int .i64 g, u] ∧ RowsIn W u ps := by
  obtain ⟨cs, rfl, hsz⟩ := okWide_struct Tryd.underlying24 hv
  obtain ⟨fuel, hf⟩ := h
  have hf : DataW.trod enc Tryd.prog W 0 (fun _ => true) true fuel 24 cs.toList = some (d, p) := hf
  obtain ⟨xs, m, _, _, hl, hlen, hff⟩ := DataW.trod_struct Tryd.underlying24 hf
  rw [cellsA_Part] at hl
  match xs, hlen with
  | [y0, y1, y2], _ =>
    obtain ⟨s, e0⟩ := fld_string Tryd.underlying9 cells_string (hff 0 _ rfl)
    obtain ⟨i, e1, _⟩ := fld_int Tryd.underlying3 cells_int (hff 1 _ rfl)
    obtain ⟨u, ps, e2, hin⟩ := trod_rows (hff 2 _ rfl)
    have e2' : (cs.toList.drop 2).take (Tryd.prog.cellsOf 22) = _ := e2
    rw [cellsA_Rows] at e2'
    exact ⟨s, i, u, ps, congrArg Value.agg (Array.toList_inj.1 (list3 hl e0 e1 (cell_of_cut e2'))), hin⟩
end
end Go.Proofs.YtcmgeccgahakbaaDoor
