/- pack.GetBatch. -/
import Derived.Test.YtcmgeccgahakbaaDoorS18
import Derived.Test.YtcmgeccgahakbaaDoorS12
import Derived.Test.YtcmgeccgahakbaaDoorS2
set_option linter.unusedSimpArgs false
set_option linter.unusedVariables false
namespace Go.Proofs.YtcmgeccgahakbaaDoor
open Go Go.RowKit
attribute [local go_sem] yields yUpon

/-- A fact that no tactic brings to its head form. -/
def Far (p : Prop) : Prop := Unit → p
theorem far {p : Prop} (h : p) : Far p := fun _ => h
theorem Far.out {p : Prop} (h : Far p) : p := h ()
theorem nts_of {w : World} {v : Value} {l : List Nt} (h : TIn w 94 v l.length (l.flatMap Nt.cells)) : NtsIn w v l := h.slice
theorem ints_of {w : World} {v : Value} {l : List Int} (h : TIn w 3 v l.length (kcells .i64 l)) : IntsIn w v .i64 l := h.slice
/-- What was read so far stays. -/
structure Got (w : World) (vm va vd : Value) (ms : List Mt) (A : List Nt) (D : List Int) : Prop where
  mt : TIn w 64 vm ms.length (mtCells ms)
  rows : ∀ m ∈ ms, RowsT w m.pa.rv m.pa.ps
  nt : TIn w 94 va A.length (A.flatMap Nt.cells)
  it : TIn w 3 vd D.length (kcells .i64 D)
section
variable {w w' : World} {vm va vd : Value} {ms : List Mt} {A : List Nt} {D : List Int}
theorem Got.ext (h : Got w vm va vd ms A D) (hE : Ext w w') : Got w' vm va vd ms A D := ⟨h.mt.ext hE, fun m hm => (h.rows m hm).ext hE, h.nt.ext hE, h.it.ext hE⟩
theorem Got.touch {q : Nat} {W : Array Value} (h : Got w vm va vd ms A D) (hT : Touch9 w w' q) (hq : BoxAt w q W 120) : Got w' vm va vd ms A D :=
  ⟨h.mt.touch9 hT hq (by decide), fun m hm => (h.rows m hm).touch9 hT hq (by decide) (by decide), h.nt.touch9 hT hq (by decide), h.it.touch9 hT hq (by decide)⟩
theorem Got.set {q : Nat} {W : Array Value} (h : Got w vm va vd ms A D) (i : Nat) (u : Value) (hq : BoxAt w q W 29) : Got (w.setCell ⟨q, i, none⟩ u) vm va vd ms A D :=
  ⟨TIn.set i u hq (by decide) h.mt, fun m hm => RowsT.set i u hq (by decide) (by decide) (h.rows m hm), TIn.set i u hq (by decide) h.nt, TIn.set i u hq (by decide) h.it⟩
theorem Got.none (w : World) : Got w (.slice none 0 0) (.slice none 0 0) (.slice none 0 0) [] [] [] := ⟨TIn.nil w _, nofun, TIn.nil w _, TIn.nil w _⟩
end
theorem BoxAt.bt {w : World} {p : Nat} {a b c : Value} {e : TypeId} (h : BoxAt w p #[a, b, c] e) : w.cell? ⟨p, 0, none⟩ = some a ∧ w.cell? ⟨p, 1, none⟩ = some b ∧ w.cell? ⟨p, 2, none⟩ = some c := ⟨h.cell 0, h.cell 1, h.cell 2⟩

set_option maxRecDepth 100000 in
set_option maxHeartbeats 8000000 in
theorem pk_getbatch (v : Value) (l : List UInt8) (w : World) (hv : BytesIn w v l) (hl : l.length ≤ 900000) (hlow : ∀ b o k c, v = .slice (some ⟨b, o, none⟩) k c → b < w.heap.size) (hT : TabU w) :
    Calls Tryd.prog 20 #[v] w fun e w' => ∃ vm va vd ms, e = .returned (.tuple #[.agg #[vm, va, vd], .int .i64 (gbErr l)]) ∧ Got w' vm va vd ms (gbBt l).add (gbBt l).drop ∧ ms.map Mt.q = (gbBt l).muts ∧ Ext w w' := by
  have hE0 := (Ext.refl w).alloc (.cells #[.slice none 0 0, .slice none 0 0, .slice none 0 0] 29)
  have b2 := BoxAt.made w #[.slice none 0 0, .slice none 0 0, .slice none 0 0] 29
  have k1 := rd_read v l _ (hv.ext hE0) hl (fun b o k c e => by have := hlow b o k c e; have := hE0.le; omega)
  obtain ⟨s0, hs0⟩ : ∃ s0 : Nat × Int, s0 = (0, if l.length ≤ 262144 then 0 else 2) := ⟨_, rfl⟩
  rw [← hs0] at k1
  obtain ⟨ML, s1, hM⟩ : ∃ M s1, listR l (mutR l) s0 = (M, s1) := ⟨_, _, rfl⟩
  obtain ⟨AL, s2, hA⟩ : ∃ M t, listR l (noteR l) s1 = (M, t) := ⟨_, _, rfl⟩
  obtain ⟨DL, s3, hD⟩ : ∃ M t, listR l (numIR l) s2 = (M, t) := ⟨_, _, rfl⟩
  obtain ⟨i4, e4, h4⟩ : ∃ i e, endR l s3 = (i, e) := ⟨_, _, rfl⟩
  have hgB : gB l = (⟨ML, AL, DL⟩, (i4, e4)) := by
    unfold gB btR
    rw [← hs0, hM]
    simp only
    rw [hA]
    simp only
    rw [hD]
    simp only
    rw [h4]
  have hlw := btR_low l s0
  have hgB2 : (btR l s0).1 = ⟨ML, AL, DL⟩ := by
    unfold gB at hgB
    rw [← hs0] at hgB
    rw [hgB]
  rw [hgB2] at hlw
  simp only at hlw
  have HLM := far hlw.1
  have HLA := far hlw.2
  have K1 := far k1
  have HM := far hM
  have HA := far hA
  have HD := far hD
  have H4 := far h4
  have HGB := far hgB
  clear k1 hM hA hD h4 hs0 hlw hgB2 hgB
  go_enter Tryd.func20, Tryd.ntmps20
  go_wp2_with fail
  refine K1.out.mono ?_
  rintro e w1 ⟨rfl, h1, hE1⟩
  obtain ⟨Q, hQ⟩ : ∃ Q, Q = (w.alloc (.cells #[.slice none 0 0, .slice none 0 0, .slice none 0 0] 29)).heap.size := ⟨_, rfl⟩
  have hQ1 : Q = w.heap.size + 1 := by rw [hQ, Deep.nblk_alloc]
  rw [← hQ] at h1 ⊢
  clear hQ
  subst hQ1
  have b21 := b2.ext hE1
  have hQl := h1.lt
  have hq2 : w.heap.size ≠ w.heap.size + 1 := by omega
  have hq3 : w1.heap.size ≠ w.heap.size + 1 := by omega
  have b3 := BoxAt.made w1 #[.slice none 0 0, .slice none 0 0, .slice none 0 0] 29
  have hE3 := (Ext.refl w1).alloc (.cells #[.slice none 0 0, .slice none 0 0, .slice none 0 0] 29)
  have b22 := b21.ext hE3
  have h3 := h1.ext hE3
  have hX3 : Ext w (w1.alloc (.cells #[.slice none 0 0, .slice none 0 0, .slice none 0 0] 29)) := (hE0.trans hE1).trans hE3
  have hne : w.heap.size ≠ w1.heap.size := by omega
  have hle : w.heap.size ≤ w1.heap.size := by omega
  have hOQ : w.heap.size + 1 ≠ w1.heap.size := by omega
  have hoff : ∀ b o k c, v = .slice (some ⟨b, o, none⟩) k c → b ≠ w1.heap.size := fun b o k c e => by have := hlow b o k c e; omega
  go_wp2_with fail
  generalize (w1.alloc (.cells #[.slice none 0 0, .slice none 0 0, .slice none 0 0] 29)) = wa at b3 b22 h3 hX3 ⊢
  -- the mutations
  refine (rd_mutsW h3).mono ?_
  rintro e w2 ⟨u1, ms, rfl, ho1, hr1, hm1, h2, hT2⟩
  rw [HM.out] at h2 hm1
  simp only at h2 hm1
  have b3a := hT2.box b3 hq3
  have b2a := hT2.box b22 hq2
  have hX2 := hT2.ext hX3 (by omega)
  obtain ⟨a1, c1, rfl⟩ := own_shape (id ho1)
  have G1 : Got w2 (.slice a1 ms.length c1) (.slice none 0 0) (.slice none 0 0) ms [] [] := ⟨TIn.own ho1, hr1, (Got.none w2).nt, (Got.none w2).it⟩
  have y0 : w2.cell? ⟨w1.heap.size, 0, none⟩ = some (.slice none 0 0) := b3a.cell 0
  have yf := b3a.free
  have h2b : RdAt (w2.setCell ⟨w1.heap.size, 0, none⟩ (.slice a1 ms.length c1)) (w.heap.size + 1) v l s1 := ⟨h2.box.other hOQ 0 _, slice_off h2.bytes hoff, h2.off, h2.le, h2.big⟩
  have b3b : BoxAt (w2.setCell ⟨w1.heap.size, 0, none⟩ (.slice a1 ms.length c1)) w1.heap.size #[.slice a1 ms.length c1, .slice none 0 0, .slice none 0 0] 29 := b3a.set 0 _
  have b2b := b2a.other hne 0 (.slice a1 ms.length c1)
  have G1b := G1.set 0 (.slice a1 ms.length c1) b3a
  have hX2b := hX2.setCell (p := ⟨w1.heap.size, 0, none⟩) hle (.slice a1 ms.length c1)
  go_wp2_with fail
  generalize w2.setCell ⟨w1.heap.size, 0, none⟩ (.slice a1 ms.length c1) = wb at h2b b3b b2b G1b hX2b ⊢
  clear y0 yf
  -- the notes
  refine (rd_notesW h2b).mono ?_
  rintro e w4 ⟨u2, rfl, ho2, h4, hT4⟩
  rw [HA.out] at h4 ho2
  simp only at h4 ho2
  have b3c := hT4.box b3b hq3
  have b2c := hT4.box b2b hq2
  have hX4 := hT4.ext hX2b (by omega)
  obtain ⟨a2, c2, rfl⟩ := own_shape (id ho2)
  have G2 : Got w4 (.slice a1 ms.length c1) (.slice a2 AL.length c2) (.slice none 0 0) ms AL [] := ⟨(G1b.touch hT4 h2b.box).mt, (G1b.touch hT4 h2b.box).rows, TIn.own ho2, TIn.nil _ _⟩
  have y1 : w4.cell? ⟨w1.heap.size, 1, none⟩ = some (.slice none 0 0) := b3c.cell 1
  have yf := b3c.free
  have h4b : RdAt (w4.setCell ⟨w1.heap.size, 1, none⟩ (.slice a2 AL.length c2)) (w.heap.size + 1) v l s2 := ⟨h4.box.other hOQ 1 _, slice_off h4.bytes hoff, h4.off, h4.le, h4.big⟩
  have b3d : BoxAt (w4.setCell ⟨w1.heap.size, 1, none⟩ (.slice a2 AL.length c2)) w1.heap.size #[.slice a1 ms.length c1, .slice a2 AL.length c2, .slice none 0 0] 29 := b3c.set 1 _
  have b2d := b2c.other hne 1 (.slice a2 AL.length c2)
  have G2b := G2.set 1 (.slice a2 AL.length c2) b3c
  have hX4b := hX4.setCell (p := ⟨w1.heap.size, 1, none⟩) hle (.slice a2 AL.length c2)
  go_wp2_with fail
  generalize w4.setCell ⟨w1.heap.size, 1, none⟩ (.slice a2 AL.length c2) = wc at h4b b3d b2d G2b hX4b ⊢
  clear y1 yf
  -- the numbers
  refine (rd_intsW h4b).mono ?_
  rintro e w5 ⟨u3, rfl, ho3, h5, hT5⟩
  rw [HD.out] at h5 ho3
  simp only at h5 ho3
  have b3e := hT5.box b3d hq3
  have b2e := hT5.box b2d hq2
  have hX5 := hT5.ext hX4b (by omega)
  obtain ⟨a3, c3, rfl⟩ := own_shape (id ho3)
  have G3 : Got w5 (.slice a1 ms.length c1) (.slice a2 AL.length c2) (.slice a3 DL.length c3) ms AL DL := ⟨(G2b.touch hT5 h4b.box).mt, (G2b.touch hT5 h4b.box).rows, (G2b.touch hT5 h4b.box).nt, TIn.own ho3⟩
  have y2 : w5.cell? ⟨w1.heap.size, 2, none⟩ = some (.slice none 0 0) := b3e.cell 2
  have yf := b3e.free
  have h5b : RdAt (w5.setCell ⟨w1.heap.size, 2, none⟩ (.slice a3 DL.length c3)) (w.heap.size + 1) v l s3 := ⟨h5.box.other hOQ 2 _, slice_off h5.bytes hoff, h5.off, h5.le, h5.big⟩
  have b3f : BoxAt (w5.setCell ⟨w1.heap.size, 2, none⟩ (.slice a3 DL.length c3)) w1.heap.size #[.slice a1 ms.length c1, .slice a2 AL.length c2, .slice a3 DL.length c3] 29 := b3e.set 2 _
  have b2f := b2e.other hne 2 (.slice a3 DL.length c3)
  have G3b := G3.set 2 (.slice a3 DL.length c3) b3e
  have hX5b := hX5.setCell (p := ⟨w1.heap.size, 2, none⟩) hle (.slice a3 DL.length c3)
  go_wp2_with fail
  generalize w5.setCell ⟨w1.heap.size, 2, none⟩ (.slice a3 DL.length c3) = wd at h5b b3f b2f G3b hX5b ⊢
  clear y2 yf
  -- the end
  refine (rd_end h5b).mono ?_
  rintro e w6 ⟨rfl, h6, hT6⟩
  rw [H4.out] at h6
  have b3g := hT6.box b3f hq3
  have b2g := hT6.box b2f hq2
  have hX6 := hT6.ext hX5b (by omega)
  have G4 := G3b.touch hT6 h5b.box
  have z0 : w6.cell? ⟨w1.heap.size, 0, none⟩ = some (.slice a1 ms.length c1) := b3g.cell 0
  have z1 : w6.cell? ⟨w1.heap.size, 1, none⟩ = some (.slice a2 AL.length c2) := b3g.cell 1
  have z2 : w6.cell? ⟨w1.heap.size, 2, none⟩ = some (.slice a3 DL.length c3) := b3g.cell 2
  go_wp2_with fail
  -- may it be?
  have hcq : cbG ms AL DL = cbQ ⟨ML, AL, DL⟩ := by rw [cbG_q, hm1]
  have hlm : ∀ x ∈ ms, x.table.size ≤ 1000000 ∧ ∀ p ∈ x.pa.ps, ∀ c ∈ p.1.cols, c.name.size ≤ 1000000 := fun x hx => by
    have h1 := HLM.out x.q (by rw [← hm1]; exact List.mem_map_of_mem hx)
    refine ⟨Nat.le_trans h1.1 (by omega), fun p hp c hc => Nat.le_trans (h1.2 p.1 (List.mem_map_of_mem (f := (·.1)) hp) c hc) (by omega)⟩
  refine (cb_gen _ _ _ ms AL DL w6 (hT.ext hX6) ⟨G4.mt.slice, fun m hm => (G4.rows m hm).rows⟩ (nts_of G4.nt) (ints_of G4.it) hlm (fun x hx => Nat.le_trans (HLA.out x hx) (by omega))).mono ?_
  rw [hcq]
  rintro e w7 ⟨rfl, hE7⟩
  have h7 := h6.ext hE7
  have b3h := b3g.ext hE7
  have b2h := b2g.ext hE7
  have G5 := G4.ext hE7
  have hX7 := hX6.trans hE7
  have HM1 := far hm1
  clear hlm z0 z1 z2 hcq hm1
  cases hq : cbQ ⟨ML, AL, DL⟩
  · obtain ⟨e5, he5, h50⟩ : ∃ e5, failR 1 (i4, e4) = (i4, e5) ∧ ¬ e5 = 0 := by
      unfold failR
      by_cases h : e4 = 0
      · exact ⟨1, by rw [if_pos h], by decide⟩
      · exact ⟨e4, by rw [if_neg h], h⟩
    have HER : Far (gbErr l = e5) := far (by
      unfold gbErr
      rw [HGB.out]
      simp only [hq]
      unfold failR at he5
      by_cases h : e4 = 0
      · rw [if_pos h] at he5 ⊢
        cases he5; rfl
      · rw [if_neg h] at he5 ⊢
        cases he5; rfl)
    have HBT : Far (gbBt l = ⟨[], [], []⟩) := far (by unfold gbBt; rw [HER.out, if_neg h50])
    have d0 : (e5 == 0) = false := by simpa using h50
    have HE5 := far he5
    clear he5 hq
    go_wp2_with fail
    refine (rd_fail 1 h7).mono ?_
    rintro e w8 ⟨rfl, h8, hT8⟩
    rw [HE5.out] at h8
    have q2 : w8.cell? ⟨w.heap.size + 1, 2, none⟩ = some (.int .i64 e5) := h8.c2
    have b2i := hT8.box b2h hq2
    have hX8 := hT8.ext hX7 (by omega)
    have x0 : w8.cell? ⟨w.heap.size, 0, none⟩ = some (.slice none 0 0) := b2i.cell 0
    have x1 : w8.cell? ⟨w.heap.size, 1, none⟩ = some (.slice none 0 0) := b2i.cell 1
    have x2 : w8.cell? ⟨w.heap.size, 2, none⟩ = some (.slice none 0 0) := b2i.cell 2
    have xf := b2i.free
    go_wp2_with fail
    go_region
    have b5 := (((b2i.set 0 (.slice none 0 0)).set 1 (.slice none 0 0)).set 2 (.slice none 0 0)).ext (Ext.refl _).drew
    have hE5 := (((hX8.setCell (p := ⟨w.heap.size, 0, none⟩) (Nat.le_refl _) (.slice none 0 0)).setCell (p := ⟨w.heap.size, 1, none⟩) (Nat.le_refl _) (.slice none 0 0)).setCell (p := ⟨w.heap.size, 2, none⟩) (Nat.le_refl _) (.slice none 0 0)).drew
    generalize hw5 : World.drew _ = w9 at b5 hE5 ⊢
    replace b5 : BoxAt w9 w.heap.size #[.slice none 0 0, .slice none 0 0, .slice none 0 0] 29 := b5
    go_wp2
    refine bodyPost_ret (v := .tuple #[.agg #[.slice none 0 0, .slice none 0 0, .slice none 0 0], .int .i64 e5]) ?_ rfl ⟨_, _, _, [], by rw [HER.out], by rw [HBT.out]; exact Got.none w9, by rw [HBT.out]; rfl, hE5⟩
    obtain ⟨z0, z1, z2⟩ := b5.bt
    simp [results, Tryd.results20, go_sem, z0, z1, z2]
    try rfl
  · have q2 : w7.cell? ⟨w.heap.size + 1, 2, none⟩ = some (.int .i64 e4) := h7.c2
    by_cases h50 : e4 = 0
    · subst h50
      have HER : Far (gbErr l = 0) := far (by unfold gbErr; rw [HGB.out]; simp [hq])
      clear hq
      have HBT : Far (gbBt l = ⟨ML, AL, DL⟩) := far (by unfold gbBt; rw [HER.out, if_pos rfl, HGB.out])
      have x0 : w7.cell? ⟨w.heap.size, 0, none⟩ = some (.slice none 0 0) := b2h.cell 0
      have x1 : w7.cell? ⟨w.heap.size, 1, none⟩ = some (.slice none 0 0) := b2h.cell 1
      have x2 : w7.cell? ⟨w.heap.size, 2, none⟩ = some (.slice none 0 0) := b2h.cell 2
      have xf := b2h.free
      have z0 : w7.cell? ⟨w1.heap.size, 0, none⟩ = some (.slice a1 ms.length c1) := b3h.cell 0
      have z1 : w7.cell? ⟨w1.heap.size, 1, none⟩ = some (.slice a2 AL.length c2) := b3h.cell 1
      have z2 : w7.cell? ⟨w1.heap.size, 2, none⟩ = some (.slice a3 DL.length c3) := b3h.cell 2
      have b5 := (((b2h.set 0 (.slice a1 ms.length c1)).set 1 (.slice a2 AL.length c2)).set 2 (.slice a3 DL.length c3))
      have G6 := ((G5.set 0 (.slice a1 ms.length c1) b2h).set 1 (.slice a2 AL.length c2) (b2h.set 0 (.slice a1 ms.length c1))).set 2 (.slice a3 DL.length c3) ((b2h.set 0 (.slice a1 ms.length c1)).set 1 (.slice a2 AL.length c2))
      have hE5 := (((hX7.setCell (p := ⟨w.heap.size, 0, none⟩) (Nat.le_refl _) (.slice a1 ms.length c1)).setCell (p := ⟨w.heap.size, 1, none⟩) (Nat.le_refl _) (.slice a2 AL.length c2)).setCell (p := ⟨w.heap.size, 2, none⟩) (Nat.le_refl _) (.slice a3 DL.length c3))
      go_wp2_with fail
      generalize hw9 : World.setCell (World.setCell (World.setCell w7 _ _) _ _) _ _ = w9 at b5 hE5 G6 ⊢
      replace b5 : BoxAt w9 w.heap.size #[.slice a1 ms.length c1, .slice a2 AL.length c2, .slice a3 DL.length c3] 29 := b5
      refine bodyPost_ret (v := .tuple #[.agg #[.slice a1 ms.length c1, .slice a2 AL.length c2, .slice a3 DL.length c3], .int .i64 0]) ?_ rfl ⟨_, _, _, ms, by rw [HER.out], by rw [HBT.out]; exact G6, by rw [HBT.out]; exact HM1.out, hE5⟩
      obtain ⟨z0, z1, z2⟩ := b5.bt
      simp [results, Tryd.results20, go_sem, z0, z1, z2]
      try rfl
    · have HER : Far (gbErr l = e4) := far (by unfold gbErr; rw [HGB.out]; exact if_neg h50)
      clear hq
      have HBT : Far (gbBt l = ⟨[], [], []⟩) := far (by unfold gbBt; rw [HER.out, if_neg h50])
      have d0 : (e4 == 0) = false := by simpa using h50
      have x0 : w7.cell? ⟨w.heap.size, 0, none⟩ = some (.slice none 0 0) := b2h.cell 0
      have x1 : w7.cell? ⟨w.heap.size, 1, none⟩ = some (.slice none 0 0) := b2h.cell 1
      have x2 : w7.cell? ⟨w.heap.size, 2, none⟩ = some (.slice none 0 0) := b2h.cell 2
      have xf := b2h.free
      go_wp2_with fail
      go_region
      have b5 := (((b2h.set 0 (.slice none 0 0)).set 1 (.slice none 0 0)).set 2 (.slice none 0 0)).ext (Ext.refl _).drew
      have hE5 := (((hX7.setCell (p := ⟨w.heap.size, 0, none⟩) (Nat.le_refl _) (.slice none 0 0)).setCell (p := ⟨w.heap.size, 1, none⟩) (Nat.le_refl _) (.slice none 0 0)).setCell (p := ⟨w.heap.size, 2, none⟩) (Nat.le_refl _) (.slice none 0 0)).drew
      generalize hw5 : World.drew _ = w9 at b5 hE5 ⊢
      replace b5 : BoxAt w9 w.heap.size #[.slice none 0 0, .slice none 0 0, .slice none 0 0] 29 := b5
      go_wp2
      refine bodyPost_ret (v := .tuple #[.agg #[.slice none 0 0, .slice none 0 0, .slice none 0 0], .int .i64 e4]) ?_ rfl ⟨_, _, _, [], by rw [HER.out], by rw [HBT.out]; exact Got.none w9, by rw [HBT.out]; rfl, hE5⟩
      obtain ⟨z0, z1, z2⟩ := b5.bt
      simp [results, Tryd.results20, go_sem, z0, z1, z2]
      try rfl
end Go.Proofs.YtcmgeccgahakbaaDoor

/- clerestorylaw00.Batch. -/
namespace Go.Proofs.YtcmgeccgahakbaaDoor
open Go Go.RowKit
attribute [local go_sem] yields yUpon

theorem ntc_length (l : List Nt) : (l.flatMap Nt.cells).length = l.length * 2 := by
  induction l with
  | nil => rfl
  | cons c l ih => rw [List.flatMap_cons, List.length_append, ih]; simp [Nt.cells]; omega
theorem ntc_one (l : List Nt) : ∀ u ∈ l.flatMap Nt.cells, u.oneCell' = true := by
  intro u hu
  simp only [List.mem_flatMap] at hu
  obtain ⟨n, _, hu⟩ := hu
  simp only [Nt.cells, List.mem_cons, List.not_mem_nil, or_false] at hu
  rcases hu with rfl | rfl <;> rfl
theorem kic_one (l : List Int) : ∀ u ∈ kcells .i64 l, u.oneCell' = true := by
  intro u hu
  simp only [kcells, List.mem_map] at hu
  obtain ⟨n, _, rfl⟩ := hu
  rfl

set_option maxRecDepth 100000 in
set_option maxHeartbeats 8000000 in
theorem lbatch_any (vm va vd : Value) (M : List Mt) (A : List Nt) (D : List Int) (w : World) (hM : MtsIn w vm M) (hA : NtsIn w va A) (hD : IntsIn w vd .i64 D) (hlen : M.length ≤ 1000000) (hal : A.length ≤ 1000000) (hdl : D.length ≤ 1000000) (hrow : ∀ m ∈ M, m.pa.ps.length ≤ 10000 ∧ ∀ q ∈ m.pa.ps, q.1.cols.length ≤ 1000000) :
    Calls Tryd.prog 16 #[.agg #[vm, va, vd]] w fun e w' => ∃ vm' va' vd' L, e = .returned (.agg #[vm', va', vd']) ∧ Got w' vm' va' vd' L A D ∧ L.map Mt.q = M.map Mt.q ∧ Ext w w' := by
  obtain ⟨a0, a1, hE⟩ := boxes2 w #[vm, va, vd] #[.slice none 0 0, .slice none 0 0, .slice none 0 0] 29 29
  have HM := Lib.hid (hM.ext hE)
  have HA := Lib.hid (SliceIn.ext hE hA)
  have HD := Lib.hid (SliceIn.ext hE hD)
  have HR := Lib.hid hrow
  obtain ⟨am, cm, rfl, _⟩ := hM.get
  obtain ⟨aa, ca, rfl, _⟩ := hA.get
  obtain ⟨ad, cd, rfl, _⟩ := id hD
  clear hM hA hD hrow
  go_enter Tryd.func16, Tryd.ntmps16
  go_wp2_with fail
  generalize World.alloc (World.alloc w _) _ = w1 at a0 a1 hE HM HA HD ⊢
  have c0 := held (show w1.cell? ⟨w.heap.size, 0, none⟩ = some (.slice am M.length cm) from a0.cell 0)
  have c1 := held (show w1.cell? ⟨w.heap.size, 1, none⟩ = some (.slice aa A.length ca) from a0.cell 1)
  have c2 := held (show w1.cell? ⟨w.heap.size, 2, none⟩ = some (.slice ad D.length cd) from a0.cell 2)
  refine wp_region_tab 10 [(2, fun v x => ∃ L, MtsT x v L ∧ L.map Mt.q = M.map Mt.q), (5, fun v x => TIn x 94 v A.length (A.flatMap Nt.cells)), (8, fun v x => TIn x 3 v D.length (kcells .i64 D))] (by kernel_rfl) (by kernel_rfl) (by kernel_rfl) ⟨fun _ _ _ hE ⟨L, h, hm⟩ => ⟨L, h.ext hE, hm⟩, fun _ _ _ hE h => TIn.ext hE h, fun _ _ _ hE h => TIn.ext hE h, trivial⟩ ?_
  refine rg_quiet rfl rfl rfl rfl ?_; intro K hK; go_big_quiet_op; go_big_quiet_on
  refine rg_quiet rfl rfl rfl rfl ?_; intro K hK; go_big_quiet_op; go_big_quiet_on
  refine rg_fact [] rfl rfl rfl (by kernel_rfl) (fun y hY hf => ?_) (fun v2 y2 hE2 hG2 h2 => ?_)
  · go_simp
    refine (lmuts_any _ M y (HM.out.ext hY) hlen HR.out).mono ?_
    rintro e w' ⟨v', L, rfl, h1, h2, h3⟩
    exact ⟨_, rfl, rg_doneR hY h3 ⟨L, h1, h2⟩⟩
  obtain ⟨L2, h2, _⟩ := h2
  obtain ⟨a2, n2, rfl⟩ := h2.tin.shape
  clear hE2 hG2 h2
  simp only [Act.put, List.setIfInBounds_toArray, List.set_cons_zero, List.set_cons_succ]
  refine rg_quiet rfl rfl rfl rfl ?_; intro K hK; go_big_quiet_op; go_big_quiet_on
  refine rg_quiet rfl rfl rfl rfl ?_; intro K hK; go_big_quiet_op; go_big_quiet_on
  refine rg_fact [] rfl rfl rfl (by kernel_rfl) (fun y hY hf => ?_) (fun v5 y5 hE5 hG5 h5 => ?_)
  · refine yields_app info_noteP und_notesP rfl (by decide) (.const (.slice none 0 0)) (.tmp 7) rfl y.heap.size (Nat.le_refl _) (.slice none 0 0) 0 [] (World.ownsRow_nil _ _ _ _) rfl (SliceIn.ext hY HA.out) rfl (ntc_length A) (ntc_one A) (by unfold maxLen; omega) (by omega) ?_
    intro v' w' h1 _ h3
    rw [Nat.zero_add, List.nil_append] at h1
    exact rg_doneR hY ((Ext.refl y).grown h3 nofun) (TIn.own h1)
  obtain ⟨a5, n5, rfl⟩ := TIn.shape h5
  clear hE5 hG5 h5
  simp only [Act.put, List.setIfInBounds_toArray, List.set_cons_zero, List.set_cons_succ]
  refine rg_quiet rfl rfl rfl rfl ?_; intro K hK; go_big_quiet_op; go_big_quiet_on
  refine rg_quiet rfl rfl rfl rfl ?_; intro K hK; go_big_quiet_op; go_big_quiet_on
  refine rg_fact [] rfl rfl rfl (by kernel_rfl) (fun y hY hf => ?_) (fun v8 y8 hE8 hG8 h8 => ?_)
  · refine yields_app info_intP und_intsP rfl (by decide) (.const (.slice none 0 0)) (.tmp 10) rfl y.heap.size (Nat.le_refl _) (.slice none 0 0) 0 [] (World.ownsRow_nil _ _ _ _) rfl (SliceIn.ext hY HD.out) rfl (by simp) (kic_one D) (by unfold maxLen; omega) (by omega) ?_
    intro v' w' h1 _ h3
    rw [Nat.zero_add, List.nil_append] at h1
    exact rg_doneR hY ((Ext.refl y).grown h3 nofun) (TIn.own h1)
  obtain ⟨a8, n8, rfl⟩ := TIn.shape h8
  clear hE8 hG8 h8
  simp only [Act.put, List.setIfInBounds_toArray, List.set_cons_zero, List.set_cons_succ]
  refine rg_quiet rfl rfl rfl rfl ?_; intro K hK; go_big_quiet_op; go_big_quiet_on
  refine rel_tail rfl rfl fun w5 hE5 hG => ?_
  have h8 := (hG 8).2 rfl
  have h5 := (hG 5).1.2 rfl
  obtain ⟨L, h2, hm2⟩ := (hG 2).1.1.2 rfl
  have G5 : Got w5 (.slice a2 L2.length n2) (.slice a5 A.length n5) (.slice a8 D.length n8) L A D := ⟨h2.tin, h2.rows, h5, h8⟩
  have b1 := a1.ext hE5
  have hX5 := hE.trans hE5
  clear hG c0 c1 c2 HM HA HD h2 h5 h8 a0 a1
  go_wp2_with (((guard_target =~ wpList _ _ _ (Oper.mk none (Op.store _ (Operand.tmp 2) (Operand.tmp 12)) _ _ _ _ :: _) _ _); go_must (refine storeBox rfl 29 (.tmp 2) (.tmp 12) rfl (w.heap.size + 1) _ _ _ (by rfl) (by rfl) (b1) (by kernel_rfl) (by rfl) (by simp [Value.oneCell']) ?_); intro w3 c3 g3))
  have hX3 := hX5.grown g3 (fun q hq => by cases hq; omega)
  have G3 : Got w3 (.slice a2 L2.length n2) (.slice a5 A.length n5) (.slice a8 D.length n8) L A D := ⟨G5.mt.keep g3 b1 (by decide), fun m hm => (G5.rows m hm).keep g3 b1 (by decide) (by decide), G5.nt.keep g3 b1 (by decide), G5.it.keep g3 b1 (by decide)⟩
  replace c3 : BoxAt w3 (w.heap.size + 1) #[.slice a2 L2.length n2, .slice a5 A.length n5, .slice a8 D.length n8] 29 := c3
  obtain ⟨z0, z1, z2⟩ := c3.bt
  refine bodyPost_ret (v := .agg #[.slice a2 L2.length n2, .slice a5 A.length n5, .slice a8 D.length n8]) ?_ rfl ⟨_, _, _, L, rfl, G3, hm2, hX3⟩
  simp [results, Tryd.results16, go_sem, Act.put, z0, z1, z2]
end Go.Proofs.YtcmgeccgahakbaaDoor

/- The walk over the reference 02: Int, by itself. -/

namespace Go.Proofs.YtcmgeccgahakbaaDoor
open Go Go.RowKit
attribute [local go_sem] yields yUpon

theorem nat_xor_top (V : Nat) (h : V < 18446744073709551616) : V ^^^ 9223372036854775808 = (V + 9223372036854775808) % 18446744073709551616 := by
  apply Nat.eq_of_testBit_eq
  intro i
  have e1 : (9223372036854775808 : Nat) = 2 ^ 63 := by decide
  have e2 : (18446744073709551616 : Nat) = 2 ^ 64 := by decide
  rw [e1, e2, Nat.testBit_xor, Nat.testBit_mod_two_pow, Nat.testBit_two_pow]
  rcases Nat.lt_trichotomy i 63 with hi | hi | hi
  · rw [Nat.add_comm, Nat.testBit_two_pow_add_gt hi]
    have : ¬ 63 = i := by omega
    have h' : i < 64 := by omega
    simp [this, h']
  · subst hi
    rw [Nat.add_comm, Nat.testBit_two_pow_add_eq]
    simp
  · have h1 : V.testBit i = false := Nat.testBit_lt_two_pow (Nat.lt_of_lt_of_le (by rw [← e2]; exact h) (Nat.pow_le_pow_right (by decide) (by omega : 64 ≤ i)))
    have h2 : ¬ 63 = i := by omega
    have h3 : ¬ i < 64 := by omega
    simp [h1, h2, h3]

theorem bits_xor_top (V : Nat) (h : V < 18446744073709551616) : bits .xor .u64 (V : Int) 9223372036854775808 = (((V + 9223372036854775808) % 18446744073709551616 : Nat) : Int) := by
  have e : bits .xor .u64 (V : Int) ((9223372036854775808 : Nat) : Int) = ((V ^^^ 9223372036854775808 : Nat) : Int) := by
    simp only [bits, BitVec.ofInt_natCast, BitVec.toNat_xor, BitVec.toNat_ofNat]
    have hp : (2 : Nat) ^ IntKind.u64.bits = 18446744073709551616 := by decide
    rw [hp, Nat.mod_eq_of_lt h, Nat.mod_eq_of_lt (by decide), IntKind.wrap_u64, nat_xor_top V h]
    omega
  rw [nat_xor_top V h] at e
  exact e
theorem str_app (l m : List UInt8) : str l ++ str m = str (l ++ m) := by
  apply ByteArray.ext
  simp [str]
theorem ret_str {x y : ByteArray} (h : x = y) : Ending.returned (.string x) = .returned (.string y) := by rw [h]

theorem byte_in (w : World) (X : Int) (h0 : 0 ≤ X) (h1 : X < 256) : BytesIn (w.alloc (.cells #[.int .u8 X] 5)) (.slice (some ⟨w.heap.size, 0, none⟩) 1 1) [UInt8.ofNat X.toNat] := by
  unfold BytesIn
  rw [← cs1 h0 h1]
  exact SliceIn.made w _ _ 1 (by unfold maxLen; omega)

set_option maxRecDepth 100000 in
set_option maxHeartbeats 1000000 in
theorem rint_any (v : Int) (w : World) :
    Calls Tryd.prog 130 #[.int .i64 v] w fun e w' => e = .returned (.string (str (int8 v))) ∧ Ext w w' := by
  obtain ⟨U, hU⟩ : ∃ U, U = ((v + 9223372036854775808) % 18446744073709551616).toNat := ⟨_, rfl⟩
  have hx : bits .xor .u64 (IntKind.u64.wrap v) 9223372036854775808 = (U : Int) := by
    have h1 : IntKind.u64.wrap v = ((v % 18446744073709551616).toNat : Int) := by rw [IntKind.wrap_u64]; omega
    rw [h1, bits_xor_top _ (by omega), hU]
    omega
  have HU := Lib.hid hU
  clear hU
  go_enter Tryd.func130, Tryd.ntmps130
  go_wp2
  go_loopw [4, 5] (fun t n wr => ∃ (k : Nat), k ≤ 8 ∧ n = .int .i64 k ∧ t = .string (str (beB k U)) ∧ Ext w wr) (fun _ n _ => 8 - (intOf n).toNat)
  case atStart => exact ⟨0, by omega, rfl, rfl, Ext.refl w⟩
  case round =>
    obtain ⟨k, hk, rfl, rfl, hE⟩ := hrel
    have q1 : ¬ 9223372036854775807 < 1 + (beB k U).length := by rw [beB_length]; omega
    by_cases hlt : k < 8
    · go_wp2
      have hX0 : (0 : Int) ≤ (U : Int) / 2 ^ (8 * k) % 256 := Int.emod_nonneg _ (by decide)
      have hX1 : (U : Int) / 2 ^ (8 * k) % 256 < 256 := Int.emod_lt_of_pos _ (by decide)
      rw [run_convert_bytesIn _ 33 9 5 und_bytes und_u8 und_string (byte_in wr _ hX0 hX1)]
      simp only [Result.andThen]
      rw [Oper.upon_value]
      have hcat : Hid (str [UInt8.ofNat ((U : Int) / 2 ^ (8 * k) % 256).toNat] ++ str (beB k U) = str (beB (k + 1) U)) := by
        rw [str_app, byte_shift]
        rfl
      go_wp2
      go_roundw
      case rel => exact ⟨k + 1, by omega, by go_num, by rw [← hcat.out], hE.alloc _⟩
      case measure => simp [intOf] <;> omega
    · have hk8 : k = 8 := by omega
      go_wp2
      go_ret
      refine ⟨?_, hE⟩
      refine ret_str ?_
      unfold int8
      rw [← HU.out, hk8]

end Go.Proofs.YtcmgeccgahakbaaDoor

/- The walk over the reference 02: Num. -/
namespace Go.Proofs.YtcmgeccgahakbaaDoor
open Go Go.RowKit
attribute [local go_sem] yields yUpon

theorem nlen_of {x k : Nat} (h1 : x / 256 ^ k = 0) (h2 : k = 0 ∨ 0 < x / 256 ^ (k - 1)) : k = nlen x := by
  have hp : ∀ j : Nat, (256 : Nat) ^ j = 2 ^ (8 * j) := fun j => by rw [Nat.pow_mul]
  have hx : x < 2 ^ (8 * k) := by
    rw [← hp]
    rcases Nat.div_eq_zero_iff.1 h1 with h | h
    · exact absurd h (Nat.pos_iff_ne_zero.1 (Nat.pow_pos (by decide)))
    · exact h
  have hb := bitsOf_lt x
  unfold nlen
  by_cases h0 : x = 0
  · subst h0
    rcases h2 with rfl | h2
    · rfl
    · simp at h2
  · have hl := bitsOf_le x h0
    have a1 : bitsOf x - 1 < 8 * k := (Nat.pow_lt_pow_iff_right (by decide : 1 < 2)).1 (Nat.lt_of_le_of_lt hl hx)
    rcases h2 with rfl | h2
    · simp at hx; omega
    · have a2 : 2 ^ (8 * (k - 1)) ≤ x := by
        rw [← hp]
        rcases Nat.lt_or_ge x (256 ^ (k - 1)) with h | h
        · rw [Nat.div_eq_of_lt h] at h2; omega
        · exact h
      have a3 : 8 * (k - 1) < bitsOf x := (Nat.pow_lt_pow_iff_right (by decide : 1 < 2)).1 (Nat.lt_of_le_of_lt a2 hb)
      omega

theorem ofNat_mod (n : Nat) : UInt8.ofNat (n % 256) = UInt8.ofNat n := by
  apply UInt8.toNat_inj.1
  simp
set_option maxRecDepth 100000 in
set_option maxHeartbeats 1000000 in
theorem rnum_any (x : Nat) (hx : x < 18446744073709551616) (w : World) :
    Calls Tryd.prog 114 #[.int .u64 x] w fun e w' => e = .returned (.string (str (num x))) ∧ Ext w w' := by
  have h8 : nlen x ≤ 8 := by have := bitsOf_le64 hx; unfold nlen; omega
  go_enter Tryd.func114, Tryd.ntmps114
  go_wp2
  go_loopw [0, 3] (fun v t wr => ∃ (k V : Nat), V = x / 256 ^ k ∧ v = .int .u64 V ∧ t = .string (str (beB k x)) ∧ Hid (k = 0 ∨ 0 < x / 256 ^ (k - 1)) ∧ k ≤ 8 ∧ Ext w wr) (fun v _ _ => (intOf v).toNat)
  case atStart => exact ⟨0, x, by simp, rfl, rfl, .inl rfl, by omega, Ext.refl w⟩
  case round =>
    obtain ⟨k, V, hV, rfl, rfl, hp, hk, hE⟩ := hrel
    have HV := Lib.hid hV
    have hVx : V < 18446744073709551616 := by rw [hV]; exact Nat.lt_of_le_of_lt (Nat.div_le_self _ _) hx
    have q1 : ¬ 9223372036854775807 < 1 + (beB k x).length := by rw [beB_length]; omega
    have q2 := beB_length k x
    clear hV
    by_cases h0 : 0 < V
    · have d0 : decide ((0 : Int) < (V : Int)) = true := by simpa using h0
      have hX0 : (0 : Int) ≤ (V : Int) % 256 := by omega
      have hX1 : (V : Int) % 256 < 256 := by omega
      have hk7 : k < 8 := by
        rcases Nat.lt_or_ge k 8 with h | h
        · exact h
        · obtain rfl : k = 8 := by omega
          rw [HV.out, Nat.div_eq_of_lt hx] at h0
          omega
      have hcat : Hid (str [UInt8.ofNat ((V : Int) % 256).toNat] ++ str (beB k x) = str (beB (k + 1) x)) := by
        rw [str_app, show ((V : Int) % 256).toNat = V % 256 by omega, ofNat_mod, HV.out]
        rfl
      have hV2 : Hid (V / 256 = x / 256 ^ (k + 1)) := Lib.hid (by rw [HV.out, Nat.div_div_eq_div_mul, Nat.pow_succ])
      go_wp2
      rw [run_convert_bytesIn _ 33 9 5 und_bytes und_u8 und_string (byte_in wr _ hX0 hX1)]
      simp only [Result.andThen]
      rw [Oper.upon_value]
      go_wp2
      go_roundw
      case rel => exact ⟨k + 1, V / 256, hV2.out, by go_num, by rw [← hcat.out, show ((V : Int) % 256).toNat = V % 256 by omega], .inr (by rw [Nat.add_sub_cancel, ← HV.out]; exact h0), by omega, hE.alloc _⟩
      case measure => simp [intOf] <;> omega
    · have d0 : decide ((0 : Int) < (V : Int)) = false := by simpa using h0
      have hkn : Hid (k = nlen x) := nlen_of (by rw [← HV.out]; omega) hp.out
      have q3 : ¬ 9223372036854775807 < 1 + k := by omega
      go_wp2
      rw [run_convert_bytesIn _ 33 9 5 und_bytes und_u8 und_string (byte_in wr _ (by omega) (by omega))]
      simp only [Result.andThen]
      rw [Oper.upon_value]
      go_wp2
      go_ret
      refine ⟨ret_str ?_, hE.alloc _⟩
      rw [str_app]
      unfold num
      rw [← hkn.out]
      rfl
end Go.Proofs.YtcmgeccgahakbaaDoor
