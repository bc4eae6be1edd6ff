/- The reference of chapter 9: its reader's cell. -/
import Derived.Test.YtfagnbofnaoncaaGreatDoorP23
import Derived.Test.YtfagnbofnaoncaaGreatDoorP12
import Derived.Deep.RegionLaw
import Derived.Deep.AppendLies
import Derived.Test.YtfagnbofnaoncaaGreatDoorP7
import Derived.Test.YtfagnbofnaoncaaGreatDoorP13
import Derived.Test.YtfagnbofnaoncaaGreatDoorP22
import Derived.Test.YtfagnbofnaoncaaGreatDoorP15
import Derived.Test.YtfagnbofnaoncaaGreatDoorP8
set_option linter.unusedSimpArgs false
set_option linter.unusedVariables false
namespace Go.Proofs.YtfagnbofnaoncaaGreatDoor
open Go Go.RowKit
attribute [local go_sem] yields yUpon

section
variable {w a : World} {q : Nat} {S : ByteArray} {s s' : Nat × Int}
theorem RqAt.put (h : RqAt w q S s) (h1 : RqAt a q S s') {p : Nat} (hp : w.heap.size ≤ p) (i : Nat) (u : Value) : RqAt (a.setCell ⟨p, i, none⟩ u) q S s' :=
  ⟨h1.box.other (by have := h.lt; omega) i u, h1.le, h1.big⟩
theorem rq_done1 (h : RqAt w q S s) (hx : RqAt a q S s' ∧ Touch9 w a q) {p : Nat} (hp : w.heap.size ≤ p) (i : Nat) (u : Value) : RqAt (a.setCell ⟨p, i, none⟩ u) q S s' ∧ Touch9 w (a.setCell ⟨p, i, none⟩ u) q :=
  ⟨h.put hx.1 hp i u, hx.2.put2 hp i u⟩
theorem rq_done (h : RqAt w q S s) (hT : Touch9 w a q) (h1 : RqAt a q S s') {p : Nat} (hp : w.heap.size ≤ p) (u0 u1 u2 u3 : Value) :
    RqAt ((((a.setCell ⟨p, 0, none⟩ u0).setCell ⟨p, 1, none⟩ u1).setCell ⟨p, 2, none⟩ u2).setCell ⟨p, 3, none⟩ u3) q S s' ∧ Touch9 w ((((a.setCell ⟨p, 0, none⟩ u0).setCell ⟨p, 1, none⟩ u1).setCell ⟨p, 2, none⟩ u2).setCell ⟨p, 3, none⟩ u3) q :=
  rq_done1 h (rq_done1 h (rq_done1 h (rq_done1 h ⟨h1, hT⟩ hp 0 u0) hp 1 u1) hp 2 u2) hp 3 u3
end
theorem anyR_err {B : List UInt8} {s : Nat × Int} (h : s.2 ≠ 0) : anyR B s = (0, s) := if_neg h
theorem anyR_errV {B : List UInt8} {s : Nat × Int} (h : (anyR B s).2.2 ≠ 0) : (anyR B s).1 = 0 := by
  unfold anyR at h ⊢
  by_cases a : s.2 = 0
  · rw [if_pos a] at h ⊢
    by_cases b : (getNum B s.1).2.2 = 0
    · rw [if_pos b] at h; exact absurd rfl h
    · rw [if_neg b]
  · rw [if_neg a]
theorem numR_err {B : List UInt8} {s : Nat × Int} (h : s.2 ≠ 0) : numR B s = (0, s) := by
  unfold numR
  rw [anyR_err h]
  exact if_pos (by omega)
theorem numR_errV {B : List UInt8} {s : Nat × Int} (h : (numR B s).2.2 ≠ 0) : (numR B s).1 = 0 := by
  unfold numR at h ⊢
  by_cases a : (anyR B s).1 ≤ 1099511627776
  · rw [if_pos a] at h ⊢; exact anyR_errV h
  · rw [if_neg a]
theorem txtR_err {B : List UInt8} {s : Nat × Int} (h : s.2 ≠ 0) : txtR B s = (⟨#[]⟩, s) := by
  have e : cntR B s = (0, s) := by
    unfold cntR
    rw [anyR_err h]
    simp only
    rw [if_pos (Nat.zero_le _), if_neg h]
  unfold txtR
  rw [e]
  simp [str]
theorem cellR_zero {B : List UInt8} {s s1 : Nat × Int} (h : numR B s = (0, s1)) : cellR B s = (zeroCl, s1) := by
  unfold cellR; rw [h]; rfl
theorem cellR_end {B : List UInt8} {s : Nat × Int} {A i : Nat} (h : numR B s = (A, (i, 0))) (hA : A ≠ 0) (hi : B.length ≤ i) : cellR B s = (⟨⟨#[]⟩, false, A, 0⟩, (i, 8)) := by
  have e : truR B (i, 0) = (false, (i, 8)) := by
    unfold truR
    rw [if_pos rfl, List.getElem?_eq_none (by omega)]
  unfold cellR
  rw [h]
  simp only
  rw [if_neg hA, e]
  simp only [Bool.false_eq_true, if_false]
  rw [txtR_err (show (8 : Int) ≠ 0 by decide), numR_err (show (8 : Int) ≠ 0 by decide)]
  rfl
theorem cellR_dead {B : List UInt8} {s : Nat × Int} {A i : Nat} (h : numR B s = (A, (i, 0))) (hA : A ≠ 0) (hi : i < B.length) (hb : B[i].toNat = 1) : cellR B s = (⟨⟨#[]⟩, true, A, 0⟩, (i + 1, 0)) := by
  have e : truR B (i, 0) = (true, (i + 1, 0)) := by
    unfold truR
    rw [if_pos rfl, List.getElem?_eq_getElem hi]
    simp only [hb]
    have : B[i] = 1 := UInt8.toNat.inj (by rw [hb]; rfl)
    rw [this]
    rfl
  unfold cellR
  rw [h]
  simp only
  rw [if_neg hA, e]
  rfl
theorem cellR_live {B : List UInt8} {s s2 s3 : Nat × Int} {A i F : Nat} {X : ByteArray} (h : numR B s = (A, (i, 0))) (hA : A ≠ 0) (hi : i < B.length) (hb : B[i].toNat = 0) (hX : txtR B (i + 1, 0) = (X, s2)) (hF : numR B s2 = (F, s3)) : cellR B s = (⟨X, false, A, F⟩, s3) := by
  have e : truR B (i, 0) = (false, (i + 1, 0)) := by
    unfold truR
    rw [if_pos rfl, List.getElem?_eq_getElem hi]
    simp only [hb]
    have : B[i] = 0 := UInt8.toNat.inj (by rw [hb]; rfl)
    rw [this]
    rfl
  unfold cellR
  rw [h]
  simp only
  rw [if_neg hA, e]
  simp only [Bool.false_eq_true, if_false]
  rw [hX]
  simp only
  rw [hF]
theorem cellR_odd {B : List UInt8} {s : Nat × Int} {A i : Nat} (h : numR B s = (A, (i, 0))) (hA : A ≠ 0) (hi : i < B.length) (hb : 1 < B[i].toNat) : cellR B s = (⟨⟨#[]⟩, false, A, 0⟩, (i + 1, 6)) := by
  have e : truR B (i, 0) = (false, (i + 1, 6)) := by
    unfold truR
    rw [if_pos rfl, List.getElem?_eq_getElem hi]
    simp only [if_pos hb]
    have : (B[i] == 1) = false := by
      rw [beq_eq_false_iff_ne]
      intro e
      rw [e] at hb
      exact absurd hb (by decide)
    rw [this]
  unfold cellR
  rw [h]
  simp only
  rw [if_neg hA, e]
  simp only [Bool.false_eq_true, if_false]
  rw [txtR_err (show (6 : Int) ≠ 0 by decide), numR_err (show (6 : Int) ≠ 0 by decide)]
  rfl

set_option maxRecDepth 100000 in
set_option maxHeartbeats 8000000 in
theorem rq_cell {w : World} {q : Nat} {S : ByteArray} {s : Nat × Int} (h : RqAt w q S s) :
    Calls Tryz.prog 155 #[.pointer (some ⟨q, 0, none⟩)] w fun e w' => e = .returned (.agg (cl4 (cellR S.data.toList s).1)) ∧ RqAt w' q S (cellR S.data.toList s).2 ∧ Touch9 w w' q := by
  have hq := h.lt
  have hE0 := (Ext.refl w).alloc (.cells (cl4 zeroCl) 55)
  have b2 := BoxAt.made w (cl4 zeroCl) 55
  have h0 := h.ext hE0
  have hq2 : w.heap.size ≠ q := by omega
  obtain ⟨A, ⟨i, e⟩, hA⟩ : ∃ A s1, numR S.data.toList s = (A, s1) := ⟨_, _, rfl⟩
  have k1 := rq_num h0
  rw [hA] at k1
  simp only at k1
  have K1 := Lib.hid k1
  clear k1
  by_cases hA0 : A = 0
  · subst hA0
    have HCR := Lib.hid (cellR_zero hA)
    rw [HCR.out]
    clear hA HCR
    have K1' : Hid (Calls Tryz.prog 37 #[.pointer (some ⟨q, 0, none⟩)] (w.alloc (.cells (cl4 zeroCl) 55)) fun e' w' => e' = .returned (.int .i64 0) ∧ RqAt w' q S (i, e) ∧ Touch9 (w.alloc (.cells (cl4 zeroCl) 55)) w' q) := Lib.hid K1.out
    clear K1
    by_cases he : e = 0
    · subst he
      go_enter Tryz.func155, Tryz.ntmps155
      go_wp2_with (go_at_call 37; go_must (refine K1'.out.mono ?_); rintro e w1 ⟨rfl, h1, hT1⟩; have b21 := hT1.box b2 hq2; have c2 : ∀ o, (w1.alloc o).cell? ⟨q, 2, none⟩ = some (.int .i64 0) := fun o => h1.box.allocs o 2; have y0 : ∀ o, (w1.alloc o).cell? ⟨w.heap.size, 0, none⟩ = some (.string ⟨#[]⟩) := fun o => b21.allocs o 0; have y1 : ∀ o, (w1.alloc o).cell? ⟨w.heap.size, 1, none⟩ = some (.bool false) := fun o => b21.allocs o 1; have y2 : ∀ o, (w1.alloc o).cell? ⟨w.heap.size, 2, none⟩ = some (.int .i64 0) := fun o => b21.allocs o 2; have y3 : ∀ o, (w1.alloc o).cell? ⟨w.heap.size, 3, none⟩ = some (.int .i64 0) := fun o => b21.allocs o 3; have xf := b21.frees)
      refine bodyPost_ret (v := .agg (cl4 zeroCl)) ?_ rfl ⟨rfl, rq_done h ((Touch9.of_ext hE0 q).trans (hT1.alloc _)) (h1.ext ((Ext.refl w1).alloc _)) (Nat.le_refl _) _ _ _ _⟩
      generalize hW : World.setCell _ _ _ = w9
      have hb : BoxAt w9 w.heap.size (cl4 zeroCl) 55 := by rw [← hW]; exact (b21.ext ((Ext.refl _).alloc _)).put4 (d := zeroCl)
      obtain ⟨z0, z1, z2, z3⟩ := hb.cl
      simp [results, Tryz.results155, go_sem, z0, z1, z2, z3]
      rfl
    · have d0 : (e == 0) = false := by simpa using he
      go_enter Tryz.func155, Tryz.ntmps155
      go_wp2_with (go_at_call 37; go_must (refine K1'.out.mono ?_); rintro e' w1 ⟨rfl, h1, hT1⟩; have b21 := hT1.box b2 hq2; have c2 : ∀ o, (w1.alloc o).cell? ⟨q, 2, none⟩ = some (.int .i64 e) := fun o => h1.box.allocs o 2; have y0 : ∀ o, (w1.alloc o).cell? ⟨w.heap.size, 0, none⟩ = some (.string ⟨#[]⟩) := fun o => b21.allocs o 0; have y1 : ∀ o, (w1.alloc o).cell? ⟨w.heap.size, 1, none⟩ = some (.bool false) := fun o => b21.allocs o 1; have y2 : ∀ o, (w1.alloc o).cell? ⟨w.heap.size, 2, none⟩ = some (.int .i64 0) := fun o => b21.allocs o 2; have y3 : ∀ o, (w1.alloc o).cell? ⟨w.heap.size, 3, none⟩ = some (.int .i64 0) := fun o => b21.allocs o 3; have xf := b21.frees)
      refine bodyPost_ret (v := .agg (cl4 zeroCl)) ?_ rfl ⟨rfl, rq_done h ((Touch9.of_ext hE0 q).trans (hT1.alloc _)) (h1.ext ((Ext.refl w1).alloc _)) (Nat.le_refl _) _ _ _ _⟩
      generalize hW : World.setCell _ _ _ = w9
      have hb : BoxAt w9 w.heap.size (cl4 zeroCl) 55 := by rw [← hW]; exact (b21.ext ((Ext.refl _).alloc _)).put4 (d := zeroCl)
      obtain ⟨z0, z1, z2, z3⟩ := hb.cl
      simp [results, Tryz.results155, go_sem, z0, z1, z2, z3]
      rfl
  · obtain rfl : e = 0 := Classical.byContradiction fun he => hA0 (by have := numR_errV (B := S.data.toList) (s := s) (by rw [hA]; exact he); rw [hA] at this; exact this)
    have hAi : ¬ (A : Int) = 0 := by omega
    obtain ⟨CS, hCS⟩ : ∃ CS, CS = cellR S.data.toList s := ⟨_, rfl⟩
    rw [← hCS]
    have HCS := Lib.hid hCS
    have HNA := Lib.hid hA
    clear hCS hA
    go_enter Tryz.func155, Tryz.ntmps155
    go_upto_region 4 with (go_at_call 37; go_must (refine K1.out.mono ?_); rintro e w1 ⟨rfl, h1, hT1⟩; have b21 := hT1.box b2 hq2; have c2 : ∀ o, (w1.alloc o).cell? ⟨q, 2, none⟩ = some (.int .i64 0) := fun o => h1.box.allocs o 2)
    clear c2
    have b3 := BoxAt.made w1 #[.string ⟨#[]⟩, .bool false, .int .i64 (A : Int), .int .i64 0] 55
    have hEa := (Ext.refl w1).alloc (.cells #[.string ⟨#[]⟩, .bool false, .int .i64 (A : Int), .int .i64 0] 55)
    have h1a := h1.ext hEa
    have hT1a := (Touch9.of_ext hE0 q).trans (hT1.more hEa)
    have hle1 : w.heap.size ≤ w1.heap.size := by have := hE0.le; have := hT1.size; omega
    have hne23 : w.heap.size ≠ w1.heap.size := by have := b21.lt; omega
    have hq3 : w1.heap.size ≠ q := by have := h1.lt; omega
    have b22 := b21.ext hEa
    generalize hw2 : w1.alloc _ = w2 at b3 hEa h1a hT1a b22 ⊢
    replace b3 : BoxAt w2 w1.heap.size (cl4 ⟨⟨#[]⟩, false, (A : Int), 0⟩) 55 := b3
    have c0 := h1a.c0
    have c1 : w2.cell? ⟨q, 1, none⟩ = some (.int .i64 (i : Int)) := h1a.c1
    have hbig := h1a.big
    clear hw2
    by_cases hi : i < S.size
    · obtain ⟨x, hx⟩ : ∃ x, x = S[i].toNat := ⟨_, rfl⟩
      have hx256 : x < 256 := by rw [hx]; exact S[i].toNat_lt
      have hxd : (S.data.toList[i]'(by rw [dat_size9]; exact hi)).toNat = x := by rw [hx]; rfl
      have hil : i < S.data.toList.length := by rw [dat_size9]; exact hi
      have HXD := Lib.hid hxd
      have hxr := hx.symm
      have hii : (i : Int) < (S.size : Int) := by omega
      clear hxd hx
      go_quiet (fail)
      have h2 := h1a.ext ((Ext.refl w2).drewN nq)
      have hT2 := hT1a.drewN nq
      have b32 := b3.ext ((Ext.refl w2).drewN nq)
      have b23 := b22.ext ((Ext.refl w2).drewN nq)
      clear c0 c1
      generalize w2.drewN nq = w3 at h2 hT2 b32 b23 ⊢
      have c0 := h2.c0
      have c1 : w3.cell? ⟨q, 1, none⟩ = some (.int .i64 (i : Int)) := h2.c1
      go_wp2_with fail
      go_quiet (fail)
      have h4 := h2.ext ((Ext.refl w3).drewN nq)
      have hT4 := hT2.drewN nq
      have b34 := b32.ext ((Ext.refl w3).drewN nq)
      have b24 := b23.ext ((Ext.refl w3).drewN nq)
      clear c0 c1
      generalize w3.drewN nq = w4 at h4 hT4 b34 b24 ⊢
      have c1 : w4.cell? ⟨q, 1, none⟩ = some (.int .i64 (i : Int)) := h4.c1
      have f1 := h4.f1
      have h5 := h4.set1 (i + 1) (by omega)
      have hT5 := hT4.put 1 (.int .i64 ((i + 1 : Nat) : Int))
      have b35 := b34.other (q := q) hq3 1 (.int .i64 ((i + 1 : Nat) : Int))
      have b25 := b24.other (q := q) hq2 1 (.int .i64 ((i + 1 : Nat) : Int))
      have hcast : ((i + 1 : Nat) : Int) = (i : Int) + 1 := by omega
      rw [hcast] at h5 hT5 b35 b25
      by_cases hx0 : x = 0
      · subst hx0
        obtain ⟨X, s2, hX⟩ : ∃ X s2, txtR S.data.toList (i + 1, 0) = (X, s2) := ⟨_, _, rfl⟩
        obtain ⟨F, s3, hF⟩ : ∃ F s3, numR S.data.toList s2 = (F, s3) := ⟨_, _, rfl⟩
        have HC : Hid (CS = (⟨X, false, A, F⟩, s3)) := Lib.hid (by rw [HCS.out, cellR_live HNA.out hA0 hil HXD.out hX hF])
        have k5 := rq_text h5
        rw [hX] at k5
        simp only at k5
        have K5 := Lib.hid k5
        have HF := Lib.hid hF
        clear k5 hX hF
        go_wp2_with (first
          | (go_at_call 40; go_must (refine K5.out.mono ?_); rintro e w6 ⟨rfl, h6, hT6⟩; have b36 := hT6.box b35 hq3; have b26 := hT6.box b25 hq2; have hT6a := hT5.trans hT6; have d0 : w6.cell? ⟨w1.heap.size, 0, none⟩ = some (.string ⟨#[]⟩) := b36.cell 0; have g0 := b36.free 0; have h7 := h.put h6 hle1 0 (.string X); have hT7 := hT6a.put2 hle1 0 (.string X); have b37 := b36.set 0 (.string X); have b27 := b26.other (q := w1.heap.size) hne23 0 (.string X))
          | (go_at_call 37; go_must (refine (rq_num h7).mono ?_); rintro e w8 ⟨rfl, h8, hT8⟩; rw [HF.out] at h8; simp only at h8; rw [HF.out]; have b38 := hT8.box b37 hq3; have b28 := hT8.box b27 hq2; have hT8a := hT7.trans hT8; have d3 : w8.cell? ⟨w1.heap.size, 3, none⟩ = some (.int .i64 0) := b38.cell 3; have g3 := b38.free 3; have z0 : w8.cell? ⟨w1.heap.size, 0, none⟩ = some (.string X) := b38.cell 0; have z1 : w8.cell? ⟨w1.heap.size, 1, none⟩ = some (.bool false) := b38.cell 1; have z2 : w8.cell? ⟨w1.heap.size, 2, none⟩ = some (.int .i64 (A : Int)) := b38.cell 2; have y0 : w8.cell? ⟨w.heap.size, 0, none⟩ = some (.string ⟨#[]⟩) := b28.cell 0; have y1 : w8.cell? ⟨w.heap.size, 1, none⟩ = some (.bool false) := b28.cell 1; have y2 : w8.cell? ⟨w.heap.size, 2, none⟩ = some (.int .i64 0) := b28.cell 2; have y3 : w8.cell? ⟨w.heap.size, 3, none⟩ = some (.int .i64 0) := b28.cell 3; have xf := b28.free; have b39 := b38.set 3 (.int .i64 (F : Int)); have b29 := b28.other (q := w1.heap.size) hne23 3 (.int .i64 (F : Int)); have h9 := h.put h8 hle1 3 (.int .i64 (F : Int)); have hT9 := hT8a.put2 hle1 3 (.int .i64 (F : Int))))
        refine bodyPost_ret (v := .agg (cl4 ⟨X, false, (A : Int), (F : Int)⟩)) ?_ rfl ⟨by rw [HC.out], by rw [HC.out]; exact rq_done h hT9 h9 (Nat.le_refl _) _ _ _ _⟩
        generalize hW : World.setCell _ _ _ = w9
        have hb : BoxAt w9 w.heap.size (cl4 ⟨X, false, (A : Int), (F : Int)⟩) 55 := by rw [← hW]; exact b29.put4 (d := ⟨X, false, (A : Int), (F : Int)⟩)
        obtain ⟨z0, z1, z2, z3⟩ := hb.cl
        simp [results, Tryz.results155, go_sem, z0, z1, z2, z3]
        rfl
      · by_cases hx1 : x = 1
        · subst hx1
          have HC : Hid (CS = (⟨⟨#[]⟩, true, A, 0⟩, (i + 1, 0))) := Lib.hid (by rw [HCS.out, cellR_dead HNA.out hA0 hil HXD.out])
          have d1 : w4.cell? ⟨w1.heap.size, 1, none⟩ = some (.bool false) := b34.cell 1
          have d1' : (w4.setCell ⟨q, 1, none⟩ (.int .i64 ((i : Int) + 1))).cell? ⟨w1.heap.size, 1, none⟩ = some (.bool false) := b35.cell 1
          have g1 := b34.free 1
          have g1' := b35.free 1
          have b36 := b35.set 1 (.bool true)
          have b26 := b25.other (q := w1.heap.size) hne23 1 (.bool true)
          have h6 := h.put h5 hle1 1 (.bool true)
          have hT6 := hT5.put2 hle1 1 (.bool true)
          have hne32 : w1.heap.size ≠ w.heap.size := by omega
          have z0 : w4.cell? ⟨w1.heap.size, 0, none⟩ = some (.string ⟨#[]⟩) := b34.cell 0
          have z2 : w4.cell? ⟨w1.heap.size, 2, none⟩ = some (.int .i64 (A : Int)) := b34.cell 2
          have z3 : w4.cell? ⟨w1.heap.size, 3, none⟩ = some (.int .i64 0) := b34.cell 3
          have y0 : w4.cell? ⟨w.heap.size, 0, none⟩ = some (.string ⟨#[]⟩) := b24.cell 0
          have y1 : w4.cell? ⟨w.heap.size, 1, none⟩ = some (.bool false) := b24.cell 1
          have y2 : w4.cell? ⟨w.heap.size, 2, none⟩ = some (.int .i64 0) := b24.cell 2
          have y3 : w4.cell? ⟨w.heap.size, 3, none⟩ = some (.int .i64 0) := b24.cell 3
          have xf := b24.free
          go_wp2_with fail
          refine bodyPost_ret (v := .agg (cl4 ⟨⟨#[]⟩, true, (A : Int), 0⟩)) ?_ rfl ⟨by rw [HC.out], by rw [HC.out]; exact rq_done h hT6 h6 (Nat.le_refl _) _ _ _ _⟩
          generalize hW : World.setCell _ _ _ = w9
          have hb : BoxAt w9 w.heap.size (cl4 ⟨⟨#[]⟩, true, (A : Int), 0⟩) 55 := by rw [← hW]; exact b26.put4 (d := ⟨⟨#[]⟩, true, (A : Int), 0⟩)
          obtain ⟨z0, z1, z2, z3⟩ := hb.cl
          simp [results, Tryz.results155, go_sem, z0, z1, z2, z3]
          rfl
        · have hxg : 1 < x := by omega
          have HC : Hid (CS = (⟨⟨#[]⟩, false, A, 0⟩, (i + 1, 6))) := Lib.hid (by rw [HCS.out, cellR_odd HNA.out hA0 hil (by rw [HXD.out]; exact hxg)])
          have e0 : ((x : Int) == 0) = false := by simp; omega
          have e1 : ((x : Int) == 1) = false := by simp; omega
          go_wp2_with (go_at_call 42; go_must (refine (rq_wrong 6 h5).mono ?_); rintro e w6 ⟨rfl, h6, hT6⟩; have h6' : RqAt w6 q S (i + 1, 6) := h6; have b36 := hT6.box b35 hq3; have b26 := hT6.box b25 hq2; have z0 : w6.cell? ⟨w1.heap.size, 0, none⟩ = some (.string ⟨#[]⟩) := b36.cell 0; have z1 : w6.cell? ⟨w1.heap.size, 1, none⟩ = some (.bool false) := b36.cell 1; have z2 : w6.cell? ⟨w1.heap.size, 2, none⟩ = some (.int .i64 (A : Int)) := b36.cell 2; have z3 : w6.cell? ⟨w1.heap.size, 3, none⟩ = some (.int .i64 0) := b36.cell 3; have y0 : w6.cell? ⟨w.heap.size, 0, none⟩ = some (.string ⟨#[]⟩) := b26.cell 0; have y1 : w6.cell? ⟨w.heap.size, 1, none⟩ = some (.bool false) := b26.cell 1; have y2 : w6.cell? ⟨w.heap.size, 2, none⟩ = some (.int .i64 0) := b26.cell 2; have y3 : w6.cell? ⟨w.heap.size, 3, none⟩ = some (.int .i64 0) := b26.cell 3; have xf := b26.free)
          refine bodyPost_ret (v := .agg (cl4 ⟨⟨#[]⟩, false, (A : Int), 0⟩)) ?_ rfl ⟨by rw [HC.out], by rw [HC.out]; exact rq_done h (hT5.trans hT6) h6' (Nat.le_refl _) _ _ _ _⟩
          generalize hW : World.setCell _ _ _ = w9
          have hb : BoxAt w9 w.heap.size (cl4 ⟨⟨#[]⟩, false, (A : Int), 0⟩) 55 := by rw [← hW]; exact b26.put4 (d := ⟨⟨#[]⟩, false, (A : Int), 0⟩)
          obtain ⟨z0, z1, z2, z3⟩ := hb.cl
          simp [results, Tryz.results155, go_sem, z0, z1, z2, z3]
          rfl
    · have hle : decide ((S.size : Int) ≤ (i : Int)) = true := by simp; omega
      have HC : Hid (CS = (⟨⟨#[]⟩, false, A, 0⟩, (i, 8))) := Lib.hid (by rw [HCS.out, cellR_end HNA.out hA0 (by rw [dat_size9]; omega)])
      go_quiet (fail)
      go_wp2_with (go_at_call 42; go_must (refine (rq_wrong 8 (h1a.ext ((Ext.refl w2).drewN nq))).mono ?_); rintro e w3 ⟨rfl, h3, hT3⟩; have h3' : RqAt w3 q S (i, 8) := h3; have b23 := hT3.box (b22.ext ((Ext.refl w2).drewN nq)) hq2; have b33 := hT3.box (b3.ext ((Ext.refl w2).drewN nq)) hq3; have y0 : w3.cell? ⟨w.heap.size, 0, none⟩ = some (.string ⟨#[]⟩) := b23.cell 0; have y1 : w3.cell? ⟨w.heap.size, 1, none⟩ = some (.bool false) := b23.cell 1; have y2 : w3.cell? ⟨w.heap.size, 2, none⟩ = some (.int .i64 0) := b23.cell 2; have y3 : w3.cell? ⟨w.heap.size, 3, none⟩ = some (.int .i64 0) := b23.cell 3; have z0 : w3.cell? ⟨w1.heap.size, 0, none⟩ = some (.string ⟨#[]⟩) := b33.cell 0; have z1 : w3.cell? ⟨w1.heap.size, 1, none⟩ = some (.bool false) := b33.cell 1; have z2 : w3.cell? ⟨w1.heap.size, 2, none⟩ = some (.int .i64 (A : Int)) := b33.cell 2; have z3 : w3.cell? ⟨w1.heap.size, 3, none⟩ = some (.int .i64 0) := b33.cell 3; have xf := b23.free)
      refine bodyPost_ret (v := .agg (cl4 ⟨⟨#[]⟩, false, (A : Int), 0⟩)) ?_ rfl ⟨by rw [HC.out], by rw [HC.out]; exact rq_done h ((hT1a.drewN nq).trans hT3) h3' (Nat.le_refl _) _ _ _ _⟩
      generalize hW : World.setCell _ _ _ = w9
      have hb : BoxAt w9 w.heap.size (cl4 ⟨⟨#[]⟩, false, (A : Int), 0⟩) 55 := by rw [← hW]; exact b23.put4 (d := ⟨⟨#[]⟩, false, (A : Int), 0⟩)
      obtain ⟨z0, z1, z2, z3⟩ := hb.cl
      simp [results, Tryz.results155, go_sem, z0, z1, z2, z3]
      rfl
end Go.Proofs.YtfagnbofnaoncaaGreatDoor

/- The reference of chapter 9: its reader's row. -/
namespace Go.Proofs.YtfagnbofnaoncaaGreatDoor
open Go Go.RowKit
attribute [local go_sem] yields yUpon

set_option maxRecDepth 100000 in
set_option maxHeartbeats 16000000 in
theorem rq_row {w : World} {q : Nat} {S : ByteArray} {s : Nat × Int} (h : RqAt w q S s) :
    Calls Tryz.prog 136 #[.pointer (some ⟨q, 0, none⟩)] w fun e w' => ∃ u, e = .returned (.agg (ro8 (rowR S.data.toList s).1 u)) ∧ ColsT w' u (rowR S.data.toList s).1.cols ∧ RqAt w' q S (rowR S.data.toList s).2 ∧ Touch9 w w' q := by
  have hq := h.lt
  have hE0 := (Ext.refl w).alloc (.cells (ro8 zeroRo (.slice none 0 0)) 58)
  have b2 := BoxAt.made w (ro8 zeroRo (.slice none 0 0)) 58
  have h0 := h.ext hE0
  have hq2 : w.heap.size ≠ q := by omega
  unfold rowR
  obtain ⟨X, s1, hX⟩ : ∃ X s1, txtR S.data.toList s = (X, s1) := ⟨_, _, rfl⟩
  obtain ⟨C, s2, hC⟩ : ∃ C s2, cellR S.data.toList s1 = (C, s2) := ⟨_, _, rfl⟩
  obtain ⟨G, s3, hG⟩ : ∃ G s3, numR S.data.toList s2 = (G, s3) := ⟨_, _, rfl⟩
  obtain ⟨H, s4, hH⟩ : ∃ H s4, numR S.data.toList s3 = (H, s4) := ⟨_, _, rfl⟩
  obtain ⟨N, s5, hN⟩ : ∃ N s5, cntR S.data.toList s4 = (N, s5) := ⟨_, _, rfl⟩
  have hL : listR S.data.toList (colR S.data.toList) s4 = manyR (colR S.data.toList) N s5 := by unfold listR; rw [hN]
  obtain ⟨R, hR⟩ : ∃ R, R = manyR (colR S.data.toList) N s5 := ⟨_, rfl⟩
  rw [← hR] at hL
  rw [hX]
  simp only
  rw [hC]
  simp only
  rw [hG]
  simp only
  rw [hH]
  simp only
  rw [hL]
  have k1 := rq_text h0
  rw [hX] at k1
  simp only at k1 ⊢
  have K1 := Lib.hid k1
  have HC := Lib.hid hC
  have HG := Lib.hid hG
  have HH := Lib.hid hH
  have HN := Lib.hid hN
  have HR := Lib.hid hR
  clear k1 hX hC hG hH hL hN hR
  obtain ⟨val, dead, at_, fin⟩ := C
  go_enter Tryz.func136, Tryz.ntmps136
  go_wp2_with (go_at_call 40; go_must (refine K1.out.mono ?_); rintro e w1 ⟨rfl, h1, hT1⟩; have b21 := hT1.box b2 hq2; have hq3 : w1.heap.size ≠ q := (by have := h1.lt; omega))
  have b3 := BoxAt.made w1 (ro8 ⟨X, zeroCl, 0, 0, []⟩ (.slice none 0 0)) 58
  have hEa := (Ext.refl w1).alloc (.cells (ro8 ⟨X, zeroCl, 0, 0, []⟩ (.slice none 0 0)) 58)
  have h1a := h1.ext hEa
  have hT1a := (Touch9.of_ext hE0 q).trans (hT1.more hEa)
  have hle1 : w.heap.size ≤ w1.heap.size := by have := hE0.le; have := hT1.size; omega
  have hne23 : w.heap.size ≠ w1.heap.size := by have := b21.lt; omega
  have hsz3 : w1.heap.size + 1 ≤ (w1.alloc (.cells (ro8 ⟨X, zeroCl, 0, 0, []⟩ (.slice none 0 0)) 58)).heap.size := by simp
  refine (rq_cell h1a).mono ?_
  rintro e w2 ⟨rfl, h2, hT2⟩
  rw [HC.out] at h2
  simp only at h2
  rw [HC.out]
  unfold cl4
  have b22 := hT2.box (b21.ext hEa) hq2
  have b32 := hT2.box b3 hq3
  have hsz2 : w1.heap.size + 1 ≤ w2.heap.size := Nat.le_trans hsz3 hT2.size
  have y1 : w2.cell? ⟨w1.heap.size, 1, none⟩ = some (.string ⟨#[]⟩) := b32.cell 1
  have y2 : w2.cell? ⟨w1.heap.size, 2, none⟩ = some (.bool false) := b32.cell 2
  have y3 : w2.cell? ⟨w1.heap.size, 3, none⟩ = some (.int .i64 0) := b32.cell 3
  have y4 : w2.cell? ⟨w1.heap.size, 4, none⟩ = some (.int .i64 0) := b32.cell 4
  have yf := b32.free
  have P2 := rq_done1 h (rq_done1 h (rq_done1 h (rq_done1 h ⟨h2, hT1a.trans hT2⟩ hle1 1 (.string val)) hle1 2 (.bool dead)) hle1 3 (.int .i64 at_)) hle1 4 (.int .i64 fin)
  have b33 : BoxAt ((((w2.setCell ⟨w1.heap.size, 1, none⟩ (.string val)).setCell ⟨w1.heap.size, 2, none⟩ (.bool dead)).setCell ⟨w1.heap.size, 3, none⟩ (.int .i64 at_)).setCell ⟨w1.heap.size, 4, none⟩ (.int .i64 fin)) w1.heap.size #[.string X, .string val, .bool dead, .int .i64 at_, .int .i64 fin, .int .i64 0, .int .i64 0, .slice none 0 0] 58 := (((b32.set 1 (.string val)).set 2 (.bool dead)).set 3 (.int .i64 at_)).set 4 (.int .i64 fin)
  have b23 := (((b22.other hne23 1 (.string val)).other hne23 2 (.bool dead)).other hne23 3 (.int .i64 at_)).other hne23 4 (.int .i64 fin)
  have hsz4 : w1.heap.size + 1 ≤ ((((w2.setCell ⟨w1.heap.size, 1, none⟩ (.string val)).setCell ⟨w1.heap.size, 2, none⟩ (.bool dead)).setCell ⟨w1.heap.size, 3, none⟩ (.int .i64 at_)).setCell ⟨w1.heap.size, 4, none⟩ (.int .i64 fin)).heap.size := by simpa [Deep.nblk_setCell] using hsz2
  go_wp2_with fail
  generalize hw3 : World.setCell (World.setCell (World.setCell (World.setCell w2 _ _) _ _) _ _) _ _ = w3 at P2 b33 b23 hsz4 ⊢
  clear hw3 y1 y2 y3 y4 yf
  refine (rq_num P2.1).mono ?_
  rintro e w4 ⟨rfl, h4, hT4⟩
  rw [HG.out] at h4
  simp only at h4
  rw [HG.out]
  have b24 := hT4.box b23 hq2
  have b34 := hT4.box b33 hq3
  have hT4a := P2.2.trans hT4
  have hsz5 : w1.heap.size + 1 ≤ w4.heap.size := Nat.le_trans hsz4 hT4.size
  go_wp2_with fail
  refine (rq_num h4).mono ?_
  rintro e w6 ⟨rfl, h6, hT6⟩
  rw [HH.out] at h6
  simp only at h6
  rw [HH.out]
  have b26 := hT6.box b24 hq2
  have b36 := hT6.box b34 hq3
  have hsz6 : w1.heap.size + 1 ≤ w6.heap.size := Nat.le_trans hsz5 hT6.size
  have y5 : w6.cell? ⟨w1.heap.size, 5, none⟩ = some (.int .i64 0) := b36.cell 5
  have y6 : w6.cell? ⟨w1.heap.size, 6, none⟩ = some (.int .i64 0) := b36.cell 6
  have yf := b36.free
  have P6 := rq_done1 h (rq_done1 h ⟨h6, hT4a.trans hT6⟩ hle1 5 (.int .i64 (G : Int))) hle1 6 (.int .i64 (H : Int))
  have b37 : BoxAt ((w6.setCell ⟨w1.heap.size, 5, none⟩ (.int .i64 (G : Int))).setCell ⟨w1.heap.size, 6, none⟩ (.int .i64 (H : Int))) w1.heap.size #[.string X, .string val, .bool dead, .int .i64 at_, .int .i64 fin, .int .i64 (G : Int), .int .i64 (H : Int), .slice none 0 0] 58 := (b36.set 5 _).set 6 _
  have b27 := (b26.other hne23 5 (.int .i64 (G : Int))).other hne23 6 (.int .i64 (H : Int))
  have hsz7 : w1.heap.size + 1 ≤ ((w6.setCell ⟨w1.heap.size, 5, none⟩ (.int .i64 (G : Int))).setCell ⟨w1.heap.size, 6, none⟩ (.int .i64 (H : Int))).heap.size := by simpa [Deep.nblk_setCell] using hsz6
  go_wp2_with fail
  generalize hw7 : World.setCell (World.setCell w6 _ _) _ _ = w7 at P6 b37 b27 hsz7 ⊢
  clear hw7 y5 y6 yf
  refine (rq_count P6.1).mono ?_
  rintro e w8 ⟨rfl, h8, hT8⟩
  rw [HN.out] at h8
  simp only at h8
  rw [HN.out]
  have b28 := hT8.box b27 hq2
  have b38 := hT8.box b37 hq3
  have hT8a := P6.2.trans hT8
  have hsz8 : w1.heap.size + 1 ≤ w8.heap.size := Nat.le_trans hsz7 hT8.size
  have hbn : N ≤ 900000 := by
    have h9 := cntR_big (B := S.data.toList) (s := s4) P6.1.len (by rw [dat_size9]; exact h.big)
    rw [HN.out] at h9
    exact h9
  obtain ⟨p, hp⟩ : ∃ p, p = w1.heap.size := ⟨_, rfl⟩
  rw [← hp] at hq3 hle1 hne23 b38 hsz8
  simp only
  rw [← hp]
  clear b2 hE0 h0 b21 b3 hEa h1a hT1a hsz3 h2 hT2 b22 b32 hsz2 P2 b33 b23 hsz4 h4 hT4 b24 b34 hT4a hsz5 h6 hT6 b26 b36 hsz6 P6 b37 b27 hsz7 hT8 HC HG HH HN h1 hT1 hp K1
  go_wp2_with fail
  go_loopw [5] (fun i wr => ∃ (k kk : Nat) (D : List Co) (vo : Value) (t : Nat × Int), k + kk = N ∧ D.length ≤ k ∧ i = .int .i64 (k : Int) ∧ RqAt wr q S t ∧ Touch9 w wr q ∧ BoxAt wr w.heap.size (ro8 zeroRo (.slice none 0 0)) 58 ∧ BoxAt wr p (ro8 ⟨X, ⟨val, dead, at_, fin⟩, (G : Int), (H : Int), []⟩ vo) 58 ∧ wr.ownsRow (p + 1) 111 5 vo D.length (coCells D) ∧ p + 1 ≤ wr.heap.size ∧ Hid (R = (D ++ (manyR (colR S.data.toList) kk t).1, (manyR (colR S.data.toList) kk t).2))) (fun i _ => N - (intOf i).toNat)
  case atStart => exact ⟨0, N, [], _, s5, Nat.zero_add _, Nat.le_refl _, rfl, h8, hT8a, b28, b38, World.ownsRow_nil _ _ _ _, hsz8, HR⟩
  case round =>
    clear h8 hT8a b28 b38 hsz8
    obtain ⟨k, kk, D, vo, ⟨i, e⟩, hkk, hDk, rfl, ht, hTr, bz, bp, hown, hsz, HX⟩ := hrel
    obtain ⟨ua, uc, rfl⟩ := own_shape hown
    have c2 : wr.cell? ⟨q, 2, none⟩ = some (.int .i64 e) := ht.c2
    by_cases hgo : k < N ∧ e = 0
    · obtain ⟨hkN, rfl⟩ := hgo
      obtain ⟨kk, rfl⟩ : ∃ k', kk = k' + 1 := ⟨kk - 1, by omega⟩
      obtain ⟨Y, t1, hY⟩ : ∃ Y t1, txtR S.data.toList (i, 0) = (Y, t1) := ⟨_, _, rfl⟩
      obtain ⟨Z, t2, hZ⟩ : ∃ Z t2, cellR S.data.toList t1 = (Z, t2) := ⟨_, _, rfl⟩
      have HCO : Hid (colR S.data.toList (i, 0) = (⟨Y, Z⟩, t2)) := Lib.hid (by unfold colR; rw [hY]; simp only; rw [hZ])
      have k2 := rq_text ht
      rw [hY] at k2
      simp only at k2
      have K2 := Lib.hid k2
      have HZ := Lib.hid hZ
      clear k2 hY hZ
      obtain ⟨zv, zd, za, zf⟩ := Z
      go_wp2_with (go_at_call 40; go_must (refine K2.out.mono ?_); rintro e' w2 ⟨rfl, h2, hT2⟩)
      have bz2 := (hT2.box bz hq2).ext (Ext.refl w2).drew
      have bp2 := (hT2.box bp hq3).ext (Ext.refl w2).drew
      have hown2 := ownsRow_ext (hT2.owns hown (by omega)) (Ext.refl w2).drew
      have h2d := h2.ext (Ext.refl w2).drew
      have hT2d : Touch9 w w2.drew q := (hTr.trans hT2).more (Ext.refl w2).drew
      have hszd : p + 1 ≤ w2.drew.heap.size := Nat.le_trans hsz (Nat.le_trans hT2.size (Ext.refl w2).drew.le)
      have y7 : w2.drew.cell? ⟨p, 7, none⟩ = some (.slice ua D.length uc) := bp2.cell 7
      clear bz bp hown c2
      obtain ⟨i0, hi, hz0, hz1, hz2⟩ := info_parts info_Col
      go_region_law (first
        | (go_simp; go_at_call 155; go_must (refine (rq_cell h2d).mono ?_); rintro e' w4 ⟨rfl, h4, hT4⟩; rw [HZ.out] at h4; simp only at h4; rw [HZ.out]; unfold cl4; have bz4 := hT4.box bz2 hq2; have bp4 := hT4.box bp2 hq3; have hown4 := hT4.owns hown2 (by omega); have hsz4 := Nat.le_trans hszd hT4.size; have y7 : w4.cell? ⟨p, 7, none⟩ = some (.slice ua D.length uc) := bp4.cell 7; have y7a : ∀ o, (w4.alloc o).cell? ⟨p, 7, none⟩ = some (.slice ua D.length uc) := fun o => bp4.allocs o 7)
        | (refine step_append_lies (w4.alloc (.cells (co5 ⟨Y, zv, zd, za, zf⟩) 111)) rfl (.tmp 36) (.tmp 41) 56 rfl (p + 1) 111 i0 _ 5 56 und_Cols hi hz0 hz1 hz2 rfl (by decide) (.slice ua D.length uc) D.length (coCells D) (by simp [Act.eval, Act.put]) (hown4.alloc _) ⟨w4.heap.size, 0, none⟩ 1 1 (co5 ⟨Y, zv, zd, za, zf⟩).toList (by simp [Act.eval, Act.put]) rfl (fun j u hj => by rw [Addr.add_lit, Nat.zero_add, (BoxAt.made w4 (co5 ⟨Y, zv, zd, za, zf⟩) 111).cell j]; simpa using hj) (by simp [co5, Value.oneCell']) (by omega) (by unfold maxLen; omega) (by omega) (by simp; omega) _ rfl ?_; intro g5 n5 w5 hown5 hg5 _ _; have bp5 := (bp4.ext ((Ext.refl w4).alloc _)).grown hg5 (fun e => by have := (hown4.lt _ e.symm).1; omega); have bz5 := (bz4.ext ((Ext.refl w4).alloc _)).grown hg5 (fun e => by have := (hown4.lt _ e.symm).1; omega); have y7 : w5.cell? ⟨p, 7, none⟩ = some (.slice ua D.length uc) := bp5.cell 7; have f7 := bp5.free 7))
      all_goals
        have hE4 := (Ext.refl w4).alloc (.cells (co5 ⟨Y, zv, zd, za, zf⟩) 111)
        have hsz5 : p + 1 ≤ w5.heap.size := Nat.le_trans hsz4 (Nat.le_trans hE4.le hg5.size)
        have hq5 : RqAt w5 q S t2 := ⟨(h4.box.ext hE4).grown hg5 (fun e => by have := (hown4.lt _ e.symm).1; omega), h4.le, h4.big⟩
        have hT5 : Touch9 w w5 q := ((hT2d.trans hT4).more hE4).grown hg5 (fun b hb => by have := (hown4.lt b hb).1; omega)
        have HX2 : Hid (R = ((D ++ [⟨Y, zv, zd, za, zf⟩]) ++ (manyR (colR S.data.toList) kk t2).1, (manyR (colR S.data.toList) kk t2).2)) := Lib.hid (by
          rw [HX.out, manyR_step _ _ _ rfl, HCO.out]
          simp only [List.append_assoc, List.singleton_append])
        go_wp2_with fail
        go_roundw
        case rel =>
          refine ⟨k + 1, kk, D ++ [⟨Y, zv, zd, za, zf⟩], _, t2, by omega, by simp; omega, by go_num, ⟨hq5.box.other hq3.symm 7 _, hq5.le, hq5.big⟩, hT5.put2 hle1 7 _, bz5.other hne23 7 _, bp5.set 7 _, ?_, by simpa [Deep.nblk_setCell] using hsz5, HX2⟩
          rw [coCells_append, List.length_append]
          exact ownsRow_setCell_below hown5 (a := ⟨p, 7, none⟩) (by show p < p + 1; omega) _
        case measure => simp [intOf] <;> omega
    · have e0 : Hid (R = (D, (i, e))) := Lib.hid (by
        rw [HX.out, manyR_stop _ _ _ (by
          rcases Nat.lt_or_ge k N with h1 | h1
          · exact .inr (fun he => hgo ⟨h1, he⟩)
          · exact .inl (by omega))]
        simp only [List.append_nil])
      have hct : ColsT wr (.slice ua D.length uc) D := TIn.own hown
      have z0 : wr.cell? ⟨p, 0, none⟩ = some (.string X) := bp.cell 0
      have z1 : wr.cell? ⟨p, 1, none⟩ = some (.string val) := bp.cell 1
      have z2 : wr.cell? ⟨p, 2, none⟩ = some (.bool dead) := bp.cell 2
      have z3 : wr.cell? ⟨p, 3, none⟩ = some (.int .i64 at_) := bp.cell 3
      have z4 : wr.cell? ⟨p, 4, none⟩ = some (.int .i64 fin) := bp.cell 4
      have z5 : wr.cell? ⟨p, 5, none⟩ = some (.int .i64 (G : Int)) := bp.cell 5
      have z6 : wr.cell? ⟨p, 6, none⟩ = some (.int .i64 (H : Int)) := bp.cell 6
      have z7 : wr.cell? ⟨p, 7, none⟩ = some (.slice ua D.length uc) := bp.cell 7
      have x0 : wr.cell? ⟨w.heap.size, 0, none⟩ = some (.string ⟨#[]⟩) := bz.cell 0
      have x1 : wr.cell? ⟨w.heap.size, 1, none⟩ = some (.string ⟨#[]⟩) := bz.cell 1
      have x2 : wr.cell? ⟨w.heap.size, 2, none⟩ = some (.bool false) := bz.cell 2
      have x3 : wr.cell? ⟨w.heap.size, 3, none⟩ = some (.int .i64 0) := bz.cell 3
      have x4 : wr.cell? ⟨w.heap.size, 4, none⟩ = some (.int .i64 0) := bz.cell 4
      have x5 : wr.cell? ⟨w.heap.size, 5, none⟩ = some (.int .i64 0) := bz.cell 5
      have x6 : wr.cell? ⟨w.heap.size, 6, none⟩ = some (.int .i64 0) := bz.cell 6
      have x7 : wr.cell? ⟨w.heap.size, 7, none⟩ = some (.slice none 0 0) := bz.cell 7
      have xf := bz.free
      have DONE := rq_done1 h (rq_done1 h (rq_done1 h (rq_done1 h (rq_done1 h (rq_done1 h (rq_done1 h (rq_done1 h ⟨ht, hTr⟩ (Nat.le_refl _) 0 (.string X)) (Nat.le_refl _) 1 (.string val)) (Nat.le_refl _) 2 (.bool dead)) (Nat.le_refl _) 3 (.int .i64 at_)) (Nat.le_refl _) 4 (.int .i64 fin)) (Nat.le_refl _) 5 (.int .i64 (G : Int))) (Nat.le_refl _) 6 (.int .i64 (H : Int))) (Nat.le_refl _) 7 (.slice ua D.length uc)
      have hct9 : ColsT ((((((((wr.setCell ⟨w.heap.size, 0, none⟩ (.string X)).setCell ⟨w.heap.size, 1, none⟩ (.string val)).setCell ⟨w.heap.size, 2, none⟩ (.bool dead)).setCell ⟨w.heap.size, 3, none⟩ (.int .i64 at_)).setCell ⟨w.heap.size, 4, none⟩ (.int .i64 fin)).setCell ⟨w.heap.size, 5, none⟩ (.int .i64 (G : Int))).setCell ⟨w.heap.size, 6, none⟩ (.int .i64 (H : Int))).setCell ⟨w.heap.size, 7, none⟩ (.slice ua D.length uc)) (.slice ua D.length uc) D := (TIn.set 7 (.slice ua D.length uc) (((((((bz.set 0 (.string X)).set 1 (.string val)).set 2 (.bool dead)).set 3 (.int .i64 at_)).set 4 (.int .i64 fin)).set 5 (.int .i64 (G : Int))).set 6 (.int .i64 (H : Int))) (by decide) (TIn.set 6 (.int .i64 (H : Int)) ((((((bz.set 0 (.string X)).set 1 (.string val)).set 2 (.bool dead)).set 3 (.int .i64 at_)).set 4 (.int .i64 fin)).set 5 (.int .i64 (G : Int))) (by decide) (TIn.set 5 (.int .i64 (G : Int)) (((((bz.set 0 (.string X)).set 1 (.string val)).set 2 (.bool dead)).set 3 (.int .i64 at_)).set 4 (.int .i64 fin)) (by decide) (TIn.set 4 (.int .i64 fin) ((((bz.set 0 (.string X)).set 1 (.string val)).set 2 (.bool dead)).set 3 (.int .i64 at_)) (by decide) (TIn.set 3 (.int .i64 at_) (((bz.set 0 (.string X)).set 1 (.string val)).set 2 (.bool dead)) (by decide) (TIn.set 2 (.bool dead) ((bz.set 0 (.string X)).set 1 (.string val)) (by decide) (TIn.set 1 (.string val) (bz.set 0 (.string X)) (by decide) (TIn.set 0 (.string X) bz (by decide) hct))))))))
      have bb := ((((((((bz.set 0 (.string X)).set 1 (.string val)).set 2 (.bool dead)).set 3 (.int .i64 at_)).set 4 (.int .i64 fin)).set 5 (.int .i64 (G : Int))).set 6 (.int .i64 (H : Int))).set 7 (.slice ua D.length uc))
      have bb' : BoxAt ((((((((wr.setCell ⟨w.heap.size, 0, none⟩ (.string X)).setCell ⟨w.heap.size, 1, none⟩ (.string val)).setCell ⟨w.heap.size, 2, none⟩ (.bool dead)).setCell ⟨w.heap.size, 3, none⟩ (.int .i64 at_)).setCell ⟨w.heap.size, 4, none⟩ (.int .i64 fin)).setCell ⟨w.heap.size, 5, none⟩ (.int .i64 (G : Int))).setCell ⟨w.heap.size, 6, none⟩ (.int .i64 (H : Int))).setCell ⟨w.heap.size, 7, none⟩ (.slice ua D.length uc)) w.heap.size (ro8 ⟨X, ⟨val, dead, at_, fin⟩, (G : Int), (H : Int), D⟩ (.slice ua D.length uc)) 58 := bb
      clear bb
      have FIN : Hid (∀ w9 : World, w9 = ((((((((wr.setCell ⟨w.heap.size, 0, none⟩ (.string X)).setCell ⟨w.heap.size, 1, none⟩ (.string val)).setCell ⟨w.heap.size, 2, none⟩ (.bool dead)).setCell ⟨w.heap.size, 3, none⟩ (.int .i64 at_)).setCell ⟨w.heap.size, 4, none⟩ (.int .i64 fin)).setCell ⟨w.heap.size, 5, none⟩ (.int .i64 (G : Int))).setCell ⟨w.heap.size, 6, none⟩ (.int .i64 (H : Int))).setCell ⟨w.heap.size, 7, none⟩ (.slice ua D.length uc)) → BoxAt w9 w.heap.size (ro8 ⟨X, ⟨val, dead, at_, fin⟩, (G : Int), (H : Int), D⟩ (.slice ua D.length uc)) 58 ∧ ColsT w9 (.slice ua D.length uc) D ∧ RqAt w9 q S (i, e) ∧ Touch9 w w9 q) := Lib.hid (fun w9 h9 => by rw [h9]; exact ⟨bb', hct9, DONE⟩)
      clear bb' hct9 DONE hct
      have hLAST : Hid (∀ w9 : World, (BoxAt w9 w.heap.size (ro8 ⟨X, ⟨val, dead, at_, fin⟩, (G : Int), (H : Int), D⟩ (.slice ua D.length uc)) 58 ∧ ColsT w9 (.slice ua D.length uc) D ∧ RqAt w9 q S (i, e) ∧ Touch9 w w9 q) → ∃ u, Ending.returned (Value.agg (ro8 ⟨X, ⟨val, dead, at_, fin⟩, (G : Int), (H : Int), D⟩ (.slice ua D.length uc))) = .returned (.agg (ro8 ⟨X, ⟨val, dead, at_, fin⟩, (G : Int), (H : Int), R.1⟩ u)) ∧ ColsT w9 u R.1 ∧ RqAt w9 q S R.2 ∧ Touch9 w w9 q) := Lib.hid (fun w9 h9 => ⟨_, by rw [e0.out], by rw [e0.out]; exact h9.2.1, by rw [e0.out]; exact h9.2.2.1, h9.2.2.2⟩)
      have hkk2 : (k < N ∧ ¬ e = 0) ∨ k = N := by
        rcases Nat.lt_or_ge k N with h1 | h1
        · exact .inl ⟨h1, fun he => hgo ⟨h1, he⟩⟩
        · exact .inr (by omega)
      rcases hkk2 with ⟨h1, h2⟩ | h1
      · have d0 : (e == 0) = false := by simpa using h2
        go_wp2_with fail
        generalize hW : World.setCell _ _ _ = w9
        have F9 := FIN.out w9 hW.symm
        obtain ⟨z0, z1, z2, z3, z4, z5, z6, z7⟩ := F9.1.ro
        refine bodyPost_ret (v := .agg (ro8 ⟨X, ⟨val, dead, at_, fin⟩, (G : Int), (H : Int), D⟩ (.slice ua D.length uc))) ?_ rfl (hLAST.out w9 F9)
        simp [results, Tryz.results136, go_sem, z0, z1, z2, z3, z4, z5, z6, z7]
        rfl
      · subst h1
        go_wp2_with fail
        generalize hW : World.setCell _ _ _ = w9
        have F9 := FIN.out w9 hW.symm
        obtain ⟨z0, z1, z2, z3, z4, z5, z6, z7⟩ := F9.1.ro
        refine bodyPost_ret (v := .agg (ro8 ⟨X, ⟨val, dead, at_, fin⟩, (G : Int), (H : Int), D⟩ (.slice ua D.length uc))) ?_ rfl (hLAST.out w9 F9)
        simp [results, Tryz.results136, go_sem, z0, z1, z2, z3, z4, z5, z6, z7]
        rfl
end Go.Proofs.YtfagnbofnaoncaaGreatDoor

/- The reference of chapter 9: its reader's part, End. -/
namespace Go.Proofs.YtfagnbofnaoncaaGreatDoor
open Go Go.RowKit
attribute [local go_sem] yields yUpon

/-- A partition, without the end. -/
def prt0 (B : List UInt8) (s : Nat × Int) : Pt × (Nat × Int) :=
  (⟨(txtR B s).1, ((numR B (txtR B s).2).1 : Int), (listR B (rowR B) (numR B (txtR B s).2).2).1⟩, (listR B (rowR B) (numR B (txtR B s).2).2).2)
theorem prtR_0 (B : List UInt8) (s : Nat × Int) : prtR B s = ((prt0 B s).1, endR B (prt0 B s).2) := rfl

set_option maxRecDepth 100000 in
set_option maxHeartbeats 4000000 in
theorem rq_end {w : World} {q : Nat} {S : ByteArray} {s : Nat × Int} (h : RqAt w q S s) :
    Calls Tryz.prog 41 #[.pointer (some ⟨q, 0, none⟩)] w fun e w' => e = .returned (.tuple #[]) ∧ RqAt w' q S (endR S.data.toList s) ∧ Touch9 w w' q := by
  have c0 := h.c0
  have c1 := h.c1
  have c2 := h.c2
  have hle := h.le
  obtain ⟨i, e⟩ := s
  simp only at c1 c2 hle
  by_cases he : e = 0
  · subst he
    by_cases hi : i < S.size
    · have e1 : Hid (endR S.data.toList (i, 0) = (i, 6)) := Lib.hid (by unfold endR failR; rw [dat_size9, if_pos (by simp only; omega), if_pos rfl])
      have t1 : decide ((i : Int) < (S.size : Int)) = true := by simp; omega
      have hf : Hid (failR 6 (i, 0) = (i, 6)) := Lib.hid (if_pos rfl)
      rw [e1.out]
      go_enter Tryz.func41, Tryz.ntmps41
      go_wp2_with fail
      go_quiet (fail)
      go_wp2_with (go_at_call 42; go_must (refine (rq_wrong 6 (h.ext ((Ext.refl w).drewN nq))).mono ?_); rintro e w2 ⟨rfl, h2, hT2⟩)
      go_end0
      rw [hf.out] at h2
      exact ⟨rfl, h2, ((Touch9.refl w q).drewN nq).trans hT2⟩
    · have e1 : Hid (endR S.data.toList (i, 0) = (i, 0)) := Lib.hid (by unfold endR; rw [dat_size9, if_neg (by simp only; omega)])
      have t1 : decide ((i : Int) < (S.size : Int)) = false := by simp; omega
      rw [e1.out]
      go_enter Tryz.func41, Tryz.ntmps41
      go_wp2_with fail
      go_quiet (fail)
      go_wp2_with fail
      go_end0
      exact ⟨rfl, h.ext ((Ext.refl w).drewN nq), (Touch9.refl w q).drewN nq⟩
  · have e1 : Hid (endR S.data.toList (i, e) = (i, e)) := Lib.hid (by
      unfold endR
      split
      · unfold failR; rw [if_neg he]
      · rfl)
    have d0 : (e == 0) = false := by simpa using he
    rw [e1.out]
    go_enter Tryz.func41, Tryz.ntmps41
    go_wp2_with fail
    go_quiet (fail)
    go_wp2_with fail
    go_end0
    exact ⟨rfl, h.ext ((Ext.refl w).drewN nq), (Touch9.refl w q).drewN nq⟩

set_option maxRecDepth 100000 in
set_option maxHeartbeats 16000000 in
theorem rq_part {w : World} {q : Nat} {S : ByteArray} {s : Nat × Int} (h : RqAt w q S s) :
    Calls Tryz.prog 94 #[.pointer (some ⟨q, 0, none⟩)] w fun e w' => ∃ u ps, e = .returned (.agg (pa3 (prt0 S.data.toList s).1.key (prt0 S.data.toList s).1.gone u)) ∧ RowsT w' u ps ∧ ps.map (·.1) = (prt0 S.data.toList s).1.rows ∧ RqAt w' q S (prt0 S.data.toList s).2 ∧ Touch9 w w' q := by
  have hq := h.lt
  have hE0 := (Ext.refl w).alloc (.cells (pa3 ⟨#[]⟩ 0 (.slice none 0 0)) 50)
  have b2 := BoxAt.made w (pa3 ⟨#[]⟩ 0 (.slice none 0 0)) 50
  have h0 := h.ext hE0
  have hq2 : w.heap.size ≠ q := by omega
  unfold prt0
  obtain ⟨X, s1, hX⟩ : ∃ X s1, txtR S.data.toList s = (X, s1) := ⟨_, _, rfl⟩
  obtain ⟨G, s2, hG⟩ : ∃ G s2, numR S.data.toList s1 = (G, s2) := ⟨_, _, rfl⟩
  obtain ⟨N, s5, hN⟩ : ∃ N s5, cntR S.data.toList s2 = (N, s5) := ⟨_, _, rfl⟩
  have hL : listR S.data.toList (rowR S.data.toList) s2 = manyR (rowR S.data.toList) N s5 := by unfold listR; rw [hN]
  obtain ⟨R, hR⟩ : ∃ R, R = manyR (rowR S.data.toList) N s5 := ⟨_, rfl⟩
  rw [← hR] at hL
  rw [hX]
  simp only
  rw [hG]
  simp only
  rw [hL]
  have k1 := rq_text h0
  rw [hX] at k1
  simp only at k1 ⊢
  have K1 := Lib.hid k1
  have HG := Lib.hid hG
  have HN := Lib.hid hN
  have HR := Lib.hid hR
  clear k1 hX hG hL hN hR
  go_enter Tryz.func94, Tryz.ntmps94
  go_wp2_with (go_at_call 40; go_must (refine K1.out.mono ?_); rintro e w1 ⟨rfl, h1, hT1⟩; have b21 := hT1.box b2 hq2; have hq3 : w1.heap.size ≠ q := (by have := h1.lt; omega))
  have b3 := BoxAt.made w1 (pa3 X 0 (.slice none 0 0)) 50
  have hEa := (Ext.refl w1).alloc (.cells (pa3 X 0 (.slice none 0 0)) 50)
  have h1a := h1.ext hEa
  have hT1a := (Touch9.of_ext hE0 q).trans (hT1.more hEa)
  have hle1 : w.heap.size ≤ w1.heap.size := by have := hE0.le; have := hT1.size; omega
  have hne23 : w.heap.size ≠ w1.heap.size := by have := b21.lt; omega
  have hsz3 : w1.heap.size + 1 ≤ (w1.alloc (.cells (pa3 X 0 (.slice none 0 0)) 50)).heap.size := by simp
  refine (rq_num h1a).mono ?_
  rintro e w6 ⟨rfl, h6, hT6⟩
  rw [HG.out] at h6
  simp only at h6
  rw [HG.out]
  have b26 := hT6.box (b21.ext hEa) hq2
  have b36 := hT6.box b3 hq3
  have hsz6 : w1.heap.size + 1 ≤ w6.heap.size := Nat.le_trans hsz3 hT6.size
  have y1 : w6.cell? ⟨w1.heap.size, 1, none⟩ = some (.int .i64 0) := b36.cell 1
  have yf := b36.free
  have P6 := rq_done1 h ⟨h6, hT1a.trans hT6⟩ hle1 1 (.int .i64 (G : Int))
  have b37 : BoxAt (w6.setCell ⟨w1.heap.size, 1, none⟩ (.int .i64 (G : Int))) w1.heap.size (pa3 X (G : Int) (.slice none 0 0)) 50 := b36.set 1 _
  have b27 := b26.other hne23 1 (.int .i64 (G : Int))
  have hsz7 : w1.heap.size + 1 ≤ (w6.setCell ⟨w1.heap.size, 1, none⟩ (.int .i64 (G : Int))).heap.size := by simpa [Deep.nblk_setCell] using hsz6
  go_wp2_with fail
  generalize hw7 : World.setCell w6 _ _ = w7 at P6 b37 b27 hsz7 ⊢
  clear hw7 y1 yf
  refine (rq_count P6.1).mono ?_
  rintro e w8 ⟨rfl, h8, hT8⟩
  rw [HN.out] at h8
  simp only at h8
  rw [HN.out]
  have b28 := hT8.box b27 hq2
  have b38 := hT8.box b37 hq3
  have hT8a := P6.2.trans hT8
  have hsz8 : w1.heap.size + 1 ≤ w8.heap.size := Nat.le_trans hsz7 hT8.size
  have hbn : N ≤ 900000 := by
    have h9 := cntR_big (B := S.data.toList) (s := s2) P6.1.len (by rw [dat_size9]; exact h.big)
    rw [HN.out] at h9
    exact h9
  obtain ⟨p, hp⟩ : ∃ p, p = w1.heap.size := ⟨_, rfl⟩
  rw [← hp] at hq3 hle1 hne23 b38 hsz8
  simp only
  rw [← hp]
  clear b2 hE0 h0 b21 b3 hEa h1a hT1a hsz3 h6 hT6 b26 b36 hsz6 P6 b37 b27 hsz7 hT8 HG HN h1 hT1 hp K1
  go_wp2_with fail
  go_loopw [5] (fun i wr => ∃ (k kk : Nat) (D : List (Ro × Value)) (vo : Value) (t : Nat × Int), k + kk = N ∧ D.length ≤ k ∧ i = .int .i64 (k : Int) ∧ RqAt wr q S t ∧ Touch9 w wr q ∧ BoxAt wr w.heap.size (pa3 ⟨#[]⟩ 0 (.slice none 0 0)) 50 ∧ BoxAt wr p (pa3 X (G : Int) vo) 50 ∧ wr.ownsRow (p + 1) 58 8 vo D.length (roCells D) ∧ Hid (∀ x ∈ D, ColsT wr x.2 x.1.cols) ∧ p + 1 ≤ wr.heap.size ∧ Hid (R = (D.map (·.1) ++ (manyR (rowR S.data.toList) kk t).1, (manyR (rowR S.data.toList) kk t).2))) (fun i _ => N - (intOf i).toNat)
  case atStart => exact ⟨0, N, [], _, s5, Nat.zero_add _, Nat.le_refl _, rfl, h8, hT8a, b28, b38, World.ownsRow_nil _ _ _ _, Lib.hid nofun, hsz8, HR⟩
  case round =>
    clear h8 hT8a b28 b38 hsz8
    obtain ⟨k, kk, D, vo, ⟨i, e⟩, hkk, hDk, rfl, ht, hTr, bz, bp, hown, HCT, hsz, HX⟩ := hrel
    obtain ⟨ua, uc, rfl⟩ := own_shape hown
    have c2 : wr.cell? ⟨q, 2, none⟩ = some (.int .i64 e) := ht.c2
    by_cases hgo : k < N ∧ e = 0
    · obtain ⟨hkN, rfl⟩ := hgo
      obtain ⟨kk, rfl⟩ : ∃ k', kk = k' + 1 := ⟨kk - 1, by omega⟩
      obtain ⟨Z, t2, hZ⟩ : ∃ Z t2, rowR S.data.toList (i, 0) = (Z, t2) := ⟨_, _, rfl⟩
      have k2 := rq_row ht
      rw [hZ] at k2
      simp only at k2
      have HZ := Lib.hid hZ
      clear k2 hZ
      obtain ⟨zk, ⟨zv, zd, za, zf⟩, zg, zs, zc⟩ := Z
      go_wp2_with fail
      have bz2 := bz.ext (Ext.refl wr).drew
      have bp2 := bp.ext (Ext.refl wr).drew
      have hown2 := ownsRow_ext hown (Ext.refl wr).drew
      have h2d := ht.ext (Ext.refl wr).drew
      have hT2d : Touch9 w wr.drew q := hTr.more (Ext.refl wr).drew
      have hszd : p + 1 ≤ wr.drew.heap.size := Nat.le_trans hsz (Ext.refl wr).drew.le
      have HCT2 : Hid (∀ x ∈ D, ColsT wr.drew x.2 x.1.cols) := Lib.hid (fun x hx => (HCT.out x hx).ext (Ext.refl wr).drew)
      have y7 : wr.drew.cell? ⟨p, 2, none⟩ = some (.slice ua D.length uc) := bp2.cell 2
      clear bz bp hown c2
      obtain ⟨i0, hi, hz0, hz1, hz2⟩ := info_parts info_Row
      go_region_law (first
        | (go_simp; go_at_call 136; go_must (refine (rq_row h2d).mono ?_); rintro e' w4 ⟨cu, rfl, hct4, h4, hT4⟩; rw [HZ.out] at h4 hct4; simp only at h4 hct4; rw [HZ.out]; obtain ⟨ca, cn, rfl⟩ : ∃ a c, cu = .slice a zc.length c := hct4.shape; unfold ro8; have bz4 := hT4.box bz2 hq2; have bp4 := hT4.box bp2 hq3; have hown4 := hT4.owns hown2 (by omega); have hsz4 := Nat.le_trans hszd hT4.size; have HCT4 : Hid (∀ x ∈ D, ColsT w4 x.2 x.1.cols) := Lib.hid (fun x hx => TIn.touch9 hT4 h2d.box (by decide) (HCT2.out x hx)); have y7 : w4.cell? ⟨p, 2, none⟩ = some (.slice ua D.length uc) := bp4.cell 2; have y7a : ∀ o, (w4.alloc o).cell? ⟨p, 2, none⟩ = some (.slice ua D.length uc) := fun o => bp4.allocs o 2)
        | (refine step_append_lies (w4.alloc (.cells (ro8 ⟨zk, ⟨zv, zd, za, zf⟩, zg, zs, zc⟩ (.slice ca zc.length cn)) 58)) rfl (.tmp 27) (.tmp 30) 48 rfl (p + 1) 58 i0 _ 8 96 und_Rows hi hz0 hz1 hz2 rfl (by decide) (.slice ua D.length uc) D.length (roCells D) (by simp [Act.eval, Act.put]) (hown4.alloc _) ⟨w4.heap.size, 0, none⟩ 1 1 (ro8 ⟨zk, ⟨zv, zd, za, zf⟩, zg, zs, zc⟩ (.slice ca zc.length cn)).toList (by simp [Act.eval, Act.put]) rfl (fun j u hj => by rw [Addr.add_lit, Nat.zero_add, (BoxAt.made w4 (ro8 ⟨zk, ⟨zv, zd, za, zf⟩, zg, zs, zc⟩ (.slice ca zc.length cn)) 58).cell j]; simpa using hj) (by simp [ro8, Value.oneCell']) (by omega) (by unfold maxLen; omega) (by omega) (by simp; omega) _ rfl ?_; intro g5 n5 w5 hown5 hg5 _ _; have bp5 := (bp4.ext ((Ext.refl w4).alloc _)).grown hg5 (fun e => by have := (hown4.lt _ e.symm).1; omega); have bz5 := (bz4.ext ((Ext.refl w4).alloc _)).grown hg5 (fun e => by have := (hown4.lt _ e.symm).1; omega); have y7 : w5.cell? ⟨p, 2, none⟩ = some (.slice ua D.length uc) := bp5.cell 2; have f7 := bp5.free 2))
      all_goals
        have hE4 := (Ext.refl w4).alloc (.cells (ro8 ⟨zk, ⟨zv, zd, za, zf⟩, zg, zs, zc⟩ (.slice ca zc.length cn)) 58)
        have hsz5 : p + 1 ≤ w5.heap.size := Nat.le_trans hsz4 (Nat.le_trans hE4.le hg5.size)
        have hq5 : RqAt w5 q S t2 := ⟨(h4.box.ext hE4).grown hg5 (fun e => by have := (hown4.lt _ e.symm).1; omega), h4.le, h4.big⟩
        have hT5 : Touch9 w w5 q := ((hT2d.trans hT4).more hE4).grown hg5 (fun b hb => by have := (hown4.lt b hb).1; omega)
        have HCT5 : Hid (∀ x ∈ D ++ [(⟨zk, ⟨zv, zd, za, zf⟩, zg, zs, zc⟩, .slice ca zc.length cn)], ColsT (w5.setCell ⟨p, 2, none⟩ (.slice (some ⟨g5, 0, none⟩) (D.length + 1) n5)) x.2 x.1.cols) := Lib.hid (fun x hx => by
          have key : ∀ {v l}, ColsT w4 v l → ColsT (w5.setCell ⟨p, 2, none⟩ (.slice (some ⟨g5, 0, none⟩) (D.length + 1) n5)) v l := fun hc => TIn.set 2 _ bp5 (by decide) (TIn.keepOwn (ownsRow_ext hown4 hE4) hg5 (by decide) (TIn.ext hE4 hc))
          rcases List.mem_append.1 hx with hx | hx
          · exact key (HCT4.out x hx)
          · rw [List.mem_singleton.1 hx]
            exact key hct4)
        have HX2 : Hid (R = ((D ++ [((⟨zk, ⟨zv, zd, za, zf⟩, zg, zs, zc⟩, .slice ca zc.length cn) : Ro × Value)]).map (·.1) ++ (manyR (rowR S.data.toList) kk t2).1, (manyR (rowR S.data.toList) kk t2).2)) := Lib.hid (by
          rw [HX.out, manyR_step _ _ _ rfl, HZ.out]
          simp only [List.map_append, List.map_cons, List.map_nil, List.append_assoc, List.singleton_append])
        go_wp2_with fail
        go_roundw
        case rel =>
          refine ⟨k + 1, kk, D ++ [(⟨zk, ⟨zv, zd, za, zf⟩, zg, zs, zc⟩, .slice ca zc.length cn)], _, t2, by omega, by simp; omega, by go_num, ⟨hq5.box.other hq3.symm 2 _, hq5.le, hq5.big⟩, hT5.put2 hle1 2 _, bz5.other hne23 2 _, bp5.set 2 _, ?_, HCT5, by simpa [Deep.nblk_setCell] using hsz5, HX2⟩
          rw [roCells_append, List.length_append]
          exact ownsRow_setCell_below hown5 (a := ⟨p, 2, none⟩) (by show p < p + 1; omega) _
        case measure => simp [intOf] <;> omega
    · have e0 : Hid (R = (D.map (·.1), (i, e))) := Lib.hid (by
        rw [HX.out, manyR_stop _ _ _ (by
          rcases Nat.lt_or_ge k N with h1 | h1
          · exact .inr (fun he => hgo ⟨h1, he⟩)
          · exact .inl (by omega))]
        simp only [List.append_nil])
      have hrt : RowsT wr (.slice ua D.length uc) D := ⟨TIn.own hown, HCT.out⟩
      have z0 : wr.cell? ⟨p, 0, none⟩ = some (.string X) := bp.cell 0
      have z1 : wr.cell? ⟨p, 1, none⟩ = some (.int .i64 (G : Int)) := bp.cell 1
      have z2 : wr.cell? ⟨p, 2, none⟩ = some (.slice ua D.length uc) := bp.cell 2
      have x0 : wr.cell? ⟨w.heap.size, 0, none⟩ = some (.string ⟨#[]⟩) := bz.cell 0
      have x1 : wr.cell? ⟨w.heap.size, 1, none⟩ = some (.int .i64 0) := bz.cell 1
      have x2 : wr.cell? ⟨w.heap.size, 2, none⟩ = some (.slice none 0 0) := bz.cell 2
      have xf := bz.free
      have FIN : Hid (∀ w9 : World, w9 = (((wr.setCell ⟨w.heap.size, 0, none⟩ (.string X)).setCell ⟨w.heap.size, 1, none⟩ (.int .i64 (G : Int))).setCell ⟨w.heap.size, 2, none⟩ (.slice ua D.length uc)) → BoxAt w9 w.heap.size (pa3 X (G : Int) (.slice ua D.length uc)) 50 ∧ RowsT w9 (.slice ua D.length uc) D ∧ RqAt w9 q S (i, e) ∧ Touch9 w w9 q) := Lib.hid (fun w9 h9 => by
        rw [h9]
        exact ⟨((bz.set 0 (.string X)).set 1 (.int .i64 (G : Int))).set 2 (.slice ua D.length uc), RowsT.set 2 (.slice ua D.length uc) ((bz.set 0 (.string X)).set 1 (.int .i64 (G : Int))) (by decide) (by decide) (RowsT.set 1 (.int .i64 (G : Int)) (bz.set 0 (.string X)) (by decide) (by decide) (RowsT.set 0 (.string X) bz (by decide) (by decide) hrt)), rq_done1 h (rq_done1 h (rq_done1 h ⟨ht, hTr⟩ (Nat.le_refl _) 0 (.string X)) (Nat.le_refl _) 1 (.int .i64 (G : Int))) (Nat.le_refl _) 2 (.slice ua D.length uc)⟩)
      clear hrt
      have hLAST : Hid (∀ w9 : World, (BoxAt w9 w.heap.size (pa3 X (G : Int) (.slice ua D.length uc)) 50 ∧ RowsT w9 (.slice ua D.length uc) D ∧ RqAt w9 q S (i, e) ∧ Touch9 w w9 q) → ∃ u ps, Ending.returned (Value.agg (pa3 X (G : Int) (.slice ua D.length uc))) = .returned (.agg (pa3 X (G : Int) u)) ∧ RowsT w9 u ps ∧ ps.map (·.1) = R.1 ∧ RqAt w9 q S R.2 ∧ Touch9 w w9 q) := Lib.hid (fun w9 h9 => ⟨_, D, rfl, h9.2.1, by rw [e0.out], by rw [e0.out]; exact h9.2.2.1, h9.2.2.2⟩)
      have hkk2 : (k < N ∧ ¬ e = 0) ∨ k = N := by
        rcases Nat.lt_or_ge k N with h1 | h1
        · exact .inl ⟨h1, fun he => hgo ⟨h1, he⟩⟩
        · exact .inr (by omega)
      rcases hkk2 with ⟨h1, h2⟩ | h1
      · have d0 : (e == 0) = false := by simpa using h2
        go_wp2_with fail
        generalize hW : World.setCell _ _ _ = w9
        have F9 := FIN.out w9 hW.symm
        obtain ⟨z0, z1, z2⟩ := F9.1.pa
        refine bodyPost_ret (v := .agg (pa3 X (G : Int) (.slice ua D.length uc))) ?_ rfl (hLAST.out w9 F9)
        simp [results, Tryz.results94, go_sem, z0, z1, z2]
        rfl
      · subst h1
        go_wp2_with fail
        generalize hW : World.setCell _ _ _ = w9
        have F9 := FIN.out w9 hW.symm
        obtain ⟨z0, z1, z2⟩ := F9.1.pa
        refine bodyPost_ret (v := .agg (pa3 X (G : Int) (.slice ua D.length uc))) ?_ rfl (hLAST.out w9 F9)
        simp [results, Tryz.results94, go_sem, z0, z1, z2]
        rfl
end Go.Proofs.YtfagnbofnaoncaaGreatDoor

/- The reference of chapter 9: its reader's Muts. -/
namespace Go.Proofs.YtfagnbofnaoncaaGreatDoor
open Go Go.RowKit
attribute [local go_sem] yields yUpon

/-- Another new block has turned. -/
theorem Touch9.side {w a b : World} {q p : Nat} (h : Touch9 w a q) (k : Touch9 a b p) (hp : w.heap.size ≤ p) : Touch9 w b q :=
  ⟨k.os.trans h.os, k.tape.trans h.tape, k.output.trans h.output, Nat.le_trans h.size k.size, fun i hi hn => (k.block i (Nat.lt_of_lt_of_le hi h.size) (by omega)).trans (h.block i hi hn)⟩
theorem RqAt.side {a b : World} {q p : Nat} {S : ByteArray} {s : Nat × Int} (h : RqAt a q S s) (k : Touch9 a b p) (hne : q ≠ p) : RqAt b q S s := ⟨k.box h.box hne, h.le, h.big⟩

set_option maxRecDepth 100000 in
set_option maxHeartbeats 16000000 in
theorem rq_muts {w : World} {q : Nat} {S : ByteArray} {s : Nat × Int} (h : RqAt w q S s) :
    Calls Tryz.prog 38 #[.pointer (some ⟨q, 0, none⟩)] w fun e w' => ∃ u L, e = .returned u ∧ w'.ownsRow w.heap.size 106 4 u L.length (mtCells L) ∧ (∀ m ∈ L, RowsT w' m.pa.rv m.pa.ps) ∧ L.map Mt.q = (listR S.data.toList (mutR S.data.toList) s).1 ∧ RqAt w' q S (listR S.data.toList (mutR S.data.toList) s).2 ∧ Touch9 w w' q := by
  have hq := h.lt
  obtain ⟨N, s1, hN⟩ : ∃ N s1, cntR S.data.toList s = (N, s1) := ⟨_, _, rfl⟩
  obtain ⟨R, hR⟩ : ∃ R, R = manyR (mutR S.data.toList) N s1 := ⟨_, rfl⟩
  have hL : listR S.data.toList (mutR S.data.toList) s = R := by unfold listR; rw [hN, hR]
  rw [hL]
  have k1 := rq_count h
  have hbn := cntR_big (B := S.data.toList) (s := s) h.len (by rw [dat_size9]; exact h.big)
  rw [hN] at k1 hbn
  simp only at k1 hbn
  have K1 := Lib.hid k1
  have HR := Lib.hid hR
  clear k1 hR hL hN
  go_enter Tryz.func38, Tryz.ntmps38
  go_wp2_with (go_at_call 39; go_must (refine K1.out.mono ?_); rintro e w1 ⟨rfl, h1, hT1⟩)
  go_loopw [3, 5] (fun u i wr => ∃ (k kk : Nat) (D : List Mt) (vo : Value) (t : Nat × Int), k + kk = N ∧ D.length ≤ k ∧ i = .int .i64 (k : Int) ∧ u = vo ∧ RqAt wr q S t ∧ Touch9 w wr q ∧ wr.ownsRow w.heap.size 106 4 vo D.length (mtCells D) ∧ Hid (∀ m ∈ D, RowsT wr m.pa.rv m.pa.ps) ∧ Hid (R = (D.map Mt.q ++ (manyR (mutR S.data.toList) kk t).1, (manyR (mutR S.data.toList) kk t).2))) (fun _ i _ => N - (intOf i).toNat)
  case atStart => exact ⟨0, N, [], _, s1, Nat.zero_add _, Nat.le_refl _, rfl, rfl, h1, hT1, World.ownsRow_nil _ _ _ _, Lib.hid nofun, HR⟩
  case round =>
    clear h1 hT1
    obtain ⟨k, kk, D, vo, ⟨i, e⟩, hkk, hDk, rfl, rfl, ht, hTr, hown, HRT, HX⟩ := hrel
    obtain ⟨ua, uc, rfl⟩ := own_shape hown
    have c2 : wr.cell? ⟨q, 2, none⟩ = some (.int .i64 e) := ht.c2
    by_cases hgo : k < N ∧ e = 0
    · obtain ⟨hkN, rfl⟩ := hgo
      obtain ⟨kk, rfl⟩ : ∃ k', kk = k' + 1 := ⟨kk - 1, by omega⟩
      obtain ⟨T, t1, hT⟩ : ∃ T t1, txtR S.data.toList (i, 0) = (T, t1) := ⟨_, _, rfl⟩
      obtain ⟨Y, ⟨j, e2⟩, hY⟩ : ∃ Y t2, txtR S.data.toList t1 = (Y, t2) := ⟨_, _, rfl⟩
      obtain ⟨⟨key, gone, rows⟩, t3, hP⟩ : ∃ P t3, prt0 Y.data.toList (0, e2) = (P, t3) := ⟨_, _, rfl⟩
      obtain ⟨j4, e4, h4e⟩ : ∃ j4 e4, endR Y.data.toList t3 = (j4, e4) := ⟨_, _, rfl⟩
      have hYz : Y.size ≤ 900000 := by
        have h2 := txtR_size S.data.toList t1
        rw [hY, dat_size9] at h2
        exact Nat.le_trans h2 ht.big
      have HMU : Hid (mutR S.data.toList (i, 0) = (⟨T, ⟨key, gone, rows⟩⟩, failR e4 (j, e2))) := Lib.hid (by
        unfold mutR
        rw [hT]
        simp only
        rw [hY]
        simp only
        rw [prtR_0, hP]
        simp only
        rw [h4e])
      have k2 := rq_text ht
      rw [hT] at k2
      simp only at k2
      have K2 := Lib.hid k2
      have HY := Lib.hid hY
      have HP : Hid (∀ p (u : World), RqAt u p Y (0, e2) → Calls Tryz.prog 94 #[.pointer (some ⟨p, 0, none⟩)] u fun e w' => ∃ v ps, e = .returned (.agg (pa3 key gone v)) ∧ RowsT w' v ps ∧ ps.map (·.1) = rows ∧ RqAt w' p Y t3 ∧ Touch9 u w' p) := Lib.hid (fun p u hu => by
        have h := rq_part hu
        rw [hP] at h
        exact h)
      have HEN : Hid (∀ p (u : World), RqAt u p Y t3 → Calls Tryz.prog 41 #[.pointer (some ⟨p, 0, none⟩)] u fun e w' => e = .returned (.tuple #[]) ∧ RqAt w' p Y (j4, e4) ∧ Touch9 u w' p) := Lib.hid (fun p u hu => by
        have h := rq_end hu
        rw [h4e] at h
        exact h)
      clear k2 hT hY hP h4e
      go_upto_region 7 with (go_at_call 40; go_must (refine K2.out.mono ?_); rintro e' w2 ⟨rfl, h2, hT2⟩)
      have b3 := BoxAt.made w2 #[.string T, .string ⟨#[]⟩, .int .i64 0, .slice none 0 0] 106
      have hEa := (Ext.refl w2).alloc (.cells #[.string T, .string ⟨#[]⟩, .int .i64 0, .slice none 0 0] 106)
      have h2a := h2.ext hEa
      have hT2a := (hTr.trans hT2).more hEa
      have hown2 := ownsRow_ext (hT2.owns hown hq) hEa
      have hp3 : w2.heap.size ≠ q := by have := h2.lt; omega
      have hpw : w.heap.size ≤ w2.heap.size := (hTr.trans hT2).size
      have HRT2 : Hid (∀ m ∈ D, RowsT (w2.alloc (.cells #[.string T, .string ⟨#[]⟩, .int .i64 0, .slice none 0 0] 106)) m.pa.rv m.pa.ps) := Lib.hid (fun m hm => (RowsT.touch9 hT2 ht.box (by decide) (by decide) (HRT.out m hm)).ext hEa)
      have hown2ne : ∀ g, (Value.slice ua D.length uc).ownBlock = some g → g ≠ w2.heap.size := fun g hg e => by have := ((hT2.owns hown hq).lt g hg).2; omega
      obtain ⟨p, hp⟩ : ∃ p, p = w2.heap.size := ⟨_, rfl⟩
      rw [← hp] at b3 hp3 hpw hown2ne ⊢
      clear hp
      generalize World.alloc w2 _ = w3 at b3 hEa h2a hT2a hown2 HRT2 ⊢
      clear hEa c2 hown HRT hTr ht
      go_wp2_with fail
      refine (rq_text h2a).mono ?_
      rintro e' w4 ⟨rfl, h4, hT4⟩
      rw [HY.out] at h4
      simp only at h4
      rw [HY.out]
      have b4 := hT4.box b3 hp3
      have hT4a := hT2a.trans hT4
      have hown4 := hT4.owns hown2 hq
      have HRT4 : Hid (∀ m ∈ D, RowsT w4 m.pa.rv m.pa.ps) := Lib.hid (fun m hm => RowsT.touch9 hT4 h2a.box (by decide) (by decide) (HRT2.out m hm))
      have c2 : w4.cell? ⟨q, 2, none⟩ = some (.int .i64 e2) := h4.c2
      go_wp2_with fail
      have h6 : RqAt (w4.alloc (.cells #[.string Y, .int .i64 0, .int .i64 e2] 96)) w4.heap.size Y (0, e2) := ⟨BoxAt.made _ _ _, Nat.zero_le _, hYz⟩
      have hEb := (Ext.refl w4).alloc (.cells #[.string Y, .int .i64 0, .int .i64 e2] 96)
      have h4b := h4.ext hEb
      have hT4b := hT4a.more hEb
      have b4b := b4.ext hEb
      have hown4b := ownsRow_ext hown4 hEb
      have HRT4b : Hid (∀ m ∈ D, RowsT (w4.alloc (.cells #[.string Y, .int .i64 0, .int .i64 e2] 96)) m.pa.rv m.pa.ps) := Lib.hid (fun m hm => (HRT4.out m hm).ext hEb)
      have hg4 : (Value.slice ua D.length uc).ownBlock ≠ some w4.heap.size := fun e => by have := (hown4.lt _ e).2; omega
      have hg3 : (Value.slice ua D.length uc).ownBlock ≠ some p := fun e => hown2ne _ e rfl
      have hqz : q ≠ w4.heap.size := by have := h4.lt; omega
      have hpz : p ≠ w4.heap.size := by have := b4.lt; omega
      have hwz : w.heap.size ≤ w4.heap.size := hT4a.size
      obtain ⟨z, hz⟩ : ∃ z, z = w4.heap.size := ⟨_, rfl⟩
      rw [← hz] at h6 hg4 hqz hpz hwz ⊢
      clear hz h4 hT4a b4 hown4 HRT4 c2 h2a b3 hT2a hown2 HRT2 hT4 HY h2 hT2 hown2ne
      generalize World.alloc w4 _ = w5 at h6 hEb h4b hT4b b4b hown4b HRT4b ⊢
      clear hEb
      refine (HP.out _ _ h6).mono ?_
      rintro e' w6 ⟨v, ps, rfl, hr6, hm6, h6', hT6⟩
      have HM6 := Lib.hid hm6
      clear hm6 HP
      obtain ⟨va, vc, rfl⟩ := hr6.shape
      have b6 := hT6.box b4b hpz
      have h46 := h4b.side hT6 hqz
      have hT46 := hT4b.side hT6 hwz
      have hown6 := hT6.owns2 hown4b (.inr hg4)
      have HRT6 : Hid (∀ m ∈ D, RowsT w6 m.pa.rv m.pa.ps) := Lib.hid (fun m hm => RowsT.touch9 hT6 h6.box (by decide) (by decide) (HRT4b.out m hm))
      clear h6 hT6 h4b hT4b b4b hown4b HRT4b
      have bf := b6.free
      have y1 : w6.cell? ⟨p, 1, none⟩ = some (.string ⟨#[]⟩) := b6.cell 1
      have y2 : w6.cell? ⟨p, 2, none⟩ = some (.int .i64 0) := b6.cell 2
      have y3 : w6.cell? ⟨p, 3, none⟩ = some (.slice none 0 0) := b6.cell 3
      have b7 : BoxAt (((w6.setCell ⟨p, 1, none⟩ (.string key)).setCell ⟨p, 2, none⟩ (.int .i64 gone)).setCell ⟨p, 3, none⟩ (.slice va ps.length vc)) p #[.string T, .string key, .int .i64 gone, .slice va ps.length vc] 106 := ((b6.set 1 (.string key)).set 2 (.int .i64 gone)).set 3 (.slice va ps.length vc)
      have hT7 : Touch9 w6 (((w6.setCell ⟨p, 1, none⟩ (.string key)).setCell ⟨p, 2, none⟩ (.int .i64 gone)).setCell ⟨p, 3, none⟩ (.slice va ps.length vc)) p := ((Touch9.set w6 1 _).put 2 _).put 3 _
      unfold pa3
      go_upto_region 10 with fail
      generalize World.setCell _ _ _ = w7 at b7 hT7 ⊢
      have h47 := h46.side hT7 hp3.symm
      have hT47 := hT46.side hT7 hpw
      have hown7 := hT7.owns2 hown6 (.inr hg3)
      have hr7 := RowsT.touch9 hT7 b6 (by decide) (by decide) hr6
      have HRT7 : Hid (∀ m ∈ D, RowsT w7 m.pa.rv m.pa.ps) := Lib.hid (fun m hm => RowsT.touch9 hT7 b6 (by decide) (by decide) (HRT6.out m hm))
      have h7' := h6'.side hT7 hpz.symm
      clear h46 hT46 hown6 HRT6 h6' hT7 b6 bf y1 y2 y3 hr6
      go_wp2_with fail
      refine (HEN.out _ _ h7').mono ?_
      rintro e' w8 ⟨rfl, h8', hT8⟩
      have b8 := hT8.box b7 hpz
      have h48 := h47.side hT8 hqz
      have hT48 := hT47.side hT8 hwz
      have hown8 := hT8.owns2 hown7 (.inr hg4)
      have hr8 := RowsT.touch9 hT8 h7'.box (by decide) (by decide) hr7
      have HRT8 : Hid (∀ m ∈ D, RowsT w8 m.pa.rv m.pa.ps) := Lib.hid (fun m hm => RowsT.touch9 hT8 h7'.box (by decide) (by decide) (HRT7.out m hm))
      clear h47 hT47 hown7 HRT7 h7' hT8 b7 hr7 HEN
      have c8 : w8.cell? ⟨z, 2, none⟩ = some (.int .i64 e4) := h8'.c2
      have HR8 := Lib.hid hr8
      clear hr8 hg3 hqz hpz
      obtain ⟨t4, ht4⟩ : ∃ t4, t4 = failR e4 (j, e2) := ⟨_, rfl⟩
      rw [← ht4] at HMU
      go_upto_region 12 with (go_at_call 42; go_must (refine (rq_wrong e4 h48).mono ?_); rintro e' w9 ⟨rfl, h9, hT9⟩; rw [← ht4] at h9)
      have b9 := hT9.box b8 hp3
      have hT49 := hT48.trans hT9
      have hown9 := hT9.owns hown8 hq
      have HR9 : Hid (RowsT w9 (.slice va ps.length vc) ps) := Lib.hid (RowsT.touch9 hT9 h48.box (by decide) (by decide) HR8.out)
      have HRT9 : Hid (∀ m ∈ D, RowsT w9 m.pa.rv m.pa.ps) := Lib.hid (fun m hm => RowsT.touch9 hT9 h48.box (by decide) (by decide) (HRT8.out m hm))
      have hw9 : w.heap.size ≤ w9.heap.size := hT49.size
      have hq9 := h9.lt
      clear h48 hT48 hown8 HRT8 h8' b8 hT9 HR8 c8 ht4
      have y0 : w9.cell? ⟨p, 0, none⟩ = some (.string T) := b9.cell 0
      have y1 : w9.cell? ⟨p, 1, none⟩ = some (.string key) := b9.cell 1
      have y2 : w9.cell? ⟨p, 2, none⟩ = some (.int .i64 gone) := b9.cell 2
      have y3 : w9.cell? ⟨p, 3, none⟩ = some (.slice va ps.length vc) := b9.cell 3
      have hv9 : ∀ g, (Value.slice ua D.length uc).ownBlock = some g → w.heap.size ≤ g ∧ g < w9.heap.size := fun g hg => hown9.lt g hg
      have hE9 := (Ext.refl w9).alloc (.cells (mt4 ⟨T, ⟨key, gone, .slice va ps.length vc, ps⟩⟩) 106)
      go_wp2_with (at_builtin; go_must (refine appR info_Mut und_Muts rfl (by decide) w9 rfl (.tmp 46) (.tmp 48) rfl w.heap.size hw9 _ D.length (mtCells D) hown9 (by rfl) 1 (mt4 ⟨T, ⟨key, gone, .slice va ps.length vc, ps⟩⟩) (by rfl) (by rfl) (by simp [mt4, Value.oneCell']) (by unfold maxLen; omega) (by omega) ?_); intro v10 w10 hown10 hg10)
      have hqT : RqAt w10 q S t4 := ⟨(h9.box.ext hE9).grown hg10 (fun e => by have := (hv9 _ e.symm).1; omega), h9.le, h9.big⟩
      have hT10 : Touch9 w w10 q := (hT49.more hE9).grown hg10 (fun b hb => (hv9 b hb).1)
      have HRT10 : Hid (∀ m ∈ D ++ [(⟨T, ⟨key, gone, .slice va ps.length vc, ps⟩⟩ : Mt)], RowsT w10 m.pa.rv m.pa.ps) := Lib.hid (fun m hm => by
        have key : ∀ {v l}, RowsT w9 v l → RowsT w10 v l := fun hc => RowsT.keepOwn (ownsRow_ext hown9 hE9) hg10 (by decide) (by decide) (hc.ext hE9)
        rcases List.mem_append.1 hm with hm | hm
        · exact key (HRT9.out m hm)
        · rw [List.mem_singleton.1 hm]
          exact key HR9.out)
      have HX2 : Hid (R = ((D ++ [(⟨T, ⟨key, gone, .slice va ps.length vc, ps⟩⟩ : Mt)]).map Mt.q ++ (manyR (mutR S.data.toList) kk t4).1, (manyR (mutR S.data.toList) kk t4).2)) := Lib.hid (by
        rw [HX.out, manyR_step _ _ _ rfl, HMU.out]
        simp only [List.map_append, List.map_cons, List.map_nil, List.append_assoc, List.singleton_append, Mt.q, HM6.out])
      refine ⟨⟨k + 1, kk, D ++ [⟨T, ⟨key, gone, .slice va ps.length vc, ps⟩⟩], _, t4, by omega, by simp; omega, by go_num, rfl, hqT, hT10, ?_, HRT10, HX2⟩, ?_⟩
      · rw [mtCells_append, List.length_append]
        exact hown10
      · simp [intOf] <;> omega
    · have e0 : Hid (R = (D.map Mt.q, (i, e))) := Lib.hid (by
        rw [HX.out, manyR_stop _ _ _ (by
          rcases Nat.lt_or_ge k N with h1 | h1
          · exact .inr (fun he => hgo ⟨h1, he⟩)
          · exact .inl (by omega))]
        simp only [List.append_nil])
      have hkk2 : (k < N ∧ ¬ e = 0) ∨ k = N := by
        rcases Nat.lt_or_ge k N with h1 | h1
        · exact .inl ⟨h1, fun he => hgo ⟨h1, he⟩⟩
        · exact .inr (by omega)
      have hFIN : Hid (∃ u L, Ending.returned (Value.slice ua D.length uc) = .returned u ∧ wr.ownsRow w.heap.size 106 4 u L.length (mtCells L) ∧ (∀ m ∈ L, RowsT wr m.pa.rv m.pa.ps) ∧ L.map Mt.q = R.1 ∧ RqAt wr q S R.2 ∧ Touch9 w wr q) := Lib.hid ⟨_, D, rfl, hown, HRT.out, by rw [e0.out], by rw [e0.out]; exact ht, hTr⟩
      rcases hkk2 with ⟨h1, h2⟩ | h1
      · have d0 : (e == 0) = false := by simpa using h2
        go_wp2_with fail
        go_ret
        exact hFIN.out
      · subst h1
        go_wp2_with fail
        go_ret
        exact hFIN.out
end Go.Proofs.YtfagnbofnaoncaaGreatDoor
