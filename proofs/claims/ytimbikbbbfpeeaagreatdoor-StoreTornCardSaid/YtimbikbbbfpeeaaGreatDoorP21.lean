/- pack's reader: cell, col. -/
import Derived.Test.YtimbikbbbfpeeaaGreatDoorP20
import Derived.Test.YtimbikbbbfpeeaaGreatDoorP3
import Derived.Test.YtimbikbbbfpeeaaGreatDoorP4
set_option linter.unusedSimpArgs false
set_option linter.unusedVariables false
namespace Go.Proofs.YtimbikbbbfpeeaaGreatDoor
open Go Go.RowKit
attribute [local go_sem] yields yUpon

section
variable {w a : World} {q : Nat} {v : Value} {B : List UInt8} {s s' : Nat × Int}
/-- A store into a new block. -/
theorem RdAt.put (h : RdAt w q v B s) (hT : Touch9 w a q) (h1 : RdAt a q v B s') {p : Nat} (hp : w.heap.size ≤ p) (i : Nat) (u : Value) : RdAt (a.setCell ⟨p, i, none⟩ u) q v B s' :=
  ⟨h1.box.other (by have := h.lt; omega) i u, (hT.put2 hp i u).slice h.bytes h.off, h.off, h1.le, h1.big⟩
theorem rd_done (h : RdAt w q v B s) (hT : Touch9 w a q) (h1 : RdAt a q v B s') {p : Nat} (hp : w.heap.size ≤ p) (u0 u1 u2 u3 : Value) :
    RdAt ((((a.setCell ⟨p, 0, none⟩ u0).setCell ⟨p, 1, none⟩ u1).setCell ⟨p, 2, none⟩ u2).setCell ⟨p, 3, none⟩ u3) q v B s' ∧ Touch9 w ((((a.setCell ⟨p, 0, none⟩ u0).setCell ⟨p, 1, none⟩ u1).setCell ⟨p, 2, none⟩ u2).setCell ⟨p, 3, none⟩ u3) q :=
  ⟨h.put (((hT.put2 hp 0 u0).put2 hp 1 u1).put2 hp 2 u2) (h.put ((hT.put2 hp 0 u0).put2 hp 1 u1) (h.put (hT.put2 hp 0 u0) (h.put hT h1 hp 0 u0) hp 1 u1) hp 2 u2) hp 3 u3, (((hT.put2 hp 0 u0).put2 hp 1 u1).put2 hp 2 u2).put2 hp 3 u3⟩
end
def cellR (B : List UInt8) (s : Nat × Int) : Cl × (Nat × Int) :=
  if (numR B s).1 = 0 then (zeroCl, (numR B s).2) else
  if (truR B (numR B s).2).1 = true then (⟨⟨#[]⟩, true, (numR B s).1, 0⟩, (truR B (numR B s).2).2) else
  (⟨(txtR B (truR B (numR B s).2).2).1, false, (numR B s).1, ((numR B (txtR B (truR B (numR B s).2).2).2).1 : Int)⟩, (numR B (txtR B (truR B (numR B s).2).2).2).2)

set_option maxRecDepth 100000 in
set_option maxHeartbeats 4000000 in
theorem rd_cell {w : World} {q : Nat} {v : Value} {B : List UInt8} {s : Nat × Int} (h : RdAt w q v B s) :
    Calls Tryz.prog 223 #[.pointer (some ⟨q, 0, none⟩)] w fun e w' => e = .returned (.agg (cl4 (cellR B s).1)) ∧ RdAt w' q v B (cellR B s).2 ∧ Touch9 w w' q := by
  have hq := h.lt
  have hE0 := (Ext.refl w).alloc (.cells (cl4 zeroCl) 63)
  have b2 := BoxAt.made w (cl4 zeroCl) 63
  have h0 := h.ext hE0
  have hq2 : w.heap.size ≠ q := by omega
  obtain ⟨A, s1, hA⟩ : ∃ A s1, numR B s = (A, s1) := ⟨_, _, rfl⟩
  have k1 := rd_number h0
  rw [hA] at k1
  simp only at k1
  have K1 := Lib.hid k1
  obtain ⟨CS, hCS⟩ : ∃ CS, CS = cellR B s := ⟨_, rfl⟩
  rw [← hCS]
  unfold cellR at hCS
  rw [hA] at hCS
  simp only at hCS
  clear k1 hA
  by_cases hA0 : A = 0
  · subst hA0
    rw [if_pos rfl] at hCS
    subst hCS
    have K1' : Hid (Calls Tryz.prog 116 #[.pointer (some ⟨q, 0, none⟩)] (w.alloc (.cells (cl4 zeroCl) 63)) fun e w' => e = .returned (.int .i64 0) ∧ RdAt w' q v B s1 ∧ Touch9 (w.alloc (.cells (cl4 zeroCl) 63)) w' q) := Lib.hid K1.out
    clear K1
    go_enter Tryz.func223, Tryz.ntmps223
    go_wp2_with (go_at_call 116; go_must (refine K1'.out.mono ?_); rintro e w1 ⟨rfl, h1, hT1⟩; have b21 := hT1.box b2 hq2; have y0 : ∀ o, (w1.alloc o).cell? ⟨w.heap.size, 0, none⟩ = some (.string ⟨#[]⟩) := fun o => b21.allocs o 0; have y1 : ∀ o, (w1.alloc o).cell? ⟨w.heap.size, 1, none⟩ = some (.bool false) := fun o => b21.allocs o 1; have y2 : ∀ o, (w1.alloc o).cell? ⟨w.heap.size, 2, none⟩ = some (.int .i64 0) := fun o => b21.allocs o 2; have y3 : ∀ o, (w1.alloc o).cell? ⟨w.heap.size, 3, none⟩ = some (.int .i64 0) := fun o => b21.allocs o 3; have xf := b21.frees)
    refine bodyPost_ret (v := .agg (cl4 zeroCl)) ?_ rfl ⟨rfl, rd_done h ((Touch9.of_ext hE0 q).trans (hT1.alloc _)) (h1.ext ((Ext.refl w1).alloc _)) (Nat.le_refl _) _ _ _ _⟩
    generalize hW : World.setCell _ _ _ = w9
    have hb : BoxAt w9 w.heap.size (cl4 zeroCl) 63 := by rw [← hW]; exact (b21.ext ((Ext.refl _).alloc _)).put4 (d := zeroCl)
    obtain ⟨z0, z1, z2, z3⟩ := hb.cl
    simp [results, Tryz.results223, go_sem, z0, z1, z2, z3]
    rfl
  · rw [if_neg hA0] at hCS
    have hAi : ¬ (A : Int) = 0 := by omega
    obtain ⟨T, s2, hTr⟩ : ∃ T s2, truR B s1 = (T, s2) := ⟨_, _, rfl⟩
    rw [hTr] at hCS
    simp only at hCS
    have HT := Lib.hid hTr
    have HCS := Lib.hid hCS
    clear hTr hCS
    go_enter Tryz.func223, Tryz.ntmps223
    go_wp2_with (go_at_call 116; go_must (refine K1.out.mono ?_); rintro e w1 ⟨rfl, h1, hT1⟩; have b21 := hT1.box b2 hq2; have hq3 : w1.heap.size ≠ q := (by have := h1.lt; omega))
    have b3 := BoxAt.made w1 (cl4 ⟨⟨#[]⟩, false, (A : Int), 0⟩) 63
    have hEa := (Ext.refl w1).alloc (.cells (cl4 ⟨⟨#[]⟩, false, (A : Int), 0⟩) 63)
    have h1a := h1.ext hEa
    have hT1a := (Touch9.of_ext hE0 q).trans (hT1.more hEa)
    have hle1 : w.heap.size ≤ w1.heap.size := by have := hE0.le; have := hT1.size; omega
    have hne23 : w.heap.size ≠ w1.heap.size := by have := b21.lt; omega
    refine (rd_truth h1a).mono ?_
    rintro e w2 ⟨rfl, h2, hT2⟩
    rw [HT.out] at h2
    simp only at h2
    rw [HT.out]
    have b22 := hT2.box (b21.ext hEa) hq2
    have b32 := hT2.box b3 hq3
    have hT2a := hT1a.trans hT2
    have c1 : w2.cell? ⟨w1.heap.size, 1, none⟩ = some (.bool false) := b32.cell 1
    have f1 := b32.free 1
    have r2 := h.put hT2a h2 hle1 1 (.bool T)
    have hT3 := hT2a.put2 hle1 1 (.bool T)
    have b33 : BoxAt (w2.setCell ⟨w1.heap.size, 1, none⟩ (.bool T)) w1.heap.size (cl4 ⟨⟨#[]⟩, T, (A : Int), 0⟩) 63 := b32.set 1 _
    have b23 : BoxAt (w2.setCell ⟨w1.heap.size, 1, none⟩ (.bool T)) w.heap.size (cl4 zeroCl) 63 := b22.other hne23 1 _
    cases hTb : T
    · subst hTb
      obtain ⟨X, s3, hX⟩ : ∃ X s3, txtR B s2 = (X, s3) := ⟨_, _, rfl⟩
      obtain ⟨F, s4, hF⟩ : ∃ F s4, numR B s3 = (F, s4) := ⟨_, _, rfl⟩
      have hC : CS = (⟨X, false, (A : Int), (F : Int)⟩, s4) := by rw [HCS.out, if_neg (by simp), hX]; simp only; rw [hF]
      have HC := Lib.hid hC
      clear hC
      have HX := Lib.hid hX
      have HF := Lib.hid hF
      clear hX hF
      go_wp2_with fail
      refine (rd_text r2).mono ?_
      rintro e w4 ⟨rfl, h4, hT4⟩
      rw [HX.out] at h4
      simp only at h4
      rw [HX.out]
      have b24 := hT4.box b23 hq2
      have b34 := hT4.box b33 hq3
      have hT4a := hT3.trans hT4
      have d0 : w4.cell? ⟨w1.heap.size, 0, none⟩ = some (.string ⟨#[]⟩) := b34.cell 0
      have f0 := b34.free 0
      have r4 := h.put hT4a h4 hle1 0 (.string X)
      have hT5 := hT4a.put2 hle1 0 (.string X)
      have b35 : BoxAt (w4.setCell ⟨w1.heap.size, 0, none⟩ (.string X)) w1.heap.size (cl4 ⟨X, false, (A : Int), 0⟩) 63 := b34.set 0 _
      have b25 : BoxAt (w4.setCell ⟨w1.heap.size, 0, none⟩ (.string X)) w.heap.size (cl4 zeroCl) 63 := b24.other hne23 0 _
      go_wp2_with fail
      refine (rd_number r4).mono ?_
      rintro e w6 ⟨rfl, h6, hT6⟩
      rw [HF.out] at h6
      simp only at h6
      rw [HF.out]
      have b26 := hT6.box b25 hq2
      have b36 := hT6.box b35 hq3
      have hT6a := hT5.trans hT6
      have d3 : w6.cell? ⟨w1.heap.size, 3, none⟩ = some (.int .i64 0) := b36.cell 3
      have f3 := b36.free 3
      have r6 := h.put hT6a h6 hle1 3 (.int .i64 (F : Int))
      have hT7 := hT6a.put2 hle1 3 (.int .i64 (F : Int))
      have b37 : BoxAt (w6.setCell ⟨w1.heap.size, 3, none⟩ (.int .i64 (F : Int))) w1.heap.size (cl4 ⟨X, false, (A : Int), (F : Int)⟩) 63 := b36.set 3 _
      have b27 : BoxAt (w6.setCell ⟨w1.heap.size, 3, none⟩ (.int .i64 (F : Int))) w.heap.size (cl4 zeroCl) 63 := b26.other hne23 3 _
      generalize hw7 : w6.setCell ⟨w1.heap.size, 3, none⟩ (.int .i64 (F : Int)) = w7 at r6 hT7 b37 b27
      have y0 : w7.cell? ⟨w.heap.size, 0, none⟩ = some (.string ⟨#[]⟩) := b27.cell 0
      have y1 : w7.cell? ⟨w.heap.size, 1, none⟩ = some (.bool false) := b27.cell 1
      have y2 : w7.cell? ⟨w.heap.size, 2, none⟩ = some (.int .i64 0) := b27.cell 2
      have y3 : w7.cell? ⟨w.heap.size, 3, none⟩ = some (.int .i64 0) := b27.cell 3
      have xf := b27.free
      have z0 : w7.cell? ⟨w1.heap.size, 0, none⟩ = some (.string X) := b37.cell 0
      have z1 : w7.cell? ⟨w1.heap.size, 1, none⟩ = some (.bool false) := b37.cell 1
      have z2 : w7.cell? ⟨w1.heap.size, 2, none⟩ = some (.int .i64 (A : Int)) := b37.cell 2
      have z3 : w7.cell? ⟨w1.heap.size, 3, none⟩ = some (.int .i64 (F : Int)) := b37.cell 3
      go_wp2_with fail
      refine bodyPost_ret (v := .agg (cl4 ⟨X, false, (A : Int), (F : Int)⟩)) ?_ rfl ⟨by rw [HC.out], by rw [HC.out]; exact rd_done h hT7 r6 (Nat.le_refl _) _ _ _ _⟩
      generalize hW : World.setCell _ _ _ = w9
      have hb : BoxAt w9 w.heap.size (cl4 ⟨X, false, (A : Int), (F : Int)⟩) 63 := by rw [← hW]; exact b27.put4 (d := ⟨X, false, (A : Int), (F : Int)⟩)
      obtain ⟨z0, z1, z2, z3⟩ := hb.cl
      simp [results, Tryz.results223, go_sem, z0, z1, z2, z3]
      rfl
    · subst hTb
      have HC : Hid (CS = (⟨⟨#[]⟩, true, (A : Int), 0⟩, s2)) := Lib.hid (by rw [HCS.out, if_pos rfl])
      generalize hw3 : w2.setCell ⟨w1.heap.size, 1, none⟩ (.bool true) = w3 at r2 hT3 b33 b23
      have y0 : w3.cell? ⟨w.heap.size, 0, none⟩ = some (.string ⟨#[]⟩) := b23.cell 0
      have y1 : w3.cell? ⟨w.heap.size, 1, none⟩ = some (.bool false) := b23.cell 1
      have y2 : w3.cell? ⟨w.heap.size, 2, none⟩ = some (.int .i64 0) := b23.cell 2
      have y3 : w3.cell? ⟨w.heap.size, 3, none⟩ = some (.int .i64 0) := b23.cell 3
      have xf := b23.free
      have z0 : w3.cell? ⟨w1.heap.size, 0, none⟩ = some (.string ⟨#[]⟩) := b33.cell 0
      have z1 : w3.cell? ⟨w1.heap.size, 1, none⟩ = some (.bool true) := b33.cell 1
      have z2 : w3.cell? ⟨w1.heap.size, 2, none⟩ = some (.int .i64 (A : Int)) := b33.cell 2
      have z3 : w3.cell? ⟨w1.heap.size, 3, none⟩ = some (.int .i64 0) := b33.cell 3
      go_wp2_with fail
      refine bodyPost_ret (v := .agg (cl4 ⟨⟨#[]⟩, true, (A : Int), 0⟩)) ?_ rfl ⟨by rw [HC.out], by rw [HC.out]; exact rd_done h hT3 r2 (Nat.le_refl _) _ _ _ _⟩
      generalize hW : World.setCell _ _ _ = w9
      have hb : BoxAt w9 w.heap.size (cl4 ⟨⟨#[]⟩, true, (A : Int), 0⟩) 63 := by rw [← hW]; exact b23.put4 (d := ⟨⟨#[]⟩, true, (A : Int), 0⟩)
      obtain ⟨z0, z1, z2, z3⟩ := hb.cl
      simp [results, Tryz.results223, go_sem, z0, z1, z2, z3]
      rfl
end Go.Proofs.YtimbikbbbfpeeaaGreatDoor

/- pack's reader: col, a list of columns. -/
namespace Go.Proofs.YtimbikbbbfpeeaaGreatDoor
open Go Go.RowKit
attribute [local go_sem] yields yUpon

def colR (B : List UInt8) (s : Nat × Int) : Co × (Nat × Int) := (⟨(txtR B s).1, (cellR B (txtR B s).2).1⟩, (cellR B (txtR B s).2).2)
def zeroCo : Co := ⟨⟨#[]⟩, zeroCl⟩
/-- So many, one by one, as long as nothing is wrong. -/
def manyR {α : Type} (one : Nat × Int → α × (Nat × Int)) : Nat → Nat × Int → List α × (Nat × Int)
  | 0, s => ([], s)
  | n + 1, s => if s.2 = 0 then ((one s).1 :: (manyR one n (one s).2).1, (manyR one n (one s).2).2) else ([], s)
def listR {α : Type} (B : List UInt8) (one : Nat × Int → α × (Nat × Int)) (s : Nat × Int) : List α × (Nat × Int) := manyR one (cntR B s).1 (cntR B s).2

section
variable {w a : World} {q : Nat} {v : Value} {B : List UInt8} {s s' : Nat × Int}
theorem rd_done1 (h : RdAt w q v B s) (hx : RdAt a q v B s' ∧ Touch9 w a q) {p : Nat} (hp : w.heap.size ≤ p) (i : Nat) (u : Value) : RdAt (a.setCell ⟨p, i, none⟩ u) q v B s' ∧ Touch9 w (a.setCell ⟨p, i, none⟩ u) q :=
  ⟨h.put hx.2 hx.1 hp i u, hx.2.put2 hp i u⟩
end

set_option maxRecDepth 100000 in
set_option maxHeartbeats 4000000 in
theorem rd_col {w : World} {q : Nat} {v : Value} {B : List UInt8} {s : Nat × Int} (h : RdAt w q v B s) :
    Calls Tryz.prog 225 #[.pointer (some ⟨q, 0, none⟩)] w fun e w' => e = .returned (.agg (co5 (colR B s).1)) ∧ RdAt w' q v B (colR B s).2 ∧ Touch9 w w' q := by
  have hq := h.lt
  have hE0 := (Ext.refl w).alloc (.cells (co5 zeroCo) 216)
  have b2 := BoxAt.made w (co5 zeroCo) 216
  have h0 := h.ext hE0
  have hq2 : w.heap.size ≠ q := by omega
  unfold colR
  obtain ⟨X, s1, hX⟩ : ∃ X s1, txtR B s = (X, s1) := ⟨_, _, rfl⟩
  obtain ⟨C, s2, hC⟩ : ∃ C s2, cellR B s1 = (C, s2) := ⟨_, _, rfl⟩
  rw [hX]
  simp only
  rw [hC]
  have k1 := rd_text h0
  rw [hX] at k1
  simp only at k1 ⊢
  have K1 := Lib.hid k1
  have HC := Lib.hid hC
  clear k1 hX hC
  obtain ⟨val, dead, at_, fin⟩ := C
  go_enter Tryz.func225, Tryz.ntmps225
  go_wp2_with (go_at_call 158; go_must (refine K1.out.mono ?_); rintro e w1 ⟨rfl, h1, hT1⟩; have b21 := hT1.box b2 hq2)
  refine (rd_cell h1).mono ?_
  rintro e w2 ⟨rfl, h2, hT2⟩
  rw [HC.out] at h2
  simp only at h2
  rw [HC.out]
  have b22 := hT2.box b21 hq2
  have hT := (Touch9.of_ext hE0 q).trans (hT1.trans hT2)
  have y0 : w2.cell? ⟨w.heap.size, 0, none⟩ = some (.string ⟨#[]⟩) := b22.cell 0
  have y1 : w2.cell? ⟨w.heap.size, 1, none⟩ = some (.string ⟨#[]⟩) := b22.cell 1
  have y2 : w2.cell? ⟨w.heap.size, 2, none⟩ = some (.bool false) := b22.cell 2
  have y3 : w2.cell? ⟨w.heap.size, 3, none⟩ = some (.int .i64 0) := b22.cell 3
  have y4 : w2.cell? ⟨w.heap.size, 4, none⟩ = some (.int .i64 0) := b22.cell 4
  have xf := b22.free
  unfold cl4
  go_wp2_with fail
  refine bodyPost_ret (v := .agg (co5 ⟨X, val, dead, at_, fin⟩)) ?_ rfl ⟨rfl, rd_done1 h (rd_done1 h (rd_done1 h (rd_done1 h (rd_done1 h ⟨h2, hT⟩ (Nat.le_refl _) _ _) (Nat.le_refl _) _ _) (Nat.le_refl _) _ _) (Nat.le_refl _) _ _) (Nat.le_refl _) _ _⟩
  generalize hW : World.setCell _ _ _ = w9
  have hb : BoxAt w9 w.heap.size (co5 ⟨X, val, dead, at_, fin⟩) 216 := by rw [← hW]; exact ((((b22.set 0 _).set 1 _).set 2 _).set 3 _).set 4 _
  obtain ⟨z0, z1, z2, z3, z4⟩ := hb.co
  simp [results, Tryz.results225, go_sem, z0, z1, z2, z3, z4]
  rfl

theorem Touch9.owns {w a : World} {q : Nat} (h : Touch9 w a q) {S : Nat} {e : TypeId} {size : Nat} {v : Value} {n : Nat} {xs : List Value} (ho : w.ownsRow S e size v n xs) (hq : q < S) : a.ownsRow S e size v n xs := by
  obtain ⟨h1, h2⟩ := ho
  refine ⟨h1, h2.imp id ?_⟩
  rintro ⟨g, cap, cur, h3⟩
  refine ⟨g, cap, cur, h3.1, h3.2.1, ?_, h3.2.2.2⟩
  rw [h.block g (Array.getElem?_eq_some_iff.1 h3.2.2.1).1 (by have := h3.2.1; omega)]
  exact h3.2.2.1
theorem cols_one (w : World) (c : Co) (T : TypeId) : ColsIn (w.alloc (.cells (co5 c) T)) (.slice (some ⟨w.heap.size, 0, none⟩) 1 1) [c] :=
  SliceIn.made w (co5 c) T 1 (by unfold maxLen; decide)
theorem RdAt.grownOwn {x y : World} {q : Nat} {v : Value} {B : List UInt8} {s : Nat × Int} {w : World} {s0 : Nat × Int} (h : RdAt x q v B s) (h0 : RdAt w q v B s0) (hT : Touch9 w x q) {S : Nat} {e : TypeId} {size : Nat} {vo : Value} {n : Nat} {xs : List Value} (hown : x.ownsRow S e size vo n xs) (hg : x.grownBy y vo.ownBlock) (hS : w.heap.size ≤ S) : RdAt y q v B s :=
  ⟨h.box.grown hg (fun e => by have := (hown.lt q e.symm).1; have := h0.lt; omega), (hT.grown hg (fun b hb => Nat.le_trans hS (hown.lt b hb).1)).slice h0.bytes h0.off, h0.off, h.le, h.big⟩
theorem manyR_step {α : Type} (one : Nat × Int → α × (Nat × Int)) (n : Nat) (s : Nat × Int) (h : s.2 = 0) : manyR one (n + 1) s = ((one s).1 :: (manyR one n (one s).2).1, (manyR one n (one s).2).2) := if_pos h
theorem manyR_stop {α : Type} (one : Nat × Int → α × (Nat × Int)) (n : Nat) (s : Nat × Int) (h : n = 0 ∨ ¬ s.2 = 0) : manyR one n s = ([], s) := by
  cases n with
  | zero => rfl
  | succ n => exact if_neg (h.resolve_left (by omega))
theorem cntR_big {B : List UInt8} {s : Nat × Int} (h : s.1 ≤ B.length) (hb : B.length ≤ 900000) : (cntR B s).1 ≤ 900000 := by have := cntR_le h; omega

set_option maxRecDepth 100000 in
set_option maxHeartbeats 4000000 in
theorem rd_cols {w : World} {q : Nat} {v : Value} {B : List UInt8} {s : Nat × Int} (h : RdAt w q v B s) :
    Calls Tryz.prog 224 #[.pointer (some ⟨q, 0, none⟩), .func (.func 225) #[] #[]] w fun e w' => ∃ u, e = .returned u ∧ w'.ownsRow w.heap.size 216 5 u (listR B (colR B) s).1.length (coCells (listR B (colR B) s).1) ∧ RdAt w' q v B (listR B (colR B) s).2 ∧ Touch9 w w' q := by
  have hq := h.lt
  obtain ⟨R, hR⟩ : ∃ R, R = listR B (colR B) s := ⟨_, rfl⟩
  rw [← hR]
  obtain ⟨N, s1, hN⟩ : ∃ N s1, cntR B s = (N, s1) := ⟨_, _, rfl⟩
  unfold listR at hR
  have hbn := cntR_big h.le h.big
  have k1 := rd_count h
  rw [hN] at hR k1 hbn
  simp only at hR k1 hbn
  have K1 := Lib.hid k1
  have HR := Lib.hid hR
  clear k1 hR hN
  go_enter Tryz.func224, Tryz.ntmps224
  go_wp2_with (go_at_call 157; go_must (refine K1.out.mono ?_); rintro e w1 ⟨rfl, h1, hT1⟩)
  go_loopw [5, 6] (fun u n wr => ∃ (k : Nat) (D : List Co) (t : Nat × Int), D.length + k ≤ N ∧ n = .int .i64 (k : Int) ∧ wr.ownsRow w.heap.size 216 5 u D.length (coCells D) ∧ RdAt wr q v B t ∧ Touch9 w wr q ∧ Hid (R = (D ++ (manyR (colR B) k t).1, (manyR (colR B) k t).2))) (fun _ n _ => (intOf n).toNat)
  case atStart => exact ⟨N, [], s1, by simp, rfl, World.ownsRow_nil _ _ _ _, h1, hT1, HR⟩
  case round =>
    obtain ⟨k, D, t, hDk, rfl, hown, ht, hTr, HX⟩ := hrel
    have hsz := hTr.size
    obtain ⟨i, e⟩ := t
    have c2 : wr.cell? ⟨q, 2, none⟩ = some (.int .i64 e) := ht.c2
    have hou := hown
    obtain ⟨ua, uc, rfl⟩ := own_shape hou
    clear hou
    by_cases hk : 0 < k
    · have hkd : decide ((0 : Int) < (k : Int)) = true := decide_eq_true (by omega)
      by_cases he : e = 0
      · subst he
        obtain ⟨C, t2, hC⟩ : ∃ C t2, colR B (i, 0) = (C, t2) := ⟨_, _, rfl⟩
        have HC := Lib.hid hC
        clear hC
        go_wp2_with fail
        refine (rd_col ht).mono ?_
        rintro e w5 ⟨rfl, h5, hT5⟩
        rw [HC.out] at h5
        simp only at h5
        rw [HC.out]
        obtain ⟨name, val, dead, at_, fin⟩ := C
        have hin := cols_one w5 ⟨name, val, dead, at_, fin⟩ 216
        have hE6 := (Ext.refl w5).alloc (.cells (co5 ⟨name, val, dead, at_, fin⟩) 216)
        have hown6 := ownsRow_ext (hT5.owns hown hq) hE6
        have h6 := h5.ext hE6
        have hT6 := hTr.trans (hT5.more hE6)
        have hsz6 := hT6.size
        unfold co5 at *
        simp only at hin hown6 h6 hT6 hsz6
        go_wp2_with (at_builtin; go_must (refine appCols _ rfl (.tmp 20) (.tmp 24) rfl w.heap.size hsz6 _ D hown6 (by rfl) _ [⟨name, val, dead, at_, fin⟩] hin (by rfl) (by simp; omega) ?_); intro v9 w9 ho9 hg9; have ho9' := ho9; obtain ⟨a9, c9, rfl⟩ := own_shape ho9')
        obtain ⟨k', rfl⟩ : ∃ k', k = k' + 1 := ⟨k - 1, by omega⟩
        go_roundw
        case rel =>
          refine ⟨k', D ++ [⟨name, val, dead, at_, fin⟩], t2, by simp; omega, by go_num, by rw [List.length_append] at ho9 ⊢; exact ho9, h6.grownOwn h hT6 hown6 hg9 (Nat.le_refl _), hT6.grown hg9 (fun b hb => (hown6.lt b hb).1), ?_⟩
          show R = _
          rw [HX.out, manyR_step _ _ _ rfl, HC.out]
          simp only [List.append_assoc, List.singleton_append]
        case measure => simp [intOf] <;> omega
      · have e0 : manyR (colR B) k (i, e) = ([], (i, e)) := manyR_stop _ _ _ (.inr he)
        have e1 : R = (D, (i, e)) := by rw [HX.out, e0]; simp only [List.append_nil]
        go_wp2_with fail
        go_ret
        rw [e1]
        exact ⟨_, rfl, hown, ht, hTr⟩
    · have e0 : manyR (colR B) k (i, e) = ([], (i, e)) := manyR_stop _ _ _ (.inl (by omega))
      have e1 : R = (D, (i, e)) := by rw [HX.out, e0]; simp only [List.append_nil]
      obtain rfl : k = 0 := by omega
      go_wp2_with fail
      go_ret
      rw [e1]
      exact ⟨_, rfl, hown, ht, hTr⟩
end Go.Proofs.YtimbikbbbfpeeaaGreatDoor

/- pack's reader: row, a list of rows. -/
namespace Go.Proofs.YtimbikbbbfpeeaaGreatDoor
open Go Go.RowKit
attribute [local go_sem] yields yUpon

def rowR (B : List UInt8) (s : Nat × Int) : Ro × (Nat × Int) :=
  (⟨(txtR B s).1, (cellR B (txtR B s).2).1, ((numR B (cellR B (txtR B s).2).2).1 : Int), ((numR B (numR B (cellR B (txtR B s).2).2).2).1 : Int), (listR B (colR B) (numR B (numR B (cellR B (txtR B s).2).2).2).2).1⟩,
   (listR B (colR B) (numR B (numR B (cellR B (txtR B s).2).2).2).2).2)
def zeroRo : Ro := ⟨⟨#[]⟩, zeroCl, 0, 0, []⟩

set_option maxRecDepth 100000 in
set_option maxHeartbeats 4000000 in
theorem rd_row {w : World} {q : Nat} {v : Value} {B : List UInt8} {s : Nat × Int} (h : RdAt w q v B s) :
    Calls Tryz.prog 200 #[.pointer (some ⟨q, 0, none⟩)] w fun e w' => ∃ u, e = .returned (.agg (ro8 (rowR B s).1 u)) ∧ ColsT w' u (rowR B s).1.cols ∧ RdAt w' q v B (rowR B s).2 ∧ Touch9 w w' q := by
  have hq := h.lt
  have hE0 := (Ext.refl w).alloc (.cells (ro8 zeroRo (.slice none 0 0)) 66)
  have b2 := BoxAt.made w (ro8 zeroRo (.slice none 0 0)) 66
  have h0 := h.ext hE0
  have hq2 : w.heap.size ≠ q := by omega
  unfold rowR
  obtain ⟨X, s1, hX⟩ : ∃ X s1, txtR B s = (X, s1) := ⟨_, _, rfl⟩
  obtain ⟨C, s2, hC⟩ : ∃ C s2, cellR B s1 = (C, s2) := ⟨_, _, rfl⟩
  obtain ⟨G, s3, hG⟩ : ∃ G s3, numR B s2 = (G, s3) := ⟨_, _, rfl⟩
  obtain ⟨H, s4, hH⟩ : ∃ H s4, numR B s3 = (H, s4) := ⟨_, _, rfl⟩
  obtain ⟨L, s5, hL⟩ : ∃ L s5, listR B (colR B) s4 = (L, s5) := ⟨_, _, rfl⟩
  rw [hX]
  simp only
  rw [hC]
  simp only
  rw [hG]
  simp only
  rw [hH]
  simp only
  rw [hL]
  have k1 := rd_text h0
  rw [hX] at k1
  simp only at k1 ⊢
  have K1 := Lib.hid k1
  have HC := Lib.hid hC
  have HG := Lib.hid hG
  have HH := Lib.hid hH
  have HL := Lib.hid hL
  clear k1 hX hC hG hH hL
  obtain ⟨val, dead, at_, fin⟩ := C
  go_enter Tryz.func200, Tryz.ntmps200
  go_wp2_with (go_at_call 158; go_must (refine K1.out.mono ?_); rintro e w1 ⟨rfl, h1, hT1⟩; have b21 := hT1.box b2 hq2; have hq3 : w1.heap.size ≠ q := (by have := h1.lt; omega))
  have b3 := BoxAt.made w1 (ro8 ⟨X, zeroCl, 0, 0, []⟩ (.slice none 0 0)) 66
  have hEa := (Ext.refl w1).alloc (.cells (ro8 ⟨X, zeroCl, 0, 0, []⟩ (.slice none 0 0)) 66)
  have h1a := h1.ext hEa
  have hT1a := (Touch9.of_ext hE0 q).trans (hT1.more hEa)
  have hle1 : w.heap.size ≤ w1.heap.size := by have := hE0.le; have := hT1.size; omega
  have hne23 : w.heap.size ≠ w1.heap.size := by have := b21.lt; omega
  refine (rd_cell h1a).mono ?_
  rintro e w2 ⟨rfl, h2, hT2⟩
  rw [HC.out] at h2
  simp only at h2
  rw [HC.out]
  unfold cl4
  have b22 := hT2.box (b21.ext hEa) hq2
  have b32 := hT2.box b3 hq3
  have y1 : w2.cell? ⟨w1.heap.size, 1, none⟩ = some (.string ⟨#[]⟩) := b32.cell 1
  have y2 : w2.cell? ⟨w1.heap.size, 2, none⟩ = some (.bool false) := b32.cell 2
  have y3 : w2.cell? ⟨w1.heap.size, 3, none⟩ = some (.int .i64 0) := b32.cell 3
  have y4 : w2.cell? ⟨w1.heap.size, 4, none⟩ = some (.int .i64 0) := b32.cell 4
  have yf := b32.free
  have P2 := rd_done1 h (rd_done1 h (rd_done1 h (rd_done1 h ⟨h2, hT1a.trans hT2⟩ hle1 1 (.string val)) hle1 2 (.bool dead)) hle1 3 (.int .i64 at_)) hle1 4 (.int .i64 fin)
  have b33 : BoxAt ((((w2.setCell ⟨w1.heap.size, 1, none⟩ (.string val)).setCell ⟨w1.heap.size, 2, none⟩ (.bool dead)).setCell ⟨w1.heap.size, 3, none⟩ (.int .i64 at_)).setCell ⟨w1.heap.size, 4, none⟩ (.int .i64 fin)) w1.heap.size #[.string X, .string val, .bool dead, .int .i64 at_, .int .i64 fin, .int .i64 0, .int .i64 0, .slice none 0 0] 66 := (((b32.set 1 (.string val)).set 2 (.bool dead)).set 3 (.int .i64 at_)).set 4 (.int .i64 fin)
  have b23 := (((b22.other hne23 1 (.string val)).other hne23 2 (.bool dead)).other hne23 3 (.int .i64 at_)).other hne23 4 (.int .i64 fin)
  go_wp2_with fail
  generalize hw3 : World.setCell (World.setCell (World.setCell (World.setCell w2 _ _) _ _) _ _) _ _ = w3 at P2 b33 b23 ⊢
  clear hw3 y1 y2 y3 y4 yf
  refine (rd_number P2.1).mono ?_
  rintro e w4 ⟨rfl, h4, hT4⟩
  rw [HG.out] at h4
  simp only at h4
  rw [HG.out]
  have b24 := hT4.box b23 hq2
  have b34 := hT4.box b33 hq3
  have y5 : w4.cell? ⟨w1.heap.size, 5, none⟩ = some (.int .i64 0) := b34.cell 5
  have yf := b34.free 5
  have P4 := rd_done1 h ⟨h4, P2.2.trans hT4⟩ hle1 5 (.int .i64 (G : Int))
  have b35 : BoxAt (w4.setCell ⟨w1.heap.size, 5, none⟩ (.int .i64 (G : Int))) w1.heap.size #[.string X, .string val, .bool dead, .int .i64 at_, .int .i64 fin, .int .i64 (G : Int), .int .i64 0, .slice none 0 0] 66 := b34.set 5 _
  have b25 := b24.other hne23 5 (.int .i64 (G : Int))
  go_wp2_with fail
  generalize hw5 : World.setCell w4 _ _ = w5 at P4 b35 b25 ⊢
  clear hw5 y5 yf
  refine (rd_number P4.1).mono ?_
  rintro e w6 ⟨rfl, h6, hT6⟩
  rw [HH.out] at h6
  simp only at h6
  rw [HH.out]
  have b26 := hT6.box b25 hq2
  have b36 := hT6.box b35 hq3
  have y6 : w6.cell? ⟨w1.heap.size, 6, none⟩ = some (.int .i64 0) := b36.cell 6
  have yf := b36.free 6
  have P6 := rd_done1 h ⟨h6, P4.2.trans hT6⟩ hle1 6 (.int .i64 (H : Int))
  have b37 : BoxAt (w6.setCell ⟨w1.heap.size, 6, none⟩ (.int .i64 (H : Int))) w1.heap.size #[.string X, .string val, .bool dead, .int .i64 at_, .int .i64 fin, .int .i64 (G : Int), .int .i64 (H : Int), .slice none 0 0] 66 := b36.set 6 _
  have b27 := b26.other hne23 6 (.int .i64 (H : Int))
  go_wp2_with fail
  generalize hw7 : World.setCell w6 _ _ = w7 at P6 b37 b27 ⊢
  clear hw7 y6 yf
  refine (rd_cols P6.1).mono ?_
  rintro e w8 ⟨u, rfl, hcol, h8, hT8⟩
  rw [HL.out] at h8 hcol
  simp only at h8 hcol
  have hcol' := hcol
  obtain ⟨ua, uc, rfl⟩ := own_shape hcol'
  have hct : ColsT w8 (.slice ua L.length uc) L := TIn.own hcol
  have b28 := hT8.box b27 hq2
  have b38 := hT8.box b37 hq3
  have y7 : w8.cell? ⟨w1.heap.size, 7, none⟩ = some (.slice none 0 0) := b38.cell 7
  have yf := b38.free 7
  have P8 := rd_done1 h ⟨h8, P6.2.trans hT8⟩ hle1 7 (.slice ua L.length uc)
  have b39 : BoxAt (w8.setCell ⟨w1.heap.size, 7, none⟩ (.slice ua L.length uc)) w1.heap.size #[.string X, .string val, .bool dead, .int .i64 at_, .int .i64 fin, .int .i64 (G : Int), .int .i64 (H : Int), .slice ua L.length uc] 66 := b38.set 7 _
  have b29 := b28.other hne23 7 (.slice ua L.length uc)
  have hct2 := TIn.set 7 (.slice ua L.length uc) b38 (by decide) hct
  generalize hw9 : World.setCell w8 ⟨w1.heap.size, 7, none⟩ (.slice ua L.length uc) = w9 at P8 b39 b29 hct2
  have z0 : w9.cell? ⟨w1.heap.size, 0, none⟩ = some (.string X) := b39.cell 0
  have x0 : w9.cell? ⟨w.heap.size, 0, none⟩ = some (.string ⟨#[]⟩) := b29.cell 0
  have z1 : w9.cell? ⟨w1.heap.size, 1, none⟩ = some (.string val) := b39.cell 1
  have x1 : w9.cell? ⟨w.heap.size, 1, none⟩ = some (.string ⟨#[]⟩) := b29.cell 1
  have z2 : w9.cell? ⟨w1.heap.size, 2, none⟩ = some (.bool dead) := b39.cell 2
  have x2 : w9.cell? ⟨w.heap.size, 2, none⟩ = some (.bool false) := b29.cell 2
  have z3 : w9.cell? ⟨w1.heap.size, 3, none⟩ = some (.int .i64 at_) := b39.cell 3
  have x3 : w9.cell? ⟨w.heap.size, 3, none⟩ = some (.int .i64 0) := b29.cell 3
  have z4 : w9.cell? ⟨w1.heap.size, 4, none⟩ = some (.int .i64 fin) := b39.cell 4
  have x4 : w9.cell? ⟨w.heap.size, 4, none⟩ = some (.int .i64 0) := b29.cell 4
  have z5 : w9.cell? ⟨w1.heap.size, 5, none⟩ = some (.int .i64 (G : Int)) := b39.cell 5
  have x5 : w9.cell? ⟨w.heap.size, 5, none⟩ = some (.int .i64 0) := b29.cell 5
  have z6 : w9.cell? ⟨w1.heap.size, 6, none⟩ = some (.int .i64 (H : Int)) := b39.cell 6
  have x6 : w9.cell? ⟨w.heap.size, 6, none⟩ = some (.int .i64 0) := b29.cell 6
  have z7 : w9.cell? ⟨w1.heap.size, 7, none⟩ = some (.slice ua L.length uc) := b39.cell 7
  have x7 : w9.cell? ⟨w.heap.size, 7, none⟩ = some (.slice none 0 0) := b29.cell 7
  have xf := b29.free
  go_wp2_with fail
  refine bodyPost_ret (v := .agg (ro8 ⟨X, ⟨val, dead, at_, fin⟩, (G : Int), (H : Int), L⟩ (.slice ua L.length uc))) ?_ rfl ⟨_, rfl, (TIn.set 7 (.slice ua L.length uc) (((((((b29.set 0 (.string X)).set 1 (.string val)).set 2 (.bool dead)).set 3 (.int .i64 at_)).set 4 (.int .i64 fin)).set 5 (.int .i64 (G : Int))).set 6 (.int .i64 (H : Int))) (by decide) (TIn.set 6 (.int .i64 (H : Int)) ((((((b29.set 0 (.string X)).set 1 (.string val)).set 2 (.bool dead)).set 3 (.int .i64 at_)).set 4 (.int .i64 fin)).set 5 (.int .i64 (G : Int))) (by decide) (TIn.set 5 (.int .i64 (G : Int)) (((((b29.set 0 (.string X)).set 1 (.string val)).set 2 (.bool dead)).set 3 (.int .i64 at_)).set 4 (.int .i64 fin)) (by decide) (TIn.set 4 (.int .i64 fin) ((((b29.set 0 (.string X)).set 1 (.string val)).set 2 (.bool dead)).set 3 (.int .i64 at_)) (by decide) (TIn.set 3 (.int .i64 at_) (((b29.set 0 (.string X)).set 1 (.string val)).set 2 (.bool dead)) (by decide) (TIn.set 2 (.bool dead) ((b29.set 0 (.string X)).set 1 (.string val)) (by decide) (TIn.set 1 (.string val) (b29.set 0 (.string X)) (by decide) (TIn.set 0 (.string X) b29 (by decide) hct2)))))))), (rd_done1 h (rd_done1 h (rd_done1 h (rd_done1 h (rd_done1 h (rd_done1 h (rd_done1 h (rd_done1 h ⟨P8.1, P8.2⟩ (Nat.le_refl _) 0 (.string X)) (Nat.le_refl _) 1 (.string val)) (Nat.le_refl _) 2 (.bool dead)) (Nat.le_refl _) 3 (.int .i64 at_)) (Nat.le_refl _) 4 (.int .i64 fin)) (Nat.le_refl _) 5 (.int .i64 (G : Int))) (Nat.le_refl _) 6 (.int .i64 (H : Int))) (Nat.le_refl _) 7 (.slice ua L.length uc))⟩
  generalize hW : World.setCell _ _ _ = w99
  have hb : BoxAt w99 w.heap.size (ro8 ⟨X, ⟨val, dead, at_, fin⟩, (G : Int), (H : Int), L⟩ (.slice ua L.length uc)) 66 := by rw [← hW]; exact ((((((((b29.set 0 (.string X)).set 1 (.string val)).set 2 (.bool dead)).set 3 (.int .i64 at_)).set 4 (.int .i64 fin)).set 5 (.int .i64 (G : Int))).set 6 (.int .i64 (H : Int))).set 7 (.slice ua L.length uc))
  obtain ⟨z0, z1, z2, z3, z4, z5, z6, z7⟩ := hb.ro
  simp [results, Tryz.results200, go_sem, z0, z1, z2, z3, z4, z5, z6, z7]
  rfl
end Go.Proofs.YtimbikbbbfpeeaaGreatDoor
