/- wire's pieces: get of numbers, of texts. -/
import Derived.Test.YtfagnbofnaoncaaGreatDoorP16
import Derived.Test.YtfagnbofnaoncaaGreatDoorP10
import Derived.Deep.RegionLaw
import Derived.Deep.AppendLies
import Derived.Test.YtfagnbofnaoncaaGreatDoorP12
import Derived.Test.YtfagnbofnaoncaaGreatDoorP17
import Derived.Test.YtfagnbofnaoncaaGreatDoorP1
set_option linter.unusedSimpArgs false
set_option linter.unusedVariables false
namespace Go.Proofs.YtfagnbofnaoncaaGreatDoor
open Go Go.RowKit
attribute [local go_sem] yields yUpon

theorem info_strW : (Tryz.prog.info? 9).map (fun i => (i.zero, i.size, i.bytes)) = some (some (.string ⟨#[]⟩), 1, 16) := by kernel_rfl
theorem und_strsW : Tryz.prog.underlying 23 = some (.slice 9) := by kernel_rfl
/-- All blocks but two stay. -/
structure Touch2 (w a : World) (q p : Nat) : Prop where
  os : a.os = w.os
  tape : a.tape = w.tape
  output : a.output = w.output
  size : w.heap.size ≤ a.heap.size
  block : ∀ k, k < w.heap.size → k ≠ q → k ≠ p → a.heap[k]? = w.heap[k]?
section
variable {w a b : World} {q p : Nat}
theorem Touch2.refl (w : World) (q p : Nat) : Touch2 w w q p := ⟨rfl, rfl, rfl, Nat.le_refl _, fun _ _ _ _ => rfl⟩
theorem Touch2.more (h : Touch2 w a q p) (hE : Ext a b) : Touch2 w b q p := ⟨hE.os.trans h.os, hE.tape.trans h.tape, hE.output.trans h.output, Nat.le_trans h.size hE.size, fun k hk h1 h2 => (hE.block k (Nat.lt_of_lt_of_le hk h.size)).trans (h.block k hk h1 h2)⟩
theorem Touch2.turn (h : Touch2 w a q p) (hT : Touch9 a b q) : Touch2 w b q p := ⟨hT.os.trans h.os, hT.tape.trans h.tape, hT.output.trans h.output, Nat.le_trans h.size hT.size, fun k hk h1 h2 => (hT.block k (Nat.lt_of_lt_of_le hk h.size) h1).trans (h.block k hk h1 h2)⟩
theorem Touch2.side {z : Nat} (h : Touch2 w a q p) (hT : Touch9 a b z) (hz : w.heap.size ≤ z) : Touch2 w b q p := ⟨hT.os.trans h.os, hT.tape.trans h.tape, hT.output.trans h.output, Nat.le_trans h.size hT.size, fun k hk h1 h2 => (hT.block k (Nat.lt_of_lt_of_le hk h.size) (by omega)).trans (h.block k hk h1 h2)⟩
theorem Touch2.put (h : Touch2 w a q p) (i : Nat) (u : Value) : Touch2 w (a.setCell ⟨p, i, none⟩ u) q p := ⟨h.os, h.tape, h.output, by rw [Deep.nblk_setCell]; exact h.size, fun k hk h1 h2 => (heap_setCell_other _ _ _ _ h2).trans (h.block k hk h1 h2)⟩
theorem Touch2.grown {r : Option Nat} (h : Touch2 w a q p) (hg : a.grownBy b r) (hr : ∀ k, r = some k → w.heap.size ≤ k) : Touch2 w b q p := ⟨hg.os.trans h.os, hg.tape.trans h.tape, hg.output.trans h.output, Nat.le_trans h.size hg.size, fun k hk h1 h2 => (hg.block k (Nat.lt_of_lt_of_le hk h.size) (fun e => by have := hr k e.symm; omega)).trans (h.block k hk h1 h2)⟩
theorem Touch2.box {c : Nat} {cs : Array Value} {e : TypeId} (h : Touch2 w a q p) (hb : BoxAt w c cs e) (h1 : c ≠ q) (h2 : c ≠ p) : BoxAt a c cs e := by
  have hl := hb.lt
  unfold BoxAt at *
  rw [h.block c hl h1 h2]
  exact hb
theorem Touch2.ext {w0 : World} (h : Touch2 w a q p) (hE : Ext w0 w) (hq : w0.heap.size ≤ q) (hp : w0.heap.size ≤ p) : Ext w0 a := ⟨h.os.trans hE.os, h.tape.trans hE.tape, h.output.trans hE.output, Nat.le_trans hE.size h.size, fun k hk => (h.block k (Nat.lt_of_lt_of_le hk hE.size) (by omega) (by omega)).trans (hE.block k hk)⟩
end
/-- A message that is read, and its reader. -/
structure MsgAt (w0 w : World) (q p : Nat) (v : Value) (B : List UInt8) (s : Nat × Int) (m : Hd) (vm vk : Value) (ms : List Mt) (ks : List ByteArray) : Prop where
  rd : WdAt w q v B s
  box : BoxAt w p (hd7 m vm vk) 25
  ne : q ≠ p
  mt : TIn w 106 vm ms.length (mtCells ms)
  rows : ∀ m ∈ ms, RowsT w m.pa.rv m.pa.ps
  ks : TIn w 9 vk ks.length (ks.map .string)
  ext : Touch2 w0 w q p
section
variable {w0 w w' : World} {q p : Nat} {v : Value} {B : List UInt8} {s s' : Nat × Int} {m : Hd} {vm vk : Value} {ms : List Mt} {ks : List ByteArray}
theorem MsgAt.more (h : MsgAt w0 w q p v B s m vm vk ms ks) (hE : Ext w w') : MsgAt w0 w' q p v B s m vm vk ms ks :=
  ⟨h.rd.ext hE, h.box.ext hE, h.ne, h.mt.ext hE, fun m hm => (h.rows m hm).ext hE, h.ks.ext hE, h.ext.more hE⟩
/-- The reader has turned. -/
theorem MsgAt.turn (h : MsgAt w0 w q p v B s m vm vk ms ks) (hT : Touch9 w w' q) (h1 : WdAt w' q v B s') : MsgAt w0 w' q p v B s' m vm vk ms ks :=
  ⟨h1, hT.box h.box h.ne.symm, h.ne, h.mt.touch9 hT h.rd.box (by decide), fun m hm => (h.rows m hm).touch9 hT h.rd.box (by decide) (by decide), h.ks.touch9 hT h.rd.box (by decide), h.ext.turn hT⟩
/-- A cell of the message is stored. -/
theorem MsgAt.put (h : MsgAt w0 w q p v B s m vm vk ms ks) (i : Nat) (u : Value) {m' : Hd} {vm' vk' : Value} {ms' : List Mt} {ks' : List ByteArray} (hbx : BoxAt (w.setCell ⟨p, i, none⟩ u) p (hd7 m' vm' vk') 25) (hmt : TIn w 106 vm' ms'.length (mtCells ms')) (hrw : ∀ m ∈ ms', RowsT w m.pa.rv m.pa.ps) (hks : TIn w 9 vk' ks'.length (ks'.map .string)) (hv : ∀ b o k c, v = .slice (some ⟨b, o, none⟩) k c → b ≠ p) : MsgAt w0 (w.setCell ⟨p, i, none⟩ u) q p v B s m' vm' vk' ms' ks' :=
  ⟨⟨h.rd.box.other h.ne i u, slice_off h.rd.bytes hv, h.rd.off, h.rd.le, h.rd.big⟩, hbx, h.ne, TIn.set i u h.box (by decide) hmt, fun m hm => RowsT.set i u h.box (by decide) (by decide) (hrw m hm), TIn.set i u h.box (by decide) hks, h.ext.put i u⟩
end

theorem MsgAt.mk2 {w0 w : World} {q p : Nat} {v : Value} {B : List UInt8} {s : Nat × Int} {m : Hd} {vm vk : Value} {ms : List Mt} {ks : List ByteArray} {cs : Array Value} (rd : WdAt w q v B s) (ne : q ≠ p) (ext : Touch2 w0 w q p) (hb : BoxAt w p cs 25) (i : Nat) (u : Value) (hbx : cs.setIfInBounds i u = hd7 m vm vk) (hmt : TIn w 106 vm ms.length (mtCells ms)) (hrw : ∀ m ∈ ms, RowsT w m.pa.rv m.pa.ps) (hks : TIn w 9 vk ks.length (ks.map .string)) (hv : ∀ b o k c, v = .slice (some ⟨b, o, none⟩) k c → b ≠ p) : MsgAt w0 (w.setCell ⟨p, i, none⟩ u) q p v B s m vm vk ms ks :=
  ⟨⟨rd.box.other ne i u, slice_off rd.bytes hv, rd.off, rd.le, rd.big⟩, by rw [← hbx]; exact hb.set i u, ne, TIn.set i u hb (by decide) hmt, fun m hm => RowsT.set i u hb (by decide) (by decide) (hrw m hm), TIn.set i u hb (by decide) hks, ext.put i u⟩
theorem SliceIn.far {w x y : World} {v : Value} {n : Nat} {xs : List Value} {row : Option Nat} (h0 : SliceIn w v n xs) (hx : SliceIn x v n xs) (hg : x.grownBy y row) (hlt : ∀ k, row = some k → w.heap.size ≤ k) : SliceIn y v n xs := by
  obtain ⟨ad, c, rfl, hc, hcm, ha, hcell⟩ := hx
  refine ⟨ad, c, rfl, hc, hcm, ha, fun j u hj => ?_⟩
  obtain ⟨b, o, rfl, hu⟩ := hcell j u hj
  obtain ⟨ad', c', e', _, _, _, hcell'⟩ := h0
  cases e'
  obtain ⟨b', o', e'', hu'⟩ := hcell' j u hj
  cases e''
  have hl : b < w.heap.size := World.block_lt_of_cell? w _ hu'
  have hl2 : b < x.heap.size := World.block_lt_of_cell? x _ hu
  refine ⟨b, o, rfl, ?_⟩
  rw [World.cell?_of_block (w := x) (hg.block b hl2 (fun e => by have := hlt b e.symm; omega))]
  exact hu
theorem WdAt.far {w x y : World} {q : Nat} {v : Value} {B : List UInt8} {s : Nat × Int} {row : Option Nat} (h : WdAt x q v B s) (hb : BytesIn w v B) (hg : x.grownBy y row) (hlt : ∀ k, row = some k → w.heap.size ≤ k) (hq : q < w.heap.size) : WdAt y q v B s :=
  ⟨h.box.grown hg (fun e => by have := hlt q e.symm; omega), SliceIn.far hb h.bytes hg hlt, h.off, h.le, h.big⟩

set_option maxRecDepth 100000 in
set_option maxHeartbeats 4000000 in
theorem wd_numget {w0 w : World} {q p : Nat} {v : Value} {B : List UInt8} {s : Nat × Int} {m : Hd} {vm vk : Value} {ms : List Mt} {ks : List ByteArray} (i : Nat) (x : Int) (m' : Hd) (hi : (hd7 m vm vk)[i]? = some (.int .i64 x)) (hm' : (hd7 m vm vk).setIfInBounds i (.int .i64 ((numR B s).1 : Int)) = hd7 m' vm vk) (hv : ∀ b o k c, v = .slice (some ⟨b, o, none⟩) k c → b ≠ p) (h : MsgAt w0 w q p v B s m vm vk ms ks) :
    Calls Tryz.prog 211 #[.agg #[.pointer (some ⟨p, i, none⟩)], .pointer (some ⟨q, 0, none⟩)] w fun e w' => e = .returned (.tuple #[]) ∧ MsgAt w0 w' q p v B (numR B s).2 m' vm vk ms ks := by
  have hE0 := (Ext.refl w).alloc (.cells #[.pointer (some ⟨p, i, none⟩)] 145)
  have b0 := BoxAt.made w #[.pointer (some ⟨p, i, none⟩)] 145
  have h0 := h.more hE0
  have hq2 : w.heap.size ≠ q := by have := h.rd.lt; omega
  obtain ⟨X, s1, hX⟩ : ∃ X s1, numR B s = (X, s1) := ⟨_, _, rfl⟩
  rw [hX] at hm'
  rw [hX]
  simp only at hm' ⊢
  have HX := Lib.hid hX
  have HM := Lib.hid hm'
  have HI := Lib.hid hi
  clear hX hm' hi
  go_enter Tryz.func211, Tryz.ntmps211
  go_wp2_with fail
  have hd := h0.more (Ext.refl _).drew
  have bd := b0.ext (Ext.refl _).drew
  generalize World.alloc w _ = w1 at h0 hd bd ⊢
  have y0 : w1.drew.cell? ⟨w.heap.size, 0, none⟩ = some (.pointer (some ⟨p, i, none⟩)) := bd.cell 0
  clear h0 b0 hE0
  go_region_law (go_simp; go_at_call 213; go_must (refine (wd_number hd.rd).mono ?_); rintro e' w2 ⟨rfl, h2, hT2⟩; rw [HX.out] at h2; simp only at h2; rw [HX.out]; have b2 := hT2.box bd hq2; have M2 := hd.turn hT2 h2; have y0 : w2.cell? ⟨w.heap.size, 0, none⟩ = some (.pointer (some ⟨p, i, none⟩)) := b2.cell 0; have x1 : w2.cell? ⟨p, i, none⟩ = some (.int .i64 x) := (by rw [M2.box.cell i]; exact HI.out); have xf := M2.box.free i)
  all_goals
    go_wp2_with fail
    go_end0
    refine ⟨rfl, M2.put i _ ?_ M2.mt M2.rows M2.ks hv⟩
    have := M2.box.set i (.int .i64 (X : Int))
    rw [HM.out] at this
    exact this

set_option maxRecDepth 100000 in
set_option maxHeartbeats 8000000 in
theorem wd_textsget {w0 w : World} {q p : Nat} {v : Value} {B : List UInt8} {s : Nat × Int} {m : Hd} {vm : Value} {ms : List Mt} (hv : ∀ b o k c, v = .slice (some ⟨b, o, none⟩) k c → b ≠ p) (h : MsgAt w0 w q p v B s m vm (.slice none 0 0) ms []) :
    Calls Tryz.prog 244 #[.agg #[.pointer (some ⟨p, 5, none⟩)], .pointer (some ⟨q, 0, none⟩)] w fun e w' => e = .returned (.tuple #[]) ∧ ∃ vk, MsgAt w0 w' q p v B (listR B (txtR B) s).2 m vm vk ms (listR B (txtR B) s).1 := by
  have hE0 := (Ext.refl w).alloc (.cells #[.pointer (some ⟨p, 5, none⟩)] 151)
  have b0 := BoxAt.made w #[.pointer (some ⟨p, 5, none⟩)] 151
  have h0 := h.more hE0
  have hq2 : w.heap.size ≠ q := by have := h.rd.lt; omega
  have hp2 : w.heap.size ≠ p := by have := h.box.lt; omega
  have hpl : p < w.heap.size := h.box.lt
  have hql : q < w.heap.size := h.rd.lt
  obtain ⟨N, s1, hN⟩ : ∃ N s1, cntR B s = (N, s1) := ⟨_, _, rfl⟩
  obtain ⟨R, hR⟩ : ∃ R, R = manyR (txtR B) N s1 := ⟨_, rfl⟩
  have hL : listR B (txtR B) s = R := by unfold listR; rw [hN, hR]
  rw [hL]
  have hbn := cntR_big (B := B) (s := s) h.rd.le h.rd.big
  rw [hN] at hbn
  simp only at hbn
  have HN := Lib.hid hN
  have HR := Lib.hid hR
  clear hR hL hN
  go_enter Tryz.func244, Tryz.ntmps244
  go_wp2_with fail
  refine (wd_count h0.rd).mono ?_
  rintro e w1 ⟨rfl, h1, hT1⟩
  rw [HN.out] at h1
  simp only at h1
  rw [HN.out]
  have M1 := h0.turn hT1 h1
  have b1 := hT1.box b0 hq2
  have hsz1 : w.heap.size + 1 ≤ w1.heap.size := by have := hT1.size; simp at this; omega
  obtain ⟨bx, hbx⟩ : ∃ bx, bx = w.heap.size := ⟨_, rfl⟩
  rw [← hbx] at b1 hsz1 hq2 hp2 hpl hql ⊢
  have hB0 := h.rd.bytes
  have hw0 := h.ext.size
  have hwb : w.heap.size = bx := hbx.symm
  clear h0 b0 hE0 h h1 hT1 hbx HN
  simp only
  go_wp2_with fail
  go_loopw [4] (fun n wr => ∃ (kk : Nat) (D : List ByteArray) (vo : Value) (t : Nat × Int), n = .int .i64 (kk : Int) ∧ D.length + kk ≤ N ∧ MsgAt w0 wr q p v B t m vm vo ms D ∧ BoxAt wr bx #[.pointer (some ⟨p, 5, none⟩)] 151 ∧ wr.ownsRow (bx + 1) 9 1 vo D.length (D.map .string) ∧ bx + 1 ≤ wr.heap.size ∧ Hid (R = (D ++ (manyR (txtR B) kk t).1, (manyR (txtR B) kk t).2))) (fun n _ => (intOf n).toNat)
  case atStart => exact ⟨N, [], _, s1, rfl, by simp, M1, b1, World.ownsRow_nil _ _ _ _, hsz1, HR⟩
  case round =>
    clear M1 b1 hsz1 HR
    obtain ⟨kk, D, vo, ⟨i, e⟩, rfl, hDk, M, bo, hown, hsz, HX⟩ := hrel
    obtain ⟨ua, uc, rfl⟩ := own_shape (id hown)
    have c2 : wr.cell? ⟨q, 2, none⟩ = some (.int .i64 e) := M.rd.c2
    by_cases hgo : 0 < kk ∧ e = 0
    · obtain ⟨hk0, rfl⟩ := hgo
      obtain ⟨kk, rfl⟩ : ∃ k', kk = k' + 1 := ⟨kk - 1, by omega⟩
      obtain ⟨T, t2, hT⟩ : ∃ T t2, txtR B (i, 0) = (T, t2) := ⟨_, _, rfl⟩
      have HT := Lib.hid hT
      clear hT
      have hM2 := M.more (Ext.refl wr).drew
      have hb2 := bo.ext (Ext.refl wr).drew
      have hown2 := ownsRow_ext hown (Ext.refl wr).drew
      have hszd : bx + 1 ≤ wr.drew.heap.size := Nat.le_trans hsz (Ext.refl wr).drew.le
      have y0 : wr.drew.cell? ⟨bx, 0, none⟩ = some (.pointer (some ⟨p, 5, none⟩)) := hb2.cell 0
      have y5 : wr.drew.cell? ⟨p, 5, none⟩ = some (.slice ua D.length uc) := hM2.box.cell 5
      have t1 : decide ((0 : Int) < ((kk + 1 : Nat) : Int)) = true := decide_eq_true (by omega)
      clear M bo hown hsz
      obtain ⟨i0, hi, hz0, hz1, hz2⟩ := info_parts info_strW
      go_wp2_with fail
      go_region_law (first
        | (go_simp; go_at_call 219; go_must (refine (wd_text hM2.rd).mono ?_); rintro e' w5 ⟨rfl, h5, hT5⟩; rw [HT.out] at h5; simp only at h5; rw [HT.out]; have M5 := hM2.turn hT5 h5; have b5 := hT5.box hb2 hq2; have hown5 := hT5.owns hown2 (by omega); have hsz5 := Nat.le_trans hszd hT5.size; have y0 : w5.cell? ⟨bx, 0, none⟩ = some (.pointer (some ⟨p, 5, none⟩)) := b5.cell 0; have y5 : w5.cell? ⟨p, 5, none⟩ = some (.slice ua D.length uc) := M5.box.cell 5; have y0a : ∀ o, (w5.alloc o).cell? ⟨bx, 0, none⟩ = some (.pointer (some ⟨p, 5, none⟩)) := fun o => b5.allocs o 0; have y5a : ∀ o, (w5.alloc o).cell? ⟨p, 5, none⟩ = some (.slice ua D.length uc) := fun o => M5.box.allocs o 5)
        | (refine step_append_lies (w5.alloc (.cells #[.string T] 9)) rfl (.tmp 23) (.tmp 26) 23 rfl (bx + 1) 9 i0 _ 1 16 und_strsW hi hz0 hz1 hz2 rfl (by decide) (.slice ua D.length uc) D.length (D.map .string) (by simp [Act.eval, Act.put]) (hown5.alloc _) ⟨w5.heap.size, 0, none⟩ 1 1 [.string T] (by simp [Act.eval, Act.put]) rfl (fun j u hj => by rw [Addr.add_lit, Nat.zero_add, (BoxAt.made w5 #[.string T] 9).cell j]; simpa using hj) (by simp [Value.oneCell']) (by omega) (by unfold maxLen; omega) (by omega) (by simp; omega) _ rfl ?_; intro g6 n6 w6 hown6 hg6 _ _; have b6 := (b5.ext ((Ext.refl w5).alloc _)).grown hg6 (fun e => by have := (hown5.lt _ e.symm).1; omega); have y0 : w6.cell? ⟨bx, 0, none⟩ = some (.pointer (some ⟨p, 5, none⟩)) := b6.cell 0; have m6 := (M5.box.ext ((Ext.refl w5).alloc _)).grown hg6 (fun e => by have := (hown5.lt _ e.symm).1; omega); have y5 : w6.cell? ⟨p, 5, none⟩ = some (.slice ua D.length uc) := m6.cell 5; have f5 := m6.free 5))
      all_goals
        have hE5 := (Ext.refl w5).alloc (.cells #[.string T] 9)
        have hlow : ∀ k, (Value.slice ua D.length uc).ownBlock = some k → w.heap.size ≤ k := fun k hk => by have := (hown5.lt k hk).1; omega
        have r6 := (h5.ext hE5).far hB0 hg6 hlow (by omega)
        have X6 := (M5.ext.more hE5).grown hg6 (fun k hk => Nat.le_trans hw0 (hlow k hk))
        have mt6 := TIn.keepOwn (ownsRow_ext hown5 hE5) hg6 (by decide) (M5.mt.ext hE5)
        have rw6 : ∀ m ∈ ms, RowsT w6 m.pa.rv m.pa.ps := fun m hm => RowsT.keepOwn (ownsRow_ext hown5 hE5) hg6 (by decide) (by decide) ((M5.rows m hm).ext hE5)
        have hown7 : w6.ownsRow (bx + 1) 9 1 (.slice (some ⟨g6, 0, none⟩) (D.length + 1) n6) (D ++ [T]).length ((D ++ [T]).map .string) := by
          rw [List.length_append, List.map_append]; exact hown6
        have M6 := MsgAt.mk2 r6 M5.ne X6 m6 5 (.slice (some ⟨g6, 0, none⟩) (D.length + 1) n6) (m := m) (vm := vm) (vk := .slice (some ⟨g6, 0, none⟩) (D.length + 1) n6) (by simp [hd7]) mt6 rw6 (TIn.own hown7) hv
        have HX2 : Hid (R = (D ++ [T] ++ (manyR (txtR B) kk t2).1, (manyR (txtR B) kk t2).2)) := Lib.hid (by
          rw [HX.out, manyR_step _ _ _ rfl, HT.out]
          simp only [List.append_assoc, List.singleton_append])
        have hsz6 : bx + 1 ≤ w6.heap.size := Nat.le_trans hsz5 (Nat.le_trans hE5.le hg6.size)
        go_wp2_with fail
        go_roundw
        case rel => exact ⟨kk, D ++ [T], _, t2, by go_num, by simp; omega, M6, b6.other (by omega) 5 _, ownsRow_setCell_below hown7 (a := ⟨p, 5, none⟩) (by show p < bx + 1; omega) _, by simpa [Deep.nblk_setCell] using hsz6, HX2⟩
        case measure => simp [intOf] <;> omega
    · have e0 : Hid (R = (D, (i, e))) := Lib.hid (by
        rw [HX.out, manyR_stop _ _ _ (by
          rcases Nat.eq_zero_or_pos kk with h1 | h1
          · exact .inl h1
          · exact .inr (fun he => hgo ⟨h1, he⟩))]
        simp only [List.append_nil])
      have hkk2 : (0 < kk ∧ ¬ e = 0) ∨ kk = 0 := by
        rcases Nat.eq_zero_or_pos kk with h1 | h1
        · exact .inr h1
        · exact .inl ⟨h1, fun he => hgo ⟨h1, he⟩⟩
      have FIN : Hid (∃ vk, MsgAt w0 wr q p v B R.2 m vm vk ms R.1) := Lib.hid ⟨_, by rw [e0.out]; exact M⟩
      rcases hkk2 with ⟨h1, h2⟩ | h1
      · have d0 : (e == 0) = false := by simpa using h2
        have t1 : decide ((0 : Int) < (kk : Int)) = true := decide_eq_true (by omega)
        go_wp2_with fail
        go_end0
        exact ⟨rfl, FIN.out⟩
      · subst h1
        go_wp2_with fail
        go_end0
        exact ⟨rfl, FIN.out⟩
end Go.Proofs.YtfagnbofnaoncaaGreatDoor

/- A row of one's own stays while another block turns. -/
namespace Go.Proofs.YtfagnbofnaoncaaGreatDoor
open Go Go.RowKit

theorem Touch9.owns2 {w a : World} {q : Nat} (h : Touch9 w a q) {B : Nat} {e : TypeId} {size : Nat} {v : Value} {n : Nat} {xs : List Value} (ho : w.ownsRow B e size v n xs) (hne : v.ownBlock = none ∨ v.ownBlock ≠ some q) : a.ownsRow B e size v n xs := by
  obtain ⟨h1, h2⟩ := ho
  refine ⟨h1, h2.imp id ?_⟩
  rintro ⟨g, cap, cur, rfl, h3, h4, h5⟩
  have hg : g ≠ q := by
    rintro rfl
    rcases hne with h | h
    · cases h
    · exact h rfl
  exact ⟨g, cap, cur, rfl, h3, by rw [h.block g (Array.getElem?_eq_some_iff.1 h4).1 hg]; exact h4, h5⟩
end Go.Proofs.YtfagnbofnaoncaaGreatDoor

/- wire's pieces: get of mutations. -/
namespace Go.Proofs.YtfagnbofnaoncaaGreatDoor
open Go Go.RowKit
attribute [local go_sem] yields yUpon

theorem SliceIn.farT {w x y : World} {v : Value} {n : Nat} {xs : List Value} {z : Nat} (h0 : SliceIn w v n xs) (hx : SliceIn x v n xs) (hT : Touch9 x y z) (hz : w.heap.size ≤ z) : SliceIn y v n xs := by
  obtain ⟨ad, c, rfl, hc, hcm, ha, hcell⟩ := hx
  refine ⟨ad, c, rfl, hc, hcm, ha, fun j u hj => ?_⟩
  obtain ⟨b, o, rfl, hu⟩ := hcell j u hj
  obtain ⟨ad', c', e', _, _, _, hcell'⟩ := h0
  cases e'
  obtain ⟨b', o', e'', hu'⟩ := hcell' j u hj
  cases e''
  have hl : b < w.heap.size := World.block_lt_of_cell? w _ hu'
  have hl2 : b < x.heap.size := World.block_lt_of_cell? x _ hu
  refine ⟨b, o, rfl, ?_⟩
  rw [World.cell?_of_block (w := x) (hT.block b hl2 (by omega))]
  exact hu
theorem WdAt.farT {w x y : World} {q z : Nat} {v : Value} {B : List UInt8} {s : Nat × Int} (h : WdAt x q v B s) (hb : BytesIn w v B) (hT : Touch9 x y z) (hz : w.heap.size ≤ z) (hq : q < w.heap.size) : WdAt y q v B s :=
  ⟨hT.box h.box (by omega), SliceIn.farT hb h.bytes hT hz, h.off, h.le, h.big⟩

set_option maxRecDepth 100000 in
set_option maxHeartbeats 16000000 in
theorem wd_mutsget {w0 w : World} {q p : Nat} {v : Value} {B : List UInt8} {s : Nat × Int} {m : Hd} {vk : Value} {ks : List ByteArray} (hv : ∀ b o k c, v = .slice (some ⟨b, o, none⟩) k c → b ≠ p) (h : MsgAt w0 w q p v B s m (.slice none 0 0) vk [] ks) :
    Calls Tryz.prog 217 #[.agg #[.pointer (some ⟨p, 4, none⟩)], .pointer (some ⟨q, 0, none⟩)] w fun e w' => e = .returned (.tuple #[]) ∧ ∃ vm ms, MsgAt w0 w' q p v B (listR B (mutW B) s).2 m vm vk ms ks ∧ ms.map Mt.q = (listR B (mutW B) s).1 := by
  have hE0 := (Ext.refl w).alloc (.cells #[.pointer (some ⟨p, 4, none⟩)] 148)
  have b0 := BoxAt.made w #[.pointer (some ⟨p, 4, none⟩)] 148
  have h0 := h.more hE0
  have hq2 : w.heap.size ≠ q := by have := h.rd.lt; omega
  have hp2 : w.heap.size ≠ p := by have := h.box.lt; omega
  have hpl : p < w.heap.size := h.box.lt
  have hql : q < w.heap.size := h.rd.lt
  obtain ⟨N, s1, hN⟩ : ∃ N s1, cntR B s = (N, s1) := ⟨_, _, rfl⟩
  obtain ⟨R, hR⟩ : ∃ R, R = manyR (mutW B) N s1 := ⟨_, rfl⟩
  have hL : listR B (mutW B) s = R := by unfold listR; rw [hN, hR]
  rw [hL]
  have hbn := cntR_big (B := B) (s := s) h.rd.le h.rd.big
  rw [hN] at hbn
  simp only at hbn
  have HN := Lib.hid hN
  have HR := Lib.hid hR
  clear hR hL hN
  go_enter Tryz.func217, Tryz.ntmps217
  go_wp2_with fail
  refine (wd_count h0.rd).mono ?_
  rintro e w1 ⟨rfl, h1, hT1⟩
  rw [HN.out] at h1
  simp only at h1
  rw [HN.out]
  have M1 := h0.turn hT1 h1
  have b1 := hT1.box b0 hq2
  have hsz1 : w.heap.size + 1 ≤ w1.heap.size := by have := hT1.size; simp at this; omega
  obtain ⟨bx, hbx⟩ : ∃ bx, bx = w.heap.size := ⟨_, rfl⟩
  rw [← hbx] at b1 hsz1 hq2 hp2 hpl hql ⊢
  have hB0 := h.rd.bytes
  have hw0 := h.ext.size
  have hwb : w.heap.size = bx := hbx.symm
  clear h0 b0 hE0 h h1 hT1 hbx HN
  simp only
  go_wp2_with fail
  go_loopw [4] (fun n wr => ∃ (kk : Nat) (D : List Mt) (vo : Value) (t : Nat × Int), n = .int .i64 (kk : Int) ∧ D.length + kk ≤ N ∧ MsgAt w0 wr q p v B t m vo vk D ks ∧ BoxAt wr bx #[.pointer (some ⟨p, 4, none⟩)] 148 ∧ wr.ownsRow (bx + 1) 106 4 vo D.length (mtCells D) ∧ bx + 1 ≤ wr.heap.size ∧ Hid (R = (D.map Mt.q ++ (manyR (mutW B) kk t).1, (manyR (mutW B) kk t).2))) (fun n _ => (intOf n).toNat)
  case atStart => exact ⟨N, [], _, s1, rfl, by simp, M1, b1, World.ownsRow_nil _ _ _ _, hsz1, HR⟩
  case round =>
    clear M1 b1 hsz1 HR
    obtain ⟨kk, D, vo, ⟨i, e⟩, rfl, hDk, M, bo, hown, hsz, HX⟩ := hrel
    obtain ⟨ua, uc, rfl⟩ := own_shape (id hown)
    have c2 : wr.cell? ⟨q, 2, none⟩ = some (.int .i64 e) := M.rd.c2
    by_cases hgo : 0 < kk ∧ e = 0
    · obtain ⟨hk0, rfl⟩ := hgo
      obtain ⟨kk, rfl⟩ : ∃ k', kk = k' + 1 := ⟨kk - 1, by omega⟩
      obtain ⟨T, t2, hT⟩ : ∃ T t2, txtR B (i, 0) = (T, t2) := ⟨_, _, rfl⟩
      obtain ⟨⟨key, gone, rows⟩, t3, hP⟩ : ∃ P t3, parW B t2 = (P, t3) := ⟨_, _, rfl⟩
      have HMW : Hid (mutW B (i, 0) = (⟨T, ⟨key, gone, rows⟩⟩, t3)) := Lib.hid (by unfold mutW; rw [hT]; simp only; rw [hP])
      have HT := Lib.hid hT
      have HP := Lib.hid hP
      clear hT hP
      have t1 : decide ((0 : Int) < ((kk + 1 : Nat) : Int)) = true := decide_eq_true (by omega)
      go_upto_region 5 with (go_at_call 219; go_must (refine (wd_text M.rd).mono ?_); rintro e' w2 ⟨rfl, h2, hT2⟩; rw [HT.out] at h2; simp only at h2; rw [HT.out])
      have M2 := M.turn hT2 h2
      have bo2 := hT2.box bo hq2
      have hown2 := hT2.owns hown (by omega)
      have hsz2 := Nat.le_trans hsz hT2.size
      have hEa := (Ext.refl w2).alloc (.cells #[.string T, .string ⟨#[]⟩, .int .i64 0, .slice none 0 0] 106)
      have b3 := BoxAt.made w2 #[.string T, .string ⟨#[]⟩, .int .i64 0, .slice none 0 0] 106
      have M3 := M2.more hEa
      have bo3 := bo2.ext hEa
      have hown3 := ownsRow_ext hown2 hEa
      have hsz3 := Nat.le_trans hsz2 hEa.le
      have hg3 : (Value.slice ua D.length uc).ownBlock ≠ some w2.heap.size := fun e => by have := (hown2.lt _ e).2; omega
      obtain ⟨z, hz⟩ : ∃ z, z = w2.heap.size := ⟨_, rfl⟩
      rw [← hz] at b3 hg3 ⊢
      have hzb : bx + 1 ≤ z := by omega
      clear hz M2 bo2 hown2 hsz2 M bo hown hsz c2 h2 hT2
      generalize World.alloc w2 _ = w3 at hEa b3 M3 bo3 hown3 hsz3 ⊢
      clear hEa
      go_wp2_with fail
      refine (wd_part M3.rd).mono ?_
      rintro e' w4 ⟨v4, ps, rfl, hr4, hm4, h4, hT4⟩
      rw [HP.out] at h4 hm4
      simp only at h4 hm4
      rw [HP.out]
      obtain ⟨va, vc, rfl⟩ := hr4.shape
      have HM4 := Lib.hid hm4
      have M4 := M3.turn hT4 h4
      have bo4 := hT4.box bo3 hq2
      have hown4 := hT4.owns hown3 (by omega)
      have hsz4 := Nat.le_trans hsz3 hT4.size
      have b4 := hT4.box b3 (by omega)
      clear hm4 M3 bo3 hown3 hsz3 b3 h4 hT4
      unfold pa3
      simp only
      have f4 := b4.free
      have y1 : w4.cell? ⟨z, 1, none⟩ = some (.string ⟨#[]⟩) := b4.cell 1
      have y2 : w4.cell? ⟨z, 2, none⟩ = some (.int .i64 0) := b4.cell 2
      have y3 : w4.cell? ⟨z, 3, none⟩ = some (.slice none 0 0) := b4.cell 3
      have b5 := ((b4.set 1 (.string key)).set 2 (.int .i64 gone)).set 3 (.slice va ps.length vc)
      have hT5 : Touch9 w4 (((w4.setCell ⟨z, 1, none⟩ (.string key)).setCell ⟨z, 2, none⟩ (.int .i64 gone)).setCell ⟨z, 3, none⟩ (.slice va ps.length vc)) z := ((Touch9.set w4 1 _).put 2 _).put 3 _
      have r5 := M4.rd.farT hB0 hT5 (by omega) (by omega)
      have m5 := hT5.box M4.box (by omega)
      have rw5 : ∀ m ∈ D, RowsT (((w4.setCell ⟨z, 1, none⟩ (.string key)).setCell ⟨z, 2, none⟩ (.int .i64 gone)).setCell ⟨z, 3, none⟩ (.slice va ps.length vc)) m.pa.rv m.pa.ps := fun m hm => (M4.rows m hm).touch9 hT5 b4 (by decide) (by decide)
      have hr5 := RowsT.touch9 hT5 b4 (by decide) (by decide) hr4
      have ks5 := TIn.touch9 hT5 b4 (by decide) M4.ks
      have X5 := M4.ext.side hT5 (by omega)
      have bo5 := hT5.box bo4 (by omega)
      have hown5 := hT5.owns2 hown4 (.inr hg3)
      have hsz5 := Nat.le_trans hsz4 hT5.size
      replace b5 : BoxAt (((w4.setCell ⟨z, 1, none⟩ (.string key)).setCell ⟨z, 2, none⟩ (.int .i64 gone)).setCell ⟨z, 3, none⟩ (.slice va ps.length vc)) z #[.string T, .string key, .int .i64 gone, .slice va ps.length vc] 106 := b5
      have hne := M4.ne
      go_upto_region 6 with fail
      generalize World.setCell (World.setCell (World.setCell w4 _ _) _ _) _ _ = w5 at b5 r5 m5 rw5 hr5 ks5 X5 bo5 hown5 hsz5 ⊢
      clear M4 bo4 hown4 hsz4 b4 hr4 hT5 f4 y1 y2 y3
      have y0b : ∀ o, (w5.alloc o).cell? ⟨bx, 0, none⟩ = some (.pointer (some ⟨p, 4, none⟩)) := fun o => bo5.allocs o 0
      have y4b : ∀ o, (w5.alloc o).cell? ⟨p, 4, none⟩ = some (.slice ua D.length uc) := fun o => m5.allocs o 4
      have hszw := hsz5
      have hEd := (Ext.refl w5).drew
      replace b5 := b5.ext hEd
      replace r5 := r5.ext hEd
      replace m5 := m5.ext hEd
      replace rw5 : ∀ m ∈ D, RowsT w5.drew m.pa.rv m.pa.ps := fun m hm => (rw5 m hm).ext hEd
      replace hr5 := hr5.ext hEd
      replace ks5 := ks5.ext hEd
      replace X5 := X5.more hEd
      replace bo5 := bo5.ext hEd
      replace hown5 := ownsRow_ext hown5 hEd
      replace hsz5 := Nat.le_trans hsz5 hEd.le
      clear hEd
      have y0 : w5.drew.cell? ⟨bx, 0, none⟩ = some (.pointer (some ⟨p, 4, none⟩)) := bo5.cell 0
      have y4 : w5.drew.cell? ⟨p, 4, none⟩ = some (.slice ua D.length uc) := m5.cell 4
      have x0 : w5.drew.cell? ⟨z, 0, none⟩ = some (.string T) := b5.cell 0
      have x1 : w5.drew.cell? ⟨z, 1, none⟩ = some (.string key) := b5.cell 1
      have x2 : w5.drew.cell? ⟨z, 2, none⟩ = some (.int .i64 gone) := b5.cell 2
      have x3 : w5.drew.cell? ⟨z, 3, none⟩ = some (.slice va ps.length vc) := b5.cell 3
      have y0a : ∀ o, (w5.drew.alloc o).cell? ⟨bx, 0, none⟩ = some (.pointer (some ⟨p, 4, none⟩)) := fun o => bo5.allocs o 0
      have y4a : ∀ o, (w5.drew.alloc o).cell? ⟨p, 4, none⟩ = some (.slice ua D.length uc) := fun o => m5.allocs o 4
      obtain ⟨i0, hi, hz0, hz1, hz2⟩ := info_parts info_Mut
      go_region_law (refine step_append_lies (w5.drew.alloc (.cells (mt4 ⟨T, ⟨key, gone, .slice va ps.length vc, ps⟩⟩) 106)) rfl (.tmp 30) (.tmp 32) 22 rfl (bx + 1) 106 i0 _ 4 64 und_Muts hi hz0 hz1 hz2 rfl (by decide) (.slice ua D.length uc) D.length (mtCells D) (by simp [Act.eval, Act.put]) (hown5.alloc _) ⟨w5.heap.size, 0, none⟩ 1 1 (mt4 ⟨T, ⟨key, gone, .slice va ps.length vc, ps⟩⟩).toList (by simp [Act.eval, Act.put]) rfl (fun j u hj => by rw [Addr.add_lit, Nat.zero_add]; rw [show (w5.heap.size) = w5.drew.heap.size from rfl, (BoxAt.made w5.drew (mt4 ⟨T, ⟨key, gone, .slice va ps.length vc, ps⟩⟩) 106).cell j]; simpa using hj) (by simp [mt4, Value.oneCell']) (by omega) (by unfold maxLen; omega) (by omega) (by simp; omega) _ rfl ?_; intro g6 n6 w6 hown6 hg6 _ _; have b6 := (bo5.ext ((Ext.refl w5.drew).alloc _)).grown hg6 (fun e => by have := (hown5.lt _ e.symm).1; omega); have y0 : w6.cell? ⟨bx, 0, none⟩ = some (.pointer (some ⟨p, 4, none⟩)) := b6.cell 0; have m6 := (m5.ext ((Ext.refl w5.drew).alloc _)).grown hg6 (fun e => by have := (hown5.lt _ e.symm).1; omega); have y4 : w6.cell? ⟨p, 4, none⟩ = some (.slice ua D.length uc) := m6.cell 4; have f5 := m6.free 4)
      all_goals
        have hE5 := (Ext.refl w5.drew).alloc (.cells (mt4 ⟨T, ⟨key, gone, .slice va ps.length vc, ps⟩⟩) 106)
        have hlow : ∀ k, (Value.slice ua D.length uc).ownBlock = some k → w.heap.size ≤ k := fun k hk => by have := (hown5.lt k hk).1; omega
        have r6 := (r5.ext hE5).far hB0 hg6 hlow (by omega)
        have X6 := (X5.more hE5).grown hg6 (fun k hk => Nat.le_trans hw0 (hlow k hk))
        have howna := ownsRow_ext hown5 hE5
        have ks6 := TIn.keepOwn howna hg6 (by decide) (ks5.ext hE5)
        have key6 : ∀ {v l}, RowsT w5.drew v l → RowsT w6 v l := fun hc => RowsT.keepOwn howna hg6 (by decide) (by decide) (hc.ext hE5)
        have rw6 : ∀ m ∈ D ++ [(⟨T, ⟨key, gone, .slice va ps.length vc, ps⟩⟩ : Mt)], RowsT w6 m.pa.rv m.pa.ps := fun m hm => by
          rcases List.mem_append.1 hm with hm | hm
          · exact key6 (rw5 m hm)
          · rw [List.mem_singleton.1 hm]
            exact key6 hr5
        have hown7 : w6.ownsRow (bx + 1) 106 4 (.slice (some ⟨g6, 0, none⟩) (D.length + 1) n6) (D ++ [(⟨T, ⟨key, gone, .slice va ps.length vc, ps⟩⟩ : Mt)]).length (mtCells (D ++ [(⟨T, ⟨key, gone, .slice va ps.length vc, ps⟩⟩ : Mt)])) := by
          rw [List.length_append, mtCells_append]; exact hown6
        have M6 := MsgAt.mk2 r6 hne X6 m6 4 (.slice (some ⟨g6, 0, none⟩) (D.length + 1) n6) (m := m) (vm := .slice (some ⟨g6, 0, none⟩) (D.length + 1) n6) (vk := vk) (by simp [hd7]) (TIn.own hown7) rw6 ks6 hv
        have HX2 : Hid (R = ((D ++ [(⟨T, ⟨key, gone, .slice va ps.length vc, ps⟩⟩ : Mt)]).map Mt.q ++ (manyR (mutW B) kk t3).1, (manyR (mutW B) kk t3).2)) := Lib.hid (by
          rw [HX.out, manyR_step _ _ _ rfl, HMW.out]
          simp only [List.map_append, List.map_cons, List.map_nil, List.append_assoc, List.singleton_append, Mt.q, HM4.out])
        have hsz6 : bx + 1 ≤ w6.heap.size := Nat.le_trans hsz5 (Nat.le_trans hE5.le hg6.size)
        go_wp2_with fail
        go_roundw
        case rel => exact ⟨kk, _, _, t3, by go_num, by simp; omega, M6, b6.other (by omega) 4 _, ownsRow_setCell_below hown7 (a := ⟨p, 4, none⟩) (by show p < bx + 1; omega) _, by simpa [Deep.nblk_setCell] using hsz6, HX2⟩
        case measure => simp [intOf] <;> omega
    · have e0 : Hid (R = (D.map Mt.q, (i, e))) := Lib.hid (by
        rw [HX.out, manyR_stop _ _ _ (by
          rcases Nat.eq_zero_or_pos kk with h1 | h1
          · exact .inl h1
          · exact .inr (fun he => hgo ⟨h1, he⟩))]
        simp only [List.append_nil])
      have hkk2 : (0 < kk ∧ ¬ e = 0) ∨ kk = 0 := by
        rcases Nat.eq_zero_or_pos kk with h1 | h1
        · exact .inr h1
        · exact .inl ⟨h1, fun he => hgo ⟨h1, he⟩⟩
      have FIN : Hid (∃ vm ms, MsgAt w0 wr q p v B R.2 m vm vk ms ks ∧ ms.map Mt.q = R.1) := Lib.hid ⟨_, D, by rw [e0.out]; exact M, by rw [e0.out]⟩
      rcases hkk2 with ⟨h1, h2⟩ | h1
      · have d0 : (e == 0) = false := by simpa using h2
        have t1 : decide ((0 : Int) < (kk : Int)) = true := decide_eq_true (by omega)
        go_wp2_with fail
        go_end0
        exact ⟨rfl, FIN.out⟩
      · subst h1
        go_wp2_with fail
        go_end0
        exact ⟨rfl, FIN.out⟩
end Go.Proofs.YtfagnbofnaoncaaGreatDoor

/- Facts that tactics leave alone. -/
namespace Go.Proofs.YtfagnbofnaoncaaGreatDoor
open Go Go.RowKit
/-- A fact that no tactic brings to its head form. -/
def Far (p : Prop) : Prop := Unit → p
theorem far {p : Prop} (h : p) : Far p := fun _ => h
theorem Far.out {p : Prop} (h : Far p) : p := h ()
end Go.Proofs.YtfagnbofnaoncaaGreatDoor
