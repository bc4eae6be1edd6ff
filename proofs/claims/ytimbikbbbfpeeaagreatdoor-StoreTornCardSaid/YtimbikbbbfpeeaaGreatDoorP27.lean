/- pack.Read, pack.GetPart. (what a smaller cut has) -/
import Derived.Test.YtimbikbbbfpeeaaGreatDoorP22
import Derived.Test.YtimbikbbbfpeeaaGreatDoorP26
import Derived.Test.YtimbikbbbfpeeaaGreatDoorP6
import Derived.Shelf.Small.Bits
import Derived.Shelf.Small.Wraps
import Derived.Test.YtimbikbbbfpeeaaGreatDoorProg
set_option linter.unusedSimpArgs false
set_option linter.unusedVariables false
namespace Go.Proofs.YtimbikbbbfpeeaaGreatDoor
open Go Go.RowKit
attribute [local go_sem] yields yUpon

def getR (l : List UInt8) : Pt × (Nat × Int) := prtR l (0, if l.length ≤ 262144 then 0 else 2)
/-- What GetPart answers. -/
def gpErr (l : List UInt8) : Int := if (getR l).2.2 = 0 then (if ptB (getR l).1.key (getR l).1.gone (getR l).1.rows then 0 else 1) else (getR l).2.2
def gpPt (l : List UInt8) : Pt := if gpErr l = 0 then (getR l).1 else ⟨⟨#[]⟩, 0, []⟩

theorem txtR_size (B : List UInt8) (s : Nat × Int) : (txtR B s).1.size ≤ B.length := by
  unfold txtR
  simp only [str_size, List.length_take, List.length_drop]
  omega
theorem manyR_all {α : Type} {P : α → Prop} {one : Nat × Int → α × (Nat × Int)} (h : ∀ s, P (one s).1) : ∀ n s, ∀ x ∈ (manyR one n s).1, P x
  | 0, _, x, hx => by cases hx
  | n + 1, s, x, hx => by
    unfold manyR at hx
    split at hx
    · rcases List.mem_cons.1 hx with rfl | hx
      · exact h s
      · exact manyR_all h n _ x hx
    · cases hx
theorem rowR_low (B : List UInt8) (s : Nat × Int) : ∀ c ∈ (rowR B s).1.cols, c.name.size ≤ B.length :=
  manyR_all (P := fun c : Co => c.name.size ≤ B.length) (fun s => txtR_size B s) _ _
theorem prtR_low (B : List UInt8) (s : Nat × Int) : ∀ r ∈ (prtR B s).1.rows, ∀ c ∈ r.cols, c.name.size ≤ B.length :=
  manyR_all (P := fun r : Ro => ∀ c ∈ r.cols, c.name.size ≤ B.length) (fun s => rowR_low B s) _ _

set_option maxRecDepth 100000 in
set_option maxHeartbeats 4000000 in
theorem pk_read (v : Value) (l : List UInt8) (w : World) (hv : BytesIn w v l) (hl : l.length ≤ 900000) (hlow : ∀ b o k c, v = .slice (some ⟨b, o, none⟩) k c → b < w.heap.size) :
    Calls Tryz.prog 233 #[v] w fun e w' => ∃ u ps, e = .returned (.tuple #[.agg (pa3 (getR l).1.key (getR l).1.gone u), .int .i64 (getR l).2.2]) ∧ RowsT w' u ps ∧ ps.map (·.1) = (getR l).1.rows ∧ Ext w w' := by
  have hE0 := (Ext.refl w).alloc (.cells (pa3 ⟨#[]⟩ 0 (.slice none 0 0)) 52)
  have b2 := BoxAt.made w (pa3 ⟨#[]⟩ 0 (.slice none 0 0)) 52
  obtain ⟨⟨key, gone, rows⟩, ⟨i, er⟩, hG⟩ : ∃ p s, getR l = (p, s) := ⟨_, _, rfl⟩
  rw [hG]
  unfold getR at hG
  have k1 := rd_read v l _ (hv.ext hE0) hl (fun b o k c e => by have := hlow b o k c e; have := hE0.le; omega)
  have hsz : (w.alloc (.cells (pa3 ⟨#[]⟩ 0 (.slice none 0 0)) 52)).heap.size = w.heap.size + 1 := by simp
  obtain ⟨Q, hQ⟩ : ∃ Q, Q = w.heap.size + 1 := ⟨_, rfl⟩
  rw [hsz, ← hQ] at k1
  have hQ1 : w.heap.size < Q := by omega
  have hQ2 : (w.alloc (.cells (pa3 ⟨#[]⟩ 0 (.slice none 0 0)) 52)).heap.size ≤ Q := by omega
  have K1 := Lib.hid k1
  have HG := Lib.hid hG
  clear k1 hG hsz hQ
  obtain ⟨z, hz⟩ : ∃ z : Int, z = if l.length ≤ 262144 then 0 else 2 := ⟨_, rfl⟩
  rw [← hz] at HG K1
  clear hz
  simp only
  go_enter Tryz.func233, Tryz.ntmps233
  go_wp2_with (go_at_call 110; go_must (refine K1.out.mono ?_); rintro e w1 ⟨rfl, h1, hE1⟩)
  refine (rd_part h1).mono ?_
  rintro e w2 ⟨u, ps, rfl, hr, hmap, h2, hT2⟩
  rw [HG.out] at h2 hmap
  simp only at h2 hmap
  rw [HG.out]
  have hr' := hr
  obtain ⟨ua, uc, rfl⟩ := hr'.shape
  have hne : w.heap.size ≠ Q := by omega
  have b22 := hT2.box (b2.ext hE1) hne
  have hE2 : Ext w w2 := hT2.ext (hE0.trans hE1) (by omega)
  have h3Q := h2.lt
  have b3 := BoxAt.made w2 (pa3 key gone (.slice ua ps.length uc)) 52
  have hE3 := (Ext.refl w2).alloc (.cells (pa3 key gone (.slice ua ps.length uc)) 52)
  have h3 := h2.ext hE3
  unfold pa3
  simp only
  go_wp2_with fail
  have b33 := b3
  have b23 := b22.ext hE3
  have c2 : (w2.alloc (.cells #[.string key, .int .i64 gone, .slice ua ps.length uc] 52)).cell? ⟨Q, 2, none⟩ = some (.int .i64 er) := h3.c2
  have x0 : (w2.alloc (.cells #[.string key, .int .i64 gone, .slice ua ps.length uc] 52)).cell? ⟨w.heap.size, 0, none⟩ = some (.string ⟨#[]⟩) := b23.cell 0
  have x1 : (w2.alloc (.cells #[.string key, .int .i64 gone, .slice ua ps.length uc] 52)).cell? ⟨w.heap.size, 1, none⟩ = some (.int .i64 0) := b23.cell 1
  have x2 : (w2.alloc (.cells #[.string key, .int .i64 gone, .slice ua ps.length uc] 52)).cell? ⟨w.heap.size, 2, none⟩ = some (.slice none 0 0) := b23.cell 2
  have y0 : (w2.alloc (.cells #[.string key, .int .i64 gone, .slice ua ps.length uc] 52)).cell? ⟨w2.heap.size, 0, none⟩ = some (.string key) := b33.cell 0
  have y1 : (w2.alloc (.cells #[.string key, .int .i64 gone, .slice ua ps.length uc] 52)).cell? ⟨w2.heap.size, 1, none⟩ = some (.int .i64 gone) := b33.cell 1
  have y2 : (w2.alloc (.cells #[.string key, .int .i64 gone, .slice ua ps.length uc] 52)).cell? ⟨w2.heap.size, 2, none⟩ = some (.slice ua ps.length uc) := b33.cell 2
  have hneQ : Q ≠ w.heap.size := by omega
  have hr4 : RowsT (w2.alloc (.cells #[.string key, .int .i64 gone, .slice ua ps.length uc] 52)) (.slice ua ps.length uc) ps := hr.ext hE3
  have hE4 : Ext w (w2.alloc (.cells #[.string key, .int .i64 gone, .slice ua ps.length uc] 52)) := hE2.trans hE3
  replace b23 : BoxAt (w2.alloc (.cells #[.string key, .int .i64 gone, .slice ua ps.length uc] 52)) w.heap.size #[.string ⟨#[]⟩, .int .i64 0, .slice none 0 0] 52 := b23
  replace b33 : BoxAt (w2.alloc (.cells #[.string key, .int .i64 gone, .slice ua ps.length uc] 52)) w2.heap.size #[.string key, .int .i64 gone, .slice ua ps.length uc] 52 := b33

  have xf := b23.free
  generalize hw4 : (w2.alloc (.cells #[.string key, .int .i64 gone, .slice ua ps.length uc] 52)) = w4 at b23 b33 c2 x0 x1 x2 y0 y1 y2 xf hr4 hE4 ⊢
  go_region
  have b5 := (((b23.set 0 (.string key)).set 1 (.int .i64 gone)).set 2 (.slice ua ps.length uc)).ext (Ext.refl _).drew
  have hr5 := (RowsT.set 2 (.slice ua ps.length uc) ((b23.set 0 (.string key)).set 1 (.int .i64 gone)) (by decide) (by decide) (RowsT.set 1 (.int .i64 gone) (b23.set 0 (.string key)) (by decide) (by decide) (RowsT.set 0 (.string key) b23 (by decide) (by decide) hr4))).ext (Ext.refl _).drew
  have hE5a : Ext w (w4.setCell ⟨w.heap.size, 0, none⟩ (.string key)) := hE4.setCell (by exact Nat.le_refl _) _
  have hE5b : Ext w ((w4.setCell ⟨w.heap.size, 0, none⟩ (.string key)).setCell ⟨w.heap.size, 1, none⟩ (.int .i64 gone)) := hE5a.setCell (by exact Nat.le_refl _) _
  have hE5c : Ext w (((w4.setCell ⟨w.heap.size, 0, none⟩ (.string key)).setCell ⟨w.heap.size, 1, none⟩ (.int .i64 gone)).setCell ⟨w.heap.size, 2, none⟩ (.slice ua ps.length uc)) := hE5b.setCell (by exact Nat.le_refl _) _
  have hE5 := hE5c.drew
  clear hE5a hE5b hE5c
  generalize hw5 : World.drew _ = w5 at b5 hr5 hE5 ⊢
  replace b5 : BoxAt w5 w.heap.size (pa3 key gone (.slice ua ps.length uc)) 52 := b5
  go_wp2
  refine bodyPost_ret (v := .tuple #[.agg (pa3 key gone (.slice ua ps.length uc)), .int .i64 er]) ?_ rfl ⟨_, ps, rfl, hr5, hmap, hE5⟩
  obtain ⟨z0, z1, z2⟩ := b5.pa
  simp [results, Tryz.results233, go_sem, z0, z1, z2]
  rfl
end Go.Proofs.YtimbikbbbfpeeaaGreatDoor

/- order.own. -/
namespace Go.Proofs.YtimbikbbbfpeeaaGreatDoor
open Go Go.RowKit

set_option maxHeartbeats 400000 in
theorem own_any (a : Option Addr) (n c : Nat) (h : n ≤ c) (_hc : c ≤ maxLen) (w : World) :
    Calls Tryz.prog 176 #[.slice a n c] w fun e w' => e = .returned (.slice a n n) ∧ w = w' := by
  unfold maxLen at _hc
  go_enter Tryz.func176, Tryz.ntmps176
  go_wp2
  go_ret
  exact ⟨rfl, rfl⟩

end Go.Proofs.YtimbikbbbfpeeaaGreatDoor

/- math/bits.Len64, laid at this program (the text is the tool's, its numbers by name). -/
namespace Go.Proofs
open Go.Shelf
def Tryz.lays129_ren : Go.Shelf.Ren := ⟨fun | 129 => 172 | n => n, fun | 53 => 159 | 3 => 3 | 4 => 4 | 46 => 152 | 5 => 5 | 9 => 9 | n => n, fun | n => n⟩
theorem Tryz.lays129 : Go.Proofs.Lays.n129 Tryz.prog Tryz.lays129_ren := {
  mixed := by kernel_rfl
  f129 := Tryz.func172.trans (congrArg some (by kernel_rfl))
  t3 := Tryz.underlying3
  a3 := Tryz.isAgg3
  z3 := Tryz.sizeOf3
  v3 := Tryz.zeroValue3
  t4 := Tryz.underlying4
  a4 := Tryz.isAgg4
  z4 := Tryz.sizeOf4
  v4 := Tryz.zeroValue4
  t5 := Tryz.underlying5
  a5 := Tryz.isAgg5
  z5 := Tryz.sizeOf5
  v5 := Tryz.zeroValue5
  t9 := Tryz.underlying9
  a9 := Tryz.isAgg9
  z9 := Tryz.sizeOf9
  v9 := Tryz.zeroValue9
  t46 := Tryz.underlying152
  a46 := Tryz.isAgg152
  z46 := Tryz.sizeOf152
  v46 := Tryz.zeroValue152
  t53 := Tryz.underlying159
  a53 := Tryz.isAgg159
  z53 := Tryz.sizeOf159
  v53 := Tryz.zeroValue159 }
theorem Tryz.bits_Len64 (x : Int) (w : World) (h0 : 0 ≤ x) (h1 : x ≤ 18446744073709551615) :
    Calls Tryz.prog 172 #[.int .u64 x] w fun e w' => e = .returned (.int .i64 (Lib.bitLen x.toNat)) ∧ w' = w := Any.bits_Len64 Tryz.lays129 x w h0 h1
end Go.Proofs
