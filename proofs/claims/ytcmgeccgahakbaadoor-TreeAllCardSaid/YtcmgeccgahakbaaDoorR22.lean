/- pack's reader: end, part, read. -/
import Derived.Test.YtcmgeccgahakbaaDoorR21
import Derived.Test.YtcmgeccgahakbaaDoorR12
import Derived.Test.YtcmgeccgahakbaaDoorR9
import Derived.Test.YtcmgeccgahakbaaDoorR2
import Derived.Test.YtcmgeccgahakbaaDoorR3
import Derived.Test.YtcmgeccgahakbaaDoorR1
set_option linter.unusedSimpArgs false
set_option linter.unusedVariables false
namespace Go.Proofs.YtcmgeccgahakbaaDoor
open Go Go.RowKit
attribute [local go_sem] yields yUpon

def endR (B : List UInt8) (s : Nat × Int) : Nat × Int := if 0 < B.length - s.1 then failR 6 s else s
/-- A partition: its key, what is gone, its rows. -/
structure Pt where
  key : ByteArray
  gone : Int
  rows : List Ro
def prtR (B : List UInt8) (s : Nat × Int) : Pt × (Nat × Int) :=
  (⟨(txtR B s).1, ((numR B (txtR B s).2).1 : Int), (listR B (rowR B) (numR B (txtR B s).2).2).1⟩, endR B (listR B (rowR B) (numR B (txtR B s).2).2).2)
theorem RowsT.touch9 {x y : World} {q : Nat} {W : Array Value} {T : TypeId} {v : Value} {ps : List (Ro × Value)} (hT : Touch9 x y q) (hq : BoxAt x q W T) (h1 : 91 ≠ T) (h2 : 154 ≠ T) (h : RowsT x v ps) : RowsT y v ps :=
  ⟨TIn.touch9 hT hq h1 h.tin, fun p hp => TIn.touch9 hT hq h2 (h.typed p hp)⟩

set_option maxHeartbeats 1000000 in
theorem rd_end {w : World} {q : Nat} {v : Value} {B : List UInt8} {s : Nat × Int} (h : RdAt w q v B s) :
    Calls Tryd.prog 75 #[.pointer (some ⟨q, 0, none⟩)] w fun e w' => e = .returned (.tuple #[]) ∧ RdAt w' q v B (endR B s) ∧ Touch9 w w' q := by
  obtain ⟨lf, hlf⟩ : ∃ lf, lf = B.length - s.1 := ⟨_, rfl⟩
  have k1 := rd_left h
  unfold endR
  rw [← hlf] at k1 ⊢
  have K1 := Lib.hid k1
  clear k1 hlf
  by_cases h0 : 0 < lf
  · rw [if_pos h0]
    go_enter Tryd.func75, Tryd.ntmps75
    go_wp2_with (first
      | (go_at_call 120; go_must (refine K1.out.mono ?_); rintro e w1 ⟨rfl, hE1⟩; have h1 := h.ext hE1; have d : decide ((0 : Int) < (lf : Int)) = true := (decide_eq_true (by omega)))
      | (go_at_call 76; go_must (refine (rd_fail 6 h1).mono ?_); rintro e w2 ⟨rfl, h2, hT2⟩))
    go_end0
    exact ⟨rfl, h2, (Touch9.of_ext hE1 q).trans hT2⟩
  · rw [if_neg h0]
    have hz : lf = 0 := by omega
    subst hz
    go_enter Tryd.func75, Tryd.ntmps75
    go_wp2_with (first
      | (go_at_call 120; go_must (refine K1.out.mono ?_); rintro e w1 ⟨rfl, hE1⟩; have h1 := h.ext hE1))
    go_end0
    exact ⟨rfl, h1, Touch9.of_ext hE1 q⟩

set_option maxHeartbeats 1000000 in
theorem rd_read (v : Value) (l : List UInt8) (w : World) (hv : BytesIn w v l) (hl : l.length ≤ 900000) (hlow : ∀ b o k c, v = .slice (some ⟨b, o, none⟩) k c → b < w.heap.size) :
    Calls Tryd.prog 68 #[v] w fun e w' => e = .returned (.pointer (some ⟨w.heap.size, 0, none⟩)) ∧ RdAt w' w.heap.size v l (0, if l.length ≤ 262144 then 0 else 2) ∧ Ext w w' := by
  have hE0 := (Ext.refl w).alloc (.cells #[v, .int .i64 0, .int .i64 0] 120)
  have h0 : RdAt (w.alloc (.cells #[v, .int .i64 0, .int .i64 0] 120)) w.heap.size v l (0, 0) := ⟨BoxAt.made w _ _, hv.ext hE0, fun b o k c e => by have := hlow b o k c e; omega, Nat.zero_le _, hl⟩
  obtain ⟨a, c, rfl, _⟩ := h0.shape
  by_cases hc : l.length ≤ 262144
  · rw [if_pos hc]
    have d : ¬ (262144 : Int) < (l.length : Int) := by omega
    go_enter Tryd.func68, Tryd.ntmps68
    go_wp2_with fail
    go_ret
    exact ⟨rfl, h0, hE0⟩
  · rw [if_neg hc]
    have d : decide ((262144 : Int) < (l.length : Int)) = true := decide_eq_true (by omega)
    go_enter Tryd.func68, Tryd.ntmps68
    go_wp2_with (go_at_call 76; go_must (refine (rd_fail 2 h0).mono ?_); rintro e w2 ⟨rfl, h2, hT2⟩)
    go_ret
    exact ⟨rfl, h2, hT2.ext hE0 (Nat.le_refl _)⟩

set_option maxRecDepth 100000 in
set_option maxHeartbeats 4000000 in
theorem rd_part {w : World} {q : Nat} {v : Value} {B : List UInt8} {s : Nat × Int} (h : RdAt w q v B s) :
    Calls Tryd.prog 115 #[.pointer (some ⟨q, 0, none⟩)] w fun e w' => ∃ u ps, e = .returned (.agg (pa3 (prtR B s).1.key (prtR B s).1.gone u)) ∧ RowsT w' u ps ∧ ps.map (·.1) = (prtR B s).1.rows ∧ RdAt w' q v B (prtR B s).2 ∧ Touch9 w w' q := by
  have hq := h.lt
  have hE0 := (Ext.refl w).alloc (.cells (pa3 ⟨#[]⟩ 0 (.slice none 0 0)) 24)
  have b2 := BoxAt.made w (pa3 ⟨#[]⟩ 0 (.slice none 0 0)) 24
  have h0 := h.ext hE0
  have hq2 : w.heap.size ≠ q := by omega
  unfold prtR
  obtain ⟨X, s1, hX⟩ : ∃ X s1, txtR B s = (X, s1) := ⟨_, _, rfl⟩
  obtain ⟨G, s2, hG⟩ : ∃ G s2, numR B s1 = (G, s2) := ⟨_, _, rfl⟩
  obtain ⟨L, s3, hL⟩ : ∃ L s3, listR B (rowR B) s2 = (L, s3) := ⟨_, _, rfl⟩
  rw [hX]
  simp only
  rw [hG]
  simp only
  rw [hL]
  have k1 := rd_text h0
  rw [hX] at k1
  simp only at k1 ⊢
  have K1 := Lib.hid k1
  have HG := Lib.hid hG
  have HL := Lib.hid hL
  clear k1 hX hG hL
  go_enter Tryd.func115, Tryd.ntmps115
  go_wp2_with (go_at_call 118; go_must (refine K1.out.mono ?_); rintro e w1 ⟨rfl, h1, hT1⟩; have b21 := hT1.box b2 hq2; have hq3 : w1.heap.size ≠ q := (by have := h1.lt; omega))
  have b3 := BoxAt.made w1 (pa3 X 0 (.slice none 0 0)) 24
  have hEa := (Ext.refl w1).alloc (.cells (pa3 X 0 (.slice none 0 0)) 24)
  have h1a := h1.ext hEa
  have hT1a := (Touch9.of_ext hE0 q).trans (hT1.more hEa)
  have hle1 : w.heap.size ≤ w1.heap.size := by have := hE0.le; have := hT1.size; omega
  have hne23 : w.heap.size ≠ w1.heap.size := by have := b21.lt; omega
  refine (rd_number h1a).mono ?_
  rintro e w2 ⟨rfl, h2, hT2⟩
  rw [HG.out] at h2
  simp only at h2
  rw [HG.out]
  have b22 := hT2.box (b21.ext hEa) hq2
  have b32 := hT2.box b3 hq3
  have y1 : w2.cell? ⟨w1.heap.size, 1, none⟩ = some (.int .i64 0) := b32.cell 1
  have yf := b32.free
  have P2 := rd_done1 h ⟨h2, hT1a.trans hT2⟩ hle1 1 (.int .i64 (G : Int))
  have b33 : BoxAt (w2.setCell ⟨w1.heap.size, 1, none⟩ (.int .i64 (G : Int))) w1.heap.size #[.string X, .int .i64 (G : Int), .slice none 0 0] 24 := b32.set 1 _
  have b23 := b22.other hne23 1 (.int .i64 (G : Int))
  go_wp2_with fail
  generalize hw3 : World.setCell w2 _ _ = w3 at P2 b33 b23 ⊢
  clear hw3 y1 yf
  refine (rd_rows P2.1).mono ?_
  rintro e w4 ⟨u, ps, rfl, hown, hcs, hmap, h4, hT4⟩
  rw [HL.out] at h4 hmap
  simp only at h4 hmap
  have hown' := hown
  obtain ⟨ua, uc, rfl⟩ := own_shape hown'
  have hrt : RowsT w4 (.slice ua ps.length uc) ps := ⟨TIn.own hown, hcs⟩
  have b24 := hT4.box b23 hq2
  have b34 := hT4.box b33 hq3
  have y2 : w4.cell? ⟨w1.heap.size, 2, none⟩ = some (.slice none 0 0) := b34.cell 2
  have yf := b34.free
  have P4 := rd_done1 h ⟨h4, P2.2.trans hT4⟩ hle1 2 (.slice ua ps.length uc)
  have b35 : BoxAt (w4.setCell ⟨w1.heap.size, 2, none⟩ (.slice ua ps.length uc)) w1.heap.size (pa3 X (G : Int) (.slice ua ps.length uc)) 24 := b34.set 2 _
  have b25 := b24.other hne23 2 (.slice ua ps.length uc)
  have hr5 := RowsT.set 2 (.slice ua ps.length uc) b34 (by decide) (by decide) hrt
  go_wp2_with fail
  generalize hw5 : World.setCell w4 _ _ = w5 at P4 b35 b25 hr5 ⊢
  clear hw5 y2 yf
  refine (rd_end P4.1).mono ?_
  rintro e w6 ⟨rfl, h6, hT6⟩
  have b26 := hT6.box b25 hq2
  have b36 := hT6.box b35 hq3
  have hr6 := hr5.touch9 hT6 P4.1.box (by decide) (by decide)
  have z0 : w6.cell? ⟨w1.heap.size, 0, none⟩ = some (.string X) := b36.cell 0
  have z1 : w6.cell? ⟨w1.heap.size, 1, none⟩ = some (.int .i64 (G : Int)) := b36.cell 1
  have z2 : w6.cell? ⟨w1.heap.size, 2, none⟩ = some (.slice ua ps.length uc) := b36.cell 2
  have x0 : w6.cell? ⟨w.heap.size, 0, none⟩ = some (.string ⟨#[]⟩) := b26.cell 0
  have x1 : w6.cell? ⟨w.heap.size, 1, none⟩ = some (.int .i64 0) := b26.cell 1
  have x2 : w6.cell? ⟨w.heap.size, 2, none⟩ = some (.slice none 0 0) := b26.cell 2
  have xf := b26.free
  have P6 := rd_done1 h (rd_done1 h (rd_done1 h ⟨h6, P4.2.trans hT6⟩ (Nat.le_refl _) 0 (.string X)) (Nat.le_refl _) 1 (.int .i64 (G : Int))) (Nat.le_refl _) 2 (.slice ua ps.length uc)
  have hr7 := RowsT.set 2 (.slice ua ps.length uc) ((b26.set 0 (.string X)).set 1 (.int .i64 (G : Int))) (by decide) (by decide) (RowsT.set 1 (.int .i64 (G : Int)) (b26.set 0 (.string X)) (by decide) (by decide) (RowsT.set 0 (.string X) b26 (by decide) (by decide) hr6))
  go_wp2_with fail
  refine bodyPost_ret (v := .agg (pa3 X (G : Int) (.slice ua ps.length uc))) ?_ rfl ⟨_, ps, rfl, hr7, hmap, P6⟩
  generalize hW : World.setCell _ _ _ = w99
  have hb : BoxAt w99 w.heap.size (pa3 X (G : Int) (.slice ua ps.length uc)) 24 := by rw [← hW]; exact ((b26.set 0 _).set 1 _).set 2 _
  obtain ⟨z0, z1, z2⟩ := hb.pa
  simp [results, Tryd.results115, go_sem, z0, z1, z2]
  rfl
end Go.Proofs.YtcmgeccgahakbaaDoor

/- pack.Read, pack.GetPart. -/
namespace Go.Proofs.YtcmgeccgahakbaaDoor
open Go Go.RowKit
attribute [local go_sem] yields yUpon

def getR (l : List UInt8) : Pt × (Nat × Int) := prtR l (0, if l.length ≤ 262144 then 0 else 2)
/-- What GetPart answers. -/
def gpErr (l : List UInt8) : Int := if (getR l).2.2 = 0 then (if ptB (getR l).1.key (getR l).1.gone (getR l).1.rows then 0 else 1) else (getR l).2.2
def gpPt (l : List UInt8) : Pt := if gpErr l = 0 then (getR l).1 else ⟨⟨#[]⟩, 0, []⟩

theorem txtR_size (B : List UInt8) (s : Nat × Int) : (txtR B s).1.size ≤ B.length := by
  unfold txtR
  simp only [str_size, List.length_take, List.length_drop]
  omega
theorem manyR_all {α : Type} {P : α → Prop} {one : Nat × Int → α × (Nat × Int)} (h : ∀ s, P (one s).1) : ∀ n s, ∀ x ∈ (manyR one n s).1, P x
  | 0, _, x, hx => by cases hx
  | n + 1, s, x, hx => by
    unfold manyR at hx
    split at hx
    · rcases List.mem_cons.1 hx with rfl | hx
      · exact h s
      · exact manyR_all h n _ x hx
    · cases hx
theorem rowR_low (B : List UInt8) (s : Nat × Int) : ∀ c ∈ (rowR B s).1.cols, c.name.size ≤ B.length :=
  manyR_all (P := fun c : Co => c.name.size ≤ B.length) (fun s => txtR_size B s) _ _
theorem prtR_low (B : List UInt8) (s : Nat × Int) : ∀ r ∈ (prtR B s).1.rows, ∀ c ∈ r.cols, c.name.size ≤ B.length :=
  manyR_all (P := fun r : Ro => ∀ c ∈ r.cols, c.name.size ≤ B.length) (fun s => rowR_low B s) _ _

set_option maxRecDepth 100000 in
set_option maxHeartbeats 4000000 in
theorem pk_read (v : Value) (l : List UInt8) (w : World) (hv : BytesIn w v l) (hl : l.length ≤ 900000) (hlow : ∀ b o k c, v = .slice (some ⟨b, o, none⟩) k c → b < w.heap.size) :
    Calls Tryd.prog 64 #[v] w fun e w' => ∃ u ps, e = .returned (.tuple #[.agg (pa3 (getR l).1.key (getR l).1.gone u), .int .i64 (getR l).2.2]) ∧ RowsT w' u ps ∧ ps.map (·.1) = (getR l).1.rows ∧ Ext w w' := by
  have hE0 := (Ext.refl w).alloc (.cells (pa3 ⟨#[]⟩ 0 (.slice none 0 0)) 24)
  have b2 := BoxAt.made w (pa3 ⟨#[]⟩ 0 (.slice none 0 0)) 24
  obtain ⟨⟨key, gone, rows⟩, ⟨i, er⟩, hG⟩ : ∃ p s, getR l = (p, s) := ⟨_, _, rfl⟩
  rw [hG]
  unfold getR at hG
  have k1 := rd_read v l _ (hv.ext hE0) hl (fun b o k c e => by have := hlow b o k c e; have := hE0.le; omega)
  have hsz : (w.alloc (.cells (pa3 ⟨#[]⟩ 0 (.slice none 0 0)) 24)).heap.size = w.heap.size + 1 := by simp
  obtain ⟨Q, hQ⟩ : ∃ Q, Q = w.heap.size + 1 := ⟨_, rfl⟩
  rw [hsz, ← hQ] at k1
  have hQ1 : w.heap.size < Q := by omega
  have hQ2 : (w.alloc (.cells (pa3 ⟨#[]⟩ 0 (.slice none 0 0)) 24)).heap.size ≤ Q := by omega
  have K1 := Lib.hid k1
  have HG := Lib.hid hG
  clear k1 hG hsz hQ
  obtain ⟨z, hz⟩ : ∃ z : Int, z = if l.length ≤ 262144 then 0 else 2 := ⟨_, rfl⟩
  rw [← hz] at HG K1
  clear hz
  simp only
  go_enter Tryd.func64, Tryd.ntmps64
  go_wp2_with (go_at_call 68; go_must (refine K1.out.mono ?_); rintro e w1 ⟨rfl, h1, hE1⟩)
  refine (rd_part h1).mono ?_
  rintro e w2 ⟨u, ps, rfl, hr, hmap, h2, hT2⟩
  rw [HG.out] at h2 hmap
  simp only at h2 hmap
  rw [HG.out]
  have hr' := hr
  obtain ⟨ua, uc, rfl⟩ := hr'.shape
  have hne : w.heap.size ≠ Q := by omega
  have b22 := hT2.box (b2.ext hE1) hne
  have hE2 : Ext w w2 := hT2.ext (hE0.trans hE1) (by omega)
  have h3Q := h2.lt
  have b3 := BoxAt.made w2 (pa3 key gone (.slice ua ps.length uc)) 24
  have hE3 := (Ext.refl w2).alloc (.cells (pa3 key gone (.slice ua ps.length uc)) 24)
  have h3 := h2.ext hE3
  unfold pa3
  simp only
  go_wp2_with fail
  have b33 := b3
  have b23 := b22.ext hE3
  have c2 : (w2.alloc (.cells #[.string key, .int .i64 gone, .slice ua ps.length uc] 24)).cell? ⟨Q, 2, none⟩ = some (.int .i64 er) := h3.c2
  have x0 : (w2.alloc (.cells #[.string key, .int .i64 gone, .slice ua ps.length uc] 24)).cell? ⟨w.heap.size, 0, none⟩ = some (.string ⟨#[]⟩) := b23.cell 0
  have x1 : (w2.alloc (.cells #[.string key, .int .i64 gone, .slice ua ps.length uc] 24)).cell? ⟨w.heap.size, 1, none⟩ = some (.int .i64 0) := b23.cell 1
  have x2 : (w2.alloc (.cells #[.string key, .int .i64 gone, .slice ua ps.length uc] 24)).cell? ⟨w.heap.size, 2, none⟩ = some (.slice none 0 0) := b23.cell 2
  have y0 : (w2.alloc (.cells #[.string key, .int .i64 gone, .slice ua ps.length uc] 24)).cell? ⟨w2.heap.size, 0, none⟩ = some (.string key) := b33.cell 0
  have y1 : (w2.alloc (.cells #[.string key, .int .i64 gone, .slice ua ps.length uc] 24)).cell? ⟨w2.heap.size, 1, none⟩ = some (.int .i64 gone) := b33.cell 1
  have y2 : (w2.alloc (.cells #[.string key, .int .i64 gone, .slice ua ps.length uc] 24)).cell? ⟨w2.heap.size, 2, none⟩ = some (.slice ua ps.length uc) := b33.cell 2
  have hneQ : Q ≠ w.heap.size := by omega
  have hr4 : RowsT (w2.alloc (.cells #[.string key, .int .i64 gone, .slice ua ps.length uc] 24)) (.slice ua ps.length uc) ps := hr.ext hE3
  have hE4 : Ext w (w2.alloc (.cells #[.string key, .int .i64 gone, .slice ua ps.length uc] 24)) := hE2.trans hE3
  replace b23 : BoxAt (w2.alloc (.cells #[.string key, .int .i64 gone, .slice ua ps.length uc] 24)) w.heap.size #[.string ⟨#[]⟩, .int .i64 0, .slice none 0 0] 24 := b23
  replace b33 : BoxAt (w2.alloc (.cells #[.string key, .int .i64 gone, .slice ua ps.length uc] 24)) w2.heap.size #[.string key, .int .i64 gone, .slice ua ps.length uc] 24 := b33

  have xf := b23.free
  generalize hw4 : (w2.alloc (.cells #[.string key, .int .i64 gone, .slice ua ps.length uc] 24)) = w4 at b23 b33 c2 x0 x1 x2 y0 y1 y2 xf hr4 hE4 ⊢
  go_region
  have b5 := (((b23.set 0 (.string key)).set 1 (.int .i64 gone)).set 2 (.slice ua ps.length uc)).ext (Ext.refl _).drew
  have hr5 := (RowsT.set 2 (.slice ua ps.length uc) ((b23.set 0 (.string key)).set 1 (.int .i64 gone)) (by decide) (by decide) (RowsT.set 1 (.int .i64 gone) (b23.set 0 (.string key)) (by decide) (by decide) (RowsT.set 0 (.string key) b23 (by decide) (by decide) hr4))).ext (Ext.refl _).drew
  have hE5a : Ext w (w4.setCell ⟨w.heap.size, 0, none⟩ (.string key)) := hE4.setCell (by exact Nat.le_refl _) _
  have hE5b : Ext w ((w4.setCell ⟨w.heap.size, 0, none⟩ (.string key)).setCell ⟨w.heap.size, 1, none⟩ (.int .i64 gone)) := hE5a.setCell (by exact Nat.le_refl _) _
  have hE5c : Ext w (((w4.setCell ⟨w.heap.size, 0, none⟩ (.string key)).setCell ⟨w.heap.size, 1, none⟩ (.int .i64 gone)).setCell ⟨w.heap.size, 2, none⟩ (.slice ua ps.length uc)) := hE5b.setCell (by exact Nat.le_refl _) _
  have hE5 := hE5c.drew
  clear hE5a hE5b hE5c
  generalize hw5 : World.drew _ = w5 at b5 hr5 hE5 ⊢
  replace b5 : BoxAt w5 w.heap.size (pa3 key gone (.slice ua ps.length uc)) 24 := b5
  go_wp2
  refine bodyPost_ret (v := .tuple #[.agg (pa3 key gone (.slice ua ps.length uc)), .int .i64 er]) ?_ rfl ⟨_, ps, rfl, hr5, hmap, hE5⟩
  obtain ⟨z0, z1, z2⟩ := b5.pa
  simp [results, Tryd.results64, go_sem, z0, z1, z2]
  rfl

set_option maxRecDepth 100000 in
set_option maxHeartbeats 4000000 in
theorem pk_getpart (v : Value) (l : List UInt8) (w : World) (hv : BytesIn w v l) (hl : l.length ≤ 900000) (hlow : ∀ b o k c, v = .slice (some ⟨b, o, none⟩) k c → b < w.heap.size) (hT : TabU w) :
    Calls Tryd.prog 18 #[v] w fun e w' => ∃ u ps, e = .returned (.tuple #[.agg (pa3 (gpPt l).key (gpPt l).gone u), .int .i64 (gpErr l)]) ∧ RowsT w' u ps ∧ ps.map (·.1) = (gpPt l).rows ∧ Ext w w' := by
  have hE0 := (Ext.refl w).alloc (.cells (pa3 ⟨#[]⟩ 0 (.slice none 0 0)) 24)
  have b2 := BoxAt.made w (pa3 ⟨#[]⟩ 0 (.slice none 0 0)) 24
  have k1 := pk_read v l _ (hv.ext hE0) hl (fun b o k c e => by have := hlow b o k c e; have := hE0.le; omega)
  have hT0 := hT.ext hE0
  obtain ⟨⟨key, gone, rows⟩, ⟨i, er⟩, hG⟩ : ∃ p s, getR l = (p, s) := ⟨_, _, rfl⟩
  have hlw := prtR_low l (0, if l.length ≤ 262144 then 0 else 2)
  have hlw2 : ∀ r ∈ (getR l).1.rows, ∀ c ∈ r.cols, c.name.size ≤ l.length := hlw
  rw [hG] at k1 hlw2
  simp only at k1 hlw2
  have K1 := Lib.hid k1
  have HLW := Lib.hid hlw2
  clear k1 hlw hlw2
  by_cases he : er = 0
  · subst he
    cases hq : ptB key gone rows
    · have e1 : gpErr l = 1 := by unfold gpErr; rw [hG]; simp [hq]
      have e2 : gpPt l = ⟨⟨#[]⟩, 0, []⟩ := by unfold gpPt; rw [e1]; rfl
      rw [e1, e2]
      have HQ := Lib.hid hq
      clear hq e1 e2 hG
      go_enter Tryd.func18, Tryd.ntmps18
      go_wp2_with (go_at_call 64; go_must (refine K1.out.mono ?_); rintro e w1 ⟨u, ps, rfl, hr, hmap, hE1⟩; have hr' := hr; obtain ⟨ua, uc, rfl⟩ := hr'.shape; unfold pa3)
      have hT1 := hT0.ext hE1
      have b21 := b2.ext hE1
      have b3 := BoxAt.made w1 (pa3 key gone (.slice ua ps.length uc)) 24
      have hE3 := (Ext.refl w1).alloc (.cells (pa3 key gone (.slice ua ps.length uc)) 24)
      have hlp : ∀ p ∈ ps, ∀ c ∈ p.1.cols, c.name.size ≤ 1000000 := fun p hp c hc => by
        have := HLW.out p.1 (by rw [← hmap]; exact List.mem_map_of_mem (f := (·.1)) hp) c hc
        omega
      have HLP := Lib.hid hlp
      clear hlp
      go_wp2_with fail
      refine (pcheck_gen key gone (.slice ua ps.length uc) ps _ (hr.rows.ext hE3) HLP.out (hT1.ext hE3)).mono ?_
      rintro e w4 ⟨rfl, hE4⟩
      rw [hmap, HQ.out]
      have b24 := b21.ext (hE3.trans hE4)
      have b34 := b3.ext hE4
      have x0 : w4.cell? ⟨w.heap.size, 0, none⟩ = some (.string ⟨#[]⟩) := b24.cell 0
      have x1 : w4.cell? ⟨w.heap.size, 1, none⟩ = some (.int .i64 0) := b24.cell 1
      have x2 : w4.cell? ⟨w.heap.size, 2, none⟩ = some (.slice none 0 0) := b24.cell 2
      have xf := b24.free
      have hEz0 : Ext w (w4.setCell ⟨w.heap.size, 0, none⟩ (.string ⟨#[]⟩)) := Ext.setCell (hE0.trans (hE1.trans (hE3.trans hE4))) (by exact Nat.le_refl _) _
      have hEz1 : Ext w ((w4.setCell ⟨w.heap.size, 0, none⟩ (.string ⟨#[]⟩)).setCell ⟨w.heap.size, 1, none⟩ (.int .i64 0)) := hEz0.setCell (by exact Nat.le_refl _) _
      have hEz2 : Ext w (((w4.setCell ⟨w.heap.size, 0, none⟩ (.string ⟨#[]⟩)).setCell ⟨w.heap.size, 1, none⟩ (.int .i64 0)).setCell ⟨w.heap.size, 2, none⟩ (.slice none 0 0)) := hEz1.setCell (by exact Nat.le_refl _) _
      have bz : BoxAt (((w4.setCell ⟨w.heap.size, 0, none⟩ (.string ⟨#[]⟩)).setCell ⟨w.heap.size, 1, none⟩ (.int .i64 0)).setCell ⟨w.heap.size, 2, none⟩ (.slice none 0 0)) w.heap.size (pa3 ⟨#[]⟩ 0 (.slice none 0 0)) 24 := (((b24.set 0 (.string ⟨#[]⟩)).set 1 (.int .i64 0)).set 2 (.slice none 0 0))
      go_wp2_with fail
      refine bodyPost_ret (v := .tuple #[.agg (pa3 ⟨#[]⟩ 0 (.slice none 0 0)), .int .i64 1]) ?_ rfl ⟨_, [], rfl, RowsT.nil _, rfl, hEz2⟩
      generalize World.setCell _ _ _ = w99 at bz ⊢
      obtain ⟨z0, z1, z2⟩ := bz.pa
      simp [results, Tryd.results18, go_sem, z0, z1, z2]
      rfl
    · have e1 : gpErr l = 0 := by unfold gpErr; rw [hG]; simp [hq]
      have e2 : gpPt l = ⟨key, gone, rows⟩ := by unfold gpPt; rw [e1, if_pos rfl, hG]
      rw [e1, e2]
      have HQ := Lib.hid hq
      clear hq e1 e2 hG
      go_enter Tryd.func18, Tryd.ntmps18
      go_wp2_with (go_at_call 64; go_must (refine K1.out.mono ?_); rintro e w1 ⟨u, ps, rfl, hr, hmap, hE1⟩; have hr' := hr; obtain ⟨ua, uc, rfl⟩ := hr'.shape; unfold pa3)
      have hT1 := hT0.ext hE1
      have b21 := b2.ext hE1
      have b3 := BoxAt.made w1 (pa3 key gone (.slice ua ps.length uc)) 24
      have hE3 := (Ext.refl w1).alloc (.cells (pa3 key gone (.slice ua ps.length uc)) 24)
      have hlp : ∀ p ∈ ps, ∀ c ∈ p.1.cols, c.name.size ≤ 1000000 := fun p hp c hc => by
        have := HLW.out p.1 (by rw [← hmap]; exact List.mem_map_of_mem (f := (·.1)) hp) c hc
        omega
      have HLP := Lib.hid hlp
      clear hlp
      go_wp2_with fail
      refine (pcheck_gen key gone (.slice ua ps.length uc) ps _ (hr.rows.ext hE3) HLP.out (hT1.ext hE3)).mono ?_
      rintro e w4 ⟨rfl, hE4⟩
      rw [hmap, HQ.out]
      have b24 := b21.ext (hE3.trans hE4)
      have b34 := b3.ext hE4
      have z0 : w4.cell? ⟨w1.heap.size, 0, none⟩ = some (.string key) := b34.cell 0
      have z1 : w4.cell? ⟨w1.heap.size, 1, none⟩ = some (.int .i64 gone) := b34.cell 1
      have z2 : w4.cell? ⟨w1.heap.size, 2, none⟩ = some (.slice ua ps.length uc) := b34.cell 2
      have x0 : w4.cell? ⟨w.heap.size, 0, none⟩ = some (.string ⟨#[]⟩) := b24.cell 0
      have x1 : w4.cell? ⟨w.heap.size, 1, none⟩ = some (.int .i64 0) := b24.cell 1
      have x2 : w4.cell? ⟨w.heap.size, 2, none⟩ = some (.slice none 0 0) := b24.cell 2
      have xf := b24.free
      have hEz0 : Ext w (w4.setCell ⟨w.heap.size, 0, none⟩ (.string key)) := Ext.setCell (hE0.trans (hE1.trans (hE3.trans hE4))) (by exact Nat.le_refl _) _
      have hEz1 : Ext w ((w4.setCell ⟨w.heap.size, 0, none⟩ (.string key)).setCell ⟨w.heap.size, 1, none⟩ (.int .i64 gone)) := hEz0.setCell (by exact Nat.le_refl _) _
      have hEz2 : Ext w (((w4.setCell ⟨w.heap.size, 0, none⟩ (.string key)).setCell ⟨w.heap.size, 1, none⟩ (.int .i64 gone)).setCell ⟨w.heap.size, 2, none⟩ (.slice ua ps.length uc)) := hEz1.setCell (by exact Nat.le_refl _) _
      have bz : BoxAt (((w4.setCell ⟨w.heap.size, 0, none⟩ (.string key)).setCell ⟨w.heap.size, 1, none⟩ (.int .i64 gone)).setCell ⟨w.heap.size, 2, none⟩ (.slice ua ps.length uc)) w.heap.size (pa3 key gone (.slice ua ps.length uc)) 24 := (((b24.set 0 (.string key)).set 1 (.int .i64 gone)).set 2 (.slice ua ps.length uc))
      go_wp2_with fail
      refine bodyPost_ret (v := .tuple #[.agg (pa3 key gone (.slice ua ps.length uc)), .int .i64 0]) ?_ rfl ⟨_, ps, rfl, (RowsT.set 2 (.slice ua ps.length uc) ((b24.set 0 (.string key)).set 1 (.int .i64 gone)) (by decide) (by decide) (RowsT.set 1 (.int .i64 gone) (b24.set 0 (.string key)) (by decide) (by decide) (RowsT.set 0 (.string key) b24 (by decide) (by decide) (hr.ext (hE3.trans hE4))))), hmap, hEz2⟩
      generalize World.setCell _ _ _ = w99 at bz ⊢
      obtain ⟨z0, z1, z2⟩ := bz.pa
      simp [results, Tryd.results18, go_sem, z0, z1, z2]
      rfl
  · have e1 : gpErr l = er := by unfold gpErr; rw [hG]; exact if_neg he
    have e2 : gpPt l = ⟨⟨#[]⟩, 0, []⟩ := by unfold gpPt; rw [e1, if_neg he]
    rw [e1, e2]
    clear e1 e2 hG
    go_enter Tryd.func18, Tryd.ntmps18
    go_wp2_with (go_at_call 64; go_must (refine K1.out.mono ?_); rintro e w1 ⟨u, ps, rfl, hr, hmap, hE1⟩; have hr' := hr; obtain ⟨ua, uc, rfl⟩ := hr'.shape; unfold pa3; have xf := (b2.ext hE1).frees; have d0 : (er == 0) = false := (by simpa using he); have v0 : ∀ o, (w1.alloc o).cell? ⟨w.heap.size, 0, none⟩ = some (.string ⟨#[]⟩) := fun o => (b2.ext hE1).allocs o 0; have v1 : ∀ o, (w1.alloc o).cell? ⟨w.heap.size, 1, none⟩ = some (.int .i64 0) := fun o => (b2.ext hE1).allocs o 1; have v2 : ∀ o, (w1.alloc o).cell? ⟨w.heap.size, 2, none⟩ = some (.slice none 0 0) := fun o => (b2.ext hE1).allocs o 2)
    have b3 := BoxAt.made w1 (pa3 key gone (.slice ua ps.length uc)) 24
    have hE3 : Ext w1 (w1.alloc (.cells #[.string key, .int .i64 gone, .slice ua ps.length uc] 24)) := (Ext.refl w1).alloc (.cells (pa3 key gone (.slice ua ps.length uc)) 24)
    have b24 : BoxAt (w1.alloc (.cells #[.string key, .int .i64 gone, .slice ua ps.length uc] 24)) w.heap.size (pa3 ⟨#[]⟩ 0 (.slice none 0 0)) 24 := b2.ext (hE1.trans hE3)
    have hEz0 : Ext w ((w1.alloc (.cells #[.string key, .int .i64 gone, .slice ua ps.length uc] 24)).setCell ⟨w.heap.size, 0, none⟩ (.string ⟨#[]⟩)) := Ext.setCell (hE0.trans (hE1.trans hE3)) (by exact Nat.le_refl _) _
    have hEz1 : Ext w (((w1.alloc (.cells #[.string key, .int .i64 gone, .slice ua ps.length uc] 24)).setCell ⟨w.heap.size, 0, none⟩ (.string ⟨#[]⟩)).setCell ⟨w.heap.size, 1, none⟩ (.int .i64 0)) := hEz0.setCell (by exact Nat.le_refl _) _
    have hEz2 : Ext w ((((w1.alloc (.cells #[.string key, .int .i64 gone, .slice ua ps.length uc] 24)).setCell ⟨w.heap.size, 0, none⟩ (.string ⟨#[]⟩)).setCell ⟨w.heap.size, 1, none⟩ (.int .i64 0)).setCell ⟨w.heap.size, 2, none⟩ (.slice none 0 0)) := hEz1.setCell (by exact Nat.le_refl _) _
    have bz : BoxAt ((((w1.alloc (.cells #[.string key, .int .i64 gone, .slice ua ps.length uc] 24)).setCell ⟨w.heap.size, 0, none⟩ (.string ⟨#[]⟩)).setCell ⟨w.heap.size, 1, none⟩ (.int .i64 0)).setCell ⟨w.heap.size, 2, none⟩ (.slice none 0 0)) w.heap.size (pa3 ⟨#[]⟩ 0 (.slice none 0 0)) 24 := (((b24.set 0 (.string ⟨#[]⟩)).set 1 (.int .i64 0)).set 2 (.slice none 0 0))
    refine bodyPost_ret (v := .tuple #[.agg (pa3 ⟨#[]⟩ 0 (.slice none 0 0)), .int .i64 er]) ?_ rfl ⟨_, [], rfl, RowsT.nil _, rfl, hEz2⟩
    generalize World.setCell _ _ _ = w99 at bz ⊢
    obtain ⟨z0, z1, z2⟩ := bz.pa
    simp [results, Tryd.results18, go_sem, z0, z1, z2]
    rfl
end Go.Proofs.YtcmgeccgahakbaaDoor

/- Package pack at partitions without rows: part.Check, whole, Part; clerestorylaw09.awake's first half. -/
namespace Go.Proofs.YtcmgeccgahakbaaDoor
open Go Go.RowKit
attribute [local go_sem] yields yUpon

theorem ownB_shape {w : World} {B : Nat} {v : Value} {l : List UInt8} (h : OwnB w B v l) : ∃ a c, v = .slice a l.length c := by
  rcases h.2 with ⟨rfl, h0⟩ | ⟨g, cap, cur, rfl, _⟩
  · exact ⟨none, 0, by rw [h0]⟩
  · exact ⟨_, cap, rfl⟩
/-- May a partition without rows be? -/
def chk0 (k : ByteArray) (g : Int) : Bool := decide (k.size ≤ 100) && decide (0 ≤ g) && decide (g ≤ 1099511627776)
set_option maxHeartbeats 1000000 in
theorem check0_ok (k : ByteArray) (g : Int) (hk : k.size ≤ 100) (h0 : 0 ≤ g) (h1 : g ≤ 1099511627776) (w : World) :
    Calls Tryd.prog 54 #[.agg #[.string k, .int .i64 g, .slice none 0 0]] w fun e w' => e = .returned (.bool true) ∧ Ext w w' := by
  have t1 : ¬ (100 : Int) < (k.size : Int) := by omega
  have t2 : ¬ g < 0 := by omega
  have t3 : ¬ 1099511627776 < g := by omega
  go_enter Tryd.func54, Tryd.ntmps54
  go_wp2
  go_loopw [28] (fun i wr => i = .int .i64 0 ∧ Ext w wr) (fun _ _ => 0)
  case atStart => exact ⟨rfl, (Ext.refl w).alloc _⟩
  case round =>
    obtain ⟨rfl, hE⟩ := hrel
    go_wp2_with fail
    go_ret
    exact ⟨rfl, hE⟩
set_option maxHeartbeats 1000000 in
theorem check0_no (k : ByteArray) (g : Int) (hk : k.size ≤ 100) (h0 : g < 0) (w : World) :
    Calls Tryd.prog 54 #[.agg #[.string k, .int .i64 g, .slice none 0 0]] w fun e w' => e = .returned (.bool false) ∧ Ext w w' := by
  have t1 : ¬ (100 : Int) < (k.size : Int) := by omega
  go_enter Tryd.func54, Tryd.ntmps54
  go_wp2
  go_ret
  exact ⟨rfl, (Ext.refl w).alloc _⟩

def whole0 (k : ByteArray) (g : Nat) : List UInt8 := num k.size ++ k.data.toList ++ num g ++ num 0
set_option maxHeartbeats 2000000 in
theorem whole0_any (k : ByteArray) (g : Nat) (hk : k.size ≤ 100) (hg : g ≤ 1099511627776) (w : World) :
    Calls Tryd.prog 55 #[.agg #[.string k, .int .i64 (g : Int), .slice none 0 0]] w fun e w' => ∃ v', e = .returned v' ∧ OwnB w' w.heap.size v' (whole0 k g) ∧ Ext w w' := by
  have hE0 := (Ext.refl w).alloc (.cells #[.string k, .int .i64 (g : Int), .slice none 0 0] 24)
  have hbx := BoxAt.made w #[.string k, .int .i64 (g : Int), .slice none 0 0] 24
  have l1 := num_length (x := k.size) (by omega)
  have l2 := num_length (x := g) (by omega)
  have lk : k.data.toList.length = k.size := by rw [Array.length_toList]; rfl
  obtain ⟨B1, hB1⟩ : ∃ B, B = num k.size ++ k.data.toList := ⟨_, rfl⟩
  obtain ⟨B2, hB2⟩ : ∃ B, B = B1 ++ num g := ⟨_, rfl⟩
  obtain ⟨B3, hB3⟩ : ∃ B, B = B2 ++ num 0 := ⟨_, rfl⟩
  have m1 : B1.length ≤ 200 := by rw [hB1, List.length_append]; omega
  have m2 : B2.length ≤ 300 := by rw [hB2, List.length_append]; omega
  have HW : Hid (whole0 k g = B3) := Lib.hid (by rw [hB3, hB2, hB1]; rfl)
  have H1 := Lib.hid hB1
  have H2 := Lib.hid hB2
  have H3 := Lib.hid hB3
  rw [HW.out]
  clear hB1 hB2 hB3 l1 l2 lk
  go_enter Tryd.func55, Tryd.ntmps55
  go_wp2
  refine wp_region_tab 11 [(2, fun v x => OwnB x w.heap.size v B1), (5, fun v x => OwnB x w.heap.size v B2), (9, fun v x => OwnB x w.heap.size v B3)] (by kernel_rfl) (by kernel_rfl) (by kernel_rfl) ⟨fun _ _ _ hE h => h.ext hE, fun _ _ _ hE h => h.ext hE, fun _ _ _ hE h => h.ext hE, trivial⟩ ?_
  have c0 := held (show (w.alloc (.cells #[.string k, .int .i64 (g : Int), .slice none 0 0] 24)).cell? ⟨w.heap.size, 0, none⟩ = some (.string k) from hbx.cell 0)
  have c1 := held (show (w.alloc (.cells #[.string k, .int .i64 (g : Int), .slice none 0 0] 24)).cell? ⟨w.heap.size, 1, none⟩ = some (.int .i64 (g : Int)) from hbx.cell 1)
  have c2 := held (show (w.alloc (.cells #[.string k, .int .i64 (g : Int), .slice none 0 0] 24)).cell? ⟨w.heap.size, 2, none⟩ = some (.slice none 0 0) from hbx.cell 2)
  refine rg_quiet rfl rfl rfl rfl ?_; intro K hK; go_big_quiet_op; go_big_quiet_on
  refine rg_quiet rfl rfl rfl rfl ?_; intro K hK; go_big_quiet_op; go_big_quiet_on
  refine rg_fact [] rfl rfl rfl (by kernel_rfl) (fun y hE hf => ?_) (fun v2 y2 hE2 hG2 h2 => ?_)
  · go_simp
    refine (pk_text (.slice none 0 0) [] k (by omega) y (SliceIn.nil y) (by simp)).mono ?_
    rintro e w' ⟨v', rfl, ho, hw⟩
    exact ⟨_, rfl, rg_doneR hE hw (by rw [H1.out]; exact ho.base (hE0.trans hE).le)⟩
  obtain ⟨a2, n2, rfl⟩ := ownB_shape h2
  clear hE2 hG2 h2
  simp only [Act.put, List.setIfInBounds_toArray, List.set_cons_zero, List.set_cons_succ]
  refine rg_quiet rfl rfl rfl rfl ?_; intro K hK; go_big_quiet_op; go_big_quiet_on
  refine rg_quiet rfl rfl rfl rfl ?_; intro K hK; go_big_quiet_op; go_big_quiet_on
  refine rg_fact [2] rfl rfl rfl (by kernel_rfl) (fun y hE hf => ?_) (fun v5 y5 hE5 hG5 h5 => ?_)
  · have h2 := (hf 2 (by simp)).2 rfl
    go_simp
    refine (pk_number _ B1 (g : Int) (by omega) (by omega) y (OwnB.bytes h2) (by omega)).mono ?_
    rintro e w' ⟨v', rfl, ho, hw⟩
    exact ⟨_, rfl, rg_doneR hE hw (by rw [H2.out]; exact ho.base (hE0.trans hE).le)⟩
  obtain ⟨a5, n5, rfl⟩ := ownB_shape h5
  clear hE5 hG5 h5
  simp only [Act.put, List.setIfInBounds_toArray, List.set_cons_zero, List.set_cons_succ]
  refine rg_quiet rfl rfl rfl rfl ?_; intro K hK; go_big_quiet_op; go_big_quiet_on
  refine rg_quiet rfl rfl rfl rfl ?_; intro K hK; go_big_quiet_op; go_big_quiet_on
  refine rg_quiet rfl rfl rfl rfl ?_; intro K hK; go_big_quiet_op; go_big_quiet_on
  refine rg_fact [5] rfl rfl rfl (by kernel_rfl) (fun y hE hf => ?_) (fun v9 y9 hE9 hG9 h9 => ?_)
  · have h5 := (hf 5 (by simp)).2 rfl
    go_simp
    refine (pk_number _ B2 0 (by omega) (by omega) y (OwnB.bytes h5) (by omega)).mono ?_
    rintro e w' ⟨v', rfl, ho, hw⟩
    exact ⟨_, rfl, rg_doneR hE hw (by rw [H3.out]; exact ho.base (hE0.trans hE).le)⟩
  obtain ⟨a9, n9, rfl⟩ := ownB_shape h9
  clear hE9 hG9 h9
  simp only [Act.put, List.setIfInBounds_toArray, List.set_cons_zero, List.set_cons_succ]
  refine rg_quiet rfl rfl rfl rfl ?_; intro K hK; go_big_quiet_op; go_big_quiet_on
  refine rel_nil fun w2 hE2 hG => ?_
  have h9 := (hG 9).2 rfl
  have hb2 := hbx.ext hE2
  have hEw := hE0.trans hE2
  clear c0 c1 c2 hG
  have c2 : w2.cell? ⟨w.heap.size, 2, none⟩ = some (.slice none 0 0) := hb2.cell 2
  go_wp2_with fail
  go_loopw [3, 19] (fun b i wr => b = .slice a9 B3.length n9 ∧ i = .int .i64 0 ∧ Ext w2 wr) (fun _ _ _ => 0)
  case atStart => exact ⟨rfl, rfl, Ext.refl w2⟩
  case round =>
    obtain ⟨rfl, rfl, hE⟩ := hrel
    go_wp2_with fail
    go_ret
    exact ⟨_, rfl, OwnB.ext h9 hE, hEw.trans hE⟩

set_option maxHeartbeats 1000000 in
theorem part0_any (k : ByteArray) (hk : k.size ≤ 100) (w : World) :
    Calls Tryd.prog 12 #[.agg #[.string k, .int .i64 0, .slice none 0 0]] w fun e w' => ∃ v', e = .returned (.tuple #[v', .int .i64 0]) ∧ OwnB w' w.heap.size v' (whole0 k 0) ∧ Ext w w' := by
  have hE0 := (Ext.refl w).alloc (.cells #[.string k, .int .i64 0, .slice none 0 0] 24)
  have hbx := BoxAt.made w #[.string k, .int .i64 0, .slice none 0 0] 24
  have l1 := num_length (x := k.size) (by omega)
  have l2 := num_length (x := 0) (by omega)
  have lk : k.data.toList.length = k.size := by rw [Array.length_toList]; rfl
  obtain ⟨L, hL⟩ : ∃ L, L = whole0 k 0 := ⟨_, rfl⟩
  have hLl : L.length ≤ 200 := by rw [hL]; unfold whole0; simp only [List.length_append]; omega
  have HL := Lib.hid hL
  rw [← hL]
  clear hL l1 l2 lk
  go_enter Tryd.func12, Tryd.ntmps12
  go_wp2_with (first
    | (go_at_call 54; go_must (refine (check0_ok k 0 hk (by omega) (by omega) _).mono ?_); rintro e w1 ⟨rfl, hE1⟩; have hb1 := hbx.ext hE1; have c0 : w1.cell? ⟨w.heap.size, 0, none⟩ = some (.string k) := hb1.cell 0; have c1 : w1.cell? ⟨w.heap.size, 1, none⟩ = some (.int .i64 0) := hb1.cell 1; have c2 : w1.cell? ⟨w.heap.size, 2, none⟩ = some (.slice none 0 0) := hb1.cell 2)
    | (go_at_call 55; go_must (refine (whole0_any k 0 hk (by omega) _).mono ?_); rintro e w2 ⟨v2, rfl, ho2, hE2⟩; rw [← HL.out] at ho2; have ho2' := ho2; obtain ⟨a2, n2, rfl⟩ := ownB_shape ho2'))
  go_ret2
  exact ⟨_, rfl, OwnB.base ho2 (hE0.trans hE1).le, (hE0.trans hE1).trans hE2⟩
end Go.Proofs.YtcmgeccgahakbaaDoor

/- pack.CheckBatch of batches whose partitions have no rows. -/
namespace Go.Proofs.YtcmgeccgahakbaaDoor
open Go Go.RowKit
attribute [local go_sem] yields yUpon

/-- A mutation: its table, its partition's key and gone; a note. -/
structure Mu where
  table : ByteArray
  key : ByteArray
  gone : Int
structure Nt where
  id : Int
  body : ByteArray
def Mu.cells (x : Mu) : List Value := [.string x.table, .string x.key, .int .i64 x.gone, .slice none 0 0]
def Nt.cells (x : Nt) : List Value := [.int .i64 x.id, .string x.body]
def MusIn (w : World) (v : Value) (l : List Mu) : Prop := SliceIn w v l.length (l.flatMap Mu.cells)
def NtsIn (w : World) (v : Value) (l : List Nt) : Prop := SliceIn w v l.length (l.flatMap Nt.cells)
theorem MusIn.ext {w w' : World} (hE : Ext w w') {v : Value} {l : List Mu} (h : MusIn w v l) : MusIn w' v l := SliceIn.ext hE h
theorem NtsIn.ext {w w' : World} (hE : Ext w w') {v : Value} {l : List Nt} (h : NtsIn w v l) : NtsIn w' v l := SliceIn.ext hE h
theorem mus_at : ∀ {l : List Mu} {k : Nat} (hk : k < l.length) {j : Nat} (_ : j < 4), (l.flatMap Mu.cells)[k * 4 + j]? = (l[k]).cells[j]?
  | [], k, hk, _, _ => by simp at hk
  | o :: l, 0, _, j, hj => by rw [List.flatMap_cons, Nat.zero_mul, Nat.zero_add, List.getElem?_append_left (by show j < 4; exact hj)]; rfl
  | o :: l, k + 1, hk, j, hj => by
    have ih := mus_at (l := l) (k := k) (by simpa using hk) hj
    have e : o.cells.length = 4 := rfl
    rw [List.flatMap_cons, List.getElem?_append_right (by rw [e]; omega), e, show (k + 1) * 4 + j - 4 = k * 4 + j by omega, ih]
    rfl
theorem nts_at : ∀ {l : List Nt} {k : Nat} (hk : k < l.length) {j : Nat} (_ : j < 2), (l.flatMap Nt.cells)[k * 2 + j]? = (l[k]).cells[j]?
  | [], k, hk, _, _ => by simp at hk
  | o :: l, 0, _, j, hj => by rw [List.flatMap_cons, Nat.zero_mul, Nat.zero_add, List.getElem?_append_left (by show j < 2; exact hj)]; rfl
  | o :: l, k + 1, hk, j, hj => by
    have ih := nts_at (l := l) (k := k) (by simpa using hk) hj
    have e : o.cells.length = 2 := rfl
    rw [List.flatMap_cons, List.getElem?_append_right (by rw [e]; omega), e, show (k + 1) * 2 + j - 2 = k * 2 + j by omega, ih]
    rfl
theorem MusIn.get {w : World} {v : Value} {l : List Mu} (h : MusIn w v l) : ∃ a c, v = .slice a l.length c ∧ l.length ≤ c ∧ c ≤ 9223372036854775807 ∧ ∀ k (hk : k < l.length), ∃ b o, a = some ⟨b, o, none⟩ ∧ w.cell? ⟨b, o + k * 4, none⟩ = some (.string (l[k]).table) ∧ w.cell? ⟨b, o + k * 4 + 1, none⟩ = some (.string (l[k]).key) ∧ w.cell? ⟨b, o + k * 4 + 2, none⟩ = some (.int .i64 (l[k]).gone) ∧ w.cell? ⟨b, o + k * 4 + 3, none⟩ = some (.slice none 0 0) := by
  obtain ⟨a, c, rfl, hc, hcm, ha, hcell⟩ := h
  unfold maxLen at hcm
  refine ⟨a, c, rfl, hc, by omega, fun k hk => ?_⟩
  obtain ⟨b, o, rfl, h0⟩ := hcell (k * 4 + 0) _ (mus_at hk (by decide))
  obtain ⟨b1, o1, e1, h1⟩ := hcell (k * 4 + 1) _ (mus_at hk (by decide))
  cases e1
  obtain ⟨b1, o1, e1, h2⟩ := hcell (k * 4 + 2) _ (mus_at hk (by decide))
  cases e1
  obtain ⟨b1, o1, e1, h3⟩ := hcell (k * 4 + 3) _ (mus_at hk (by decide))
  cases e1
  exact ⟨b, o, rfl, h0, by rw [Nat.add_assoc]; exact h1, by rw [Nat.add_assoc]; exact h2, by rw [Nat.add_assoc]; exact h3⟩
theorem NtsIn.get {w : World} {v : Value} {l : List Nt} (h : NtsIn w v l) : ∃ a c, v = .slice a l.length c ∧ l.length ≤ c ∧ c ≤ 9223372036854775807 ∧ ∀ k (hk : k < l.length), ∃ b o, a = some ⟨b, o, none⟩ ∧ w.cell? ⟨b, o + k * 2, none⟩ = some (.int .i64 (l[k]).id) ∧ w.cell? ⟨b, o + k * 2 + 1, none⟩ = some (.string (l[k]).body) := by
  obtain ⟨a, c, rfl, hc, hcm, ha, hcell⟩ := h
  unfold maxLen at hcm
  refine ⟨a, c, rfl, hc, by omega, fun k hk => ?_⟩
  obtain ⟨b, o, rfl, h0⟩ := hcell (k * 2 + 0) _ (nts_at hk (by decide))
  obtain ⟨b1, o1, e1, h1⟩ := hcell (k * 2 + 1) _ (nts_at hk (by decide))
  cases e1
  exact ⟨b, o, rfl, h0, by rw [Nat.add_assoc]; exact h1⟩

def idB (n : Int) : Bool := decide (1 ≤ n) && decide (n ≤ 1099511627776)
def okMu (x : Mu) : Bool := nameB x.table && decide (0 ≤ x.gone)
def okNt (x : Nt) : Bool := idB x.id && decide (x.body.size ≤ 4096)
def cbB (M : List Mu) (A : List Nt) (D : List Int) : Bool := decide (M.length ≤ 64) && decide (A.length ≤ 300) && decide (D.length ≤ 300) && M.all okMu && A.all okNt && D.all idB

set_option maxHeartbeats 400000 in
theorem id_any (n : Int) (w : World) : Calls Tryd.prog 85 #[.int .i64 n] w fun e w' => e = .returned (.bool (idB n)) ∧ w = w' := by
  by_cases h1 : 1 ≤ n
  · have t1 : decide (1 ≤ n) = true := by simpa using h1
    have e : idB n = decide (n ≤ 1099511627776) := by unfold idB; rw [t1]; rfl
    rw [e]
    go_enter Tryd.func85, Tryd.ntmps85
    go_wp2
    go_ret
    exact ⟨rfl, rfl⟩
  · have t1 : decide (1 ≤ n) = false := by simpa using h1
    have e : idB n = false := by unfold idB; rw [t1]; rfl
    rw [e]
    go_enter Tryd.func85, Tryd.ntmps85
    go_wp2
    go_ret
    exact ⟨rfl, rfl⟩
theorem check0_any (k : ByteArray) (g : Int) (hk : k.size ≤ 100) (h1 : g ≤ 1099511627776) (w : World) :
    Calls Tryd.prog 54 #[.agg #[.string k, .int .i64 g, .slice none 0 0]] w fun e w' => e = .returned (.bool (decide (0 ≤ g))) ∧ Ext w w' := by
  by_cases h0 : 0 ≤ g
  · rw [decide_eq_true h0]; exact check0_ok k g hk h0 h1 w
  · rw [decide_eq_false h0]; exact check0_no k g hk (by omega) w

theorem all_no {α : Type} {p : α → Bool} {l : List α} {k : Nat} (hk : k < l.length) (h : p l[k] = false) : l.all p = false := by
  rw [List.all_eq_false]
  exact ⟨_, List.getElem_mem hk, by rw [h]; decide⟩
theorem all_take {α : Type} {p : α → Bool} {l : List α} {k : Nat} (hk : k < l.length) (h : (l.take k).all p = true) (h1 : p l[k] = true) : (l.take (k + 1)).all p = true := by
  rw [List.take_succ_eq_append_getElem hk, List.all_append, h]; simpa using h1

set_option maxRecDepth 100000 in
set_option maxHeartbeats 8000000 in
theorem cb_any (vm va vd : Value) (M : List Mu) (A : List Nt) (D : List Int) (w : World) (hT : TabU w) (hM : MusIn w vm M) (hA : NtsIn w va A) (hD : IntsIn w vd .i64 D) (hMb : ∀ x ∈ M, x.table.size ≤ 100 ∧ x.key.size ≤ 100 ∧ x.gone ≤ 1099511627776) (hAb : ∀ x ∈ A, x.body.size ≤ 1000000) :
    Calls Tryd.prog 24 #[.agg #[vm, va, vd]] w fun e w' => e = .returned (.bool (cbB M A D)) ∧ Ext w w' := by
  obtain ⟨am, cm, rfl, hcm, hcmm, hgm⟩ := hM.get
  obtain ⟨aa, ca, rfl, hca, hcma, hga⟩ := hA.get
  obtain ⟨ad, cd, rfl, hcd, hcmd, _, hgd⟩ := hD
  unfold maxLen at hcmd
  have HGM := Lib.hid hgm
  have HGA := Lib.hid hga
  have HGD := Lib.hid hgd
  have HMB := Lib.hid hMb
  have HAB := Lib.hid hAb
  clear hgm hga hgd hMb hAb hM hA
  obtain ⟨mn, hmn⟩ : ∃ n, n = M.length := ⟨_, rfl⟩
  obtain ⟨an, han⟩ : ∃ n, n = A.length := ⟨_, rfl⟩
  obtain ⟨dn, hdn⟩ : ∃ n, n = D.length := ⟨_, rfl⟩
  rw [← hmn] at hcm ⊢
  rw [← han] at hca ⊢
  rw [← hdn] at hcd ⊢
  have HMN := Lib.hid hmn
  have HAN := Lib.hid han
  have HDN := Lib.hid hdn
  clear hmn han hdn
  have hE0 := (Ext.refl w).alloc (.cells #[.slice am mn cm, .slice aa an ca, .slice ad dn cd] 29)
  have hbx := BoxAt.made w #[.slice am mn cm, .slice aa an ca, .slice ad dn cd] 29
  obtain ⟨R, hR⟩ : ∃ R, R = cbB M A D := ⟨_, rfl⟩
  have HR : Hid (R = (decide (mn ≤ 64) && decide (an ≤ 300) && decide (dn ≤ 300) && M.all okMu && A.all okNt && D.all idB)) := Lib.hid (by rw [hR, HMN.out, HAN.out, HDN.out]; rfl)
  rw [← hR]
  clear hR
  by_cases hsz : mn ≤ 64 ∧ an ≤ 300 ∧ dn ≤ 300
  · obtain ⟨z1, z2, z3⟩ := hsz
    have y1 : ¬ (64 : Int) < (mn : Int) := by omega
    have y2 : ¬ (300 : Int) < (an : Int) := by omega
    have y3 : ¬ (300 : Int) < (dn : Int) := by omega
    have HR2 : Hid (R = (M.all okMu && A.all okNt && D.all idB)) := Lib.hid (by rw [HR.out, decide_eq_true z1, decide_eq_true z2, decide_eq_true z3]; rfl)
    clear HR
    go_enter Tryd.func24, Tryd.ntmps24
    go_wp2
    obtain ⟨W0, hW0⟩ : ∃ W0, W0 = w.alloc (.cells #[.slice am mn cm, .slice aa an ca, .slice ad dn cd] 29) := ⟨_, rfl⟩
    rw [← hW0] at hE0 hbx ⊢
    clear hW0
    go_loopw [28] (fun i wr => ∃ k : Nat, k ≤ mn ∧ i = .int .i64 (k : Int) ∧ Hid ((M.take k).all okMu = true) ∧ Ext W0 wr) (fun i _ => mn - (intOf i).toNat)
    case atStart => exact ⟨0, Nat.zero_le _, rfl, Lib.hid rfl, Ext.refl W0⟩
    case round =>
      obtain ⟨k, hk, rfl, HP, hE⟩ := hrel
      by_cases hlt : k < mn
      · have hkF : k < M.length := by rw [← HMN.out]; exact hlt
        obtain ⟨b, o, rfl, g0, g1, g2, g3⟩ := HGM.out k hkF
        replace g0 := (hE0.trans hE).cell g0
        replace g1 := (hE0.trans hE).cell g1
        replace g2 := (hE0.trans hE).cell g2
        replace g3 := (hE0.trans hE).cell g3
        obtain ⟨q1, q2, q3⟩ := HMB.out _ (List.getElem_mem hkF)
        have HP1 : Hid (okMu M[k] = true → (M.take (k + 1)).all okMu = true) := Lib.hid fun h => all_take hkF HP.out h
        have HP0 : Hid (okMu M[k] = false → R = false) := Lib.hid fun h => by rw [HR2.out, all_no hkF h]; rfl
        have HOK : Hid (okMu M[k] = (nameB (M[k]).table && decide (0 ≤ (M[k]).gone))) := Lib.hid rfl
        obtain ⟨ok, hok⟩ : ∃ ok, ok = okMu M[k] := ⟨_, rfl⟩
        obtain ⟨t, ht⟩ : ∃ t, t = (M[k]).table := ⟨_, rfl⟩
        obtain ⟨ky, hky⟩ : ∃ t, t = (M[k]).key := ⟨_, rfl⟩
        obtain ⟨gn, hgn⟩ : ∃ t, t = (M[k]).gone := ⟨_, rfl⟩
        rw [← hok] at HP1 HP0 HOK
        rw [← ht] at g0 q1 HOK
        rw [← hky] at g1 q2
        rw [← hgn] at g2 q3 HOK
        clear hok ht hky hgn
        have hEb := (Ext.refl wr).alloc (.cells #[.string t, .string ky, .int .i64 gn, .slice none 0 0] 64)
        have hbm := BoxAt.made wr #[.string t, .string ky, .int .i64 gn, .slice none 0 0] 64
        have hTb := hT.ext ((hE0.trans hE).trans hEb)
        have t1 : decide ((k : Int) < (mn : Int)) = true := by simp; omega
        cases hn : nameB t
        · have HN := Lib.hid hn
          clear hn
          go_wp2_with (go_at_call 84; go_must (refine (name_gen t (by omega) _ hTb).mono ?_); rintro e w5 ⟨rfl, hE5⟩; rw [HN.out])
          go_ret
          exact ⟨by rw [HP0.out (by rw [HOK.out, HN.out]; rfl)]; rfl, ((hE0.trans hE).trans hEb).trans hE5⟩
        · have HN := Lib.hid hn
          clear hn
          cases hg : decide (0 ≤ gn)
          all_goals
            have HG := Lib.hid hg
            clear hg
            go_wp2_with (first
              | (go_at_call 84; go_must (refine (name_gen t (by omega) _ hTb).mono ?_); rintro e w5 ⟨rfl, hE5⟩; rw [HN.out]; have hb5 := hbm.ext hE5; have y1 : w5.cell? ⟨wr.heap.size, 1, none⟩ = some (.string ky) := hb5.cell 1; have y2 : w5.cell? ⟨wr.heap.size, 2, none⟩ = some (.int .i64 gn) := hb5.cell 2; have y3 : w5.cell? ⟨wr.heap.size, 3, none⟩ = some (.slice none 0 0) := hb5.cell 3)
              | (go_at_call 54; go_must (refine (check0_any ky gn q2 q3 _).mono ?_); rintro e w6 ⟨rfl, hE6⟩; rw [HG.out]))
          · go_ret
            exact ⟨by rw [HP0.out (by rw [HOK.out, HN.out, HG.out]; rfl)]; rfl, (((hE0.trans hE).trans hEb).trans hE5).trans hE6⟩
          · go_roundw
            case rel => exact ⟨k + 1, by omega, by go_num, Lib.hid (HP1.out (by rw [HOK.out, HN.out, HG.out]; rfl)), ((hE.trans hEb).trans hE5).trans hE6⟩
            case measure => simp [intOf]; omega
      · obtain rfl : k = mn := by omega
        have HR3 : Hid (R = (A.all okNt && D.all idB)) := Lib.hid (by
          have h1 := HP.out
          rw [HMN.out, List.take_length] at h1
          rw [HR2.out, h1]; rfl)
        clear HR2 HP
        have hbx1 := hbx.ext hE
        have c1 : wr.cell? ⟨w.heap.size, 1, none⟩ = some (.slice aa an ca) := hbx1.cell 1
        have c2 : wr.cell? ⟨w.heap.size, 2, none⟩ = some (.slice ad dn cd) := hbx1.cell 2
        go_wp2_with fail
        obtain ⟨w1, rfl⟩ : ∃ w', w' = wr := ⟨_, rfl⟩
        go_loopw [46] (fun i wr => ∃ k : Nat, k ≤ an ∧ i = .int .i64 (k : Int) ∧ Hid ((A.take k).all okNt = true) ∧ Ext w1 wr) (fun i _ => an - (intOf i).toNat)
        case atStart => exact ⟨0, Nat.zero_le _, rfl, Lib.hid rfl, Ext.refl w1⟩
        case round =>
          obtain ⟨j, hj, rfl, HP, hE2⟩ := hrel
          have hEw := (hE0.trans hE).trans hE2
          by_cases hlt2 : j < an
          · have hkF : j < A.length := by rw [← HAN.out]; exact hlt2
            obtain ⟨b, o, rfl, g0, g1⟩ := HGA.out j hkF
            replace g0 := hEw.cell g0
            replace g1 := hEw.cell g1
            have q1 := HAB.out _ (List.getElem_mem hkF)
            have HP1 : Hid (okNt A[j] = true → (A.take (j + 1)).all okNt = true) := Lib.hid fun h => all_take hkF HP.out h
            have HP0 : Hid (okNt A[j] = false → R = false) := Lib.hid fun h => by rw [HR3.out, all_no hkF h]; rfl
            have HOK : Hid (okNt A[j] = (idB (A[j]).id && decide ((A[j]).body.size ≤ 4096))) := Lib.hid rfl
            obtain ⟨ok, hok⟩ : ∃ ok, ok = okNt A[j] := ⟨_, rfl⟩
            obtain ⟨x, hx⟩ : ∃ t, t = (A[j]).id := ⟨_, rfl⟩
            obtain ⟨bd, hbd⟩ : ∃ t, t = (A[j]).body := ⟨_, rfl⟩
            rw [← hok] at HP1 HP0 HOK
            rw [← hx] at g0 HOK
            rw [← hbd] at g1 q1 HOK
            clear hok hx hbd
            have hEb := (Ext.refl wr).alloc (.cells #[.int .i64 x, .string bd] 94)
            have t1 : decide ((j : Int) < (an : Int)) = true := by simp; omega
            cases hn : idB x
            · have HN := Lib.hid hn
              clear hn
              go_wp2_with (go_at_call 85; go_must (refine (id_any x _).mono ?_); rintro e w5 ⟨rfl, rfl⟩; rw [HN.out])
              go_ret
              exact ⟨by rw [HP0.out (by rw [HOK.out, HN.out]; rfl)]; rfl, hEw.trans hEb⟩
            · have HN := Lib.hid hn
              clear hn
              by_cases hs : bd.size ≤ 4096
              · have t2 : decide ((4096 : Int) < (bd.size : Int)) = false := by simp; omega
                go_wp2_with (go_at_call 85; go_must (refine (id_any x _).mono ?_); rintro e w5 ⟨rfl, rfl⟩; rw [HN.out])
                go_roundw
                case rel => exact ⟨j + 1, by omega, by go_num, Lib.hid (HP1.out (by rw [HOK.out, HN.out, decide_eq_true hs]; rfl)), hE2.trans hEb⟩
                case measure => simp [intOf]; omega
              · have t2 : decide ((4096 : Int) < (bd.size : Int)) = true := by simp; omega
                go_wp2_with (go_at_call 85; go_must (refine (id_any x _).mono ?_); rintro e w5 ⟨rfl, rfl⟩; rw [HN.out])
                go_ret
                exact ⟨by rw [HP0.out (by rw [HOK.out, HN.out, decide_eq_false hs]; rfl)]; rfl, hEw.trans hEb⟩
          · obtain rfl : j = an := by omega
            have HR4 : Hid (R = D.all idB) := Lib.hid (by
              have h1 := HP.out
              rw [HAN.out, List.take_length] at h1
              rw [HR3.out, h1]; rfl)
            clear HR3 HP
            have hbx2 := hbx1.ext hE2
            have c3 : wr.cell? ⟨w.heap.size, 2, none⟩ = some (.slice ad dn cd) := hbx2.cell 2
            clear c1 c2
            go_wp2_with fail
            obtain ⟨w2, rfl⟩ : ∃ w', w' = wr := ⟨_, rfl⟩
            go_loopw [64] (fun i wr => ∃ k : Nat, k ≤ dn ∧ i = .int .i64 (k : Int) ∧ Hid ((D.take k).all idB = true) ∧ wr = w2) (fun i _ => dn - (intOf i).toNat)
            case atStart => exact ⟨0, Nat.zero_le _, rfl, Lib.hid rfl, rfl⟩
            case round =>
              obtain ⟨d, hd, rfl, HP, rfl⟩ := hrel
              by_cases hlt3 : d < dn
              · have hkF : d < D.length := by rw [← HDN.out]; exact hlt3
                obtain ⟨b, o, rfl, g0⟩ := HGD.out d (.int .i64 D[d]) (by rw [kcells_get, List.getElem?_eq_getElem hkF]; rfl)
                replace g0 := hEw.cell g0
                have HP1 : Hid (idB D[d] = true → (D.take (d + 1)).all idB = true) := Lib.hid fun h => all_take hkF HP.out h
                have HP0 : Hid (idB D[d] = false → R = false) := Lib.hid fun h => by rw [HR4.out, all_no hkF h]
                obtain ⟨x, hx⟩ : ∃ t, t = D[d] := ⟨_, rfl⟩
                rw [← hx] at g0 HP1 HP0
                clear hx
                have t1 : decide ((d : Int) < (dn : Int)) = true := by simp; omega
                cases hn : idB x
                · have HN := Lib.hid hn
                  clear hn
                  go_wp2_with (go_at_call 85; go_must (refine (id_any x _).mono ?_); rintro e w5 ⟨rfl, rfl⟩; rw [HN.out])
                  go_ret
                  exact ⟨by rw [HP0.out HN.out]; rfl, hEw⟩
                · have HN := Lib.hid hn
                  clear hn
                  go_wp2_with (go_at_call 85; go_must (refine (id_any x _).mono ?_); rintro e w5 ⟨rfl, rfl⟩; rw [HN.out])
                  go_roundw
                  case rel => exact ⟨d + 1, by omega, by go_num, Lib.hid (HP1.out HN.out), (by first | rfl | trivial)⟩
                  case measure => simp [intOf]; omega
              · obtain rfl : d = dn := by omega
                have HR5 : Hid (R = true) := Lib.hid (by
                  have h1 := HP.out
                  rw [HDN.out, List.take_length] at h1
                  rw [HR4.out, h1])
                go_wp2_with fail
                go_ret
                exact ⟨by rw [HR5.out]; rfl, hEw⟩
  · have HR2 : Hid (R = false) := Lib.hid (by
      rw [HR.out]
      by_cases z1 : mn ≤ 64
      · by_cases z2 : an ≤ 300
        · rw [decide_eq_false (p := dn ≤ 300) (by omega)]; simp
        · rw [decide_eq_false z2]; simp
      · rw [decide_eq_false z1]; simp)
    have hex : (64 : Int) < (mn : Int) ∨ (¬ (64 : Int) < (mn : Int) ∧ (300 : Int) < (an : Int)) ∨ (¬ (64 : Int) < (mn : Int) ∧ ¬ (300 : Int) < (an : Int) ∧ (300 : Int) < (dn : Int)) := by omega
    clear HR hsz
    rcases hex with y1 | ⟨y1, y2⟩ | ⟨y1, y2, y3⟩
    all_goals
      go_enter Tryd.func24, Tryd.ntmps24
      go_wp2
      go_ret
      exact ⟨by rw [HR2.out]; rfl, hE0⟩
end Go.Proofs.YtcmgeccgahakbaaDoor
