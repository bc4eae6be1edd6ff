/- Rows and columns as plain data; how they lie in memory. -/
import Derived.Test.YtcmgeccgahakbaaDoorS3
import Derived.Test.YtcmgeccgahakbaaDoorS1
import Derived.Laws.AppendOwnNone
set_option linter.unusedSimpArgs false
set_option linter.unusedVariables false
namespace Go.Proofs.YtcmgeccgahakbaaDoor
open Go Go.RowKit

structure Co where
  name : ByteArray
  cell : Cl
structure Ro where
  key : ByteArray
  live : Cl
  gone : Int
  shade : Int
  cols : List Co
@[simp] theorem Co.eta (c : Co) : Co.mk c.name c.cell = c := rfl
def zeroCl : Cl := ⟨⟨#[]⟩, false, 0, 0⟩
def coCells : List Co → List Value
  | [] => []
  | c :: l => .string c.name :: .string c.cell.val :: .bool c.cell.dead :: .int .i64 c.cell.at_ :: .int .i64 c.cell.fin :: coCells l
theorem coCells_length (l : List Co) : (coCells l).length = l.length * 5 := by
  induction l with
  | nil => rfl
  | cons c l ih => simp [coCells, ih]; omega
theorem coCells_append (l m : List Co) : coCells (l ++ m) = coCells l ++ coCells m := by
  induction l with
  | nil => rfl
  | cons c l ih => simp [coCells, ih]
theorem coCells_get : ∀ (l : List Co) (k : Nat) (h : k < l.length), (coCells l)[k * 5]? = some (.string l[k].name) ∧ (coCells l)[k * 5 + 1]? = some (.string l[k].cell.val) ∧ (coCells l)[k * 5 + 2]? = some (.bool l[k].cell.dead) ∧ (coCells l)[k * 5 + 3]? = some (.int .i64 l[k].cell.at_) ∧ (coCells l)[k * 5 + 4]? = some (.int .i64 l[k].cell.fin)
  | c :: l, 0, _ => by simp [coCells]
  | c :: l, k + 1, h => by
    have ih := coCells_get l k (by simpa using h)
    have e : (k + 1) * 5 = k * 5 + 5 := by omega
    simp only [e, coCells, List.getElem_cons_succ]
    exact ⟨by simpa using ih.1, by simpa using ih.2.1, by simpa using ih.2.2.1, by simpa using ih.2.2.2.1, by simpa using ih.2.2.2.2⟩
def ColsIn (w : World) (v : Value) (l : List Co) : Prop := SliceIn w v l.length (coCells l)
theorem ColsIn.ext {w w' : World} (hE : Ext w w') {v : Value} {l : List Co} (h : ColsIn w v l) : ColsIn w' v l := SliceIn.ext hE h
theorem ColsIn.nil (w : World) : ColsIn w (.slice none 0 0) [] := SliceIn.nil w
/-- A column at a place in memory. -/
structure CoAt (w : World) (b o : Nat) (c : Co) : Prop where
  c0 : w.cell? ⟨b, o, none⟩ = some (.string c.name)
  c1 : w.cell? ⟨b, o + 1, none⟩ = some (.string c.cell.val)
  c2 : w.cell? ⟨b, o + 2, none⟩ = some (.bool c.cell.dead)
  c3 : w.cell? ⟨b, o + 3, none⟩ = some (.int .i64 c.cell.at_)
  c4 : w.cell? ⟨b, o + 4, none⟩ = some (.int .i64 c.cell.fin)
theorem CoAt.ext {w w' : World} (hE : Ext w w') {b o : Nat} {c : Co} (h : CoAt w b o c) : CoAt w' b o c := ⟨hE.cell h.c0, hE.cell h.c1, hE.cell h.c2, hE.cell h.c3, hE.cell h.c4⟩
theorem ColsIn.get {w : World} {v : Value} {l : List Co} (h : ColsIn w v l) : ∃ a c, v = .slice a l.length c ∧ l.length ≤ c ∧ c ≤ 9223372036854775807 ∧ ∀ k (hk : k < l.length), ∃ b o, a = some ⟨b, o, none⟩ ∧ CoAt w b (o + k * 5) l[k] := by
  obtain ⟨a, c, rfl, hc, hcm, ha, hcell⟩ := h
  unfold maxLen at hcm
  refine ⟨a, c, rfl, hc, by omega, fun k hk => ?_⟩
  obtain ⟨g0, g1, g2, g3, g4⟩ := coCells_get l k hk
  obtain ⟨b, o, rfl, h0⟩ := hcell _ _ g0
  obtain ⟨b1, o1, e1, h1⟩ := hcell _ _ g1
  obtain ⟨b2, o2, e2, h2⟩ := hcell _ _ g2
  obtain ⟨b3, o3, e3, h3⟩ := hcell _ _ g3
  obtain ⟨b4, o4, e4, h4⟩ := hcell _ _ g4
  cases e1; cases e2; cases e3; cases e4
  exact ⟨b, o, rfl, h0, h1, h2, h3, h4⟩
def cl4 (c : Cl) : Array Value := #[.string c.val, .bool c.dead, .int .i64 c.at_, .int .i64 c.fin]
theorem BoxAt.cl {w : World} {p : Nat} {c : Cl} {T : TypeId} (h : BoxAt w p (cl4 c) T) : w.cell? ⟨p, 0, none⟩ = some (.string c.val) ∧ w.cell? ⟨p, 1, none⟩ = some (.bool c.dead) ∧ w.cell? ⟨p, 2, none⟩ = some (.int .i64 c.at_) ∧ w.cell? ⟨p, 3, none⟩ = some (.int .i64 c.fin) :=
  ⟨h.cell 0, h.cell 1, h.cell 2, h.cell 3⟩
theorem BoxAt.put4 {w : World} {p : Nat} {c d : Cl} {T : TypeId} (h : BoxAt w p (cl4 c) T) : BoxAt ((((w.setCell ⟨p, 0, none⟩ (.string d.val)).setCell ⟨p, 1, none⟩ (.bool d.dead)).setCell ⟨p, 2, none⟩ (.int .i64 d.at_)).setCell ⟨p, 3, none⟩ (.int .i64 d.fin)) p (cl4 d) T :=
  (((h.set 0 _).set 1 _).set 2 _).set 3 _
theorem Ext.put4 {a w : World} (h : Ext a w) {p : Nat} (hp : a.heap.size ≤ p) {v0 v1 v2 v3 : Value} : Ext a ((((w.setCell ⟨p, 0, none⟩ v0).setCell ⟨p, 1, none⟩ v1).setCell ⟨p, 2, none⟩ v2).setCell ⟨p, 3, none⟩ v3) :=
  (((h.setCell hp _).setCell hp _).setCell hp _).setCell hp _

/-- A column's cell. -/
def cellOf : List Co → ByteArray → Cl
  | [], _ => zeroCl
  | c :: l, n => if c.name.toList == n.toList then c.cell else cellOf l n

def ro8 (r : Ro) (v : Value) : Array Value := #[.string r.key, .string r.live.val, .bool r.live.dead, .int .i64 r.live.at_, .int .i64 r.live.fin, .int .i64 r.gone, .int .i64 r.shade, v]
theorem BoxAt.ro {w : World} {p : Nat} {r : Ro} {v : Value} {T : TypeId} (h : BoxAt w p (ro8 r v) T) : w.cell? ⟨p, 0, none⟩ = some (.string r.key) ∧ w.cell? ⟨p, 1, none⟩ = some (.string r.live.val) ∧ w.cell? ⟨p, 2, none⟩ = some (.bool r.live.dead) ∧ w.cell? ⟨p, 3, none⟩ = some (.int .i64 r.live.at_) ∧ w.cell? ⟨p, 4, none⟩ = some (.int .i64 r.live.fin) ∧ w.cell? ⟨p, 5, none⟩ = some (.int .i64 r.gone) ∧ w.cell? ⟨p, 6, none⟩ = some (.int .i64 r.shade) ∧ w.cell? ⟨p, 7, none⟩ = some v :=
  ⟨h.cell 0, h.cell 1, h.cell 2, h.cell 3, h.cell 4, h.cell 5, h.cell 6, h.cell 7⟩

def pa3 (k : ByteArray) (g : Int) (u : Value) : Array Value := #[.string k, .int .i64 g, u]
theorem BoxAt.pa {w : World} {p : Nat} {k : ByteArray} {g : Int} {u : Value} {T : TypeId} (h : BoxAt w p (pa3 k g u) T) : w.cell? ⟨p, 0, none⟩ = some (.string k) ∧ w.cell? ⟨p, 1, none⟩ = some (.int .i64 g) ∧ w.cell? ⟨p, 2, none⟩ = some u := ⟨h.cell 0, h.cell 1, h.cell 2⟩

theorem info_Col : (Tryd.prog.info? 154).map (fun i => (i.zero, i.size, i.bytes)) = some (some (.agg #[.string ⟨#[]⟩, .string ⟨#[]⟩, .bool false, .int .i64 0, .int .i64 0]), 5, 56) := by kernel_rfl
theorem und_Cols : Tryd.prog.underlying 89 = some (.slice 154) := by kernel_rfl
def co5 (c : Co) : Array Value := #[.string c.name, .string c.cell.val, .bool c.cell.dead, .int .i64 c.cell.at_, .int .i64 c.cell.fin]
theorem BoxAt.co {w : World} {p : Nat} {c : Co} {T : TypeId} (h : BoxAt w p (co5 c) T) : w.cell? ⟨p, 0, none⟩ = some (.string c.name) ∧ w.cell? ⟨p, 1, none⟩ = some (.string c.cell.val) ∧ w.cell? ⟨p, 2, none⟩ = some (.bool c.cell.dead) ∧ w.cell? ⟨p, 3, none⟩ = some (.int .i64 c.cell.at_) ∧ w.cell? ⟨p, 4, none⟩ = some (.int .i64 c.cell.fin) :=
  ⟨h.cell 0, h.cell 1, h.cell 2, h.cell 3, h.cell 4⟩
theorem ownsRow_lenOf {w : World} {B : Nat} {e : TypeId} {size : Nat} {v : Value} {n : Nat} {xs : List Value} (h : w.ownsRow B e size v n xs) : lenOf v = n := by
  rcases h.2 with ⟨rfl, rfl⟩ | ⟨g, cap, cur, rfl, _⟩ <;> rfl

end Go.Proofs.YtcmgeccgahakbaaDoor

/- pack's reader: cell, col. -/
namespace Go.Proofs.YtcmgeccgahakbaaDoor
open Go Go.RowKit
attribute [local go_sem] yields yUpon

section
variable {w a : World} {q : Nat} {v : Value} {B : List UInt8} {s s' : Nat × Int}
/-- A store into a new block. -/
theorem RdAt.put (h : RdAt w q v B s) (hT : Touch9 w a q) (h1 : RdAt a q v B s') {p : Nat} (hp : w.heap.size ≤ p) (i : Nat) (u : Value) : RdAt (a.setCell ⟨p, i, none⟩ u) q v B s' :=
  ⟨h1.box.other (by have := h.lt; omega) i u, (hT.put2 hp i u).slice h.bytes h.off, h.off, h1.le, h1.big⟩
theorem rd_done (h : RdAt w q v B s) (hT : Touch9 w a q) (h1 : RdAt a q v B s') {p : Nat} (hp : w.heap.size ≤ p) (u0 u1 u2 u3 : Value) :
    RdAt ((((a.setCell ⟨p, 0, none⟩ u0).setCell ⟨p, 1, none⟩ u1).setCell ⟨p, 2, none⟩ u2).setCell ⟨p, 3, none⟩ u3) q v B s' ∧ Touch9 w ((((a.setCell ⟨p, 0, none⟩ u0).setCell ⟨p, 1, none⟩ u1).setCell ⟨p, 2, none⟩ u2).setCell ⟨p, 3, none⟩ u3) q :=
  ⟨h.put (((hT.put2 hp 0 u0).put2 hp 1 u1).put2 hp 2 u2) (h.put ((hT.put2 hp 0 u0).put2 hp 1 u1) (h.put (hT.put2 hp 0 u0) (h.put hT h1 hp 0 u0) hp 1 u1) hp 2 u2) hp 3 u3, (((hT.put2 hp 0 u0).put2 hp 1 u1).put2 hp 2 u2).put2 hp 3 u3⟩
end
def cellR (B : List UInt8) (s : Nat × Int) : Cl × (Nat × Int) :=
  if (numR B s).1 = 0 then (zeroCl, (numR B s).2) else
  if (truR B (numR B s).2).1 = true then (⟨⟨#[]⟩, true, (numR B s).1, 0⟩, (truR B (numR B s).2).2) else
  (⟨(txtR B (truR B (numR B s).2).2).1, false, (numR B s).1, ((numR B (txtR B (truR B (numR B s).2).2).2).1 : Int)⟩, (numR B (txtR B (truR B (numR B s).2).2).2).2)

set_option maxRecDepth 100000 in
set_option maxHeartbeats 4000000 in
theorem rd_cell {w : World} {q : Nat} {v : Value} {B : List UInt8} {s : Nat × Int} (h : RdAt w q v B s) :
    Calls Tryd.prog 162 #[.pointer (some ⟨q, 0, none⟩)] w fun e w' => e = .returned (.agg (cl4 (cellR B s).1)) ∧ RdAt w' q v B (cellR B s).2 ∧ Touch9 w w' q := by
  have hq := h.lt
  have hE0 := (Ext.refl w).alloc (.cells (cl4 zeroCl) 88)
  have b2 := BoxAt.made w (cl4 zeroCl) 88
  have h0 := h.ext hE0
  have hq2 : w.heap.size ≠ q := by omega
  obtain ⟨A, s1, hA⟩ : ∃ A s1, numR B s = (A, s1) := ⟨_, _, rfl⟩
  have k1 := rd_number h0
  rw [hA] at k1
  simp only at k1
  have K1 := Lib.hid k1
  obtain ⟨CS, hCS⟩ : ∃ CS, CS = cellR B s := ⟨_, rfl⟩
  rw [← hCS]
  unfold cellR at hCS
  rw [hA] at hCS
  simp only at hCS
  clear k1 hA
  by_cases hA0 : A = 0
  · subst hA0
    rw [if_pos rfl] at hCS
    subst hCS
    have K1' : Hid (Calls Tryd.prog 74 #[.pointer (some ⟨q, 0, none⟩)] (w.alloc (.cells (cl4 zeroCl) 88)) fun e w' => e = .returned (.int .i64 0) ∧ RdAt w' q v B s1 ∧ Touch9 (w.alloc (.cells (cl4 zeroCl) 88)) w' q) := Lib.hid K1.out
    clear K1
    go_enter Tryd.func162, Tryd.ntmps162
    go_wp2_with (go_at_call 74; go_must (refine K1'.out.mono ?_); rintro e w1 ⟨rfl, h1, hT1⟩; have b21 := hT1.box b2 hq2; have y0 : ∀ o, (w1.alloc o).cell? ⟨w.heap.size, 0, none⟩ = some (.string ⟨#[]⟩) := fun o => b21.allocs o 0; have y1 : ∀ o, (w1.alloc o).cell? ⟨w.heap.size, 1, none⟩ = some (.bool false) := fun o => b21.allocs o 1; have y2 : ∀ o, (w1.alloc o).cell? ⟨w.heap.size, 2, none⟩ = some (.int .i64 0) := fun o => b21.allocs o 2; have y3 : ∀ o, (w1.alloc o).cell? ⟨w.heap.size, 3, none⟩ = some (.int .i64 0) := fun o => b21.allocs o 3; have xf := b21.frees)
    refine bodyPost_ret (v := .agg (cl4 zeroCl)) ?_ rfl ⟨rfl, rd_done h ((Touch9.of_ext hE0 q).trans (hT1.alloc _)) (h1.ext ((Ext.refl w1).alloc _)) (Nat.le_refl _) _ _ _ _⟩
    generalize hW : World.setCell _ _ _ = w9
    have hb : BoxAt w9 w.heap.size (cl4 zeroCl) 88 := by rw [← hW]; exact (b21.ext ((Ext.refl _).alloc _)).put4 (d := zeroCl)
    obtain ⟨z0, z1, z2, z3⟩ := hb.cl
    simp [results, Tryd.results162, go_sem, z0, z1, z2, z3]
    rfl
  · rw [if_neg hA0] at hCS
    have hAi : ¬ (A : Int) = 0 := by omega
    obtain ⟨T, s2, hTr⟩ : ∃ T s2, truR B s1 = (T, s2) := ⟨_, _, rfl⟩
    rw [hTr] at hCS
    simp only at hCS
    have HT := Lib.hid hTr
    have HCS := Lib.hid hCS
    clear hTr hCS
    go_enter Tryd.func162, Tryd.ntmps162
    go_wp2_with (go_at_call 74; go_must (refine K1.out.mono ?_); rintro e w1 ⟨rfl, h1, hT1⟩; have b21 := hT1.box b2 hq2; have hq3 : w1.heap.size ≠ q := (by have := h1.lt; omega))
    have b3 := BoxAt.made w1 (cl4 ⟨⟨#[]⟩, false, (A : Int), 0⟩) 88
    have hEa := (Ext.refl w1).alloc (.cells (cl4 ⟨⟨#[]⟩, false, (A : Int), 0⟩) 88)
    have h1a := h1.ext hEa
    have hT1a := (Touch9.of_ext hE0 q).trans (hT1.more hEa)
    have hle1 : w.heap.size ≤ w1.heap.size := by have := hE0.le; have := hT1.size; omega
    have hne23 : w.heap.size ≠ w1.heap.size := by have := b21.lt; omega
    refine (rd_truth h1a).mono ?_
    rintro e w2 ⟨rfl, h2, hT2⟩
    rw [HT.out] at h2
    simp only at h2
    rw [HT.out]
    have b22 := hT2.box (b21.ext hEa) hq2
    have b32 := hT2.box b3 hq3
    have hT2a := hT1a.trans hT2
    have c1 : w2.cell? ⟨w1.heap.size, 1, none⟩ = some (.bool false) := b32.cell 1
    have f1 := b32.free 1
    have r2 := h.put hT2a h2 hle1 1 (.bool T)
    have hT3 := hT2a.put2 hle1 1 (.bool T)
    have b33 : BoxAt (w2.setCell ⟨w1.heap.size, 1, none⟩ (.bool T)) w1.heap.size (cl4 ⟨⟨#[]⟩, T, (A : Int), 0⟩) 88 := b32.set 1 _
    have b23 : BoxAt (w2.setCell ⟨w1.heap.size, 1, none⟩ (.bool T)) w.heap.size (cl4 zeroCl) 88 := b22.other hne23 1 _
    cases hTb : T
    · subst hTb
      obtain ⟨X, s3, hX⟩ : ∃ X s3, txtR B s2 = (X, s3) := ⟨_, _, rfl⟩
      obtain ⟨F, s4, hF⟩ : ∃ F s4, numR B s3 = (F, s4) := ⟨_, _, rfl⟩
      have hC : CS = (⟨X, false, (A : Int), (F : Int)⟩, s4) := by rw [HCS.out, if_neg (by simp), hX]; simp only; rw [hF]
      have HC := Lib.hid hC
      clear hC
      have HX := Lib.hid hX
      have HF := Lib.hid hF
      clear hX hF
      go_wp2_with fail
      refine (rd_text r2).mono ?_
      rintro e w4 ⟨rfl, h4, hT4⟩
      rw [HX.out] at h4
      simp only at h4
      rw [HX.out]
      have b24 := hT4.box b23 hq2
      have b34 := hT4.box b33 hq3
      have hT4a := hT3.trans hT4
      have d0 : w4.cell? ⟨w1.heap.size, 0, none⟩ = some (.string ⟨#[]⟩) := b34.cell 0
      have f0 := b34.free 0
      have r4 := h.put hT4a h4 hle1 0 (.string X)
      have hT5 := hT4a.put2 hle1 0 (.string X)
      have b35 : BoxAt (w4.setCell ⟨w1.heap.size, 0, none⟩ (.string X)) w1.heap.size (cl4 ⟨X, false, (A : Int), 0⟩) 88 := b34.set 0 _
      have b25 : BoxAt (w4.setCell ⟨w1.heap.size, 0, none⟩ (.string X)) w.heap.size (cl4 zeroCl) 88 := b24.other hne23 0 _
      go_wp2_with fail
      refine (rd_number r4).mono ?_
      rintro e w6 ⟨rfl, h6, hT6⟩
      rw [HF.out] at h6
      simp only at h6
      rw [HF.out]
      have b26 := hT6.box b25 hq2
      have b36 := hT6.box b35 hq3
      have hT6a := hT5.trans hT6
      have d3 : w6.cell? ⟨w1.heap.size, 3, none⟩ = some (.int .i64 0) := b36.cell 3
      have f3 := b36.free 3
      have r6 := h.put hT6a h6 hle1 3 (.int .i64 (F : Int))
      have hT7 := hT6a.put2 hle1 3 (.int .i64 (F : Int))
      have b37 : BoxAt (w6.setCell ⟨w1.heap.size, 3, none⟩ (.int .i64 (F : Int))) w1.heap.size (cl4 ⟨X, false, (A : Int), (F : Int)⟩) 88 := b36.set 3 _
      have b27 : BoxAt (w6.setCell ⟨w1.heap.size, 3, none⟩ (.int .i64 (F : Int))) w.heap.size (cl4 zeroCl) 88 := b26.other hne23 3 _
      generalize hw7 : w6.setCell ⟨w1.heap.size, 3, none⟩ (.int .i64 (F : Int)) = w7 at r6 hT7 b37 b27
      have y0 : w7.cell? ⟨w.heap.size, 0, none⟩ = some (.string ⟨#[]⟩) := b27.cell 0
      have y1 : w7.cell? ⟨w.heap.size, 1, none⟩ = some (.bool false) := b27.cell 1
      have y2 : w7.cell? ⟨w.heap.size, 2, none⟩ = some (.int .i64 0) := b27.cell 2
      have y3 : w7.cell? ⟨w.heap.size, 3, none⟩ = some (.int .i64 0) := b27.cell 3
      have xf := b27.free
      have z0 : w7.cell? ⟨w1.heap.size, 0, none⟩ = some (.string X) := b37.cell 0
      have z1 : w7.cell? ⟨w1.heap.size, 1, none⟩ = some (.bool false) := b37.cell 1
      have z2 : w7.cell? ⟨w1.heap.size, 2, none⟩ = some (.int .i64 (A : Int)) := b37.cell 2
      have z3 : w7.cell? ⟨w1.heap.size, 3, none⟩ = some (.int .i64 (F : Int)) := b37.cell 3
      go_wp2_with fail
      refine bodyPost_ret (v := .agg (cl4 ⟨X, false, (A : Int), (F : Int)⟩)) ?_ rfl ⟨by rw [HC.out], by rw [HC.out]; exact rd_done h hT7 r6 (Nat.le_refl _) _ _ _ _⟩
      generalize hW : World.setCell _ _ _ = w9
      have hb : BoxAt w9 w.heap.size (cl4 ⟨X, false, (A : Int), (F : Int)⟩) 88 := by rw [← hW]; exact b27.put4 (d := ⟨X, false, (A : Int), (F : Int)⟩)
      obtain ⟨z0, z1, z2, z3⟩ := hb.cl
      simp [results, Tryd.results162, go_sem, z0, z1, z2, z3]
      rfl
    · subst hTb
      have HC : Hid (CS = (⟨⟨#[]⟩, true, (A : Int), 0⟩, s2)) := Lib.hid (by rw [HCS.out, if_pos rfl])
      generalize hw3 : w2.setCell ⟨w1.heap.size, 1, none⟩ (.bool true) = w3 at r2 hT3 b33 b23
      have y0 : w3.cell? ⟨w.heap.size, 0, none⟩ = some (.string ⟨#[]⟩) := b23.cell 0
      have y1 : w3.cell? ⟨w.heap.size, 1, none⟩ = some (.bool false) := b23.cell 1
      have y2 : w3.cell? ⟨w.heap.size, 2, none⟩ = some (.int .i64 0) := b23.cell 2
      have y3 : w3.cell? ⟨w.heap.size, 3, none⟩ = some (.int .i64 0) := b23.cell 3
      have xf := b23.free
      have z0 : w3.cell? ⟨w1.heap.size, 0, none⟩ = some (.string ⟨#[]⟩) := b33.cell 0
      have z1 : w3.cell? ⟨w1.heap.size, 1, none⟩ = some (.bool true) := b33.cell 1
      have z2 : w3.cell? ⟨w1.heap.size, 2, none⟩ = some (.int .i64 (A : Int)) := b33.cell 2
      have z3 : w3.cell? ⟨w1.heap.size, 3, none⟩ = some (.int .i64 0) := b33.cell 3
      go_wp2_with fail
      refine bodyPost_ret (v := .agg (cl4 ⟨⟨#[]⟩, true, (A : Int), 0⟩)) ?_ rfl ⟨by rw [HC.out], by rw [HC.out]; exact rd_done h hT3 r2 (Nat.le_refl _) _ _ _ _⟩
      generalize hW : World.setCell _ _ _ = w9
      have hb : BoxAt w9 w.heap.size (cl4 ⟨⟨#[]⟩, true, (A : Int), 0⟩) 88 := by rw [← hW]; exact b23.put4 (d := ⟨⟨#[]⟩, true, (A : Int), 0⟩)
      obtain ⟨z0, z1, z2, z3⟩ := hb.cl
      simp [results, Tryd.results162, go_sem, z0, z1, z2, z3]
      rfl
end Go.Proofs.YtcmgeccgahakbaaDoor

/- 'append' to a list of columns of one's own. -/
namespace Go.Proofs.YtcmgeccgahakbaaDoor
open Go Go.RowKit

theorem coCells_one (l : List Co) : ∀ u ∈ coCells l, u.oneCell' = true := by
  induction l with
  | nil => intro u h; cases h
  | cons c l ih =>
    intro u h
    simp only [coCells, List.mem_cons] at h
    rcases h with rfl | rfl | rfl | rfl | rfl | h
    · rfl
    · rfl
    · rfl
    · rfl
    · rfl
    · exact ih u h
theorem appCols {ops : Array Oper} {rest : List Oper} {o : Oper} {a : Act} {Q : Exit → Act → World → Prop} (w : World) (hg : o.guard = none) (s x : Operand)
    (hop : o.op = Op.call { callee := Callee.builtin Builtin.append, args := #[s, x], argTypes := #[89, 89] })
    (B : Nat) (hB : B ≤ w.heap.size) (v : Value) (l : List Co) (hown : w.ownsRow B 154 5 v l.length (coCells l)) (hs : a.eval s = v) (u : Value) (m : List Co) (hin : ColsIn w u m) (hx : a.eval x = u) (hb : l.length + m.length ≤ 1000000)
    (hK : ∀ v' w', w'.ownsRow B 154 5 v' (l ++ m).length (coCells (l ++ m)) → w.grownBy w' v.ownBlock → wpList Tryd.prog ops Q rest (a.put o.dst v') w') : wpList Tryd.prog ops Q (o :: rest) a w := by
  obtain ⟨i0, hi, hz0, hz1, hz2⟩ := info_parts info_Col
  obtain ⟨ao, c, rfl, hc, hcm, ha, hcell⟩ := hin
  cases ao with
  | none =>
    have hc0 := ha rfl
    obtain rfl : m = [] := List.eq_nil_of_length_eq_zero (by omega)
    subst hc0
    refine wpList_append_own_none hg s x 89 hop B 154 i0 5 und_Cols hi v l.length (coCells l) hs hown hx (hK _ _ (by rw [List.append_nil]; exact hown) ⟨rfl, rfl, rfl, Nat.le_refl _, fun _ _ _ => rfl⟩)
  | some ad =>
    refine wpList_append_own _ hg s x 89 hop B 154 i0 _ 5 56 und_Cols hi hz0 hz1 hz2 rfl (by decide) v l.length (coCells l) hs hown ad m.length c (coCells m) hx (coCells_length m) ?_ (coCells_one m) (by unfold maxLen; omega) (by omega) hB ?_
    · intro j u hj
      obtain ⟨b, o, e, h⟩ := hcell j u hj
      cases e
      rw [Addr.add_lit]
      exact h
    · intro v' w' h2 h3 _
      refine hK v' w' ?_ h3
      rw [coCells_append, List.length_append]
      exact h2
theorem cols_own {w : World} {B : Nat} {v : Value} {l : List Co} (h : w.ownsRow B 154 5 v l.length (coCells l)) : ColsIn w v l := SliceIn.of_owns h
theorem cols_two (w : World) (c d : Co) (T : TypeId) : ColsIn (w.alloc (.cells (co5 c ++ co5 d) T)) (.slice (some ⟨w.heap.size, 0, none⟩) 2 2) [c, d] :=
  SliceIn.made w (co5 c ++ co5 d) T 2 (by unfold maxLen; decide)
theorem own_shape {w : World} {B : Nat} {e : TypeId} {size : Nat} {v : Value} {n : Nat} {xs : List Value} (h : w.ownsRow B e size v n xs) : ∃ a c, v = .slice a n c := by
  obtain ⟨a, c, h, _⟩ := SliceIn.of_owns h
  exact ⟨a, c, h⟩
theorem own_ne_box {w : World} {B : Nat} {e e' : TypeId} {size : Nat} {v : Value} {n b : Nat} {xs : List Value} {cs : Array Value} (h : w.ownsRow B e size v n xs) (hb : BoxAt w b cs e') (hne : e ≠ e') : v.ownBlock = none ∨ v.ownBlock ≠ some b := by
  rcases h.2 with ⟨rfl, _⟩ | ⟨g, cap, cur, rfl, _, hg, _⟩
  · exact .inl rfl
  · refine .inr (fun h => ?_)
    have hgb : g = b := Option.some.inj h
    subst hgb
    unfold BoxAt at hb
    rw [hg] at hb
    injection hb with hb
    injection hb with h1 h2
    exact hne h2
theorem own_setCell {w : World} {B : Nat} {e : TypeId} {size : Nat} {v : Value} {n : Nat} {xs : List Value} {q i : Nat} {u : Value} (h : w.ownsRow B e size v n xs) (hne : v.ownBlock = none ∨ v.ownBlock ≠ some q) : (w.setCell ⟨q, i, none⟩ u).ownsRow B e size v n xs :=
  h.kept (row := some q) ⟨rfl, rfl, rfl, by rw [Deep.nblk_setCell]; exact Nat.le_refl _, fun k _ hk => Deep.blk_setCell_other _ _ _ _ (fun e => hk (by rw [e]))⟩ hne
theorem own_ne_own {w : World} {B B' : Nat} {e e' : TypeId} {size size' : Nat} {v v' : Value} {n n' : Nat} {xs xs' : List Value} (h : w.ownsRow B e size v n xs) (h' : w.ownsRow B' e' size' v' n' xs') (hne : e ≠ e') : v.ownBlock = none ∨ v.ownBlock ≠ v'.ownBlock := by
  rcases h.2 with ⟨rfl, _⟩ | ⟨g, cap, cur, rfl, _, hg, _⟩
  · exact .inl rfl
  · refine .inr (fun h => ?_)
    rcases h'.2 with ⟨rfl, _⟩ | ⟨g', cap', cur', rfl, _, hg', _⟩
    · cases h
    · have hgb : g = g' := Option.some.inj h
      subst hgb
      rw [hg] at hg'
      injection hg' with hb
      injection hb with h1 h2
      exact hne h2
end Go.Proofs.YtcmgeccgahakbaaDoor

/- pack's reader: col, a list of columns. -/
namespace Go.Proofs.YtcmgeccgahakbaaDoor
open Go Go.RowKit
attribute [local go_sem] yields yUpon

def colR (B : List UInt8) (s : Nat × Int) : Co × (Nat × Int) := (⟨(txtR B s).1, (cellR B (txtR B s).2).1⟩, (cellR B (txtR B s).2).2)
def zeroCo : Co := ⟨⟨#[]⟩, zeroCl⟩
/-- So many, one by one, as long as nothing is wrong. -/
def manyR {α : Type} (one : Nat × Int → α × (Nat × Int)) : Nat → Nat × Int → List α × (Nat × Int)
  | 0, s => ([], s)
  | n + 1, s => if s.2 = 0 then ((one s).1 :: (manyR one n (one s).2).1, (manyR one n (one s).2).2) else ([], s)
def listR {α : Type} (B : List UInt8) (one : Nat × Int → α × (Nat × Int)) (s : Nat × Int) : List α × (Nat × Int) := manyR one (cntR B s).1 (cntR B s).2

section
variable {w a : World} {q : Nat} {v : Value} {B : List UInt8} {s s' : Nat × Int}
theorem rd_done1 (h : RdAt w q v B s) (hx : RdAt a q v B s' ∧ Touch9 w a q) {p : Nat} (hp : w.heap.size ≤ p) (i : Nat) (u : Value) : RdAt (a.setCell ⟨p, i, none⟩ u) q v B s' ∧ Touch9 w (a.setCell ⟨p, i, none⟩ u) q :=
  ⟨h.put hx.2 hx.1 hp i u, hx.2.put2 hp i u⟩
end

set_option maxRecDepth 100000 in
set_option maxHeartbeats 4000000 in
theorem rd_col {w : World} {q : Nat} {v : Value} {B : List UInt8} {s : Nat × Int} (h : RdAt w q v B s) :
    Calls Tryd.prog 164 #[.pointer (some ⟨q, 0, none⟩)] w fun e w' => e = .returned (.agg (co5 (colR B s).1)) ∧ RdAt w' q v B (colR B s).2 ∧ Touch9 w w' q := by
  have hq := h.lt
  have hE0 := (Ext.refl w).alloc (.cells (co5 zeroCo) 154)
  have b2 := BoxAt.made w (co5 zeroCo) 154
  have h0 := h.ext hE0
  have hq2 : w.heap.size ≠ q := by omega
  unfold colR
  obtain ⟨X, s1, hX⟩ : ∃ X s1, txtR B s = (X, s1) := ⟨_, _, rfl⟩
  obtain ⟨C, s2, hC⟩ : ∃ C s2, cellR B s1 = (C, s2) := ⟨_, _, rfl⟩
  rw [hX]
  simp only
  rw [hC]
  have k1 := rd_text h0
  rw [hX] at k1
  simp only at k1 ⊢
  have K1 := Lib.hid k1
  have HC := Lib.hid hC
  clear k1 hX hC
  obtain ⟨val, dead, at_, fin⟩ := C
  go_enter Tryd.func164, Tryd.ntmps164
  go_wp2_with (go_at_call 118; go_must (refine K1.out.mono ?_); rintro e w1 ⟨rfl, h1, hT1⟩; have b21 := hT1.box b2 hq2)
  refine (rd_cell h1).mono ?_
  rintro e w2 ⟨rfl, h2, hT2⟩
  rw [HC.out] at h2
  simp only at h2
  rw [HC.out]
  have b22 := hT2.box b21 hq2
  have hT := (Touch9.of_ext hE0 q).trans (hT1.trans hT2)
  have y0 : w2.cell? ⟨w.heap.size, 0, none⟩ = some (.string ⟨#[]⟩) := b22.cell 0
  have y1 : w2.cell? ⟨w.heap.size, 1, none⟩ = some (.string ⟨#[]⟩) := b22.cell 1
  have y2 : w2.cell? ⟨w.heap.size, 2, none⟩ = some (.bool false) := b22.cell 2
  have y3 : w2.cell? ⟨w.heap.size, 3, none⟩ = some (.int .i64 0) := b22.cell 3
  have y4 : w2.cell? ⟨w.heap.size, 4, none⟩ = some (.int .i64 0) := b22.cell 4
  have xf := b22.free
  unfold cl4
  go_wp2_with fail
  refine bodyPost_ret (v := .agg (co5 ⟨X, val, dead, at_, fin⟩)) ?_ rfl ⟨rfl, rd_done1 h (rd_done1 h (rd_done1 h (rd_done1 h (rd_done1 h ⟨h2, hT⟩ (Nat.le_refl _) _ _) (Nat.le_refl _) _ _) (Nat.le_refl _) _ _) (Nat.le_refl _) _ _) (Nat.le_refl _) _ _⟩
  generalize hW : World.setCell _ _ _ = w9
  have hb : BoxAt w9 w.heap.size (co5 ⟨X, val, dead, at_, fin⟩) 154 := by rw [← hW]; exact ((((b22.set 0 _).set 1 _).set 2 _).set 3 _).set 4 _
  obtain ⟨z0, z1, z2, z3, z4⟩ := hb.co
  simp [results, Tryd.results164, go_sem, z0, z1, z2, z3, z4]
  rfl

theorem Touch9.owns {w a : World} {q : Nat} (h : Touch9 w a q) {S : Nat} {e : TypeId} {size : Nat} {v : Value} {n : Nat} {xs : List Value} (ho : w.ownsRow S e size v n xs) (hq : q < S) : a.ownsRow S e size v n xs := by
  obtain ⟨h1, h2⟩ := ho
  refine ⟨h1, h2.imp id ?_⟩
  rintro ⟨g, cap, cur, h3⟩
  refine ⟨g, cap, cur, h3.1, h3.2.1, ?_, h3.2.2.2⟩
  rw [h.block g (Array.getElem?_eq_some_iff.1 h3.2.2.1).1 (by have := h3.2.1; omega)]
  exact h3.2.2.1
theorem cols_one (w : World) (c : Co) (T : TypeId) : ColsIn (w.alloc (.cells (co5 c) T)) (.slice (some ⟨w.heap.size, 0, none⟩) 1 1) [c] :=
  SliceIn.made w (co5 c) T 1 (by unfold maxLen; decide)
theorem RdAt.grownOwn {x y : World} {q : Nat} {v : Value} {B : List UInt8} {s : Nat × Int} {w : World} {s0 : Nat × Int} (h : RdAt x q v B s) (h0 : RdAt w q v B s0) (hT : Touch9 w x q) {S : Nat} {e : TypeId} {size : Nat} {vo : Value} {n : Nat} {xs : List Value} (hown : x.ownsRow S e size vo n xs) (hg : x.grownBy y vo.ownBlock) (hS : w.heap.size ≤ S) : RdAt y q v B s :=
  ⟨h.box.grown hg (fun e => by have := (hown.lt q e.symm).1; have := h0.lt; omega), (hT.grown hg (fun b hb => Nat.le_trans hS (hown.lt b hb).1)).slice h0.bytes h0.off, h0.off, h.le, h.big⟩
theorem manyR_step {α : Type} (one : Nat × Int → α × (Nat × Int)) (n : Nat) (s : Nat × Int) (h : s.2 = 0) : manyR one (n + 1) s = ((one s).1 :: (manyR one n (one s).2).1, (manyR one n (one s).2).2) := if_pos h
theorem manyR_stop {α : Type} (one : Nat × Int → α × (Nat × Int)) (n : Nat) (s : Nat × Int) (h : n = 0 ∨ ¬ s.2 = 0) : manyR one n s = ([], s) := by
  cases n with
  | zero => rfl
  | succ n => exact if_neg (h.resolve_left (by omega))
theorem cntR_big {B : List UInt8} {s : Nat × Int} (h : s.1 ≤ B.length) (hb : B.length ≤ 900000) : (cntR B s).1 ≤ 900000 := by have := cntR_le h; omega

set_option maxRecDepth 100000 in
set_option maxHeartbeats 4000000 in
theorem rd_cols {w : World} {q : Nat} {v : Value} {B : List UInt8} {s : Nat × Int} (h : RdAt w q v B s) :
    Calls Tryd.prog 163 #[.pointer (some ⟨q, 0, none⟩), .func (.func 164) #[] #[]] w fun e w' => ∃ u, e = .returned u ∧ w'.ownsRow w.heap.size 154 5 u (listR B (colR B) s).1.length (coCells (listR B (colR B) s).1) ∧ RdAt w' q v B (listR B (colR B) s).2 ∧ Touch9 w w' q := by
  have hq := h.lt
  obtain ⟨R, hR⟩ : ∃ R, R = listR B (colR B) s := ⟨_, rfl⟩
  rw [← hR]
  obtain ⟨N, s1, hN⟩ : ∃ N s1, cntR B s = (N, s1) := ⟨_, _, rfl⟩
  unfold listR at hR
  have hbn := cntR_big h.le h.big
  have k1 := rd_count h
  rw [hN] at hR k1 hbn
  simp only at hR k1 hbn
  have K1 := Lib.hid k1
  have HR := Lib.hid hR
  clear k1 hR hN
  go_enter Tryd.func163, Tryd.ntmps163
  go_wp2_with (go_at_call 117; go_must (refine K1.out.mono ?_); rintro e w1 ⟨rfl, h1, hT1⟩)
  go_loopw [5, 6] (fun u n wr => ∃ (k : Nat) (D : List Co) (t : Nat × Int), D.length + k ≤ N ∧ n = .int .i64 (k : Int) ∧ wr.ownsRow w.heap.size 154 5 u D.length (coCells D) ∧ RdAt wr q v B t ∧ Touch9 w wr q ∧ Hid (R = (D ++ (manyR (colR B) k t).1, (manyR (colR B) k t).2))) (fun _ n _ => (intOf n).toNat)
  case atStart => exact ⟨N, [], s1, by simp, rfl, World.ownsRow_nil _ _ _ _, h1, hT1, HR⟩
  case round =>
    obtain ⟨k, D, t, hDk, rfl, hown, ht, hTr, HX⟩ := hrel
    have hsz := hTr.size
    obtain ⟨i, e⟩ := t
    have c2 : wr.cell? ⟨q, 2, none⟩ = some (.int .i64 e) := ht.c2
    have hou := hown
    obtain ⟨ua, uc, rfl⟩ := own_shape hou
    clear hou
    by_cases hk : 0 < k
    · have hkd : decide ((0 : Int) < (k : Int)) = true := decide_eq_true (by omega)
      by_cases he : e = 0
      · subst he
        obtain ⟨C, t2, hC⟩ : ∃ C t2, colR B (i, 0) = (C, t2) := ⟨_, _, rfl⟩
        have HC := Lib.hid hC
        clear hC
        go_wp2_with fail
        refine (rd_col ht).mono ?_
        rintro e w5 ⟨rfl, h5, hT5⟩
        rw [HC.out] at h5
        simp only at h5
        rw [HC.out]
        obtain ⟨name, val, dead, at_, fin⟩ := C
        have hin := cols_one w5 ⟨name, val, dead, at_, fin⟩ 154
        have hE6 := (Ext.refl w5).alloc (.cells (co5 ⟨name, val, dead, at_, fin⟩) 154)
        have hown6 := ownsRow_ext (hT5.owns hown hq) hE6
        have h6 := h5.ext hE6
        have hT6 := hTr.trans (hT5.more hE6)
        have hsz6 := hT6.size
        unfold co5 at *
        simp only at hin hown6 h6 hT6 hsz6
        go_wp2_with (at_builtin; go_must (refine appCols _ rfl (.tmp 20) (.tmp 24) rfl w.heap.size hsz6 _ D hown6 (by rfl) _ [⟨name, val, dead, at_, fin⟩] hin (by rfl) (by simp; omega) ?_); intro v9 w9 ho9 hg9; have ho9' := ho9; obtain ⟨a9, c9, rfl⟩ := own_shape ho9')
        obtain ⟨k', rfl⟩ : ∃ k', k = k' + 1 := ⟨k - 1, by omega⟩
        go_roundw
        case rel =>
          refine ⟨k', D ++ [⟨name, val, dead, at_, fin⟩], t2, by simp; omega, by go_num, by rw [List.length_append] at ho9 ⊢; exact ho9, h6.grownOwn h hT6 hown6 hg9 (Nat.le_refl _), hT6.grown hg9 (fun b hb => (hown6.lt b hb).1), ?_⟩
          show R = _
          rw [HX.out, manyR_step _ _ _ rfl, HC.out]
          simp only [List.append_assoc, List.singleton_append]
        case measure => simp [intOf] <;> omega
      · have e0 : manyR (colR B) k (i, e) = ([], (i, e)) := manyR_stop _ _ _ (.inr he)
        have e1 : R = (D, (i, e)) := by rw [HX.out, e0]; simp only [List.append_nil]
        go_wp2_with fail
        go_ret
        rw [e1]
        exact ⟨_, rfl, hown, ht, hTr⟩
    · have e0 : manyR (colR B) k (i, e) = ([], (i, e)) := manyR_stop _ _ _ (.inl (by omega))
      have e1 : R = (D, (i, e)) := by rw [HX.out, e0]; simp only [List.append_nil]
      obtain rfl : k = 0 := by omega
      go_wp2_with fail
      go_ret
      rw [e1]
      exact ⟨_, rfl, hown, ht, hTr⟩
end Go.Proofs.YtcmgeccgahakbaaDoor
