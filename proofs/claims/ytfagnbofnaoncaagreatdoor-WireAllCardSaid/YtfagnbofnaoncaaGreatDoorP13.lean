/- pack's reader: a list of rows. -/
import Derived.Test.YtfagnbofnaoncaaGreatDoorP12
import Derived.Test.YtfagnbofnaoncaaGreatDoorP10
import Derived.Test.YtfagnbofnaoncaaGreatDoorP3
import Derived.Test.YtfagnbofnaoncaaGreatDoorP7
import Derived.Laws.Entries
import Derived.Laws.OwnMore
set_option linter.unusedSimpArgs false
set_option linter.unusedVariables false
namespace Go.Proofs.YtfagnbofnaoncaaGreatDoor
open Go Go.RowKit
attribute [local go_sem] yields yUpon

theorem TIn.touch9 {x y : World} {q : Nat} {W : Array Value} {T e : TypeId} {v : Value} {n : Nat} {xs : List Value} (hT : Touch9 x y q) (hq : BoxAt x q W T) (hne : e ≠ T) (h : TIn x e v n xs) : TIn y e v n xs :=
  h.imp_right fun ⟨b, c, Z, e, hb, h⟩ => ⟨b, c, Z, e, hT.box hb (box_ne hb hq hne), h⟩

set_option maxRecDepth 100000 in
set_option maxHeartbeats 4000000 in
theorem rd_rows {w : World} {q : Nat} {v : Value} {B : List UInt8} {s : Nat × Int} (h : RdAt w q v B s) :
    Calls Tryz.prog 233 #[.pointer (some ⟨q, 0, none⟩), .func (.func 234) #[] #[]] w fun e w' => ∃ u ps, e = .returned u ∧ w'.ownsRow w.heap.size 58 8 u ps.length (roCells ps) ∧ (∀ p ∈ ps, ColsT w' p.2 p.1.cols) ∧ ps.map (·.1) = (listR B (rowR B) s).1 ∧ RdAt w' q v B (listR B (rowR B) s).2 ∧ Touch9 w w' q := by
  have hq := h.lt
  obtain ⟨R, hR⟩ : ∃ R, R = listR B (rowR B) s := ⟨_, rfl⟩
  rw [← hR]
  obtain ⟨N, s1, hN⟩ : ∃ N s1, cntR B s = (N, s1) := ⟨_, _, rfl⟩
  unfold listR at hR
  have hbn := cntR_big h.le h.big
  have k1 := rd_count h
  rw [hN] at hR k1 hbn
  simp only at hR k1 hbn
  have K1 := Lib.hid k1
  have HR := Lib.hid hR
  clear k1 hR hN
  go_enter Tryz.func233, Tryz.ntmps233
  go_wp2_with (go_at_call 237; go_must (refine K1.out.mono ?_); rintro e w1 ⟨rfl, h1, hT1⟩)
  go_loopw [5, 6] (fun u n wr => ∃ (k : Nat) (D : List (Ro × Value)) (t : Nat × Int), D.length + k ≤ N ∧ n = .int .i64 (k : Int) ∧ wr.ownsRow w.heap.size 58 8 u D.length (roCells D) ∧ (∀ p ∈ D, ColsT wr p.2 p.1.cols) ∧ RdAt wr q v B t ∧ Touch9 w wr q ∧ Hid (R = (D.map (·.1) ++ (manyR (rowR B) k t).1, (manyR (rowR B) k t).2))) (fun _ n _ => (intOf n).toNat)
  case atStart => exact ⟨N, [], s1, by simp, rfl, World.ownsRow_nil _ _ _ _, nofun, h1, hT1, HR⟩
  case round =>
    obtain ⟨k, D, t, hDk, rfl, hown, hcs, ht, hTr, HX⟩ := hrel
    have hsz := hTr.size
    obtain ⟨i, e⟩ := t
    have c2 : wr.cell? ⟨q, 2, none⟩ = some (.int .i64 e) := ht.c2
    have hou := hown
    obtain ⟨ua, uc, rfl⟩ := own_shape hou
    clear hou
    have HCS := Lib.hid hcs
    clear hcs
    by_cases hk : 0 < k
    · have hkd : decide ((0 : Int) < (k : Int)) = true := decide_eq_true (by omega)
      by_cases he : e = 0
      · subst he
        obtain ⟨C, t2, hC⟩ : ∃ C t2, rowR B (i, 0) = (C, t2) := ⟨_, _, rfl⟩
        have HC := Lib.hid hC
        clear hC
        go_wp2_with fail
        refine (rd_row ht).mono ?_
        rintro e w5 ⟨cu, rfl, hct, h5, hT5⟩
        rw [HC.out] at h5 hct
        simp only at h5 hct
        rw [HC.out]
        obtain ⟨key, ⟨val, dead, at_, fin⟩, gone, shade, cols⟩ := C
        simp only at hct
        have hct' := hct
        obtain ⟨ca, cn, rfl⟩ : ∃ a c, cu = .slice a cols.length c := hct'.shape
        clear hct'
        have hb6 := BoxAt.made w5 (ro8 ⟨key, ⟨val, dead, at_, fin⟩, gone, shade, cols⟩ (.slice ca cols.length cn)) 58
        have hE6 := (Ext.refl w5).alloc (.cells (ro8 ⟨key, ⟨val, dead, at_, fin⟩, gone, shade, cols⟩ (.slice ca cols.length cn)) 58)
        have hin := rows_one hb6 (hct.cols.ext hE6)
        have hown6 := ownsRow_ext (hT5.owns hown hq) hE6
        have h6 := h5.ext hE6
        have hT6 := hTr.trans (hT5.more hE6)
        have hsz6 := hT6.size
        unfold ro8 at *
        simp only at hin hown6 h6 hT6 hsz6
        go_wp2_with (at_builtin; go_must (refine appRows _ rfl (.tmp 20) (.tmp 24) rfl w.heap.size hsz6 _ D hown6 (by rfl) _ [(⟨key, ⟨val, dead, at_, fin⟩, gone, shade, cols⟩, .slice ca cols.length cn)] hin (by rfl) (by simp; omega) ?_); intro v9 w9 ho9 hg9; have ho9' := ho9; obtain ⟨a9, c9, rfl⟩ := own_shape ho9')
        obtain ⟨k', rfl⟩ : ∃ k', k = k' + 1 := ⟨k - 1, by omega⟩
        go_roundw
        case rel =>
          refine ⟨k', D ++ [(⟨key, ⟨val, dead, at_, fin⟩, gone, shade, cols⟩, .slice ca cols.length cn)], t2, by simp; omega, by go_num, by rw [List.length_append] at ho9 ⊢; exact ho9, ?_, h6.grownOwn h hT6 hown6 hg9 (Nat.le_refl _), hT6.grown hg9 (fun b hb => (hown6.lt b hb).1), ?_⟩
          · intro p hp
            rcases List.mem_append.1 hp with hp | hp
            · exact TIn.keepOwn hown6 hg9 (by decide) ((TIn.touch9 hT5 ht.box (by decide) (HCS.out p hp)).ext hE6)
            · rw [List.mem_singleton.1 hp]
              exact TIn.keepOwn hown6 hg9 (by decide) (TIn.ext hE6 hct)
          · show R = _
            rw [HX.out, manyR_step _ _ _ rfl, HC.out]
            simp only [List.map_append, List.map_cons, List.map_nil, List.append_assoc, List.singleton_append]
        case measure => simp [intOf] <;> omega
      · have e0 : manyR (rowR B) k (i, e) = ([], (i, e)) := manyR_stop _ _ _ (.inr he)
        have e1 : R = (D.map (·.1), (i, e)) := by rw [HX.out, e0]; simp only [List.append_nil]
        go_wp2_with fail
        go_ret
        rw [e1]
        exact ⟨_, D, rfl, hown, HCS.out, rfl, ht, hTr⟩
    · have e0 : manyR (rowR B) k (i, e) = ([], (i, e)) := manyR_stop _ _ _ (.inl (by omega))
      have e1 : R = (D.map (·.1), (i, e)) := by rw [HX.out, e0]; simp only [List.append_nil]
      obtain rfl : k = 0 := by omega
      go_wp2_with fail
      go_ret
      rw [e1]
      exact ⟨_, D, rfl, hown, HCS.out, rfl, ht, hTr⟩
end Go.Proofs.YtfagnbofnaoncaaGreatDoor

/- pack's reader: end, part, read. -/
namespace Go.Proofs.YtfagnbofnaoncaaGreatDoor
open Go Go.RowKit
attribute [local go_sem] yields yUpon

def endR (B : List UInt8) (s : Nat × Int) : Nat × Int := if 0 < B.length - s.1 then failR 6 s else s
/-- A partition: its key, what is gone, its rows. -/
structure Pt where
  key : ByteArray
  gone : Int
  rows : List Ro
def prtR (B : List UInt8) (s : Nat × Int) : Pt × (Nat × Int) :=
  (⟨(txtR B s).1, ((numR B (txtR B s).2).1 : Int), (listR B (rowR B) (numR B (txtR B s).2).2).1⟩, endR B (listR B (rowR B) (numR B (txtR B s).2).2).2)
theorem RowsT.touch9 {x y : World} {q : Nat} {W : Array Value} {T : TypeId} {v : Value} {ps : List (Ro × Value)} (hT : Touch9 x y q) (hq : BoxAt x q W T) (h1 : 58 ≠ T) (h2 : 111 ≠ T) (h : RowsT x v ps) : RowsT y v ps :=
  ⟨TIn.touch9 hT hq h1 h.tin, fun p hp => TIn.touch9 hT hq h2 (h.typed p hp)⟩

set_option maxHeartbeats 1000000 in
theorem rd_end {w : World} {q : Nat} {v : Value} {B : List UInt8} {s : Nat × Int} (h : RdAt w q v B s) :
    Calls Tryz.prog 235 #[.pointer (some ⟨q, 0, none⟩)] w fun e w' => e = .returned (.tuple #[]) ∧ RdAt w' q v B (endR B s) ∧ Touch9 w w' q := by
  obtain ⟨lf, hlf⟩ : ∃ lf, lf = B.length - s.1 := ⟨_, rfl⟩
  have k1 := rd_left h
  unfold endR
  rw [← hlf] at k1 ⊢
  have K1 := Lib.hid k1
  clear k1 hlf
  by_cases h0 : 0 < lf
  · rw [if_pos h0]
    go_enter Tryz.func235, Tryz.ntmps235
    go_wp2_with (first
      | (go_at_call 242; go_must (refine K1.out.mono ?_); rintro e w1 ⟨rfl, hE1⟩; have h1 := h.ext hE1; have d : decide ((0 : Int) < (lf : Int)) = true := (decide_eq_true (by omega)))
      | (go_at_call 230; go_must (refine (rd_fail 6 h1).mono ?_); rintro e w2 ⟨rfl, h2, hT2⟩))
    go_end0
    exact ⟨rfl, h2, (Touch9.of_ext hE1 q).trans hT2⟩
  · rw [if_neg h0]
    have hz : lf = 0 := by omega
    subst hz
    go_enter Tryz.func235, Tryz.ntmps235
    go_wp2_with (first
      | (go_at_call 242; go_must (refine K1.out.mono ?_); rintro e w1 ⟨rfl, hE1⟩; have h1 := h.ext hE1))
    go_end0
    exact ⟨rfl, h1, Touch9.of_ext hE1 q⟩

set_option maxHeartbeats 1000000 in
theorem rd_read (v : Value) (l : List UInt8) (w : World) (hv : BytesIn w v l) (hl : l.length ≤ 900000) (hlow : ∀ b o k c, v = .slice (some ⟨b, o, none⟩) k c → b < w.heap.size) :
    Calls Tryz.prog 225 #[v] w fun e w' => e = .returned (.pointer (some ⟨w.heap.size, 0, none⟩)) ∧ RdAt w' w.heap.size v l (0, if l.length ≤ 262144 then 0 else 2) ∧ Ext w w' := by
  have hE0 := (Ext.refl w).alloc (.cells #[v, .int .i64 0, .int .i64 0] 266)
  have h0 : RdAt (w.alloc (.cells #[v, .int .i64 0, .int .i64 0] 266)) w.heap.size v l (0, 0) := ⟨BoxAt.made w _ _, hv.ext hE0, fun b o k c e => by have := hlow b o k c e; omega, Nat.zero_le _, hl⟩
  obtain ⟨a, c, rfl, _⟩ := h0.shape
  by_cases hc : l.length ≤ 262144
  · rw [if_pos hc]
    have d : ¬ (262144 : Int) < (l.length : Int) := by omega
    go_enter Tryz.func225, Tryz.ntmps225
    go_wp2_with fail
    go_ret
    exact ⟨rfl, h0, hE0⟩
  · rw [if_neg hc]
    have d : decide ((262144 : Int) < (l.length : Int)) = true := decide_eq_true (by omega)
    go_enter Tryz.func225, Tryz.ntmps225
    go_wp2_with (go_at_call 230; go_must (refine (rd_fail 2 h0).mono ?_); rintro e w2 ⟨rfl, h2, hT2⟩)
    go_ret
    exact ⟨rfl, h2, hT2.ext hE0 (Nat.le_refl _)⟩

set_option maxRecDepth 100000 in
set_option maxHeartbeats 4000000 in
theorem rd_part {w : World} {q : Nat} {v : Value} {B : List UInt8} {s : Nat × Int} (h : RdAt w q v B s) :
    Calls Tryz.prog 226 #[.pointer (some ⟨q, 0, none⟩)] w fun e w' => ∃ u ps, e = .returned (.agg (pa3 (prtR B s).1.key (prtR B s).1.gone u)) ∧ RowsT w' u ps ∧ ps.map (·.1) = (prtR B s).1.rows ∧ RdAt w' q v B (prtR B s).2 ∧ Touch9 w w' q := by
  have hq := h.lt
  have hE0 := (Ext.refl w).alloc (.cells (pa3 ⟨#[]⟩ 0 (.slice none 0 0)) 50)
  have b2 := BoxAt.made w (pa3 ⟨#[]⟩ 0 (.slice none 0 0)) 50
  have h0 := h.ext hE0
  have hq2 : w.heap.size ≠ q := by omega
  unfold prtR
  obtain ⟨X, s1, hX⟩ : ∃ X s1, txtR B s = (X, s1) := ⟨_, _, rfl⟩
  obtain ⟨G, s2, hG⟩ : ∃ G s2, numR B s1 = (G, s2) := ⟨_, _, rfl⟩
  obtain ⟨L, s3, hL⟩ : ∃ L s3, listR B (rowR B) s2 = (L, s3) := ⟨_, _, rfl⟩
  rw [hX]
  simp only
  rw [hG]
  simp only
  rw [hL]
  have k1 := rd_text h0
  rw [hX] at k1
  simp only at k1 ⊢
  have K1 := Lib.hid k1
  have HG := Lib.hid hG
  have HL := Lib.hid hL
  clear k1 hX hG hL
  go_enter Tryz.func226, Tryz.ntmps226
  go_wp2_with (go_at_call 231; go_must (refine K1.out.mono ?_); rintro e w1 ⟨rfl, h1, hT1⟩; have b21 := hT1.box b2 hq2; have hq3 : w1.heap.size ≠ q := (by have := h1.lt; omega))
  have b3 := BoxAt.made w1 (pa3 X 0 (.slice none 0 0)) 50
  have hEa := (Ext.refl w1).alloc (.cells (pa3 X 0 (.slice none 0 0)) 50)
  have h1a := h1.ext hEa
  have hT1a := (Touch9.of_ext hE0 q).trans (hT1.more hEa)
  have hle1 : w.heap.size ≤ w1.heap.size := by have := hE0.le; have := hT1.size; omega
  have hne23 : w.heap.size ≠ w1.heap.size := by have := b21.lt; omega
  refine (rd_number h1a).mono ?_
  rintro e w2 ⟨rfl, h2, hT2⟩
  rw [HG.out] at h2
  simp only at h2
  rw [HG.out]
  have b22 := hT2.box (b21.ext hEa) hq2
  have b32 := hT2.box b3 hq3
  have y1 : w2.cell? ⟨w1.heap.size, 1, none⟩ = some (.int .i64 0) := b32.cell 1
  have yf := b32.free
  have P2 := rd_done1 h ⟨h2, hT1a.trans hT2⟩ hle1 1 (.int .i64 (G : Int))
  have b33 : BoxAt (w2.setCell ⟨w1.heap.size, 1, none⟩ (.int .i64 (G : Int))) w1.heap.size #[.string X, .int .i64 (G : Int), .slice none 0 0] 50 := b32.set 1 _
  have b23 := b22.other hne23 1 (.int .i64 (G : Int))
  go_wp2_with fail
  generalize hw3 : World.setCell w2 _ _ = w3 at P2 b33 b23 ⊢
  clear hw3 y1 yf
  refine (rd_rows P2.1).mono ?_
  rintro e w4 ⟨u, ps, rfl, hown, hcs, hmap, h4, hT4⟩
  rw [HL.out] at h4 hmap
  simp only at h4 hmap
  have hown' := hown
  obtain ⟨ua, uc, rfl⟩ := own_shape hown'
  have hrt : RowsT w4 (.slice ua ps.length uc) ps := ⟨TIn.own hown, hcs⟩
  have b24 := hT4.box b23 hq2
  have b34 := hT4.box b33 hq3
  have y2 : w4.cell? ⟨w1.heap.size, 2, none⟩ = some (.slice none 0 0) := b34.cell 2
  have yf := b34.free
  have P4 := rd_done1 h ⟨h4, P2.2.trans hT4⟩ hle1 2 (.slice ua ps.length uc)
  have b35 : BoxAt (w4.setCell ⟨w1.heap.size, 2, none⟩ (.slice ua ps.length uc)) w1.heap.size (pa3 X (G : Int) (.slice ua ps.length uc)) 50 := b34.set 2 _
  have b25 := b24.other hne23 2 (.slice ua ps.length uc)
  have hr5 := RowsT.set 2 (.slice ua ps.length uc) b34 (by decide) (by decide) hrt
  go_wp2_with fail
  generalize hw5 : World.setCell w4 _ _ = w5 at P4 b35 b25 hr5 ⊢
  clear hw5 y2 yf
  refine (rd_end P4.1).mono ?_
  rintro e w6 ⟨rfl, h6, hT6⟩
  have b26 := hT6.box b25 hq2
  have b36 := hT6.box b35 hq3
  have hr6 := hr5.touch9 hT6 P4.1.box (by decide) (by decide)
  have z0 : w6.cell? ⟨w1.heap.size, 0, none⟩ = some (.string X) := b36.cell 0
  have z1 : w6.cell? ⟨w1.heap.size, 1, none⟩ = some (.int .i64 (G : Int)) := b36.cell 1
  have z2 : w6.cell? ⟨w1.heap.size, 2, none⟩ = some (.slice ua ps.length uc) := b36.cell 2
  have x0 : w6.cell? ⟨w.heap.size, 0, none⟩ = some (.string ⟨#[]⟩) := b26.cell 0
  have x1 : w6.cell? ⟨w.heap.size, 1, none⟩ = some (.int .i64 0) := b26.cell 1
  have x2 : w6.cell? ⟨w.heap.size, 2, none⟩ = some (.slice none 0 0) := b26.cell 2
  have xf := b26.free
  have P6 := rd_done1 h (rd_done1 h (rd_done1 h ⟨h6, P4.2.trans hT6⟩ (Nat.le_refl _) 0 (.string X)) (Nat.le_refl _) 1 (.int .i64 (G : Int))) (Nat.le_refl _) 2 (.slice ua ps.length uc)
  have hr7 := RowsT.set 2 (.slice ua ps.length uc) ((b26.set 0 (.string X)).set 1 (.int .i64 (G : Int))) (by decide) (by decide) (RowsT.set 1 (.int .i64 (G : Int)) (b26.set 0 (.string X)) (by decide) (by decide) (RowsT.set 0 (.string X) b26 (by decide) (by decide) hr6))
  go_wp2_with fail
  refine bodyPost_ret (v := .agg (pa3 X (G : Int) (.slice ua ps.length uc))) ?_ rfl ⟨_, ps, rfl, hr7, hmap, P6⟩
  generalize hW : World.setCell _ _ _ = w99
  have hb : BoxAt w99 w.heap.size (pa3 X (G : Int) (.slice ua ps.length uc)) 50 := by rw [← hW]; exact ((b26.set 0 _).set 1 _).set 2 _
  obtain ⟨z0, z1, z2⟩ := hb.pa
  simp [results, Tryz.results226, go_sem, z0, z1, z2]
  rfl
end Go.Proofs.YtfagnbofnaoncaaGreatDoor

/- pack.Read, pack.GetPart. (what a smaller cut has) -/
namespace Go.Proofs.YtfagnbofnaoncaaGreatDoor
open Go Go.RowKit
attribute [local go_sem] yields yUpon

def getR (l : List UInt8) : Pt × (Nat × Int) := prtR l (0, if l.length ≤ 262144 then 0 else 2)
/-- What GetPart answers. -/
def gpErr (l : List UInt8) : Int := if (getR l).2.2 = 0 then (if ptB (getR l).1.key (getR l).1.gone (getR l).1.rows then 0 else 1) else (getR l).2.2
def gpPt (l : List UInt8) : Pt := if gpErr l = 0 then (getR l).1 else ⟨⟨#[]⟩, 0, []⟩

theorem txtR_size (B : List UInt8) (s : Nat × Int) : (txtR B s).1.size ≤ B.length := by
  unfold txtR
  simp only [str_size, List.length_take, List.length_drop]
  omega
theorem manyR_all {α : Type} {P : α → Prop} {one : Nat × Int → α × (Nat × Int)} (h : ∀ s, P (one s).1) : ∀ n s, ∀ x ∈ (manyR one n s).1, P x
  | 0, _, x, hx => by cases hx
  | n + 1, s, x, hx => by
    unfold manyR at hx
    split at hx
    · rcases List.mem_cons.1 hx with rfl | hx
      · exact h s
      · exact manyR_all h n _ x hx
    · cases hx
theorem rowR_low (B : List UInt8) (s : Nat × Int) : ∀ c ∈ (rowR B s).1.cols, c.name.size ≤ B.length :=
  manyR_all (P := fun c : Co => c.name.size ≤ B.length) (fun s => txtR_size B s) _ _
theorem prtR_low (B : List UInt8) (s : Nat × Int) : ∀ r ∈ (prtR B s).1.rows, ∀ c ∈ r.cols, c.name.size ≤ B.length :=
  manyR_all (P := fun r : Ro => ∀ c ∈ r.cols, c.name.size ≤ B.length) (fun s => rowR_low B s) _ _

set_option maxRecDepth 100000 in
set_option maxHeartbeats 4000000 in
theorem pk_read (v : Value) (l : List UInt8) (w : World) (hv : BytesIn w v l) (hl : l.length ≤ 900000) (hlow : ∀ b o k c, v = .slice (some ⟨b, o, none⟩) k c → b < w.heap.size) :
    Calls Tryz.prog 223 #[v] w fun e w' => ∃ u ps, e = .returned (.tuple #[.agg (pa3 (getR l).1.key (getR l).1.gone u), .int .i64 (getR l).2.2]) ∧ RowsT w' u ps ∧ ps.map (·.1) = (getR l).1.rows ∧ Ext w w' := by
  have hE0 := (Ext.refl w).alloc (.cells (pa3 ⟨#[]⟩ 0 (.slice none 0 0)) 50)
  have b2 := BoxAt.made w (pa3 ⟨#[]⟩ 0 (.slice none 0 0)) 50
  obtain ⟨⟨key, gone, rows⟩, ⟨i, er⟩, hG⟩ : ∃ p s, getR l = (p, s) := ⟨_, _, rfl⟩
  rw [hG]
  unfold getR at hG
  have k1 := rd_read v l _ (hv.ext hE0) hl (fun b o k c e => by have := hlow b o k c e; have := hE0.le; omega)
  have hsz : (w.alloc (.cells (pa3 ⟨#[]⟩ 0 (.slice none 0 0)) 50)).heap.size = w.heap.size + 1 := by simp
  obtain ⟨Q, hQ⟩ : ∃ Q, Q = w.heap.size + 1 := ⟨_, rfl⟩
  rw [hsz, ← hQ] at k1
  have hQ1 : w.heap.size < Q := by omega
  have hQ2 : (w.alloc (.cells (pa3 ⟨#[]⟩ 0 (.slice none 0 0)) 50)).heap.size ≤ Q := by omega
  have K1 := Lib.hid k1
  have HG := Lib.hid hG
  clear k1 hG hsz hQ
  obtain ⟨z, hz⟩ : ∃ z : Int, z = if l.length ≤ 262144 then 0 else 2 := ⟨_, rfl⟩
  rw [← hz] at HG K1
  clear hz
  simp only
  go_enter Tryz.func223, Tryz.ntmps223
  go_wp2_with (go_at_call 225; go_must (refine K1.out.mono ?_); rintro e w1 ⟨rfl, h1, hE1⟩)
  refine (rd_part h1).mono ?_
  rintro e w2 ⟨u, ps, rfl, hr, hmap, h2, hT2⟩
  rw [HG.out] at h2 hmap
  simp only at h2 hmap
  rw [HG.out]
  have hr' := hr
  obtain ⟨ua, uc, rfl⟩ := hr'.shape
  have hne : w.heap.size ≠ Q := by omega
  have b22 := hT2.box (b2.ext hE1) hne
  have hE2 : Ext w w2 := hT2.ext (hE0.trans hE1) (by omega)
  have h3Q := h2.lt
  have b3 := BoxAt.made w2 (pa3 key gone (.slice ua ps.length uc)) 50
  have hE3 := (Ext.refl w2).alloc (.cells (pa3 key gone (.slice ua ps.length uc)) 50)
  have h3 := h2.ext hE3
  unfold pa3
  simp only
  go_wp2_with fail
  have b33 := b3
  have b23 := b22.ext hE3
  have c2 : (w2.alloc (.cells #[.string key, .int .i64 gone, .slice ua ps.length uc] 50)).cell? ⟨Q, 2, none⟩ = some (.int .i64 er) := h3.c2
  have x0 : (w2.alloc (.cells #[.string key, .int .i64 gone, .slice ua ps.length uc] 50)).cell? ⟨w.heap.size, 0, none⟩ = some (.string ⟨#[]⟩) := b23.cell 0
  have x1 : (w2.alloc (.cells #[.string key, .int .i64 gone, .slice ua ps.length uc] 50)).cell? ⟨w.heap.size, 1, none⟩ = some (.int .i64 0) := b23.cell 1
  have x2 : (w2.alloc (.cells #[.string key, .int .i64 gone, .slice ua ps.length uc] 50)).cell? ⟨w.heap.size, 2, none⟩ = some (.slice none 0 0) := b23.cell 2
  have y0 : (w2.alloc (.cells #[.string key, .int .i64 gone, .slice ua ps.length uc] 50)).cell? ⟨w2.heap.size, 0, none⟩ = some (.string key) := b33.cell 0
  have y1 : (w2.alloc (.cells #[.string key, .int .i64 gone, .slice ua ps.length uc] 50)).cell? ⟨w2.heap.size, 1, none⟩ = some (.int .i64 gone) := b33.cell 1
  have y2 : (w2.alloc (.cells #[.string key, .int .i64 gone, .slice ua ps.length uc] 50)).cell? ⟨w2.heap.size, 2, none⟩ = some (.slice ua ps.length uc) := b33.cell 2
  have hneQ : Q ≠ w.heap.size := by omega
  have hr4 : RowsT (w2.alloc (.cells #[.string key, .int .i64 gone, .slice ua ps.length uc] 50)) (.slice ua ps.length uc) ps := hr.ext hE3
  have hE4 : Ext w (w2.alloc (.cells #[.string key, .int .i64 gone, .slice ua ps.length uc] 50)) := hE2.trans hE3
  replace b23 : BoxAt (w2.alloc (.cells #[.string key, .int .i64 gone, .slice ua ps.length uc] 50)) w.heap.size #[.string ⟨#[]⟩, .int .i64 0, .slice none 0 0] 50 := b23
  replace b33 : BoxAt (w2.alloc (.cells #[.string key, .int .i64 gone, .slice ua ps.length uc] 50)) w2.heap.size #[.string key, .int .i64 gone, .slice ua ps.length uc] 50 := b33

  have xf := b23.free
  generalize hw4 : (w2.alloc (.cells #[.string key, .int .i64 gone, .slice ua ps.length uc] 50)) = w4 at b23 b33 c2 x0 x1 x2 y0 y1 y2 xf hr4 hE4 ⊢
  go_region
  have b5 := (((b23.set 0 (.string key)).set 1 (.int .i64 gone)).set 2 (.slice ua ps.length uc)).ext (Ext.refl _).drew
  have hr5 := (RowsT.set 2 (.slice ua ps.length uc) ((b23.set 0 (.string key)).set 1 (.int .i64 gone)) (by decide) (by decide) (RowsT.set 1 (.int .i64 gone) (b23.set 0 (.string key)) (by decide) (by decide) (RowsT.set 0 (.string key) b23 (by decide) (by decide) hr4))).ext (Ext.refl _).drew
  have hE5a : Ext w (w4.setCell ⟨w.heap.size, 0, none⟩ (.string key)) := hE4.setCell (by exact Nat.le_refl _) _
  have hE5b : Ext w ((w4.setCell ⟨w.heap.size, 0, none⟩ (.string key)).setCell ⟨w.heap.size, 1, none⟩ (.int .i64 gone)) := hE5a.setCell (by exact Nat.le_refl _) _
  have hE5c : Ext w (((w4.setCell ⟨w.heap.size, 0, none⟩ (.string key)).setCell ⟨w.heap.size, 1, none⟩ (.int .i64 gone)).setCell ⟨w.heap.size, 2, none⟩ (.slice ua ps.length uc)) := hE5b.setCell (by exact Nat.le_refl _) _
  have hE5 := hE5c.drew
  clear hE5a hE5b hE5c
  generalize hw5 : World.drew _ = w5 at b5 hr5 hE5 ⊢
  replace b5 : BoxAt w5 w.heap.size (pa3 key gone (.slice ua ps.length uc)) 50 := b5
  go_wp2
  refine bodyPost_ret (v := .tuple #[.agg (pa3 key gone (.slice ua ps.length uc)), .int .i64 er]) ?_ rfl ⟨_, ps, rfl, hr5, hmap, hE5⟩
  obtain ⟨z0, z1, z2⟩ := b5.pa
  simp [results, Tryz.results223, go_sem, z0, z1, z2]
  rfl
end Go.Proofs.YtfagnbofnaoncaaGreatDoor

/- Appends to rows of one's own inside regions that draw their order: what an append does to the block it may write to, cell by cell. -/
namespace Go.Proofs.YtfagnbofnaoncaaGreatDoor
open Go Go.RowKit

/-- An append of N to a row of one's own that holds X (k elements). -/
def AppE (T : TypeId) (size S k : Nat) (X N : List Value) (x y : World) : Prop :=
  ∃ vo, x.ownsRow S T size vo k X ∧ x.grownBy y vo.ownBlock ∧ ∀ g, vo.ownBlock = some g → ∀ cur, x.heap[g]? = some (.cells cur T (0, 0)) →
    ∃ cur2, y.heap[g]? = some (.cells cur2 T (0, 0)) ∧ cur2.size = cur.size ∧ ∀ i, cur2[i]? = cur[i]? ∨ (k * size ≤ i ∧ i < k * size + N.length ∧ cur2[i]? = N[i - k * size]?)
section
variable {T : TypeId} {size S k : Nat} {X N : List Value} {x y : World}
theorem AppE.to {w : World} (hS : w.heap.size ≤ S) (h : AppE T size S k X N x y) (hE : Ext w x) : Ext w y := by
  obtain ⟨vo, ho, hg, _⟩ := h
  exact hE.grown hg (fun q hq => by have := (ho.lt q hq).1; omega)
theorem AppE.le (h : AppE T size S k X N x y) : x.heap.size ≤ y.heap.size := by
  obtain ⟨vo, ho, hg, _⟩ := h
  exact hg.size
theorem AppE.keep (h : AppE T size S k X N x y) {S' : Nat} {v : Value} {m : Nat} {Y : List Value} (ho : x.ownsRow S' T size v m Y) (hY : ∀ i u, Y[i]? = some u → k * size ≤ i → i < k * size + N.length → N[i - k * size]? = some u) : y.ownsRow S' T size v m Y := by
  obtain ⟨vo, _, hg, hc⟩ := h
  refine ⟨ho.1, ho.2.imp id ?_⟩
  rintro ⟨g, cap, cur, rfl, hb, hh, hmc, hcm, hcs, ht⟩
  by_cases e : vo.ownBlock = some g
  · obtain ⟨cur2, h2, hs2, hi⟩ := hc g e cur hh
    refine ⟨g, cap, cur2, rfl, hb, h2, hmc, hcm, by rw [hs2, hcs], ?_⟩
    apply List.ext_getElem?
    intro i
    by_cases hlt : i < m * size
    · have hYi : Y[i]? = cur[i]? := by rw [← ht, List.getElem?_take, if_pos hlt, Array.getElem?_toList]
      rw [List.getElem?_take, if_pos hlt, Array.getElem?_toList]
      rcases hi i with h1 | ⟨h1, h1', h2⟩
      · rw [h1, hYi]
      · have hl : i < Y.length := by rw [ho.1]; exact hlt
        rw [h2, hY i _ (List.getElem?_eq_getElem hl) h1 h1', List.getElem?_eq_getElem hl]
    · rw [List.getElem?_take, if_neg hlt, List.getElem?_eq_none (by rw [ho.1]; omega)]
  · exact ⟨g, cap, cur, rfl, hb, by rw [hg.block g (Array.getElem?_eq_some_iff.1 hh).1 (fun h => e h.symm)]; exact hh, hmc, hcm, hcs, ht⟩
theorem AppE.keep_short (h : AppE T size S k X N x y) {S' : Nat} {v : Value} {m : Nat} {Y : List Value} (ho : x.ownsRow S' T size v m Y) (hm : m ≤ k) : y.ownsRow S' T size v m Y :=
  h.keep ho fun i u hu h1 _ => by
    have h2 := (List.getElem?_eq_some_iff.1 hu).1
    rw [ho.1] at h2
    have := Nat.mul_le_mul_right size hm
    omega
theorem AppE.keep_long (h : AppE T size S k X N x y) (hX : X.length = k * size) {S' : Nat} {v : Value} {m : Nat} {R : List Value} (ho : x.ownsRow S' T size v m (X ++ N ++ R)) : y.ownsRow S' T size v m (X ++ N ++ R) :=
  h.keep ho fun i u hu h1 h2 => by
    rw [List.append_assoc, List.getElem?_append_right (by omega), hX, List.getElem?_append_left (by omega)] at hu
    exact hu
/-- A variable of one element, of the row's type. -/
theorem AppE.box (h : AppE T size S k X N x y) {b : Nat} {cs : Array Value} {U : TypeId} (hb : BoxAt x b cs U) (hcs : U = T → ∀ i u, cs[i]? = some u → k * size ≤ i → i < k * size + N.length → N[i - k * size]? = some u) : BoxAt y b cs U := by
  obtain ⟨vo, ho, hg, hc⟩ := h
  by_cases e : vo.ownBlock = some b
  · rcases ho.2 with ⟨rfl, _⟩ | ⟨g, cap, cur, rfl, hb', hh, _⟩
    · cases e
    · have e' : g = b := Option.some.inj e
      subst e'
      have hb2 : x.heap[g]? = some (.cells cs U (0, 0)) := hb
      rw [hh] at hb2
      cases hb2
      obtain ⟨cur2, h2, hs2, hi⟩ := hc g rfl cs hh
      have e2 : cur2 = cs := by
        apply Array.ext_getElem?
        intro i
        rcases hi i with h1 | ⟨h1, h1', h3⟩
        · exact h1
        · by_cases hl : i < cs.size
          · rw [h3, hcs rfl i _ (Array.getElem?_eq_getElem hl) h1 h1', Array.getElem?_eq_getElem hl]
          · rw [Array.getElem?_eq_none (by omega), Array.getElem?_eq_none (by omega)]
      unfold BoxAt
      rw [h2, e2]
  · exact hb.grown hg (fun h => e h.symm)
end
/-- 'append' to a row of one's own, told cell by cell. -/
theorem run_append_cells {P : Program} (w : World) (base : Nat) (t ty e : TypeId) (i : TypeInfo) (z : Value) (size bytes : Nat) (ht : P.underlying t = some (.slice e)) (hi : P.info? e = some i) (hz : i.zero = some z)
    (hsize : i.size = size) (hby : i.bytes = bytes) (hzs : z.cells.size = size) (hsz : 0 < size)
    (v : Value) (n : Nat) (xs : List Value) (hown : w.ownsRow base e size v n xs)
    (a : Addr) (m c : Nat) (news : List Value) (hl : news.length = m * size) (hnews : ∀ j u, news[j]? = some u → w.cell? (a.add j) = some u) (h1 : ∀ u ∈ news, u.oneCell' = true)
    (h63 : n + m ≤ maxLen) (hbytes : (n + m) * bytes ≤ 140737488355328) (hbase : base ≤ w.heap.size) :
    ∃ v' w', (Builtin.append_ #[t, t] ty #[v, .slice (some a) m c]).run P w = .ok v' w' ∧ w'.ownsRow base e size v' (n + m) (xs ++ news) ∧ AppE e size base n xs news w w' ∧ w.grownBy w' v.ownBlock := by
  obtain ⟨v', w', hr, h2, h3, _⟩ := run_append_own (P := P) w base t ty e i z size bytes ht hi hz hsize hby hzs hsz v n xs hown a m c news hl hnews h1 h63 hbytes hbase
  refine ⟨v', w', hr, h2, ⟨v, hown, h3, ?_⟩, h3⟩
  subst hsize
  subst hby
  have hsmall : n + m ≤ 9223372036854775807 := by simp only [maxLen] at h63; omega
  rcases hown.2 with ⟨rfl, rfl⟩ | ⟨g, cap, cur, rfl, hbg, hg, hnc, hcm, hcs, htake⟩
  · intro g hgv; cases hgv
  · intro g' hgv cur' hc'
    have e' : g = g' := Option.some.inj hgv
    subst e'
    rw [hg] at hc'
    cases hc'
    by_cases hroom : n + m ≤ cap
    · have hfit : n * i.size + news.length ≤ cur.size := by rw [hl, hcs, ← Nat.add_mul]; exact Nat.mul_le_mul_right _ hroom
      have hr2 := run_append_room (P := P) w t ty e i ht hi g n cap cur hg a m c news hl hnews h1 hroom hfit
      rw [hr] at hr2
      cases hr2
      refine ⟨_, setRow_heap w g cur _ e (0, 0) hg, ?_, fun j => ?_⟩
      · simp; omega
      · simp only [List.getElem?_toArray]
        rcases Nat.lt_or_ge j (n * i.size) with hj | hj
        · left
          rw [List.append_assoc, List.getElem?_append_left (by simp; omega), List.getElem?_take, if_pos hj, Array.getElem?_toList]
        · rcases Nat.lt_or_ge j (n * i.size + news.length) with hj2 | hj2
          · right
            refine ⟨hj, hj2, ?_⟩
            have hl0 : (cur.toList.take (n * i.size)).length = n * i.size := by simp; omega
            rw [List.append_assoc, List.getElem?_append_right (by omega), hl0, List.getElem?_append_left (by omega)]
          · left
            have hl0 : (cur.toList.take (n * i.size) ++ news).length = n * i.size + news.length := by simp; omega
            rw [List.getElem?_append_right (by omega), hl0, List.getElem?_drop, show n * i.size + news.length + (j - (n * i.size + news.length)) = j by omega, Array.getElem?_toList]
    · have holds : ∀ j u, xs[j]? = some u → w.cell? ((⟨g, 0, none⟩ : Addr).add j) = some u := hown.cells (g := g) rfl
      have hr2 := run_append_grow (P := P) w t ty e i z ht hi hz ⟨g, 0, none⟩ n cap xs hown.1 holds a m c news hl hnews (by omega) (by omega) (growslice_fits (by omega) hbytes)
      rw [hr] at hr2
      cases hr2
      refine ⟨cur, ?_, rfl, fun _ => .inl rfl⟩
      have hlt := (Array.getElem?_eq_some_iff.1 hg).1
      exact (heap_alloc_old w.drew _ hlt).trans hg
theorem AppE.refl {T : TypeId} {size S k : Nat} {X N : List Value} {x : World} {v : Value} (h : x.ownsRow S T size v k X) : AppE T size S k X N x x :=
  ⟨v, h, ⟨rfl, rfl, rfl, Nat.le_refl _, fun _ _ _ => rfl⟩, fun _ _ cur hc => ⟨cur, hc, rfl, fun _ => .inl rfl⟩⟩
/-- Operations j with p j = some (k, X, N) append N to a row of one's own that holds X; the others let memory grow. -/
def NE (T : TypeId) (size S : Nat) (p : Nat → Option (Nat × List Value × List Value)) (j : Nat) (x y : World) : Prop :=
  (p j = none ∧ Ext x y) ∨ ∃ k X N, p j = some (k, X, N) ∧ AppE T size S k X N x y
theorem NE_ext {T : TypeId} {size S : Nat} {p : Nat → Option (Nat × List Value × List Value)} {j : Nat} {x y : World} (hj : p j = none) (h : Ext x y) : NE T size S p j x y := .inl ⟨hj, h⟩
theorem NE_app {T : TypeId} {size S : Nat} {p : Nat → Option (Nat × List Value × List Value)} {j : Nat} {x y : World} {k : Nat} {X N : List Value} (hj : p j = some (k, X, N)) (h : AppE T size S k X N x y) : NE T size S p j x y := .inr ⟨k, X, N, hj, h⟩
theorem NE_to {T : TypeId} {size S : Nat} {p : Nat → Option (Nat × List Value × List Value)} {j : Nat} {x y w : World} (hS : w.heap.size ≤ S) (h : NE T size S p j x y) (hE : Ext w x) : Ext w y := by
  rcases h with ⟨_, h⟩ | ⟨_, _, _, _, h⟩
  · exact hE.trans h
  · exact h.to hS hE
theorem NE_le {T : TypeId} {size S : Nat} {p : Nat → Option (Nat × List Value × List Value)} {j : Nat} {x y : World} (h : NE T size S p j x y) : x.heap.size ≤ y.heap.size := by
  rcases h with ⟨_, h⟩ | ⟨_, _, _, _, h⟩
  · exact h.le
  · exact h.le
theorem NE_own {T : TypeId} {size S : Nat} {p : Nat → Option (Nat × List Value × List Value)} {j : Nat} {x y : World} (h : NE T size S p j x y) {S' : Nat} {v : Value} {m : Nat} {Y : List Value} (ho : x.ownsRow S' T size v m Y)
    (hY : ∀ k X N, p j = some (k, X, N) → ∀ i u, Y[i]? = some u → k * size ≤ i → i < k * size + N.length → N[i - k * size]? = some u) : y.ownsRow S' T size v m Y := by
  rcases h with ⟨_, h⟩ | ⟨k, X, N, hj, h⟩
  · exact ownsRow_ext ho h
  · exact h.keep ho (hY k X N hj)
theorem NE_box {T : TypeId} {size S : Nat} {p : Nat → Option (Nat × List Value × List Value)} {j : Nat} {x y : World} (h : NE T size S p j x y) {b : Nat} {cs : Array Value} {U : TypeId} (hb : BoxAt x b cs U)
    (hY : ∀ k X N, p j = some (k, X, N) → U = T → ∀ i u, cs[i]? = some u → k * size ≤ i → i < k * size + N.length → N[i - k * size]? = some u) : BoxAt y b cs U := by
  rcases h with ⟨_, h⟩ | ⟨k, X, N, hj, h⟩
  · exact hb.ext h
  · exact h.box hb (hY k X N hj)
/-- 'append' of any slice to a row of one's own, as the region's walk meets it. -/
theorem yields_app {P : Program} {o : Oper} {a : Act} {Tt e : TypeId} {z : Value} {size bytes : Nat} (info : (P.info? e).map (fun i => (i.zero, i.size, i.bytes)) = some (some z, size, bytes)) (und : P.underlying Tt = some (.slice e)) (hzs : z.cells.size = size) (hsz : 0 < size) (s x : Operand)
    (hop : o.op = Op.call { callee := Callee.builtin Builtin.append, args := #[s, x], argTypes := #[Tt, Tt] }) {w : World}
    (B : Nat) (hB : B ≤ w.heap.size) (v : Value) (m : Nat) (xs : List Value) (hown : w.ownsRow B e size v m xs) (hs : a.eval s = v) {u : Value} {c : Nat} {news : List Value} (hin : SliceIn w u c news) (hx : a.eval x = u)
    (hl : news.length = c * size) (h1 : ∀ u ∈ news, u.oneCell' = true) (h63 : m + c ≤ maxLen) (hb : (m + c) * bytes ≤ 140737488355328) {R : Value → World → Prop}
    (hR : ∀ v' w', w'.ownsRow B e size v' (m + c) (xs ++ news) → AppE e size B m xs news w w' → w.grownBy w' v.ownBlock → R v' w') : yields P o a w R := by
  obtain ⟨i0, hi, hz0, hz1, hz2⟩ := info_parts info
  obtain ⟨ao, cp, rfl, hc, hcm, ha, hcell⟩ := hin
  cases ao with
  | none =>
    have hc0 := ha rfl
    obtain rfl : c = 0 := by omega
    obtain rfl : news = [] := List.eq_nil_of_length_eq_zero (by omega)
    subst hc0
    have hr := run_append_owned_none (P := P) (w := w) B Tt o.type e i0 size und hi v m xs hown
    unfold yields execOp
    simp only [hop, resolve, invoke, builtin, Sem.run_bind, Sem.run_pure, Result.andThen_ok, List.map_toArray, List.map_cons, List.map_nil, hs, hx, hr]
    exact hR _ _ (by rw [List.append_nil]; exact hown) (AppE.refl hown) ⟨rfl, rfl, rfl, Nat.le_refl _, fun _ _ _ => rfl⟩
  | some ad =>
    obtain ⟨v', w', hr, h2, h3, h4⟩ := run_append_cells (P := P) w B Tt o.type e i0 z size bytes und hi hz0 hz1 hz2 hzs hsz v m xs hown ad c cp news hl (fun j u hj => by
      obtain ⟨b, o, e, h⟩ := hcell j u hj
      cases e
      rw [Addr.add_lit]
      exact h) h1 h63 hb hB
    unfold yields execOp
    simp only [hop, resolve, invoke, builtin, Sem.run_bind, Sem.run_pure, Result.andThen_ok, List.map_toArray, List.map_cons, List.map_nil, hs, hx, hr]
    exact hR v' w' h2 h3 h4
end Go.Proofs.YtfagnbofnaoncaaGreatDoor
