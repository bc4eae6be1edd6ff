/- pack's reader: a list of rows. -/
import Derived.Test.YtimbikbbbfpeeaaGreatDoorP21
import Derived.Test.YtimbikbbbfpeeaaGreatDoorP5
import Derived.Test.YtimbikbbbfpeeaaGreatDoorP1
import Derived.Test.YtimbikbbbfpeeaaGreatDoorProg
import Derived.Laws.RangeString
set_option linter.unusedSimpArgs false
set_option linter.unusedVariables false
namespace Go.Proofs.YtimbikbbbfpeeaaGreatDoor
open Go Go.RowKit
attribute [local go_sem] yields yUpon

theorem TIn.touch9 {x y : World} {q : Nat} {W : Array Value} {T e : TypeId} {v : Value} {n : Nat} {xs : List Value} (hT : Touch9 x y q) (hq : BoxAt x q W T) (hne : e ≠ T) (h : TIn x e v n xs) : TIn y e v n xs :=
  h.imp_right fun ⟨b, c, Z, e, hb, h⟩ => ⟨b, c, Z, e, hT.box hb (box_ne hb hq hne), h⟩

set_option maxRecDepth 100000 in
set_option maxHeartbeats 4000000 in
theorem rd_rows {w : World} {q : Nat} {v : Value} {B : List UInt8} {s : Nat × Int} (h : RdAt w q v B s) :
    Calls Tryz.prog 199 #[.pointer (some ⟨q, 0, none⟩), .func (.func 200) #[] #[]] w fun e w' => ∃ u ps, e = .returned u ∧ w'.ownsRow w.heap.size 66 8 u ps.length (roCells ps) ∧ (∀ p ∈ ps, ColsT w' p.2 p.1.cols) ∧ ps.map (·.1) = (listR B (rowR B) s).1 ∧ RdAt w' q v B (listR B (rowR B) s).2 ∧ Touch9 w w' q := by
  have hq := h.lt
  obtain ⟨R, hR⟩ : ∃ R, R = listR B (rowR B) s := ⟨_, rfl⟩
  rw [← hR]
  obtain ⟨N, s1, hN⟩ : ∃ N s1, cntR B s = (N, s1) := ⟨_, _, rfl⟩
  unfold listR at hR
  have hbn := cntR_big h.le h.big
  have k1 := rd_count h
  rw [hN] at hR k1 hbn
  simp only at hR k1 hbn
  have K1 := Lib.hid k1
  have HR := Lib.hid hR
  clear k1 hR hN
  go_enter Tryz.func199, Tryz.ntmps199
  go_wp2_with (go_at_call 157; go_must (refine K1.out.mono ?_); rintro e w1 ⟨rfl, h1, hT1⟩)
  go_loopw [5, 6] (fun u n wr => ∃ (k : Nat) (D : List (Ro × Value)) (t : Nat × Int), D.length + k ≤ N ∧ n = .int .i64 (k : Int) ∧ wr.ownsRow w.heap.size 66 8 u D.length (roCells D) ∧ (∀ p ∈ D, ColsT wr p.2 p.1.cols) ∧ RdAt wr q v B t ∧ Touch9 w wr q ∧ Hid (R = (D.map (·.1) ++ (manyR (rowR B) k t).1, (manyR (rowR B) k t).2))) (fun _ n _ => (intOf n).toNat)
  case atStart => exact ⟨N, [], s1, by simp, rfl, World.ownsRow_nil _ _ _ _, nofun, h1, hT1, HR⟩
  case round =>
    obtain ⟨k, D, t, hDk, rfl, hown, hcs, ht, hTr, HX⟩ := hrel
    have hsz := hTr.size
    obtain ⟨i, e⟩ := t
    have c2 : wr.cell? ⟨q, 2, none⟩ = some (.int .i64 e) := ht.c2
    have hou := hown
    obtain ⟨ua, uc, rfl⟩ := own_shape hou
    clear hou
    have HCS := Lib.hid hcs
    clear hcs
    by_cases hk : 0 < k
    · have hkd : decide ((0 : Int) < (k : Int)) = true := decide_eq_true (by omega)
      by_cases he : e = 0
      · subst he
        obtain ⟨C, t2, hC⟩ : ∃ C t2, rowR B (i, 0) = (C, t2) := ⟨_, _, rfl⟩
        have HC := Lib.hid hC
        clear hC
        go_wp2_with fail
        refine (rd_row ht).mono ?_
        rintro e w5 ⟨cu, rfl, hct, h5, hT5⟩
        rw [HC.out] at h5 hct
        simp only at h5 hct
        rw [HC.out]
        obtain ⟨key, ⟨val, dead, at_, fin⟩, gone, shade, cols⟩ := C
        simp only at hct
        have hct' := hct
        obtain ⟨ca, cn, rfl⟩ : ∃ a c, cu = .slice a cols.length c := hct'.shape
        clear hct'
        have hb6 := BoxAt.made w5 (ro8 ⟨key, ⟨val, dead, at_, fin⟩, gone, shade, cols⟩ (.slice ca cols.length cn)) 66
        have hE6 := (Ext.refl w5).alloc (.cells (ro8 ⟨key, ⟨val, dead, at_, fin⟩, gone, shade, cols⟩ (.slice ca cols.length cn)) 66)
        have hin := rows_one hb6 (hct.cols.ext hE6)
        have hown6 := ownsRow_ext (hT5.owns hown hq) hE6
        have h6 := h5.ext hE6
        have hT6 := hTr.trans (hT5.more hE6)
        have hsz6 := hT6.size
        unfold ro8 at *
        simp only at hin hown6 h6 hT6 hsz6
        go_wp2_with (at_builtin; go_must (refine appRows _ rfl (.tmp 20) (.tmp 24) rfl w.heap.size hsz6 _ D hown6 (by rfl) _ [(⟨key, ⟨val, dead, at_, fin⟩, gone, shade, cols⟩, .slice ca cols.length cn)] hin (by rfl) (by simp; omega) ?_); intro v9 w9 ho9 hg9; have ho9' := ho9; obtain ⟨a9, c9, rfl⟩ := own_shape ho9')
        obtain ⟨k', rfl⟩ : ∃ k', k = k' + 1 := ⟨k - 1, by omega⟩
        go_roundw
        case rel =>
          refine ⟨k', D ++ [(⟨key, ⟨val, dead, at_, fin⟩, gone, shade, cols⟩, .slice ca cols.length cn)], t2, by simp; omega, by go_num, by rw [List.length_append] at ho9 ⊢; exact ho9, ?_, h6.grownOwn h hT6 hown6 hg9 (Nat.le_refl _), hT6.grown hg9 (fun b hb => (hown6.lt b hb).1), ?_⟩
          · intro p hp
            rcases List.mem_append.1 hp with hp | hp
            · exact TIn.keepOwn hown6 hg9 (by decide) ((TIn.touch9 hT5 ht.box (by decide) (HCS.out p hp)).ext hE6)
            · rw [List.mem_singleton.1 hp]
              exact TIn.keepOwn hown6 hg9 (by decide) (TIn.ext hE6 hct)
          · show R = _
            rw [HX.out, manyR_step _ _ _ rfl, HC.out]
            simp only [List.map_append, List.map_cons, List.map_nil, List.append_assoc, List.singleton_append]
        case measure => simp [intOf] <;> omega
      · have e0 : manyR (rowR B) k (i, e) = ([], (i, e)) := manyR_stop _ _ _ (.inr he)
        have e1 : R = (D.map (·.1), (i, e)) := by rw [HX.out, e0]; simp only [List.append_nil]
        go_wp2_with fail
        go_ret
        rw [e1]
        exact ⟨_, D, rfl, hown, HCS.out, rfl, ht, hTr⟩
    · have e0 : manyR (rowR B) k (i, e) = ([], (i, e)) := manyR_stop _ _ _ (.inl (by omega))
      have e1 : R = (D.map (·.1), (i, e)) := by rw [HX.out, e0]; simp only [List.append_nil]
      obtain rfl : k = 0 := by omega
      go_wp2_with fail
      go_ret
      rw [e1]
      exact ⟨_, D, rfl, hown, HCS.out, rfl, ht, hTr⟩
end Go.Proofs.YtimbikbbbfpeeaaGreatDoor

/- pack's reader: end, part, read. -/
namespace Go.Proofs.YtimbikbbbfpeeaaGreatDoor
open Go Go.RowKit
attribute [local go_sem] yields yUpon

def endR (B : List UInt8) (s : Nat × Int) : Nat × Int := if 0 < B.length - s.1 then failR 6 s else s
def prtR (B : List UInt8) (s : Nat × Int) : Pt × (Nat × Int) :=
  (⟨(txtR B s).1, ((numR B (txtR B s).2).1 : Int), (listR B (rowR B) (numR B (txtR B s).2).2).1⟩, endR B (listR B (rowR B) (numR B (txtR B s).2).2).2)
theorem RowsT.touch9 {x y : World} {q : Nat} {W : Array Value} {T : TypeId} {v : Value} {ps : List (Ro × Value)} (hT : Touch9 x y q) (hq : BoxAt x q W T) (h1 : 66 ≠ T) (h2 : 216 ≠ T) (h : RowsT x v ps) : RowsT y v ps :=
  ⟨TIn.touch9 hT hq h1 h.tin, fun p hp => TIn.touch9 hT hq h2 (h.typed p hp)⟩

set_option maxHeartbeats 1000000 in
theorem rd_end {w : World} {q : Nat} {v : Value} {B : List UInt8} {s : Nat × Int} (h : RdAt w q v B s) :
    Calls Tryz.prog 117 #[.pointer (some ⟨q, 0, none⟩)] w fun e w' => e = .returned (.tuple #[]) ∧ RdAt w' q v B (endR B s) ∧ Touch9 w w' q := by
  obtain ⟨lf, hlf⟩ : ∃ lf, lf = B.length - s.1 := ⟨_, rfl⟩
  have k1 := rd_left h
  unfold endR
  rw [← hlf] at k1 ⊢
  have K1 := Lib.hid k1
  clear k1 hlf
  by_cases h0 : 0 < lf
  · rw [if_pos h0]
    go_enter Tryz.func117, Tryz.ntmps117
    go_wp2_with (first
      | (go_at_call 161; go_must (refine K1.out.mono ?_); rintro e w1 ⟨rfl, hE1⟩; have h1 := h.ext hE1; have d : decide ((0 : Int) < (lf : Int)) = true := (decide_eq_true (by omega)))
      | (go_at_call 118; go_must (refine (rd_fail 6 h1).mono ?_); rintro e w2 ⟨rfl, h2, hT2⟩))
    go_end0
    exact ⟨rfl, h2, (Touch9.of_ext hE1 q).trans hT2⟩
  · rw [if_neg h0]
    have hz : lf = 0 := by omega
    subst hz
    go_enter Tryz.func117, Tryz.ntmps117
    go_wp2_with (first
      | (go_at_call 161; go_must (refine K1.out.mono ?_); rintro e w1 ⟨rfl, hE1⟩; have h1 := h.ext hE1))
    go_end0
    exact ⟨rfl, h1, Touch9.of_ext hE1 q⟩

set_option maxHeartbeats 1000000 in
theorem rd_read (v : Value) (l : List UInt8) (w : World) (hv : BytesIn w v l) (hl : l.length ≤ 900000) (hlow : ∀ b o k c, v = .slice (some ⟨b, o, none⟩) k c → b < w.heap.size) :
    Calls Tryz.prog 110 #[v] w fun e w' => e = .returned (.pointer (some ⟨w.heap.size, 0, none⟩)) ∧ RdAt w' w.heap.size v l (0, if l.length ≤ 262144 then 0 else 2) ∧ Ext w w' := by
  have hE0 := (Ext.refl w).alloc (.cells #[v, .int .i64 0, .int .i64 0] 197)
  have h0 : RdAt (w.alloc (.cells #[v, .int .i64 0, .int .i64 0] 197)) w.heap.size v l (0, 0) := ⟨BoxAt.made w _ _, hv.ext hE0, fun b o k c e => by have := hlow b o k c e; omega, Nat.zero_le _, hl⟩
  obtain ⟨a, c, rfl, _⟩ := h0.shape
  by_cases hc : l.length ≤ 262144
  · rw [if_pos hc]
    have d : ¬ (262144 : Int) < (l.length : Int) := by omega
    go_enter Tryz.func110, Tryz.ntmps110
    go_wp2_with fail
    go_ret
    exact ⟨rfl, h0, hE0⟩
  · rw [if_neg hc]
    have d : decide ((262144 : Int) < (l.length : Int)) = true := decide_eq_true (by omega)
    go_enter Tryz.func110, Tryz.ntmps110
    go_wp2_with (go_at_call 118; go_must (refine (rd_fail 2 h0).mono ?_); rintro e w2 ⟨rfl, h2, hT2⟩)
    go_ret
    exact ⟨rfl, h2, hT2.ext hE0 (Nat.le_refl _)⟩

set_option maxRecDepth 100000 in
set_option maxHeartbeats 4000000 in
theorem rd_part {w : World} {q : Nat} {v : Value} {B : List UInt8} {s : Nat × Int} (h : RdAt w q v B s) :
    Calls Tryz.prog 159 #[.pointer (some ⟨q, 0, none⟩)] w fun e w' => ∃ u ps, e = .returned (.agg (pa3 (prtR B s).1.key (prtR B s).1.gone u)) ∧ RowsT w' u ps ∧ ps.map (·.1) = (prtR B s).1.rows ∧ RdAt w' q v B (prtR B s).2 ∧ Touch9 w w' q := by
  have hq := h.lt
  have hE0 := (Ext.refl w).alloc (.cells (pa3 ⟨#[]⟩ 0 (.slice none 0 0)) 52)
  have b2 := BoxAt.made w (pa3 ⟨#[]⟩ 0 (.slice none 0 0)) 52
  have h0 := h.ext hE0
  have hq2 : w.heap.size ≠ q := by omega
  unfold prtR
  obtain ⟨X, s1, hX⟩ : ∃ X s1, txtR B s = (X, s1) := ⟨_, _, rfl⟩
  obtain ⟨G, s2, hG⟩ : ∃ G s2, numR B s1 = (G, s2) := ⟨_, _, rfl⟩
  obtain ⟨L, s3, hL⟩ : ∃ L s3, listR B (rowR B) s2 = (L, s3) := ⟨_, _, rfl⟩
  rw [hX]
  simp only
  rw [hG]
  simp only
  rw [hL]
  have k1 := rd_text h0
  rw [hX] at k1
  simp only at k1 ⊢
  have K1 := Lib.hid k1
  have HG := Lib.hid hG
  have HL := Lib.hid hL
  clear k1 hX hG hL
  go_enter Tryz.func159, Tryz.ntmps159
  go_wp2_with (go_at_call 158; go_must (refine K1.out.mono ?_); rintro e w1 ⟨rfl, h1, hT1⟩; have b21 := hT1.box b2 hq2; have hq3 : w1.heap.size ≠ q := (by have := h1.lt; omega))
  have b3 := BoxAt.made w1 (pa3 X 0 (.slice none 0 0)) 52
  have hEa := (Ext.refl w1).alloc (.cells (pa3 X 0 (.slice none 0 0)) 52)
  have h1a := h1.ext hEa
  have hT1a := (Touch9.of_ext hE0 q).trans (hT1.more hEa)
  have hle1 : w.heap.size ≤ w1.heap.size := by have := hE0.le; have := hT1.size; omega
  have hne23 : w.heap.size ≠ w1.heap.size := by have := b21.lt; omega
  refine (rd_number h1a).mono ?_
  rintro e w2 ⟨rfl, h2, hT2⟩
  rw [HG.out] at h2
  simp only at h2
  rw [HG.out]
  have b22 := hT2.box (b21.ext hEa) hq2
  have b32 := hT2.box b3 hq3
  have y1 : w2.cell? ⟨w1.heap.size, 1, none⟩ = some (.int .i64 0) := b32.cell 1
  have yf := b32.free
  have P2 := rd_done1 h ⟨h2, hT1a.trans hT2⟩ hle1 1 (.int .i64 (G : Int))
  have b33 : BoxAt (w2.setCell ⟨w1.heap.size, 1, none⟩ (.int .i64 (G : Int))) w1.heap.size #[.string X, .int .i64 (G : Int), .slice none 0 0] 52 := b32.set 1 _
  have b23 := b22.other hne23 1 (.int .i64 (G : Int))
  go_wp2_with fail
  generalize hw3 : World.setCell w2 _ _ = w3 at P2 b33 b23 ⊢
  clear hw3 y1 yf
  refine (rd_rows P2.1).mono ?_
  rintro e w4 ⟨u, ps, rfl, hown, hcs, hmap, h4, hT4⟩
  rw [HL.out] at h4 hmap
  simp only at h4 hmap
  have hown' := hown
  obtain ⟨ua, uc, rfl⟩ := own_shape hown'
  have hrt : RowsT w4 (.slice ua ps.length uc) ps := ⟨TIn.own hown, hcs⟩
  have b24 := hT4.box b23 hq2
  have b34 := hT4.box b33 hq3
  have y2 : w4.cell? ⟨w1.heap.size, 2, none⟩ = some (.slice none 0 0) := b34.cell 2
  have yf := b34.free
  have P4 := rd_done1 h ⟨h4, P2.2.trans hT4⟩ hle1 2 (.slice ua ps.length uc)
  have b35 : BoxAt (w4.setCell ⟨w1.heap.size, 2, none⟩ (.slice ua ps.length uc)) w1.heap.size (pa3 X (G : Int) (.slice ua ps.length uc)) 52 := b34.set 2 _
  have b25 := b24.other hne23 2 (.slice ua ps.length uc)
  have hr5 := RowsT.set 2 (.slice ua ps.length uc) b34 (by decide) (by decide) hrt
  go_wp2_with fail
  generalize hw5 : World.setCell w4 _ _ = w5 at P4 b35 b25 hr5 ⊢
  clear hw5 y2 yf
  refine (rd_end P4.1).mono ?_
  rintro e w6 ⟨rfl, h6, hT6⟩
  have b26 := hT6.box b25 hq2
  have b36 := hT6.box b35 hq3
  have hr6 := hr5.touch9 hT6 P4.1.box (by decide) (by decide)
  have z0 : w6.cell? ⟨w1.heap.size, 0, none⟩ = some (.string X) := b36.cell 0
  have z1 : w6.cell? ⟨w1.heap.size, 1, none⟩ = some (.int .i64 (G : Int)) := b36.cell 1
  have z2 : w6.cell? ⟨w1.heap.size, 2, none⟩ = some (.slice ua ps.length uc) := b36.cell 2
  have x0 : w6.cell? ⟨w.heap.size, 0, none⟩ = some (.string ⟨#[]⟩) := b26.cell 0
  have x1 : w6.cell? ⟨w.heap.size, 1, none⟩ = some (.int .i64 0) := b26.cell 1
  have x2 : w6.cell? ⟨w.heap.size, 2, none⟩ = some (.slice none 0 0) := b26.cell 2
  have xf := b26.free
  have P6 := rd_done1 h (rd_done1 h (rd_done1 h ⟨h6, P4.2.trans hT6⟩ (Nat.le_refl _) 0 (.string X)) (Nat.le_refl _) 1 (.int .i64 (G : Int))) (Nat.le_refl _) 2 (.slice ua ps.length uc)
  have hr7 := RowsT.set 2 (.slice ua ps.length uc) ((b26.set 0 (.string X)).set 1 (.int .i64 (G : Int))) (by decide) (by decide) (RowsT.set 1 (.int .i64 (G : Int)) (b26.set 0 (.string X)) (by decide) (by decide) (RowsT.set 0 (.string X) b26 (by decide) (by decide) hr6))
  go_wp2_with fail
  refine bodyPost_ret (v := .agg (pa3 X (G : Int) (.slice ua ps.length uc))) ?_ rfl ⟨_, ps, rfl, hr7, hmap, P6⟩
  generalize hW : World.setCell _ _ _ = w99
  have hb : BoxAt w99 w.heap.size (pa3 X (G : Int) (.slice ua ps.length uc)) 52 := by rw [← hW]; exact ((b26.set 0 _).set 1 _).set 2 _
  obtain ⟨z0, z1, z2⟩ := hb.pa
  simp [results, Tryz.results159, go_sem, z0, z1, z2]
  rfl
end Go.Proofs.YtimbikbbbfpeeaaGreatDoor

/- runes.Name at small ASCII letters. -/
namespace Go.Proofs.YtimbikbbbfpeeaaGreatDoor
open Go Go.RowKit
attribute [local go_sem] yields yUpon

def iterPos (w : World) (b : Nat) : Nat := match w.heap[b]? with | some (.stringIter _ p) => p | _ => 0
theorem iterPos_iter (w : World) (s : ByteArray) (k : Nat) : iterPos (w.iter s k) w.heap.size = k := by
  unfold iterPos
  rw [World.iter_heap]
theorem Ext.iter (w : World) (s : ByteArray) (k : Nat) : Ext w (w.iter s k) := (Ext.refl w).alloc _

set_option maxHeartbeats 400000 in
theorem letter_low (r : Int) (h1 : 97 ≤ r) (h2 : r ≤ 122) (w : World) : Calls Tryz.prog 122 #[.int .i32 r] w fun e w' => e = .returned (.bool true) ∧ w = w' := by
  have d0 : (r == 95) = false := by simp; omega
  have d1 : decide (97 ≤ r) = true := by simpa using h1
  have d2 : decide (r ≤ 122) = true := by simpa using h2
  clear h1 h2
  go_enter Tryz.func122, Tryz.ntmps122
  go_wp2
  all_goals first
    | (exfalso; omega)
    | (go_ret
       exact ⟨rfl, rfl⟩)

set_option maxHeartbeats 400000 in
theorem right_any (s : ByteArray) (i r : Int) (h : r ≠ 65533) (w : World) : Calls Tryz.prog 123 #[.string s, .int .i64 i, .int .i32 r] w fun e w' => e = .returned (.bool true) ∧ w = w' := by
  have d0 : (r == 65533) = false := by simpa using h
  go_enter Tryz.func123, Tryz.ntmps123
  go_wp2
  all_goals
    go_ret
    exact ⟨rfl, rfl⟩

/-- A name of small letters. -/
def Low (s : ByteArray) : Prop := s.size ≤ 100 ∧ ∀ i (h : i < s.size), 97 ≤ (s[i]'h).toNat ∧ (s[i]'h).toNat ≤ 122

set_option maxRecDepth 100000 in
set_option maxHeartbeats 1000000 in
theorem name_low (s : ByteArray) (hs : Low s) (h0 : s.size ≠ 0) (w : World) :
    Calls Tryz.prog 71 #[.string s] w fun e w' => e = .returned (.bool true) ∧ Ext w w' := by
  obtain ⟨hl, hlow⟩ := hs
  have HLow := Lib.hid hlow
  clear hlow
  go_enter Tryz.func71, Tryz.ntmps71
  go_wp2
  go_loopw [3] (fun _ wr => ∃ k : Nat, k ≤ s.size ∧ wr = w.iter s k) (fun _ wr => s.size - iterPos wr w.heap.size)
  case atStart => exact ⟨0, Nat.zero_le _, rfl⟩
  case round =>
    obtain ⟨k, hk, rfl⟩ := hrel
    by_cases hlt : k < s.size
    · obtain ⟨b1, b2⟩ := HLow.out k hlt
      have hnx := fun ty => run_next_ascii (P := Tryz.prog) w s k ty hlt (by omega)
      obtain ⟨R, hR⟩ : ∃ R : Int, R = ((s[k]'hlt).toNat : Int) := ⟨_, rfl⟩
      rw [← hR] at hnx
      have r1 : 97 ≤ R := by omega
      have r2 : R ≤ 122 := by omega
      clear hR b1 b2
      go_wp2_with fail
      refine (letter_low R r1 r2 _).mono ?_
      rintro e w1 ⟨rfl, rfl⟩
      go_wp2_with fail
      refine (right_any s _ R (by omega) _).mono ?_
      rintro e w2 ⟨rfl, rfl⟩
      go_wp2_with fail
      go_roundw
      case rel => exact ⟨k + 1, by omega, rfl⟩
      case measure => rw [iterPos_iter, iterPos_iter]; omega
    · obtain rfl : k = s.size := by omega
      have hnx := fun ty => run_next_end (P := Tryz.prog) w s s.size ty (by omega)
      have k100 : decide ((s.size : Int) ≤ 100) = true := by simp; omega
      have e0 : (s.toList == []) = false := by
        rw [ByteArray.toList_eq]
        simp only [beq_eq_false_iff_ne, ne_eq]
        intro h
        exact h0 (by have := congrArg List.length h; exact this)
      go_wp2_with fail
      go_ret
      exact ⟨rfl, Ext.iter w s _⟩

set_option maxHeartbeats 1000000 in
theorem name_none (w : World) :
    Calls Tryz.prog 71 #[.string ⟨#[]⟩] w fun e w' => e = .returned (.bool false) ∧ Ext w w' := by
  go_enter Tryz.func71, Tryz.ntmps71
  go_wp2
  go_loopw [3] (fun _ wr => wr = w.iter ⟨#[]⟩ 0) (fun _ wr => 0)
  case atStart => rfl
  case round =>
    obtain rfl := hrel
    have hnx := fun ty => run_next_end (P := Tryz.prog) w ⟨#[]⟩ 0 ty (by decide)
    go_wp2_with fail
    go_ret
    exact ⟨rfl, Ext.iter w _ _⟩

/-- Is a text a name? (of texts of small letters) -/
def lowB (s : ByteArray) : Bool := decide (s.size ≠ 0)
theorem name_lowB (s : ByteArray) (hs : Low s) (w : World) :
    Calls Tryz.prog 71 #[.string s] w fun e w' => e = .returned (.bool (lowB s)) ∧ Ext w w' := by
  by_cases h : s.size = 0
  · have e : s = ⟨#[]⟩ := ByteArray.ext (Array.eq_empty_of_size_eq_zero h)
    subst e
    exact name_none w
  · have e : lowB s = true := by simp [lowB, h]
    rw [e]
    exact name_low s hs h w
end Go.Proofs.YtimbikbbbfpeeaaGreatDoor
