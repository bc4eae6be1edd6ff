/- The reference's rows: Best. -/
import Derived.Test.YteamiiekpjoclaaP7
import Derived.Test.YteamiiekpjoclaaP1
import Derived.Test.YteamiiekpjoclaaP5
import Derived.Test.YteamiiekpjoclaaProg
set_option linter.unusedSimpArgs false
set_option linter.unusedVariables false
namespace Go.Proofs.Yteamiiekpjoclaa
open Go Go.RowKit
attribute [local go_sem] yields yUpon

set_option maxRecDepth 100000 in
set_option maxHeartbeats 2000000 in
theorem best7_any (r : Ro) (v : Value) (part : Int) (name : ByteArray) (w : World) (hin : ColsIn w v r.cols) :
    Calls Try.prog 68 #[(.agg #[.string r.key, .string r.live.val, .bool r.live.dead, .int .i64 r.live.at_, .int .i64 r.live.fin, .int .i64 r.gone, .int .i64 r.shade, v]), .int .i64 part, .string name] w fun e w' =>
      e = .returned (.tuple #[(.agg #[.string (bestC (cellOf r.cols name) (max r.gone part)).val, .bool (bestC (cellOf r.cols name) (max r.gone part)).dead, .int .i64 (bestC (cellOf r.cols name) (max r.gone part)).at_, .int .i64 (bestC (cellOf r.cols name) (max r.gone part)).fin]), .bool (bestB (cellOf r.cols name) (max r.gone part))]) ∧ Ext w w' := by
  obtain ⟨c, hc⟩ : ∃ c, c = cellOf r.cols name := ⟨_, rfl⟩
  rw [← hc]
  have HC := Lib.hid hc
  clear hc
  go_enter Try.func68, Try.ntmps68
  go_wp2_with fail
  refine (cell7_any r v name _ (hin.ext (((Ext.refl w).alloc _).alloc _))).mono ?_
  rw [← HC.out]
  rintro e w1 ⟨rfl, hE1⟩
  have b0 : BoxAt w1 w.heap.size (ro8 r v) 55 := ((BoxAt.made w (ro8 r v) 55).ext ((Ext.refl _).alloc _)).ext hE1
  have b1 : BoxAt w1 (w.heap.size + 1) (cl4 zeroCl) 52 := (by have := BoxAt.made (w.alloc (.cells (ro8 r v) 55)) (cl4 zeroCl) 52; rw [Deep.nblk_alloc] at this; exact this : BoxAt _ (w.heap.size + 1) (cl4 zeroCl) 52).ext hE1
  replace hE1 := (((Ext.refl w).alloc _).alloc _).trans hE1
  go_wp2_with fail
  refine wp_region_in 15 [(7, fun v _ => v = .int .i64 (max r.gone part))] (fun w0 => BoxAt w0 w1.heap.size (cl4 c) 52 ∧ BoxAt w0 w.heap.size (ro8 r v) 55 ∧ BoxAt w0 (w.heap.size + 1) (cl4 zeroCl) 52 ∧ Ext w w0) (by kernel_rfl) (by kernel_rfl) (by kernel_rfl) ⟨stays_eq _, trivial⟩ ?_ ?_
  · exact ⟨BoxAt.made _ _ _, b0.ext ((Ext.refl _).alloc _), b1.ext ((Ext.refl _).alloc _), hE1.alloc _⟩
  clear b0 b1 hE1
  rintro w2 ⟨b2, b0, b1, hE⟩
  have fin : ∀ (wx : World), Ext w2 wx → BoxAt wx w1.heap.size (cl4 c) 52 ∧ BoxAt wx (w.heap.size + 1) (cl4 zeroCl) 52 ∧ Ext w wx := fun wx h => ⟨b2.ext h, b1.ext h, hE.trans h⟩
  have FIN := Lib.hid fin
  clear fin b1
  obtain ⟨x0, x1, x2, x3⟩ := b2.cl
  obtain ⟨y0, y1, y2, y3, y4, y5, y6, y7⟩ := b0.ro
  clear b2 b0
  replace x1 := held x1
  replace x2 := held x2
  replace y0 := held y0
  replace y1 := held y1
  replace y2 := held y2
  replace y3 := held y3
  replace y4 := held y4
  replace y5 := held y5
  replace y6 := held y6
  replace y7 := held y7
  clear x0 x3
  by_cases hb : bestB c (max r.gone part) = true
  · have hb0 := hb
    simp only [bestB, Bool.not_eq_true', Bool.or_eq_false_iff] at hb0
    obtain ⟨⟨d0, d1⟩, d2⟩ := hb0
    have HB : Hid (bestC c (max r.gone part) = c ∧ bestB c (max r.gone part) = true) := ⟨by unfold bestC; rw [if_pos hb], hb⟩
    rw [d0] at x1
    clear hb
    refine rg_quiet rfl rfl rfl rfl ?_; intro K hK; go_big_quiet_op; go_big_quiet_on
    refine rg_quiet rfl rfl rfl rfl ?_; intro K hK; go_big_quiet_op; go_big_quiet_on
    refine rg_quiet rfl rfl rfl rfl ?_; intro K hK; go_big_quiet_op; go_big_quiet_on
    refine rg_quiet rfl rfl rfl rfl ?_; intro K hK; go_big_quiet_op; go_big_quiet_on
    refine rg_quiet rfl rfl rfl rfl ?_; intro K hK; go_big_quiet_op; go_big_quiet_on
    refine rg_quiet rfl rfl rfl rfl ?_; intro K hK; go_big_quiet_op; go_big_quiet_on
    refine rg_quiet rfl rfl rfl rfl ?_; intro K hK; go_big_quiet_op; go_big_quiet_on
    refine rg_val [] rfl rfl rfl (by kernel_rfl) (fun w1 hE hf => ?_) ?_
    · go_simp
      exact (gone7_any r v part w1).mono fun e w' ⟨he, hw⟩ => ⟨_, he, rg_done hE hw (rfl)⟩
    simp only [Act.put, List.setIfInBounds_toArray, List.set_cons_zero, List.set_cons_succ]
    refine rg_quiet rfl rfl rfl rfl ?_; intro K hK; go_big_quiet_op; go_big_quiet_on
    refine rg_quiet rfl rfl rfl rfl ?_; intro K hK; go_big_quiet_op; go_big_quiet_on
    refine rg_quiet rfl rfl rfl rfl ?_; intro K hK; go_big_quiet_op; go_big_quiet_on
    refine rg_quiet rfl rfl rfl rfl ?_; intro K hK; go_big_quiet_op; go_big_quiet_on
    refine rg_quiet rfl rfl rfl rfl ?_; intro K hK; go_big_quiet_op; go_big_quiet_on
    refine rg_quiet rfl rfl rfl rfl ?_; intro K hK; go_big_quiet_op; go_big_quiet_on
    refine rg_quiet rfl rfl rfl rfl ?_; intro K hK; go_big_quiet_op; go_big_quiet_on
    refine rel_nil fun w5 hE5 _ => ?_
    obtain ⟨b2, b1, hX⟩ := FIN.out w5 hE5
    clear d0 d1 d2 x1 x2 y0 y1 y2 y3 y4 y5 y6 y7 hE5 FIN hE
    obtain ⟨x0, x1, x2, x3⟩ := b2.cl
    obtain ⟨z0, z1, z2, z3⟩ := b1.cl
    have xf := b1.free
    go_wp2_with fail
    rw [HB.out.1, HB.out.2]
    refine bodyPost_ret (v := .tuple #[(.agg #[.string c.val, .bool c.dead, .int .i64 c.at_, .int .i64 c.fin]), .bool true]) ?_ rfl ⟨rfl, hX.put4 (Nat.le_succ _)⟩
    generalize hW : World.setCell _ _ _ = w9
    have hb : BoxAt w9 (w.heap.size + 1) (cl4 c) 52 := by rw [← hW]; exact b1.put4 (d := c)
    obtain ⟨q0, q1, q2, q3⟩ := hb.cl
    simp [results, Try.results95, go_sem, q0, q1, q2, q3]
  · have HB : Hid (bestC c (max r.gone part) = zeroCl ∧ bestB c (max r.gone part) = false) := by simp only [Bool.not_eq_true] at hb; exact ⟨by unfold bestC; rw [if_neg (by rw [hb]; decide)], hb⟩
    cases d0 : c.dead
    · rw [d0] at x1
      cases d2 : decide (c.at_ ≤ max r.gone part)
      · have d1 : decide (c.at_ < 1) = true := by
          simp only [bestB, Bool.not_eq_true', d0, d2] at hb
          simpa using hb
        clear hb
        refine rg_quiet rfl rfl rfl rfl ?_; intro K hK; go_big_quiet_op; go_big_quiet_on
        refine rg_quiet rfl rfl rfl rfl ?_; intro K hK; go_big_quiet_op; go_big_quiet_on
        refine rg_quiet rfl rfl rfl rfl ?_; intro K hK; go_big_quiet_op; go_big_quiet_on
        refine rg_quiet rfl rfl rfl rfl ?_; intro K hK; go_big_quiet_op; go_big_quiet_on
        refine rg_quiet rfl rfl rfl rfl ?_; intro K hK; go_big_quiet_op; go_big_quiet_on
        refine rg_quiet rfl rfl rfl rfl ?_; intro K hK; go_big_quiet_op; go_big_quiet_on
        refine rg_quiet rfl rfl rfl rfl ?_; intro K hK; go_big_quiet_op; go_big_quiet_on
        refine rg_val [] rfl rfl rfl (by kernel_rfl) (fun w1 hE hf => ?_) ?_
        · go_simp
          exact (gone7_any r v part w1).mono fun e w' ⟨he, hw⟩ => ⟨_, he, rg_done hE hw (rfl)⟩
        simp only [Act.put, List.setIfInBounds_toArray, List.set_cons_zero, List.set_cons_succ]
        refine rg_quiet rfl rfl rfl rfl ?_; intro K hK; go_big_quiet_op; go_big_quiet_on
        refine rg_quiet rfl rfl rfl rfl ?_; intro K hK; go_big_quiet_op; go_big_quiet_on
        refine rg_quiet rfl rfl rfl rfl ?_; intro K hK; go_big_quiet_op; go_big_quiet_on
        refine rg_quiet rfl rfl rfl rfl ?_; intro K hK; go_big_quiet_op; go_big_quiet_on
        refine rg_quiet rfl rfl rfl rfl ?_; intro K hK; go_big_quiet_op; go_big_quiet_on
        refine rg_quiet rfl rfl rfl rfl ?_; intro K hK; go_big_quiet_op; go_big_quiet_on
        refine rg_quiet rfl rfl rfl rfl ?_; intro K hK; go_big_quiet_op; go_big_quiet_on
        refine rel_nil fun w5 hE5 _ => ?_
        obtain ⟨b2, b1, hX⟩ := FIN.out w5 hE5
        clear x1 x2 y0 y1 y2 y3 y4 y5 y6 y7 hE5 FIN hE
        obtain ⟨z0, z1, z2, z3⟩ := b1.cl
        have xf := b1.free
        go_wp2_with fail
        rw [HB.out.1, HB.out.2]
        refine bodyPost_ret (v := .tuple #[(.agg #[.string zeroCl.val, .bool zeroCl.dead, .int .i64 zeroCl.at_, .int .i64 zeroCl.fin]), .bool false]) ?_ rfl ⟨rfl, hX.put4 (Nat.le_succ _)⟩
        generalize hW : World.setCell _ _ _ = w9
        have hb : BoxAt w9 (w.heap.size + 1) (cl4 zeroCl) 52 := by rw [← hW]; exact b1.put4 (d := zeroCl)
        obtain ⟨q0, q1, q2, q3⟩ := hb.cl
        simp [results, Try.results95, go_sem, q0, q1, q2, q3]
      · clear hb
        refine rg_quiet rfl rfl rfl rfl ?_; intro K hK; go_big_quiet_op; go_big_quiet_on
        refine rg_quiet rfl rfl rfl rfl ?_; intro K hK; go_big_quiet_op; go_big_quiet_on
        refine rg_quiet rfl rfl rfl rfl ?_; intro K hK; go_big_quiet_op; go_big_quiet_on
        refine rg_quiet rfl rfl rfl rfl ?_; intro K hK; go_big_quiet_op; go_big_quiet_on
        refine rg_quiet rfl rfl rfl rfl ?_; intro K hK; go_big_quiet_op; go_big_quiet_on
        refine rg_quiet rfl rfl rfl rfl ?_; intro K hK; go_big_quiet_op; go_big_quiet_on
        refine rg_quiet rfl rfl rfl rfl ?_; intro K hK; go_big_quiet_op; go_big_quiet_on
        refine rg_val [] rfl rfl rfl (by kernel_rfl) (fun w1 hE hf => ?_) ?_
        · go_simp
          exact (gone7_any r v part w1).mono fun e w' ⟨he, hw⟩ => ⟨_, he, rg_done hE hw (rfl)⟩
        simp only [Act.put, List.setIfInBounds_toArray, List.set_cons_zero, List.set_cons_succ]
        refine rg_quiet rfl rfl rfl rfl ?_; intro K hK; go_big_quiet_op; go_big_quiet_on
        refine rg_quiet rfl rfl rfl rfl ?_; intro K hK; go_big_quiet_op; go_big_quiet_on
        refine rg_quiet rfl rfl rfl rfl ?_; intro K hK; go_big_quiet_op; go_big_quiet_on
        refine rel_skip rfl rfl ?_
        simp only [Act.put, List.setIfInBounds_toArray, List.set_cons_zero, List.set_cons_succ]
        refine rel_skip rfl rfl ?_
        simp only [Act.put, List.setIfInBounds_toArray, List.set_cons_zero, List.set_cons_succ]
        refine rel_skip rfl rfl ?_
        simp only [Act.put, List.setIfInBounds_toArray, List.set_cons_zero, List.set_cons_succ]
        refine rg_quiet rfl rfl rfl rfl ?_; intro K hK; go_big_quiet_op; go_big_quiet_on
        refine rel_nil fun w5 hE5 _ => ?_
        obtain ⟨b2, b1, hX⟩ := FIN.out w5 hE5
        clear x1 x2 y0 y1 y2 y3 y4 y5 y6 y7 hE5 FIN hE
        obtain ⟨z0, z1, z2, z3⟩ := b1.cl
        have xf := b1.free
        go_wp2_with fail
        rw [HB.out.1, HB.out.2]
        refine bodyPost_ret (v := .tuple #[(.agg #[.string zeroCl.val, .bool zeroCl.dead, .int .i64 zeroCl.at_, .int .i64 zeroCl.fin]), .bool false]) ?_ rfl ⟨rfl, hX.put4 (Nat.le_succ _)⟩
        generalize hW : World.setCell _ _ _ = w9
        have hb : BoxAt w9 (w.heap.size + 1) (cl4 zeroCl) 52 := by rw [← hW]; exact b1.put4 (d := zeroCl)
        obtain ⟨q0, q1, q2, q3⟩ := hb.cl
        simp [results, Try.results95, go_sem, q0, q1, q2, q3]
    · rw [d0] at x1
      clear hb
      refine rg_quiet rfl rfl rfl rfl ?_; intro K hK; go_big_quiet_op; go_big_quiet_on
      refine rg_quiet rfl rfl rfl rfl ?_; intro K hK; go_big_quiet_op; go_big_quiet_on
      refine rg_quiet rfl rfl rfl rfl ?_; intro K hK; go_big_quiet_op; go_big_quiet_on
      refine rel_skip rfl rfl ?_
      simp only [Act.put, List.setIfInBounds_toArray, List.set_cons_zero, List.set_cons_succ]
      refine rel_skip rfl rfl ?_
      simp only [Act.put, List.setIfInBounds_toArray, List.set_cons_zero, List.set_cons_succ]
      refine rel_skip rfl rfl ?_
      simp only [Act.put, List.setIfInBounds_toArray, List.set_cons_zero, List.set_cons_succ]
      refine rel_skip rfl rfl ?_
      simp only [Act.put, List.setIfInBounds_toArray, List.set_cons_zero, List.set_cons_succ]
      refine rel_skip rfl rfl ?_
      simp only [Act.put, List.setIfInBounds_toArray, List.set_cons_zero, List.set_cons_succ]
      refine rel_skip rfl rfl ?_
      simp only [Act.put, List.setIfInBounds_toArray, List.set_cons_zero, List.set_cons_succ]
      refine rg_quiet rfl rfl rfl rfl ?_; intro K hK; go_big_quiet_op; go_big_quiet_on
      refine rg_quiet rfl rfl rfl rfl ?_; intro K hK; go_big_quiet_op; go_big_quiet_on
      refine rel_skip rfl rfl ?_
      simp only [Act.put, List.setIfInBounds_toArray, List.set_cons_zero, List.set_cons_succ]
      refine rel_skip rfl rfl ?_
      simp only [Act.put, List.setIfInBounds_toArray, List.set_cons_zero, List.set_cons_succ]
      refine rel_skip rfl rfl ?_
      simp only [Act.put, List.setIfInBounds_toArray, List.set_cons_zero, List.set_cons_succ]
      refine rg_quiet rfl rfl rfl rfl ?_; intro K hK; go_big_quiet_op; go_big_quiet_on
      refine rel_nil fun w5 hE5 _ => ?_
      obtain ⟨b2, b1, hX⟩ := FIN.out w5 hE5
      clear x1 x2 y0 y1 y2 y3 y4 y5 y6 y7 hE5 FIN hE
      obtain ⟨z0, z1, z2, z3⟩ := b1.cl
      have xf := b1.free
      go_wp2_with fail
      rw [HB.out.1, HB.out.2]
      refine bodyPost_ret (v := .tuple #[(.agg #[.string zeroCl.val, .bool zeroCl.dead, .int .i64 zeroCl.at_, .int .i64 zeroCl.fin]), .bool false]) ?_ rfl ⟨rfl, hX.put4 (Nat.le_succ _)⟩
      generalize hW : World.setCell _ _ _ = w9
      have hb : BoxAt w9 (w.heap.size + 1) (cl4 zeroCl) 52 := by rw [← hW]; exact b1.put4 (d := zeroCl)
      obtain ⟨q0, q1, q2, q3⟩ := hb.cl
      simp [results, Try.results95, go_sem, q0, q1, q2, q3]
end Go.Proofs.Yteamiiekpjoclaa

/- Place: any number as one below another. -/
namespace Go.Proofs.Yteamiiekpjoclaa
open Go Go.RowKit

set_option maxHeartbeats 400000 in
theorem place_any (v n : Int) (h : 1 ≤ n) (hn : n ≤ 9223372036854775807) (w : World) :
    Calls Try.prog 11 #[.int .i64 v, .int .i64 n] w fun e w' => e = .returned (.int .i64 (v % n)) ∧ w = w' := by
  have hlo := (tmod_lo (v := v) h).1
  have hhi := (tmod_lo (v := v) h).2
  by_cases h0 : v.tmod n < 0
  · have HE := Lib.hid (tmod_neg h h0)
    go_enter Try.func11, Try.ntmps11
    go_wp2
    go_ret
    exact ⟨ret_int HE.out, rfl⟩
  · have h0' : 0 ≤ v.tmod n := by omega
    have HE := Lib.hid (tmod_pos h h0')
    go_enter Try.func11, Try.ntmps11
    go_wp2
    go_ret
    exact ⟨ret_int HE.out, rfl⟩

end Go.Proofs.Yteamiiekpjoclaa

/- The walk over order.Text. -/
namespace Go.Proofs.Yteamiiekpjoclaa
open Go Go.RowKit

set_option maxHeartbeats 400000 in
theorem own_any (a : Option Addr) (n c : Nat) (h : n ≤ c) (_hc : c ≤ maxLen) (w : World) :
    Calls Try.prog 94 #[.slice a n c] w fun e w' => e = .returned (.slice a n n) ∧ w = w' := by
  unfold maxLen at _hc
  go_enter Try.func94, Try.ntmps94
  go_wp2
  go_ret
  exact ⟨rfl, rfl⟩

theorem cs255 : (#[Value.int .u8 255] : Array Value).toList = bcells [255] := rfl
theorem cs01 : (#[Value.int .u8 0, Value.int .u8 1] : Array Value).toList = bcells [0, 1] := rfl
theorem take_snoc (s : ByteArray) (k : Nat) (h : k < s.size) : s.data.toList.take (k + 1) = s.data.toList.take k ++ [s[k]] := by
  rw [List.take_succ_eq_append_getElem (by simpa using h)]; rfl

theorem text_zero {w w0 : World} {v : Value} {l : List UInt8} {s : ByteArray} {k : Nat} {b : UInt8} (h1 : s.data.toList.take (k + 1) = s.data.toList.take k ++ [b])
    (h2 : esc (s.data.toList.take k ++ [b]) = esc (s.data.toList.take k) ++ if b = 0 then [0, 255] else [b]) (hz : ((b.toNat : Int) == 0) = true) (h : OwnB w w0.heap.size v (l ++ esc (s.data.toList.take k) ++ [b] ++ [255])) :
    OwnB w w0.heap.size v (l ++ esc (s.data.toList.take (k + 1))) := by
  have hb : b = 0 := by apply UInt8.toNat.inj; have := beq_iff_eq.1 hz; simpa using this
  subst hb
  rw [h1, h2]
  simpa using h
theorem text_other {w w0 : World} {v : Value} {l : List UInt8} {s : ByteArray} {k : Nat} {b : UInt8} (h1 : s.data.toList.take (k + 1) = s.data.toList.take k ++ [b])
    (h2 : esc (s.data.toList.take k ++ [b]) = esc (s.data.toList.take k) ++ if b = 0 then [0, 255] else [b]) (hz : ((b.toNat : Int) == 0) = false) (h : OwnB w w0.heap.size v (l ++ esc (s.data.toList.take k) ++ [b])) :
    OwnB w w0.heap.size v (l ++ esc (s.data.toList.take (k + 1))) := by
  have hb : b ≠ 0 := by rintro rfl; simp at hz
  rw [h1, h2, if_neg hb]
  simpa using h

set_option maxHeartbeats 400000 in
theorem text_any (v : Value) (l : List UInt8) (s : ByteArray) (w : World) (hv : BytesIn w v l) (hl : l.length + 2 * s.size + 2 ≤ 140737488355328) :
    Calls Try.prog 65 #[v, .string s] w fun e w' => ∃ v', e = .returned v' ∧ OwnB w' w.heap.size v' (l ++ txt s.data.toList) ∧ Ext w w' := by
  obtain ⟨a, c, rfl, hc, hcm, ha, hcell⟩ := hv
  have hv : BytesIn w (.slice a l.length l.length) l := ⟨a, l.length, rfl, Nat.le_refl _, Nat.le_trans hc hcm, fun h => by have := ha h; omega, hcell⟩
  clear hcell ha
  go_enter Try.func65, Try.ntmps65
  go_wp2_with (go_at_call 94; refine (own_any _ _ _ hc hcm _).mono ?_; rintro e w' ⟨rfl, rfl⟩)
  clear hc hcm
  go_loopw [0, 10] (fun v n wr => ∃ k : Nat, k ≤ s.size ∧ n = .int .i64 k ∧ Tip wr w.heap.size v (l ++ esc (s.data.toList.take k)) ∧ Ext w wr) (fun _ n _ => s.size - (intOf n).toNat)
  case atStart => exact ⟨0, Nat.zero_le _, rfl, by simpa [esc] using Tip.full hv, Ext.refl w⟩
  case round =>
    obtain ⟨k, hk, rfl, hown, hE⟩ := hrel
    have hlen : (esc (s.data.toList.take k)).length ≤ 2 * k := Nat.le_trans (esc_length_le _) (by simp; omega)
    by_cases hlt : k < s.size
    · have hsn := Lib.hid (esc_snoc (s.data.toList.take k) s[k])
      have hts := Lib.hid (take_snoc s k hlt)
      go_wp2_with (first
        | (at_builtin; refine appB wr rfl (.tmp 13) (.tmp 17) rfl w hE _ _ _ _ (csb _) (by simp) rfl hown _ rfl rfl (by simp; omega) ?_; intro v2 w2 hown2 hE2)
        | (at_builtin; go_must (refine appB _ rfl (.tmp 23) (.tmp 24) rfl w hE2 _ _ _ [255] cs255 (by simp) rfl (Tip.own hown2) _ rfl rfl (by simp; omega) ?_); intro v3 w3 hown3 hE3))
      · have hz : ((s[k].toNat : Int) == 0) = true := by assumption
        go_roundw
        case rel => exact ⟨k + 1, by omega, by go_num, Tip.own (text_zero hts.out hsn.out hz hown3), hE3⟩
        case measure => simp [intOf] <;> omega
      · have hz : ((s[k].toNat : Int) == 0) = false := by assumption
        go_roundw
        case rel => exact ⟨k + 1, by omega, by go_num, Tip.own (text_other hts.out hsn.out hz hown2), hE2⟩
        case measure => simp [intOf] <;> omega
    · go_wp2_with (at_builtin; go_must (refine appB wr rfl (.tmp 27) (.tmp 28) rfl w hE _ _ _ [0, 1] cs01 (by simp) rfl hown _ rfl rfl (by simp; omega) ?_); intro v3 w3 hown3 hE3)
      go_ret
      exact ⟨_, rfl, by rw [List.take_of_length_le (by simp; omega), List.append_assoc] at hown3; exact hown3, hE3⟩

theorem Text_nil (s : ByteArray) (w : World) (hl : 2 * s.size + 2 ≤ 140737488355328) :
    Calls Try.prog 65 #[.slice none 0 0, .string s] w fun e w' => ∃ v', e = .returned v' ∧ OwnB w' w.heap.size v' (txt s.data.toList) ∧ Ext w w' := by
  simpa using text_any _ [] s w (SliceIn.nil _) (by simpa using hl)

end Go.Proofs.Yteamiiekpjoclaa
