/- wire.Get: the pieces read. -/
import Derived.Test.YtfagnbofnaoncaaDoorQ18
import Derived.Test.YtfagnbofnaoncaaDoorQ6
import Derived.Test.YtfagnbofnaoncaaDoorQ15
import Derived.Test.YtfagnbofnaoncaaDoorQ17
import Derived.Test.YtfagnbofnaoncaaDoorQ16
set_option linter.unusedSimpArgs false
set_option linter.unusedVariables false
namespace Go.Proofs.YtfagnbofnaoncaaDoor
open Go Go.RowKit
attribute [local go_sem] yields yUpon

/-- The state behind k pieces. -/
structure GetAt (w0 w : World) (q p : Nat) (v : Value) (B : List UInt8) (k : Nat) (R : Mg × (Nat × Int)) : Prop where
  at_ : ∃ s m vm vk ms ks, MsgAt w0 w q p v B s m vm vk ms ks ∧ Hid (restW B (7 - k) (⟨m, ms.map Mt.q, ks⟩, s) = R) ∧ (k ≤ 5 → vm = .slice none 0 0 ∧ ms = []) ∧ (k ≤ 6 → vk = .slice none 0 0 ∧ ks = [])

structure GotT (w : World) (vm vk : Value) (ms : List Mt) (ks : List ByteArray) : Prop where
  mt : TIn w 42 vm ms.length (mtCells ms)
  rows : ∀ m ∈ ms, RowsT w m.pa.rv m.pa.ps
  ks : TIn w 9 vk ks.length (ks.map .string)
theorem GotT.ext {w w' : World} (hE : Ext w w') {vm vk : Value} {ms : List Mt} {ks : List ByteArray} (h : GotT w vm vk ms ks) : GotT w' vm vk ms ks := ⟨h.mt.ext hE, fun m hm => (h.rows m hm).ext hE, h.ks.ext hE⟩
theorem GotT.set {w : World} {vm vk : Value} {ms : List Mt} {ks : List ByteArray} {p : Nat} {cs : Array Value} (i : Nat) (u : Value) (h : GotT w vm vk ms ks) (hb : BoxAt w p cs 25) : GotT (w.setCell ⟨p, i, none⟩ u) vm vk ms ks :=
  ⟨TIn.set i u hb (by decide) h.mt, fun m hm => RowsT.set i u hb (by decide) (by decide) (h.rows m hm), TIn.set i u hb (by decide) h.ks⟩
theorem GotT.got {w : World} {vm vk : Value} {ms : List Mt} {ks : List ByteArray} (hd : Hd) (h : GotT w vm vk ms ks) : GotW w vm vk ms ⟨hd, ms.map Mt.q, ks⟩ := ⟨⟨h.mt.slice, fun m hm => (h.rows m hm).rows⟩, rfl, h.ks.slice⟩
theorem BoxAt.ne_type {w : World} {b c : Nat} {cs ds : Array Value} {e f : TypeId} (h : BoxAt w b cs e) (k : BoxAt w c ds f) (hne : e ≠ f) : b ≠ c := by
  rintro rfl
  unfold BoxAt at h k
  rw [h] at k
  injection k with k
  injection k with _ k
  exact hne k

set_option maxRecDepth 100000 in
set_option maxHeartbeats 16000000 in
theorem wget_read (S : ByteArray) (w : World) (hT : TabU w) (hS : S.size ≤ 4096) :
    Calls Tryd.prog 8 #[.string S] w fun e w' => ∃ vm vk ms, e = .returned (.tuple #[.agg (hd7 (gwMg S.data.toList).hd vm vk), .int .i64 (gwErr S.data.toList)]) ∧ GotW w' vm vk ms (gwMg S.data.toList) ∧ Ext w w' := by
  have hE0 := (Ext.refl w).alloc (.cells (hd7 ⟨0, 0, 0, 0, 0⟩ (.slice none 0 0) (.slice none 0 0)) 25)
  have b2 := BoxAt.made w (hd7 ⟨0, 0, 0, 0, 0⟩ (.slice none 0 0) (.slice none 0 0)) 25
  obtain ⟨B, hB⟩ : ∃ B, B = S.data.toList := ⟨_, rfl⟩
  rw [← hB]
  have hBl : B.length = S.size := by rw [hB, dat_size]
  have HB := Lib.hid hB
  have hd : ¬ (4096 : Int) < (S.size : Int) := by omega
  clear hB
  unfold hd7 at b2 hE0
  go_enter Tryd.func8, Tryd.ntmps8
  go_upto_region 6 with (first
    | ((guard_target =~ wpList _ _ _ (Oper.mk (some 13) _ _ _ _ _ :: _) _ _); go_must (refine wpList_strB (by rfl) (.tmp 12) rfl rfl (by unfold maxLen; omega) ?_); intro c3 w3 hby hE3 hsz3)
    | (go_at_call 14; go_must (refine (pieces_any _ _).mono ?_); rintro e w6 ⟨pb, ⟨rfl, hE6⟩, hpb⟩))
  have hz1 : (w.alloc (.cells #[.int .i64 0, .int .i64 0, .int .i64 0, .int .i64 0, .slice none 0 0, .slice none 0 0, .int .i64 0] 25)).heap.size = w.heap.size + 1 := by simp
  rw [hz1] at hby hsz3
  rw [← HB.out] at hby
  have hX3 := hE0.trans hE3
  have hE4 := (Ext.refl w3).alloc (.cells #[.slice (some ⟨w.heap.size + 1, 0, none⟩) S.size c3, .int .i64 0, .int .i64 0] 54)
  have hz4 : (w3.alloc (.cells #[.slice (some ⟨w.heap.size + 1, 0, none⟩) S.size c3, .int .i64 0, .int .i64 0] 54)).heap.size = w.heap.size + 1 + 1 + 1 := by simp [hsz3]
  have rd4 : WdAt (w3.alloc (.cells #[.slice (some ⟨w.heap.size + 1, 0, none⟩) S.size c3, .int .i64 0, .int .i64 0] 54)) (w.heap.size + 1 + 1) (.slice (some ⟨w.heap.size + 1, 0, none⟩) S.size c3) B (0, 0) := ⟨BoxAt.madeN _ _ hsz3, BytesIn.ext hE4 (by rw [← hBl] at hby ⊢; exact hby), fun b o k c e => by cases e; omega, Nat.zero_le _, by omega⟩
  have hE5 := (Ext.refl (w3.alloc (.cells #[.slice (some ⟨w.heap.size + 1, 0, none⟩) S.size c3, .int .i64 0, .int .i64 0] 54))).alloc (.cells #[.int .i64 0, .int .i64 0, .int .i64 0, .int .i64 0, .slice none 0 0, .slice none 0 0, .int .i64 0] 25)
  have bm5 := BoxAt.madeN (w := w3.alloc (.cells #[.slice (some ⟨w.heap.size + 1, 0, none⟩) S.size c3, .int .i64 0, .int .i64 0] 54)) #[.int .i64 0, .int .i64 0, .int .i64 0, .int .i64 0, .slice none 0 0, .slice none 0 0, .int .i64 0] 25 hz4
  have rd6 := (rd4.ext hE5).ext hE6
  have bm6 := bm5.ext hE6
  have hnq : pb ≠ w.heap.size + 1 + 1 := hpb.ne_type rd6.box (by decide)
  have hnp : pb ≠ w.heap.size + 1 + 1 + 1 := hpb.ne_type bm6 (by decide)
  have b26 := (((b2.ext hE3).ext hE4).ext hE5).ext hE6
  have hX6 := ((hX3.trans hE4).trans hE5).trans hE6
  have hv : ∀ b o k c, Value.slice (some ⟨w.heap.size + 1, 0, none⟩) S.size c3 = .slice (some ⟨b, o, none⟩) k c → b ≠ w.heap.size + 1 + 1 + 1 := fun b o k c e => by cases e; omega
  obtain ⟨v, hve⟩ : ∃ v, v = Value.slice (some ⟨w.heap.size + 1, 0, none⟩) S.size c3 := ⟨_, rfl⟩
  rw [← hve] at rd6 hv
  obtain ⟨R, hR⟩ : ∃ R, R = msgR B := ⟨_, rfl⟩
  obtain ⟨q, hq⟩ : ∃ q, q = w.heap.size + 1 + 1 := ⟨_, rfl⟩
  obtain ⟨p, hp⟩ : ∃ p, p = w.heap.size + 1 + 1 + 1 := ⟨_, rfl⟩
  rw [← hq] at hp
  rw [← hq, ← hp] at bm6 hpb
  rw [← hq] at rd6 hnq
  rw [← hq, ← hp] at hnp hv
  have M6 : MsgAt w6 w6 q p v B (0, 0) ⟨0, 0, 0, 0, 0⟩ (.slice none 0 0) (.slice none 0 0) [] [] :=
    ⟨rd6, bm6, by omega, TIn.nil _ _, nofun, TIn.nil _ _, Touch2.refl _ _ _⟩
  have G6 : GetAt w6 w6 q p v B 0 R := ⟨_, _, _, _, _, _, M6, Lib.hid hR.symm, fun _ => ⟨rfl, rfl⟩, fun _ => ⟨rfl, rfl⟩⟩
  have HRR := far hR
  clear hR M6
  rw [← hq, ← hp]
  have hqw : w.heap.size < q := by omega
  have hpw : w.heap.size < p := by omega
  clear hq hp hve
  go_loopw [18] (fun i wr => ∃ k : Nat, k ≤ 7 ∧ i = .int .i64 (k : Int) ∧ GetAt w6 wr q p v B k R) (fun i _ => 7 - (intOf i).toNat)
  case atStart => exact ⟨0, Nat.zero_le _, rfl, G6⟩
  case round =>
    clear G6
    obtain ⟨k, hk, rfl, hG⟩ := hrel
    obtain ⟨s, m, vm, vk, ms, ks, M, HX, h5, h6⟩ := hG
    have hpr := M.ext.box hpb hnq hnp
    by_cases hlt : k < 7
    · obtain rfl | rfl | rfl | rfl | rfl | rfl | rfl : k = 0 ∨ k = 1 ∨ k = 2 ∨ k = 3 ∨ k = 4 ∨ k = 5 ∨ k = 6 := by omega
      · obtain ⟨rfl, rfl⟩ := h5 (by omega)
        obtain ⟨rfl, rfl⟩ := h6 (by omega)
        have p0 : wr.cell? ⟨pb, 0, none⟩ = some (.iface 72 (.agg #[.pointer (some ⟨p, 0, none⟩)])) := hpr.cell 0
        go_wp2_with fail
        refine upon_method 64 (by kernel_rfl) ?_
        go_wp2_with (go_at_call 64; go_must (refine (wd_numget 0 m.kind ⟨((numR B s).1 : Int), m.from_, m.to_, m.id, m.num⟩ rfl rfl hv M).mono ?_); rintro e w7 ⟨rfl, M7⟩)
        exact ⟨⟨1, by omega, rfl, ⟨_, _, _, _, _, _, M7, Lib.hid HX.out, fun _ => ⟨rfl, rfl⟩, fun _ => ⟨rfl, rfl⟩⟩⟩, by simp [intOf]⟩
      · obtain ⟨rfl, rfl⟩ := h5 (by omega)
        obtain ⟨rfl, rfl⟩ := h6 (by omega)
        have p0 : wr.cell? ⟨pb, 1, none⟩ = some (.iface 72 (.agg #[.pointer (some ⟨p, 1, none⟩)])) := hpr.cell 1
        go_wp2_with fail
        refine upon_method 64 (by kernel_rfl) ?_
        go_wp2_with (go_at_call 64; go_must (refine (wd_numget 1 m.from_ ⟨m.kind, ((numR B s).1 : Int), m.to_, m.id, m.num⟩ rfl rfl hv M).mono ?_); rintro e w7 ⟨rfl, M7⟩)
        exact ⟨⟨2, by omega, rfl, ⟨_, _, _, _, _, _, M7, Lib.hid HX.out, fun _ => ⟨rfl, rfl⟩, fun _ => ⟨rfl, rfl⟩⟩⟩, by simp [intOf]⟩
      · obtain ⟨rfl, rfl⟩ := h5 (by omega)
        obtain ⟨rfl, rfl⟩ := h6 (by omega)
        have p0 : wr.cell? ⟨pb, 2, none⟩ = some (.iface 72 (.agg #[.pointer (some ⟨p, 2, none⟩)])) := hpr.cell 2
        go_wp2_with fail
        refine upon_method 64 (by kernel_rfl) ?_
        go_wp2_with (go_at_call 64; go_must (refine (wd_numget 2 m.to_ ⟨m.kind, m.from_, ((numR B s).1 : Int), m.id, m.num⟩ rfl rfl hv M).mono ?_); rintro e w7 ⟨rfl, M7⟩)
        exact ⟨⟨3, by omega, rfl, ⟨_, _, _, _, _, _, M7, Lib.hid HX.out, fun _ => ⟨rfl, rfl⟩, fun _ => ⟨rfl, rfl⟩⟩⟩, by simp [intOf]⟩
      · obtain ⟨rfl, rfl⟩ := h5 (by omega)
        obtain ⟨rfl, rfl⟩ := h6 (by omega)
        have p0 : wr.cell? ⟨pb, 3, none⟩ = some (.iface 72 (.agg #[.pointer (some ⟨p, 3, none⟩)])) := hpr.cell 3
        go_wp2_with fail
        refine upon_method 64 (by kernel_rfl) ?_
        go_wp2_with (go_at_call 64; go_must (refine (wd_numget 3 m.id ⟨m.kind, m.from_, m.to_, ((numR B s).1 : Int), m.num⟩ rfl rfl hv M).mono ?_); rintro e w7 ⟨rfl, M7⟩)
        exact ⟨⟨4, by omega, rfl, ⟨_, _, _, _, _, _, M7, Lib.hid HX.out, fun _ => ⟨rfl, rfl⟩, fun _ => ⟨rfl, rfl⟩⟩⟩, by simp [intOf]⟩
      · obtain ⟨rfl, rfl⟩ := h5 (by omega)
        obtain ⟨rfl, rfl⟩ := h6 (by omega)
        have p0 : wr.cell? ⟨pb, 4, none⟩ = some (.iface 72 (.agg #[.pointer (some ⟨p, 6, none⟩)])) := hpr.cell 4
        go_wp2_with fail
        refine upon_method 64 (by kernel_rfl) ?_
        go_wp2_with (go_at_call 64; go_must (refine (wd_numget 6 m.num ⟨m.kind, m.from_, m.to_, m.id, ((numR B s).1 : Int)⟩ rfl rfl hv M).mono ?_); rintro e w7 ⟨rfl, M7⟩)
        exact ⟨⟨5, by omega, rfl, ⟨_, _, _, _, _, _, M7, Lib.hid HX.out, fun _ => ⟨rfl, rfl⟩, fun _ => ⟨rfl, rfl⟩⟩⟩, by simp [intOf]⟩
      · obtain ⟨rfl, rfl⟩ := h5 (by omega)
        obtain ⟨rfl, rfl⟩ := h6 (by omega)
        have p0 : wr.cell? ⟨pb, 5, none⟩ = some (.iface 75 (.agg #[.pointer (some ⟨p, 4, none⟩)])) := hpr.cell 5
        go_wp2_with fail
        refine upon_method 72 (by kernel_rfl) ?_
        go_wp2_with (go_at_call 72; go_must (refine (wd_mutsget hv M).mono ?_); rintro e w7 ⟨rfl, vm7, ms7, M7, hq7⟩)
        exact ⟨⟨6, by omega, rfl, ⟨_, _, _, _, _, _, M7, Lib.hid (by rw [hq7]; exact HX.out), fun h => absurd h (by omega), fun _ => ⟨rfl, rfl⟩⟩⟩, by simp [intOf]⟩
      · obtain ⟨rfl, rfl⟩ := h6 (by omega)
        have p0 : wr.cell? ⟨pb, 6, none⟩ = some (.iface 78 (.agg #[.pointer (some ⟨p, 5, none⟩)])) := hpr.cell 6
        go_wp2_with fail
        refine upon_method 99 (by kernel_rfl) ?_
        go_wp2_with (go_at_call 99; go_must (refine (wd_textsget hv M).mono ?_); rintro e w7 ⟨rfl, vk7, M7⟩)
        exact ⟨⟨7, by omega, rfl, ⟨_, _, _, _, _, _, M7, Lib.hid HX.out, fun h => absurd h (by omega), fun h => absurd h (by omega)⟩⟩, by simp [intOf]⟩
    · obtain rfl : k = 7 := by omega
      have HX7 : Hid ((⟨⟨m, ms.map Mt.q, ks⟩, s⟩ : Mg × (Nat × Int)) = R) := Lib.hid HX.out
      clear HX h5 h6 hpr hk hlt
      obtain ⟨i, e⟩ := s
      have hle : i ≤ B.length := M.rd.le
      obtain ⟨av, cv, hve, _⟩ := M.rd.shape
      subst hve
      have c0 : wr.cell? ⟨q, 0, none⟩ = some (.slice av B.length cv) := M.rd.c0
      have c1 : wr.cell? ⟨q, 1, none⟩ = some (.int .i64 (i : Int)) := M.rd.c1
      go_wp2_with fail
      go_quiet (fail)
      have M1 := M.more ((Ext.refl wr).drewN nq)
      generalize World.drewN wr _ = w8 at M1 ⊢
      clear M c0 c1
      go_upto_if 35 with fail
      go_cut [] from 22 (fun wc => ∃ e1, MsgAt w6 wc q p (.slice av B.length cv) B (i, e1) m vm vk ms ks ∧ Hid (endR B (i, e) = (i, e1)))
      case first =>
        by_cases hl : i < B.length
        · have HE : Hid (endR B (i, e) = failR 6 (i, e)) := Lib.hid (if_pos (by show 0 < B.length - i; omega))
          have d0 : decide ((i : Int) < (B.length : Int)) = true := by simpa using hl
          go_wp2_with (go_at_call 15; go_must (refine (wd_fail 6 M1.rd).mono ?_); rintro e7 w7 ⟨rfl, h7, hT7⟩)
          go_meet
          case rel => exact ⟨(failR 6 (i, e)).2, by have := M1.turn hT7 h7; rwa [show failR 6 (i, e) = (i, (failR 6 (i, e)).2) by unfold failR; split <;> rfl] at this, Lib.hid (by rw [HE.out]; unfold failR; split <;> rfl)⟩
        · have HE : Hid (endR B (i, e) = (i, e)) := Lib.hid (if_neg (by show ¬ 0 < B.length - i; omega))
          have d0 : decide ((i : Int) < (B.length : Int)) = false := by simpa using hl
          go_wp2_with fail
          go_meet
          case rel => exact ⟨e, M1, HE⟩
      case rest =>
        obtain ⟨e1, M2, HE⟩ := hcut
        clear M1
        have hX2 : Ext w wc := M2.ext.ext hX6 (by omega) (by omega)
        have b2c := M2.ext.box b26 (show w.heap.size ≠ q by omega) (show w.heap.size ≠ p by omega)
        have HGW : Far (gwR B = (⟨m, ms.map Mt.q, ks⟩, (i, e1))) := far (by unfold gwR; rw [← HRR.out, ← HX7.out]; simp only; rw [HE.out])
        have hlow := msgR_low B
        rw [← HRR.out, ← HX7.out] at hlow
        simp only at hlow
        have hBl4 : B.length ≤ 4096 := by omega
        have hMb : ∀ x ∈ ms, x.table.size ≤ 1000000 ∧ ∀ p ∈ x.pa.ps, ∀ c ∈ p.1.cols, c.name.size ≤ 1000000 := fun x hx => by
          have h1 := hlow.1 x.q (List.mem_map_of_mem hx)
          exact ⟨Nat.le_trans h1.1 (by omega), fun p hp c hc => Nat.le_trans (h1.2 p.1 (List.mem_map_of_mem (f := (·.1)) hp) c hc) (by omega)⟩
        have k6 := wcheck_gen m vm vk ms ks wc (hT.ext hX2) ⟨M2.mt.slice, fun m hm => (M2.rows m hm).rows⟩ M2.ks.slice hMb (fun s hs => Nat.le_trans (hlow.2 s hs) (by omega))
        have HMQ : Far (msB m ms ks = msQ ⟨m, ms.map Mt.q, ks⟩) := far (msB_q m ms ks)
        obtain ⟨am, cm, rfl⟩ := M2.mt.shape
        obtain ⟨ak, ck, rfl⟩ := M2.ks.shape
        have hGot : GotT wc (.slice am ms.length cm) (.slice ak ks.length ck) ms ks := ⟨M2.mt, M2.rows, M2.ks⟩
        have HGOT := far hGot
        have hbx := M2.box
        have c2 : wc.cell? ⟨q, 2, none⟩ = some (.int .i64 e1) := M2.rd.c2
        clear hMb hlow HX7 HRR hGot HE
        obtain ⟨kd, fr, tt, id, nm⟩ := m
        unfold hd7 at k6 hbx
        simp only at k6 hbx
        have z0 : wc.cell? ⟨p, 0, none⟩ = some (.int .i64 kd) := hbx.cell 0
        have z1 : wc.cell? ⟨p, 1, none⟩ = some (.int .i64 fr) := hbx.cell 1
        have z2 : wc.cell? ⟨p, 2, none⟩ = some (.int .i64 tt) := hbx.cell 2
        have z3 : wc.cell? ⟨p, 3, none⟩ = some (.int .i64 id) := hbx.cell 3
        have z4 : wc.cell? ⟨p, 4, none⟩ = some (.slice am ms.length cm) := hbx.cell 4
        have z5 : wc.cell? ⟨p, 5, none⟩ = some (.slice ak ks.length ck) := hbx.cell 5
        have z6 : wc.cell? ⟨p, 6, none⟩ = some (.int .i64 nm) := hbx.cell 6
        obtain ⟨mn, hmn⟩ : ∃ n, n = ms.length := ⟨_, rfl⟩
        obtain ⟨kn, hkn⟩ : ∃ n, n = ks.length := ⟨_, rfl⟩
        rw [← hmn] at k6 hbx z4 HGOT M2
        rw [← hkn] at k6 hbx z5 HGOT M2
        clear hmn hkn
        by_cases he : e1 = 0
        · subst he
          cases hq : msB ⟨kd, fr, tt, id, nm⟩ ms ks
          · have HER : Far (gwErr B = 1) := far (by unfold gwErr; rw [HGW.out]; simp [← HMQ.out, hq])
            have HBT : Far (gwMg B = mg0) := far (gw_none (by rw [HER.out]; decide))
            rw [hq] at k6
            have K6 := far k6
            clear k6 hq HMQ HGW
            go_upto_region 15 with (first
              | (go_at_call 10; go_must (refine K6.out.mono ?_); rintro e7 w7 ⟨rfl, hE7⟩)
              | (go_at_call 15; go_must (refine (wd_fail 1 (M2.more hE7).rd).mono ?_); rintro e7 w8 ⟨rfl, h8, hT8⟩; rw [show failR 1 (i, (0 : Int)) = (i, 1) from if_pos rfl] at h8; have c2 : w8.cell? ⟨q, 2, none⟩ = some (.int .i64 1) := h8.c2; have b28 := hT8.box (b2c.ext hE7) (show w.heap.size ≠ q by omega); have hE8 : Ext w w8 := hT8.ext (hX2.trans hE7) (by omega)))
            have x0 : w8.cell? ⟨w.heap.size, 0, none⟩ = some (.int .i64 0) := b28.cell 0
            have x1 : w8.cell? ⟨w.heap.size, 1, none⟩ = some (.int .i64 0) := b28.cell 1
            have x2 : w8.cell? ⟨w.heap.size, 2, none⟩ = some (.int .i64 0) := b28.cell 2
            have x3 : w8.cell? ⟨w.heap.size, 3, none⟩ = some (.int .i64 0) := b28.cell 3
            have x4 : w8.cell? ⟨w.heap.size, 4, none⟩ = some (.slice none 0 0) := b28.cell 4
            have x5 : w8.cell? ⟨w.heap.size, 5, none⟩ = some (.slice none 0 0) := b28.cell 5
            have x6 : w8.cell? ⟨w.heap.size, 6, none⟩ = some (.int .i64 0) := b28.cell 6
            have xf := b28.free
            go_region
            have b8 := (((((((b28.set 0 (.int .i64 0)).set 1 (.int .i64 0)).set 2 (.int .i64 0)).set 3 (.int .i64 0)).set 4 (.slice none 0 0)).set 5 (.slice none 0 0)).set 6 (.int .i64 0)).ext (Ext.refl _).drew
            have hE8 := (((((((hE8.setCell (p := ⟨w.heap.size, 0, none⟩) (Nat.le_refl _) (.int .i64 0)).setCell (p := ⟨w.heap.size, 1, none⟩) (Nat.le_refl _) (.int .i64 0)).setCell (p := ⟨w.heap.size, 2, none⟩) (Nat.le_refl _) (.int .i64 0)).setCell (p := ⟨w.heap.size, 3, none⟩) (Nat.le_refl _) (.int .i64 0)).setCell (p := ⟨w.heap.size, 4, none⟩) (Nat.le_refl _) (.slice none 0 0)).setCell (p := ⟨w.heap.size, 5, none⟩) (Nat.le_refl _) (.slice none 0 0)).setCell (p := ⟨w.heap.size, 6, none⟩) (Nat.le_refl _) (.int .i64 0)).drew
            generalize World.drew _ = w9 at b8 hE8 ⊢
            replace b8 : BoxAt w9 w.heap.size #[.int .i64 0, .int .i64 0, .int .i64 0, .int .i64 0, .slice none 0 0, .slice none 0 0, .int .i64 0] 25 := b8
            go_wp2
            refine bodyPost_ret (v := .tuple #[.agg #[.int .i64 0, .int .i64 0, .int .i64 0, .int .i64 0, .slice none 0 0, .slice none 0 0, .int .i64 0], .int .i64 1]) ?_ rfl ⟨_, _, [], by rw [HER.out, HBT.out]; rfl, by rw [HBT.out]; exact GotW.none w9, hE8⟩
            have y0 := b8.cell 0
            have y1 := b8.cell 1
            have y2 := b8.cell 2
            have y3 := b8.cell 3
            have y4 := b8.cell 4
            have y5 := b8.cell 5
            have y6 := b8.cell 6
            simp at y0 y1 y2 y3 y4 y5 y6
            simp [results, Tryd.results8, go_sem, y0, y1, y2, y3, y4, y5, y6]
          · have HER : Far (gwErr B = 0) := far (by unfold gwErr; rw [HGW.out]; simp [← HMQ.out, hq])
            have HBT : Far (gwMg B = ⟨⟨kd, fr, tt, id, nm⟩, ms.map Mt.q, ks⟩) := far (by unfold gwMg; rw [HER.out, if_pos rfl, HGW.out])
            rw [hq] at k6
            have K6 := far k6
            clear k6 hq HMQ HGW
            go_wp2_with (go_at_call 10; go_must (refine K6.out.mono ?_); rintro e7 w7 ⟨rfl, hE7⟩; have c2 : w7.cell? ⟨q, 2, none⟩ = some (.int .i64 0) := (M2.more hE7).rd.c2; have hb7 := hbx.ext hE7; have b27 := b2c.ext hE7; have hX7 := hX2.trans hE7; have z0 : w7.cell? ⟨p, 0, none⟩ = some (.int .i64 kd) := hb7.cell 0; have z1 : w7.cell? ⟨p, 1, none⟩ = some (.int .i64 fr) := hb7.cell 1; have z2 : w7.cell? ⟨p, 2, none⟩ = some (.int .i64 tt) := hb7.cell 2; have z3 : w7.cell? ⟨p, 3, none⟩ = some (.int .i64 id) := hb7.cell 3; have z4 : w7.cell? ⟨p, 4, none⟩ = some (.slice am mn cm) := hb7.cell 4; have z5 : w7.cell? ⟨p, 5, none⟩ = some (.slice ak kn ck) := hb7.cell 5; have z6 : w7.cell? ⟨p, 6, none⟩ = some (.int .i64 nm) := hb7.cell 6; have x0 : w7.cell? ⟨w.heap.size, 0, none⟩ = some (.int .i64 0) := b27.cell 0; have x1 : w7.cell? ⟨w.heap.size, 1, none⟩ = some (.int .i64 0) := b27.cell 1; have x2 : w7.cell? ⟨w.heap.size, 2, none⟩ = some (.int .i64 0) := b27.cell 2; have x3 : w7.cell? ⟨w.heap.size, 3, none⟩ = some (.int .i64 0) := b27.cell 3; have x4 : w7.cell? ⟨w.heap.size, 4, none⟩ = some (.slice none 0 0) := b27.cell 4; have x5 : w7.cell? ⟨w.heap.size, 5, none⟩ = some (.slice none 0 0) := b27.cell 5; have x6 : w7.cell? ⟨w.heap.size, 6, none⟩ = some (.int .i64 0) := b27.cell 6; have xf := b27.free)
            have G7 := HGOT.out.ext hE7
            have G70 := G7.set 0 (.int .i64 kd) b27
            have b70 := b27.set 0 (.int .i64 kd)
            have E70 := hX7.setCell (p := ⟨w.heap.size, 0, none⟩) (Nat.le_refl _) (.int .i64 kd)
            have G71 := G70.set 1 (.int .i64 fr) b70
            have b71 := b70.set 1 (.int .i64 fr)
            have E71 := E70.setCell (p := ⟨w.heap.size, 1, none⟩) (Nat.le_refl _) (.int .i64 fr)
            have G72 := G71.set 2 (.int .i64 tt) b71
            have b72 := b71.set 2 (.int .i64 tt)
            have E72 := E71.setCell (p := ⟨w.heap.size, 2, none⟩) (Nat.le_refl _) (.int .i64 tt)
            have G73 := G72.set 3 (.int .i64 id) b72
            have b73 := b72.set 3 (.int .i64 id)
            have E73 := E72.setCell (p := ⟨w.heap.size, 3, none⟩) (Nat.le_refl _) (.int .i64 id)
            have G74 := G73.set 4 (.slice am mn cm) b73
            have b74 := b73.set 4 (.slice am mn cm)
            have E74 := E73.setCell (p := ⟨w.heap.size, 4, none⟩) (Nat.le_refl _) (.slice am mn cm)
            have G75 := G74.set 5 (.slice ak kn ck) b74
            have b75 := b74.set 5 (.slice ak kn ck)
            have E75 := E74.setCell (p := ⟨w.heap.size, 5, none⟩) (Nat.le_refl _) (.slice ak kn ck)
            have G76 := G75.set 6 (.int .i64 nm) b75
            have b76 := b75.set 6 (.int .i64 nm)
            have E76 := E75.setCell (p := ⟨w.heap.size, 6, none⟩) (Nat.le_refl _) (.int .i64 nm)
            clear G70 G71 G72 G73 G74 G75 b70 b71 b72 b73 b74 b75 E70 E71 E72 E73 E74 E75
            generalize World.setCell (World.setCell (World.setCell (World.setCell (World.setCell (World.setCell (World.setCell w7 _ _) _ _) _ _) _ _) _ _) _ _) _ _ = w9 at b76 E76 G76 ⊢
            replace b76 : BoxAt w9 w.heap.size #[.int .i64 kd, .int .i64 fr, .int .i64 tt, .int .i64 id, .slice am mn cm, .slice ak kn ck, .int .i64 nm] 25 := b76
            refine bodyPost_ret (v := .tuple #[.agg #[.int .i64 kd, .int .i64 fr, .int .i64 tt, .int .i64 id, .slice am mn cm, .slice ak kn ck, .int .i64 nm], .int .i64 0]) ?_ rfl ⟨_, _, ms, by rw [HER.out, HBT.out]; rfl, by rw [HBT.out]; exact G76.got _, E76⟩
            have y0 := b76.cell 0
            have y1 := b76.cell 1
            have y2 := b76.cell 2
            have y3 := b76.cell 3
            have y4 := b76.cell 4
            have y5 := b76.cell 5
            have y6 := b76.cell 6
            simp at y0 y1 y2 y3 y4 y5 y6
            simp [results, Tryd.results8, go_sem, y0, y1, y2, y3, y4, y5, y6]
        · have HER : Far (gwErr B = e1) := far (by unfold gwErr; rw [HGW.out]; exact if_neg he)
          have HBT : Far (gwMg B = mg0) := far (gw_none (by rw [HER.out]; exact he))
          have d0 : (e1 == 0) = false := by simpa using he
          have hf1 : failR 1 (i, e1) = (i, e1) := if_neg he
          have HF1 := far hf1
          cases hq : msB ⟨kd, fr, tt, id, nm⟩ ms ks
          · rw [hq] at k6
            have K6 := far k6
            clear k6 hq HMQ HGW hf1
            go_upto_region 15 with (first
              | (go_at_call 10; go_must (refine K6.out.mono ?_); rintro e7 w7 ⟨rfl, hE7⟩)
              | (go_at_call 15; go_must (refine (wd_fail 1 (M2.more hE7).rd).mono ?_); rintro e7 w8 ⟨rfl, h8, hT8⟩; rw [HF1.out] at h8; have c2 : w8.cell? ⟨q, 2, none⟩ = some (.int .i64 e1) := h8.c2; have b28 := hT8.box (b2c.ext hE7) (show w.heap.size ≠ q by omega); have hE8 : Ext w w8 := hT8.ext (hX2.trans hE7) (by omega)))
            have x0 : w8.cell? ⟨w.heap.size, 0, none⟩ = some (.int .i64 0) := b28.cell 0
            have x1 : w8.cell? ⟨w.heap.size, 1, none⟩ = some (.int .i64 0) := b28.cell 1
            have x2 : w8.cell? ⟨w.heap.size, 2, none⟩ = some (.int .i64 0) := b28.cell 2
            have x3 : w8.cell? ⟨w.heap.size, 3, none⟩ = some (.int .i64 0) := b28.cell 3
            have x4 : w8.cell? ⟨w.heap.size, 4, none⟩ = some (.slice none 0 0) := b28.cell 4
            have x5 : w8.cell? ⟨w.heap.size, 5, none⟩ = some (.slice none 0 0) := b28.cell 5
            have x6 : w8.cell? ⟨w.heap.size, 6, none⟩ = some (.int .i64 0) := b28.cell 6
            have xf := b28.free
            go_region
            have b8 := (((((((b28.set 0 (.int .i64 0)).set 1 (.int .i64 0)).set 2 (.int .i64 0)).set 3 (.int .i64 0)).set 4 (.slice none 0 0)).set 5 (.slice none 0 0)).set 6 (.int .i64 0)).ext (Ext.refl _).drew
            have hE8 := (((((((hE8.setCell (p := ⟨w.heap.size, 0, none⟩) (Nat.le_refl _) (.int .i64 0)).setCell (p := ⟨w.heap.size, 1, none⟩) (Nat.le_refl _) (.int .i64 0)).setCell (p := ⟨w.heap.size, 2, none⟩) (Nat.le_refl _) (.int .i64 0)).setCell (p := ⟨w.heap.size, 3, none⟩) (Nat.le_refl _) (.int .i64 0)).setCell (p := ⟨w.heap.size, 4, none⟩) (Nat.le_refl _) (.slice none 0 0)).setCell (p := ⟨w.heap.size, 5, none⟩) (Nat.le_refl _) (.slice none 0 0)).setCell (p := ⟨w.heap.size, 6, none⟩) (Nat.le_refl _) (.int .i64 0)).drew
            generalize World.drew _ = w9 at b8 hE8 ⊢
            replace b8 : BoxAt w9 w.heap.size #[.int .i64 0, .int .i64 0, .int .i64 0, .int .i64 0, .slice none 0 0, .slice none 0 0, .int .i64 0] 25 := b8
            go_wp2
            refine bodyPost_ret (v := .tuple #[.agg #[.int .i64 0, .int .i64 0, .int .i64 0, .int .i64 0, .slice none 0 0, .slice none 0 0, .int .i64 0], .int .i64 e1]) ?_ rfl ⟨_, _, [], by rw [HER.out, HBT.out]; rfl, by rw [HBT.out]; exact GotW.none w9, hE8⟩
            have y0 := b8.cell 0
            have y1 := b8.cell 1
            have y2 := b8.cell 2
            have y3 := b8.cell 3
            have y4 := b8.cell 4
            have y5 := b8.cell 5
            have y6 := b8.cell 6
            simp at y0 y1 y2 y3 y4 y5 y6
            simp [results, Tryd.results8, go_sem, y0, y1, y2, y3, y4, y5, y6]
          · rw [hq] at k6
            have K6 := far k6
            clear k6 hq HMQ HGW hf1
            go_upto_region 15 with (go_at_call 10; go_must (refine K6.out.mono ?_); rintro e7 w7 ⟨rfl, hE7⟩; have c2 : w7.cell? ⟨q, 2, none⟩ = some (.int .i64 e1) := (M2.more hE7).rd.c2; have b27 := b2c.ext hE7; have hE8 := hX2.trans hE7)
            have x0 : w7.cell? ⟨w.heap.size, 0, none⟩ = some (.int .i64 0) := b27.cell 0
            have x1 : w7.cell? ⟨w.heap.size, 1, none⟩ = some (.int .i64 0) := b27.cell 1
            have x2 : w7.cell? ⟨w.heap.size, 2, none⟩ = some (.int .i64 0) := b27.cell 2
            have x3 : w7.cell? ⟨w.heap.size, 3, none⟩ = some (.int .i64 0) := b27.cell 3
            have x4 : w7.cell? ⟨w.heap.size, 4, none⟩ = some (.slice none 0 0) := b27.cell 4
            have x5 : w7.cell? ⟨w.heap.size, 5, none⟩ = some (.slice none 0 0) := b27.cell 5
            have x6 : w7.cell? ⟨w.heap.size, 6, none⟩ = some (.int .i64 0) := b27.cell 6
            have xf := b27.free
            go_region
            have b8 := (((((((b27.set 0 (.int .i64 0)).set 1 (.int .i64 0)).set 2 (.int .i64 0)).set 3 (.int .i64 0)).set 4 (.slice none 0 0)).set 5 (.slice none 0 0)).set 6 (.int .i64 0)).ext (Ext.refl _).drew
            have hE8 := (((((((hE8.setCell (p := ⟨w.heap.size, 0, none⟩) (Nat.le_refl _) (.int .i64 0)).setCell (p := ⟨w.heap.size, 1, none⟩) (Nat.le_refl _) (.int .i64 0)).setCell (p := ⟨w.heap.size, 2, none⟩) (Nat.le_refl _) (.int .i64 0)).setCell (p := ⟨w.heap.size, 3, none⟩) (Nat.le_refl _) (.int .i64 0)).setCell (p := ⟨w.heap.size, 4, none⟩) (Nat.le_refl _) (.slice none 0 0)).setCell (p := ⟨w.heap.size, 5, none⟩) (Nat.le_refl _) (.slice none 0 0)).setCell (p := ⟨w.heap.size, 6, none⟩) (Nat.le_refl _) (.int .i64 0)).drew
            generalize World.drew _ = w9 at b8 hE8 ⊢
            replace b8 : BoxAt w9 w.heap.size #[.int .i64 0, .int .i64 0, .int .i64 0, .int .i64 0, .slice none 0 0, .slice none 0 0, .int .i64 0] 25 := b8
            go_wp2
            refine bodyPost_ret (v := .tuple #[.agg #[.int .i64 0, .int .i64 0, .int .i64 0, .int .i64 0, .slice none 0 0, .slice none 0 0, .int .i64 0], .int .i64 e1]) ?_ rfl ⟨_, _, [], by rw [HER.out, HBT.out]; rfl, by rw [HBT.out]; exact GotW.none w9, hE8⟩
            have y0 := b8.cell 0
            have y1 := b8.cell 1
            have y2 := b8.cell 2
            have y3 := b8.cell 3
            have y4 := b8.cell 4
            have y5 := b8.cell 5
            have y6 := b8.cell 6
            simp at y0 y1 y2 y3 y4 y5 y6
            simp [results, Tryd.results8, go_sem, y0, y1, y2, y3, y4, y5, y6]
end Go.Proofs.YtfagnbofnaoncaaDoor

/- wire.Get of any text. -/
namespace Go.Proofs.YtfagnbofnaoncaaDoor
open Go Go.RowKit
attribute [local go_sem] yields yUpon

set_option maxRecDepth 100000 in
set_option maxHeartbeats 4000000 in
theorem wget_big (S : ByteArray) (w : World) (h1 : 4096 < S.size) (h2 : S.size ≤ 1000000) :
    Calls Tryd.prog 8 #[.string S] w fun e w' => e = .returned (.tuple #[.agg #[.int .i64 0, .int .i64 0, .int .i64 0, .int .i64 0, .slice none 0 0, .slice none 0 0, .int .i64 0], .int .i64 2]) ∧ Ext w w' := by
  have hE0 := (Ext.refl w).alloc (.cells #[.int .i64 0, .int .i64 0, .int .i64 0, .int .i64 0, .slice none 0 0, .slice none 0 0, .int .i64 0] 25)
  have b0 := BoxAt.made w #[.int .i64 0, .int .i64 0, .int .i64 0, .int .i64 0, .slice none 0 0, .slice none 0 0, .int .i64 0] 25
  have hd : (4096 : Int) < (S.size : Int) := by omega
  go_enter Tryd.func8, Tryd.ntmps8
  go_wp2_with fail
  refine bodyPost_ret (v := .tuple #[.agg #[.int .i64 0, .int .i64 0, .int .i64 0, .int .i64 0, .slice none 0 0, .slice none 0 0, .int .i64 0], .int .i64 2]) ?_ rfl ⟨rfl, hE0⟩
  simp [results, Tryd.results8, go_sem]
theorem wget_gen (S : ByteArray) (w : World) (hT : TabU w) (hS : S.size ≤ 1000000) :
    Calls Tryd.prog 8 #[.string S] w fun e w' => ∃ vm vk ms, e = .returned (.tuple #[.agg (hd7 (gxMg S).hd vm vk), .int .i64 (gxErr S)]) ∧ GotW w' vm vk ms (gxMg S) ∧ Ext w w' := by
  unfold gxMg gxErr
  by_cases h : S.size ≤ 4096
  · simp only [if_pos h]
    exact wget_read S w hT h
  · simp only [if_neg h]
    refine (wget_big S w (by omega) hS).mono ?_
    rintro e w1 ⟨rfl, hE⟩
    exact ⟨_, _, [], rfl, GotW.none w1, hE⟩
end Go.Proofs.YtfagnbofnaoncaaDoor

/- Plain laws: batches: what is put is got; what is got is put as the same bytes. -/
namespace Go.Proofs.YtfagnbofnaoncaaDoor
open Go Go.RowKit

/-- A partition within a text. -/
def inR (t b : ByteArray) : Rdr Mq := fun _ s => (⟨t, (prtR b.data.toList (0, s.2)).1⟩, failR (prtR b.data.toList (0, s.2)).2.2 s)
theorem mutR_eq (B : List UInt8) (s : Nat × Int) : mutR B s = seqR txtR (fun t => seqR txtR fun b => inR t b) B s := rfl
theorem failR_stick {k : Int} {s : Nat × Int} (h : s.2 ≠ 0) : failR k s = s := if_neg h
theorem ok_in (t b : ByteArray) : OkRd (inR t b) :=
  ⟨fun _ s h => failR_stick h, fun _ s h => by unfold inR; simp only [failR_one]; exact h, fun _ s _ he => failR_er (prtR_er (Nat.zero_le _) he) he⟩
theorem ok_mut : OkRd mutR := (ok_txt.bind fun t => ok_txt.bind fun b => ok_in t b).congr mutR_eq
theorem rd_in {t b : ByteArray} {x : Mq} (ht : x.table = t) (h : ptB x.pt.key x.pt.gone x.pt.rows = true) (hb : b.data.toList = wholeP x.pt.key x.pt.gone x.pt.rows) : Rd (inR t b) x [] := by
  refine ⟨fun _ i _ _ _ => ?_, fun _ _ T _ h hT => absurd (List.append_eq_nil_iff.1 h).2 hT⟩
  unfold inR
  simp only
  rw [prtR_put h hb, ← ht]
  rfl
theorem rd_mut {x : Mq} (h : okMq x = true) : Rd mutR x (mutE x) := by
  unfold okMq at h
  simp only [Bool.and_eq_true] at h
  have hn := nameB_size h.1
  have hw := wholeP_le8 h.2
  refine Rd.congr ?_ (fun B i => mutR_eq B (i, 0))
  have e : mutE x = txtE x.table ++ (txtE (str (wholeP x.pt.key x.pt.gone x.pt.rows)) ++ []) := by
    unfold mutE mutQ txtE
    simp only [List.append_assoc, List.append_nil, str_size, str_toList]
  rw [e]
  refine (rd_txt (by omega)).bind ?_ fun t => ok_txt.bind fun b => ok_in t b
  exact (rd_txt (by rw [str_size]; omega)).bind (rd_in rfl h.2 rfl) fun b => ok_in _ b
theorem bk_in (t b : ByteArray) : Bk (inR t b) (fun x E => E = [] ∧ x.table = t ∧ b.data.toList = wholeP x.pt.key x.pt.gone x.pt.rows) := fun B s hs h => by
  unfold inR at h ⊢
  simp only at h ⊢
  by_cases h0 : s.2 = 0
  · unfold failR at h
    rw [if_pos h0] at h
    simp only at h
    have := prtR_back (Nat.zero_le _) h
    rw [List.drop_zero] at this
    exact ⟨h0, [], ⟨rfl, trivial, this.2⟩, by rw [failR_one]; rfl⟩
  · rw [failR_stick h0] at h
    exact absurd h h0
theorem bk_mut : Bk mutR (fun x E => E = mutE x) := by
  refine Bk.congr ?_ mutR_eq
  refine (Bk.bind (Q := fun t (x : Mq) F => x.table = t ∧ F = txtE (str (wholeP x.pt.key x.pt.gone x.pt.rows))) bk_txt ok_txt fun t => (Bk.bind (Q := fun b (x : Mq) F => F = [] ∧ x.table = t ∧ b.data.toList = wholeP x.pt.key x.pt.gone x.pt.rows) bk_txt ok_txt fun b => bk_in t b).mono fun x G hG => ?_).mono fun x G hG => ?_
  · obtain ⟨b, E, F, rfl, ⟨rfl, h1, h2⟩, rfl⟩ := hG
    refine ⟨h1, ?_⟩
    rw [← h2, str_back, List.append_nil]
  · obtain ⟨t, E, F, rfl, ⟨rfl, rfl⟩, rfl⟩ := hG
    unfold mutE mutQ txtE
    simp only [List.append_assoc, str_size, str_toList]
theorem noteR_eq (B : List UInt8) (s : Nat × Int) : noteR B s = seqR numR (fun n => seqR txtR fun t => pureR (⟨(n : Int), t⟩ : Nt)) B s := rfl
theorem ok_note : OkRd noteR := OkRd.congr (ok_num.bind fun n => ok_txt.bind fun t => OkRd.pure (⟨(n : Int), t⟩ : Nt)) noteR_eq
theorem rd_note {x : Nt} (h : okNt x = true) : Rd noteR x (notP x) := by
  unfold okNt idB at h
  simp only [Bool.and_eq_true, decide_eq_true_eq] at h
  obtain ⟨id, body⟩ := x
  simp only at h
  obtain ⟨n, rfl⟩ : ∃ n : Nat, id = n := ⟨id.toNat, by omega⟩
  refine Rd.congr ?_ (fun B i => noteR_eq B (i, 0))
  have e : notP ⟨(n : Int), body⟩ = num n ++ (txtE body ++ []) := by
    unfold notP txtE
    simp only [List.append_assoc, List.append_nil, Int.toNat_natCast]
  rw [e]
  refine (rd_num (by omega)).bind ?_ fun n => ok_txt.bind fun t => OkRd.pure _
  exact (rd_txt (by omega)).bind (Rd.pure _) fun b => OkRd.pure _
theorem bk_note : Bk noteR (fun x E => E = notP x) := by
  refine Bk.congr ?_ noteR_eq
  refine (Bk.bind (Q := fun (n : Nat) (x : Nt) F => x.id = (n : Int) ∧ F = txtE x.body) bk_num ok_num fun n => (Bk.bind (Q := fun t (x : Nt) F => x = ⟨(n : Int), t⟩ ∧ F = []) bk_txt ok_txt fun t => Bk.pure _).mono fun x G hG => ?_).mono fun x G hG => ?_
  · obtain ⟨t, E, F, rfl, ⟨rfl, rfl⟩, rfl⟩ := hG
    exact ⟨rfl, by rw [List.append_nil]⟩
  · obtain ⟨n, E, F, ⟨rfl, _⟩, ⟨h1, rfl⟩, rfl⟩ := hG
    unfold notP txtE
    rw [h1, Int.toNat_natCast]
    simp only [List.append_assoc]
theorem numIR_eq (B : List UInt8) (s : Nat × Int) : numIR B s = seqR numR (fun n => pureR (n : Int)) B s := rfl
theorem ok_numI : OkRd numIR := OkRd.congr (ok_num.bind fun n => OkRd.pure (n : Int)) numIR_eq
theorem rd_numI {x : Int} (h : idB x = true) : Rd numIR x (num x.toNat) := by
  unfold idB at h
  simp only [Bool.and_eq_true, decide_eq_true_eq] at h
  obtain ⟨n, rfl⟩ : ∃ n : Nat, x = n := ⟨x.toNat, by omega⟩
  refine Rd.congr ?_ (fun B i => numIR_eq B (i, 0))
  have := (rd_num (x := n) (by omega)).bind (g := fun n : Nat => pureR (n : Int)) (Rd.pure (n : Int)) fun n => OkRd.pure (n : Int)
  rw [List.append_nil] at this
  exact this
theorem bk_numI : Bk numIR (fun x E => E = num x.toNat) := by
  refine Bk.congr ?_ numIR_eq
  refine (Bk.bind (Q := fun (n : Nat) (x : Int) F => x = (n : Int) ∧ F = []) bk_num ok_num fun n => Bk.pure _).mono fun x G hG => ?_
  obtain ⟨n, E, F, ⟨rfl, _⟩, ⟨rfl, rfl⟩, rfl⟩ := hG
  rw [List.append_nil, Int.toNat_natCast]
theorem mutE_ge (x : Mq) : 1 ≤ (mutE x).length := by have := num_ge x.table.size; unfold mutE mutQ; simp only [List.length_append]; omega
theorem notP_ge (x : Nt) : 1 ≤ (notP x).length := by have := num_ge x.id.toNat; unfold notP; simp only [List.length_append]; omega
def btF : Rdr Bt := seqR (listF mutR) fun M => seqR (listF noteR) fun A => seqR (listF numIR) fun D => pureR ⟨M, A, D⟩
theorem btR_eq (B : List UInt8) (s : Nat × Int) : btR B s = ((btF B s).1, endR B (btF B s).2) := rfl
theorem ok_bt : OkRd btF := (ok_list ok_mut).bind fun _ => (ok_list ok_note).bind fun _ => (ok_list ok_numI).bind fun _ => OkRd.pure _
theorem rd_bt {b : Bt} (h : cbQ b = true) : Rd btF b (batQ b) := by
  unfold cbQ at h
  simp only [Bool.and_eq_true, decide_eq_true_eq, List.all_eq_true] at h
  obtain ⟨⟨⟨⟨⟨z1, z2⟩, z3⟩, hM⟩, hA⟩, hD⟩ := h
  obtain ⟨M, A, D⟩ := b
  simp only at z1 z2 z3 hM hA hD
  have e : batQ ⟨M, A, D⟩ = (num M.length ++ M.flatMap mutE) ++ ((num A.length ++ A.flatMap notP) ++ ((num D.length ++ D.flatMap fun d => num d.toNat) ++ [])) := by
    unfold batQ
    simp only [List.append_assoc, List.append_nil]
  rw [e]
  unfold btF
  refine (rd_list ok_mut (by omega) (fun x hx => rd_mut (hM x hx)) fun x _ => mutE_ge x).bind ?_ fun _ => (ok_list ok_note).bind fun _ => (ok_list ok_numI).bind fun _ => OkRd.pure _
  refine (rd_list ok_note (by omega) (fun x hx => rd_note (hA x hx)) fun x _ => notP_ge x).bind ?_ fun _ => (ok_list ok_numI).bind fun _ => OkRd.pure _
  exact (rd_list ok_numI (by omega) (fun x hx => rd_numI (hD x hx)) fun x _ => num_ge _).bind (Rd.pure _) fun _ => OkRd.pure _
theorem bk_bt : Bk btF (fun b E => E = batQ b) := by
  unfold btF
  refine (Bk.bind (Q := fun M (b : Bt) F => b.muts = M ∧ F = num b.add.length ++ b.add.flatMap notP ++ num b.drop.length ++ b.drop.flatMap fun d => num d.toNat) (bk_list bk_mut ok_mut) (ok_list ok_mut) fun M => ?_).mono fun c G hG => ?_
  · refine (Bk.bind (Q := fun A (b : Bt) F => b.muts = M ∧ b.add = A ∧ F = num b.drop.length ++ b.drop.flatMap fun d => num d.toNat) (bk_list bk_note ok_note) (ok_list ok_note) fun A => ?_).mono fun c G hG => ?_
    · refine (Bk.bind (Q := fun D (b : Bt) F => b = ⟨M, A, D⟩ ∧ F = []) (bk_list bk_numI ok_numI) (ok_list ok_numI) fun D => Bk.pure _).mono fun c G hG => ?_
      obtain ⟨D, E, F, rfl, ⟨rfl, rfl⟩, rfl⟩ := hG
      exact ⟨rfl, rfl, by rw [List.append_nil]⟩
    · obtain ⟨A, E, F, rfl, ⟨h1, rfl, rfl⟩, rfl⟩ := hG
      exact ⟨h1, by simp only [List.append_assoc]⟩
  · obtain ⟨M, E, F, rfl, ⟨rfl, rfl⟩, rfl⟩ := hG
    unfold batQ
    simp only [List.append_assoc]
theorem btR_put {B : List UInt8} {b : Bt} (h : cbQ b = true) (hB : B = batQ b) : btR B (0, 0) = (b, (B.length, 0)) := by
  have := (rd_bt h).fwd B 0 [] (Nat.zero_le _) (by rw [List.drop_zero, List.append_nil, hB])
  rw [btR_eq, this]
  simp only
  rw [endR_full _ _ (by rw [hB]; simp), Nat.zero_add, ← hB]
theorem btR_back {B : List UInt8} {s : Nat × Int} (hs : s.1 ≤ B.length) (h : (btR B s).2.2 = 0) : s.2 = 0 ∧ B.drop s.1 = batQ (btR B s).1 := by
  rw [btR_eq] at h ⊢
  simp only at h ⊢
  have hle := ok_bt.le B s hs
  unfold endR at h
  split at h
  · exact absurd h (failR_ne (by decide) _)
  · rename_i h1
    obtain ⟨a, E, rfl, c⟩ := bk_bt B s hs h
    refine ⟨a, ?_⟩
    rw [c, List.drop_eq_nil_of_le (show B.length ≤ (btF B s).2.1 by omega), List.append_nil]
theorem btR_stick {B : List UInt8} {s : Nat × Int} (h : s.2 ≠ 0) : (btR B s).2 = s := by
  rw [btR_eq]
  simp only
  rw [ok_bt.stick B s h]
  unfold endR failR
  rw [if_neg h]
  split <;> rfl
theorem gb_put {B : List UInt8} {b : Bt} (h : cbQ b = true) (hB : B = batQ b) (hl : B.length ≤ 262144) : gbErr B = 0 ∧ gbBt B = b := by
  have e : gB B = (b, (B.length, 0)) := by unfold gB; rw [if_pos hl]; exact btR_put h hB
  have e1 : gbErr B = 0 := by unfold gbErr; rw [e]; simp [h]
  exact ⟨e1, by unfold gbBt; rw [if_pos e1, e]⟩
theorem gb_back {B : List UInt8} (h : gbErr B = 0) : cbQ (gbBt B) = true ∧ batQ (gbBt B) = B ∧ B.length ≤ 262144 := by
  have hp : gbBt B = (gB B).1 := if_pos h
  unfold gbErr at h
  split at h
  · rename_i h1
    split at h
    · rename_i h2
      have hl : B.length ≤ 262144 := by
        by_cases h3 : B.length ≤ 262144
        · exact h3
        · exfalso
          unfold gB at h1
          rw [if_neg h3, btR_stick (by decide)] at h1
          cases h1
      rw [hp]
      have h5 := h1
      unfold gB at h5
      have := btR_back (B := B) (Nat.zero_le _) h5
      rw [List.drop_zero] at this
      exact ⟨h2, this.2.symm, hl⟩
    · cases h
  · rename_i h1
    exact absurd h h1
theorem gb_none {B : List UInt8} (h : gbErr B ≠ 0) : gbBt B = ⟨[], [], []⟩ := if_neg h
end Go.Proofs.YtfagnbofnaoncaaDoor

/- Plain laws: messages: what is put is got; what is got is put as the same bytes. -/
namespace Go.Proofs.YtfagnbofnaoncaaDoor
open Go Go.RowKit

/-- A partition within a text, as wire reads it. -/
def inV (t b : ByteArray) : Rdr Mq := fun _ s => if s.2 = 0 then (⟨t, (prtR b.data.toList (0, 0)).1⟩, failR (prtR b.data.toList (0, 0)).2.2 s) else (⟨t, ⟨⟨#[]⟩, 0, []⟩⟩, s)
def mutV : Rdr Mq := seqR txtR fun t => seqR txtR fun b => inV t b
theorem mutW_V {B : List UInt8} (h : B.length ≤ 262144) : mutW B = mutV B := by
  funext s
  have h1 := txtR_size B (txtR B s).2
  unfold mutW parW mutV seqR inV
  by_cases h0 : (txtR B (txtR B s).2).2.2 = 0
  · simp only [h0, if_true]
    unfold getR
    rw [if_pos (by rw [dat_size]; omega)]
  · simp only [h0, if_false]
theorem ok_inV (t b : ByteArray) : OkRd (inV t b) := by
  refine ⟨fun _ s h => ?_, fun _ s h => ?_, fun _ s h he => ?_⟩
  · unfold inV
    rw [if_neg h]
  · unfold inV
    split
    · simp only [failR_one]; exact h
    · exact h
  · unfold inV
    split
    · exact failR_er (prtR_er (Nat.zero_le _) (.inl rfl)) he
    · exact he
theorem ok_mutV : OkRd mutV := ok_txt.bind fun t => ok_txt.bind fun b => ok_inV t b
theorem rd_inV {t b : ByteArray} {x : Mq} (ht : x.table = t) (h : ptB x.pt.key x.pt.gone x.pt.rows = true) (hb : b.data.toList = wholeP x.pt.key x.pt.gone x.pt.rows) : Rd (inV t b) x [] := by
  refine ⟨fun _ i _ _ _ => ?_, fun _ _ T _ h hT => absurd (List.append_eq_nil_iff.1 h).2 hT⟩
  unfold inV
  simp only
  rw [prtR_put h hb, ← ht]
  rfl
theorem rd_mutV {x : Mq} (h : okMq x = true) : Rd mutV x (mutE x) := by
  unfold okMq at h
  simp only [Bool.and_eq_true] at h
  have hn := nameB_size h.1
  have hw := wholeP_le8 h.2
  have e : mutE x = txtE x.table ++ (txtE (str (wholeP x.pt.key x.pt.gone x.pt.rows)) ++ []) := by
    unfold mutE mutQ txtE
    simp only [List.append_assoc, List.append_nil, str_size, str_toList]
  rw [e]
  refine (rd_txt (by omega)).bind ?_ fun t => ok_txt.bind fun b => ok_inV t b
  exact (rd_txt (by rw [str_size]; omega)).bind (rd_inV rfl h.2 rfl) fun b => ok_inV _ b
theorem bk_inV (t b : ByteArray) : Bk (inV t b) (fun x E => E = [] ∧ x.table = t ∧ b.data.toList = wholeP x.pt.key x.pt.gone x.pt.rows) := fun B s hs h => by
  unfold inV at h ⊢
  by_cases h0 : s.2 = 0
  · rw [if_pos h0] at h ⊢
    simp only at h ⊢
    unfold failR at h
    rw [if_pos h0] at h
    simp only at h
    have := prtR_back (Nat.zero_le _) h
    rw [List.drop_zero] at this
    exact ⟨h0, [], ⟨rfl, trivial, this.2⟩, by rw [failR_one]; rfl⟩
  · rw [if_neg h0] at h
    exact absurd h h0
theorem bk_mutV : Bk mutV (fun x E => E = mutE x) := by
  unfold mutV
  refine (Bk.bind (Q := fun t (x : Mq) F => x.table = t ∧ F = txtE (str (wholeP x.pt.key x.pt.gone x.pt.rows))) bk_txt ok_txt fun t => (Bk.bind (Q := fun b (x : Mq) F => F = [] ∧ x.table = t ∧ b.data.toList = wholeP x.pt.key x.pt.gone x.pt.rows) bk_txt ok_txt fun b => bk_inV t b).mono fun x G hG => ?_).mono fun x G hG => ?_
  · obtain ⟨b, E, F, rfl, ⟨rfl, h1, h2⟩, rfl⟩ := hG
    refine ⟨h1, ?_⟩
    rw [← h2, str_back, List.append_nil]
  · obtain ⟨t, E, F, rfl, ⟨rfl, rfl⟩, rfl⟩ := hG
    unfold mutE mutQ txtE
    simp only [List.append_assoc, str_size, str_toList]

theorem msgR_F {B : List UInt8} (h : B.length ≤ 262144) : msgR B = msgG mutV B (0, 0) := by
  rw [msgR_G]
  unfold msgG listF
  simp only [seqR]
  rw [mutW_V h]
theorem ok_msg : OkRd (msgG mutV) := ok_num.bind fun _ => ok_num.bind fun _ => ok_num.bind fun _ => ok_num.bind fun _ => ok_num.bind fun _ => (ok_list ok_mutV).bind fun _ => (ok_list ok_txt).bind fun _ => OkRd.pure _
theorem msQ_parts {m : Mg} (h : msQ m = true) : (1 ≤ m.hd.kind ∧ m.hd.kind ≤ 8) ∧ (0 ≤ m.hd.from_ ∧ m.hd.from_ ≤ 4) ∧ (0 ≤ m.hd.to_ ∧ m.hd.to_ ≤ 4) ∧ (0 ≤ m.hd.id ∧ m.hd.id ≤ 1099511627776) ∧ (0 ≤ m.hd.num ∧ m.hd.num ≤ 1099511627776) ∧ m.muts.length ≤ 100 ∧ m.keys.length ≤ 40 ∧ (∀ k ∈ m.keys, k.size ≤ 100) ∧ ∀ x ∈ m.muts, okMq x = true := by
  unfold msQ inB at h
  simp only [Bool.and_eq_true, decide_eq_true_eq, Bool.not_eq_true', List.any_eq_false, Bool.not_eq_false'] at h
  obtain ⟨⟨⟨⟨⟨⟨⟨⟨h1, h2⟩, h3⟩, h4⟩, h5⟩, h6⟩, h7⟩, h8⟩, h9⟩ := h
  refine ⟨h1, h2, h3, h4, h5, h6, h7, fun k hk => ?_, fun x hx => ?_⟩
  · have := h8 k hk
    unfold longB at this
    simp at this
    omega
  · have := h9 x hx
    simpa using this
theorem rd_msg {m : Mg} (h : msQ m = true) : Rd (msgG mutV) m (msgE m) := by
  obtain ⟨h1, h2, h3, h4, h5, h6, h7, h8, h9⟩ := msQ_parts h
  obtain ⟨⟨a, b, c, d, e⟩, M, K⟩ := m
  simp only at h1 h2 h3 h4 h5 h6 h7 h8 h9
  obtain ⟨a, rfl⟩ : ∃ n : Nat, a = n := ⟨a.toNat, by omega⟩
  obtain ⟨b, rfl⟩ : ∃ n : Nat, b = n := ⟨b.toNat, by omega⟩
  obtain ⟨c, rfl⟩ : ∃ n : Nat, c = n := ⟨c.toNat, by omega⟩
  obtain ⟨d, rfl⟩ : ∃ n : Nat, d = n := ⟨d.toNat, by omega⟩
  obtain ⟨e, rfl⟩ : ∃ n : Nat, e = n := ⟨e.toNat, by omega⟩
  have eq : msgE ⟨⟨(a : Int), (b : Int), (c : Int), (d : Int), (e : Int)⟩, M, K⟩ = num a ++ (num b ++ (num c ++ (num d ++ (num e ++ ((num M.length ++ M.flatMap mutE) ++ ((num K.length ++ K.flatMap txtE) ++ [])))))) := by
    unfold msgE txtE
    simp only [Int.toNat_natCast, List.append_nil]
  rw [eq]
  unfold msgG
  refine (rd_num (by omega)).bind ?_ fun _ => ok_num.bind fun _ => ok_num.bind fun _ => ok_num.bind fun _ => ok_num.bind fun _ => (ok_list ok_mutV).bind fun _ => (ok_list ok_txt).bind fun _ => OkRd.pure _
  refine (rd_num (by omega)).bind ?_ fun _ => ok_num.bind fun _ => ok_num.bind fun _ => ok_num.bind fun _ => (ok_list ok_mutV).bind fun _ => (ok_list ok_txt).bind fun _ => OkRd.pure _
  refine (rd_num (by omega)).bind ?_ fun _ => ok_num.bind fun _ => ok_num.bind fun _ => (ok_list ok_mutV).bind fun _ => (ok_list ok_txt).bind fun _ => OkRd.pure _
  refine (rd_num (by omega)).bind ?_ fun _ => ok_num.bind fun _ => (ok_list ok_mutV).bind fun _ => (ok_list ok_txt).bind fun _ => OkRd.pure _
  refine (rd_num (by omega)).bind ?_ fun _ => (ok_list ok_mutV).bind fun _ => (ok_list ok_txt).bind fun _ => OkRd.pure _
  refine (rd_list ok_mutV (by omega) (fun x hx => rd_mutV (h9 x hx)) fun x _ => mutE_ge x).bind ?_ fun _ => (ok_list ok_txt).bind fun _ => OkRd.pure _
  exact (rd_list ok_txt (by omega) (fun x hx => rd_txt (by have := h8 x hx; omega)) fun x _ => by have := num_ge x.size; unfold txtE; simp only [List.length_append]; omega).bind (Rd.pure _) fun _ => OkRd.pure _
theorem bk_msg : Bk (msgG mutV) (fun m E => E = msgE m) := by
  unfold msgG
  refine Bk.mono (Bk.bind bk_num ok_num fun a => Bk.bind bk_num ok_num fun b => Bk.bind bk_num ok_num fun c => Bk.bind bk_num ok_num fun d => Bk.bind bk_num ok_num fun e => Bk.bind (bk_list bk_mutV ok_mutV) (ok_list ok_mutV) fun M => Bk.bind (bk_list bk_txt ok_txt) (ok_list ok_txt) fun K => Bk.pure _) ?_
  rintro m G ⟨a, _, _, ⟨rfl, _⟩, ⟨b, _, _, ⟨rfl, _⟩, ⟨c, _, _, ⟨rfl, _⟩, ⟨d, _, _, ⟨rfl, _⟩, ⟨e, _, _, ⟨rfl, _⟩, ⟨M, _, _, rfl, ⟨K, _, _, rfl, ⟨rfl, rfl⟩, rfl⟩, rfl⟩, rfl⟩, rfl⟩, rfl⟩, rfl⟩, rfl⟩
  unfold msgE txtE
  simp only [Int.toNat_natCast, List.append_nil]
theorem msgR_put {B : List UInt8} {m : Mg} (h : msQ m = true) (hB : B = msgE m) (hl : B.length ≤ 262144) : msgR B = (m, (B.length, 0)) := by
  have := (rd_msg h).fwd B 0 [] (Nat.zero_le _) (by rw [List.drop_zero, List.append_nil, hB])
  rw [msgR_F hl, this, Nat.zero_add, ← hB]
theorem gw_put {B : List UInt8} {m : Mg} (h : msQ m = true) (hB : B = msgE m) (hl : B.length ≤ 262144) : gwErr B = 0 ∧ gwMg B = m := by
  have e : gwR B = (m, (B.length, 0)) := by
    unfold gwR
    rw [msgR_put h hB hl]
    simp only
    rw [endR_full _ _ (Nat.le_refl _)]
  have e1 : gwErr B = 0 := by unfold gwErr; rw [e]; simp [h]
  exact ⟨e1, by unfold gwMg; rw [if_pos e1, e]⟩
theorem gw_more {m : Mg} (h : msQ m = true) {R : List UInt8} (hR : R ≠ []) (hl : (msgE m ++ R).length ≤ 262144) : gwErr (msgE m ++ R) = 6 := by
  have := (rd_msg h).fwd (msgE m ++ R) 0 R (Nat.zero_le _) (by rw [List.drop_zero])
  have hl2 : 0 < R.length := List.length_pos_iff.2 hR
  have e : (gwR (msgE m ++ R)).2.2 = 6 := by
    unfold gwR
    rw [msgR_F hl, this]
    simp only
    unfold endR
    rw [if_pos (by rw [List.length_append]; omega)]
    rfl
  unfold gwErr
  rw [e]; rfl
theorem gw_cut {m : Mg} (h : msQ m = true) (hl : (msgE m).length ≤ 262144) {j : Nat} (hj : j < (msgE m).length) : gwErr ((msgE m).take j) = 8 := by
  have := (rd_msg h).cut ((msgE m).take j) 0 ((msgE m).drop j) (Nat.zero_le _) (by rw [List.drop_zero, List.take_append_drop]) (by rw [ne_eq, List.drop_eq_nil_iff]; omega)
  have e : (gwR ((msgE m).take j)).2.2 = 8 := by
    unfold gwR
    rw [msgR_F (by rw [List.length_take]; omega)]
    simp only
    unfold endR failR
    split
    · rw [if_neg (by rw [this]; decide)]; exact this
    · exact this
  unfold gwErr
  rw [e]; rfl
theorem gw_back {B : List UInt8} (hl : B.length ≤ 262144) (h : gwErr B = 0) : msQ (gwMg B) = true ∧ msgE (gwMg B) = B := by
  have hp : gwMg B = (gwR B).1 := if_pos h
  unfold gwErr at h
  split at h
  · rename_i h1
    split at h
    · rename_i h2
      rw [hp]
      refine ⟨h2, ?_⟩
      unfold gwR at h1 ⊢
      simp only at h1 ⊢
      rw [msgR_F hl] at h1 ⊢
      have hle := ok_msg.le B (0, 0) (Nat.zero_le _)
      unfold endR at h1
      split at h1
      · exact absurd h1 (failR_ne (by decide) _)
      · rename_i h3
        obtain ⟨_, E, rfl, c⟩ := bk_msg B (0, 0) (Nat.zero_le _) h1
        rw [List.drop_zero] at c
        rw [List.drop_eq_nil_of_le (show B.length ≤ (msgG mutV B (0, 0)).2.1 by omega), List.append_nil] at c
        exact c.symm
    · cases h
  · rename_i h1
    exact absurd h h1
end Go.Proofs.YtfagnbofnaoncaaDoor
