/- wire.Get: the pieces read. -/
import Derived.Test.YtfagnbofnaoncaaGreatDoorP22
import Derived.Test.YtfagnbofnaoncaaGreatDoorP6
import Derived.Test.YtfagnbofnaoncaaGreatDoorP15
import Derived.Test.YtfagnbofnaoncaaGreatDoorP17
import Derived.Test.YtfagnbofnaoncaaGreatDoorP16
import Derived.Test.YtfagnbofnaoncaaGreatDoorP11
import Derived.Test.YtfagnbofnaoncaaGreatDoorP12
import Derived.Test.YtfagnbofnaoncaaGreatDoorP13
import Derived.BigQuiet
import Derived.RegionTactic
set_option linter.unusedSimpArgs false
set_option linter.unusedVariables false
namespace Go.Proofs.YtfagnbofnaoncaaGreatDoor
open Go Go.RowKit
attribute [local go_sem] yields yUpon

/-- The state behind k pieces. -/
structure GetAt (w0 w : World) (q p : Nat) (v : Value) (B : List UInt8) (k : Nat) (R : Mg × (Nat × Int)) : Prop where
  at_ : ∃ s m vm vk ms ks, MsgAt w0 w q p v B s m vm vk ms ks ∧ Hid (restW B (7 - k) (⟨m, ms.map Mt.q, ks⟩, s) = R) ∧ (k ≤ 5 → vm = .slice none 0 0 ∧ ms = []) ∧ (k ≤ 6 → vk = .slice none 0 0 ∧ ks = [])

structure GotT (w : World) (vm vk : Value) (ms : List Mt) (ks : List ByteArray) : Prop where
  mt : TIn w 106 vm ms.length (mtCells ms)
  rows : ∀ m ∈ ms, RowsT w m.pa.rv m.pa.ps
  ks : TIn w 9 vk ks.length (ks.map .string)
theorem GotT.ext {w w' : World} (hE : Ext w w') {vm vk : Value} {ms : List Mt} {ks : List ByteArray} (h : GotT w vm vk ms ks) : GotT w' vm vk ms ks := ⟨h.mt.ext hE, fun m hm => (h.rows m hm).ext hE, h.ks.ext hE⟩
theorem GotT.set {w : World} {vm vk : Value} {ms : List Mt} {ks : List ByteArray} {p : Nat} {cs : Array Value} (i : Nat) (u : Value) (h : GotT w vm vk ms ks) (hb : BoxAt w p cs 25) : GotT (w.setCell ⟨p, i, none⟩ u) vm vk ms ks :=
  ⟨TIn.set i u hb (by decide) h.mt, fun m hm => RowsT.set i u hb (by decide) (by decide) (h.rows m hm), TIn.set i u hb (by decide) h.ks⟩
theorem GotT.got {w : World} {vm vk : Value} {ms : List Mt} {ks : List ByteArray} (hd : Hd) (h : GotT w vm vk ms ks) : GotW w vm vk ms ⟨hd, ms.map Mt.q, ks⟩ := ⟨⟨h.mt.slice, fun m hm => (h.rows m hm).rows⟩, rfl, h.ks.slice⟩
theorem BoxAt.ne_type {w : World} {b c : Nat} {cs ds : Array Value} {e f : TypeId} (h : BoxAt w b cs e) (k : BoxAt w c ds f) (hne : e ≠ f) : b ≠ c := by
  rintro rfl
  unfold BoxAt at h k
  rw [h] at k
  injection k with k
  injection k with _ k
  exact hne k

set_option maxRecDepth 100000 in
set_option maxHeartbeats 16000000 in
theorem wget_read (S : ByteArray) (w : World) (hT : TabU w) (hS : S.size ≤ 4096) :
    Calls Tryz.prog 9 #[.string S] w fun e w' => ∃ vm vk ms, e = .returned (.tuple #[.agg (hd7 (gwMg S.data.toList).hd vm vk), .int .i64 (gwErr S.data.toList)]) ∧ GotW w' vm vk ms (gwMg S.data.toList) ∧ Ext w w' := by
  have hE0 := (Ext.refl w).alloc (.cells (hd7 ⟨0, 0, 0, 0, 0⟩ (.slice none 0 0) (.slice none 0 0)) 25)
  have b2 := BoxAt.made w (hd7 ⟨0, 0, 0, 0, 0⟩ (.slice none 0 0) (.slice none 0 0)) 25
  obtain ⟨B, hB⟩ : ∃ B, B = S.data.toList := ⟨_, rfl⟩
  rw [← hB]
  have hBl : B.length = S.size := by rw [hB, dat_size]
  have HB := Lib.hid hB
  have hd : ¬ (4096 : Int) < (S.size : Int) := by omega
  clear hB
  unfold hd7 at b2 hE0
  go_enter Tryz.func9, Tryz.ntmps9
  go_upto_region 6 with (first
    | ((guard_target =~ wpList _ _ _ (Oper.mk (some 13) _ _ _ _ _ :: _) _ _); go_must (refine wpList_strB (by rfl) (.tmp 12) rfl rfl (by unfold maxLen; omega) ?_); intro c3 w3 hby hE3 hsz3)
    | (go_at_call 32; go_must (refine (pieces_any _ _).mono ?_); rintro e w6 ⟨pb, ⟨rfl, hE6⟩, hpb⟩))
  have hz1 : (w.alloc (.cells #[.int .i64 0, .int .i64 0, .int .i64 0, .int .i64 0, .slice none 0 0, .slice none 0 0, .int .i64 0] 25)).heap.size = w.heap.size + 1 := by simp
  rw [hz1] at hby hsz3
  rw [← HB.out] at hby
  have hX3 := hE0.trans hE3
  have hE4 := (Ext.refl w3).alloc (.cells #[.slice (some ⟨w.heap.size + 1, 0, none⟩) S.size c3, .int .i64 0, .int .i64 0] 91)
  have hz4 : (w3.alloc (.cells #[.slice (some ⟨w.heap.size + 1, 0, none⟩) S.size c3, .int .i64 0, .int .i64 0] 91)).heap.size = w.heap.size + 1 + 1 + 1 := by simp [hsz3]
  have rd4 : WdAt (w3.alloc (.cells #[.slice (some ⟨w.heap.size + 1, 0, none⟩) S.size c3, .int .i64 0, .int .i64 0] 91)) (w.heap.size + 1 + 1) (.slice (some ⟨w.heap.size + 1, 0, none⟩) S.size c3) B (0, 0) := ⟨BoxAt.madeN _ _ hsz3, BytesIn.ext hE4 (by rw [← hBl] at hby ⊢; exact hby), fun b o k c e => by cases e; omega, Nat.zero_le _, by omega⟩
  have hE5 := (Ext.refl (w3.alloc (.cells #[.slice (some ⟨w.heap.size + 1, 0, none⟩) S.size c3, .int .i64 0, .int .i64 0] 91))).alloc (.cells #[.int .i64 0, .int .i64 0, .int .i64 0, .int .i64 0, .slice none 0 0, .slice none 0 0, .int .i64 0] 25)
  have bm5 := BoxAt.madeN (w := w3.alloc (.cells #[.slice (some ⟨w.heap.size + 1, 0, none⟩) S.size c3, .int .i64 0, .int .i64 0] 91)) #[.int .i64 0, .int .i64 0, .int .i64 0, .int .i64 0, .slice none 0 0, .slice none 0 0, .int .i64 0] 25 hz4
  have rd6 := (rd4.ext hE5).ext hE6
  have bm6 := bm5.ext hE6
  have hnq : pb ≠ w.heap.size + 1 + 1 := hpb.ne_type rd6.box (by decide)
  have hnp : pb ≠ w.heap.size + 1 + 1 + 1 := hpb.ne_type bm6 (by decide)
  have b26 := (((b2.ext hE3).ext hE4).ext hE5).ext hE6
  have hX6 := ((hX3.trans hE4).trans hE5).trans hE6
  have hv : ∀ b o k c, Value.slice (some ⟨w.heap.size + 1, 0, none⟩) S.size c3 = .slice (some ⟨b, o, none⟩) k c → b ≠ w.heap.size + 1 + 1 + 1 := fun b o k c e => by cases e; omega
  obtain ⟨v, hve⟩ : ∃ v, v = Value.slice (some ⟨w.heap.size + 1, 0, none⟩) S.size c3 := ⟨_, rfl⟩
  rw [← hve] at rd6 hv
  obtain ⟨R, hR⟩ : ∃ R, R = msgR B := ⟨_, rfl⟩
  obtain ⟨q, hq⟩ : ∃ q, q = w.heap.size + 1 + 1 := ⟨_, rfl⟩
  obtain ⟨p, hp⟩ : ∃ p, p = w.heap.size + 1 + 1 + 1 := ⟨_, rfl⟩
  rw [← hq] at hp
  rw [← hq, ← hp] at bm6 hpb
  rw [← hq] at rd6 hnq
  rw [← hq, ← hp] at hnp hv
  have M6 : MsgAt w6 w6 q p v B (0, 0) ⟨0, 0, 0, 0, 0⟩ (.slice none 0 0) (.slice none 0 0) [] [] :=
    ⟨rd6, bm6, by omega, TIn.nil _ _, nofun, TIn.nil _ _, Touch2.refl _ _ _⟩
  have G6 : GetAt w6 w6 q p v B 0 R := ⟨_, _, _, _, _, _, M6, Lib.hid hR.symm, fun _ => ⟨rfl, rfl⟩, fun _ => ⟨rfl, rfl⟩⟩
  have HRR := far hR
  clear hR M6
  rw [← hq, ← hp]
  have hqw : w.heap.size < q := by omega
  have hpw : w.heap.size < p := by omega
  clear hq hp hve
  go_loopw [18] (fun i wr => ∃ k : Nat, k ≤ 7 ∧ i = .int .i64 (k : Int) ∧ GetAt w6 wr q p v B k R) (fun i _ => 7 - (intOf i).toNat)
  case atStart => exact ⟨0, Nat.zero_le _, rfl, G6⟩
  case round =>
    clear G6
    obtain ⟨k, hk, rfl, hG⟩ := hrel
    obtain ⟨s, m, vm, vk, ms, ks, M, HX, h5, h6⟩ := hG
    have hpr := M.ext.box hpb hnq hnp
    by_cases hlt : k < 7
    · obtain rfl | rfl | rfl | rfl | rfl | rfl | rfl : k = 0 ∨ k = 1 ∨ k = 2 ∨ k = 3 ∨ k = 4 ∨ k = 5 ∨ k = 6 := by omega
      · obtain ⟨rfl, rfl⟩ := h5 (by omega)
        obtain ⟨rfl, rfl⟩ := h6 (by omega)
        have p0 : wr.cell? ⟨pb, 0, none⟩ = some (.iface 145 (.agg #[.pointer (some ⟨p, 0, none⟩)])) := hpr.cell 0
        go_wp2_with fail
        refine upon_method 211 (by kernel_rfl) ?_
        go_wp2_with (go_at_call 211; go_must (refine (wd_numget 0 m.kind ⟨((numR B s).1 : Int), m.from_, m.to_, m.id, m.num⟩ rfl rfl hv M).mono ?_); rintro e w7 ⟨rfl, M7⟩)
        exact ⟨⟨1, by omega, rfl, ⟨_, _, _, _, _, _, M7, Lib.hid HX.out, fun _ => ⟨rfl, rfl⟩, fun _ => ⟨rfl, rfl⟩⟩⟩, by simp [intOf]⟩
      · obtain ⟨rfl, rfl⟩ := h5 (by omega)
        obtain ⟨rfl, rfl⟩ := h6 (by omega)
        have p0 : wr.cell? ⟨pb, 1, none⟩ = some (.iface 145 (.agg #[.pointer (some ⟨p, 1, none⟩)])) := hpr.cell 1
        go_wp2_with fail
        refine upon_method 211 (by kernel_rfl) ?_
        go_wp2_with (go_at_call 211; go_must (refine (wd_numget 1 m.from_ ⟨m.kind, ((numR B s).1 : Int), m.to_, m.id, m.num⟩ rfl rfl hv M).mono ?_); rintro e w7 ⟨rfl, M7⟩)
        exact ⟨⟨2, by omega, rfl, ⟨_, _, _, _, _, _, M7, Lib.hid HX.out, fun _ => ⟨rfl, rfl⟩, fun _ => ⟨rfl, rfl⟩⟩⟩, by simp [intOf]⟩
      · obtain ⟨rfl, rfl⟩ := h5 (by omega)
        obtain ⟨rfl, rfl⟩ := h6 (by omega)
        have p0 : wr.cell? ⟨pb, 2, none⟩ = some (.iface 145 (.agg #[.pointer (some ⟨p, 2, none⟩)])) := hpr.cell 2
        go_wp2_with fail
        refine upon_method 211 (by kernel_rfl) ?_
        go_wp2_with (go_at_call 211; go_must (refine (wd_numget 2 m.to_ ⟨m.kind, m.from_, ((numR B s).1 : Int), m.id, m.num⟩ rfl rfl hv M).mono ?_); rintro e w7 ⟨rfl, M7⟩)
        exact ⟨⟨3, by omega, rfl, ⟨_, _, _, _, _, _, M7, Lib.hid HX.out, fun _ => ⟨rfl, rfl⟩, fun _ => ⟨rfl, rfl⟩⟩⟩, by simp [intOf]⟩
      · obtain ⟨rfl, rfl⟩ := h5 (by omega)
        obtain ⟨rfl, rfl⟩ := h6 (by omega)
        have p0 : wr.cell? ⟨pb, 3, none⟩ = some (.iface 145 (.agg #[.pointer (some ⟨p, 3, none⟩)])) := hpr.cell 3
        go_wp2_with fail
        refine upon_method 211 (by kernel_rfl) ?_
        go_wp2_with (go_at_call 211; go_must (refine (wd_numget 3 m.id ⟨m.kind, m.from_, m.to_, ((numR B s).1 : Int), m.num⟩ rfl rfl hv M).mono ?_); rintro e w7 ⟨rfl, M7⟩)
        exact ⟨⟨4, by omega, rfl, ⟨_, _, _, _, _, _, M7, Lib.hid HX.out, fun _ => ⟨rfl, rfl⟩, fun _ => ⟨rfl, rfl⟩⟩⟩, by simp [intOf]⟩
      · obtain ⟨rfl, rfl⟩ := h5 (by omega)
        obtain ⟨rfl, rfl⟩ := h6 (by omega)
        have p0 : wr.cell? ⟨pb, 4, none⟩ = some (.iface 145 (.agg #[.pointer (some ⟨p, 6, none⟩)])) := hpr.cell 4
        go_wp2_with fail
        refine upon_method 211 (by kernel_rfl) ?_
        go_wp2_with (go_at_call 211; go_must (refine (wd_numget 6 m.num ⟨m.kind, m.from_, m.to_, m.id, ((numR B s).1 : Int)⟩ rfl rfl hv M).mono ?_); rintro e w7 ⟨rfl, M7⟩)
        exact ⟨⟨5, by omega, rfl, ⟨_, _, _, _, _, _, M7, Lib.hid HX.out, fun _ => ⟨rfl, rfl⟩, fun _ => ⟨rfl, rfl⟩⟩⟩, by simp [intOf]⟩
      · obtain ⟨rfl, rfl⟩ := h5 (by omega)
        obtain ⟨rfl, rfl⟩ := h6 (by omega)
        have p0 : wr.cell? ⟨pb, 5, none⟩ = some (.iface 148 (.agg #[.pointer (some ⟨p, 4, none⟩)])) := hpr.cell 5
        go_wp2_with fail
        refine upon_method 217 (by kernel_rfl) ?_
        go_wp2_with (go_at_call 217; go_must (refine (wd_mutsget hv M).mono ?_); rintro e w7 ⟨rfl, vm7, ms7, M7, hq7⟩)
        exact ⟨⟨6, by omega, rfl, ⟨_, _, _, _, _, _, M7, Lib.hid (by rw [hq7]; exact HX.out), fun h => absurd h (by omega), fun _ => ⟨rfl, rfl⟩⟩⟩, by simp [intOf]⟩
      · obtain ⟨rfl, rfl⟩ := h6 (by omega)
        have p0 : wr.cell? ⟨pb, 6, none⟩ = some (.iface 151 (.agg #[.pointer (some ⟨p, 5, none⟩)])) := hpr.cell 6
        go_wp2_with fail
        refine upon_method 244 (by kernel_rfl) ?_
        go_wp2_with (go_at_call 244; go_must (refine (wd_textsget hv M).mono ?_); rintro e w7 ⟨rfl, vk7, M7⟩)
        exact ⟨⟨7, by omega, rfl, ⟨_, _, _, _, _, _, M7, Lib.hid HX.out, fun h => absurd h (by omega), fun h => absurd h (by omega)⟩⟩, by simp [intOf]⟩
    · obtain rfl : k = 7 := by omega
      have HX7 : Hid ((⟨⟨m, ms.map Mt.q, ks⟩, s⟩ : Mg × (Nat × Int)) = R) := Lib.hid HX.out
      clear HX h5 h6 hpr hk hlt
      obtain ⟨i, e⟩ := s
      have hle : i ≤ B.length := M.rd.le
      obtain ⟨av, cv, hve, _⟩ := M.rd.shape
      subst hve
      have c0 : wr.cell? ⟨q, 0, none⟩ = some (.slice av B.length cv) := M.rd.c0
      have c1 : wr.cell? ⟨q, 1, none⟩ = some (.int .i64 (i : Int)) := M.rd.c1
      go_wp2_with fail
      go_quiet (fail)
      have M1 := M.more ((Ext.refl wr).drewN nq)
      generalize World.drewN wr _ = w8 at M1 ⊢
      clear M c0 c1
      go_upto_if 35 with fail
      go_cut [] from 22 (fun wc => ∃ e1, MsgAt w6 wc q p (.slice av B.length cv) B (i, e1) m vm vk ms ks ∧ Hid (endR B (i, e) = (i, e1)))
      case first =>
        by_cases hl : i < B.length
        · have HE : Hid (endR B (i, e) = failR 6 (i, e)) := Lib.hid (if_pos (by show 0 < B.length - i; omega))
          have d0 : decide ((i : Int) < (B.length : Int)) = true := by simpa using hl
          go_wp2_with (go_at_call 36; go_must (refine (wd_fail 6 M1.rd).mono ?_); rintro e7 w7 ⟨rfl, h7, hT7⟩)
          go_meet
          case rel => exact ⟨(failR 6 (i, e)).2, by have := M1.turn hT7 h7; rwa [show failR 6 (i, e) = (i, (failR 6 (i, e)).2) by unfold failR; split <;> rfl] at this, Lib.hid (by rw [HE.out]; unfold failR; split <;> rfl)⟩
        · have HE : Hid (endR B (i, e) = (i, e)) := Lib.hid (if_neg (by show ¬ 0 < B.length - i; omega))
          have d0 : decide ((i : Int) < (B.length : Int)) = false := by simpa using hl
          go_wp2_with fail
          go_meet
          case rel => exact ⟨e, M1, HE⟩
      case rest =>
        obtain ⟨e1, M2, HE⟩ := hcut
        clear M1
        have hX2 : Ext w wc := M2.ext.ext hX6 (by omega) (by omega)
        have b2c := M2.ext.box b26 (show w.heap.size ≠ q by omega) (show w.heap.size ≠ p by omega)
        have HGW : Far (gwR B = (⟨m, ms.map Mt.q, ks⟩, (i, e1))) := far (by unfold gwR; rw [← HRR.out, ← HX7.out]; simp only; rw [HE.out])
        have hlow := msgR_low B
        rw [← HRR.out, ← HX7.out] at hlow
        simp only at hlow
        have hBl4 : B.length ≤ 4096 := by omega
        have hMb : ∀ x ∈ ms, x.table.size ≤ 1000000 ∧ ∀ p ∈ x.pa.ps, ∀ c ∈ p.1.cols, c.name.size ≤ 1000000 := fun x hx => by
          have h1 := hlow.1 x.q (List.mem_map_of_mem hx)
          exact ⟨Nat.le_trans h1.1 (by omega), fun p hp c hc => Nat.le_trans (h1.2 p.1 (List.mem_map_of_mem (f := (·.1)) hp) c hc) (by omega)⟩
        have k6 := wcheck_gen m vm vk ms ks wc (hT.ext hX2) ⟨M2.mt.slice, fun m hm => (M2.rows m hm).rows⟩ M2.ks.slice hMb (fun s hs => Nat.le_trans (hlow.2 s hs) (by omega))
        have HMQ : Far (msB m ms ks = msQ ⟨m, ms.map Mt.q, ks⟩) := far (msB_q m ms ks)
        obtain ⟨am, cm, rfl⟩ := M2.mt.shape
        obtain ⟨ak, ck, rfl⟩ := M2.ks.shape
        have hGot : GotT wc (.slice am ms.length cm) (.slice ak ks.length ck) ms ks := ⟨M2.mt, M2.rows, M2.ks⟩
        have HGOT := far hGot
        have hbx := M2.box
        have c2 : wc.cell? ⟨q, 2, none⟩ = some (.int .i64 e1) := M2.rd.c2
        clear hMb hlow HX7 HRR hGot HE
        obtain ⟨kd, fr, tt, id, nm⟩ := m
        unfold hd7 at k6 hbx
        simp only at k6 hbx
        have z0 : wc.cell? ⟨p, 0, none⟩ = some (.int .i64 kd) := hbx.cell 0
        have z1 : wc.cell? ⟨p, 1, none⟩ = some (.int .i64 fr) := hbx.cell 1
        have z2 : wc.cell? ⟨p, 2, none⟩ = some (.int .i64 tt) := hbx.cell 2
        have z3 : wc.cell? ⟨p, 3, none⟩ = some (.int .i64 id) := hbx.cell 3
        have z4 : wc.cell? ⟨p, 4, none⟩ = some (.slice am ms.length cm) := hbx.cell 4
        have z5 : wc.cell? ⟨p, 5, none⟩ = some (.slice ak ks.length ck) := hbx.cell 5
        have z6 : wc.cell? ⟨p, 6, none⟩ = some (.int .i64 nm) := hbx.cell 6
        obtain ⟨mn, hmn⟩ : ∃ n, n = ms.length := ⟨_, rfl⟩
        obtain ⟨kn, hkn⟩ : ∃ n, n = ks.length := ⟨_, rfl⟩
        rw [← hmn] at k6 hbx z4 HGOT M2
        rw [← hkn] at k6 hbx z5 HGOT M2
        clear hmn hkn
        by_cases he : e1 = 0
        · subst he
          cases hq : msB ⟨kd, fr, tt, id, nm⟩ ms ks
          · have HER : Far (gwErr B = 1) := far (by unfold gwErr; rw [HGW.out]; simp [← HMQ.out, hq])
            have HBT : Far (gwMg B = mg0) := far (gw_none (by rw [HER.out]; decide))
            rw [hq] at k6
            have K6 := far k6
            clear k6 hq HMQ HGW
            go_upto_region 15 with (first
              | (go_at_call 12; go_must (refine K6.out.mono ?_); rintro e7 w7 ⟨rfl, hE7⟩)
              | (go_at_call 36; go_must (refine (wd_fail 1 (M2.more hE7).rd).mono ?_); rintro e7 w8 ⟨rfl, h8, hT8⟩; rw [show failR 1 (i, (0 : Int)) = (i, 1) from if_pos rfl] at h8; have c2 : w8.cell? ⟨q, 2, none⟩ = some (.int .i64 1) := h8.c2; have b28 := hT8.box (b2c.ext hE7) (show w.heap.size ≠ q by omega); have hE8 : Ext w w8 := hT8.ext (hX2.trans hE7) (by omega)))
            have x0 : w8.cell? ⟨w.heap.size, 0, none⟩ = some (.int .i64 0) := b28.cell 0
            have x1 : w8.cell? ⟨w.heap.size, 1, none⟩ = some (.int .i64 0) := b28.cell 1
            have x2 : w8.cell? ⟨w.heap.size, 2, none⟩ = some (.int .i64 0) := b28.cell 2
            have x3 : w8.cell? ⟨w.heap.size, 3, none⟩ = some (.int .i64 0) := b28.cell 3
            have x4 : w8.cell? ⟨w.heap.size, 4, none⟩ = some (.slice none 0 0) := b28.cell 4
            have x5 : w8.cell? ⟨w.heap.size, 5, none⟩ = some (.slice none 0 0) := b28.cell 5
            have x6 : w8.cell? ⟨w.heap.size, 6, none⟩ = some (.int .i64 0) := b28.cell 6
            have xf := b28.free
            go_region
            have b8 := (((((((b28.set 0 (.int .i64 0)).set 1 (.int .i64 0)).set 2 (.int .i64 0)).set 3 (.int .i64 0)).set 4 (.slice none 0 0)).set 5 (.slice none 0 0)).set 6 (.int .i64 0)).ext (Ext.refl _).drew
            have hE8 := (((((((hE8.setCell (p := ⟨w.heap.size, 0, none⟩) (Nat.le_refl _) (.int .i64 0)).setCell (p := ⟨w.heap.size, 1, none⟩) (Nat.le_refl _) (.int .i64 0)).setCell (p := ⟨w.heap.size, 2, none⟩) (Nat.le_refl _) (.int .i64 0)).setCell (p := ⟨w.heap.size, 3, none⟩) (Nat.le_refl _) (.int .i64 0)).setCell (p := ⟨w.heap.size, 4, none⟩) (Nat.le_refl _) (.slice none 0 0)).setCell (p := ⟨w.heap.size, 5, none⟩) (Nat.le_refl _) (.slice none 0 0)).setCell (p := ⟨w.heap.size, 6, none⟩) (Nat.le_refl _) (.int .i64 0)).drew
            generalize World.drew _ = w9 at b8 hE8 ⊢
            replace b8 : BoxAt w9 w.heap.size #[.int .i64 0, .int .i64 0, .int .i64 0, .int .i64 0, .slice none 0 0, .slice none 0 0, .int .i64 0] 25 := b8
            go_wp2
            refine bodyPost_ret (v := .tuple #[.agg #[.int .i64 0, .int .i64 0, .int .i64 0, .int .i64 0, .slice none 0 0, .slice none 0 0, .int .i64 0], .int .i64 1]) ?_ rfl ⟨_, _, [], by rw [HER.out, HBT.out]; rfl, by rw [HBT.out]; exact GotW.none w9, hE8⟩
            have y0 := b8.cell 0
            have y1 := b8.cell 1
            have y2 := b8.cell 2
            have y3 := b8.cell 3
            have y4 := b8.cell 4
            have y5 := b8.cell 5
            have y6 := b8.cell 6
            simp at y0 y1 y2 y3 y4 y5 y6
            simp [results, Tryz.results9, go_sem, y0, y1, y2, y3, y4, y5, y6]
          · have HER : Far (gwErr B = 0) := far (by unfold gwErr; rw [HGW.out]; simp [← HMQ.out, hq])
            have HBT : Far (gwMg B = ⟨⟨kd, fr, tt, id, nm⟩, ms.map Mt.q, ks⟩) := far (by unfold gwMg; rw [HER.out, if_pos rfl, HGW.out])
            rw [hq] at k6
            have K6 := far k6
            clear k6 hq HMQ HGW
            go_wp2_with (go_at_call 12; go_must (refine K6.out.mono ?_); rintro e7 w7 ⟨rfl, hE7⟩; have c2 : w7.cell? ⟨q, 2, none⟩ = some (.int .i64 0) := (M2.more hE7).rd.c2; have hb7 := hbx.ext hE7; have b27 := b2c.ext hE7; have hX7 := hX2.trans hE7; have z0 : w7.cell? ⟨p, 0, none⟩ = some (.int .i64 kd) := hb7.cell 0; have z1 : w7.cell? ⟨p, 1, none⟩ = some (.int .i64 fr) := hb7.cell 1; have z2 : w7.cell? ⟨p, 2, none⟩ = some (.int .i64 tt) := hb7.cell 2; have z3 : w7.cell? ⟨p, 3, none⟩ = some (.int .i64 id) := hb7.cell 3; have z4 : w7.cell? ⟨p, 4, none⟩ = some (.slice am mn cm) := hb7.cell 4; have z5 : w7.cell? ⟨p, 5, none⟩ = some (.slice ak kn ck) := hb7.cell 5; have z6 : w7.cell? ⟨p, 6, none⟩ = some (.int .i64 nm) := hb7.cell 6; have x0 : w7.cell? ⟨w.heap.size, 0, none⟩ = some (.int .i64 0) := b27.cell 0; have x1 : w7.cell? ⟨w.heap.size, 1, none⟩ = some (.int .i64 0) := b27.cell 1; have x2 : w7.cell? ⟨w.heap.size, 2, none⟩ = some (.int .i64 0) := b27.cell 2; have x3 : w7.cell? ⟨w.heap.size, 3, none⟩ = some (.int .i64 0) := b27.cell 3; have x4 : w7.cell? ⟨w.heap.size, 4, none⟩ = some (.slice none 0 0) := b27.cell 4; have x5 : w7.cell? ⟨w.heap.size, 5, none⟩ = some (.slice none 0 0) := b27.cell 5; have x6 : w7.cell? ⟨w.heap.size, 6, none⟩ = some (.int .i64 0) := b27.cell 6; have xf := b27.free)
            have G7 := HGOT.out.ext hE7
            have G70 := G7.set 0 (.int .i64 kd) b27
            have b70 := b27.set 0 (.int .i64 kd)
            have E70 := hX7.setCell (p := ⟨w.heap.size, 0, none⟩) (Nat.le_refl _) (.int .i64 kd)
            have G71 := G70.set 1 (.int .i64 fr) b70
            have b71 := b70.set 1 (.int .i64 fr)
            have E71 := E70.setCell (p := ⟨w.heap.size, 1, none⟩) (Nat.le_refl _) (.int .i64 fr)
            have G72 := G71.set 2 (.int .i64 tt) b71
            have b72 := b71.set 2 (.int .i64 tt)
            have E72 := E71.setCell (p := ⟨w.heap.size, 2, none⟩) (Nat.le_refl _) (.int .i64 tt)
            have G73 := G72.set 3 (.int .i64 id) b72
            have b73 := b72.set 3 (.int .i64 id)
            have E73 := E72.setCell (p := ⟨w.heap.size, 3, none⟩) (Nat.le_refl _) (.int .i64 id)
            have G74 := G73.set 4 (.slice am mn cm) b73
            have b74 := b73.set 4 (.slice am mn cm)
            have E74 := E73.setCell (p := ⟨w.heap.size, 4, none⟩) (Nat.le_refl _) (.slice am mn cm)
            have G75 := G74.set 5 (.slice ak kn ck) b74
            have b75 := b74.set 5 (.slice ak kn ck)
            have E75 := E74.setCell (p := ⟨w.heap.size, 5, none⟩) (Nat.le_refl _) (.slice ak kn ck)
            have G76 := G75.set 6 (.int .i64 nm) b75
            have b76 := b75.set 6 (.int .i64 nm)
            have E76 := E75.setCell (p := ⟨w.heap.size, 6, none⟩) (Nat.le_refl _) (.int .i64 nm)
            clear G70 G71 G72 G73 G74 G75 b70 b71 b72 b73 b74 b75 E70 E71 E72 E73 E74 E75
            generalize World.setCell (World.setCell (World.setCell (World.setCell (World.setCell (World.setCell (World.setCell w7 _ _) _ _) _ _) _ _) _ _) _ _) _ _ = w9 at b76 E76 G76 ⊢
            replace b76 : BoxAt w9 w.heap.size #[.int .i64 kd, .int .i64 fr, .int .i64 tt, .int .i64 id, .slice am mn cm, .slice ak kn ck, .int .i64 nm] 25 := b76
            refine bodyPost_ret (v := .tuple #[.agg #[.int .i64 kd, .int .i64 fr, .int .i64 tt, .int .i64 id, .slice am mn cm, .slice ak kn ck, .int .i64 nm], .int .i64 0]) ?_ rfl ⟨_, _, ms, by rw [HER.out, HBT.out]; rfl, by rw [HBT.out]; exact G76.got _, E76⟩
            have y0 := b76.cell 0
            have y1 := b76.cell 1
            have y2 := b76.cell 2
            have y3 := b76.cell 3
            have y4 := b76.cell 4
            have y5 := b76.cell 5
            have y6 := b76.cell 6
            simp at y0 y1 y2 y3 y4 y5 y6
            simp [results, Tryz.results9, go_sem, y0, y1, y2, y3, y4, y5, y6]
        · have HER : Far (gwErr B = e1) := far (by unfold gwErr; rw [HGW.out]; exact if_neg he)
          have HBT : Far (gwMg B = mg0) := far (gw_none (by rw [HER.out]; exact he))
          have d0 : (e1 == 0) = false := by simpa using he
          have hf1 : failR 1 (i, e1) = (i, e1) := if_neg he
          have HF1 := far hf1
          cases hq : msB ⟨kd, fr, tt, id, nm⟩ ms ks
          · rw [hq] at k6
            have K6 := far k6
            clear k6 hq HMQ HGW hf1
            go_upto_region 15 with (first
              | (go_at_call 12; go_must (refine K6.out.mono ?_); rintro e7 w7 ⟨rfl, hE7⟩)
              | (go_at_call 36; go_must (refine (wd_fail 1 (M2.more hE7).rd).mono ?_); rintro e7 w8 ⟨rfl, h8, hT8⟩; rw [HF1.out] at h8; have c2 : w8.cell? ⟨q, 2, none⟩ = some (.int .i64 e1) := h8.c2; have b28 := hT8.box (b2c.ext hE7) (show w.heap.size ≠ q by omega); have hE8 : Ext w w8 := hT8.ext (hX2.trans hE7) (by omega)))
            have x0 : w8.cell? ⟨w.heap.size, 0, none⟩ = some (.int .i64 0) := b28.cell 0
            have x1 : w8.cell? ⟨w.heap.size, 1, none⟩ = some (.int .i64 0) := b28.cell 1
            have x2 : w8.cell? ⟨w.heap.size, 2, none⟩ = some (.int .i64 0) := b28.cell 2
            have x3 : w8.cell? ⟨w.heap.size, 3, none⟩ = some (.int .i64 0) := b28.cell 3
            have x4 : w8.cell? ⟨w.heap.size, 4, none⟩ = some (.slice none 0 0) := b28.cell 4
            have x5 : w8.cell? ⟨w.heap.size, 5, none⟩ = some (.slice none 0 0) := b28.cell 5
            have x6 : w8.cell? ⟨w.heap.size, 6, none⟩ = some (.int .i64 0) := b28.cell 6
            have xf := b28.free
            go_region
            have b8 := (((((((b28.set 0 (.int .i64 0)).set 1 (.int .i64 0)).set 2 (.int .i64 0)).set 3 (.int .i64 0)).set 4 (.slice none 0 0)).set 5 (.slice none 0 0)).set 6 (.int .i64 0)).ext (Ext.refl _).drew
            have hE8 := (((((((hE8.setCell (p := ⟨w.heap.size, 0, none⟩) (Nat.le_refl _) (.int .i64 0)).setCell (p := ⟨w.heap.size, 1, none⟩) (Nat.le_refl _) (.int .i64 0)).setCell (p := ⟨w.heap.size, 2, none⟩) (Nat.le_refl _) (.int .i64 0)).setCell (p := ⟨w.heap.size, 3, none⟩) (Nat.le_refl _) (.int .i64 0)).setCell (p := ⟨w.heap.size, 4, none⟩) (Nat.le_refl _) (.slice none 0 0)).setCell (p := ⟨w.heap.size, 5, none⟩) (Nat.le_refl _) (.slice none 0 0)).setCell (p := ⟨w.heap.size, 6, none⟩) (Nat.le_refl _) (.int .i64 0)).drew
            generalize World.drew _ = w9 at b8 hE8 ⊢
            replace b8 : BoxAt w9 w.heap.size #[.int .i64 0, .int .i64 0, .int .i64 0, .int .i64 0, .slice none 0 0, .slice none 0 0, .int .i64 0] 25 := b8
            go_wp2
            refine bodyPost_ret (v := .tuple #[.agg #[.int .i64 0, .int .i64 0, .int .i64 0, .int .i64 0, .slice none 0 0, .slice none 0 0, .int .i64 0], .int .i64 e1]) ?_ rfl ⟨_, _, [], by rw [HER.out, HBT.out]; rfl, by rw [HBT.out]; exact GotW.none w9, hE8⟩
            have y0 := b8.cell 0
            have y1 := b8.cell 1
            have y2 := b8.cell 2
            have y3 := b8.cell 3
            have y4 := b8.cell 4
            have y5 := b8.cell 5
            have y6 := b8.cell 6
            simp at y0 y1 y2 y3 y4 y5 y6
            simp [results, Tryz.results9, go_sem, y0, y1, y2, y3, y4, y5, y6]
          · rw [hq] at k6
            have K6 := far k6
            clear k6 hq HMQ HGW hf1
            go_upto_region 15 with (go_at_call 12; go_must (refine K6.out.mono ?_); rintro e7 w7 ⟨rfl, hE7⟩; have c2 : w7.cell? ⟨q, 2, none⟩ = some (.int .i64 e1) := (M2.more hE7).rd.c2; have b27 := b2c.ext hE7; have hE8 := hX2.trans hE7)
            have x0 : w7.cell? ⟨w.heap.size, 0, none⟩ = some (.int .i64 0) := b27.cell 0
            have x1 : w7.cell? ⟨w.heap.size, 1, none⟩ = some (.int .i64 0) := b27.cell 1
            have x2 : w7.cell? ⟨w.heap.size, 2, none⟩ = some (.int .i64 0) := b27.cell 2
            have x3 : w7.cell? ⟨w.heap.size, 3, none⟩ = some (.int .i64 0) := b27.cell 3
            have x4 : w7.cell? ⟨w.heap.size, 4, none⟩ = some (.slice none 0 0) := b27.cell 4
            have x5 : w7.cell? ⟨w.heap.size, 5, none⟩ = some (.slice none 0 0) := b27.cell 5
            have x6 : w7.cell? ⟨w.heap.size, 6, none⟩ = some (.int .i64 0) := b27.cell 6
            have xf := b27.free
            go_region
            have b8 := (((((((b27.set 0 (.int .i64 0)).set 1 (.int .i64 0)).set 2 (.int .i64 0)).set 3 (.int .i64 0)).set 4 (.slice none 0 0)).set 5 (.slice none 0 0)).set 6 (.int .i64 0)).ext (Ext.refl _).drew
            have hE8 := (((((((hE8.setCell (p := ⟨w.heap.size, 0, none⟩) (Nat.le_refl _) (.int .i64 0)).setCell (p := ⟨w.heap.size, 1, none⟩) (Nat.le_refl _) (.int .i64 0)).setCell (p := ⟨w.heap.size, 2, none⟩) (Nat.le_refl _) (.int .i64 0)).setCell (p := ⟨w.heap.size, 3, none⟩) (Nat.le_refl _) (.int .i64 0)).setCell (p := ⟨w.heap.size, 4, none⟩) (Nat.le_refl _) (.slice none 0 0)).setCell (p := ⟨w.heap.size, 5, none⟩) (Nat.le_refl _) (.slice none 0 0)).setCell (p := ⟨w.heap.size, 6, none⟩) (Nat.le_refl _) (.int .i64 0)).drew
            generalize World.drew _ = w9 at b8 hE8 ⊢
            replace b8 : BoxAt w9 w.heap.size #[.int .i64 0, .int .i64 0, .int .i64 0, .int .i64 0, .slice none 0 0, .slice none 0 0, .int .i64 0] 25 := b8
            go_wp2
            refine bodyPost_ret (v := .tuple #[.agg #[.int .i64 0, .int .i64 0, .int .i64 0, .int .i64 0, .slice none 0 0, .slice none 0 0, .int .i64 0], .int .i64 e1]) ?_ rfl ⟨_, _, [], by rw [HER.out, HBT.out]; rfl, by rw [HBT.out]; exact GotW.none w9, hE8⟩
            have y0 := b8.cell 0
            have y1 := b8.cell 1
            have y2 := b8.cell 2
            have y3 := b8.cell 3
            have y4 := b8.cell 4
            have y5 := b8.cell 5
            have y6 := b8.cell 6
            simp at y0 y1 y2 y3 y4 y5 y6
            simp [results, Tryz.results9, go_sem, y0, y1, y2, y3, y4, y5, y6]
end Go.Proofs.YtfagnbofnaoncaaGreatDoor

/- wire.Get of any text. -/
namespace Go.Proofs.YtfagnbofnaoncaaGreatDoor
open Go Go.RowKit
attribute [local go_sem] yields yUpon

set_option maxRecDepth 100000 in
set_option maxHeartbeats 4000000 in
theorem wget_big (S : ByteArray) (w : World) (h1 : 4096 < S.size) (h2 : S.size ≤ 1000000) :
    Calls Tryz.prog 9 #[.string S] w fun e w' => e = .returned (.tuple #[.agg #[.int .i64 0, .int .i64 0, .int .i64 0, .int .i64 0, .slice none 0 0, .slice none 0 0, .int .i64 0], .int .i64 2]) ∧ Ext w w' := by
  have hE0 := (Ext.refl w).alloc (.cells #[.int .i64 0, .int .i64 0, .int .i64 0, .int .i64 0, .slice none 0 0, .slice none 0 0, .int .i64 0] 25)
  have b0 := BoxAt.made w #[.int .i64 0, .int .i64 0, .int .i64 0, .int .i64 0, .slice none 0 0, .slice none 0 0, .int .i64 0] 25
  have hd : (4096 : Int) < (S.size : Int) := by omega
  go_enter Tryz.func9, Tryz.ntmps9
  go_wp2_with fail
  refine bodyPost_ret (v := .tuple #[.agg #[.int .i64 0, .int .i64 0, .int .i64 0, .int .i64 0, .slice none 0 0, .slice none 0 0, .int .i64 0], .int .i64 2]) ?_ rfl ⟨rfl, hE0⟩
  simp [results, Tryz.results9, go_sem]
theorem wget_gen (S : ByteArray) (w : World) (hT : TabU w) (hS : S.size ≤ 1000000) :
    Calls Tryz.prog 9 #[.string S] w fun e w' => ∃ vm vk ms, e = .returned (.tuple #[.agg (hd7 (gxMg S).hd vm vk), .int .i64 (gxErr S)]) ∧ GotW w' vm vk ms (gxMg S) ∧ Ext w w' := by
  unfold gxMg gxErr
  by_cases h : S.size ≤ 4096
  · simp only [if_pos h]
    exact wget_read S w hT h
  · simp only [if_neg h]
    refine (wget_big S w (by omega) hS).mono ?_
    rintro e w1 ⟨rfl, hE⟩
    exact ⟨_, _, [], rfl, GotW.none w1, hE⟩
end Go.Proofs.YtfagnbofnaoncaaGreatDoor

/- The walk over the reference 02: GetNum. -/
namespace Go.Proofs.YtfagnbofnaoncaaGreatDoor
open Go Go.RowKit
attribute [local go_sem] yields yUpon

theorem byte_eqG {b c : UInt8} (h : b = c) : ((b.toNat : Int) == (c.toNat : Int)) = true := by rw [h]; simp
theorem byte_neG {b c : UInt8} (h : b ≠ c) : ((b.toNat : Int) == (c.toNat : Int)) = false := by
  rw [beq_eq_false_iff_ne]
  intro e
  exact h (UInt8.toNat.inj (by omega))
/-! ### GetNum -/
theorem add_step (V x : Nat) (hx : x < 256) (hV : V < 72057594037927936) : IntKind.u64.wrap (IntKind.u64.wrap ((V : Int) * 256) + IntKind.u64.wrap (x : Int)) = ((V * 256 + x : Nat) : Int) := by
  simp only [IntKind.wrap_u64]
  omega

set_option maxHeartbeats 2000000 in
theorem rgetNum_any (s : ByteArray) (at_ : Int) (w : World) (hl : s.size ≤ 140737488000000) :
    Calls Tryz.prog 135 #[.string s, .int .i64 at_] w fun e w' => e = .returned (tup3 (getNum s.data.toList at_)) ∧ w = w' := by
  obtain ⟨l, hls⟩ : ∃ l, l = s.data.toList := ⟨_, rfl⟩
  have hlen : l.length = s.size := by rw [hls]; rfl
  have hget : ∀ (k : Nat) (h : k < s.size), l[k]'(by omega) = s[k]'h := by subst hls; intro k h; rfl
  rw [← hls]
  have HL := Lib.hid hls
  have HG := Lib.hid hget
  clear hls hget
  by_cases h0 : at_ < 0
  · have d0 : decide (at_ < 0) = true := by simpa using h0
    go_enter Tryz.func135, Tryz.ntmps135
    go_wp2
    go_ret3
    refine ⟨tup3_ret (v := 0) ?_ (by rfl), rfl⟩
    unfold getNum
    rw [if_pos h0]
  · have d0 : decide (at_ < 0) = false := by simpa using h0
    obtain ⟨i, rfl⟩ : ∃ i : Nat, at_ = i := ⟨at_.toNat, by omega⟩
    have EN : Hid (getNum l (i : Int) = getNumN l i) := by unfold getNum; rw [if_neg h0]; rfl
    by_cases h1 : s.size < i
    · have d1 : decide ((s.size : Int) < (i : Int)) = true := by simpa using h1
      go_enter Tryz.func135, Tryz.ntmps135
      go_wp2
      go_ret3
      refine ⟨tup3_ret (v := 0) ?_ (by rfl), rfl⟩
      rw [EN.out]
      unfold getNumN
      rw [if_pos (by omega)]
    · have d1 : decide ((s.size : Int) < (i : Int)) = false := by simpa using h1
      have g1 : ¬ l.length < i := by omega
      by_cases h2 : i < s.size
      · have d2 : ((i : Int) == (s.size : Int)) = false := by simp; omega
        have g2 : i < l.length := by omega
        obtain ⟨n, hn⟩ : ∃ n, n = l[i].toNat := ⟨_, rfl⟩
        have hn256 : n < 256 := by rw [hn]; exact l[i].toNat_lt
        have hsn : s[i].toNat = n := by rw [hn, HG.out i h2]
        by_cases h3 : 8 < n
        · have d3 : decide ((8 : Int) < (n : Int)) = true := by simp; omega
          have HN := Lib.hid hn
          clear hn
          go_enter Tryz.func135, Tryz.ntmps135
          go_wp2
          go_ret3
          refine ⟨tup3_ret (v := 0) ?_ (by rfl), rfl⟩
          rw [EN.out]
          unfold getNumN
          rw [if_neg g1, dif_pos g2, if_pos (by rw [← HN.out]; exact h3)]
        · have d3 : decide ((8 : Int) < (n : Int)) = false := by simp; omega
          by_cases h4 : 0 < n ∧ l[i + 1]? = some 0
          · obtain ⟨h4, h5⟩ := h4
            have h6 : i + 1 < s.size := by have := (List.getElem?_eq_some_iff.1 h5).1; omega
            have d4 : decide ((0 : Int) < (n : Int)) = true := by simp; omega
            have d5 : decide ((i : Int) + 1 < (s.size : Int)) = true := by simp; omega
            have d6 : ((s[i + 1].toNat : Int) == 0) = true := by
              refine byte_eqG (c := 0) ?_
              rw [← HG.out (i + 1) h6]
              exact (List.getElem?_eq_some_iff.1 h5).2
            have HN := Lib.hid hn
            have H5 := Lib.hid h5
            clear hn h5
            go_enter Tryz.func135, Tryz.ntmps135
            go_wp2
            go_ret3
            refine ⟨tup3_ret (v := 0) ?_ (by rfl), rfl⟩
            rw [EN.out]
            unfold getNumN
            rw [if_neg g1, dif_pos g2, if_neg (by rw [← HN.out]; exact h3), if_pos ⟨by rw [← HN.out]; exact h4, H5.out⟩]
          · by_cases hn0 : n = 0
            · have d4 : decide ((0 : Int) < (n : Int)) = false := by simp; omega
              have h7 : ¬ s.size - i - 1 < n := by omega
              have hk0 := hn0
              have hn0 := Lib.hid hn0
              have HN := Lib.hid hn
              have H4 := Lib.hid h4
              have d7 : decide ((s.size : Int) - (i : Int) - 1 < (n : Int)) = false := by simp; omega
              clear hn h4
              go_enter Tryz.func135, Tryz.ntmps135
              go_wp2
              go_loop [8, 9] (fun v j => ∃ k : Nat, k ≤ n ∧ j = .int .i64 ((k : Int) + 1) ∧ v = .int .u64 (valB ((l.drop (i + 1)).take k))) (fun v j => n + 1 - (intOf j).toNat)
              case atStart => exact ⟨0, Nat.zero_le _, rfl, rfl⟩
              case round =>
                obtain ⟨k, hk, rfl, rfl⟩ := hrel
                by_cases hlt : k < n
                · first
                  | (exfalso; omega)
                  | (
                  have hle : decide ((k : Int) + 1 ≤ (n : Int)) = true := by simp; omega
                  have hle' : decide ((k : Int) < (n : Int)) = true := by simp; omega
                  have hix : i + (k + 1) < s.size := by omega
                  go_wp2
                  go_round
                  case rel =>
                    refine ⟨k + 1, by omega, by go_num, ?_⟩
                    rw [valB_take _ _ (by simp; omega), add_step _ _ (UInt8.toNat_lt _) (valB_take_lt _ _ (by omega))]
                    have e1 : (l.drop (i + 1))[k]'(by simp; omega) = s[i + (k + 1)] := by rw [← HG.out _ hix, List.getElem_drop]; congr 1; omega
                    rw [e1]
                  case measure => simp [intOf] <;> omega)
                · have hle : decide ((k : Int) + 1 ≤ (n : Int)) = false := by simp; omega
                  have hle' : decide ((k : Int) < (n : Int)) = false := by simp; omega
                  have hkn := Lib.hid (show k = n by omega)
                  go_wp2
                  go_ret3
                  refine ⟨tup3_ret (v := valB ((l.drop (i + 1)).take n)) ?_ ?_, rfl⟩
                  · rw [EN.out]
                    unfold getNumN
                    rw [if_neg g1, dif_pos g2, if_neg (by rw [← HN.out]; exact h3), if_neg (by rw [← HN.out]; exact H4.out), if_neg (by rw [← HN.out]; omega), ← HN.out]
                    try simp [hn0.out]
                  · first
                    | (rw [hn0.out]; rfl)
                    | rw [← hkn.out]
            · have d4 : decide ((0 : Int) < (n : Int)) = true := by simp; omega
              by_cases h6 : i + 1 < s.size
              · have d5 : decide ((i : Int) + 1 < (s.size : Int)) = true := by simp; omega
                have d6 : ((s[i + 1].toNat : Int) == 0) = false := by
                  refine byte_neG (c := 0) fun he => h4 ⟨by omega, ?_⟩
                  rw [List.getElem?_eq_getElem (by omega), HG.out (i + 1) h6, he]
                by_cases h7 : s.size < i + 1 + n
                · have HN := Lib.hid hn
                  have H4 := Lib.hid h4
                  have d7 : decide ((s.size : Int) - (i : Int) - 1 < (n : Int)) = true := by simp; omega
                  clear hn h4
                  go_enter Tryz.func135, Tryz.ntmps135
                  go_wp2
                  go_ret3
                  refine ⟨tup3_ret (v := 0) ?_ (by rfl), rfl⟩
                  rw [EN.out]
                  unfold getNumN
                  rw [if_neg g1, dif_pos g2, if_neg (by rw [← HN.out]; exact h3), if_neg (by rw [← HN.out]; exact H4.out), if_pos (by rw [← HN.out]; omega)]
                · have HN := Lib.hid hn
                  have H4 := Lib.hid h4
                  have d7 : decide ((s.size : Int) - (i : Int) - 1 < (n : Int)) = false := by simp; omega
                  clear hn h4
                  go_enter Tryz.func135, Tryz.ntmps135
                  go_wp2
                  go_loop [8, 9] (fun v j => ∃ k : Nat, k ≤ n ∧ j = .int .i64 ((k : Int) + 1) ∧ v = .int .u64 (valB ((l.drop (i + 1)).take k))) (fun v j => n + 1 - (intOf j).toNat)
                  case atStart => exact ⟨0, Nat.zero_le _, rfl, rfl⟩
                  case round =>
                    obtain ⟨k, hk, rfl, rfl⟩ := hrel
                    by_cases hlt : k < n
                    · first
                      | (exfalso; omega)
                      | (
                      have hle : decide ((k : Int) + 1 ≤ (n : Int)) = true := by simp; omega
                      have hle' : decide ((k : Int) < (n : Int)) = true := by simp; omega
                      have hix : i + (k + 1) < s.size := by omega
                      go_wp2
                      go_round
                      case rel =>
                        refine ⟨k + 1, by omega, by go_num, ?_⟩
                        rw [valB_take _ _ (by simp; omega), add_step _ _ (UInt8.toNat_lt _) (valB_take_lt _ _ (by omega))]
                        have e1 : (l.drop (i + 1))[k]'(by simp; omega) = s[i + (k + 1)] := by rw [← HG.out _ hix, List.getElem_drop]; congr 1; omega
                        rw [e1]
                      case measure => simp [intOf] <;> omega)
                    · have hle : decide ((k : Int) + 1 ≤ (n : Int)) = false := by simp; omega
                      have hle' : decide ((k : Int) < (n : Int)) = false := by simp; omega
                      have hkn := Lib.hid (show k = n by omega)
                      go_wp2
                      go_ret3
                      refine ⟨tup3_ret (v := valB ((l.drop (i + 1)).take n)) ?_ ?_, rfl⟩
                      · rw [EN.out]
                        unfold getNumN
                        rw [if_neg g1, dif_pos g2, if_neg (by rw [← HN.out]; exact h3), if_neg (by rw [← HN.out]; exact H4.out), if_neg (by rw [← HN.out]; omega), ← HN.out]
                        try simp [hn0.out]
                      · first
                        | (rw [hn0.out]; rfl)
                        | rw [← hkn.out]
              · have d5 : decide ((i : Int) + 1 < (s.size : Int)) = false := by simp; omega
                have HN := Lib.hid hn
                have H4 := Lib.hid h4
                have d7 : decide ((s.size : Int) - (i : Int) - 1 < (n : Int)) = true := by simp; omega
                clear hn h4
                go_enter Tryz.func135, Tryz.ntmps135
                go_wp2
                go_ret3
                refine ⟨tup3_ret (v := 0) ?_ (by rfl), rfl⟩
                rw [EN.out]
                unfold getNumN
                rw [if_neg g1, dif_pos g2, if_neg (by rw [← HN.out]; exact h3), if_neg (by rw [← HN.out]; exact H4.out), if_pos (by rw [← HN.out]; omega)]
      · have d2 : ((i : Int) == (s.size : Int)) = true := by simp; omega
        go_enter Tryz.func135, Tryz.ntmps135
        go_wp2
        go_ret3
        refine ⟨tup3_ret (v := 0) ?_ (by rfl), rfl⟩
        rw [EN.out]
        unfold getNumN
        rw [if_neg g1, dif_neg (by omega)]
end Go.Proofs.YtfagnbofnaoncaaGreatDoor

/- The reference of chapter 9: its reader R in memory; Wrong, raw, Num, Count, Text, End. -/
namespace Go.Proofs.YtfagnbofnaoncaaGreatDoor
open Go Go.RowKit
attribute [local go_sem] yields yUpon

/-- A reader of the reference in memory: its bytes (a text), the next place, what is wrong. -/
structure RqAt (w : World) (q : Nat) (S : ByteArray) (s : Nat × Int) : Prop where
  box : BoxAt w q #[.string S, .int .i64 (s.1 : Int), .int .i64 s.2] 96
  le : s.1 ≤ S.size
  big : S.size ≤ 900000
theorem cntR_err {B : List UInt8} {s : Nat × Int} (h : (cntR B s).2.2 ≠ 0) : (cntR B s).1 = 0 := by
  by_cases a : (anyR B s).1 ≤ B.length - (anyR B s).2.1
  · by_cases b : (anyR B s).2.2 = 0
    · exact absurd (by unfold cntR; rw [if_pos a, if_pos b]; exact b) h
    · unfold cntR; rw [if_pos a, if_neg b]
  · unfold cntR; rw [if_neg a]
theorem dat_size9 (s : ByteArray) : s.data.toList.length = s.size := by rw [Array.length_toList]; rfl
theorem extract_dat (S : ByteArray) (i V : Nat) : S.extract i (i + V) = str ((S.data.toList.drop i).take V) := by
  apply ByteArray.ext
  apply Array.toList_inj.1
  rw [ByteArray.data_extract]
  simp [str, List.take_drop]
section
variable {w w' : World} {q : Nat} {S : ByteArray} {s : Nat × Int}
theorem RqAt.ext (h : RqAt w q S s) (hE : Ext w w') : RqAt w' q S s := ⟨h.box.ext hE, h.le, h.big⟩
theorem RqAt.c0 (h : RqAt w q S s) : w.cell? ⟨q, 0, none⟩ = some (.string S) := h.box.cell 0
theorem RqAt.c1 (h : RqAt w q S s) : w.cell? ⟨q, 1, none⟩ = some (.int .i64 (s.1 : Int)) := h.box.cell 1
theorem RqAt.c2 (h : RqAt w q S s) : w.cell? ⟨q, 2, none⟩ = some (.int .i64 s.2) := h.box.cell 2
theorem RqAt.f1 (h : RqAt w q S s) : w.frozen? ⟨q, 1, none⟩ = false := h.box.free 1
theorem RqAt.f2 (h : RqAt w q S s) : w.frozen? ⟨q, 2, none⟩ = false := h.box.free 2
theorem RqAt.lt (h : RqAt w q S s) : q < w.heap.size := BoxAt.lt h.box
theorem RqAt.set1 (h : RqAt w q S s) (i : Nat) (hi : i ≤ S.size) : RqAt (w.setCell ⟨q, 1, none⟩ (.int .i64 (i : Int))) q S (i, s.2) := ⟨h.box.set 1 _, hi, h.big⟩
theorem RqAt.set2 (h : RqAt w q S s) (e : Int) : RqAt (w.setCell ⟨q, 2, none⟩ (.int .i64 e)) q S (s.1, e) := ⟨h.box.set 2 _, h.le, h.big⟩
theorem RqAt.len (h : RqAt w q S s) : s.1 ≤ S.data.toList.length := by rw [dat_size9]; exact h.le
end

set_option maxHeartbeats 400000 in
theorem rq_wrong {w : World} {q : Nat} {S : ByteArray} {s : Nat × Int} (k : Int) (h : RqAt w q S s) :
    Calls Tryz.prog 42 #[.pointer (some ⟨q, 0, none⟩), .int .i64 k] w fun e w' => e = .returned (.tuple #[]) ∧ RqAt w' q S (failR k s) ∧ Touch9 w w' q := by
  have c2 := h.c2
  have f2 := h.f2
  obtain ⟨i, e⟩ := s
  simp only at c2
  by_cases he : e = 0
  · subst he
    have hf : failR k (i, 0) = (i, k) := if_pos rfl
    rw [hf]
    go_enter Tryz.func42, Tryz.ntmps42
    go_wp2
    go_end0
    exact ⟨rfl, h.set2 k, Touch9.set w 2 _⟩
  · have hf : failR k (i, e) = (i, e) := if_neg he
    rw [hf]
    go_enter Tryz.func42, Tryz.ntmps42
    go_wp2
    go_end0
    exact ⟨rfl, h, Touch9.refl w q⟩

set_option maxRecDepth 100000 in
set_option maxHeartbeats 1000000 in
theorem rq_raw {w : World} {q : Nat} {S : ByteArray} {s : Nat × Int} (h : RqAt w q S s) :
    Calls Tryz.prog 93 #[.pointer (some ⟨q, 0, none⟩)] w fun e w' => e = .returned (.int .u64 ((anyR S.data.toList s).1 : Int)) ∧ RqAt w' q S (anyR S.data.toList s).2 ∧ Touch9 w w' q := by
  have c0 := h.c0
  have c1 := h.c1
  have c2 := h.c2
  have f1 := h.f1
  have hle := h.le
  have hbig := h.big
  obtain ⟨i, e⟩ := s
  simp only at c1 c2 hle
  by_cases he : e = 0
  · subst he
    obtain ⟨V, N, K, hg⟩ : ∃ V N K, getNum S.data.toList (i : Int) = (V, N, K) := ⟨_, _, _, rfl⟩
    have hcall : ∀ n, Calls Tryz.prog 135 #[.string S, .int .i64 (i : Int)] (w.drewN n) fun e w'' => e = .returned (.tuple #[.int .u64 (V : Int), .int .i64 N, .int .i64 K]) ∧ w'' = w.drewN n := fun n => by
      have hx := rgetNum_any S (i : Int) (w.drewN n) (by omega)
      rw [hg] at hx
      exact hx.mono fun e w'' hh => ⟨hh.1, hh.2.symm⟩
    by_cases hK : K = 0
    · subst hK
      have hn : N = ((N.toNat : Nat) : Int) ∧ N.toNat ≤ S.size := by
        have := @getNumN_next S.data.toList i
        rw [← getNum_nat, hg] at this
        have := this rfl
        simp only [dat_size9] at this
        omega
      have e1 : Hid (anyR S.data.toList (i, 0) = (V, (N.toNat, 0))) := Lib.hid (by unfold anyR; rw [if_pos rfl, hg]; rfl)
      have HC := Lib.hid hcall
      have HN := Lib.hid hn
      rw [e1.out]
      clear hcall hg hn e1
      go_enter Tryz.func93, Tryz.ntmps93
      go_wp2
      go_quiet (first | (go_at_call 135; go_must (refine Calls.quiet_of_same (HC.out _))))
      go_wp2
      go_ret
      rw [HN.out.1]
      exact ⟨rfl, (h.ext ((Ext.refl w).drewN nq)).set1 _ HN.out.2, (Touch9.refl w q).drewN nq |>.put 1 _⟩
    · have e1 : Hid (anyR S.data.toList (i, 0) = (0, (i, K))) := Lib.hid (by unfold anyR; rw [if_pos rfl, hg, if_neg hK])
      have HC := Lib.hid hcall
      have ef : Hid (failR K (i, 0) = (i, K)) := Lib.hid (if_pos rfl)
      rw [e1.out]
      clear hcall hg e1
      go_enter Tryz.func93, Tryz.ntmps93
      go_wp2
      go_quiet (first | (go_at_call 135; go_must (refine Calls.quiet_of_same (HC.out _))))
      go_wp2_with (go_at_call 42; go_must (refine (rq_wrong K (h.ext ((Ext.refl w).drewN nq))).mono ?_); rintro e w1 ⟨rfl, h1, hT1⟩)
      go_ret
      exact ⟨rfl, by rw [ef.out] at h1; exact h1, ((Touch9.refl w q).drewN nq).trans hT1⟩
  · have e1 : anyR S.data.toList (i, e) = (0, (i, e)) := by unfold anyR; rw [if_neg he]
    rw [e1]
    go_enter Tryz.func93, Tryz.ntmps93
    go_wp2
    go_ret
    exact ⟨rfl, h, Touch9.refl w q⟩

set_option maxHeartbeats 1000000 in
theorem rq_num {w : World} {q : Nat} {S : ByteArray} {s : Nat × Int} (h : RqAt w q S s) :
    Calls Tryz.prog 37 #[.pointer (some ⟨q, 0, none⟩)] w fun e w' => e = .returned (.int .i64 ((numR S.data.toList s).1 : Int)) ∧ RqAt w' q S (numR S.data.toList s).2 ∧ Touch9 w w' q := by
  obtain ⟨V, s1, hV⟩ : ∃ V s1, anyR S.data.toList s = (V, s1) := ⟨_, _, rfl⟩
  have hA := rq_raw h
  rw [hV] at hA
  simp only at hA
  have HA := Lib.hid hA
  have hlt := anyR_lt S.data.toList s
  rw [hV] at hlt
  simp only at hlt
  clear hA
  by_cases hc : V ≤ 1099511627776
  · have e1 : numR S.data.toList s = (V, s1) := by unfold numR; rw [hV]; exact if_pos hc
    rw [e1]
    have d : ¬ (1099511627776 : Int) < (V : Int) := by omega
    clear e1 hV
    go_enter Tryz.func37, Tryz.ntmps37
    go_wp2_with (go_at_call 93; go_must (refine HA.out.mono ?_); rintro e w1 ⟨rfl, h1, hT1⟩)
    go_ret
    exact ⟨ret_int (by omega), h1, hT1⟩
  · have e1 : numR S.data.toList s = (0, failR 6 s1) := by unfold numR; rw [hV]; exact if_neg hc
    rw [e1]
    have d : decide ((1099511627776 : Int) < (V : Int)) = true := decide_eq_true (by omega)
    clear e1 hV
    go_enter Tryz.func37, Tryz.ntmps37
    go_wp2_with (first
      | (go_at_call 93; go_must (refine HA.out.mono ?_); rintro e w1 ⟨rfl, h1, hT1⟩)
      | (go_at_call 42; go_must (refine (rq_wrong 6 h1).mono ?_); rintro e w2 ⟨rfl, h2, hT2⟩))
    go_ret
    exact ⟨rfl, h2, hT1.trans hT2⟩

set_option maxRecDepth 100000 in
set_option maxHeartbeats 2000000 in
theorem rq_count {w : World} {q : Nat} {S : ByteArray} {s : Nat × Int} (h : RqAt w q S s) :
    Calls Tryz.prog 39 #[.pointer (some ⟨q, 0, none⟩)] w fun e w' => e = .returned (.int .i64 ((cntR S.data.toList s).1 : Int)) ∧ RqAt w' q S (cntR S.data.toList s).2 ∧ Touch9 w w' q := by
  obtain ⟨V, i, e, hV⟩ : ∃ V i e, anyR S.data.toList s = (V, i, e) := ⟨_, _, _, rfl⟩
  have hA := rq_raw h
  have hlt := anyR_lt S.data.toList s
  have hle := anyR_le h.len
  have hbig := h.big
  have hez : ¬ e = 0 → V = 0 := fun he => by
    have := hV
    unfold anyR at this
    split at this
    · split at this
      · cases this; exact absurd rfl he
      · cases this; rfl
    · cases this; rfl
  rw [hV] at hA hlt hle
  simp only [dat_size9] at hA hlt hle
  have HA := Lib.hid hA
  clear hA
  obtain ⟨lf, hlf⟩ : ∃ lf, lf = S.size - i := ⟨_, rfl⟩
  have hsub : (S.size : Int) - (i : Int) = (lf : Int) := by omega
  have hw : IntKind.u64.wrap (lf : Int) = (lf : Int) := by rw [IntKind.wrap_u64]; omega
  by_cases hc : V ≤ lf
  · have d : ¬ ((lf : Int) < (V : Int)) := by omega
    have e1 : cntR S.data.toList s = (V, i, e) := by
      unfold cntR
      rw [hV]
      simp only [dat_size9]
      rw [if_pos (by omega)]
      by_cases he : e = 0
      · rw [if_pos he]
      · rw [if_neg he, hez he]
    rw [e1]
    clear e1 hV hlf
    go_enter Tryz.func39, Tryz.ntmps39
    go_wp2_with (go_at_call 93; go_must (refine HA.out.mono ?_); rintro e' w1 ⟨rfl, h1, hT1⟩; have c0 := h1.c0; have c1 : w1.cell? ⟨q, 1, none⟩ = some (.int .i64 (i : Int)) := h1.c1)
    go_quiet (fail)
    go_wp2_with fail
    go_ret
    exact ⟨ret_int (by first | omega | (simp only [wrap64]; omega)), h1.ext ((Ext.refl w1).drewN _), hT1.drewN _⟩
  · have d : decide ((lf : Int) < (V : Int)) = true := decide_eq_true (by omega)
    have e1 : cntR S.data.toList s = (0, failR 8 (i, e)) := by
      unfold cntR
      rw [hV]
      simp only [dat_size9]
      rw [if_neg (by omega)]
    rw [e1]
    clear e1 hV hlf
    go_enter Tryz.func39, Tryz.ntmps39
    go_wp2_with (go_at_call 93; go_must (refine HA.out.mono ?_); rintro e' w1 ⟨rfl, h1, hT1⟩; have c0 := h1.c0; have c1 : w1.cell? ⟨q, 1, none⟩ = some (.int .i64 (i : Int)) := h1.c1)
    go_quiet (fail)
    go_wp2_with (go_at_call 42; go_must (refine (rq_wrong 8 (h1.ext ((Ext.refl w1).drewN _))).mono ?_); rintro e w2 ⟨rfl, h2, hT2⟩)
    go_ret
    exact ⟨rfl, h2, (hT1.drewN _).trans hT2⟩

set_option maxRecDepth 100000 in
set_option maxHeartbeats 2000000 in
theorem rq_text {w : World} {q : Nat} {S : ByteArray} {s : Nat × Int} (h : RqAt w q S s) :
    Calls Tryz.prog 40 #[.pointer (some ⟨q, 0, none⟩)] w fun e w' => e = .returned (.string (txtR S.data.toList s).1) ∧ RqAt w' q S (txtR S.data.toList s).2 ∧ Touch9 w w' q := by
  have hA := rq_count h
  have hle := cntR_le h.len
  have hbig := h.big
  unfold txtR
  obtain ⟨V, i, e, hV⟩ : ∃ V i e, cntR S.data.toList s = (V, i, e) := ⟨_, _, _, rfl⟩
  have hez : ¬ e = 0 → V = 0 := fun he => by
    have := cntR_err (B := S.data.toList) (s := s) (by rw [hV]; exact he)
    rw [hV] at this
    exact this
  rw [hV] at hA hle ⊢
  simp only [dat_size9] at hA hle ⊢
  have HA := Lib.hid hA
  clear hA hV
  by_cases he : e = 0
  · subst he
    have HX : Hid (S.extract i (i + V) = str ((S.data.toList.drop i).take V)) := Lib.hid (extract_dat S i V)
    obtain ⟨j, hj⟩ : ∃ j, j = i + V := ⟨_, rfl⟩
    have hji : (i : Int) + (V : Int) = (j : Int) := by omega
    have hij : i ≤ j := by omega
    have hjs : j ≤ S.size := by omega
    rw [← hj] at HX
    have HJ := Lib.hid hj
    clear hj hez hle
    go_enter Tryz.func40, Tryz.ntmps40
    go_wp2_with (go_at_call 39; go_must (refine HA.out.mono ?_); rintro e' w1 ⟨rfl, h1, hT1⟩; have c0 := h1.c0; have c1 : w1.cell? ⟨q, 1, none⟩ = some (.int .i64 (i : Int)) := h1.c1; have c2 : w1.cell? ⟨q, 2, none⟩ = some (.int .i64 0) := h1.c2; have f1 := h1.f1)
    go_quiet (fail)
    go_wp2_with fail
    go_ret
    rw [HX.out, ← HJ.out]
    exact ⟨rfl, (h1.ext ((Ext.refl w1).drewN _)).set1 j hjs, (hT1.drewN _).put 1 _⟩
  · obtain rfl : V = 0 := hez he
    go_enter Tryz.func40, Tryz.ntmps40
    go_wp2_with (go_at_call 39; go_must (refine HA.out.mono ?_); rintro e' w1 ⟨rfl, h1, hT1⟩; have c2 : w1.cell? ⟨q, 2, none⟩ = some (.int .i64 e) := h1.c2)
    go_ret
    exact ⟨rfl, h1, hT1⟩
end Go.Proofs.YtfagnbofnaoncaaGreatDoor
