/- clerestoryref21.Get. -/
import Derived.Test.YtfagnbofnaoncaaGreatDoorP18
import Derived.Test.YtfagnbofnaoncaaGreatDoorP21
import Derived.Test.YtfagnbofnaoncaaGreatDoorP23
import Derived.Test.YtfagnbofnaoncaaGreatDoorP24
import Derived.Test.YtfagnbofnaoncaaGreatDoorP17
import Derived.Test.YtfagnbofnaoncaaGreatDoorP7
set_option linter.unusedSimpArgs false
set_option linter.unusedVariables false
namespace Go.Proofs.YtfagnbofnaoncaaGreatDoor
open Go Go.RowKit
attribute [local go_sem] yields yUpon

/-- A message that is read, and the reference's reader. -/
structure RgAt (w0 w : World) (q p : Nat) (S : ByteArray) (s : Nat × Int) (m : Hd) (vm vk : Value) (ms : List Mt) (ks : List ByteArray) : Prop where
  rd : RqAt w q S s
  box : BoxAt w p (hd7 m vm vk) 25
  ne : q ≠ p
  mt : TIn w 106 vm ms.length (mtCells ms)
  rows : ∀ m ∈ ms, RowsT w m.pa.rv m.pa.ps
  ks : TIn w 9 vk ks.length (ks.map .string)
  ext : Touch2 w0 w q p
section
variable {w0 w w' : World} {q p : Nat} {S : ByteArray} {s s' : Nat × Int} {m : Hd} {vm vk : Value} {ms : List Mt} {ks : List ByteArray}
theorem RgAt.more (h : RgAt w0 w q p S s m vm vk ms ks) (hE : Ext w w') : RgAt w0 w' q p S s m vm vk ms ks :=
  ⟨h.rd.ext hE, h.box.ext hE, h.ne, h.mt.ext hE, fun m hm => (h.rows m hm).ext hE, h.ks.ext hE, h.ext.more hE⟩
/-- The reader has turned. -/
theorem RgAt.turn (h : RgAt w0 w q p S s m vm vk ms ks) (hT : Touch9 w w' q) (h1 : RqAt w' q S s') : RgAt w0 w' q p S s' m vm vk ms ks :=
  ⟨h1, hT.box h.box h.ne.symm, h.ne, h.mt.touch9 hT h.rd.box (by decide), fun m hm => (h.rows m hm).touch9 hT h.rd.box (by decide) (by decide), h.ks.touch9 hT h.rd.box (by decide), h.ext.turn hT⟩
/-- A cell of the message is stored. -/
theorem RgAt.put (h : RgAt w0 w q p S s m vm vk ms ks) (i : Nat) (u : Value) {m' : Hd} {vm' vk' : Value} {ms' : List Mt} {ks' : List ByteArray} (hbx : BoxAt (w.setCell ⟨p, i, none⟩ u) p (hd7 m' vm' vk') 25) (hmt : TIn w 106 vm' ms'.length (mtCells ms')) (hrw : ∀ m ∈ ms', RowsT w m.pa.rv m.pa.ps) (hks : TIn w 9 vk' ks'.length (ks'.map .string)) : RgAt w0 (w.setCell ⟨p, i, none⟩ u) q p S s m' vm' vk' ms' ks' :=
  ⟨⟨h.rd.box.other h.ne i u, h.rd.le, h.rd.big⟩, hbx, h.ne, TIn.set i u h.box (by decide) hmt, fun m hm => RowsT.set i u h.box (by decide) (by decide) (hrw m hm), TIn.set i u h.box (by decide) hks, h.ext.put i u⟩
end

theorem RgAt.mk2 {w0 w : World} {q p : Nat} {S : ByteArray} {s : Nat × Int} {m : Hd} {vm vk : Value} {ms : List Mt} {ks : List ByteArray} {cs : Array Value} (rd : RqAt w q S s) (ne : q ≠ p) (ext : Touch2 w0 w q p) (hb : BoxAt w p cs 25) (i : Nat) (u : Value) (hbx : cs.setIfInBounds i u = hd7 m vm vk) (hmt : TIn w 106 vm ms.length (mtCells ms)) (hrw : ∀ m ∈ ms, RowsT w m.pa.rv m.pa.ps) (hks : TIn w 9 vk ks.length (ks.map .string)) : RgAt w0 (w.setCell ⟨p, i, none⟩ u) q p S s m vm vk ms ks :=
  ⟨⟨rd.box.other ne i u, rd.le, rd.big⟩, by rw [← hbx]; exact hb.set i u, ne, TIn.set i u hb (by decide) hmt, fun m hm => RowsT.set i u hb (by decide) (by decide) (hrw m hm), TIn.set i u hb (by decide) hks, ext.put i u⟩

set_option maxRecDepth 100000 in
set_option maxHeartbeats 16000000 in
theorem rget21 (S : ByteArray) (w : World) (hS : S.size ≤ 4096) :
    Calls Tryz.prog 10 #[.string S] w fun e w' => ∃ vm vk ms, e = .returned (.tuple #[.agg (hd7 (grMg S.data.toList).hd vm vk), .int .i64 (grErr S.data.toList)]) ∧ GotW w' vm vk ms (grMg S.data.toList) ∧ Ext w w' := by
  have hE0 := (Ext.refl w).alloc (.cells #[.int .i64 0, .int .i64 0, .int .i64 0, .int .i64 0, .slice none 0 0, .slice none 0 0, .int .i64 0] 25)
  have b2 := BoxAt.made w #[.int .i64 0, .int .i64 0, .int .i64 0, .int .i64 0, .slice none 0 0, .slice none 0 0, .int .i64 0] 25
  have hd : ¬ (4096 : Int) < (S.size : Int) := by omega
  obtain ⟨B, hB⟩ : ∃ B, B = S.data.toList := ⟨_, rfl⟩
  have hBl : B.length = S.size := by rw [hB, dat_size]
  have HB := far hB
  rw [← hB]
  clear hB
  obtain ⟨K0, s0, hk0⟩ : ∃ K s, numR B (0, 0) = (K, s) := ⟨_, _, rfl⟩
  obtain ⟨K1, s1, hk1⟩ : ∃ K s, numR B s0 = (K, s) := ⟨_, _, rfl⟩
  obtain ⟨K2, s2, hk2⟩ : ∃ K s, numR B s1 = (K, s) := ⟨_, _, rfl⟩
  obtain ⟨K3, s3, hk3⟩ : ∃ K s, numR B s2 = (K, s) := ⟨_, _, rfl⟩
  obtain ⟨K4, s4, hk4⟩ : ∃ K s, numR B s3 = (K, s) := ⟨_, _, rfl⟩
  obtain ⟨ML, s5, hk5⟩ : ∃ K s, listR B (mutR B) s4 = (K, s) := ⟨_, _, rfl⟩
  obtain ⟨N, s6, hk6⟩ : ∃ K s, cntR B s5 = (K, s) := ⟨_, _, rfl⟩
  obtain ⟨KL, s7, hk7⟩ : ∃ K s, manyR (txtR B) N s6 = (K, s) := ⟨_, _, rfl⟩
  have HMSG : Far (msgG mutR B (0, 0) = (⟨⟨(K0 : Int), (K1 : Int), (K2 : Int), (K3 : Int), (K4 : Int)⟩, ML, KL⟩, s7)) := far (by
    unfold msgG
    simp only [seqR, pureR, listF]
    rw [hk0]; simp only
    rw [hk1]; simp only
    rw [hk2]; simp only
    rw [hk3]; simp only
    rw [hk4]; simp only
    rw [hk5]; simp only
    unfold listR
    rw [hk6]; simp only
    rw [hk7])
  have H0 := far hk0
  have H1 := far hk1
  have H2 := far hk2
  have H3 := far hk3
  have H4 := far hk4
  have H5 := far hk5
  have H6 := far hk6
  have H7 := far hk7
  have hbn := cntR_big (B := B) (s := s5)
  rw [hk6] at hbn
  simp only at hbn
  clear hk0 hk1 hk2 hk3 hk4 hk5 hk6 hk7
  go_enter Tryz.func10, Tryz.ntmps10
  go_wp2_with fail
  obtain ⟨q, hq⟩ : ∃ q, q = w.heap.size + 1 := ⟨_, rfl⟩
  have hz1 : (w.alloc (.cells #[.int .i64 0, .int .i64 0, .int .i64 0, .int .i64 0, .slice none 0 0, .slice none 0 0, .int .i64 0] 25)).heap.size = w.heap.size + 1 := by simp
  have hE1 := hE0.alloc (.cells #[.string S, .int .i64 0, .int .i64 0] 96)
  have rq1 : RqAt ((w.alloc (.cells #[.int .i64 0, .int .i64 0, .int .i64 0, .int .i64 0, .slice none 0 0, .slice none 0 0, .int .i64 0] 25)).alloc (.cells #[.string S, .int .i64 0, .int .i64 0] 96)) q S (0, 0) := ⟨by rw [hq]; exact BoxAt.madeN _ _ hz1, Nat.zero_le _, by omega⟩
  have b21 := b2.ext ((Ext.refl _).alloc (.cells #[.string S, .int .i64 0, .int .i64 0] 96))
  have hqw : w.heap.size < q := by omega
  rw [← hq]
  clear hq hz1 hE0 b2
  generalize World.alloc (World.alloc w _) _ = w1 at hE1 rq1 b21 ⊢
  have hq2 : w.heap.size ≠ q := by omega
  refine (rq_num rq1).mono ?_
  rintro e w2 ⟨rfl, r2, T2⟩
  rw [← HB.out, H0.out] at r2
  rw [← HB.out, H0.out]
  simp only at r2 ⊢
  go_wp2_with fail
  refine (rq_num r2).mono ?_
  rintro e w3 ⟨rfl, r3, T3⟩
  rw [← HB.out, H1.out] at r3
  rw [← HB.out, H1.out]
  simp only at r3 ⊢
  go_wp2_with fail
  refine (rq_num r3).mono ?_
  rintro e w4 ⟨rfl, r4, T4⟩
  rw [← HB.out, H2.out] at r4
  rw [← HB.out, H2.out]
  simp only at r4 ⊢
  go_wp2_with fail
  refine (rq_num r4).mono ?_
  rintro e w5 ⟨rfl, r5, T5⟩
  rw [← HB.out, H3.out] at r5
  rw [← HB.out, H3.out]
  simp only at r5 ⊢
  go_wp2_with fail
  refine (rq_num r5).mono ?_
  rintro e w6 ⟨rfl, r6, T6⟩
  rw [← HB.out, H4.out] at r6
  rw [← HB.out, H4.out]
  simp only at r6 ⊢
  have T16 := (((T2.trans T3).trans T4).trans T5).trans T6
  have b26 := T16.box b21 hq2
  have hE6 : Ext w w6 := T16.ext hE1 (by omega)
  have hw6 : w.heap.size < w6.heap.size := b26.lt
  clear T2 T3 T4 T5 T6 T16 r2 r3 r4 r5 rq1 b21 hE1 H0 H1 H2 H3 H4
  go_wp2_with fail
  have hE67 := (Ext.refl w6).alloc (.cells #[.int .i64 (K0 : Int), .int .i64 (K1 : Int), .int .i64 (K2 : Int), .int .i64 (K3 : Int), .slice none 0 0, .slice none 0 0, .int .i64 (K4 : Int)] 25)
  have bm := BoxAt.made w6 #[.int .i64 (K0 : Int), .int .i64 (K1 : Int), .int .i64 (K2 : Int), .int .i64 (K3 : Int), .slice none 0 0, .slice none 0 0, .int .i64 (K4 : Int)] 25
  have r7 := r6.ext hE67
  have b27x := b26.ext hE67
  have hlq := r6.lt
  obtain ⟨p, hp⟩ : ∃ p, p = w6.heap.size := ⟨_, rfl⟩
  rw [← hp] at bm hlq hw6
  rw [← hp]
  have hE7 := hE6.trans hE67
  clear hp r6 b26 hE6 hE67
  generalize World.alloc w6 _ = w7 at bm r7 b27x hE7 ⊢
  have hqp : q ≠ p := by omega
  have hwp : w.heap.size ≠ p := by omega
  have M7 : RgAt w7 w7 q p S s4 ⟨(K0 : Int), (K1 : Int), (K2 : Int), (K3 : Int), (K4 : Int)⟩ (.slice none 0 0) (.slice none 0 0) [] [] := ⟨r7, bm, hqp, TIn.nil _ _, nofun, TIn.nil _ _, Touch2.refl _ _ _⟩
  clear bm r7
  refine (rq_muts M7.rd).mono ?_
  rintro e w8 ⟨um, ms, rfl, hom, hrm, hmq, r8, T8⟩
  rw [← HB.out, H5.out] at hmq r8
  simp only at hmq r8
  obtain ⟨am, cm, rfl⟩ := own_shape (id hom)
  have M8 := M7.turn T8 r8
  have HMQ := far hmq
  clear hmq r8 T8 M7
  have y4 : w8.cell? ⟨p, 4, none⟩ = some (.slice none 0 0) := M8.box.cell 4
  have yf := M8.box.free 4
  go_wp2_with fail
  have M9 := M8.put 4 (.slice am ms.length cm) (m' := ⟨(K0 : Int), (K1 : Int), (K2 : Int), (K3 : Int), (K4 : Int)⟩) (vm' := .slice am ms.length cm) (vk' := .slice none 0 0) (M8.box.set 4 _) (TIn.own hom) hrm M8.ks
  clear M8 y4 yf hom hrm
  generalize World.setCell w8 _ _ = w9 at M9 ⊢
  refine (rq_count M9.rd).mono ?_
  rintro e w10 ⟨rfl, r10, T10⟩
  rw [← HB.out, H6.out] at r10
  rw [← HB.out, H6.out]
  simp only at r10 ⊢
  have hNb : N ≤ 900000 := by have := hbn (by have := M9.rd.le; omega) (by omega); omega
  have M10 := M9.turn T10 r10
  obtain ⟨mn, hmn⟩ : ∃ n, n = ms.length := ⟨_, rfl⟩
  have HMN := Lib.hid hmn
  clear r10 T10 M9 hbn H5 H6
  obtain ⟨S0, hS0⟩ : ∃ n, n = w10.heap.size := ⟨_, rfl⟩
  have hqS : q < S0 := by rw [hS0]; exact M10.rd.lt
  have hpS : p < S0 := by rw [hS0]; exact M10.box.lt
  have h7S : w7.heap.size ≤ S0 := by rw [hS0]; exact M10.ext.size
  have hsz0 : S0 ≤ w10.heap.size := by omega
  clear hS0 hmn
  go_wp2_with fail
  go_loopw [7] (fun n wr => ∃ (j kk : Nat) (D : List ByteArray) (vo : Value) (t : Nat × Int), j + kk = N ∧ n = .int .i64 (j : Int) ∧ D.length ≤ j ∧ RgAt w7 wr q p S t ⟨(K0 : Int), (K1 : Int), (K2 : Int), (K3 : Int), (K4 : Int)⟩ (.slice am ms.length cm) vo ms D ∧ wr.ownsRow S0 9 1 vo D.length (D.map .string) ∧ S0 ≤ wr.heap.size ∧ Far ((KL, s7) = (D ++ (manyR (txtR B) kk t).1, (manyR (txtR B) kk t).2))) (fun n _ => N - (intOf n).toNat)
  case atStart => exact ⟨0, N, [], _, s6, by omega, rfl, Nat.le_refl _, M10, World.ownsRow_nil _ _ _ _, hsz0, far (by rw [H7.out]; rfl)⟩
  case round =>
    clear M10 hsz0
    obtain ⟨j, kk, D, vo, ⟨i, e⟩, hjk, rfl, hDj, M, hown, hsz, HX⟩ := hrel
    obtain ⟨ua, uc, rfl⟩ := own_shape (id hown)
    have c2 : wr.cell? ⟨q, 2, none⟩ = some (.int .i64 e) := M.rd.c2
    by_cases hgo : j < N ∧ e = 0
    · obtain ⟨hjN, rfl⟩ := hgo
      obtain ⟨kk, rfl⟩ : ∃ k', kk = k' + 1 := ⟨kk - 1, by omega⟩
      obtain ⟨T, t2, hT⟩ : ∃ T t2, txtR B (i, 0) = (T, t2) := ⟨_, _, rfl⟩
      have HT := far hT
      clear hT
      have hM2 := M.more (Ext.refl wr).drew
      have hown2 := ownsRow_ext hown (Ext.refl wr).drew
      have hszd : S0 ≤ wr.drew.heap.size := Nat.le_trans hsz (Ext.refl wr).drew.le
      have y5 : wr.drew.cell? ⟨p, 5, none⟩ = some (.slice ua D.length uc) := hM2.box.cell 5
      have t1 : decide ((j : Int) < (N : Int)) = true := decide_eq_true (by omega)
      clear M hown hsz
      obtain ⟨i0, hi, hz0, hz1, hz2⟩ := info_parts info_strW
      go_wp2_with fail
      go_region_law (first
        | (go_simp; go_at_call 40; go_must (refine (rq_text hM2.rd).mono ?_); rintro e' w5 ⟨rfl, h5, hT5⟩; rw [← HB.out, HT.out] at h5; simp only at h5; rw [← HB.out, HT.out]; have M5 := hM2.turn hT5 h5; have hown5 := hT5.owns hown2 (by omega); have hsz5 := Nat.le_trans hszd hT5.size; have y5 : w5.cell? ⟨p, 5, none⟩ = some (.slice ua D.length uc) := M5.box.cell 5; have y5a : ∀ o, (w5.alloc o).cell? ⟨p, 5, none⟩ = some (.slice ua D.length uc) := fun o => M5.box.allocs o 5)
        | (refine step_append_lies (w5.alloc (.cells #[.string T] 9)) rfl (.tmp 44) (.tmp 47) 23 rfl S0 9 i0 _ 1 16 und_strsW hi hz0 hz1 hz2 rfl (by decide) (.slice ua D.length uc) D.length (D.map .string) (by simp [Act.eval, Act.put]) (hown5.alloc _) ⟨w5.heap.size, 0, none⟩ 1 1 [.string T] (by simp [Act.eval, Act.put]) rfl (fun j u hj => by rw [Addr.add_lit, Nat.zero_add, (BoxAt.made w5 #[.string T] 9).cell j]; simpa using hj) (by simp [Value.oneCell']) (by omega) (by unfold maxLen; omega) (by omega) (by simp; omega) _ rfl ?_; intro g6 n6 w6 hown6 hg6 _ _; have m6 := (M5.box.ext ((Ext.refl w5).alloc _)).grown hg6 (fun e => by have := (hown5.lt _ e.symm).1; omega); have y5 : w6.cell? ⟨p, 5, none⟩ = some (.slice ua D.length uc) := m6.cell 5; have f5 := m6.free 5))
      all_goals
        have hE5 := (Ext.refl w5).alloc (.cells #[.string T] 9)
        have hlow : ∀ k, (Value.slice ua D.length uc).ownBlock = some k → S0 ≤ k := fun k hk => (hown5.lt k hk).1
        have r6 : RqAt w6 q S t2 := ⟨(h5.box.ext hE5).grown hg6 (fun e => by have := hlow _ e.symm; omega), h5.le, h5.big⟩
        have X6 := (M5.ext.more hE5).grown hg6 (fun k hk => Nat.le_trans h7S (hlow k hk))
        have mt6 := TIn.keepOwn (ownsRow_ext hown5 hE5) hg6 (by decide) (M5.mt.ext hE5)
        have rw6 : ∀ m ∈ ms, RowsT w6 m.pa.rv m.pa.ps := fun m hm => RowsT.keepOwn (ownsRow_ext hown5 hE5) hg6 (by decide) (by decide) ((M5.rows m hm).ext hE5)
        have hown7 : w6.ownsRow S0 9 1 (.slice (some ⟨g6, 0, none⟩) (D.length + 1) n6) (D ++ [T]).length ((D ++ [T]).map .string) := by
          rw [List.length_append, List.map_append]; exact hown6
        have M6 := RgAt.mk2 r6 M5.ne X6 m6 5 (.slice (some ⟨g6, 0, none⟩) (D.length + 1) n6) (m := ⟨(K0 : Int), (K1 : Int), (K2 : Int), (K3 : Int), (K4 : Int)⟩) (vm := .slice am ms.length cm) (vk := .slice (some ⟨g6, 0, none⟩) (D.length + 1) n6) (by simp [hd7]) mt6 rw6 (TIn.own hown7)
        have HX2 : Far ((KL, s7) = (D ++ [T] ++ (manyR (txtR B) kk t2).1, (manyR (txtR B) kk t2).2)) := far (by
          rw [HX.out, manyR_step _ _ _ rfl, HT.out]
          simp only [List.append_assoc, List.singleton_append])
        have hsz6 : S0 ≤ w6.heap.size := Nat.le_trans hsz5 (Nat.le_trans hE5.le hg6.size)
        go_wp2_with fail
        go_roundw
        case rel => exact ⟨j + 1, kk, D ++ [T], _, t2, by omega, by go_num, by simp; omega, M6, ownsRow_setCell_below hown7 (a := ⟨p, 5, none⟩) (by show p < S0; omega) _, by simpa [Deep.nblk_setCell] using hsz6, HX2⟩
        case measure => simp [intOf] <;> omega
    · have e0 : Far ((KL, s7) = (D, (i, e))) := far (by
        rw [HX.out, manyR_stop _ _ _ (by
          rcases Nat.lt_or_ge j N with h1 | h1
          · exact .inr (fun he => hgo ⟨h1, he⟩)
          · exact .inl (by omega))]
        simp only [List.append_nil])
      clear HX
      have eD : KL = D := (Prod.mk.inj e0.out).1
      have es : s7 = (i, e) := (Prod.mk.inj e0.out).2
      clear e0
      subst eD es
      have hkk2 : (j < N ∧ ¬ e = 0) ∨ j = N := by
        rcases Nat.lt_or_ge j N with h1 | h1
        · exact .inl ⟨h1, fun he => hgo ⟨h1, he⟩⟩
        · exact .inr (by omega)
      clear hgo hown
      have HTAIL : Far (∃ e1, endR B (i, e) = (i, e1)) := far (by
        unfold endR failR
        repeat' split
        all_goals exact ⟨_, rfl⟩)
      obtain ⟨e1, he1⟩ := HTAIL.out
      have HGW : Far (grR B = (⟨⟨(K0 : Int), (K1 : Int), (K2 : Int), (K3 : Int), (K4 : Int)⟩, ML, KL⟩, (i, e1))) := far (by unfold grR; rw [HMSG.out]; simp only; rw [he1])
      have HEN := far he1
      have hlow := msgRr_low B
      rw [HMSG.out] at hlow
      simp only at hlow
      have hBl4 : B.length ≤ 4096 := by omega
      have hMb : ∀ x ∈ ms, x.table.size ≤ 1000000 ∧ ∀ p ∈ x.pa.ps, ∀ c ∈ p.1.cols, c.name.size ≤ 1000000 := fun x hx => by
        have h1 := hlow.1 x.q (by rw [← HMQ.out]; exact List.mem_map_of_mem hx)
        exact ⟨Nat.le_trans h1.1 (by omega), fun p hp c hc => Nat.le_trans (h1.2 p.1 (List.mem_map_of_mem (f := (·.1)) hp) c hc) (by omega)⟩
      have hKb : ∀ s ∈ KL, s.size ≤ 1000000 := fun s hs => Nat.le_trans (hlow.2 s hs) (by omega)
      have HMB := far hMb
      have HKB := far hKb
      have HBQ : Far (msB ⟨(K0 : Int), (K1 : Int), (K2 : Int), (K3 : Int), (K4 : Int)⟩ ms KL = msQ ⟨⟨(K0 : Int), (K1 : Int), (K2 : Int), (K3 : Int), (K4 : Int)⟩, ML, KL⟩) := far (by rw [msB_q, HMQ.out])
      obtain ⟨kn, hkn⟩ : ∃ n, n = KL.length := ⟨_, rfl⟩
      have HKN := Lib.hid hkn
      clear he1 HTAIL hlow hMb hKb HMSG H7 hkn
      rcases hkk2 with ⟨h1, h2⟩ | h1
      · have d0 : (e == 0) = false := by simpa using h2
        have t1 : decide ((j : Int) < (N : Int)) = true := decide_eq_true (by omega)
        go_wp2_with fail
        refine (rq_end M.rd).mono ?_
        rintro e' w11 ⟨rfl, r11, T11⟩
        rw [← HB.out, HEN.out] at r11
        have M11 := M.turn T11 r11
        have hX11 : Ext w w11 := M11.ext.ext hE7 (by omega) (by omega)
        have b211 := M11.ext.box b27x (show w.heap.size ≠ q by omega) (show w.heap.size ≠ p by omega)
        have k6 := rcheck21 ⟨(K0 : Int), (K1 : Int), (K2 : Int), (K3 : Int), (K4 : Int)⟩ _ _ ms KL w11 ⟨M11.mt.slice, fun m hm => (M11.rows m hm).rows⟩ M11.ks.slice HMB.out HKB.out
        have hGot : GotT w11 (.slice am ms.length cm) (.slice ua KL.length uc) ms KL := ⟨M11.mt, M11.rows, M11.ks⟩
        have hbx := M11.box
        have c2 : w11.cell? ⟨q, 2, none⟩ = some (.int .i64 e1) := M11.rd.c2
        unfold hd7 at k6 hbx
        simp only at k6 hbx
        rw [← HKN.out, ← HMN.out] at k6 hbx hGot
        have HGOT := far hGot
        have HR11 := far M11.rd
        clear hGot M T11 r11 M11
        by_cases he : e1 = 0
        · subst he
          cases hq : msB ⟨(K0 : Int), (K1 : Int), (K2 : Int), (K3 : Int), (K4 : Int)⟩ ms KL
          · have HER : Far (grErr B = 1) := far (by unfold grErr; rw [HGW.out]; simp [← HBQ.out, hq])
            have HBT : Far (grMg B = mg0) := far (gr_none (by rw [HER.out]; decide))
            rw [hq] at k6
            have K6 := far k6
            clear k6 hq HBQ HGW
            have z0 : w11.cell? ⟨p, 0, none⟩ = some (.int .i64 (K0 : Int)) := hbx.cell 0
            have z1 : w11.cell? ⟨p, 1, none⟩ = some (.int .i64 (K1 : Int)) := hbx.cell 1
            have z2 : w11.cell? ⟨p, 2, none⟩ = some (.int .i64 (K2 : Int)) := hbx.cell 2
            have z3 : w11.cell? ⟨p, 3, none⟩ = some (.int .i64 (K3 : Int)) := hbx.cell 3
            have z4 : w11.cell? ⟨p, 4, none⟩ = some (.slice am mn cm) := hbx.cell 4
            have z5 : w11.cell? ⟨p, 5, none⟩ = some (.slice ua kn uc) := hbx.cell 5
            have z6 : w11.cell? ⟨p, 6, none⟩ = some (.int .i64 (K4 : Int)) := hbx.cell 6
            go_upto_region 15 with (first
              | (go_at_call 13; go_must (refine K6.out.mono ?_); rintro e7 w12 ⟨rfl, hE12⟩)
              | (go_at_call 42; go_must (refine (rq_wrong 1 (HR11.out.ext hE12)).mono ?_); rintro e7 w13 ⟨rfl, h13, hT13⟩; rw [show failR 1 (i, (0 : Int)) = (i, 1) from if_pos rfl] at h13; have c2 : w13.cell? ⟨q, 2, none⟩ = some (.int .i64 1) := h13.c2; have b213 := hT13.box (b211.ext hE12) (show w.heap.size ≠ q by omega); have hE13 : Ext w w13 := hT13.ext (hX11.trans hE12) (by omega)))
            have x0 : w13.cell? ⟨w.heap.size, 0, none⟩ = some (.int .i64 0) := b213.cell 0
            have x1 : w13.cell? ⟨w.heap.size, 1, none⟩ = some (.int .i64 0) := b213.cell 1
            have x2 : w13.cell? ⟨w.heap.size, 2, none⟩ = some (.int .i64 0) := b213.cell 2
            have x3 : w13.cell? ⟨w.heap.size, 3, none⟩ = some (.int .i64 0) := b213.cell 3
            have x4 : w13.cell? ⟨w.heap.size, 4, none⟩ = some (.slice none 0 0) := b213.cell 4
            have x5 : w13.cell? ⟨w.heap.size, 5, none⟩ = some (.slice none 0 0) := b213.cell 5
            have x6 : w13.cell? ⟨w.heap.size, 6, none⟩ = some (.int .i64 0) := b213.cell 6
            have xf := b213.free
            go_region
            have b8 := (((((((b213.set 0 (.int .i64 0)).set 1 (.int .i64 0)).set 2 (.int .i64 0)).set 3 (.int .i64 0)).set 4 (.slice none 0 0)).set 5 (.slice none 0 0)).set 6 (.int .i64 0)).ext (Ext.refl _).drew
            have hE8 := (((((((hE13.setCell (p := ⟨w.heap.size, 0, none⟩) (Nat.le_refl _) (.int .i64 0)).setCell (p := ⟨w.heap.size, 1, none⟩) (Nat.le_refl _) (.int .i64 0)).setCell (p := ⟨w.heap.size, 2, none⟩) (Nat.le_refl _) (.int .i64 0)).setCell (p := ⟨w.heap.size, 3, none⟩) (Nat.le_refl _) (.int .i64 0)).setCell (p := ⟨w.heap.size, 4, none⟩) (Nat.le_refl _) (.slice none 0 0)).setCell (p := ⟨w.heap.size, 5, none⟩) (Nat.le_refl _) (.slice none 0 0)).setCell (p := ⟨w.heap.size, 6, none⟩) (Nat.le_refl _) (.int .i64 0)).drew
            generalize World.drew _ = w9 at b8 hE8 ⊢
            replace b8 : BoxAt w9 w.heap.size #[.int .i64 0, .int .i64 0, .int .i64 0, .int .i64 0, .slice none 0 0, .slice none 0 0, .int .i64 0] 25 := b8
            go_wp2
            refine bodyPost_ret (v := .tuple #[.agg #[.int .i64 0, .int .i64 0, .int .i64 0, .int .i64 0, .slice none 0 0, .slice none 0 0, .int .i64 0], .int .i64 1]) ?_ rfl ⟨_, _, [], by rw [HER.out, HBT.out]; rfl, by rw [HBT.out]; exact GotW.none w9, hE8⟩
            have y0 := b8.cell 0
            have y1 := b8.cell 1
            have y2 := b8.cell 2
            have y3 := b8.cell 3
            have y4 := b8.cell 4
            have y5 := b8.cell 5
            have y6 := b8.cell 6
            simp at y0 y1 y2 y3 y4 y5 y6
            simp [results, Tryz.results10, go_sem, y0, y1, y2, y3, y4, y5, y6]
          · have HER : Far (grErr B = 0) := far (by unfold grErr; rw [HGW.out]; simp [← HBQ.out, hq])
            have HBT : Far (grMg B = ⟨⟨(K0 : Int), (K1 : Int), (K2 : Int), (K3 : Int), (K4 : Int)⟩, ML, KL⟩) := far (by unfold grMg; rw [HER.out, if_pos rfl, HGW.out])
            rw [hq] at k6
            have K6 := far k6
            clear k6 hq HBQ HGW
            have z0 : w11.cell? ⟨p, 0, none⟩ = some (.int .i64 (K0 : Int)) := hbx.cell 0
            have z1 : w11.cell? ⟨p, 1, none⟩ = some (.int .i64 (K1 : Int)) := hbx.cell 1
            have z2 : w11.cell? ⟨p, 2, none⟩ = some (.int .i64 (K2 : Int)) := hbx.cell 2
            have z3 : w11.cell? ⟨p, 3, none⟩ = some (.int .i64 (K3 : Int)) := hbx.cell 3
            have z4 : w11.cell? ⟨p, 4, none⟩ = some (.slice am mn cm) := hbx.cell 4
            have z5 : w11.cell? ⟨p, 5, none⟩ = some (.slice ua kn uc) := hbx.cell 5
            have z6 : w11.cell? ⟨p, 6, none⟩ = some (.int .i64 (K4 : Int)) := hbx.cell 6
            go_wp2_with (go_at_call 13; go_must (refine K6.out.mono ?_); rintro e7 w12 ⟨rfl, hE12⟩; have c2 : w12.cell? ⟨q, 2, none⟩ = some (.int .i64 0) := (HR11.out.ext hE12).c2; have hb12 := hbx.ext hE12; have b212 := b211.ext hE12; have hX12 := hX11.trans hE12; have z0 : w12.cell? ⟨p, 0, none⟩ = some (.int .i64 (K0 : Int)) := hb12.cell 0; have z1 : w12.cell? ⟨p, 1, none⟩ = some (.int .i64 (K1 : Int)) := hb12.cell 1; have z2 : w12.cell? ⟨p, 2, none⟩ = some (.int .i64 (K2 : Int)) := hb12.cell 2; have z3 : w12.cell? ⟨p, 3, none⟩ = some (.int .i64 (K3 : Int)) := hb12.cell 3; have z4 : w12.cell? ⟨p, 4, none⟩ = some (.slice am mn cm) := hb12.cell 4; have z5 : w12.cell? ⟨p, 5, none⟩ = some (.slice ua kn uc) := hb12.cell 5; have z6 : w12.cell? ⟨p, 6, none⟩ = some (.int .i64 (K4 : Int)) := hb12.cell 6; have x0 : w12.cell? ⟨w.heap.size, 0, none⟩ = some (.int .i64 0) := b212.cell 0; have x1 : w12.cell? ⟨w.heap.size, 1, none⟩ = some (.int .i64 0) := b212.cell 1; have x2 : w12.cell? ⟨w.heap.size, 2, none⟩ = some (.int .i64 0) := b212.cell 2; have x3 : w12.cell? ⟨w.heap.size, 3, none⟩ = some (.int .i64 0) := b212.cell 3; have x4 : w12.cell? ⟨w.heap.size, 4, none⟩ = some (.slice none 0 0) := b212.cell 4; have x5 : w12.cell? ⟨w.heap.size, 5, none⟩ = some (.slice none 0 0) := b212.cell 5; have x6 : w12.cell? ⟨w.heap.size, 6, none⟩ = some (.int .i64 0) := b212.cell 6; have xf := b212.free)
            have G7 := HGOT.out.ext hE12
            have G70 := G7.set 0 (.int .i64 (K0 : Int)) b212
            have b70 := b212.set 0 (.int .i64 (K0 : Int))
            have E70 := hX12.setCell (p := ⟨w.heap.size, 0, none⟩) (Nat.le_refl _) (.int .i64 (K0 : Int))
            have G71 := G70.set 1 (.int .i64 (K1 : Int)) b70
            have b71 := b70.set 1 (.int .i64 (K1 : Int))
            have E71 := E70.setCell (p := ⟨w.heap.size, 1, none⟩) (Nat.le_refl _) (.int .i64 (K1 : Int))
            have G72 := G71.set 2 (.int .i64 (K2 : Int)) b71
            have b72 := b71.set 2 (.int .i64 (K2 : Int))
            have E72 := E71.setCell (p := ⟨w.heap.size, 2, none⟩) (Nat.le_refl _) (.int .i64 (K2 : Int))
            have G73 := G72.set 3 (.int .i64 (K3 : Int)) b72
            have b73 := b72.set 3 (.int .i64 (K3 : Int))
            have E73 := E72.setCell (p := ⟨w.heap.size, 3, none⟩) (Nat.le_refl _) (.int .i64 (K3 : Int))
            have G74 := G73.set 4 (.slice am mn cm) b73
            have b74 := b73.set 4 (.slice am mn cm)
            have E74 := E73.setCell (p := ⟨w.heap.size, 4, none⟩) (Nat.le_refl _) (.slice am mn cm)
            have G75 := G74.set 5 (.slice ua kn uc) b74
            have b75 := b74.set 5 (.slice ua kn uc)
            have E75 := E74.setCell (p := ⟨w.heap.size, 5, none⟩) (Nat.le_refl _) (.slice ua kn uc)
            have G76 := G75.set 6 (.int .i64 (K4 : Int)) b75
            have b76 := b75.set 6 (.int .i64 (K4 : Int))
            have E76 := E75.setCell (p := ⟨w.heap.size, 6, none⟩) (Nat.le_refl _) (.int .i64 (K4 : Int))
            clear G70 G71 G72 G73 G74 G75 b70 b71 b72 b73 b74 b75 E70 E71 E72 E73 E74 E75
            generalize World.setCell (World.setCell (World.setCell (World.setCell (World.setCell (World.setCell (World.setCell w12 _ _) _ _) _ _) _ _) _ _) _ _) _ _ = w9 at b76 E76 G76 ⊢
            replace b76 : BoxAt w9 w.heap.size #[.int .i64 (K0 : Int), .int .i64 (K1 : Int), .int .i64 (K2 : Int), .int .i64 (K3 : Int), .slice am mn cm, .slice ua kn uc, .int .i64 (K4 : Int)] 25 := b76
            refine bodyPost_ret (v := .tuple #[.agg #[.int .i64 (K0 : Int), .int .i64 (K1 : Int), .int .i64 (K2 : Int), .int .i64 (K3 : Int), .slice am mn cm, .slice ua kn uc, .int .i64 (K4 : Int)], .int .i64 0]) ?_ rfl ⟨.slice am mn cm, .slice ua kn uc, ms, by rw [HER.out, HBT.out]; rfl, by rw [HBT.out, ← HMQ.out]; exact G76.got _, E76⟩
            have y0 := b76.cell 0
            have y1 := b76.cell 1
            have y2 := b76.cell 2
            have y3 := b76.cell 3
            have y4 := b76.cell 4
            have y5 := b76.cell 5
            have y6 := b76.cell 6
            simp at y0 y1 y2 y3 y4 y5 y6
            simp [results, Tryz.results10, go_sem, y0, y1, y2, y3, y4, y5, y6]
        · have HER : Far (grErr B = e1) := far (by unfold grErr; rw [HGW.out]; exact if_neg he)
          have HBT : Far (grMg B = mg0) := far (gr_none (by rw [HER.out]; exact he))
          have d1 : (e1 == 0) = false := by simpa using he
          clear k6 HBQ HGW hbx HGOT
          go_upto_region 15 with fail
          have x0 : w11.cell? ⟨w.heap.size, 0, none⟩ = some (.int .i64 0) := b211.cell 0
          have x1 : w11.cell? ⟨w.heap.size, 1, none⟩ = some (.int .i64 0) := b211.cell 1
          have x2 : w11.cell? ⟨w.heap.size, 2, none⟩ = some (.int .i64 0) := b211.cell 2
          have x3 : w11.cell? ⟨w.heap.size, 3, none⟩ = some (.int .i64 0) := b211.cell 3
          have x4 : w11.cell? ⟨w.heap.size, 4, none⟩ = some (.slice none 0 0) := b211.cell 4
          have x5 : w11.cell? ⟨w.heap.size, 5, none⟩ = some (.slice none 0 0) := b211.cell 5
          have x6 : w11.cell? ⟨w.heap.size, 6, none⟩ = some (.int .i64 0) := b211.cell 6
          have xf := b211.free
          go_region
          have b8 := (((((((b211.set 0 (.int .i64 0)).set 1 (.int .i64 0)).set 2 (.int .i64 0)).set 3 (.int .i64 0)).set 4 (.slice none 0 0)).set 5 (.slice none 0 0)).set 6 (.int .i64 0)).ext (Ext.refl _).drew
          have hE8 := (((((((hX11.setCell (p := ⟨w.heap.size, 0, none⟩) (Nat.le_refl _) (.int .i64 0)).setCell (p := ⟨w.heap.size, 1, none⟩) (Nat.le_refl _) (.int .i64 0)).setCell (p := ⟨w.heap.size, 2, none⟩) (Nat.le_refl _) (.int .i64 0)).setCell (p := ⟨w.heap.size, 3, none⟩) (Nat.le_refl _) (.int .i64 0)).setCell (p := ⟨w.heap.size, 4, none⟩) (Nat.le_refl _) (.slice none 0 0)).setCell (p := ⟨w.heap.size, 5, none⟩) (Nat.le_refl _) (.slice none 0 0)).setCell (p := ⟨w.heap.size, 6, none⟩) (Nat.le_refl _) (.int .i64 0)).drew
          generalize World.drew _ = w9 at b8 hE8 ⊢
          replace b8 : BoxAt w9 w.heap.size #[.int .i64 0, .int .i64 0, .int .i64 0, .int .i64 0, .slice none 0 0, .slice none 0 0, .int .i64 0] 25 := b8
          go_wp2
          refine bodyPost_ret (v := .tuple #[.agg #[.int .i64 0, .int .i64 0, .int .i64 0, .int .i64 0, .slice none 0 0, .slice none 0 0, .int .i64 0], .int .i64 e1]) ?_ rfl ⟨_, _, [], by rw [HER.out, HBT.out]; rfl, by rw [HBT.out]; exact GotW.none w9, hE8⟩
          have y0 := b8.cell 0
          have y1 := b8.cell 1
          have y2 := b8.cell 2
          have y3 := b8.cell 3
          have y4 := b8.cell 4
          have y5 := b8.cell 5
          have y6 := b8.cell 6
          simp at y0 y1 y2 y3 y4 y5 y6
          simp [results, Tryz.results10, go_sem, y0, y1, y2, y3, y4, y5, y6]
      · subst h1
        have t1 : decide ((j : Int) < (j : Int)) = false := by simp
        go_wp2_with fail
        refine (rq_end M.rd).mono ?_
        rintro e' w11 ⟨rfl, r11, T11⟩
        rw [← HB.out, HEN.out] at r11
        have M11 := M.turn T11 r11
        have hX11 : Ext w w11 := M11.ext.ext hE7 (by omega) (by omega)
        have b211 := M11.ext.box b27x (show w.heap.size ≠ q by omega) (show w.heap.size ≠ p by omega)
        have k6 := rcheck21 ⟨(K0 : Int), (K1 : Int), (K2 : Int), (K3 : Int), (K4 : Int)⟩ _ _ ms KL w11 ⟨M11.mt.slice, fun m hm => (M11.rows m hm).rows⟩ M11.ks.slice HMB.out HKB.out
        have hGot : GotT w11 (.slice am ms.length cm) (.slice ua KL.length uc) ms KL := ⟨M11.mt, M11.rows, M11.ks⟩
        have hbx := M11.box
        have c2 : w11.cell? ⟨q, 2, none⟩ = some (.int .i64 e1) := M11.rd.c2
        unfold hd7 at k6 hbx
        simp only at k6 hbx
        rw [← HKN.out, ← HMN.out] at k6 hbx hGot
        have HGOT := far hGot
        have HR11 := far M11.rd
        clear hGot M T11 r11 M11
        by_cases he : e1 = 0
        · subst he
          cases hq : msB ⟨(K0 : Int), (K1 : Int), (K2 : Int), (K3 : Int), (K4 : Int)⟩ ms KL
          · have HER : Far (grErr B = 1) := far (by unfold grErr; rw [HGW.out]; simp [← HBQ.out, hq])
            have HBT : Far (grMg B = mg0) := far (gr_none (by rw [HER.out]; decide))
            rw [hq] at k6
            have K6 := far k6
            clear k6 hq HBQ HGW
            have z0 : w11.cell? ⟨p, 0, none⟩ = some (.int .i64 (K0 : Int)) := hbx.cell 0
            have z1 : w11.cell? ⟨p, 1, none⟩ = some (.int .i64 (K1 : Int)) := hbx.cell 1
            have z2 : w11.cell? ⟨p, 2, none⟩ = some (.int .i64 (K2 : Int)) := hbx.cell 2
            have z3 : w11.cell? ⟨p, 3, none⟩ = some (.int .i64 (K3 : Int)) := hbx.cell 3
            have z4 : w11.cell? ⟨p, 4, none⟩ = some (.slice am mn cm) := hbx.cell 4
            have z5 : w11.cell? ⟨p, 5, none⟩ = some (.slice ua kn uc) := hbx.cell 5
            have z6 : w11.cell? ⟨p, 6, none⟩ = some (.int .i64 (K4 : Int)) := hbx.cell 6
            go_upto_region 15 with (first
              | (go_at_call 13; go_must (refine K6.out.mono ?_); rintro e7 w12 ⟨rfl, hE12⟩)
              | (go_at_call 42; go_must (refine (rq_wrong 1 (HR11.out.ext hE12)).mono ?_); rintro e7 w13 ⟨rfl, h13, hT13⟩; rw [show failR 1 (i, (0 : Int)) = (i, 1) from if_pos rfl] at h13; have c2 : w13.cell? ⟨q, 2, none⟩ = some (.int .i64 1) := h13.c2; have b213 := hT13.box (b211.ext hE12) (show w.heap.size ≠ q by omega); have hE13 : Ext w w13 := hT13.ext (hX11.trans hE12) (by omega)))
            have x0 : w13.cell? ⟨w.heap.size, 0, none⟩ = some (.int .i64 0) := b213.cell 0
            have x1 : w13.cell? ⟨w.heap.size, 1, none⟩ = some (.int .i64 0) := b213.cell 1
            have x2 : w13.cell? ⟨w.heap.size, 2, none⟩ = some (.int .i64 0) := b213.cell 2
            have x3 : w13.cell? ⟨w.heap.size, 3, none⟩ = some (.int .i64 0) := b213.cell 3
            have x4 : w13.cell? ⟨w.heap.size, 4, none⟩ = some (.slice none 0 0) := b213.cell 4
            have x5 : w13.cell? ⟨w.heap.size, 5, none⟩ = some (.slice none 0 0) := b213.cell 5
            have x6 : w13.cell? ⟨w.heap.size, 6, none⟩ = some (.int .i64 0) := b213.cell 6
            have xf := b213.free
            go_region
            have b8 := (((((((b213.set 0 (.int .i64 0)).set 1 (.int .i64 0)).set 2 (.int .i64 0)).set 3 (.int .i64 0)).set 4 (.slice none 0 0)).set 5 (.slice none 0 0)).set 6 (.int .i64 0)).ext (Ext.refl _).drew
            have hE8 := (((((((hE13.setCell (p := ⟨w.heap.size, 0, none⟩) (Nat.le_refl _) (.int .i64 0)).setCell (p := ⟨w.heap.size, 1, none⟩) (Nat.le_refl _) (.int .i64 0)).setCell (p := ⟨w.heap.size, 2, none⟩) (Nat.le_refl _) (.int .i64 0)).setCell (p := ⟨w.heap.size, 3, none⟩) (Nat.le_refl _) (.int .i64 0)).setCell (p := ⟨w.heap.size, 4, none⟩) (Nat.le_refl _) (.slice none 0 0)).setCell (p := ⟨w.heap.size, 5, none⟩) (Nat.le_refl _) (.slice none 0 0)).setCell (p := ⟨w.heap.size, 6, none⟩) (Nat.le_refl _) (.int .i64 0)).drew
            generalize World.drew _ = w9 at b8 hE8 ⊢
            replace b8 : BoxAt w9 w.heap.size #[.int .i64 0, .int .i64 0, .int .i64 0, .int .i64 0, .slice none 0 0, .slice none 0 0, .int .i64 0] 25 := b8
            go_wp2
            refine bodyPost_ret (v := .tuple #[.agg #[.int .i64 0, .int .i64 0, .int .i64 0, .int .i64 0, .slice none 0 0, .slice none 0 0, .int .i64 0], .int .i64 1]) ?_ rfl ⟨_, _, [], by rw [HER.out, HBT.out]; rfl, by rw [HBT.out]; exact GotW.none w9, hE8⟩
            have y0 := b8.cell 0
            have y1 := b8.cell 1
            have y2 := b8.cell 2
            have y3 := b8.cell 3
            have y4 := b8.cell 4
            have y5 := b8.cell 5
            have y6 := b8.cell 6
            simp at y0 y1 y2 y3 y4 y5 y6
            simp [results, Tryz.results10, go_sem, y0, y1, y2, y3, y4, y5, y6]
          · have HER : Far (grErr B = 0) := far (by unfold grErr; rw [HGW.out]; simp [← HBQ.out, hq])
            have HBT : Far (grMg B = ⟨⟨(K0 : Int), (K1 : Int), (K2 : Int), (K3 : Int), (K4 : Int)⟩, ML, KL⟩) := far (by unfold grMg; rw [HER.out, if_pos rfl, HGW.out])
            rw [hq] at k6
            have K6 := far k6
            clear k6 hq HBQ HGW
            have z0 : w11.cell? ⟨p, 0, none⟩ = some (.int .i64 (K0 : Int)) := hbx.cell 0
            have z1 : w11.cell? ⟨p, 1, none⟩ = some (.int .i64 (K1 : Int)) := hbx.cell 1
            have z2 : w11.cell? ⟨p, 2, none⟩ = some (.int .i64 (K2 : Int)) := hbx.cell 2
            have z3 : w11.cell? ⟨p, 3, none⟩ = some (.int .i64 (K3 : Int)) := hbx.cell 3
            have z4 : w11.cell? ⟨p, 4, none⟩ = some (.slice am mn cm) := hbx.cell 4
            have z5 : w11.cell? ⟨p, 5, none⟩ = some (.slice ua kn uc) := hbx.cell 5
            have z6 : w11.cell? ⟨p, 6, none⟩ = some (.int .i64 (K4 : Int)) := hbx.cell 6
            go_wp2_with (go_at_call 13; go_must (refine K6.out.mono ?_); rintro e7 w12 ⟨rfl, hE12⟩; have c2 : w12.cell? ⟨q, 2, none⟩ = some (.int .i64 0) := (HR11.out.ext hE12).c2; have hb12 := hbx.ext hE12; have b212 := b211.ext hE12; have hX12 := hX11.trans hE12; have z0 : w12.cell? ⟨p, 0, none⟩ = some (.int .i64 (K0 : Int)) := hb12.cell 0; have z1 : w12.cell? ⟨p, 1, none⟩ = some (.int .i64 (K1 : Int)) := hb12.cell 1; have z2 : w12.cell? ⟨p, 2, none⟩ = some (.int .i64 (K2 : Int)) := hb12.cell 2; have z3 : w12.cell? ⟨p, 3, none⟩ = some (.int .i64 (K3 : Int)) := hb12.cell 3; have z4 : w12.cell? ⟨p, 4, none⟩ = some (.slice am mn cm) := hb12.cell 4; have z5 : w12.cell? ⟨p, 5, none⟩ = some (.slice ua kn uc) := hb12.cell 5; have z6 : w12.cell? ⟨p, 6, none⟩ = some (.int .i64 (K4 : Int)) := hb12.cell 6; have x0 : w12.cell? ⟨w.heap.size, 0, none⟩ = some (.int .i64 0) := b212.cell 0; have x1 : w12.cell? ⟨w.heap.size, 1, none⟩ = some (.int .i64 0) := b212.cell 1; have x2 : w12.cell? ⟨w.heap.size, 2, none⟩ = some (.int .i64 0) := b212.cell 2; have x3 : w12.cell? ⟨w.heap.size, 3, none⟩ = some (.int .i64 0) := b212.cell 3; have x4 : w12.cell? ⟨w.heap.size, 4, none⟩ = some (.slice none 0 0) := b212.cell 4; have x5 : w12.cell? ⟨w.heap.size, 5, none⟩ = some (.slice none 0 0) := b212.cell 5; have x6 : w12.cell? ⟨w.heap.size, 6, none⟩ = some (.int .i64 0) := b212.cell 6; have xf := b212.free)
            have G7 := HGOT.out.ext hE12
            have G70 := G7.set 0 (.int .i64 (K0 : Int)) b212
            have b70 := b212.set 0 (.int .i64 (K0 : Int))
            have E70 := hX12.setCell (p := ⟨w.heap.size, 0, none⟩) (Nat.le_refl _) (.int .i64 (K0 : Int))
            have G71 := G70.set 1 (.int .i64 (K1 : Int)) b70
            have b71 := b70.set 1 (.int .i64 (K1 : Int))
            have E71 := E70.setCell (p := ⟨w.heap.size, 1, none⟩) (Nat.le_refl _) (.int .i64 (K1 : Int))
            have G72 := G71.set 2 (.int .i64 (K2 : Int)) b71
            have b72 := b71.set 2 (.int .i64 (K2 : Int))
            have E72 := E71.setCell (p := ⟨w.heap.size, 2, none⟩) (Nat.le_refl _) (.int .i64 (K2 : Int))
            have G73 := G72.set 3 (.int .i64 (K3 : Int)) b72
            have b73 := b72.set 3 (.int .i64 (K3 : Int))
            have E73 := E72.setCell (p := ⟨w.heap.size, 3, none⟩) (Nat.le_refl _) (.int .i64 (K3 : Int))
            have G74 := G73.set 4 (.slice am mn cm) b73
            have b74 := b73.set 4 (.slice am mn cm)
            have E74 := E73.setCell (p := ⟨w.heap.size, 4, none⟩) (Nat.le_refl _) (.slice am mn cm)
            have G75 := G74.set 5 (.slice ua kn uc) b74
            have b75 := b74.set 5 (.slice ua kn uc)
            have E75 := E74.setCell (p := ⟨w.heap.size, 5, none⟩) (Nat.le_refl _) (.slice ua kn uc)
            have G76 := G75.set 6 (.int .i64 (K4 : Int)) b75
            have b76 := b75.set 6 (.int .i64 (K4 : Int))
            have E76 := E75.setCell (p := ⟨w.heap.size, 6, none⟩) (Nat.le_refl _) (.int .i64 (K4 : Int))
            clear G70 G71 G72 G73 G74 G75 b70 b71 b72 b73 b74 b75 E70 E71 E72 E73 E74 E75
            generalize World.setCell (World.setCell (World.setCell (World.setCell (World.setCell (World.setCell (World.setCell w12 _ _) _ _) _ _) _ _) _ _) _ _) _ _ = w9 at b76 E76 G76 ⊢
            replace b76 : BoxAt w9 w.heap.size #[.int .i64 (K0 : Int), .int .i64 (K1 : Int), .int .i64 (K2 : Int), .int .i64 (K3 : Int), .slice am mn cm, .slice ua kn uc, .int .i64 (K4 : Int)] 25 := b76
            refine bodyPost_ret (v := .tuple #[.agg #[.int .i64 (K0 : Int), .int .i64 (K1 : Int), .int .i64 (K2 : Int), .int .i64 (K3 : Int), .slice am mn cm, .slice ua kn uc, .int .i64 (K4 : Int)], .int .i64 0]) ?_ rfl ⟨.slice am mn cm, .slice ua kn uc, ms, by rw [HER.out, HBT.out]; rfl, by rw [HBT.out, ← HMQ.out]; exact G76.got _, E76⟩
            have y0 := b76.cell 0
            have y1 := b76.cell 1
            have y2 := b76.cell 2
            have y3 := b76.cell 3
            have y4 := b76.cell 4
            have y5 := b76.cell 5
            have y6 := b76.cell 6
            simp at y0 y1 y2 y3 y4 y5 y6
            simp [results, Tryz.results10, go_sem, y0, y1, y2, y3, y4, y5, y6]
        · have HER : Far (grErr B = e1) := far (by unfold grErr; rw [HGW.out]; exact if_neg he)
          have HBT : Far (grMg B = mg0) := far (gr_none (by rw [HER.out]; exact he))
          have d1 : (e1 == 0) = false := by simpa using he
          clear k6 HBQ HGW hbx HGOT
          go_upto_region 15 with fail
          have x0 : w11.cell? ⟨w.heap.size, 0, none⟩ = some (.int .i64 0) := b211.cell 0
          have x1 : w11.cell? ⟨w.heap.size, 1, none⟩ = some (.int .i64 0) := b211.cell 1
          have x2 : w11.cell? ⟨w.heap.size, 2, none⟩ = some (.int .i64 0) := b211.cell 2
          have x3 : w11.cell? ⟨w.heap.size, 3, none⟩ = some (.int .i64 0) := b211.cell 3
          have x4 : w11.cell? ⟨w.heap.size, 4, none⟩ = some (.slice none 0 0) := b211.cell 4
          have x5 : w11.cell? ⟨w.heap.size, 5, none⟩ = some (.slice none 0 0) := b211.cell 5
          have x6 : w11.cell? ⟨w.heap.size, 6, none⟩ = some (.int .i64 0) := b211.cell 6
          have xf := b211.free
          go_region
          have b8 := (((((((b211.set 0 (.int .i64 0)).set 1 (.int .i64 0)).set 2 (.int .i64 0)).set 3 (.int .i64 0)).set 4 (.slice none 0 0)).set 5 (.slice none 0 0)).set 6 (.int .i64 0)).ext (Ext.refl _).drew
          have hE8 := (((((((hX11.setCell (p := ⟨w.heap.size, 0, none⟩) (Nat.le_refl _) (.int .i64 0)).setCell (p := ⟨w.heap.size, 1, none⟩) (Nat.le_refl _) (.int .i64 0)).setCell (p := ⟨w.heap.size, 2, none⟩) (Nat.le_refl _) (.int .i64 0)).setCell (p := ⟨w.heap.size, 3, none⟩) (Nat.le_refl _) (.int .i64 0)).setCell (p := ⟨w.heap.size, 4, none⟩) (Nat.le_refl _) (.slice none 0 0)).setCell (p := ⟨w.heap.size, 5, none⟩) (Nat.le_refl _) (.slice none 0 0)).setCell (p := ⟨w.heap.size, 6, none⟩) (Nat.le_refl _) (.int .i64 0)).drew
          generalize World.drew _ = w9 at b8 hE8 ⊢
          replace b8 : BoxAt w9 w.heap.size #[.int .i64 0, .int .i64 0, .int .i64 0, .int .i64 0, .slice none 0 0, .slice none 0 0, .int .i64 0] 25 := b8
          go_wp2
          refine bodyPost_ret (v := .tuple #[.agg #[.int .i64 0, .int .i64 0, .int .i64 0, .int .i64 0, .slice none 0 0, .slice none 0 0, .int .i64 0], .int .i64 e1]) ?_ rfl ⟨_, _, [], by rw [HER.out, HBT.out]; rfl, by rw [HBT.out]; exact GotW.none w9, hE8⟩
          have y0 := b8.cell 0
          have y1 := b8.cell 1
          have y2 := b8.cell 2
          have y3 := b8.cell 3
          have y4 := b8.cell 4
          have y5 := b8.cell 5
          have y6 := b8.cell 6
          simp at y0 y1 y2 y3 y4 y5 y6
          simp [results, Tryz.results10, go_sem, y0, y1, y2, y3, y4, y5, y6]
end Go.Proofs.YtfagnbofnaoncaaGreatDoor

/- clerestoryref21.Get of any text. -/
namespace Go.Proofs.YtfagnbofnaoncaaGreatDoor
open Go Go.RowKit
attribute [local go_sem] yields yUpon

set_option maxRecDepth 100000 in
set_option maxHeartbeats 4000000 in
theorem rget21_big (S : ByteArray) (w : World) (h1 : 4096 < S.size) (h2 : S.size ≤ 1000000) :
    Calls Tryz.prog 10 #[.string S] w fun e w' => e = .returned (.tuple #[.agg #[.int .i64 0, .int .i64 0, .int .i64 0, .int .i64 0, .slice none 0 0, .slice none 0 0, .int .i64 0], .int .i64 2]) ∧ Ext w w' := by
  have hE0 := (Ext.refl w).alloc (.cells #[.int .i64 0, .int .i64 0, .int .i64 0, .int .i64 0, .slice none 0 0, .slice none 0 0, .int .i64 0] 25)
  have hd : (4096 : Int) < (S.size : Int) := by omega
  go_enter Tryz.func10, Tryz.ntmps10
  go_wp2_with fail
  refine bodyPost_ret (v := .tuple #[.agg #[.int .i64 0, .int .i64 0, .int .i64 0, .int .i64 0, .slice none 0 0, .slice none 0 0, .int .i64 0], .int .i64 2]) ?_ rfl ⟨rfl, hE0⟩
  simp [results, Tryz.results10, go_sem]
theorem rget21_gen (S : ByteArray) (w : World) (hS : S.size ≤ 1000000) :
    Calls Tryz.prog 10 #[.string S] w fun e w' => ∃ vm vk ms, e = .returned (.tuple #[.agg (hd7 (gxMg S).hd vm vk), .int .i64 (gxErr S)]) ∧ GotW w' vm vk ms (gxMg S) ∧ Ext w w' := by
  unfold gxMg gxErr
  by_cases h : S.size ≤ 4096
  · simp only [if_pos h]
    obtain ⟨h1, h2⟩ := gr_same (B := S.data.toList) (by rw [dat_size]; omega)
    rw [← h1, ← h2]
    exact rget21 S w h
  · simp only [if_neg h]
    refine (rget21_big S w (by omega) hS).mono ?_
    rintro e w1 ⟨rfl, hE⟩
    exact ⟨_, _, [], rfl, GotW.none w1, hE⟩
end Go.Proofs.YtfagnbofnaoncaaGreatDoor

/- clerestoryref21.Put of any message. -/
namespace Go.Proofs.YtfagnbofnaoncaaGreatDoor
open Go Go.RowKit
attribute [local go_sem] yields yUpon

set_option maxRecDepth 100000 in
set_option maxHeartbeats 16000000 in
theorem rput21 (m : Hd) (vm vk : Value) (M : List Mt) (ks : List ByteArray) (w : World) (hM : MtsIn w vm M) (hK : TxIn w vk ks) (hMb : ∀ x ∈ M, x.table.size ≤ 1000000 ∧ ∀ p ∈ x.pa.ps, ∀ c ∈ p.1.cols, c.name.size ≤ 1000000) (hKb : ∀ s ∈ ks, s.size ≤ 1000000) :
    Calls Tryz.prog 8 #[.agg (hd7 m vm vk)] w fun e w' => e = .returned (.tuple #[.string (putQ ⟨m, M.map Mt.q, ks⟩).1, .int .i64 (putQ ⟨m, M.map Mt.q, ks⟩).2]) ∧ Ext w w' := by
  unfold putQ
  rw [← msB_q, ← bytesG_q]
  have hCk := fun (w1 : World) (hE : Ext w w1) => Lib.hid (rcheck21 m vm vk M ks w1 (hM.ext hE) (hK.ext hE) hMb hKb)
  cases hq : msB m M ks
  · rw [hq] at hCk
    obtain ⟨kd, fr, tt, id, nm⟩ := m
    obtain ⟨am, cm, rfl, _⟩ := hM.get
    obtain ⟨ak, ck, rfl, _⟩ := hK.get
    unfold hd7 at *
    simp only at *
    have hE0 := (Ext.refl w).alloc (.cells #[.int .i64 kd, .int .i64 fr, .int .i64 tt, .int .i64 id, .slice am M.length cm, .slice ak ks.length ck, .int .i64 nm] 25)
    clear hMb hKb hq
    go_enter Tryz.func8, Tryz.ntmps8
    go_wp2_with (go_at_call 13; go_must (refine (hCk _ hE0).out.mono ?_); rintro e w1 ⟨rfl, hE1⟩)
    go_ret2
    exact ⟨rfl, hE0.trans hE1⟩
  rw [hq] at hCk
  simp only [if_true]
  obtain ⟨⟨a1, a2⟩, ⟨b1, b2⟩, ⟨c1, c2⟩, ⟨d1, d2⟩, ⟨e1, e2⟩, f1, f2, hKs, hMok⟩ := msB_parts hq
  obtain ⟨kd, fr, tt, id, nm⟩ := m
  simp only at a1 a2 b1 b2 c1 c2 d1 d2 e1 e2
  have HMI := Lib.hid hM
  have HKI := Lib.hid hK
  have HMO := Lib.hid hMok
  have HKS := Lib.hid hKs
  obtain ⟨am, cm, rfl, _⟩ := hM.get
  obtain ⟨ak, ck, rfl, hck, hckm, hgk⟩ := hK.get
  have HGK := Lib.hid hgk
  unfold hd7 at *
  simp only at *
  obtain ⟨n, hn⟩ : ∃ n, n = ks.length := ⟨_, rfl⟩
  have HN := Lib.hid hn
  obtain ⟨N1, hN1⟩ : ∃ x, x = str (num kd.toNat) := ⟨_, rfl⟩
  obtain ⟨N2, hN2⟩ : ∃ x, x = str (num fr.toNat) := ⟨_, rfl⟩
  obtain ⟨N3, hN3⟩ : ∃ x, x = str (num tt.toNat) := ⟨_, rfl⟩
  obtain ⟨N4, hN4⟩ : ∃ x, x = str (num id.toNat) := ⟨_, rfl⟩
  obtain ⟨N5, hN5⟩ : ∃ x, x = str (num nm.toNat) := ⟨_, rfl⟩
  obtain ⟨N6, hN6⟩ : ∃ x, x = str (num M.length ++ M.flatMap mutP) := ⟨_, rfl⟩
  obtain ⟨N7, hN7⟩ : ∃ x, x = str (num n) := ⟨_, rfl⟩
  have l1 : N1.size ≤ 9 := by rw [hN1, str_size]; exact num_length (by omega)
  have l2 : N2.size ≤ 9 := by rw [hN2, str_size]; exact num_length (by omega)
  have l3 : N3.size ≤ 9 := by rw [hN3, str_size]; exact num_length (by omega)
  have l4 : N4.size ≤ 9 := by rw [hN4, str_size]; exact num_length (by omega)
  have l5 : N5.size ≤ 9 := by rw [hN5, str_size]; exact num_length (by omega)
  have l6 : N6.size ≤ 200000000 := by
    have h1 := flat_len (f := mutP) (n := 1910200) (l := M) fun x hx => mutP_le (hMok x hx)
    have h2 := num_length (x := M.length) (by omega)
    rw [hN6, str_size, List.length_append]
    have : M.length * 1910200 ≤ 100 * 1910200 := Nat.mul_le_mul_right _ f1
    omega
  have l7 : N7.size ≤ 9 := by rw [hN7, str_size]; exact num_length (by omega)
  have H1 := Lib.hid hN1
  have H2 := Lib.hid hN2
  have H3 := Lib.hid hN3
  have H4 := Lib.hid hN4
  have H5 := Lib.hid hN5
  have H6 := Lib.hid hN6
  have H7 := Lib.hid hN7
  have HBG : Hid (bytesG ⟨kd, fr, tt, id, nm⟩ M ks = num kd.toNat ++ num fr.toNat ++ num tt.toNat ++ num id.toNat ++ num nm.toNat ++ (num M.length ++ M.flatMap mutP) ++ num n ++ ks.flatMap tb) := Lib.hid (by
    unfold bytesG partsG
    simp only [List.flatten_cons, List.flatten_nil, List.append_nil, List.append_assoc, hn])
  rw [← hn] at hck hCk f2 ⊢
  clear hN1 hN2 hN3 hN4 hN5 hN6 hN7 hn hgk hMok hKs hM hK hMb hKb
  obtain ⟨BG, hBG⟩ : ∃ L, L = bytesG ⟨kd, fr, tt, id, nm⟩ M ks := ⟨_, rfl⟩
  rw [← hBG] at HBG ⊢
  clear hBG
  have hE0 := (Ext.refl w).alloc (.cells #[.int .i64 kd, .int .i64 fr, .int .i64 tt, .int .i64 id, .slice am M.length cm, .slice ak n ck, .int .i64 nm] 25)
  have hbx := BoxAt.made w #[.int .i64 kd, .int .i64 fr, .int .i64 tt, .int .i64 id, .slice am M.length cm, .slice ak n ck, .int .i64 nm] 25
  go_enter Tryz.func8, Tryz.ntmps8
  go_wp2_with (go_at_call 13; go_must (refine (hCk _ hE0).out.mono ?_); rintro e w1 ⟨rfl, hE1⟩)
  have hE01 := hE0.trans hE1
  have b1x := hbx.ext hE1
  have x0 : w1.cell? ⟨w.heap.size, 0, none⟩ = some (.int .i64 kd) := b1x.cell 0
  have x1 : w1.cell? ⟨w.heap.size, 1, none⟩ = some (.int .i64 fr) := b1x.cell 1
  have x2 : w1.cell? ⟨w.heap.size, 2, none⟩ = some (.int .i64 tt) := b1x.cell 2
  have x3 : w1.cell? ⟨w.heap.size, 3, none⟩ = some (.int .i64 id) := b1x.cell 3
  have x6 : w1.cell? ⟨w.heap.size, 6, none⟩ = some (.int .i64 nm) := b1x.cell 6
  have q1 : ¬ 9223372036854775807 < N1.size + N2.size := by omega
  have q2 : ¬ 9223372036854775807 < N1.size + N2.size + N3.size := by omega
  have q3 : ¬ 9223372036854775807 < N1.size + N2.size + N3.size + N4.size := by omega
  have q4 : ¬ 9223372036854775807 < N1.size + N2.size + N3.size + N4.size + N5.size := by omega
  clear hCk hE0
  refine wp_region_tab 20 [(2, fun v _ => v = .string N1), (5, fun v _ => v = .string N2), (9, fun v _ => v = .string N3), (13, fun v _ => v = .string N4), (17, fun v _ => v = .string N5)] (by kernel_rfl) (by kernel_rfl) (by kernel_rfl) ⟨stays_eq _, stays_eq _, stays_eq _, stays_eq _, stays_eq _, trivial⟩ ?_
  replace x0 := held x0
  replace x1 := held x1
  replace x2 := held x2
  replace x3 := held x3
  replace x6 := held x6
  refine rg_quiet rfl rfl rfl rfl ?_; intro K hK; go_big_quiet_op; go_big_quiet_on
  refine rg_quiet rfl rfl rfl rfl ?_; intro K hK; go_big_quiet_op; go_big_quiet_on
  refine rg_val [] rfl rfl rfl (by kernel_rfl) (fun w1 hE hf => ?_) ?_
  · go_simp
    exact ((H1.out ▸ r9_num kd (by omega) (by omega) _)).mono fun e w' ⟨he, hw⟩ => ⟨_, he, rg_done hE hw (rfl)⟩
  simp only [Act.put, List.setIfInBounds_toArray, List.set_cons_zero, List.set_cons_succ]
  refine rg_quiet rfl rfl rfl rfl ?_; intro K hK; go_big_quiet_op; go_big_quiet_on
  refine rg_quiet rfl rfl rfl rfl ?_; intro K hK; go_big_quiet_op; go_big_quiet_on
  refine rg_val [] rfl rfl rfl (by kernel_rfl) (fun w1 hE hf => ?_) ?_
  · go_simp
    exact ((H2.out ▸ r9_num fr (by omega) (by omega) _)).mono fun e w' ⟨he, hw⟩ => ⟨_, he, rg_done hE hw (rfl)⟩
  simp only [Act.put, List.setIfInBounds_toArray, List.set_cons_zero, List.set_cons_succ]
  refine rg_quiet rfl rfl rfl rfl ?_; intro K hK; go_big_quiet_op; go_big_quiet_on
  refine rg_quiet rfl rfl rfl rfl ?_; intro K hK; go_big_quiet_op; go_big_quiet_on
  refine rg_quiet rfl rfl rfl rfl ?_; intro K hK; go_big_quiet_op; go_big_quiet_on
  refine rg_val [] rfl rfl rfl (by kernel_rfl) (fun w1 hE hf => ?_) ?_
  · go_simp
    exact ((H3.out ▸ r9_num tt (by omega) (by omega) _)).mono fun e w' ⟨he, hw⟩ => ⟨_, he, rg_done hE hw (rfl)⟩
  simp only [Act.put, List.setIfInBounds_toArray, List.set_cons_zero, List.set_cons_succ]
  refine rg_quiet rfl rfl rfl rfl ?_; intro K hK; go_big_quiet_op; go_big_quiet_on
  refine rg_quiet rfl rfl rfl rfl ?_; intro K hK; go_big_quiet_op; go_big_quiet_on
  refine rg_quiet rfl rfl rfl rfl ?_; intro K hK; go_big_quiet_op; go_big_quiet_on
  refine rg_val [] rfl rfl rfl (by kernel_rfl) (fun w1 hE hf => ?_) ?_
  · go_simp
    exact ((H4.out ▸ r9_num id (by omega) (by omega) _)).mono fun e w' ⟨he, hw⟩ => ⟨_, he, rg_done hE hw (rfl)⟩
  simp only [Act.put, List.setIfInBounds_toArray, List.set_cons_zero, List.set_cons_succ]
  refine rg_quiet rfl rfl rfl rfl ?_; intro K hK; go_big_quiet_op; go_big_quiet_on
  refine rg_quiet rfl rfl rfl rfl ?_; intro K hK; go_big_quiet_op; go_big_quiet_on
  refine rg_quiet rfl rfl rfl rfl ?_; intro K hK; go_big_quiet_op; go_big_quiet_on
  refine rg_val [] rfl rfl rfl (by kernel_rfl) (fun w1 hE hf => ?_) ?_
  · go_simp
    exact ((H5.out ▸ r9_num nm (by omega) (by omega) _)).mono fun e w' ⟨he, hw⟩ => ⟨_, he, rg_done hE hw (rfl)⟩
  simp only [Act.put, List.setIfInBounds_toArray, List.set_cons_zero, List.set_cons_succ]
  refine rg_quiet rfl rfl rfl rfl ?_; intro K hK; go_big_quiet_op; go_big_quiet_on
  refine rg_quiet rfl rfl rfl rfl ?_; intro K hK; go_big_quiet_op; go_big_quiet_on
  refine rel_nil fun w2 hE2 _ => ?_
  clear x0 x1 x2 x3 x6
  go_wp2_with fail
  obtain ⟨S5, hS5⟩ : ∃ S, S = N1 ++ N2 ++ N3 ++ N4 ++ N5 := ⟨_, rfl⟩
  rw [← hS5]
  have l8 : S5.size ≤ 45 := by rw [hS5]; simp only [ByteArray.size_append]; omega
  have H8 := Lib.hid hS5
  clear hS5 q1 q2 q3 q4
  have b2x := b1x.ext hE2
  have x4 : w2.cell? ⟨w.heap.size, 4, none⟩ = some (.slice am M.length cm) := b2x.cell 4
  have x5 : w2.cell? ⟨w.heap.size, 5, none⟩ = some (.slice ak n ck) := b2x.cell 5
  have q1 : ¬ 9223372036854775807 < S5.size + N6.size := by omega
  have q2 : ¬ 9223372036854775807 < S5.size + N6.size + N7.size := by omega
  have hE02 := hE01.trans hE2
  refine wp_region_tab 11 [(3, fun v _ => v = .string N6), (8, fun v _ => v = .string N7)] (by kernel_rfl) (by kernel_rfl) (by kernel_rfl) ⟨stays_eq _, stays_eq _, trivial⟩ ?_
  replace x4 := held x4
  replace x5 := held x5
  refine rg_quiet rfl rfl rfl rfl ?_; intro K hK; go_big_quiet_op; go_big_quiet_on
  refine rg_quiet rfl rfl rfl rfl ?_; intro K hK; go_big_quiet_op; go_big_quiet_on
  refine rg_quiet rfl rfl rfl rfl ?_; intro K hK; go_big_quiet_op; go_big_quiet_on
  refine rg_val [] rfl rfl rfl (by kernel_rfl) (fun w1 hE hf => ?_) ?_
  · go_simp
    exact ((H6.out ▸ r9_mutsC _ M w1 (HMI.out.ext (hE02.trans hE)) f1 HMO.out)).mono fun e w' ⟨he, hw⟩ => ⟨_, he, rg_done hE hw (rfl)⟩
  simp only [Act.put, List.setIfInBounds_toArray, List.set_cons_zero, List.set_cons_succ]
  refine rg_quiet rfl rfl rfl rfl ?_; intro K hK; go_big_quiet_op; go_big_quiet_on
  refine rg_quiet rfl rfl rfl rfl ?_; intro K hK; go_big_quiet_op; go_big_quiet_on
  refine rg_quiet rfl rfl rfl rfl ?_; intro K hK; go_big_quiet_op; go_big_quiet_on
  refine rg_quiet rfl rfl rfl rfl ?_; intro K hK; go_big_quiet_op; go_big_quiet_on
  refine rg_val [] rfl rfl rfl (by kernel_rfl) (fun w1 hE hf => ?_) ?_
  · go_simp
    exact ((H7.out ▸ Int.toNat_natCast n ▸ r9_num (n : Int) (by omega) (by omega) _)).mono fun e w' ⟨he, hw⟩ => ⟨_, he, rg_done hE hw (rfl)⟩
  simp only [Act.put, List.setIfInBounds_toArray, List.set_cons_zero, List.set_cons_succ]
  refine rg_quiet rfl rfl rfl rfl ?_; intro K hK; go_big_quiet_op; go_big_quiet_on
  refine rg_quiet rfl rfl rfl rfl ?_; intro K hK; go_big_quiet_op; go_big_quiet_on
  refine rel_nil fun w3 hE3 _ => ?_
  clear x4 x5
  go_wp2_with fail
  obtain ⟨S7, hS7⟩ : ∃ S, S = S5 ++ N6 ++ N7 := ⟨_, rfl⟩
  rw [← hS7]
  have l9 : S7.size ≤ 200000054 := by rw [hS7]; simp only [ByteArray.size_append]; omega
  have H9 := Lib.hid hS7
  clear hS7 q1 q2
  have hE03 := hE02.trans hE3
  have b3x := b2x.ext hE3
  go_loopw [4, 5] (fun s i wr => ∃ (k : Nat) (S : ByteArray), k ≤ n ∧ i = .int .i64 (k : Int) ∧ s = .string S ∧ S.size ≤ 200000054 + k * 109 ∧ Ext w3 wr ∧ Hid (S = S7 ++ str ((ks.take k).flatMap tb))) (fun _ i _ => n - (intOf i).toNat)
  case atStart => exact ⟨0, _, Nat.zero_le _, rfl, rfl, by omega, Ext.refl w3, Lib.hid (by apply ByteArray.ext; simp [str, ByteArray.data_append])⟩
  case round =>
    obtain ⟨k, S, hk, rfl, rfl, hSl, hE, HS⟩ := hrel
    have hb := b3x.ext hE
    have x5 : wr.cell? ⟨w.heap.size, 5, none⟩ = some (.slice ak n ck) := hb.cell 5
    by_cases hlt : k < n
    · have hkF : k < ks.length := by rw [← HN.out]; exact hlt
      obtain ⟨b, o, rfl, y0⟩ := HGK.out k hkF
      replace y0 := (hE03.trans hE).cell y0
      have hsz := HKS.out _ (List.getElem_mem hkF)
      have HTK : Hid ((ks.take (k + 1)).flatMap tb = (ks.take k).flatMap tb ++ tb ks[k]) := Lib.hid (by rw [List.take_succ_eq_append_getElem hkF, List.flatMap_append]; simp)
      obtain ⟨s, hs⟩ : ∃ s, s = ks[k] := ⟨_, rfl⟩
      rw [← hs] at y0 hsz HTK
      clear hs
      obtain ⟨T, hT⟩ : ∃ T, T = txT s := ⟨_, rfl⟩
      have zT : T.size ≤ 109 := by rw [hT]; have := txT_size s (by omega); omega
      have HT := Lib.hid hT
      clear hT
      have t1 : decide ((k : Int) < (n : Int)) = true := by simpa using hlt
      have p1 : ¬ 9223372036854775807 < S.size + T.size := by omega
      go_wp2_with (go_at_call 35; go_must (refine (r9_text s (by omega) _).mono ?_); rintro e w5 ⟨rfl, hE5⟩; rw [← HT.out])
      go_roundw
      case rel => exact ⟨k + 1, _, hlt, by go_num, rfl, by rw [ByteArray.size_append]; omega, hE.trans hE5, Lib.hid (by
        rw [HTK.out, HS.out, HT.out]
        unfold txT
        rw [ByteArray.append_assoc, str_app]
        rfl)⟩
      case measure => simp [intOf]; omega
    · obtain rfl : k = n := by omega
      have t1 : decide ((k : Int) < (k : Int)) = false := by simp
      have HF : Hid (S = str BG) := Lib.hid (by
        rw [HS.out, List.take_of_length_le (by rw [HN.out]; exact Nat.le_refl _), H9.out, H8.out, H1.out, H2.out, H3.out, H4.out, H5.out, H6.out, H7.out, HBG.out]
        simp only [str_app, List.append_assoc])
      have hSz : S.size = BG.length := by rw [HF.out, str_size]
      by_cases hl : BG.length ≤ 4096
      · have t2 : decide ((4096 : Int) < (S.size : Int)) = false := by simp; omega
        have HL := Lib.hid hl
        clear hSz hl
        go_wp2_with fail
        go_ret2
        exact ⟨by simp [HL.out, HF.out], hE03.trans hE⟩
      · have t2 : decide ((4096 : Int) < (S.size : Int)) = true := by simp; omega
        have HL := Lib.hid hl
        clear hSz hl
        go_wp2_with fail
        go_ret2
        exact ⟨by simp [HL.out], hE03.trans hE⟩
end Go.Proofs.YtfagnbofnaoncaaGreatDoor

/- Alike: cells, columns (plain laws). -/
namespace Go.Proofs.YtfagnbofnaoncaaGreatDoor
open Go Go.RowKit

/-- Alike. -/
noncomputable def eqB {α : Type} (a b : α) : Bool := @decide (a = b) (Classical.propDecidable _)
theorem eqB_iff {α : Type} {a b : α} : eqB a b = true ↔ a = b := by unfold eqB; exact @decide_eq_true_iff _ (Classical.propDecidable _)
theorem eqB_true {α : Type} {a b : α} (h : a = b) : eqB a b = true := eqB_iff.2 h
theorem eqB_false {α : Type} {a b : α} (h : a ≠ b) : eqB a b = false := by
  cases e : eqB a b with
  | false => rfl
  | true => exact absurd (eqB_iff.1 e) h

theorem bytes_ext {a b : ByteArray} (h : a.toList = b.toList) : a = b := by
  rw [ByteArray.toList_eq, ByteArray.toList_eq] at h
  cases a; cases b
  simp at h
  rw [h]
theorem cl_ext {c d : Cl} (h2 : c.val.toList = d.val.toList) (h3 : c.dead = d.dead) (h4 : c.at_ = d.at_) (h5 : c.fin = d.fin) : c = d := by
  cases c; cases d
  simp only at *
  rw [bytes_ext h2, h3, h4, h5]
theorem co_ext {c d : Co} (h1 : c.name.toList = d.name.toList) (h2 : c.cell.val.toList = d.cell.val.toList) (h3 : c.cell.dead = d.cell.dead) (h4 : c.cell.at_ = d.cell.at_) (h5 : c.cell.fin = d.cell.fin) : c = d := by
  have := cl_ext h2 h3 h4 h5
  cases c; cases d
  simp only at *
  rw [bytes_ext h1, this]
end Go.Proofs.YtfagnbofnaoncaaGreatDoor
