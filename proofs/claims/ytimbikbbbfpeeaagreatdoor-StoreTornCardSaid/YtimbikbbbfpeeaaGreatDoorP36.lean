/- pack's reader: lists of mutations, notes, numbers. -/
import Derived.Test.YtimbikbbbfpeeaaGreatDoorP35
import Derived.Test.YtimbikbbbfpeeaaGreatDoorP34
import Derived.Test.YtimbikbbbfpeeaaGreatDoorP33
import Derived.Test.YtimbikbbbfpeeaaGreatDoorP32
set_option linter.unusedSimpArgs false
set_option linter.unusedVariables false
namespace Go.Proofs.YtimbikbbbfpeeaaGreatDoor
open Go Go.RowKit
attribute [local go_sem] yields yUpon

theorem info_noteP : (Tryz.prog.info? 32).map (fun i => (i.zero, i.size, i.bytes)) = some (some (.agg #[.int .i64 0, .string ⟨#[]⟩]), 2, 24) := by kernel_rfl
theorem und_notesP : Tryz.prog.underlying 33 = some (.slice 32) := by kernel_rfl
theorem info_intP : (Tryz.prog.info? 3).map (fun i => (i.zero, i.size, i.bytes)) = some (some (.int .i64 0), 1, 8) := by kernel_rfl
theorem und_intsP : Tryz.prog.underlying 35 = some (.slice 3) := by kernel_rfl

set_option maxRecDepth 100000 in
set_option maxHeartbeats 4000000 in
theorem rd_notesW {w : World} {q : Nat} {v : Value} {B : List UInt8} {s : Nat × Int} (h : RdAt w q v B s) :
    Calls Tryz.prog 113 #[.pointer (some ⟨q, 0, none⟩), .func (.func 114) #[] #[]] w fun e w' => ∃ u, e = .returned u ∧ w'.ownsRow w.heap.size 32 2 u (listR B (noteR B) s).1.length ((listR B (noteR B) s).1.flatMap Nt.cells) ∧ RdAt w' q v B (listR B (noteR B) s).2 ∧ Touch9 w w' q := by
  have hq := h.lt
  obtain ⟨R, hR⟩ : ∃ R, R = listR B (noteR B) s := ⟨_, rfl⟩
  rw [← hR]
  obtain ⟨N, s1, hN⟩ : ∃ N s1, cntR B s = (N, s1) := ⟨_, _, rfl⟩
  unfold listR at hR
  have hbn := cntR_big h.le h.big
  have k1 := rd_count h
  rw [hN] at hR k1 hbn
  simp only at hR k1 hbn
  have K1 := Lib.hid k1
  have HR := Lib.hid hR
  clear k1 hR hN
  go_enter Tryz.func113, Tryz.ntmps113
  go_wp2_with (go_at_call 157; go_must (refine K1.out.mono ?_); rintro e w1 ⟨rfl, h1, hT1⟩)
  go_loopw [5, 6] (fun u n wr => ∃ (k : Nat) (D : List Nt) (t : Nat × Int), D.length + k ≤ N ∧ n = .int .i64 (k : Int) ∧ wr.ownsRow w.heap.size 32 2 u D.length (D.flatMap Nt.cells) ∧ RdAt wr q v B t ∧ Touch9 w wr q ∧ Hid (R = (D ++ (manyR (noteR B) k t).1, (manyR (noteR B) k t).2))) (fun _ n _ => (intOf n).toNat)
  case atStart => exact ⟨N, [], s1, by simp, rfl, World.ownsRow_nil _ _ _ _, h1, hT1, HR⟩
  case round =>
    obtain ⟨k, D, t, hDk, rfl, hown, ht, hTr, HX⟩ := hrel
    have hsz := hTr.size
    obtain ⟨i, e⟩ := t
    have c2 : wr.cell? ⟨q, 2, none⟩ = some (.int .i64 e) := ht.c2
    have hou := hown
    obtain ⟨ua, uc, rfl⟩ := own_shape hou
    clear hou
    by_cases hk : 0 < k
    · have hkd : decide ((0 : Int) < (k : Int)) = true := decide_eq_true (by omega)
      by_cases he : e = 0
      · subst he
        obtain ⟨C, t2, hC⟩ : ∃ C t2, noteR B (i, 0) = (C, t2) := ⟨_, _, rfl⟩
        have HC := Lib.hid hC
        clear hC
        go_wp2_with fail
        refine (rd_noteW ht).mono ?_
        rintro e w5 ⟨rfl, h5, hT5⟩
        rw [HC.out] at h5
        simp only at h5
        rw [HC.out]
        obtain ⟨id, body⟩ := C
        have hE6 := (Ext.refl w5).alloc (.cells #[.int .i64 id, .string body] 32)
        have hown5 := hT5.owns hown hq
        have hown6 := ownsRow_ext hown5 hE6
        have h6 := h5.ext hE6
        have hT6 := hTr.trans (hT5.more hE6)
        have hsz5 := (hTr.trans hT5).size
        unfold nt2 at *
        simp only
        go_wp2_with (at_builtin; go_must (refine appR info_noteP und_notesP rfl (by decide) w5 rfl (.tmp 20) (.tmp 24) rfl w.heap.size hsz5 _ D.length (D.flatMap Nt.cells) hown5 (by rfl) 1 _ (by rfl) (by rfl) (by simp [Value.oneCell']) (by unfold maxLen; omega) (by omega) ?_); intro v9 w9 ho9 hg9; have ho9' := ho9; obtain ⟨a9, c9, rfl⟩ := own_shape ho9')
        obtain ⟨k', rfl⟩ : ∃ k', k = k' + 1 := ⟨k - 1, by omega⟩
        go_roundw
        case rel =>
          refine ⟨k', D ++ [⟨id, body⟩], t2, by simp; omega, by go_num, by rw [List.length_append, List.flatMap_append]; simpa [Nt.cells] using ho9, h6.grownOwn h hT6 hown6 hg9 (Nat.le_refl _), hT6.grown hg9 (fun b hb => (hown6.lt b hb).1), ?_⟩
          show R = _
          rw [HX.out, manyR_step _ _ _ rfl, HC.out]
          simp only [List.append_assoc, List.singleton_append]
        case measure => simp [intOf] <;> omega
      · have e0 : manyR (noteR B) k (i, e) = ([], (i, e)) := manyR_stop _ _ _ (.inr he)
        have e1 : R = (D, (i, e)) := by rw [HX.out, e0]; simp only [List.append_nil]
        go_wp2_with fail
        go_ret
        rw [e1]
        exact ⟨_, rfl, hown, ht, hTr⟩
    · have e0 : manyR (noteR B) k (i, e) = ([], (i, e)) := manyR_stop _ _ _ (.inl (by omega))
      have e1 : R = (D, (i, e)) := by rw [HX.out, e0]; simp only [List.append_nil]
      obtain rfl : k = 0 := by omega
      go_wp2_with fail
      go_ret
      rw [e1]
      exact ⟨_, rfl, hown, ht, hTr⟩

set_option maxRecDepth 100000 in
set_option maxHeartbeats 4000000 in
theorem rd_intsW {w : World} {q : Nat} {v : Value} {B : List UInt8} {s : Nat × Int} (h : RdAt w q v B s) :
    Calls Tryz.prog 115 #[.pointer (some ⟨q, 0, none⟩), .func (.func 116) #[] #[]] w fun e w' => ∃ u, e = .returned u ∧ w'.ownsRow w.heap.size 3 1 u (listR B (numIR B) s).1.length (kcells .i64 (listR B (numIR B) s).1) ∧ RdAt w' q v B (listR B (numIR B) s).2 ∧ Touch9 w w' q := by
  have hq := h.lt
  obtain ⟨R, hR⟩ : ∃ R, R = listR B (numIR B) s := ⟨_, rfl⟩
  rw [← hR]
  obtain ⟨N, s1, hN⟩ : ∃ N s1, cntR B s = (N, s1) := ⟨_, _, rfl⟩
  unfold listR at hR
  have hbn := cntR_big h.le h.big
  have k1 := rd_count h
  rw [hN] at hR k1 hbn
  simp only at hR k1 hbn
  have K1 := Lib.hid k1
  have HR := Lib.hid hR
  clear k1 hR hN
  go_enter Tryz.func115, Tryz.ntmps115
  go_wp2_with (go_at_call 157; go_must (refine K1.out.mono ?_); rintro e w1 ⟨rfl, h1, hT1⟩)
  go_loopw [5, 6] (fun u n wr => ∃ (k : Nat) (D : List Int) (t : Nat × Int), D.length + k ≤ N ∧ n = .int .i64 (k : Int) ∧ wr.ownsRow w.heap.size 3 1 u D.length (kcells .i64 D) ∧ RdAt wr q v B t ∧ Touch9 w wr q ∧ Hid (R = (D ++ (manyR (numIR B) k t).1, (manyR (numIR B) k t).2))) (fun _ n _ => (intOf n).toNat)
  case atStart => exact ⟨N, [], s1, by simp, rfl, World.ownsRow_nil _ _ _ _, h1, hT1, HR⟩
  case round =>
    obtain ⟨k, D, t, hDk, rfl, hown, ht, hTr, HX⟩ := hrel
    have hsz := hTr.size
    obtain ⟨i, e⟩ := t
    have c2 : wr.cell? ⟨q, 2, none⟩ = some (.int .i64 e) := ht.c2
    have hou := hown
    obtain ⟨ua, uc, rfl⟩ := own_shape hou
    clear hou
    by_cases hk : 0 < k
    · have hkd : decide ((0 : Int) < (k : Int)) = true := decide_eq_true (by omega)
      by_cases he : e = 0
      · subst he
        obtain ⟨C, t2, hC⟩ : ∃ C t2, numR B (i, 0) = (C, t2) := ⟨_, _, rfl⟩
        have HC : Hid (numIR B (i, 0) = ((C : Int), t2)) := Lib.hid (by unfold numIR; rw [hC])
        have k5 := rd_number ht
        rw [hC] at k5
        have K5 := Lib.hid k5
        clear hC k5
        go_wp2_with fail
        refine K5.out.mono ?_
        rintro e w5 ⟨rfl, h5, hT5⟩
        simp only at h5 ⊢
        have hE6 := (Ext.refl w5).alloc (.cells #[.int .i64 (C : Int)] 3)
        have hown5 := hT5.owns hown hq
        have hown6 := ownsRow_ext hown5 hE6
        have h6 := h5.ext hE6
        have hT6 := hTr.trans (hT5.more hE6)
        have hsz5 := (hTr.trans hT5).size
        go_wp2_with (at_builtin; go_must (refine appR info_intP und_intsP rfl (by decide) w5 rfl (.tmp 20) (.tmp 24) rfl w.heap.size hsz5 _ D.length (kcells .i64 D) hown5 (by rfl) 1 _ (by rfl) (by rfl) (by simp [Value.oneCell']) (by unfold maxLen; omega) (by omega) ?_); intro v9 w9 ho9 hg9; have ho9' := ho9; obtain ⟨a9, c9, rfl⟩ := own_shape ho9')
        obtain ⟨k', rfl⟩ : ∃ k', k = k' + 1 := ⟨k - 1, by omega⟩
        go_roundw
        case rel =>
          refine ⟨k', D ++ [(C : Int)], t2, by simp; omega, by go_num, by rw [List.length_append]; simpa [kcells] using ho9, h6.grownOwn h hT6 hown6 hg9 (Nat.le_refl _), hT6.grown hg9 (fun b hb => (hown6.lt b hb).1), ?_⟩
          show R = _
          rw [HX.out, manyR_step _ _ _ rfl, HC.out]
          simp only [List.append_assoc, List.singleton_append]
        case measure => simp [intOf] <;> omega
      · have e0 : manyR (numIR B) k (i, e) = ([], (i, e)) := manyR_stop _ _ _ (.inr he)
        have e1 : R = (D, (i, e)) := by rw [HX.out, e0]; simp only [List.append_nil]
        go_wp2_with fail
        go_ret
        rw [e1]
        exact ⟨_, rfl, hown, ht, hTr⟩
    · have e0 : manyR (numIR B) k (i, e) = ([], (i, e)) := manyR_stop _ _ _ (.inl (by omega))
      have e1 : R = (D, (i, e)) := by rw [HX.out, e0]; simp only [List.append_nil]
      obtain rfl : k = 0 := by omega
      go_wp2_with fail
      go_ret
      rw [e1]
      exact ⟨_, rfl, hown, ht, hTr⟩

set_option maxRecDepth 100000 in
set_option maxHeartbeats 4000000 in
theorem rd_mutsW {w : World} {q : Nat} {v : Value} {B : List UInt8} {s : Nat × Int} (h : RdAt w q v B s) :
    Calls Tryz.prog 111 #[.pointer (some ⟨q, 0, none⟩), .func (.func 112) #[] #[]] w fun e w' => ∃ u ps, e = .returned u ∧ w'.ownsRow w.heap.size 54 4 u ps.length (mtCells ps) ∧ (∀ p ∈ ps, RowsT w' p.pa.rv p.pa.ps) ∧ ps.map Mt.q = (listR B (mutR B) s).1 ∧ RdAt w' q v B (listR B (mutR B) s).2 ∧ Touch9 w w' q := by
  have hq := h.lt
  obtain ⟨R, hR⟩ : ∃ R, R = listR B (mutR B) s := ⟨_, rfl⟩
  rw [← hR]
  obtain ⟨N, s1, hN⟩ : ∃ N s1, cntR B s = (N, s1) := ⟨_, _, rfl⟩
  unfold listR at hR
  have hbn := cntR_big h.le h.big
  have k1 := rd_count h
  rw [hN] at hR k1 hbn
  simp only at hR k1 hbn
  have K1 := Lib.hid k1
  have HR := Lib.hid hR
  clear k1 hR hN
  go_enter Tryz.func111, Tryz.ntmps111
  go_wp2_with (go_at_call 157; go_must (refine K1.out.mono ?_); rintro e w1 ⟨rfl, h1, hT1⟩)
  go_loopw [5, 6] (fun u n wr => ∃ (k : Nat) (D : List Mt) (t : Nat × Int), D.length + k ≤ N ∧ n = .int .i64 (k : Int) ∧ wr.ownsRow w.heap.size 54 4 u D.length (mtCells D) ∧ (∀ p ∈ D, RowsT wr p.pa.rv p.pa.ps) ∧ RdAt wr q v B t ∧ Touch9 w wr q ∧ Hid (R = (D.map Mt.q ++ (manyR (mutR B) k t).1, (manyR (mutR B) k t).2))) (fun _ n _ => (intOf n).toNat)
  case atStart => exact ⟨N, [], s1, by simp, rfl, World.ownsRow_nil _ _ _ _, nofun, h1, hT1, HR⟩
  case round =>
    obtain ⟨k, D, t, hDk, rfl, hown, hcs, ht, hTr, HX⟩ := hrel
    have hsz := hTr.size
    obtain ⟨i, e⟩ := t
    have c2 : wr.cell? ⟨q, 2, none⟩ = some (.int .i64 e) := ht.c2
    have hou := hown
    obtain ⟨ua, uc, rfl⟩ := own_shape hou
    clear hou
    have HCS := Lib.hid hcs
    clear hcs
    by_cases hk : 0 < k
    · have hkd : decide ((0 : Int) < (k : Int)) = true := decide_eq_true (by omega)
      by_cases he : e = 0
      · subst he
        obtain ⟨C, t2, hC⟩ : ∃ C t2, mutR B (i, 0) = (C, t2) := ⟨_, _, rfl⟩
        have HC := Lib.hid hC
        clear hC
        go_wp2_with fail
        refine (rd_mutW ht).mono ?_
        rintro e w5 ⟨cu, qs, rfl, hct, hmq, h5, hT5⟩
        rw [HC.out] at h5 hmq
        simp only at h5 hmq
        rw [HC.out]
        obtain ⟨table, ⟨key, gone, rows⟩⟩ := C
        simp only at hmq
        have hct' := hct
        obtain ⟨ca, cn, rfl⟩ := hct'.shape
        clear hct'
        have hE6 := (Ext.refl w5).alloc (.cells #[.string table, .string key, .int .i64 gone, .slice ca qs.length cn] 54)
        have hown5 := hT5.owns hown hq
        have hown6 := ownsRow_ext hown5 hE6
        have h6 := h5.ext hE6
        have hT6 := hTr.trans (hT5.more hE6)
        have hsz5 := (hTr.trans hT5).size
        have HMQ := Lib.hid hmq
        clear hmq
        simp only
        go_wp2_with (at_builtin; go_must (refine appR info_Mut und_Muts rfl (by decide) w5 rfl (.tmp 20) (.tmp 24) rfl w.heap.size hsz5 _ D.length (mtCells D) hown5 (by rfl) 1 _ (by rfl) (by rfl) (by simp [Value.oneCell']) (by unfold maxLen; omega) (by omega) ?_); intro v9 w9 ho9 hg9; have ho9' := ho9; obtain ⟨a9, c9, rfl⟩ := own_shape ho9')
        obtain ⟨k', rfl⟩ : ∃ k', k = k' + 1 := ⟨k - 1, by omega⟩
        go_roundw
        case rel =>
          refine ⟨k', D ++ [⟨table, ⟨key, gone, .slice ca qs.length cn, qs⟩⟩], t2, by simp; omega, by go_num, by rw [List.length_append, mtCells_append]; simpa [mtCells, mt4] using ho9, ?_, h6.grownOwn h hT6 hown6 hg9 (Nat.le_refl _), hT6.grown hg9 (fun b hb => (hown6.lt b hb).1), ?_⟩
          · intro p hp
            rcases List.mem_append.1 hp with hp | hp
            · have h1 := ((HCS.out p hp).touch9 hT5 ht.box (by decide) (by decide)).ext hE6
              exact ⟨TIn.keepOwn hown6 hg9 (by decide) h1.tin, fun r hr => TIn.keepOwn hown6 hg9 (by decide) (h1.typed r hr)⟩
            · rw [List.mem_singleton.1 hp]
              have h1 := RowsT.ext hE6 hct
              exact ⟨TIn.keepOwn hown6 hg9 (by decide) h1.tin, fun r hr => TIn.keepOwn hown6 hg9 (by decide) (h1.typed r hr)⟩
          · show R = _
            rw [HX.out, manyR_step _ _ _ rfl, HC.out]
            simp only [List.map_append, List.map_cons, List.map_nil, List.append_assoc, List.singleton_append]
            rw [show Mt.q ⟨table, ⟨key, gone, .slice ca qs.length cn, qs⟩⟩ = ⟨table, ⟨key, gone, rows⟩⟩ by unfold Mt.q; simp only; rw [HMQ.out]]
        case measure => simp [intOf] <;> omega
      · have e0 : manyR (mutR B) k (i, e) = ([], (i, e)) := manyR_stop _ _ _ (.inr he)
        have e1 : R = (D.map Mt.q, (i, e)) := by rw [HX.out, e0]; simp only [List.append_nil]
        go_wp2_with fail
        go_ret
        rw [e1]
        exact ⟨_, D, rfl, hown, HCS.out, rfl, ht, hTr⟩
    · have e0 : manyR (mutR B) k (i, e) = ([], (i, e)) := manyR_stop _ _ _ (.inl (by omega))
      have e1 : R = (D.map Mt.q, (i, e)) := by rw [HX.out, e0]; simp only [List.append_nil]
      obtain rfl : k = 0 := by omega
      go_wp2_with fail
      go_ret
      rw [e1]
      exact ⟨_, D, rfl, hown, HCS.out, rfl, ht, hTr⟩
end Go.Proofs.YtimbikbbbfpeeaaGreatDoor

/- pack.GetBatch. -/
namespace Go.Proofs.YtimbikbbbfpeeaaGreatDoor
open Go Go.RowKit
attribute [local go_sem] yields yUpon

theorem nts_of {w : World} {v : Value} {l : List Nt} (h : TIn w 32 v l.length (l.flatMap Nt.cells)) : NtsIn w v l := h.slice
theorem ints_of {w : World} {v : Value} {l : List Int} (h : TIn w 3 v l.length (kcells .i64 l)) : IntsIn w v .i64 l := h.slice
/-- What was read so far stays. -/
structure Got (w : World) (vm va vd : Value) (ms : List Mt) (A : List Nt) (D : List Int) : Prop where
  mt : TIn w 54 vm ms.length (mtCells ms)
  rows : ∀ m ∈ ms, RowsT w m.pa.rv m.pa.ps
  nt : TIn w 32 va A.length (A.flatMap Nt.cells)
  it : TIn w 3 vd D.length (kcells .i64 D)
section
variable {w w' : World} {vm va vd : Value} {ms : List Mt} {A : List Nt} {D : List Int}
theorem Got.ext (h : Got w vm va vd ms A D) (hE : Ext w w') : Got w' vm va vd ms A D := ⟨h.mt.ext hE, fun m hm => (h.rows m hm).ext hE, h.nt.ext hE, h.it.ext hE⟩
theorem Got.touch {q : Nat} {W : Array Value} (h : Got w vm va vd ms A D) (hT : Touch9 w w' q) (hq : BoxAt w q W 197) : Got w' vm va vd ms A D :=
  ⟨h.mt.touch9 hT hq (by decide), fun m hm => (h.rows m hm).touch9 hT hq (by decide) (by decide), h.nt.touch9 hT hq (by decide), h.it.touch9 hT hq (by decide)⟩
theorem Got.set {q : Nat} {W : Array Value} (h : Got w vm va vd ms A D) (i : Nat) (u : Value) (hq : BoxAt w q W 37) : Got (w.setCell ⟨q, i, none⟩ u) vm va vd ms A D :=
  ⟨TIn.set i u hq (by decide) h.mt, fun m hm => RowsT.set i u hq (by decide) (by decide) (h.rows m hm), TIn.set i u hq (by decide) h.nt, TIn.set i u hq (by decide) h.it⟩
theorem Got.none (w : World) : Got w (.slice none 0 0) (.slice none 0 0) (.slice none 0 0) [] [] [] := ⟨TIn.nil w _, nofun, TIn.nil w _, TIn.nil w _⟩
end
theorem BoxAt.bt {w : World} {p : Nat} {a b c : Value} {e : TypeId} (h : BoxAt w p #[a, b, c] e) : w.cell? ⟨p, 0, none⟩ = some a ∧ w.cell? ⟨p, 1, none⟩ = some b ∧ w.cell? ⟨p, 2, none⟩ = some c := ⟨h.cell 0, h.cell 1, h.cell 2⟩

set_option maxRecDepth 100000 in
set_option maxHeartbeats 8000000 in
theorem pk_getbatch (v : Value) (l : List UInt8) (w : World) (hv : BytesIn w v l) (hl : l.length ≤ 900000) (hlow : ∀ b o k c, v = .slice (some ⟨b, o, none⟩) k c → b < w.heap.size) (hT : TabU w) :
    Calls Tryz.prog 67 #[v] w fun e w' => ∃ vm va vd ms, e = .returned (.tuple #[.agg #[vm, va, vd], .int .i64 (gbErr l)]) ∧ Got w' vm va vd ms (gbBt l).add (gbBt l).drop ∧ ms.map Mt.q = (gbBt l).muts ∧ Ext w w' := by
  have hE0 := (Ext.refl w).alloc (.cells #[.slice none 0 0, .slice none 0 0, .slice none 0 0] 37)
  have b2 := BoxAt.made w #[.slice none 0 0, .slice none 0 0, .slice none 0 0] 37
  have k1 := rd_read v l _ (hv.ext hE0) hl (fun b o k c e => by have := hlow b o k c e; have := hE0.le; omega)
  obtain ⟨s0, hs0⟩ : ∃ s0 : Nat × Int, s0 = (0, if l.length ≤ 262144 then 0 else 2) := ⟨_, rfl⟩
  rw [← hs0] at k1
  obtain ⟨ML, s1, hM⟩ : ∃ M s1, listR l (mutR l) s0 = (M, s1) := ⟨_, _, rfl⟩
  obtain ⟨AL, s2, hA⟩ : ∃ M t, listR l (noteR l) s1 = (M, t) := ⟨_, _, rfl⟩
  obtain ⟨DL, s3, hD⟩ : ∃ M t, listR l (numIR l) s2 = (M, t) := ⟨_, _, rfl⟩
  obtain ⟨i4, e4, h4⟩ : ∃ i e, endR l s3 = (i, e) := ⟨_, _, rfl⟩
  have hgB : gB l = (⟨ML, AL, DL⟩, (i4, e4)) := by
    unfold gB btR
    rw [← hs0, hM]
    simp only
    rw [hA]
    simp only
    rw [hD]
    simp only
    rw [h4]
  have hlw := btR_low l s0
  have hgB2 : (btR l s0).1 = ⟨ML, AL, DL⟩ := by
    unfold gB at hgB
    rw [← hs0] at hgB
    rw [hgB]
  rw [hgB2] at hlw
  simp only at hlw
  have HLM := far hlw.1
  have HLA := far hlw.2
  have K1 := far k1
  have HM := far hM
  have HA := far hA
  have HD := far hD
  have H4 := far h4
  have HGB := far hgB
  clear k1 hM hA hD h4 hs0 hlw hgB2 hgB
  go_enter Tryz.func67, Tryz.ntmps67
  go_wp2_with fail
  refine K1.out.mono ?_
  rintro e w1 ⟨rfl, h1, hE1⟩
  obtain ⟨Q, hQ⟩ : ∃ Q, Q = (w.alloc (.cells #[.slice none 0 0, .slice none 0 0, .slice none 0 0] 37)).heap.size := ⟨_, rfl⟩
  have hQ1 : Q = w.heap.size + 1 := by rw [hQ, Deep.nblk_alloc]
  rw [← hQ] at h1 ⊢
  clear hQ
  subst hQ1
  have b21 := b2.ext hE1
  have hQl := h1.lt
  have hq2 : w.heap.size ≠ w.heap.size + 1 := by omega
  have hq3 : w1.heap.size ≠ w.heap.size + 1 := by omega
  have b3 := BoxAt.made w1 #[.slice none 0 0, .slice none 0 0, .slice none 0 0] 37
  have hE3 := (Ext.refl w1).alloc (.cells #[.slice none 0 0, .slice none 0 0, .slice none 0 0] 37)
  have b22 := b21.ext hE3
  have h3 := h1.ext hE3
  have hX3 : Ext w (w1.alloc (.cells #[.slice none 0 0, .slice none 0 0, .slice none 0 0] 37)) := (hE0.trans hE1).trans hE3
  have hne : w.heap.size ≠ w1.heap.size := by omega
  have hle : w.heap.size ≤ w1.heap.size := by omega
  have hOQ : w.heap.size + 1 ≠ w1.heap.size := by omega
  have hoff : ∀ b o k c, v = .slice (some ⟨b, o, none⟩) k c → b ≠ w1.heap.size := fun b o k c e => by have := hlow b o k c e; omega
  go_wp2_with fail
  generalize (w1.alloc (.cells #[.slice none 0 0, .slice none 0 0, .slice none 0 0] 37)) = wa at b3 b22 h3 hX3 ⊢
  -- the mutations
  refine (rd_mutsW h3).mono ?_
  rintro e w2 ⟨u1, ms, rfl, ho1, hr1, hm1, h2, hT2⟩
  rw [HM.out] at h2 hm1
  simp only at h2 hm1
  have b3a := hT2.box b3 hq3
  have b2a := hT2.box b22 hq2
  have hX2 := hT2.ext hX3 (by omega)
  obtain ⟨a1, c1, rfl⟩ := own_shape (id ho1)
  have G1 : Got w2 (.slice a1 ms.length c1) (.slice none 0 0) (.slice none 0 0) ms [] [] := ⟨TIn.own ho1, hr1, (Got.none w2).nt, (Got.none w2).it⟩
  have y0 : w2.cell? ⟨w1.heap.size, 0, none⟩ = some (.slice none 0 0) := b3a.cell 0
  have yf := b3a.free
  have h2b : RdAt (w2.setCell ⟨w1.heap.size, 0, none⟩ (.slice a1 ms.length c1)) (w.heap.size + 1) v l s1 := ⟨h2.box.other hOQ 0 _, slice_off h2.bytes hoff, h2.off, h2.le, h2.big⟩
  have b3b : BoxAt (w2.setCell ⟨w1.heap.size, 0, none⟩ (.slice a1 ms.length c1)) w1.heap.size #[.slice a1 ms.length c1, .slice none 0 0, .slice none 0 0] 37 := b3a.set 0 _
  have b2b := b2a.other hne 0 (.slice a1 ms.length c1)
  have G1b := G1.set 0 (.slice a1 ms.length c1) b3a
  have hX2b := hX2.setCell (p := ⟨w1.heap.size, 0, none⟩) hle (.slice a1 ms.length c1)
  go_wp2_with fail
  generalize w2.setCell ⟨w1.heap.size, 0, none⟩ (.slice a1 ms.length c1) = wb at h2b b3b b2b G1b hX2b ⊢
  clear y0 yf
  -- the notes
  refine (rd_notesW h2b).mono ?_
  rintro e w4 ⟨u2, rfl, ho2, h4, hT4⟩
  rw [HA.out] at h4 ho2
  simp only at h4 ho2
  have b3c := hT4.box b3b hq3
  have b2c := hT4.box b2b hq2
  have hX4 := hT4.ext hX2b (by omega)
  obtain ⟨a2, c2, rfl⟩ := own_shape (id ho2)
  have G2 : Got w4 (.slice a1 ms.length c1) (.slice a2 AL.length c2) (.slice none 0 0) ms AL [] := ⟨(G1b.touch hT4 h2b.box).mt, (G1b.touch hT4 h2b.box).rows, TIn.own ho2, TIn.nil _ _⟩
  have y1 : w4.cell? ⟨w1.heap.size, 1, none⟩ = some (.slice none 0 0) := b3c.cell 1
  have yf := b3c.free
  have h4b : RdAt (w4.setCell ⟨w1.heap.size, 1, none⟩ (.slice a2 AL.length c2)) (w.heap.size + 1) v l s2 := ⟨h4.box.other hOQ 1 _, slice_off h4.bytes hoff, h4.off, h4.le, h4.big⟩
  have b3d : BoxAt (w4.setCell ⟨w1.heap.size, 1, none⟩ (.slice a2 AL.length c2)) w1.heap.size #[.slice a1 ms.length c1, .slice a2 AL.length c2, .slice none 0 0] 37 := b3c.set 1 _
  have b2d := b2c.other hne 1 (.slice a2 AL.length c2)
  have G2b := G2.set 1 (.slice a2 AL.length c2) b3c
  have hX4b := hX4.setCell (p := ⟨w1.heap.size, 1, none⟩) hle (.slice a2 AL.length c2)
  go_wp2_with fail
  generalize w4.setCell ⟨w1.heap.size, 1, none⟩ (.slice a2 AL.length c2) = wc at h4b b3d b2d G2b hX4b ⊢
  clear y1 yf
  -- the numbers
  refine (rd_intsW h4b).mono ?_
  rintro e w5 ⟨u3, rfl, ho3, h5, hT5⟩
  rw [HD.out] at h5 ho3
  simp only at h5 ho3
  have b3e := hT5.box b3d hq3
  have b2e := hT5.box b2d hq2
  have hX5 := hT5.ext hX4b (by omega)
  obtain ⟨a3, c3, rfl⟩ := own_shape (id ho3)
  have G3 : Got w5 (.slice a1 ms.length c1) (.slice a2 AL.length c2) (.slice a3 DL.length c3) ms AL DL := ⟨(G2b.touch hT5 h4b.box).mt, (G2b.touch hT5 h4b.box).rows, (G2b.touch hT5 h4b.box).nt, TIn.own ho3⟩
  have y2 : w5.cell? ⟨w1.heap.size, 2, none⟩ = some (.slice none 0 0) := b3e.cell 2
  have yf := b3e.free
  have h5b : RdAt (w5.setCell ⟨w1.heap.size, 2, none⟩ (.slice a3 DL.length c3)) (w.heap.size + 1) v l s3 := ⟨h5.box.other hOQ 2 _, slice_off h5.bytes hoff, h5.off, h5.le, h5.big⟩
  have b3f : BoxAt (w5.setCell ⟨w1.heap.size, 2, none⟩ (.slice a3 DL.length c3)) w1.heap.size #[.slice a1 ms.length c1, .slice a2 AL.length c2, .slice a3 DL.length c3] 37 := b3e.set 2 _
  have b2f := b2e.other hne 2 (.slice a3 DL.length c3)
  have G3b := G3.set 2 (.slice a3 DL.length c3) b3e
  have hX5b := hX5.setCell (p := ⟨w1.heap.size, 2, none⟩) hle (.slice a3 DL.length c3)
  go_wp2_with fail
  generalize w5.setCell ⟨w1.heap.size, 2, none⟩ (.slice a3 DL.length c3) = wd at h5b b3f b2f G3b hX5b ⊢
  clear y2 yf
  -- the end
  refine (rd_end h5b).mono ?_
  rintro e w6 ⟨rfl, h6, hT6⟩
  rw [H4.out] at h6
  have b3g := hT6.box b3f hq3
  have b2g := hT6.box b2f hq2
  have hX6 := hT6.ext hX5b (by omega)
  have G4 := G3b.touch hT6 h5b.box
  have z0 : w6.cell? ⟨w1.heap.size, 0, none⟩ = some (.slice a1 ms.length c1) := b3g.cell 0
  have z1 : w6.cell? ⟨w1.heap.size, 1, none⟩ = some (.slice a2 AL.length c2) := b3g.cell 1
  have z2 : w6.cell? ⟨w1.heap.size, 2, none⟩ = some (.slice a3 DL.length c3) := b3g.cell 2
  go_wp2_with fail
  -- may it be?
  have hcq : cbG ms AL DL = cbQ ⟨ML, AL, DL⟩ := by rw [cbG_q, hm1]
  have hlm : ∀ x ∈ ms, x.table.size ≤ 1000000 ∧ ∀ p ∈ x.pa.ps, ∀ c ∈ p.1.cols, c.name.size ≤ 1000000 := fun x hx => by
    have h1 := HLM.out x.q (by rw [← hm1]; exact List.mem_map_of_mem hx)
    refine ⟨Nat.le_trans h1.1 (by omega), fun p hp c hc => Nat.le_trans (h1.2 p.1 (List.mem_map_of_mem (f := (·.1)) hp) c hc) (by omega)⟩
  refine (cb_gen _ _ _ ms AL DL w6 (hT.ext hX6) ⟨G4.mt.slice, fun m hm => (G4.rows m hm).rows⟩ (nts_of G4.nt) (ints_of G4.it) hlm (fun x hx => Nat.le_trans (HLA.out x hx) (by omega))).mono ?_
  rw [hcq]
  rintro e w7 ⟨rfl, hE7⟩
  have h7 := h6.ext hE7
  have b3h := b3g.ext hE7
  have b2h := b2g.ext hE7
  have G5 := G4.ext hE7
  have hX7 := hX6.trans hE7
  have HM1 := far hm1
  clear hlm z0 z1 z2 hcq hm1
  cases hq : cbQ ⟨ML, AL, DL⟩
  · obtain ⟨e5, he5, h50⟩ : ∃ e5, failR 1 (i4, e4) = (i4, e5) ∧ ¬ e5 = 0 := by
      unfold failR
      by_cases h : e4 = 0
      · exact ⟨1, by rw [if_pos h], by decide⟩
      · exact ⟨e4, by rw [if_neg h], h⟩
    have HER : Far (gbErr l = e5) := far (by
      unfold gbErr
      rw [HGB.out]
      simp only [hq]
      unfold failR at he5
      by_cases h : e4 = 0
      · rw [if_pos h] at he5 ⊢
        cases he5; rfl
      · rw [if_neg h] at he5 ⊢
        cases he5; rfl)
    have HBT : Far (gbBt l = ⟨[], [], []⟩) := far (by unfold gbBt; rw [HER.out, if_neg h50])
    have d0 : (e5 == 0) = false := by simpa using h50
    have HE5 := far he5
    clear he5 hq
    go_wp2_with fail
    refine (rd_fail 1 h7).mono ?_
    rintro e w8 ⟨rfl, h8, hT8⟩
    rw [HE5.out] at h8
    have q2 : w8.cell? ⟨w.heap.size + 1, 2, none⟩ = some (.int .i64 e5) := h8.c2
    have b2i := hT8.box b2h hq2
    have hX8 := hT8.ext hX7 (by omega)
    have x0 : w8.cell? ⟨w.heap.size, 0, none⟩ = some (.slice none 0 0) := b2i.cell 0
    have x1 : w8.cell? ⟨w.heap.size, 1, none⟩ = some (.slice none 0 0) := b2i.cell 1
    have x2 : w8.cell? ⟨w.heap.size, 2, none⟩ = some (.slice none 0 0) := b2i.cell 2
    have xf := b2i.free
    go_wp2_with fail
    go_region
    have b5 := (((b2i.set 0 (.slice none 0 0)).set 1 (.slice none 0 0)).set 2 (.slice none 0 0)).ext (Ext.refl _).drew
    have hE5 := (((hX8.setCell (p := ⟨w.heap.size, 0, none⟩) (Nat.le_refl _) (.slice none 0 0)).setCell (p := ⟨w.heap.size, 1, none⟩) (Nat.le_refl _) (.slice none 0 0)).setCell (p := ⟨w.heap.size, 2, none⟩) (Nat.le_refl _) (.slice none 0 0)).drew
    generalize hw5 : World.drew _ = w9 at b5 hE5 ⊢
    replace b5 : BoxAt w9 w.heap.size #[.slice none 0 0, .slice none 0 0, .slice none 0 0] 37 := b5
    go_wp2
    refine bodyPost_ret (v := .tuple #[.agg #[.slice none 0 0, .slice none 0 0, .slice none 0 0], .int .i64 e5]) ?_ rfl ⟨_, _, _, [], by rw [HER.out], by rw [HBT.out]; exact Got.none w9, by rw [HBT.out]; rfl, hE5⟩
    obtain ⟨z0, z1, z2⟩ := b5.bt
    simp [results, Tryz.results67, go_sem, z0, z1, z2]
    try rfl
  · have q2 : w7.cell? ⟨w.heap.size + 1, 2, none⟩ = some (.int .i64 e4) := h7.c2
    by_cases h50 : e4 = 0
    · subst h50
      have HER : Far (gbErr l = 0) := far (by unfold gbErr; rw [HGB.out]; simp [hq])
      clear hq
      have HBT : Far (gbBt l = ⟨ML, AL, DL⟩) := far (by unfold gbBt; rw [HER.out, if_pos rfl, HGB.out])
      have x0 : w7.cell? ⟨w.heap.size, 0, none⟩ = some (.slice none 0 0) := b2h.cell 0
      have x1 : w7.cell? ⟨w.heap.size, 1, none⟩ = some (.slice none 0 0) := b2h.cell 1
      have x2 : w7.cell? ⟨w.heap.size, 2, none⟩ = some (.slice none 0 0) := b2h.cell 2
      have xf := b2h.free
      have z0 : w7.cell? ⟨w1.heap.size, 0, none⟩ = some (.slice a1 ms.length c1) := b3h.cell 0
      have z1 : w7.cell? ⟨w1.heap.size, 1, none⟩ = some (.slice a2 AL.length c2) := b3h.cell 1
      have z2 : w7.cell? ⟨w1.heap.size, 2, none⟩ = some (.slice a3 DL.length c3) := b3h.cell 2
      have b5 := (((b2h.set 0 (.slice a1 ms.length c1)).set 1 (.slice a2 AL.length c2)).set 2 (.slice a3 DL.length c3))
      have G6 := ((G5.set 0 (.slice a1 ms.length c1) b2h).set 1 (.slice a2 AL.length c2) (b2h.set 0 (.slice a1 ms.length c1))).set 2 (.slice a3 DL.length c3) ((b2h.set 0 (.slice a1 ms.length c1)).set 1 (.slice a2 AL.length c2))
      have hE5 := (((hX7.setCell (p := ⟨w.heap.size, 0, none⟩) (Nat.le_refl _) (.slice a1 ms.length c1)).setCell (p := ⟨w.heap.size, 1, none⟩) (Nat.le_refl _) (.slice a2 AL.length c2)).setCell (p := ⟨w.heap.size, 2, none⟩) (Nat.le_refl _) (.slice a3 DL.length c3))
      go_wp2_with fail
      generalize hw9 : World.setCell (World.setCell (World.setCell w7 _ _) _ _) _ _ = w9 at b5 hE5 G6 ⊢
      replace b5 : BoxAt w9 w.heap.size #[.slice a1 ms.length c1, .slice a2 AL.length c2, .slice a3 DL.length c3] 37 := b5
      refine bodyPost_ret (v := .tuple #[.agg #[.slice a1 ms.length c1, .slice a2 AL.length c2, .slice a3 DL.length c3], .int .i64 0]) ?_ rfl ⟨_, _, _, ms, by rw [HER.out], by rw [HBT.out]; exact G6, by rw [HBT.out]; exact HM1.out, hE5⟩
      obtain ⟨z0, z1, z2⟩ := b5.bt
      simp [results, Tryz.results67, go_sem, z0, z1, z2]
      try rfl
    · have HER : Far (gbErr l = e4) := far (by unfold gbErr; rw [HGB.out]; exact if_neg h50)
      clear hq
      have HBT : Far (gbBt l = ⟨[], [], []⟩) := far (by unfold gbBt; rw [HER.out, if_neg h50])
      have d0 : (e4 == 0) = false := by simpa using h50
      have x0 : w7.cell? ⟨w.heap.size, 0, none⟩ = some (.slice none 0 0) := b2h.cell 0
      have x1 : w7.cell? ⟨w.heap.size, 1, none⟩ = some (.slice none 0 0) := b2h.cell 1
      have x2 : w7.cell? ⟨w.heap.size, 2, none⟩ = some (.slice none 0 0) := b2h.cell 2
      have xf := b2h.free
      go_wp2_with fail
      go_region
      have b5 := (((b2h.set 0 (.slice none 0 0)).set 1 (.slice none 0 0)).set 2 (.slice none 0 0)).ext (Ext.refl _).drew
      have hE5 := (((hX7.setCell (p := ⟨w.heap.size, 0, none⟩) (Nat.le_refl _) (.slice none 0 0)).setCell (p := ⟨w.heap.size, 1, none⟩) (Nat.le_refl _) (.slice none 0 0)).setCell (p := ⟨w.heap.size, 2, none⟩) (Nat.le_refl _) (.slice none 0 0)).drew
      generalize hw5 : World.drew _ = w9 at b5 hE5 ⊢
      replace b5 : BoxAt w9 w.heap.size #[.slice none 0 0, .slice none 0 0, .slice none 0 0] 37 := b5
      go_wp2
      refine bodyPost_ret (v := .tuple #[.agg #[.slice none 0 0, .slice none 0 0, .slice none 0 0], .int .i64 e4]) ?_ rfl ⟨_, _, _, [], by rw [HER.out], by rw [HBT.out]; exact Got.none w9, by rw [HBT.out]; rfl, hE5⟩
      obtain ⟨z0, z1, z2⟩ := b5.bt
      simp [results, Tryz.results67, go_sem, z0, z1, z2]
      try rfl
end Go.Proofs.YtimbikbbbfpeeaaGreatDoor

/- A store in memory. -/
namespace Go.Proofs.YtimbikbbbfpeeaaGreatDoor
open Go Go.RowKit

/-- A store: its blocks, its shelf, its tables, its notes, its files. -/
structure Sto where
  ps : Nat
  pd : Nat
  mf : Nat
  mt : Nat
  pn : Nat
  mn : Nat
  log : ByteArray
  good : Nat
  F : Fl
  man : ByteArray
  ts : List Tb
  N : Fl
  fv : Value
  files : List Int
  last : Int
def Sto.tbl (s : Sto) : List Nat := s.mt :: blocksT s.ts
def Sto.blocks (s : Sto) : List Nat := [s.ps, s.pd, s.mf, s.pn, s.mn] ++ s.tbl
def Sto.q (s : Sto) : Sq := ⟨s.ts.map Tb.q, s.N⟩
def Sto.cells (s : Sto) : Array Value := #[.pointer (some ⟨s.pd, 0, none⟩), .map (some s.mt), .pointer (some ⟨s.pn, 0, none⟩), s.fv, .int .i64 s.last]
/-- In memory that has grown from W0 on; the rows' columns are at most C. -/
structure StoAt (W0 w : World) (C : Nat) (s : Sto) : Prop where
  tab : TabU W0
  base : Ext W0 w
  low : ∀ b ∈ s.blocks, W0.heap.size ≤ b
  box : BoxAt w s.ps s.cells 77
  shelf : ShelfAt w s.pd s.mf s.log s.good s.F s.man
  notes : NoteAt w s.pn s.mn s.N
  tabs : TbsAt w C s.mt s.ts
  fl : TIn w 3 s.fv s.files.length (kcells .i64 s.files)
  gn : Good s.N
  full : ∀ t ∈ s.ts, t.parts ≠ []
  len8 : s.ts.length ≤ 8
  mfn : s.mf ≠ s.mn
  mft : s.mf ∉ s.tbl
  mnt : s.mn ∉ s.tbl
section
variable {W0 w w' : World} {C : Nat} {s : Sto}
theorem StoAt.tabU (h : StoAt W0 w C s) : TabU w := h.tab.ext h.base
theorem StoAt.noBox (h : StoAt W0 w C s) {e : TypeId} (h1 : 77 ≠ e) (h2 : 72 ≠ e) (h3 : 116 ≠ e) (h4 : 99 ≠ e) : NoBox w s.blocks e := by
  unfold Sto.blocks Sto.tbl
  exact NoBox.app ((NoBox.box h.box h1).cons ((NoBox.box h.shelf.box h2).cons ((NoBox.files h.shelf.files e).cons ((NoBox.box h.notes.box h3).cons (NoBox.files h.notes.files e))))) (h.tabs.noBox h4)
theorem StoAt.lt (h : StoAt W0 w C s) : ∀ b ∈ s.blocks, b < w.heap.size := by
  intro b hb
  unfold Sto.blocks Sto.tbl at hb
  rcases List.mem_append.1 hb with hb | hb
  · simp only [List.mem_cons, List.not_mem_nil, or_false] at hb
    rcases hb with rfl | rfl | rfl | rfl | rfl
    · exact h.box.lt
    · exact h.shelf.box.lt
    · exact h.shelf.files.lt
    · exact h.notes.box.lt
    · exact h.notes.files.lt
  · exact h.tabs.lt b hb
theorem StoAt.mono {D : Nat} (h : StoAt W0 w C s) (hC : C ≤ D) : StoAt W0 w D s := { h with tabs := h.tabs.mono hC }
theorem StoAt.ext (h : StoAt W0 w C s) (hE : Ext w w') : StoAt W0 w' C s :=
  { h with base := h.base.trans hE, box := h.box.ext hE, shelf := h.shelf.ext hE, notes := h.notes.ext hE, tabs := h.tabs.ext hE, fl := h.fl.ext hE }
/-- What a touch of a store's blocks leaves of what was there before the store. -/
theorem StoAt.ext_touch (h : StoAt W0 w C s) {K : List Nat} (hT : Touch w w' K) (hK : ∀ b ∈ K, b ∈ s.blocks ∨ w.heap.size ≤ b) : Ext W0 w' :=
  hT.ext h.base fun k hk => (hK k hk).elim (h.low k) fun h1 => Nat.le_trans h.base.size h1
theorem Got.touchK {K : List Nat} {vm va vd : Value} {ms : List Mt} {A : List Nt} {D : List Int} (h : Got w vm va vd ms A D) (hT : Touch w w' K) (h1 : NoBox w K 54) (h2 : NoBox w K 66) (h3 : NoBox w K 216) (h4 : NoBox w K 32) (h5 : NoBox w K 3) : Got w' vm va vd ms A D :=
  ⟨hT.tin h1 h.mt, fun m hm => hT.rowsT h2 h3 (h.rows m hm), hT.tin h4 h.nt, hT.tin h5 h.it⟩
theorem StoAt.got (h : StoAt W0 w C s) {K : List Nat} {vm va vd : Value} {ms : List Mt} {A : List Nt} {D : List Int} (hg : Got w vm va vd ms A D) (hT : Touch w w' K) (hK : ∀ b ∈ K, b ∈ s.blocks ∨ w.heap.size ≤ b) : Got w' vm va vd ms A D := by
  have hn : ∀ e, 77 ≠ e → 72 ≠ e → 116 ≠ e → 99 ≠ e → NoBox w K e := fun e h1 h2 h3 h4 b hb Z hz => by
    rcases hK b hb with h' | h'
    · exact h.noBox h1 h2 h3 h4 b h' Z hz
    · have := hz.lt; omega
  exact hg.touchK hT (hn _ (by decide) (by decide) (by decide) (by decide)) (hn _ (by decide) (by decide) (by decide) (by decide)) (hn _ (by decide) (by decide) (by decide) (by decide)) (hn _ (by decide) (by decide) (by decide) (by decide)) (hn _ (by decide) (by decide) (by decide) (by decide))
theorem Sto.mem_shelf (s : Sto) {b : Nat} (h : b ∈ [s.pd] ∨ b ∈ [s.mf] ∨ b ∈ [s.mn]) : b ∈ s.blocks := by
  unfold Sto.blocks
  simp at h ⊢
  omega
/-- The boxes are of other types than one another, the maps are no boxes. -/
theorem StoAt.apart (h : StoAt W0 w C s) : s.ps ≠ s.pd ∧ s.ps ≠ s.mf ∧ s.ps ≠ s.pn ∧ s.ps ≠ s.mn ∧ s.pd ≠ s.pn ∧ s.pd ≠ s.mn ∧ s.pn ≠ s.mf ∧ s.ps ∉ s.tbl ∧ s.pd ∉ s.tbl ∧ s.pn ∉ s.tbl :=
  ⟨box_ne h.box h.shelf.box (by decide), fun e => NoBox.files h.shelf.files _ s.ps (by simp [e]) _ h.box, box_ne h.box h.notes.box (by decide), fun e => NoBox.files h.notes.files _ s.ps (by simp [e]) _ h.box, box_ne h.shelf.box h.notes.box (by decide),
    fun e => NoBox.files h.notes.files _ s.pd (by simp [e]) _ h.shelf.box, fun e => NoBox.files h.shelf.files _ s.pn (by simp [e]) _ h.notes.box, fun hb => h.tabs.noBox (by decide) _ hb _ h.box, fun hb => h.tabs.noBox (by decide) _ hb _ h.shelf.box, fun hb => h.tabs.noBox (by decide) _ hb _ h.notes.box⟩
end
end Go.Proofs.YtimbikbbbfpeeaaGreatDoor
