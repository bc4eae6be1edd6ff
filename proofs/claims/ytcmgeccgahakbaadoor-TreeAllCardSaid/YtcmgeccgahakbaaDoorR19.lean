/- clerestorylaw00.Part. -/
import Derived.Test.YtcmgeccgahakbaaDoorR18
import Derived.Test.YtcmgeccgahakbaaDoorR12
import Derived.Test.YtcmgeccgahakbaaDoorR4
import Derived.BigQuiet
import Derived.Test.YtcmgeccgahakbaaDoorR1
import Derived.Test.YtcmgeccgahakbaaDoorR2
set_option linter.unusedSimpArgs false
set_option linter.unusedVariables false
namespace Go.Proofs.YtcmgeccgahakbaaDoor
open Go Go.RowKit
attribute [local go_sem] yields yUpon ro8 pa3

/-- clerestorylaw00.Part. -/
theorem lpart8_any (k : ByteArray) (g : Int) (u : Value) (ps : List (Ro × Value)) (w : World) (h : RowsIn w u ps) (hlen : ps.length ≤ 10000) (hcl : ∀ p ∈ ps, p.1.cols.length ≤ 1000000) :
    Calls Tryd.prog 13 #[.agg #[.string k, .int .i64 g, u]] w fun e w' => ∃ v', e = .returned (.agg #[.string k, .int .i64 g, v']) ∧ ∃ qs, RowsT w' v' qs ∧ qs.map (·.1) = ps.map (·.1) ∧ Ext w w' := by
  obtain ⟨a0, a1, hE⟩ := boxes2 w (pa3 k g u) (pa3 ⟨#[]⟩ 0 (.slice none 0 0)) 24 24
  have h1 := h.ext hE
  go_enter Tryd.func13, Tryd.ntmps13
  go_wp2_with fail
  refine (copy8_any k g u ps _ h1 hlen hcl).mono ?_
  rintro e w1 ⟨v', rfl, qs, hr, hm, hE1⟩
  obtain ⟨av, cv, rfl⟩ := hr.shape
  have b1 := a1.ext hE1
  have hX1 := hE.trans hE1
  clear a0 a1 h1 hE hE1
  go_wp2_with (((guard_target =~ wpList _ _ _ (Oper.mk none (Op.store _ (Operand.tmp 2) (Operand.tmp 4)) _ _ _ _ :: _) _ _); go_must (refine storeBox rfl 24 (.tmp 2) (.tmp 4) rfl (w.heap.size + 1) _ _ _ (by rfl) (by rfl) (b1) (by kernel_rfl) (by rfl) (by simp [Value.oneCell']) ?_); intro w3 c3 g3))
  have hX3 := hX1.grown g3 (fun q hq => by cases hq; omega)
  have hr3 := hr.keep g3 b1 (by decide) (by decide)
  obtain ⟨z0, z1, z2⟩ := BoxAt.pa (k := k) (g := g) (u := .slice av qs.length cv) c3
  refine bodyPost_ret (v := .agg #[.string k, .int .i64 g, .slice av qs.length cv]) ?_ rfl ⟨_, rfl, qs, hr3, hm, hX3⟩
  simp [results, Tryd.results13, go_sem, Act.put, z0, z1, z2]
end Go.Proofs.YtcmgeccgahakbaaDoor

/- clerestorylaw00.Parts of any list of partitions. -/
namespace Go.Proofs.YtcmgeccgahakbaaDoor
open Go Go.RowKit
attribute [local go_sem] yields yUpon

set_option maxRecDepth 100000 in
set_option maxHeartbeats 16000000 in
theorem parts_any (v : Value) (L : List Pa) (w : World) (hin : PartsIn w v L) (hlen : L.length ≤ 1000000) (hrow : ∀ p ∈ L, p.ps.length ≤ 10000 ∧ ∀ q ∈ p.ps, q.1.cols.length ≤ 1000000) :
    Calls Tryd.prog 37 #[v] w fun e w' => ∃ v' M, ((e = .returned v' ∧ Ext w w') ∧ PartsT w' v' M) ∧ M.map Pa.data = L.map Pa.data ∧ ∀ q, v'.ownBlock = some q → w.heap.size ≤ q := by
  have HI := Lib.hid hin
  obtain ⟨a, cc, rfl, hcc, hccm, hcell⟩ := hin.get
  have HL := Lib.hid hcell
  have HRw := Lib.hid hrow
  clear hin hcell hrow
  obtain ⟨m, hm⟩ : ∃ m, m = L.length := ⟨_, rfl⟩
  have HM := Lib.hid hm
  rw [← hm] at hcc hlen HI ⊢
  clear hm
  go_enter Tryd.func37, Tryd.ntmps37
  go_wp2
  go_loopw [3, 4] (fun vb i wr => ∃ (k : Nat) (vo : Value) (M : List Pa), k ≤ m ∧ i = .int .i64 k ∧ vb = vo ∧ Hid (M.length = k) ∧ wr.ownsRow w.heap.size 24 3 vo k (paCells M) ∧ (∀ p ∈ M, RowsT wr p.rv p.ps) ∧ Hid (M.map Pa.data = (L.take k).map Pa.data) ∧ Ext w wr) (fun _ i _ => m - (intOf i).toNat)
  case atStart => exact ⟨0, _, [], Nat.zero_le _, rfl, rfl, Lib.hid rfl, World.ownsRow_nil _ _ _ _, nofun, Lib.hid rfl, Ext.refl _⟩
  case round =>
    obtain ⟨k, vo, M, hk, rfl, rfl, hMk, hown, hrows, HD, hE⟩ := hrel
    obtain ⟨ao, co, rfl⟩ := own_shape hown
    by_cases hkm : k < m
    · have hkl : k < L.length := by rw [← HM.out]; exact hkm
      obtain ⟨b, o, rfl, hpa⟩ := HL.out k hkl
      replace hpa := hpa.ext hE
      have hmem : L[k] ∈ L := List.getElem_mem hkl
      have hr := (HI.out.rows _ hmem).ext hE
      have HLo := Lib.hid (HRw.out _ hmem)
      obtain ⟨p, hp⟩ : ∃ p, p = L[k] := ⟨_, rfl⟩
      have HTK : Hid (L.take (k + 1) = L.take k ++ [p]) := Lib.hid (by rw [List.take_succ_eq_append_getElem hkl, hp])
      rw [← hp] at hpa hr HLo
      clear hp hmem
      obtain ⟨pk, pg, pu, ps⟩ := p
      obtain ⟨p0, p1, p2⟩ := hpa
      replace hr : RowsIn wr pu ps := hr
      replace p0 : wr.cell? ⟨b, o + k * 3, none⟩ = some (.string pk) := p0
      replace p1 : wr.cell? ⟨b, o + k * 3 + 1, none⟩ = some (.int .i64 pg) := p1
      replace p2 : wr.cell? ⟨b, o + k * 3 + 2, none⟩ = some pu := p2
      have HR := Lib.hid hr
      obtain ⟨au, cu, rfl, _⟩ := hr.get
      clear hr
      go_wp2_with (first
        | (go_at_call 13; go_must (refine (lpart8_any pk pg _ ps _ HR.out HLo.out.1 HLo.out.2).mono ?_); rintro e w6 ⟨v6, rfl, qs, hq6, hm6, hE6⟩; obtain ⟨a6, c6, rfl⟩ := hq6.shape; have HM6 := Lib.hid hm6; obtain ⟨nq, hnq⟩ : ∃ nq, nq = qs.length := ⟨_, rfl⟩; rw [← hnq] at hq6 ⊢; clear hnq hm6; have hown6 := ownsRow_ext hown hE6)
        | (at_builtin; go_must (refine appR info_Part und_Parts rfl (by decide) w6 rfl (.tmp 11) (.tmp 17) rfl w.heap.size (hE.trans hE6).le (.slice ao k co) k (paCells M) hown6 rfl 1 (pa3 pk pg (.slice a6 nq c6)) rfl rfl (by simp [pa3, Value.oneCell']) (by unfold maxLen; omega) (by omega) ?_); intro v7 w7 hown7 hg7))
      have hXa := (Ext.refl w6).alloc (.cells (pa3 pk pg (.slice a6 nq c6)) 24)
      have howna := ownsRow_ext hown6 hXa
      have hkr : ∀ {rv ps}, RowsT w6 rv ps → RowsT w7 rv ps := fun h => (h.ext hXa).keepOwn howna hg7 (by decide) (by decide)
      have hE7 : Ext w w7 := ((hE.trans hE6).trans hXa).grown hg7 (fun q hq => (hown6.lt q hq).1)
      go_roundw
      case rel =>
        refine ⟨k + 1, _, M ++ [⟨pk, pg, .slice a6 nq c6, qs⟩], hkm, by go_num, rfl, Lib.hid (by rw [List.length_append, hMk.out]; rfl), ?_, fun p hp => ?_, Lib.hid ?_, hE7⟩
        · rw [paCells_append]
          exact hown7
        · rcases List.mem_append.1 hp with hp | hp
          · exact hkr ((hrows p hp).ext hE6)
          · rw [List.mem_singleton.1 hp]
            exact hkr hq6
        · rw [HTK.out, List.map_append, HD.out, List.map_append]
          simp [Pa.data, HM6.out]
      case measure => simp [intOf]; omega
    · obtain rfl : k = m := by omega
      have hD := HD.out
      rw [HM.out, List.take_length] at hD
      have HD2 := Lib.hid hD
      have HTI : Hid (TIn wr 24 (.slice ao k co) M.length (paCells M)) := Lib.hid (by rw [hMk.out]; exact TIn.own hown)
      clear hD
      go_wp2
      go_ret
      exact ⟨_, M, ⟨⟨rfl, hE⟩, ⟨HTI.out, hrows⟩⟩, HD2.out, fun q hq => (hown.lt q hq).1⟩
end Go.Proofs.YtcmgeccgahakbaaDoor

/- clerestorylaw00.SameStrings of two slices that read alike. -/
namespace Go.Proofs.YtcmgeccgahakbaaDoor
open Go Go.RowKit
attribute [local go_sem] yields yUpon

set_option maxRecDepth 100000 in
set_option maxHeartbeats 2000000 in
theorem sameTs_any (v v' : Value) (l : List ByteArray) (w : World) (hin : TsIn w v l) (hin' : TsIn w v' l) :
    Calls Tryd.prog 42 #[v, v'] w fun e w' => e = .returned (.bool true) ∧ Ext w w' := by
  obtain ⟨a, c, rfl, hc, hcm, hcell⟩ := hin.get
  obtain ⟨a', c', rfl, hc', hcm', hcell'⟩ := hin'.get
  have HC := Lib.hid hcell
  have HC' := Lib.hid hcell'
  clear hcell hin hcell' hin'
  go_enter Tryd.func42, Tryd.ntmps42
  go_wp2
  go_loopw [5] (fun i wr => ∃ k : Nat, k ≤ l.length ∧ i = .int .i64 k ∧ Ext w wr) (fun i _ => l.length - (intOf i).toNat)
  case atStart => exact ⟨0, Nat.zero_le _, rfl, Ext.refl w⟩
  case round =>
    obtain ⟨k, hk, rfl, hE⟩ := hrel
    by_cases hlt : k < l.length
    · obtain ⟨b, o, rfl, hco⟩ := HC.out k hlt
      obtain ⟨b', o', rfl, hco'⟩ := HC'.out k hlt
      obtain ⟨x, hx⟩ : ∃ x, x = l[k] := ⟨_, rfl⟩
      rw [← hx] at hco hco'
      clear hx
      replace hco := hE.cell hco
      replace hco' := hE.cell hco'
      go_wp2
      go_quiet (fail)
      go_wp2
      go_roundw
      case rel => exact ⟨k + 1, by omega, by go_num, hE.drewN _⟩
      case measure => simp [intOf]; omega
    · go_wp2
      go_ret
      exact ⟨rfl, hE⟩
end Go.Proofs.YtcmgeccgahakbaaDoor

/- A world in which one block may have turned. -/
namespace Go.Proofs.YtcmgeccgahakbaaDoor
open Go Go.RowKit

/-- All blocks but one stay. -/
structure Touch9 (w w' : World) (q : Nat) : Prop where
  os : w'.os = w.os
  tape : w'.tape = w.tape
  output : w'.output = w.output
  size : w.heap.size ≤ w'.heap.size
  block : ∀ k, k < w.heap.size → k ≠ q → w'.heap[k]? = w.heap[k]?
theorem Touch9.set (w : World) {q : Nat} (i : Nat) (u : Value) : Touch9 w (w.setCell ⟨q, i, none⟩ u) q := ⟨rfl, rfl, rfl, by rw [Deep.nblk_setCell]; exact Nat.le_refl _, fun k _ hn => heap_setCell_other _ _ _ _ hn⟩
theorem Touch9.more {w a b : World} {q : Nat} (h : Touch9 w a q) (hE : Ext a b) : Touch9 w b q := ⟨hE.os.trans h.os, hE.tape.trans h.tape, hE.output.trans h.output, Nat.le_trans h.size hE.size, fun k hk hn => (hE.block k (Nat.lt_of_lt_of_le hk h.size)).trans (h.block k hk hn)⟩
theorem Touch9.grown {w a b : World} {q : Nat} {r : Option Nat} (h : Touch9 w a q) (hg : a.grownBy b r) (hr : ∀ k, r = some k → w.heap.size ≤ k) : Touch9 w b q := ⟨hg.os.trans h.os, hg.tape.trans h.tape, hg.output.trans h.output, Nat.le_trans h.size hg.size, fun k hk hn => (hg.block k (Nat.lt_of_lt_of_le hk h.size) (fun e => by have := hr k e.symm; omega)).trans (h.block k hk hn)⟩
theorem Touch9.put {w a : World} {q : Nat} (h : Touch9 w a q) (i : Nat) (u : Value) : Touch9 w (a.setCell ⟨q, i, none⟩ u) q := ⟨h.os, h.tape, h.output, by rw [Deep.nblk_setCell]; exact h.size, fun k hk hn => (heap_setCell_other _ _ _ _ hn).trans (h.block k hk hn)⟩
theorem Touch9.slice {w a : World} {q : Nat} (h : Touch9 w a q) {v : Value} {n : Nat} {xs : List Value} (hs : SliceIn w v n xs) (hv : ∀ b o k c, v = .slice (some ⟨b, o, none⟩) k c → b ≠ q) : SliceIn a v n xs := by
  obtain ⟨ad, c, rfl, hc, hcm, ha, hcell⟩ := hs
  refine ⟨ad, c, rfl, hc, hcm, ha, fun j x hj => ?_⟩
  obtain ⟨b, o, rfl, hx⟩ := hcell j x hj
  have hne := hv b o n c rfl
  have hl := World.block_lt_of_cell? w _ hx
  refine ⟨b, o, rfl, ?_⟩
  rw [World.cell?_of_block (w := w) (h.block b hl hne)]
  exact hx
theorem Touch9.box {w a : World} {q p : Nat} (h : Touch9 w a q) {cs : Array Value} {e : TypeId} (hb : BoxAt w p cs e) (hp : p ≠ q) : BoxAt a p cs e := by
  have hl := hb.lt
  unfold BoxAt at *
  rw [h.block p hl hp]; exact hb
theorem Touch9.ext {w0 w a : World} {q : Nat} (h : Touch9 w a q) (hE : Ext w0 w) (hq : w0.heap.size ≤ q) : Ext w0 a := ⟨h.os.trans hE.os, h.tape.trans hE.tape, h.output.trans hE.output, Nat.le_trans hE.size h.size, fun k hk => (h.block k (Nat.lt_of_lt_of_le hk hE.size) (by omega)).trans (hE.block k hk)⟩
theorem Touch9.put2 {w a : World} {q p : Nat} (h : Touch9 w a q) (hp : w.heap.size ≤ p) (i : Nat) (u : Value) : Touch9 w (a.setCell ⟨p, i, none⟩ u) q := ⟨h.os, h.tape, h.output, by rw [Deep.nblk_setCell]; exact h.size, fun k hk hn => (heap_setCell_other _ _ _ _ (by show k ≠ p; omega)).trans (h.block k hk hn)⟩
theorem slice_off {w : World} {q i : Nat} {u v : Value} {n : Nat} {xs : List Value} (h : SliceIn w v n xs) (hv : ∀ b o k c, v = .slice (some ⟨b, o, none⟩) k c → b ≠ q) : SliceIn (w.setCell ⟨q, i, none⟩ u) v n xs := by
  obtain ⟨a, c, rfl, hc, hcm, ha, hcell⟩ := h
  refine ⟨a, c, rfl, hc, hcm, ha, fun j x hj => ?_⟩
  obtain ⟨b, o, rfl, hx⟩ := hcell j x hj
  have hne := hv b o n c rfl
  refine ⟨b, o, rfl, ?_⟩
  rw [World.cell?_of_block (w := w) (heap_setCell_other _ _ _ _ hne)]
  exact hx
theorem off_blk {b0 q : Nat} (h : b0 ≠ q) (n0 c0 : Nat) : ∀ b o k c, (.slice (some ⟨b0, 0, none⟩) n0 c0 : Value) = .slice (some ⟨b, o, none⟩) k c → b ≠ q := by
  intro b o k c e
  cases e
  exact h

end Go.Proofs.YtcmgeccgahakbaaDoor
