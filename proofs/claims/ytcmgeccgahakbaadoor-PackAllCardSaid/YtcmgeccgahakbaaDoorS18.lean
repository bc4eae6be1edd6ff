/- clerestorylaw00.Part. -/
import Derived.Test.YtcmgeccgahakbaaDoorS17
import Derived.Test.YtcmgeccgahakbaaDoorS12
import Derived.Test.YtcmgeccgahakbaaDoorS13
import Derived.Deep.RegionLaw
import Derived.Deep.AppendLies
import Derived.Test.YtcmgeccgahakbaaDoorS16
set_option linter.unusedSimpArgs false
set_option linter.unusedVariables false
namespace Go.Proofs.YtcmgeccgahakbaaDoor
open Go Go.RowKit
attribute [local go_sem] yields yUpon ro8 pa3

/-- clerestorylaw00.Part. -/
theorem lpart8_any (k : ByteArray) (g : Int) (u : Value) (ps : List (Ro × Value)) (w : World) (h : RowsIn w u ps) (hlen : ps.length ≤ 10000) (hcl : ∀ p ∈ ps, p.1.cols.length ≤ 1000000) :
    Calls Tryd.prog 13 #[.agg #[.string k, .int .i64 g, u]] w fun e w' => ∃ v', e = .returned (.agg #[.string k, .int .i64 g, v']) ∧ ∃ qs, RowsT w' v' qs ∧ qs.map (·.1) = ps.map (·.1) ∧ Ext w w' := by
  obtain ⟨a0, a1, hE⟩ := boxes2 w (pa3 k g u) (pa3 ⟨#[]⟩ 0 (.slice none 0 0)) 24 24
  have h1 := h.ext hE
  go_enter Tryd.func13, Tryd.ntmps13
  go_wp2_with fail
  refine (copy8_any k g u ps _ h1 hlen hcl).mono ?_
  rintro e w1 ⟨v', rfl, qs, hr, hm, hE1⟩
  obtain ⟨av, cv, rfl⟩ := hr.shape
  have b1 := a1.ext hE1
  have hX1 := hE.trans hE1
  clear a0 a1 h1 hE hE1
  go_wp2_with (((guard_target =~ wpList _ _ _ (Oper.mk none (Op.store _ (Operand.tmp 2) (Operand.tmp 4)) _ _ _ _ :: _) _ _); go_must (refine storeBox rfl 24 (.tmp 2) (.tmp 4) rfl (w.heap.size + 1) _ _ _ (by rfl) (by rfl) (b1) (by kernel_rfl) (by rfl) (by simp [Value.oneCell']) ?_); intro w3 c3 g3))
  have hX3 := hX1.grown g3 (fun q hq => by cases hq; omega)
  have hr3 := hr.keep g3 b1 (by decide) (by decide)
  obtain ⟨z0, z1, z2⟩ := BoxAt.pa (k := k) (g := g) (u := .slice av qs.length cv) c3
  refine bodyPost_ret (v := .agg #[.string k, .int .i64 g, .slice av qs.length cv]) ?_ rfl ⟨_, rfl, qs, hr3, hm, hX3⟩
  simp [results, Tryd.results13, go_sem, Act.put, z0, z1, z2]
end Go.Proofs.YtcmgeccgahakbaaDoor

/- clerestorylaw00.Muts. -/
namespace Go.Proofs.YtcmgeccgahakbaaDoor
open Go Go.RowKit
attribute [local go_sem] yields yUpon

set_option maxRecDepth 100000 in
set_option maxHeartbeats 16000000 in
theorem lmuts_any (vm : Value) (M : List Mt) (w : World) (hM : MtsIn w vm M) (hlen : M.length ≤ 1000000) (hrow : ∀ m ∈ M, m.pa.ps.length ≤ 10000 ∧ ∀ q ∈ m.pa.ps, q.1.cols.length ≤ 1000000) :
    Calls Tryd.prog 60 #[vm] w fun e w' => ∃ v' L, e = .returned v' ∧ MtsT w' v' L ∧ L.map Mt.q = M.map Mt.q ∧ Ext w w' := by
  have HROW := Lib.hid hM.rows
  obtain ⟨am, cm, rfl, hcm, hcmm, hgm⟩ := hM.get
  have HGM := Lib.hid hgm
  have HB := Lib.hid hrow
  clear hgm hrow hM
  obtain ⟨mn, hmn⟩ : ∃ n, n = M.length := ⟨_, rfl⟩
  rw [← hmn] at hcm hlen ⊢
  have HMN := Lib.hid hmn
  clear hmn
  go_enter Tryd.func60, Tryd.ntmps60
  go_wp2
  go_loopw [3, 4] (fun vb i wr => ∃ (k : Nat) (vo : Value) (D : List Mt), k ≤ mn ∧ i = .int .i64 (k : Int) ∧ vb = vo ∧ Hid (D.length = k) ∧ wr.ownsRow w.heap.size 64 4 vo k (mtCells D) ∧ Hid (∀ m ∈ D, RowsT wr m.pa.rv m.pa.ps) ∧ Hid (D.map Mt.q = (M.take k).map Mt.q) ∧ Ext w wr) (fun _ i _ => mn - (intOf i).toNat)
  case atStart => exact ⟨0, _, [], Nat.zero_le _, rfl, rfl, Lib.hid rfl, World.ownsRow_nil _ _ _ _, Lib.hid nofun, Lib.hid rfl, Ext.refl _⟩
  case round =>
    obtain ⟨k, vo, D, hk, rfl, rfl, hDk, hown, HRT, HD, hE⟩ := hrel
    obtain ⟨ua, uc, rfl⟩ := own_shape (id hown)
    by_cases hlt : k < mn
    · have hkF : k < M.length := by rw [← HMN.out]; exact hlt
      obtain ⟨b, o, rfl, ⟨g0, g1, g2, g3⟩⟩ := HGM.out k hkF
      obtain ⟨ra, rc, hrv⟩ : ∃ a c, (M[k]).pa.rv = .slice a (M[k]).pa.ps.length c := let ⟨a, c, e, _⟩ := (HROW.out _ (List.getElem_mem hkF)).get; ⟨a, c, e⟩
      have hrw := HROW.out _ (List.getElem_mem hkF)
      rw [hrv] at g3 hrw
      have HLo := Lib.hid (HB.out _ (List.getElem_mem hkF))
      have HTK : Hid ((M.take (k + 1)).map Mt.q = (M.take k).map Mt.q ++ [⟨(M[k]).table, ⟨(M[k]).pa.key, (M[k]).pa.gone, (M[k]).pa.ps.map (·.1)⟩⟩]) := Lib.hid (by rw [List.take_succ_eq_append_getElem hkF, List.map_append]; rfl)
      obtain ⟨t, ht⟩ : ∃ t, t = (M[k]).table := ⟨_, rfl⟩
      obtain ⟨ky, hky⟩ : ∃ t, t = (M[k]).pa.key := ⟨_, rfl⟩
      obtain ⟨gn, hgn⟩ : ∃ t, t = (M[k]).pa.gone := ⟨_, rfl⟩
      obtain ⟨ps, hps⟩ : ∃ t, t = (M[k]).pa.ps := ⟨_, rfl⟩
      rw [← ht] at g0 HTK
      rw [← hky] at g1 HTK
      rw [← hgn] at g2 HTK
      rw [← hps] at g3 hrw HLo HTK
      obtain ⟨rn, hrn⟩ : ∃ n, n = ps.length := ⟨_, rfl⟩
      rw [← hrn] at g3 hrw
      have HRW := Lib.hid hrw
      clear ht hky hgn hps hrv hrn hrw
      have hEd := hE.trans (Ext.refl wr).drew
      replace g0 := hEd.cell g0
      replace g1 := hEd.cell g1
      replace g2 := hEd.cell g2
      replace g3 := hEd.cell g3
      have hownd := ownsRow_ext hown (Ext.refl wr).drew
      have HRTd : Hid (∀ m ∈ D, RowsT wr.drew m.pa.rv m.pa.ps) := Lib.hid (fun m hm => (HRT.out m hm).ext (Ext.refl wr).drew)
      have t1 : decide ((k : Int) < (mn : Int)) = true := by simp; omega
      clear HRT hown hE
      obtain ⟨i0, hi, hz0, hz1, hz2⟩ := info_parts info_Mut
      go_wp2_with fail
      go_region_law (first
        | (go_simp; go_at_call 13; go_must (refine (lpart8_any ky gn _ ps _ (HRW.out.ext hEd) HLo.out.1 HLo.out.2).mono ?_); rintro e w5 ⟨v5, rfl, qs, hr5, hm5, hE5⟩; obtain ⟨qa, qc, rfl⟩ := hr5.shape; have HM5 := Lib.hid hm5; have hown5 := ownsRow_ext hownd hE5; replace g0 := hE5.cell g0)
        | (refine step_append_lies (w5.alloc (.cells (mt4 ⟨t, ⟨ky, gn, .slice qa qs.length qc, qs⟩⟩) 64)) rfl (.tmp 11) (.tmp 24) 25 rfl w.heap.size 64 i0 _ 4 64 und_Muts hi hz0 hz1 hz2 rfl (by decide) (.slice ua k uc) k (mtCells D) (by simp [Act.eval, Act.put]) (hown5.alloc _) ⟨w5.heap.size, 0, none⟩ 1 1 (mt4 ⟨t, ⟨ky, gn, .slice qa qs.length qc, qs⟩⟩).toList (by simp [Act.eval, Act.put]) rfl (fun j u hj => by rw [Addr.add_lit, Nat.zero_add, (BoxAt.made w5 (mt4 ⟨t, ⟨ky, gn, .slice qa qs.length qc, qs⟩⟩) 64).cell j]; simpa using hj) (by simp [mt4, Value.oneCell']) (by omega) (by unfold maxLen; omega) (by omega) (by have := (hEd.trans hE5).le; simp; omega) _ rfl ?_; intro g6 n6 w6 hown6 hg6 _ _))
      all_goals
        have hXa := (Ext.refl w5).alloc (.cells (mt4 ⟨t, ⟨ky, gn, .slice qa qs.length qc, qs⟩⟩) 64)
        have howna := ownsRow_ext hown5 hXa
        have hkr : ∀ {rv ps}, RowsT w5 rv ps → RowsT w6 rv ps := fun h => (h.ext hXa).keepOwn howna hg6 (by decide) (by decide)
        have hE6 : Ext w w6 := ((hEd.trans hE5).trans hXa).grown hg6 (fun q hq => (hown5.lt q hq).1)
        go_wp2_with fail
        go_roundw
        case rel =>
          refine ⟨k + 1, _, D ++ [⟨t, ⟨ky, gn, .slice qa qs.length qc, qs⟩⟩], hlt, by go_num, rfl, Lib.hid (by rw [List.length_append, hDk.out]; rfl), ?_, Lib.hid (fun m hm => ?_), Lib.hid ?_, hE6⟩
          · rw [mtCells_append]
            exact hown6
          · rcases List.mem_append.1 hm with hm | hm
            · exact hkr ((HRTd.out m hm).ext hE5)
            · rw [List.mem_singleton.1 hm]
              exact hkr hr5
          · rw [HTK.out, List.map_append, HD.out]
            simp [Mt.q, HM5.out]
        case measure => simp [intOf]; omega
    · obtain rfl : k = mn := by omega
      have hD := HD.out
      rw [HMN.out, List.take_length] at hD
      have HD2 := Lib.hid hD
      have HTI : Hid (TIn wr 64 (.slice ua k uc) D.length (mtCells D)) := Lib.hid (by rw [hDk.out]; exact TIn.own hown)
      clear hD
      go_wp2_with fail
      go_ret
      exact ⟨_, D, rfl, ⟨HTI.out, HRT.out⟩, HD2.out, hE⟩
end Go.Proofs.YtcmgeccgahakbaaDoor

/- pack's reader: note, mut. -/
namespace Go.Proofs.YtcmgeccgahakbaaDoor
open Go Go.RowKit
attribute [local go_sem] yields yUpon

def nt2 (n : Nt) : Array Value := #[.int .i64 n.id, .string n.body]
theorem BoxAt.nt {w : World} {p : Nat} {a b : Value} {e : TypeId} (h : BoxAt w p #[a, b] e) : w.cell? ⟨p, 0, none⟩ = some a ∧ w.cell? ⟨p, 1, none⟩ = some b := ⟨h.cell 0, h.cell 1⟩
theorem BoxAt.mt {w : World} {p : Nat} {a b c d : Value} {e : TypeId} (h : BoxAt w p #[a, b, c, d] e) : w.cell? ⟨p, 0, none⟩ = some a ∧ w.cell? ⟨p, 1, none⟩ = some b ∧ w.cell? ⟨p, 2, none⟩ = some c ∧ w.cell? ⟨p, 3, none⟩ = some d := ⟨h.cell 0, h.cell 1, h.cell 2, h.cell 3⟩

set_option maxRecDepth 100000 in
set_option maxHeartbeats 4000000 in
theorem rd_noteW {w : World} {q : Nat} {v : Value} {B : List UInt8} {s : Nat × Int} (h : RdAt w q v B s) :
    Calls Tryd.prog 72 #[.pointer (some ⟨q, 0, none⟩)] w fun e w' => e = .returned (.agg (nt2 (noteR B s).1)) ∧ RdAt w' q v B (noteR B s).2 ∧ Touch9 w w' q := by
  have hq := h.lt
  have hE0 := (Ext.refl w).alloc (.cells #[.int .i64 0, .string ⟨#[]⟩] 94)
  have b2 := BoxAt.made w #[.int .i64 0, .string ⟨#[]⟩] 94
  have h0 := h.ext hE0
  have hq2 : w.heap.size ≠ q := by omega
  unfold noteR
  obtain ⟨G, s1, hG⟩ : ∃ G s1, numR B s = (G, s1) := ⟨_, _, rfl⟩
  obtain ⟨X, s2, hX⟩ : ∃ X s2, txtR B s1 = (X, s2) := ⟨_, _, rfl⟩
  rw [hG]
  simp only
  rw [hX]
  have k1 := rd_number h0
  rw [hG] at k1
  simp only at k1 ⊢
  have K1 := Lib.hid k1
  have HX := Lib.hid hX
  clear k1 hX hG
  unfold nt2
  simp only
  go_enter Tryd.func72, Tryd.ntmps72
  go_wp2_with (go_at_call 74; go_must (refine K1.out.mono ?_); rintro e w1 ⟨rfl, h1, hT1⟩; have b21 := hT1.box b2 hq2; have hq3 : w1.heap.size ≠ q := (by have := h1.lt; omega))
  have b3 := BoxAt.made w1 #[.int .i64 (G : Int), .string ⟨#[]⟩] 94
  have hEa := (Ext.refl w1).alloc (.cells #[.int .i64 (G : Int), .string ⟨#[]⟩] 94)
  have h1a := h1.ext hEa
  have hT1a := (Touch9.of_ext hE0 q).trans (hT1.more hEa)
  have hle1 : w.heap.size ≤ w1.heap.size := by have := hE0.le; have := hT1.size; omega
  have hne23 : w.heap.size ≠ w1.heap.size := by have := b21.lt; omega
  refine (rd_text h1a).mono ?_
  rintro e w2 ⟨rfl, h2, hT2⟩
  rw [HX.out] at h2
  simp only at h2
  rw [HX.out]
  have b22 := hT2.box (b21.ext hEa) hq2
  have b32 := hT2.box b3 hq3
  have y1 : w2.cell? ⟨w1.heap.size, 1, none⟩ = some (.string ⟨#[]⟩) := b32.cell 1
  have yf := b32.free
  have P2 := rd_done1 h ⟨h2, hT1a.trans hT2⟩ hle1 1 (.string X)
  have b33 : BoxAt (w2.setCell ⟨w1.heap.size, 1, none⟩ (.string X)) w1.heap.size #[.int .i64 (G : Int), .string X] 94 := b32.set 1 _
  have b23 := b22.other hne23 1 (.string X)
  have z0 : (w2.setCell ⟨w1.heap.size, 1, none⟩ (.string X)).cell? ⟨w1.heap.size, 0, none⟩ = some (.int .i64 (G : Int)) := b33.cell 0
  have z1 : (w2.setCell ⟨w1.heap.size, 1, none⟩ (.string X)).cell? ⟨w1.heap.size, 1, none⟩ = some (.string X) := b33.cell 1
  have x0 : (w2.setCell ⟨w1.heap.size, 1, none⟩ (.string X)).cell? ⟨w.heap.size, 0, none⟩ = some (.int .i64 0) := b23.cell 0
  have x1 : (w2.setCell ⟨w1.heap.size, 1, none⟩ (.string X)).cell? ⟨w.heap.size, 1, none⟩ = some (.string ⟨#[]⟩) := b23.cell 1
  have xf := b23.free
  go_wp2_with fail
  refine bodyPost_ret (v := .agg #[.int .i64 (G : Int), .string X]) ?_ rfl ⟨rfl, rd_done1 h (rd_done1 h P2 (Nat.le_refl _) _ _) (Nat.le_refl _) _ _⟩
  generalize hW : World.setCell _ _ _ = w99
  have hb : BoxAt w99 w.heap.size #[.int .i64 (G : Int), .string X] 94 := by rw [← hW]; exact (b23.set 0 _).set 1 _
  obtain ⟨z0, z1⟩ := hb.nt
  simp [results, Tryd.results72, go_sem, z0, z1]
  try rfl

set_option maxRecDepth 100000 in
set_option maxHeartbeats 4000000 in
theorem rd_mutW {w : World} {q : Nat} {v : Value} {B : List UInt8} {s : Nat × Int} (h : RdAt w q v B s) :
    Calls Tryd.prog 70 #[.pointer (some ⟨q, 0, none⟩)] w fun e w' => ∃ u ps, e = .returned (.agg #[.string (mutR B s).1.table, .string (mutR B s).1.pt.key, .int .i64 (mutR B s).1.pt.gone, u]) ∧ RowsT w' u ps ∧ ps.map (·.1) = (mutR B s).1.pt.rows ∧ RdAt w' q v B (mutR B s).2 ∧ Touch9 w w' q := by
  have hq := h.lt
  have hbig := h.big
  have hE0 := (Ext.refl w).alloc (.cells #[.string ⟨#[]⟩, .string ⟨#[]⟩, .int .i64 0, .slice none 0 0] 64)
  have b2 := BoxAt.made w #[.string ⟨#[]⟩, .string ⟨#[]⟩, .int .i64 0, .slice none 0 0] 64
  have h0 := h.ext hE0
  have hq2 : w.heap.size ≠ q := by omega
  unfold mutR
  obtain ⟨X, s1, hX⟩ : ∃ X s1, txtR B s = (X, s1) := ⟨_, _, rfl⟩
  obtain ⟨Y, s2, hY⟩ : ∃ Y s2, txtR B s1 = (Y, s2) := ⟨_, _, rfl⟩
  have hYs : Y.size ≤ B.length := by have := txtR_size B s1; rw [hY] at this; exact this
  obtain ⟨⟨key, gone, rows⟩, ⟨pi, pe⟩, hP⟩ : ∃ p t, prtR Y.data.toList (0, s2.2) = (p, t) := ⟨_, _, rfl⟩
  rw [hX]
  simp only
  rw [hY]
  simp only
  rw [hP]
  simp only
  have k1 := rd_text h0
  rw [hX] at k1
  simp only at k1
  have K1 := Lib.hid k1
  have HY := Lib.hid hY
  have HP := Lib.hid hP
  clear k1 hX hY hP
  go_enter Tryd.func70, Tryd.ntmps70
  go_wp2_with fail
  refine K1.out.mono ?_
  rintro e w1 ⟨rfl, h1, hT1⟩
  have b21 := hT1.box b2 hq2
  have hq3 : w1.heap.size ≠ q := by have := h1.lt; omega
  have b3 := BoxAt.made w1 #[.string X, .string ⟨#[]⟩, .int .i64 0, .slice none 0 0] 64
  have hEa := (Ext.refl w1).alloc (.cells #[.string X, .string ⟨#[]⟩, .int .i64 0, .slice none 0 0] 64)
  have h1a := h1.ext hEa
  have hT1a := (Touch9.of_ext hE0 q).trans (hT1.more hEa)
  have hle1 : w.heap.size ≤ w1.heap.size := by have := hE0.le; have := hT1.size; omega
  have hne23 : w.heap.size ≠ w1.heap.size := by have := b21.lt; omega
  go_wp2_with fail
  refine (rd_text h1a).mono ?_
  rintro e w2 ⟨rfl, h2, hT2⟩
  rw [HY.out] at h2
  simp only at h2
  rw [HY.out]
  have b22 := hT2.box (b21.ext hEa) hq2
  have b32 := hT2.box b3 hq3
  have hq4 : w2.heap.size ≠ q := by have := h2.lt; omega
  obtain ⟨j2, e2⟩ := s2
  simp only at HP ⊢
  have hsz2 := hT2.size
  have hlt3 := b32.lt
  go_wp2_with ((guard_target =~ wpList _ _ _ (Oper.mk (some 11) _ _ _ _ _ :: _) _ _); go_must (refine wpList_strB (by rfl) (.tmp 10) rfl rfl (by unfold maxLen; omega) ?_); intro c3 w3 hby hE3 hsz3; have h3 := h2.ext hE3; have q2 : w3.cell? ⟨q, 2, none⟩ = some (.int .i64 e2) := h3.c2)
  have hin : RdAt (w3.alloc (.cells #[.slice (some ⟨w2.heap.size, 0, none⟩) Y.size c3, .int .i64 0, .int .i64 e2] 120)) (w2.heap.size + 1) (.slice (some ⟨w2.heap.size, 0, none⟩) Y.size c3) Y.data.toList (0, e2) :=
    ⟨BoxAt.madeN _ _ hsz3, hby.ext ((Ext.refl w3).alloc _), fun b o k c e => by cases e; omega, Nat.zero_le _, by rw [dat_size]; omega⟩
  refine (rd_part hin).mono ?_
  rintro e w5 ⟨u, ps, rfl, hr, hmap, hin5, hT5⟩
  rw [HP.out] at hin5 hmap
  simp only at hin5 hmap
  rw [HP.out]
  simp only
  have hr' := hr
  obtain ⟨ua, uc, rfl⟩ := hr'.shape
  have hE25 : Ext w2 w5 := hT5.ext (hE3.alloc _) (by omega)
  have hT25 := Touch9.of_ext hE25 q
  have h5 := h2.ext hE25
  have b25 := b22.ext hE25
  have b35 := b32.ext hE25
  have y1 : w5.cell? ⟨w1.heap.size, 1, none⟩ = some (.string ⟨#[]⟩) := b35.cell 1
  have y2 : w5.cell? ⟨w1.heap.size, 2, none⟩ = some (.int .i64 0) := b35.cell 2
  have y3 : w5.cell? ⟨w1.heap.size, 3, none⟩ = some (.slice none 0 0) := b35.cell 3
  have yf := b35.free
  have P5 := rd_done1 h (rd_done1 h (rd_done1 h ⟨h5, (hT1a.trans hT2).trans hT25⟩ hle1 1 (.string key)) hle1 2 (.int .i64 gone)) hle1 3 (.slice ua ps.length uc)
  have b36 : BoxAt (((w5.setCell ⟨w1.heap.size, 1, none⟩ (.string key)).setCell ⟨w1.heap.size, 2, none⟩ (.int .i64 gone)).setCell ⟨w1.heap.size, 3, none⟩ (.slice ua ps.length uc)) w1.heap.size #[.string X, .string key, .int .i64 gone, .slice ua ps.length uc] 64 := ((b35.set 1 (.string key)).set 2 (.int .i64 gone)).set 3 (.slice ua ps.length uc)
  have b26 := ((b25.other hne23 1 (.string key)).other hne23 2 (.int .i64 gone)).other hne23 3 (.slice ua ps.length uc)
  have hr6 := RowsT.set 3 (.slice ua ps.length uc) ((b35.set 1 (.string key)).set 2 (.int .i64 gone)) (by decide) (by decide) (RowsT.set 2 (.int .i64 gone) (b35.set 1 (.string key)) (by decide) (by decide) (RowsT.set 1 (.string key) b35 (by decide) (by decide) hr))
  have hneQ : w2.heap.size + 1 ≠ w1.heap.size := by omega
  have bQ := ((hin5.box.other hneQ 1 (.string key)).other hneQ 2 (.int .i64 gone)).other hneQ 3 (.slice ua ps.length uc)
  have qe : (((w5.setCell ⟨w1.heap.size, 1, none⟩ (.string key)).setCell ⟨w1.heap.size, 2, none⟩ (.int .i64 gone)).setCell ⟨w1.heap.size, 3, none⟩ (.slice ua ps.length uc)).cell? ⟨w2.heap.size + 1, 2, none⟩ = some (.int .i64 pe) := bQ.cell 2
  unfold pa3
  go_wp2_with fail
  generalize hw6 : World.setCell (World.setCell (World.setCell w5 _ _) _ _) _ _ = w6 at P5 b36 b26 hr6 bQ qe ⊢
  refine (rd_fail pe P5.1).mono ?_
  rintro e w7 ⟨rfl, h7, hT7⟩
  have b27 := hT7.box b26 hq2
  have b37 := hT7.box b36 hq3
  have hr7 := hr6.touch9 hT7 P5.1.box (by decide) (by decide)
  have z0 : w7.cell? ⟨w1.heap.size, 0, none⟩ = some (.string X) := b37.cell 0
  have z1 : w7.cell? ⟨w1.heap.size, 1, none⟩ = some (.string key) := b37.cell 1
  have z2 : w7.cell? ⟨w1.heap.size, 2, none⟩ = some (.int .i64 gone) := b37.cell 2
  have z3 : w7.cell? ⟨w1.heap.size, 3, none⟩ = some (.slice ua ps.length uc) := b37.cell 3
  have x0 : w7.cell? ⟨w.heap.size, 0, none⟩ = some (.string ⟨#[]⟩) := b27.cell 0
  have x1 : w7.cell? ⟨w.heap.size, 1, none⟩ = some (.string ⟨#[]⟩) := b27.cell 1
  have x2 : w7.cell? ⟨w.heap.size, 2, none⟩ = some (.int .i64 0) := b27.cell 2
  have x3 : w7.cell? ⟨w.heap.size, 3, none⟩ = some (.slice none 0 0) := b27.cell 3
  have xf := b27.free
  have P7 := rd_done1 h (rd_done1 h (rd_done1 h (rd_done1 h ⟨h7, P5.2.trans hT7⟩ (Nat.le_refl _) 0 (.string X)) (Nat.le_refl _) 1 (.string key)) (Nat.le_refl _) 2 (.int .i64 gone)) (Nat.le_refl _) 3 (.slice ua ps.length uc)
  have hr8 := RowsT.set 3 (.slice ua ps.length uc) (((b27.set 0 (.string X)).set 1 (.string key)).set 2 (.int .i64 gone)) (by decide) (by decide) (RowsT.set 2 (.int .i64 gone) ((b27.set 0 (.string X)).set 1 (.string key)) (by decide) (by decide) (RowsT.set 1 (.string key) (b27.set 0 (.string X)) (by decide) (by decide) (RowsT.set 0 (.string X) b27 (by decide) (by decide) hr7)))
  go_wp2_with fail
  refine bodyPost_ret (v := .agg #[.string X, .string key, .int .i64 gone, .slice ua ps.length uc]) ?_ rfl ⟨_, ps, rfl, hr8, hmap, P7⟩
  generalize hW : World.setCell _ _ _ = w99
  have hb : BoxAt w99 w.heap.size #[.string X, .string key, .int .i64 gone, .slice ua ps.length uc] 64 := by rw [← hW]; exact (((b27.set 0 _).set 1 _).set 2 _).set 3 _
  obtain ⟨z0, z1, z2, z3⟩ := hb.mt
  simp [results, Tryd.results70, go_sem, z0, z1, z2, z3]
  try rfl
end Go.Proofs.YtcmgeccgahakbaaDoor

/- pack's reader: lists of mutations, notes, numbers. -/
namespace Go.Proofs.YtcmgeccgahakbaaDoor
open Go Go.RowKit
attribute [local go_sem] yields yUpon

theorem info_noteP : (Tryd.prog.info? 94).map (fun i => (i.zero, i.size, i.bytes)) = some (some (.agg #[.int .i64 0, .string ⟨#[]⟩]), 2, 24) := by kernel_rfl
theorem und_notesP : Tryd.prog.underlying 26 = some (.slice 94) := by kernel_rfl
theorem info_intP : (Tryd.prog.info? 3).map (fun i => (i.zero, i.size, i.bytes)) = some (some (.int .i64 0), 1, 8) := by kernel_rfl
theorem und_intsP : Tryd.prog.underlying 27 = some (.slice 3) := by kernel_rfl

set_option maxRecDepth 100000 in
set_option maxHeartbeats 4000000 in
theorem rd_notesW {w : World} {q : Nat} {v : Value} {B : List UInt8} {s : Nat × Int} (h : RdAt w q v B s) :
    Calls Tryd.prog 71 #[.pointer (some ⟨q, 0, none⟩), .func (.func 72) #[] #[]] w fun e w' => ∃ u, e = .returned u ∧ w'.ownsRow w.heap.size 94 2 u (listR B (noteR B) s).1.length ((listR B (noteR B) s).1.flatMap Nt.cells) ∧ RdAt w' q v B (listR B (noteR B) s).2 ∧ Touch9 w w' q := by
  have hq := h.lt
  obtain ⟨R, hR⟩ : ∃ R, R = listR B (noteR B) s := ⟨_, rfl⟩
  rw [← hR]
  obtain ⟨N, s1, hN⟩ : ∃ N s1, cntR B s = (N, s1) := ⟨_, _, rfl⟩
  unfold listR at hR
  have hbn := cntR_big h.le h.big
  have k1 := rd_count h
  rw [hN] at hR k1 hbn
  simp only at hR k1 hbn
  have K1 := Lib.hid k1
  have HR := Lib.hid hR
  clear k1 hR hN
  go_enter Tryd.func71, Tryd.ntmps71
  go_wp2_with (go_at_call 117; go_must (refine K1.out.mono ?_); rintro e w1 ⟨rfl, h1, hT1⟩)
  go_loopw [5, 6] (fun u n wr => ∃ (k : Nat) (D : List Nt) (t : Nat × Int), D.length + k ≤ N ∧ n = .int .i64 (k : Int) ∧ wr.ownsRow w.heap.size 94 2 u D.length (D.flatMap Nt.cells) ∧ RdAt wr q v B t ∧ Touch9 w wr q ∧ Hid (R = (D ++ (manyR (noteR B) k t).1, (manyR (noteR B) k t).2))) (fun _ n _ => (intOf n).toNat)
  case atStart => exact ⟨N, [], s1, by simp, rfl, World.ownsRow_nil _ _ _ _, h1, hT1, HR⟩
  case round =>
    obtain ⟨k, D, t, hDk, rfl, hown, ht, hTr, HX⟩ := hrel
    have hsz := hTr.size
    obtain ⟨i, e⟩ := t
    have c2 : wr.cell? ⟨q, 2, none⟩ = some (.int .i64 e) := ht.c2
    have hou := hown
    obtain ⟨ua, uc, rfl⟩ := own_shape hou
    clear hou
    by_cases hk : 0 < k
    · have hkd : decide ((0 : Int) < (k : Int)) = true := decide_eq_true (by omega)
      by_cases he : e = 0
      · subst he
        obtain ⟨C, t2, hC⟩ : ∃ C t2, noteR B (i, 0) = (C, t2) := ⟨_, _, rfl⟩
        have HC := Lib.hid hC
        clear hC
        go_wp2_with fail
        refine (rd_noteW ht).mono ?_
        rintro e w5 ⟨rfl, h5, hT5⟩
        rw [HC.out] at h5
        simp only at h5
        rw [HC.out]
        obtain ⟨id, body⟩ := C
        have hE6 := (Ext.refl w5).alloc (.cells #[.int .i64 id, .string body] 94)
        have hown5 := hT5.owns hown hq
        have hown6 := ownsRow_ext hown5 hE6
        have h6 := h5.ext hE6
        have hT6 := hTr.trans (hT5.more hE6)
        have hsz5 := (hTr.trans hT5).size
        unfold nt2 at *
        simp only
        go_wp2_with (at_builtin; go_must (refine appR info_noteP und_notesP rfl (by decide) w5 rfl (.tmp 20) (.tmp 24) rfl w.heap.size hsz5 _ D.length (D.flatMap Nt.cells) hown5 (by rfl) 1 _ (by rfl) (by rfl) (by simp [Value.oneCell']) (by unfold maxLen; omega) (by omega) ?_); intro v9 w9 ho9 hg9; have ho9' := ho9; obtain ⟨a9, c9, rfl⟩ := own_shape ho9')
        obtain ⟨k', rfl⟩ : ∃ k', k = k' + 1 := ⟨k - 1, by omega⟩
        go_roundw
        case rel =>
          refine ⟨k', D ++ [⟨id, body⟩], t2, by simp; omega, by go_num, by rw [List.length_append, List.flatMap_append]; simpa [Nt.cells] using ho9, h6.grownOwn h hT6 hown6 hg9 (Nat.le_refl _), hT6.grown hg9 (fun b hb => (hown6.lt b hb).1), ?_⟩
          show R = _
          rw [HX.out, manyR_step _ _ _ rfl, HC.out]
          simp only [List.append_assoc, List.singleton_append]
        case measure => simp [intOf] <;> omega
      · have e0 : manyR (noteR B) k (i, e) = ([], (i, e)) := manyR_stop _ _ _ (.inr he)
        have e1 : R = (D, (i, e)) := by rw [HX.out, e0]; simp only [List.append_nil]
        go_wp2_with fail
        go_ret
        rw [e1]
        exact ⟨_, rfl, hown, ht, hTr⟩
    · have e0 : manyR (noteR B) k (i, e) = ([], (i, e)) := manyR_stop _ _ _ (.inl (by omega))
      have e1 : R = (D, (i, e)) := by rw [HX.out, e0]; simp only [List.append_nil]
      obtain rfl : k = 0 := by omega
      go_wp2_with fail
      go_ret
      rw [e1]
      exact ⟨_, rfl, hown, ht, hTr⟩

set_option maxRecDepth 100000 in
set_option maxHeartbeats 4000000 in
theorem rd_intsW {w : World} {q : Nat} {v : Value} {B : List UInt8} {s : Nat × Int} (h : RdAt w q v B s) :
    Calls Tryd.prog 73 #[.pointer (some ⟨q, 0, none⟩), .func (.func 74) #[] #[]] w fun e w' => ∃ u, e = .returned u ∧ w'.ownsRow w.heap.size 3 1 u (listR B (numIR B) s).1.length (kcells .i64 (listR B (numIR B) s).1) ∧ RdAt w' q v B (listR B (numIR B) s).2 ∧ Touch9 w w' q := by
  have hq := h.lt
  obtain ⟨R, hR⟩ : ∃ R, R = listR B (numIR B) s := ⟨_, rfl⟩
  rw [← hR]
  obtain ⟨N, s1, hN⟩ : ∃ N s1, cntR B s = (N, s1) := ⟨_, _, rfl⟩
  unfold listR at hR
  have hbn := cntR_big h.le h.big
  have k1 := rd_count h
  rw [hN] at hR k1 hbn
  simp only at hR k1 hbn
  have K1 := Lib.hid k1
  have HR := Lib.hid hR
  clear k1 hR hN
  go_enter Tryd.func73, Tryd.ntmps73
  go_wp2_with (go_at_call 117; go_must (refine K1.out.mono ?_); rintro e w1 ⟨rfl, h1, hT1⟩)
  go_loopw [5, 6] (fun u n wr => ∃ (k : Nat) (D : List Int) (t : Nat × Int), D.length + k ≤ N ∧ n = .int .i64 (k : Int) ∧ wr.ownsRow w.heap.size 3 1 u D.length (kcells .i64 D) ∧ RdAt wr q v B t ∧ Touch9 w wr q ∧ Hid (R = (D ++ (manyR (numIR B) k t).1, (manyR (numIR B) k t).2))) (fun _ n _ => (intOf n).toNat)
  case atStart => exact ⟨N, [], s1, by simp, rfl, World.ownsRow_nil _ _ _ _, h1, hT1, HR⟩
  case round =>
    obtain ⟨k, D, t, hDk, rfl, hown, ht, hTr, HX⟩ := hrel
    have hsz := hTr.size
    obtain ⟨i, e⟩ := t
    have c2 : wr.cell? ⟨q, 2, none⟩ = some (.int .i64 e) := ht.c2
    have hou := hown
    obtain ⟨ua, uc, rfl⟩ := own_shape hou
    clear hou
    by_cases hk : 0 < k
    · have hkd : decide ((0 : Int) < (k : Int)) = true := decide_eq_true (by omega)
      by_cases he : e = 0
      · subst he
        obtain ⟨C, t2, hC⟩ : ∃ C t2, numR B (i, 0) = (C, t2) := ⟨_, _, rfl⟩
        have HC : Hid (numIR B (i, 0) = ((C : Int), t2)) := Lib.hid (by unfold numIR; rw [hC])
        have k5 := rd_number ht
        rw [hC] at k5
        have K5 := Lib.hid k5
        clear hC k5
        go_wp2_with fail
        refine K5.out.mono ?_
        rintro e w5 ⟨rfl, h5, hT5⟩
        simp only at h5 ⊢
        have hE6 := (Ext.refl w5).alloc (.cells #[.int .i64 (C : Int)] 3)
        have hown5 := hT5.owns hown hq
        have hown6 := ownsRow_ext hown5 hE6
        have h6 := h5.ext hE6
        have hT6 := hTr.trans (hT5.more hE6)
        have hsz5 := (hTr.trans hT5).size
        go_wp2_with (at_builtin; go_must (refine appR info_intP und_intsP rfl (by decide) w5 rfl (.tmp 20) (.tmp 24) rfl w.heap.size hsz5 _ D.length (kcells .i64 D) hown5 (by rfl) 1 _ (by rfl) (by rfl) (by simp [Value.oneCell']) (by unfold maxLen; omega) (by omega) ?_); intro v9 w9 ho9 hg9; have ho9' := ho9; obtain ⟨a9, c9, rfl⟩ := own_shape ho9')
        obtain ⟨k', rfl⟩ : ∃ k', k = k' + 1 := ⟨k - 1, by omega⟩
        go_roundw
        case rel =>
          refine ⟨k', D ++ [(C : Int)], t2, by simp; omega, by go_num, by rw [List.length_append]; simpa [kcells] using ho9, h6.grownOwn h hT6 hown6 hg9 (Nat.le_refl _), hT6.grown hg9 (fun b hb => (hown6.lt b hb).1), ?_⟩
          show R = _
          rw [HX.out, manyR_step _ _ _ rfl, HC.out]
          simp only [List.append_assoc, List.singleton_append]
        case measure => simp [intOf] <;> omega
      · have e0 : manyR (numIR B) k (i, e) = ([], (i, e)) := manyR_stop _ _ _ (.inr he)
        have e1 : R = (D, (i, e)) := by rw [HX.out, e0]; simp only [List.append_nil]
        go_wp2_with fail
        go_ret
        rw [e1]
        exact ⟨_, rfl, hown, ht, hTr⟩
    · have e0 : manyR (numIR B) k (i, e) = ([], (i, e)) := manyR_stop _ _ _ (.inl (by omega))
      have e1 : R = (D, (i, e)) := by rw [HX.out, e0]; simp only [List.append_nil]
      obtain rfl : k = 0 := by omega
      go_wp2_with fail
      go_ret
      rw [e1]
      exact ⟨_, rfl, hown, ht, hTr⟩

set_option maxRecDepth 100000 in
set_option maxHeartbeats 4000000 in
theorem rd_mutsW {w : World} {q : Nat} {v : Value} {B : List UInt8} {s : Nat × Int} (h : RdAt w q v B s) :
    Calls Tryd.prog 69 #[.pointer (some ⟨q, 0, none⟩), .func (.func 70) #[] #[]] w fun e w' => ∃ u ps, e = .returned u ∧ w'.ownsRow w.heap.size 64 4 u ps.length (mtCells ps) ∧ (∀ p ∈ ps, RowsT w' p.pa.rv p.pa.ps) ∧ ps.map Mt.q = (listR B (mutR B) s).1 ∧ RdAt w' q v B (listR B (mutR B) s).2 ∧ Touch9 w w' q := by
  have hq := h.lt
  obtain ⟨R, hR⟩ : ∃ R, R = listR B (mutR B) s := ⟨_, rfl⟩
  rw [← hR]
  obtain ⟨N, s1, hN⟩ : ∃ N s1, cntR B s = (N, s1) := ⟨_, _, rfl⟩
  unfold listR at hR
  have hbn := cntR_big h.le h.big
  have k1 := rd_count h
  rw [hN] at hR k1 hbn
  simp only at hR k1 hbn
  have K1 := Lib.hid k1
  have HR := Lib.hid hR
  clear k1 hR hN
  go_enter Tryd.func69, Tryd.ntmps69
  go_wp2_with (go_at_call 117; go_must (refine K1.out.mono ?_); rintro e w1 ⟨rfl, h1, hT1⟩)
  go_loopw [5, 6] (fun u n wr => ∃ (k : Nat) (D : List Mt) (t : Nat × Int), D.length + k ≤ N ∧ n = .int .i64 (k : Int) ∧ wr.ownsRow w.heap.size 64 4 u D.length (mtCells D) ∧ (∀ p ∈ D, RowsT wr p.pa.rv p.pa.ps) ∧ RdAt wr q v B t ∧ Touch9 w wr q ∧ Hid (R = (D.map Mt.q ++ (manyR (mutR B) k t).1, (manyR (mutR B) k t).2))) (fun _ n _ => (intOf n).toNat)
  case atStart => exact ⟨N, [], s1, by simp, rfl, World.ownsRow_nil _ _ _ _, nofun, h1, hT1, HR⟩
  case round =>
    obtain ⟨k, D, t, hDk, rfl, hown, hcs, ht, hTr, HX⟩ := hrel
    have hsz := hTr.size
    obtain ⟨i, e⟩ := t
    have c2 : wr.cell? ⟨q, 2, none⟩ = some (.int .i64 e) := ht.c2
    have hou := hown
    obtain ⟨ua, uc, rfl⟩ := own_shape hou
    clear hou
    have HCS := Lib.hid hcs
    clear hcs
    by_cases hk : 0 < k
    · have hkd : decide ((0 : Int) < (k : Int)) = true := decide_eq_true (by omega)
      by_cases he : e = 0
      · subst he
        obtain ⟨C, t2, hC⟩ : ∃ C t2, mutR B (i, 0) = (C, t2) := ⟨_, _, rfl⟩
        have HC := Lib.hid hC
        clear hC
        go_wp2_with fail
        refine (rd_mutW ht).mono ?_
        rintro e w5 ⟨cu, qs, rfl, hct, hmq, h5, hT5⟩
        rw [HC.out] at h5 hmq
        simp only at h5 hmq
        rw [HC.out]
        obtain ⟨table, ⟨key, gone, rows⟩⟩ := C
        simp only at hmq
        have hct' := hct
        obtain ⟨ca, cn, rfl⟩ := hct'.shape
        clear hct'
        have hE6 := (Ext.refl w5).alloc (.cells #[.string table, .string key, .int .i64 gone, .slice ca qs.length cn] 64)
        have hown5 := hT5.owns hown hq
        have hown6 := ownsRow_ext hown5 hE6
        have h6 := h5.ext hE6
        have hT6 := hTr.trans (hT5.more hE6)
        have hsz5 := (hTr.trans hT5).size
        have HMQ := Lib.hid hmq
        clear hmq
        simp only
        go_wp2_with (at_builtin; go_must (refine appR info_Mut und_Muts rfl (by decide) w5 rfl (.tmp 20) (.tmp 24) rfl w.heap.size hsz5 _ D.length (mtCells D) hown5 (by rfl) 1 _ (by rfl) (by rfl) (by simp [Value.oneCell']) (by unfold maxLen; omega) (by omega) ?_); intro v9 w9 ho9 hg9; have ho9' := ho9; obtain ⟨a9, c9, rfl⟩ := own_shape ho9')
        obtain ⟨k', rfl⟩ : ∃ k', k = k' + 1 := ⟨k - 1, by omega⟩
        go_roundw
        case rel =>
          refine ⟨k', D ++ [⟨table, ⟨key, gone, .slice ca qs.length cn, qs⟩⟩], t2, by simp; omega, by go_num, by rw [List.length_append, mtCells_append]; simpa [mtCells, mt4] using ho9, ?_, h6.grownOwn h hT6 hown6 hg9 (Nat.le_refl _), hT6.grown hg9 (fun b hb => (hown6.lt b hb).1), ?_⟩
          · intro p hp
            rcases List.mem_append.1 hp with hp | hp
            · have h1 := ((HCS.out p hp).touch9 hT5 ht.box (by decide) (by decide)).ext hE6
              exact ⟨TIn.keepOwn hown6 hg9 (by decide) h1.tin, fun r hr => TIn.keepOwn hown6 hg9 (by decide) (h1.typed r hr)⟩
            · rw [List.mem_singleton.1 hp]
              have h1 := RowsT.ext hE6 hct
              exact ⟨TIn.keepOwn hown6 hg9 (by decide) h1.tin, fun r hr => TIn.keepOwn hown6 hg9 (by decide) (h1.typed r hr)⟩
          · show R = _
            rw [HX.out, manyR_step _ _ _ rfl, HC.out]
            simp only [List.map_append, List.map_cons, List.map_nil, List.append_assoc, List.singleton_append]
            rw [show Mt.q ⟨table, ⟨key, gone, .slice ca qs.length cn, qs⟩⟩ = ⟨table, ⟨key, gone, rows⟩⟩ by unfold Mt.q; simp only; rw [HMQ.out]]
        case measure => simp [intOf] <;> omega
      · have e0 : manyR (mutR B) k (i, e) = ([], (i, e)) := manyR_stop _ _ _ (.inr he)
        have e1 : R = (D.map Mt.q, (i, e)) := by rw [HX.out, e0]; simp only [List.append_nil]
        go_wp2_with fail
        go_ret
        rw [e1]
        exact ⟨_, D, rfl, hown, HCS.out, rfl, ht, hTr⟩
    · have e0 : manyR (mutR B) k (i, e) = ([], (i, e)) := manyR_stop _ _ _ (.inl (by omega))
      have e1 : R = (D.map Mt.q, (i, e)) := by rw [HX.out, e0]; simp only [List.append_nil]
      obtain rfl : k = 0 := by omega
      go_wp2_with fail
      go_ret
      rw [e1]
      exact ⟨_, D, rfl, hown, HCS.out, rfl, ht, hTr⟩
end Go.Proofs.YtcmgeccgahakbaaDoor
