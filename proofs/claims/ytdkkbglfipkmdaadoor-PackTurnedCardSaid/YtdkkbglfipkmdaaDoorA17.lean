/- A slice of bytes that comes in; a prefix of a slice of bytes; texts put together. -/
import Derived.Test.YtdkkbglfipkmdaaDoorA2
import Derived.Test.YtdkkbglfipkmdaaDoorA13
import Derived.Test.YtdkkbglfipkmdaaDoorA12
import Derived.Test.YtdkkbglfipkmdaaDoorA15
import Derived.Test.YtdkkbglfipkmdaaDoorA16
set_option linter.unusedSimpArgs false
set_option linter.unusedVariables false
namespace Go.Proofs.YtdkkbglfipkmdaaDoor
open Go Go.RowKit

theorem bytes_of_ints {w : World} {v : Value} {z : List Int} (h : IntsIn w v .u8 z) (hw : ∀ n ∈ z, (Lit.int .u8 n).wf = true) : ∃ l : List UInt8, BytesIn w v l := by
  refine ⟨z.map fun n => UInt8.ofNat n.toNat, ?_⟩
  have e : bcells (z.map fun n => UInt8.ofNat n.toNat) = kcells .u8 z := by
    unfold bcells kcells
    rw [List.map_map]
    refine List.map_congr_left fun n hn => ?_
    have := wf_u8 (hw n hn)
    simp only [Function.comp]
    rw [byte_of this.1 this.2]
  unfold BytesIn
  rw [e, List.length_map]
  exact h

theorem cs99 : (#[Value.int .u8 99] : Array Value).toList = bcells [99] := rfl
theorem BytesIn.cut {w : World} {a : Option Addr} {n c : Nat} {l m : List UInt8} (h : BytesIn w (.slice a n c) (l ++ m)) : BytesIn w (.slice a l.length c) l := by
  obtain ⟨a', c', e, hc, hcm, ha, hcell⟩ := h
  cases e
  exact ⟨a, c, rfl, by simp at hc; omega, hcm, ha, fun j u hj => hcell j u (by rw [bcells_append, List.getElem?_append_left (by have := (List.getElem?_eq_some_iff.1 hj).1; exact this)]; exact hj)⟩

theorem strz_app (l m : List UInt8) : str l ++ str m = str (l ++ m) := by
  apply ByteArray.ext
  simp [str]
end Go.Proofs.YtdkkbglfipkmdaaDoor

/- PackTurned: the law's walk. -/
namespace Go.Proofs.YtdkkbglfipkmdaaDoor
open Go Go.RowKit
attribute [local go_sem] yields yUpon

theorem ownB_form {w : World} {B : Nat} {v : Value} {l : List UInt8} (h : OwnB w B v l) (hn : 0 < l.length) : ∃ g c, v = .slice (some ⟨g, 0, none⟩) l.length c ∧ l.length ≤ c ∧ c ≤ maxLen := by
  obtain ⟨_, ⟨_, h0⟩ | ⟨g, c, cur, e, _, _, h1, h2, _⟩⟩ := h
  · omega
  · exact ⟨g, c, e, h1, h2⟩
theorem own_low {w : World} {B : Nat} {e : TypeId} {size : Nat} {v : Value} {n : Nat} {xs : List Value} (h : w.ownsRow B e size v n xs) : ∀ b o k c, v = .slice (some ⟨b, o, none⟩) k c → b < w.heap.size := by
  intro b o k c e
  subst e
  exact (h.lt b rfl).2

set_option maxRecDepth 100000 in
set_option maxHeartbeats 8000000 in
theorem law_packTurned (v0 : Value) (l : List Int) (at_ by_ : Int) (w : World) (hin : IntsIn w v0 .i64 l) (hT : TabU w) :
    Calls Tryd.prog 3 #[v0, .int .i64 at_, .int .u8 by_] w fun e w' => e = .returned (.bool true) ∧ Ext w w' := by
  have hin0 := hin
  obtain ⟨a0, c0, rfl, hc0, hcm0, _⟩ := hin
  unfold maxLen at hcm0
  by_cases h40 : 40 < (l.length : Int)
  · go_enter Tryd.func3, Tryd.ntmps3
    go_wp2_with (go_at_call 13; go_must (refine (awake9_any _ hT).mono ?_); rintro e w7 ⟨rfl, hE7⟩)
    go_ret
    exact ⟨rfl, hE7⟩
  have k1 := made_any _ l ⟨#[107]⟩ w hin0
  have K1 := Lib.hid k1
  clear k1 hin0
  obtain ⟨n0, hn0⟩ : ∃ n, n = l.length := ⟨_, rfl⟩
  rw [← hn0] at hc0 h40 K1 ⊢
  clear hn0
  go_enter Tryd.func3, Tryd.ntmps3
  go_wp2_with (go_at_call 15; go_must (refine K1.out.mono ?_); rintro e w1 ⟨p, rfl, hgen, hrt, hE1⟩; have hrt' := hrt; obtain ⟨ra, rc, hrv⟩ := hrt'.shape; rw [hrv] at hrt ⊢)
  have hk1 : (⟨#[107]⟩ : ByteArray).size ≤ 100 := by decide
  have hptB := gen_ptB hgen hk1
  have hwl := gen_whole hgen hk1
  rw [if_neg (show ¬ (⟨#[107]⟩ : ByteArray).size = 0 by decide)] at hwl
  have hpr : partR ⟨#[107]⟩ p.gone (p.ps.map (·.1)) = (wholeP ⟨#[107]⟩ p.gone (p.ps.map (·.1)), 0) := by unfold partR; rw [hptB, if_pos rfl, if_pos (by omega)]
  refine (pk_part ⟨#[107]⟩ p.gone _ p.ps w1 hrt.rows (gen_low hptB) (hT.ext hE1)).mono ?_
  rintro e w2 ⟨v2, rfl, ho2, hE2⟩
  rw [hpr] at ho2
  rw [hpr]
  simp only at ho2 ⊢
  obtain ⟨B, hB⟩ : ∃ B, B = wholeP ⟨#[107]⟩ p.gone (p.ps.map (·.1)) := ⟨_, rfl⟩
  rw [← hB] at ho2 hwl
  clear hpr hB
  obtain ⟨g2, c2, rfl, hc21, hc22⟩ := ownB_form ho2 (by omega)
  unfold maxLen at hc22
  obtain ⟨I, hI⟩ : ∃ I : Nat, (I : Int) = at_ % (B.length : Int) := ⟨(at_ % (B.length : Int)).toNat, by have := Int.emod_nonneg at_ (show (B.length : Int) ≠ 0 by omega); omega⟩
  have hIl : I < B.length := by have := Int.emod_lt_of_pos at_ (show (0 : Int) < (B.length : Int) by omega); omega
  have HI := Lib.hid hI.symm
  obtain ⟨x2, hx2⟩ : ∃ x : UInt8, B[I]? = some x := ⟨_, List.getElem?_eq_getElem hIl⟩
  have hc2 := World.ownsRow.cellAt ho2 I (by omega)
  have hf2 := World.ownsRow.frozenAt ho2 I
  rw [show (bcells B)[I]? = some (.int .u8 (x2.toNat : Int)) from (by simp [bcells, hx2])] at hc2
  have hB4 : ¬ (B.length : Int) < 4 := by omega
  clear hI hx2
  have hX1 := xor_u8 (x2.toNat : Int) by_
  obtain ⟨hs2, hg2⟩ := World.ownsRow.stored ho2 I (.int .u8 (bits BinOp.xor IntKind.u8 (x2.toNat : Int) by_))
  have hgw := (ho2.lt g2 rfl).1
  obtain ⟨C, hC⟩ : ∃ C, C = B.set I (UInt8.ofNat (bits BinOp.xor IntKind.u8 (x2.toNat : Int) by_).toNat) := ⟨_, rfl⟩
  have hCl : C.length = B.length := by rw [hC, List.length_set]
  have hbC : BytesIn (w2.setCell ⟨g2, I, none⟩ (.int .u8 (bits BinOp.xor IntKind.u8 (x2.toNat : Int) by_))) (.slice (some ⟨g2, 0, none⟩) B.length c2) C := by
    have e : (bcells B).set I (.int .u8 (bits BinOp.xor IntKind.u8 (x2.toNat : Int) by_)) = bcells C := by
      rw [hC]
      unfold bcells
      rw [List.map_set, byte_of hX1.1 hX1.2]
    rw [e] at hs2
    have h1 := SliceIn.of_owns hs2
    rw [← hCl] at h1 ⊢
    exact h1
  have hE3 : Ext w (w2.setCell ⟨g2, I, none⟩ (.int .u8 (bits BinOp.xor IntKind.u8 (x2.toNat : Int) by_))) := (hE1.trans hE2).grown hg2 (fun q hq => by cases hq; exact Nat.le_trans hE1.le hgw)
  have hCl2 := Lib.hid hCl
  have hCb : C.length ≤ 80000 := by omega
  clear hs2 hg2 hC hX1 hCl ho2
  go_wp2_with (first
    | (go_at_call 16; go_must (refine (place_any _ _ (by omega) (by omega) _).mono ?_); rintro e w7 ⟨rfl, rfl⟩; rw [HI.out])
    | ((guard_target =~ wpList _ _ _ (Oper.mk (some 46) _ _ _ _ _ :: _) _ _); go_must (refine wpList_cloneB (by rfl) (.const (.slice none 0 0)) (.tmp 45) rfl rfl (by rfl) hbC (by omega) ?_); intro v4 w4 ho4 hE4; obtain ⟨a4, c4, rfl⟩ := ownB_shapeP (id ho4)))
  refine (pk_getpart _ C w4 (OwnB.bytes ho4) (by omega) (own_low ho4) (hT.ext (hE3.trans hE4))).mono ?_
  rintro e w5 ⟨u5, ps5, rfl, hr5, hm5, hE5⟩
  replace hbC := (hbC.ext hE4).ext hE5
  have hE35 := (hE3.trans hE4).trans hE5
  generalize w2.setCell _ _ = w3 at hbC hE3 hE4
  clear hc2 hf2
  have hTx := hT.ext hE35
  obtain ⟨a5, c5, rfl⟩ := hr5.shape
  by_cases hg : gpErr C = 0
  · have hback := gp_back hg
    obtain ⟨⟨key, gone, rows⟩, hG⟩ : ∃ p, gpPt C = p := ⟨_, rfl⟩
    rw [hG] at hback hm5 ⊢
    rw [hg]
    simp only at hback hm5 ⊢
    rw [← hm5] at hback
    have hpr2 : partR key gone (ps5.map (·.1)) = (C, 0) := by unfold partR; rw [hback.1, if_pos rfl, hback.2.1, if_pos hback.2.2]
    have hlow5 := gen_low hback.1
    have hbx := BoxAt.made w5 (pa3 key gone (.slice a5 ps5.length c5)) 30
    have hE6 : Ext w5 (w5.alloc (.cells (pa3 key gone (.slice a5 ps5.length c5)) 30)) := (Ext.refl w5).alloc _
    have k6 := pk_part key gone _ ps5 (w5.alloc (.cells (pa3 key gone (.slice a5 ps5.length c5)) 30)) (hr5.rows.ext hE6) hlow5 (hTx.ext hE6)
    rw [hpr2] at k6
    have K6 := Lib.hid k6
    have hbC6 := hbC.ext hE6
    unfold pa3 at *
    clear hG hback hpr2 hm5 hlow5 k6 hbx
    go_wp2_with (first
      | (go_at_call 14; go_must (refine K6.out.mono ?_); rintro e w7 ⟨v7, rfl, ho7, hE7⟩; simp only at ho7; obtain ⟨a7, c7, rfl⟩ := ownB_shapeP (id ho7); have hbC7 := hbC6.ext hE7)
      | ((guard_target =~ wpList _ _ _ (Oper.mk (some 85) _ _ _ _ _ :: _) _ _); go_must (refine wpList_convert_bytes rfl 24 9 5 (.tmp 84) rfl und_bytes und_u8 und_string (OwnB.bytes ho7) ?_))
      | ((guard_target =~ wpList _ _ _ (Oper.mk (some 87) _ _ _ _ _ :: _) _ _); go_must (refine wpList_convert_bytes rfl 24 9 5 (.tmp 86) rfl und_bytes und_u8 und_string hbC7 ?_))
      | (go_at_call 13; go_must (refine (awake9_any _ (hTx.ext (hE6.trans hE7))).mono ?_); rintro e w8 ⟨rfl, hE8⟩))
    go_ret
    exact ⟨rfl, ((hE35.trans hE6).trans hE7).trans hE8⟩
  · have hnone := gp_none hg
    rw [hnone] at hm5 ⊢
    obtain rfl : ps5 = [] := by simpa using hm5
    obtain ⟨er, her⟩ : ∃ er, gpErr C = er := ⟨_, rfl⟩
    have hers := gp_er (B := C) (by omega)
    rw [her] at hg hers ⊢
    have hE6 : Ext w5 (w5.alloc (.cells #[.string ⟨#[]⟩, .int .i64 0, .slice a5 0 c5] 30)) := (Ext.refl w5).alloc _
    have hd0 : (er == 0) = false := by simpa using hg
    unfold pa3
    simp only [List.length_nil]
    clear her hnone
    rcases hers with rfl | rfl | rfl | rfl
    · exact absurd rfl hg
    all_goals
      go_wp2_with (go_at_call 13; go_must (refine (awake9_any _ (hTx.ext hE6)).mono ?_); rintro e w8 ⟨rfl, hE8⟩)
      go_ret
      exact ⟨rfl, (hE35.trans hE6).trans hE8⟩

theorem walk_packTurned (v0 : Value) (a1 a2 : Int) (W : World) (w0 : ∃ l : List Int, IntsIn W v0 .i64 l ∧ ∀ n ∈ l, (Lit.int .i64 n).wf = true) (_ : (Lit.int .i64 a1).wf = true) (_ : (Lit.int .u8 a2).wf = true) (hT : TabU W) :
    Calls Tryd.prog 3 #[v0, .int .i64 a1, .int .u8 a2] W fun e w' => e = .returned (.bool true) ∧ Ext W w' := by
  obtain ⟨l, hl, _⟩ := w0
  exact law_packTurned v0 l a1 a2 W hl hT
end Go.Proofs.YtdkkbglfipkmdaaDoor
