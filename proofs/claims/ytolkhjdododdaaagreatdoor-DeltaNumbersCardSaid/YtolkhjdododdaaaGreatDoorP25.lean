/- As Grow's boxes5: six, seven variables laid at the start. -/
import Derived.Test.YtolkhjdododdaaaGreatDoorP2
import Derived.Test.YtolkhjdododdaaaGreatDoorP24
import Derived.Test.YtolkhjdododdaaaGreatDoorP21
import Derived.Test.YtolkhjdododdaaaGreatDoorP22
import Derived.Test.YtolkhjdododdaaaGreatDoorP3
set_option linter.unusedSimpArgs false
set_option linter.unusedVariables false
namespace Go.Proofs.YtolkhjdododdaaaGreatDoor
open Go
theorem boxes6 (w : World) (A B C D F G : Array Value) (a b c d f g : TypeId) :
  BoxAt ((((((w.alloc (.cells A a)).alloc (.cells B b)).alloc (.cells C c)).alloc (.cells D d)).alloc (.cells F f)).alloc (.cells G g)) w.heap.size A a ∧ BoxAt ((((((w.alloc (.cells A a)).alloc (.cells B b)).alloc (.cells C c)).alloc (.cells D d)).alloc (.cells F f)).alloc (.cells G g)) (w.heap.size + 1) B b ∧ BoxAt ((((((w.alloc (.cells A a)).alloc (.cells B b)).alloc (.cells C c)).alloc (.cells D d)).alloc (.cells F f)).alloc (.cells G g)) (w.heap.size + 1 + 1) C c ∧ BoxAt ((((((w.alloc (.cells A a)).alloc (.cells B b)).alloc (.cells C c)).alloc (.cells D d)).alloc (.cells F f)).alloc (.cells G g)) (w.heap.size + 1 + 1 + 1) D d ∧ BoxAt ((((((w.alloc (.cells A a)).alloc (.cells B b)).alloc (.cells C c)).alloc (.cells D d)).alloc (.cells F f)).alloc (.cells G g)) (w.heap.size + 1 + 1 + 1 + 1) F f ∧ BoxAt ((((((w.alloc (.cells A a)).alloc (.cells B b)).alloc (.cells C c)).alloc (.cells D d)).alloc (.cells F f)).alloc (.cells G g)) (w.heap.size + 1 + 1 + 1 + 1 + 1) G g ∧ Ext w ((((((w.alloc (.cells A a)).alloc (.cells B b)).alloc (.cells C c)).alloc (.cells D d)).alloc (.cells F f)).alloc (.cells G g)) := by
 obtain ⟨h1, h2, h3, h4, h5, h6⟩ := boxes5 w A B C D F a b c d f
 exact ⟨h1.ext ((Ext.refl _).alloc _), h2.ext ((Ext.refl _).alloc _), h3.ext ((Ext.refl _).alloc _), h4.ext ((Ext.refl _).alloc _), h5.ext ((Ext.refl _).alloc _), BoxAt.madeN G g (by rw [Deep.nblk_alloc, Deep.nblk_alloc, Deep.nblk_alloc, Deep.nblk_alloc, Deep.nblk_alloc]), h6.alloc _⟩
theorem boxes7 (w : World) (A B C D F G I : Array Value) (a b c d f g i : TypeId) :
  BoxAt (((((((w.alloc (.cells A a)).alloc (.cells B b)).alloc (.cells C c)).alloc (.cells D d)).alloc (.cells F f)).alloc (.cells G g)).alloc (.cells I i)) w.heap.size A a ∧ BoxAt (((((((w.alloc (.cells A a)).alloc (.cells B b)).alloc (.cells C c)).alloc (.cells D d)).alloc (.cells F f)).alloc (.cells G g)).alloc (.cells I i)) (w.heap.size + 1) B b ∧ BoxAt (((((((w.alloc (.cells A a)).alloc (.cells B b)).alloc (.cells C c)).alloc (.cells D d)).alloc (.cells F f)).alloc (.cells G g)).alloc (.cells I i)) (w.heap.size + 1 + 1) C c ∧ BoxAt (((((((w.alloc (.cells A a)).alloc (.cells B b)).alloc (.cells C c)).alloc (.cells D d)).alloc (.cells F f)).alloc (.cells G g)).alloc (.cells I i)) (w.heap.size + 1 + 1 + 1) D d ∧ BoxAt (((((((w.alloc (.cells A a)).alloc (.cells B b)).alloc (.cells C c)).alloc (.cells D d)).alloc (.cells F f)).alloc (.cells G g)).alloc (.cells I i)) (w.heap.size + 1 + 1 + 1 + 1) F f ∧ BoxAt (((((((w.alloc (.cells A a)).alloc (.cells B b)).alloc (.cells C c)).alloc (.cells D d)).alloc (.cells F f)).alloc (.cells G g)).alloc (.cells I i)) (w.heap.size + 1 + 1 + 1 + 1 + 1) G g ∧ BoxAt (((((((w.alloc (.cells A a)).alloc (.cells B b)).alloc (.cells C c)).alloc (.cells D d)).alloc (.cells F f)).alloc (.cells G g)).alloc (.cells I i)) (w.heap.size + 1 + 1 + 1 + 1 + 1 + 1) I i ∧ Ext w (((((((w.alloc (.cells A a)).alloc (.cells B b)).alloc (.cells C c)).alloc (.cells D d)).alloc (.cells F f)).alloc (.cells G g)).alloc (.cells I i)) := by
 obtain ⟨h1, h2, h3, h4, h5, h6, h7⟩ := boxes6 w A B C D F G a b c d f g
 exact ⟨h1.ext ((Ext.refl _).alloc _), h2.ext ((Ext.refl _).alloc _), h3.ext ((Ext.refl _).alloc _), h4.ext ((Ext.refl _).alloc _), h5.ext ((Ext.refl _).alloc _), h6.ext ((Ext.refl _).alloc _), BoxAt.madeN I i (by rw [Deep.nblk_alloc, Deep.nblk_alloc, Deep.nblk_alloc, Deep.nblk_alloc, Deep.nblk_alloc, Deep.nblk_alloc]), h7.alloc _⟩
end Go.Proofs.YtolkhjdododdaaaGreatDoor

/- clerestoryref19.known. -/
namespace Go.Proofs.YtolkhjdododdaaaGreatDoor
open Go Go.RowKit
attribute [local go_sem] yields yUpon ro8 pa3 vw5 co5 cl4

/-- Operation n appends to columns of one's own; the others let memory grow. -/
def KnE (vo : Value) (B n j : Nat) (x y : World) : Prop := if j = n then (∃ m xs, x.ownsRow B 69 5 vo m xs) ∧ x.grownBy y vo.ownBlock else Ext x y
section
variable {vo : Value} {B n j : Nat} {x y : World}
theorem KnE_ext (hj : j ≠ n) (h : Ext x y) : KnE vo B n j x y := by unfold KnE; rw [if_neg hj]; exact h
theorem KnE_off (hj : j ≠ n) (h : KnE vo B n j x y) : Ext x y := by unfold KnE at h; rwa [if_neg hj] at h
theorem KnE_far {S B' : Nat} (hlt : ∀ q, vo.ownBlock = some q → B' ≤ q ∧ q < S) (h : KnE vo B n j x y) {b : Nat} (hb : S ≤ b) {cs : Array Value} {e : TypeId} (hx : BoxAt x b cs e) : BoxAt y b cs e := by
 unfold KnE at h
 split at h
 ·exact hx.grown h.2 (fun e => by have := (hlt _ e.symm).2; omega)
 ·exact hx.ext h
end
/-- The row under way. -/
structure KCs (w w0 : World) (q : Nat) (M : Ro) (vc : Value) (P : List Co) (S : Nat) (y : World) : Prop where
 extw : Ext w y
 keep : ∀ p cs T, BoxAt w0 p cs T → p ≠ q → BoxAt y p cs T
 box : BoxAt y q (ro8 M vc) 47
 own : y.ownsRow w0.heap.size 69 5 vc P.length (coCells P)
 size : S ≤ y.heap.size
 base : w0.heap.size ≤ y.heap.size
section
variable {w w0 : World} {q : Nat} {M : Ro} {vc : Value} {P : List Co} {S : Nat} {x y : World}
theorem KCs.ext (hE : Ext x y) (h : KCs w w0 q M vc P S x) : KCs w w0 q M vc P S y :=
 ⟨h.extw.trans hE, fun p cs T h1 h2 => (h.keep p cs T h1 h2).ext hE, h.box.ext hE, ownsRow_ext h.own hE, Nat.le_trans h.size hE.le, Nat.le_trans h.base hE.le⟩
theorem KCs.app (hw : w.heap.size ≤ w0.heap.size) (hq : q < w0.heap.size) (h : KCs w w0 q M vc P S x) (hg : x.grownBy y vc.ownBlock) (hown : y.ownsRow w0.heap.size 69 5 vc P.length (coCells P)) : KCs w w0 q M vc P S y := by
 have hne : ∀ p, some p = vc.ownBlock → w0.heap.size ≤ p := fun p hp => (h.own.lt p hp.symm).1
 exact ⟨h.extw.grown hg (fun p hp => by have := hne p hp.symm; omega), fun p cs T h1 h2 => (h.keep p cs T h1 h2).grown hg (fun e => by have := hne _ e; have := h1.lt; omega), h.box.grown hg (fun e => by have := hne _ e; omega), hown, Nat.le_trans h.size hg.size, Nat.le_trans h.base hg.size⟩
theorem KCs.put {v' : Value} {P' : List Co} (hwq : w.heap.size ≤ q) (hq : q < w0.heap.size) (h : KCs w w0 q M vc P S x) (hown : x.ownsRow w0.heap.size 69 5 v' P'.length (coCells P')) : KCs w w0 q M v' P' 0 (x.setCell ⟨q, 7, none⟩ v') :=
 ⟨h.extw.setCell (p := ⟨q, 7, none⟩) hwq _, fun p cs T h1 h2 => (h.keep p cs T h1 h2).other h2 _ _, h.box.set 7 _, ownsRow_setCell_below hown (a := ⟨q, 7, none⟩) hq _, Nat.zero_le _, by rw [Deep.nblk_setCell]; exact h.base⟩
end

set_option maxRecDepth 100000 in
set_option maxHeartbeats 8000000 in
theorem known19_any (x : Vw) (u : Value) (pk : ByteArray) (pg : Int) (pu : Value) (b : Ro) (vb : Value) (xk : ByteArray) (xg : Int) (xu : Value) (r : Ro) (v : Value) (w : World) (hin : ColsIn w v r.cols) (hlen : r.cols.length ≤ 100000) :
  Calls Tryz.prog 43 #[.agg #[.string x.name, .int .i64 x.id, .string x.table, .string x.on, u], .agg #[.string pk, .int .i64 pg, pu], (.agg #[.string b.key, .string b.live.val, .bool b.live.dead, .int .i64 b.live.at_, .int .i64 b.live.fin, .int .i64 b.gone, .int .i64 b.shade, vb]), .agg #[.string xk, .int .i64 xg, xu], (.agg #[.string r.key, .string r.live.val, .bool r.live.dead, .int .i64 r.live.at_, .int .i64 r.live.fin, .int .i64 r.gone, .int .i64 r.shade, v])] w fun e w' => ∃ v', e = .returned (.agg #[.string (kn19 x xk xg r b pg).key, .string (kn19 x xk xg r b pg).live.val, .bool (kn19 x xk xg r b pg).live.dead, .int .i64 (kn19 x xk xg r b pg).live.at_, .int .i64 (kn19 x xk xg r b pg).live.fin, .int .i64 (kn19 x xk xg r b pg).gone, .int .i64 (kn19 x xk xg r b pg).shade, v']) ∧ ColsT w' v' (kn19 x xk xg r b pg).cols ∧ Ext w w' := by
 obtain ⟨av, cv, rfl, hcv, hcvm, hget⟩ := hin.get
 obtain ⟨n, hn⟩ : ∃ n, n = r.cols.length := ⟨_, rfl⟩
 rw [← hn] at hin hcv hlen ⊢
 obtain ⟨a0, a1, a2, a3, a4, a5, a6, hE⟩ := boxes7 w #[.string x.name, .int .i64 x.id, .string x.table, .string x.on, u] #[.string pk, .int .i64 pg, pu] #[.string b.key, .string b.live.val, .bool b.live.dead, .int .i64 b.live.at_, .int .i64 b.live.fin, .int .i64 b.gone, .int .i64 b.shade, vb] #[.string xk, .int .i64 xg, xu] #[.string r.key, .string r.live.val, .bool r.live.dead, .int .i64 r.live.at_, .int .i64 r.live.fin, .int .i64 r.gone, .int .i64 r.shade, .slice av n cv] #[.string ⟨#[]⟩, .string ⟨#[]⟩, .bool false, .int .i64 0, .int .i64 0, .int .i64 0, .int .i64 0, .slice none 0 0] #[.string b.key, .string ⟨#[]⟩, .bool false, .int .i64 0, .int .i64 0, .int .i64 0, .int .i64 0, .slice none 0 0] 31 39 47 39 47 47 47
 obtain ⟨KR, hKR⟩ : ∃ K, K = kn19 x xk xg r b pg := ⟨_, rfl⟩
 rw [← hKR]
 have HKR := Lib.hid hKR
 have HN := Lib.hid hn
 have HGET := Lib.hid hget
 obtain ⟨G, hG⟩ : ∃ G, G = max r.gone xg := ⟨_, rfl⟩
 obtain ⟨H, hH⟩ : ∃ H, H = max b.gone pg := ⟨_, rfl⟩
 have HG := Lib.hid hG
 have HH := Lib.hid hH
 clear hG hH hn hget hKR
 go_enter Tryz.func43, Tryz.ntmps43
 go_wp2_with fail
 generalize World.alloc (World.alloc (World.alloc (World.alloc (World.alloc (World.alloc (World.alloc w _) _) _) _) _) _) _ = w0 at a0 a1 a2 a3 a4 a5 a6 hE ⊢
 have b0 : BoxAt w0 w.heap.size (vw5 x u) 31 := a0
 have b1 : BoxAt w0 (w.heap.size + 1) (pa3 pk pg pu) 39 := a1
 have b2 : BoxAt w0 (w.heap.size + 1 + 1) (ro8 b vb) 47 := a2
 have b3 : BoxAt w0 (w.heap.size + 1 + 1 + 1) (pa3 xk xg xu) 39 := a3
 have b4 : BoxAt w0 (w.heap.size + 1 + 1 + 1 + 1) (ro8 r (.slice av n cv)) 47 := a4
 have b5 : BoxAt w0 (w.heap.size + 1 + 1 + 1 + 1 + 1) (ro8 ⟨⟨#[]⟩, zeroCl, 0, 0, []⟩ (.slice none 0 0)) 47 := a5
 have b6 : BoxAt w0 (w.heap.size + 1 + 1 + 1 + 1 + 1 + 1) (ro8 ⟨b.key, zeroCl, 0, 0, []⟩ (.slice none 0 0)) 47 := a6
 have hin0 := hin.ext hE
 have l6 := b6.lt
 clear a0 a1 a2 a3 a4 a5 a6
 refine (gone7_any r (.slice av n cv) xg w0).mono ?_
 rw [← HG.out]
 rintro e w1 ⟨rfl, hE1⟩
 obtain ⟨x0, x1, x2, x3, x4, x5, x6, x7⟩ := (b2.ext hE1).ro
 obtain ⟨p0, p1, p2⟩ := (b1.ext hE1).pa
 go_wp2_with fail
 refine (gone7_any b vb pg w1).mono ?_
 rw [← HH.out]
 rintro e w2 ⟨rfl, hE2⟩
 have hE02 := hE1.trans hE2
 have hX2 := hE.trans hE02
 have c6 := b6.ext hE02
 clear x0 x1 x2 x3 x4 x5 x6 x7 p0 p1 p2 hE1 hE2
 go_upto_if 27 with fail
 go_cut [] from 15 (fun wc => ∃ kg, Hid (kg = if H < G then G else 0) ∧ BoxAt wc (w.heap.size + 1 + 1 + 1 + 1 + 1 + 1) (ro8 ⟨b.key, zeroCl, kg, 0, []⟩ (.slice none 0 0)) 47 ∧ BoxAt wc w.heap.size (vw5 x u) 31 ∧ BoxAt wc (w.heap.size + 1 + 1 + 1) (pa3 xk xg xu) 39 ∧ BoxAt wc (w.heap.size + 1 + 1 + 1 + 1) (ro8 r (.slice av n cv)) 47 ∧ BoxAt wc (w.heap.size + 1 + 1 + 1 + 1 + 1) (ro8 ⟨⟨#[]⟩, zeroCl, 0, 0, []⟩ (.slice none 0 0)) 47 ∧ Ext w wc)
 case first =>
  have yf := c6.free 5
  have y5 := c6.cell 5
  by_cases hGH : H < G
  ·have d0 : decide (H < G) = true := by simpa using hGH
   go_wp2_with fail
   go_meet
   case rel => exact ⟨G, Lib.hid (if_pos hGH).symm, c6.set 5 (.int .i64 G), (b0.ext hE02).other (by omega) _ _, (b3.ext hE02).other (by omega) _ _, (b4.ext hE02).other (by omega) _ _, (b5.ext hE02).other (by omega) _ _, hX2.setCell (p := ⟨w.heap.size + 1 + 1 + 1 + 1 + 1 + 1, 5, none⟩) (by show w.heap.size ≤ w.heap.size + 1 + 1 + 1 + 1 + 1 + 1; omega) _⟩
  ·have d0 : decide (H < G) = false := by simpa using hGH
   go_wp2_with fail
   go_meet
   case rel => exact ⟨0, Lib.hid (if_neg (by omega)).symm, c6, b0.ext hE02, b3.ext hE02, b4.ext hE02, b5.ext hE02, hX2⟩
 case rest =>
  obtain ⟨kg, HKG, c6, c0, c3, c4, c5, hXc⟩ := hcut
  clear b0 b1 b2 b3 b4 b5 b6 hE02 hX2 hE hin0
  obtain ⟨x0, x1, x2, x3, x4⟩ := c0.vw
  obtain ⟨t0, t1, t2, t3, t4, t5, t6, t7⟩ := c4.ro
  go_wp2_with fail
  obtain ⟨c7, hc7⟩ : ∃ c, c = cellOf r.cols x.on := ⟨_, rfl⟩
  refine (cell7_any r (.slice av n cv) x.on wc (hin.ext hXc)).mono ?_
  rw [← hc7]
  rintro e w3 ⟨rfl, hE3⟩
  have HC7 := Lib.hid hc7
  have l3 : w.heap.size + 1 + 1 + 1 + 1 + 1 + 1 < w3.heap.size := Nat.lt_of_lt_of_le c6.lt hE3.le
  clear hc7 x0 x1 x2 x3 x4 t0 t1 t2 t3 t4 t5 t6 t7
  go_upto_if 37 with (((guard_target =~ wpList _ _ _ (Oper.mk none (Op.store _ (Operand.tmp 13) (Operand.tmp 33)) _ _ _ _ :: _) _ _); go_must (refine storeBox rfl 44 (.tmp 13) (.tmp 33) rfl (w3.heap.size) _ _ _ (by rfl) (by rfl) ((BoxAt.made w3 #[.string ⟨#[]⟩, .bool false, .int .i64 0, .int .i64 0] 44)) (by kernel_rfl) (by rfl) (by simp [Value.oneCell']) ?_); intro w4 k4 g4); have hX4 : Ext wc w4 := hE3.trans (((Ext.refl w3).alloc _).grown g4 (fun q hq => by cases hq; omega)); have d4 : BoxAt w4 w3.heap.size (cl4 c7) 44 := k4; obtain ⟨t0, t1, t2, t3, t4, t5, t6, t7⟩ := (c4.ext hX4).ro)
  go_cut [] from 15 (fun wd => BoxAt wd (w.heap.size + 1 + 1 + 1 + 1 + 1 + 1) (ro8 ⟨b.key, zeroCl, kg, 0, []⟩ (.slice none 0 0)) 47 ∧ BoxAt wd w.heap.size (vw5 x u) 31 ∧ BoxAt wd (w.heap.size + 1 + 1 + 1 + 1) (ro8 r (.slice av n cv)) 47 ∧ BoxAt wd (w.heap.size + 1 + 1 + 1 + 1 + 1) (ro8 ⟨⟨#[]⟩, zeroCl, 0, 0, []⟩ (.slice none 0 0)) 47 ∧ BoxAt wd w3.heap.size (cl4 (on19 x xk r)) 44 ∧ Ext w wd)
  case first =>
   obtain ⟨k0, k1, k2, k3⟩ := d4.cl
   obtain ⟨p0, p1, p2⟩ := (c3.ext hX4).pa
   by_cases hl : 0 < r.live.at_
   ·have d0 : decide (0 < r.live.at_) = true := by simpa using hl
    go_wp2_with fail
    refine (rjoin_c c7.val c7.dead c7.at_ c7.fin xk false r.live.at_ r.live.fin w4).mono ?_
    rintro e w5 ⟨rfl, hE5⟩
    have d5 := d4.ext hE5
    go_wp2_with (((guard_target =~ wpList _ _ _ (Oper.mk none (Op.store _ (Operand.tmp 13) (Operand.tmp 48)) _ _ _ _ :: _) _ _); go_must (refine storeBox rfl 44 (.tmp 13) (.tmp 48) rfl (w3.heap.size) _ _ _ (by rfl) (by rfl) (d5) (by kernel_rfl) (by rfl) (by simp [Value.oneCell']) ?_); intro w6 k6 g6))
    have hX6 : Ext w w6 := ((hXc.trans hX4).trans hE5).grown g6 (fun q hq => by cases hq; omega)
    have ne : ∀ p, p < w3.heap.size → some p ≠ some w3.heap.size := fun p hp e => by have := Option.some.inj e; omega
    go_meet
    case rel =>
     refine ⟨((c6.ext hX4).ext hE5).grown g6 (ne _ (by omega)), ((c0.ext hX4).ext hE5).grown g6 (ne _ (by omega)), ((c4.ext hX4).ext hE5).grown g6 (ne _ (by omega)), ((c5.ext hX4).ext hE5).grown g6 (ne _ (by omega)), ?_, hX6⟩
     have ej : on19 x xk r = joinCl c7 ⟨xk, false, r.live.at_, r.live.fin⟩ := by unfold on19; rw [if_pos hl, HC7.out]
     rw [ej]
     exact k6
   ·have d0 : decide (0 < r.live.at_) = false := by simpa using hl
    go_wp2_with fail
    go_meet
    case rel => exact ⟨c6.ext hX4, c0.ext hX4, c4.ext hX4, c5.ext hX4, by unfold on19; rw [if_neg (by omega), ← HC7.out]; exact d4, hXc.trans hX4⟩
  case rest =>
   obtain ⟨f6, f0, f4, f5, f7, hXd⟩ := hcut
   clear c6 c0 c3 c4 c5 hXc d4 k4 g4 hX4 hE3 HC7 l6
   obtain ⟨on, hon⟩ : ∃ o, o = on19 x xk r := ⟨_, rfl⟩
   rw [← hon] at f7
   have HON := Lib.hid hon
   obtain ⟨q, hq⟩ : ∃ q, q = w.heap.size + 1 + 1 + 1 + 1 + 1 + 1 := ⟨_, rfl⟩
   rw [← hq] at f6 l3
   have hwq : w.heap.size ≤ q := by omega
   have lq := f6.lt
   have hwo : w.heap.size ≤ wc.heap.size := hXd.le
   have HQ := Lib.hid hq
   clear hon
   obtain ⟨wo, rfl⟩ : ∃ w', w' = wc := ⟨_, rfl⟩
   have hA0 : KCs w wo q ⟨b.key, zeroCl, kg, 0, []⟩ (.slice none 0 0) [] 0 wo := ⟨hXd, fun _ _ _ h _ => h, f6, World.ownsRow_nil _ _ _ _, Nat.zero_le _, Nat.le_refl _⟩
   rw [← hq]
   clear hq
   go_wp2_with fail
   go_loopw [14] (fun i wr => ∃ (k : Nat) (vc : Value) (P : List Co), k ≤ n ∧ i = .int .i64 k ∧ KCs w wo q ⟨b.key, zeroCl, kg, 0, []⟩ vc P 0 wr ∧ Hid (P = offL x.on (r.cols.take k)) ∧ P.length ≤ k) (fun i _ => n - (intOf i).toNat)
   case atStart => exact ⟨0, _, [], Nat.zero_le _, rfl, hA0, rfl, Nat.le_refl _⟩
   case round =>
    obtain ⟨k, vc, P, hk, rfl, hC, HP, hPk⟩ := hrel
    clear hA0
    have hqne : w.heap.size + 1 + 1 + 1 + 1 ≠ q := by rw [HQ.out]; omega
    obtain ⟨t0, t1, t2, t3, t4, t5, t6, t7⟩ := (hC.keep _ _ _ f4 hqne).ro
    by_cases hlt : k < n
    ·have hkc : k < r.cols.length := by rw [← HN.out]; exact hlt
     have hki : decide ((k : Int) < (n : Int)) = true := by simpa using hlt
     obtain ⟨bb, oo, rfl, hco⟩ := HGET.out k hkc
     obtain ⟨N, hN⟩ : ∃ N, N = r.cols[k] := ⟨_, rfl⟩
     have hT := offL_take x.on r.cols k hkc
     rw [← hN] at hco hT
     obtain ⟨B, hB⟩ : ∃ B, B = (N.name.toList == x.on.toList) := ⟨_, rfl⟩
     have hBs := hB.symm
     rw [← hB] at hT
     have HT := Lib.hid hT
     have HCO := Lib.hid hco
     obtain ⟨g0, g1, g2, g3, g4⟩ := hco.ext hC.extw
     obtain ⟨z0, z1, z2, z3, z4⟩ := (hC.keep _ _ _ f0 (by rw [HQ.out]; omega)).vw
     clear hN hT hB hco
     go_wp2_with fail
     refine wp_region_tab 9 [(8, fun v _ => v = .bool (!B))] (by kernel_rfl) (by kernel_rfl) (by kernel_rfl) ⟨stays_eq _, trivial⟩ ?_
     replace t7 := held t7
     replace g0 := held g0
     replace z3 := held z3
     refine rg_quiet rfl rfl rfl rfl ?_; intro K hK; go_big_quiet_op; go_big_quiet_on
     refine rg_quiet rfl rfl rfl rfl ?_; intro K hK; go_big_quiet_op; go_big_quiet_on
     refine rg_quiet rfl rfl rfl rfl ?_; intro K hK; go_big_quiet_op; go_big_quiet_on
     refine rg_quiet rfl rfl rfl rfl ?_; intro K hK; go_big_quiet_op; go_big_quiet_on
     refine rg_quiet rfl rfl rfl rfl ?_; intro K hK; go_big_quiet_op; go_big_quiet_on
     refine rg_quiet rfl rfl rfl rfl ?_; intro K hK; go_big_quiet_op; go_big_quiet_on
     refine rg_quiet rfl rfl rfl rfl ?_; intro K hK; go_big_quiet_op; go_big_quiet_on
     refine rg_quiet rfl rfl rfl rfl ?_; intro K hK; go_big_quiet_op; go_big_quiet_on
     refine rg_val [] rfl rfl rfl (by kernel_rfl) (fun y hY hf => ?_) ?_
     ·go_simp
      exact rg_done hY (Ext.refl y) (by first | rfl | rw [hBs])
     simp only [Act.put, List.setIfInBounds_toArray, List.set_cons_zero, List.set_cons_succ]
     refine rel_nil fun w6 hE6 _ => ?_
     have hC6 := hC.ext hE6
     clear t0 t1 t2 t3 t4 t5 t6 t7 g0 g1 g2 g3 g4 z0 z1 z2 z3 z4 hC hE6 hBs
     cases B
     ·have hT2 : offL x.on (r.cols.take (k + 1)) = P ++ [N] := by rw [HT.out, ← HP.out]; rfl
      have HT2 := Lib.hid hT2
      clear hT2 HT
      go_wp2_with fail
      obtain ⟨ac, cc, rfl⟩ := own_shape hC6.own
      refine wp_region_relE (KCs w wo q ⟨b.key, zeroCl, kg, 0, []⟩ (.slice ac P.length cc) P w6.heap.size) (KnE (.slice ac P.length cc) wo.heap.size 8) (Tab.atE [(1, fun v _ => v = .slice ac P.length cc), (3, fun v _ => v = .slice (some ⟨bb, oo, none⟩) n cv), (6, fun v _ => v = (.agg #[.string N.name, .string N.cell.val, .bool N.cell.dead, .int .i64 N.cell.at_, .int .i64 N.cell.fin])), (7, fun v x => ∃ b, v = .slice (some ⟨b, 0, none⟩) 1 1 ∧ w6.heap.size ≤ b ∧ BoxAt x b (co5 N) 69), (8, fun v x => x.ownsRow wo.heap.size 69 5 v (P.length + 1) (coCells (P ++ [N])))])
       (Tab.staysE ⟨fun _ _ _ _ _ _ h => h, fun _ _ _ _ _ _ h => h, fun _ _ _ _ _ _ h => h, fun _ _ _ _ _ hR ⟨b, e, hb, hx⟩ => ⟨b, e, hb, KnE_far hC6.own.lt hR hb hx⟩, fun _ hj _ _ _ hR h2 => ownsRow_ext h2 (KnE_off hj hR), trivial⟩)
       10 (by kernel_rfl) (by kernel_rfl) (by kernel_rfl) (KCs.ext (Ext.refl w6).drew ⟨hC6.extw, hC6.keep, hC6.box, hC6.own, Nat.le_refl _, hC6.base⟩) ?_
      refine relE_quiet rfl rfl rfl rfl ?_; intro K hK; go_big_quiet_op; (first | refine ⟨_, fun _ _ => rfl, hK _ ?_⟩ | refine hK _ ?_); clear hK K
      refine relE_val [] rfl rfl rfl (by kernel_rfl) (fun y hy hf => ?_) ?_
      ·obtain ⟨z0, z1, z2, z3, z4, z5, z6, z7⟩ := hy.box.ro
       go_simp
       exact ⟨hy, KnE_ext (by decide) (Ext.refl y), rfl⟩
      simp only [Act.put, List.setIfInBounds_toArray, List.set_cons_zero, List.set_cons_succ]
      refine relE_quiet rfl rfl rfl rfl ?_; intro K hK; go_big_quiet_op; (first | refine ⟨_, fun _ _ => rfl, hK _ ?_⟩ | refine hK _ ?_); clear hK K
      refine relE_val [] rfl rfl rfl (by kernel_rfl) (fun y hy hf => ?_) ?_
      ·obtain ⟨z0, z1, z2, z3, z4, z5, z6, z7⟩ := (hy.keep _ _ _ f4 hqne).ro
       go_simp
       exact ⟨hy, KnE_ext (by decide) (Ext.refl y), rfl⟩
      simp only [Act.put, List.setIfInBounds_toArray, List.set_cons_zero, List.set_cons_succ]
      refine relE_quiet rfl rfl rfl rfl ?_; intro K hK; go_big_quiet_op; (first | refine ⟨_, fun _ _ => rfl, hK _ ?_⟩ | refine hK _ ?_); clear hK K
      refine relE_quiet rfl rfl rfl rfl ?_; intro K hK; go_big_quiet_op; (first | refine ⟨_, fun _ _ => rfl, hK _ ?_⟩ | refine hK _ ?_); clear hK K
      refine relE_val [] rfl rfl rfl (by kernel_rfl) (fun y hy hf => ?_) ?_
      ·obtain ⟨z0, z1, z2, z3, z4⟩ := HCO.out.ext hy.extw
       go_simp
       exact ⟨hy, KnE_ext (by decide) (Ext.refl y), rfl⟩
      simp only [Act.put, List.setIfInBounds_toArray, List.set_cons_zero, List.set_cons_succ]
      refine relE_fact [] rfl rfl rfl (by kernel_rfl) (fun y hy hf => ?_) (fun v8 y8 hC8 hG8 h8 => ?_)
      ·go_simp
       exact ⟨hy.ext ((Ext.refl y).alloc _), KnE_ext (by decide) ((Ext.refl y).alloc _), _, rfl, hy.size, BoxAt.made y _ _⟩
      obtain ⟨b8, rfl, _⟩ := h8
      clear hC8 hG8
      simp only [Act.put, List.setIfInBounds_toArray, List.set_cons_zero, List.set_cons_succ]
      refine relE_fact [7] rfl rfl rfl (by kernel_rfl) (fun y hy hf => ?_) (fun v9 y9 hC9 hG9 h9 => ?_)
      ·obtain ⟨b', e, hb', hbox⟩ := (hf 7 (by simp)).2 rfl
       cases e
       refine yields_append info_Col und_Cols rfl (by decide) (.tmp 66) (.tmp 72) rfl wo.heap.size hy.base _ P.length (coCells P) hy.own (by rfl) b8 1 1 (co5 N).toList (by rfl) (by rfl) (fun j u hj => by rw [hbox.cell j]; simpa using hj) (by simp [co5, Value.oneCell']) (by unfold maxLen; omega) (by omega) ?_
       intro v' y' hown' hg hkeep
       have HR : KnE (.slice ac P.length cc) wo.heap.size 8 8 y y' := by unfold KnE; rw [if_pos rfl]; exact ⟨⟨_, _, hy.own⟩, hg⟩
       refine ⟨hy.app hwo lq hg hkeep, HR, ?_⟩
       rw [coCells_append]
       exact hown'
      obtain ⟨a9, c9, rfl⟩ := own_shape h9
      clear hC9 hG9 h9
      simp only [Act.put, List.setIfInBounds_toArray, List.set_cons_zero, List.set_cons_succ]
      refine relE_quiet rfl rfl rfl rfl ?_; intro K hK; go_big_quiet_op; (first | refine ⟨_, fun _ _ => rfl, hK _ ?_⟩ | refine hK _ ?_); clear hK K
      refine relE_tail rfl rfl fun y hy hG => ?_
      have hown' := (hG 8).2 rfl
      clear hG
      have qf := hy.box.free 7
      obtain ⟨z0, z1, z2, z3, z4, z5, z6, z7⟩ := hy.box.ro
      go_wp2_with fail
      go_roundw
      case rel => exact ⟨k + 1, _, P ++ [N], by omega, by go_num, hy.put hwq lq (by rw [List.length_append]; exact hown'), HT2.out.symm, by simp; omega⟩
      case measure => simp [intOf]; omega
     ·have hT2 : P = offL x.on (r.cols.take (k + 1)) := by rw [HT.out, ← HP.out]; exact (List.append_nil _).symm
      have HT2 := Lib.hid hT2
      clear hT2 HT
      go_wp2_with fail
      go_roundw
      case rel => exact ⟨k + 1, _, P, by omega, by go_num, hC6, HT2.out, by omega⟩
      case measure => simp [intOf]; omega
    ·obtain rfl : k = n := by omega
     have hPe : P = offL x.on r.cols := by rw [HP.out, List.take_of_length_le (by rw [← HN.out]; exact Nat.le_refl _)]
     have hkn : kn19 x xk xg r b pg = ⟨b.key, zeroCl, kg, 0, if 0 < on.at_ then mergeCo P [⟨x.on, on⟩] else P⟩ := by
      unfold kn19
      rw [hPe, ← HON.out, HKG.out, HG.out, HH.out]
     obtain rfl := HKR.out.trans hkn
     have HPE := Lib.hid hPe
     clear hkn hPe
     obtain ⟨ac, cc, rfl⟩ := own_shape hC.own
     have hq3 := f7.lt
     have hqn3 := box_ne f7 f6 (by decide)
     obtain ⟨k0, k1, k2, k3⟩ := (hC.keep _ _ _ f7 hqn3).cl
     obtain ⟨z0, z1, z2, z3, z4⟩ := (hC.keep _ _ _ f0 (by rw [HQ.out]; omega)).vw
     obtain ⟨y0, y1, y2, y3, y4, y5, y6, y7⟩ := hC.box.ro
     have b5 := hC.keep _ _ _ f5 (by rw [HQ.out]; omega)
     by_cases ho : 0 < on.at_
     ·have d0 : decide (0 < on.at_) = true := by simpa using ho
      go_wp2_with fail
      refine (put19c_any _ P ⟨x.on, on⟩ wr (ColsT.cols (TIn.own hC.own)) (by omega) (by rw [HPE.out]; exact offL_ne)).mono ?_
      rintro e w7 ⟨v7, rfl, hown7, hE7⟩
      obtain ⟨L7, hL7⟩ : ∃ L, L = mergeCo P [⟨x.on, on⟩] := ⟨_, rfl⟩
      rw [← hL7] at hown7
      obtain ⟨n7, hn7⟩ : ∃ n, n = L7.length := ⟨_, rfl⟩
      rw [← hn7] at hown7
      have HL7 := Lib.hid hL7
      have HN7 := Lib.hid hn7
      clear hL7 hn7
      obtain ⟨a7, cv7, rfl⟩ := own_shape hown7
      have hC7 := hC.ext hE7
      have qf := hC7.box.free 7
      have qc := hC7.box.cell 7
      have hlw := hC.box.lt
      clear y0 y1 y2 y3 y4 y5 y6 y7
      obtain ⟨w8, hW⟩ : ∃ w8, w7.setCell ⟨q, 7, none⟩ (.slice a7 n7 cv7) = w8 := ⟨_, rfl⟩
      have e8 : BoxAt w8 q (ro8 ⟨b.key, zeroCl, kg, 0, []⟩ (.slice a7 n7 cv7)) 47 := by rw [← hW]; exact hC7.box.set 7 _
      obtain ⟨y0, y1, y2, y3, y4, y5, y6, y7⟩ := e8.ro
      have b58 : BoxAt w8 (w.heap.size + 1 + 1 + 1 + 1 + 1) (ro8 ⟨⟨#[]⟩, zeroCl, 0, 0, []⟩ (.slice none 0 0)) 47 := by rw [← hW]; exact (b5.ext hE7).other (by rw [HQ.out]; omega) _ _
      have hown8 := ownsRow_setCell_below hown7 (a := ⟨q, 7, none⟩) (by show q < wr.heap.size + 1; omega) (.slice a7 n7 cv7)
      rw [hW] at hown8
      have hX8 : Ext w w8 := by rw [← hW]; exact hC7.extw.setCell (p := ⟨q, 7, none⟩) hwq _
      have HOWN8 := Lib.hid hown8
      clear hown8 hown7 hC7 hC e8 k0 k1 k2 k3 z0 z1 z2 z3 z4
      go_wp2_with (((guard_target =~ wpList _ _ _ (Oper.mk none (Op.store _ (Operand.tmp 10) (Operand.tmp 86)) _ _ _ _ :: _) _ _); go_must (refine storeBox rfl 47 (.tmp 10) (.tmp 86) rfl (w.heap.size + 1 + 1 + 1 + 1 + 1) _ _ _ (by rfl) (by rfl) (b58) (by kernel_rfl) (by rfl) (by simp [Value.oneCell']) ?_); intro w6 c6 g6))
      have hown8 := HOWN8.out
      have d6 : BoxAt w6 (w.heap.size + 1 + 1 + 1 + 1 + 1) (ro8 ⟨b.key, zeroCl, kg, 0, []⟩ (.slice a7 n7 cv7)) 47 := c6
      obtain ⟨z0, z1, z2, z3, z4, z5, z6, z7⟩ := d6.ro
      refine bodyPost_ret (v := (.agg #[.string (⟨b.key, zeroCl, kg, 0, mergeCo P [⟨x.on, on⟩]⟩ : Ro).key, .string (⟨b.key, zeroCl, kg, 0, mergeCo P [⟨x.on, on⟩]⟩ : Ro).live.val, .bool (⟨b.key, zeroCl, kg, 0, mergeCo P [⟨x.on, on⟩]⟩ : Ro).live.dead, .int .i64 (⟨b.key, zeroCl, kg, 0, mergeCo P [⟨x.on, on⟩]⟩ : Ro).live.at_, .int .i64 (⟨b.key, zeroCl, kg, 0, mergeCo P [⟨x.on, on⟩]⟩ : Ro).live.fin, .int .i64 (⟨b.key, zeroCl, kg, 0, mergeCo P [⟨x.on, on⟩]⟩ : Ro).gone, .int .i64 (⟨b.key, zeroCl, kg, 0, mergeCo P [⟨x.on, on⟩]⟩ : Ro).shade, (.slice a7 n7 cv7)])) ?_ rfl ⟨_, rfl, by rw [← HL7.out]; exact TIn.keep g6 b58 (by decide) (show TIn w8 69 (.slice a7 n7 cv7) L7.length (coCells L7) by rw [← HN7.out]; exact TIn.own hown8), hX8.grown g6 (fun q hq => by cases hq; omega)⟩
      simp [results, Tryz.results43, go_sem, z0, z1, z2, z3, z4, z5, z6, z7]
     ·have d0 : decide (0 < on.at_) = false := by simpa using ho
      go_wp2_with (((guard_target =~ wpList _ _ _ (Oper.mk none (Op.store _ (Operand.tmp 10) (Operand.tmp 86)) _ _ _ _ :: _) _ _); go_must (refine storeBox rfl 47 (.tmp 10) (.tmp 86) rfl (w.heap.size + 1 + 1 + 1 + 1 + 1) _ _ _ (by rfl) (by rfl) (b5) (by kernel_rfl) (by rfl) (by simp [Value.oneCell']) ?_); intro w6 c6 g6))
      have d6 : BoxAt w6 (w.heap.size + 1 + 1 + 1 + 1 + 1) (ro8 ⟨b.key, zeroCl, kg, 0, []⟩ (.slice ac P.length cc)) 47 := c6
      obtain ⟨z0, z1, z2, z3, z4, z5, z6, z7⟩ := d6.ro
      refine bodyPost_ret (v := (.agg #[.string (⟨b.key, zeroCl, kg, 0, P⟩ : Ro).key, .string (⟨b.key, zeroCl, kg, 0, P⟩ : Ro).live.val, .bool (⟨b.key, zeroCl, kg, 0, P⟩ : Ro).live.dead, .int .i64 (⟨b.key, zeroCl, kg, 0, P⟩ : Ro).live.at_, .int .i64 (⟨b.key, zeroCl, kg, 0, P⟩ : Ro).live.fin, .int .i64 (⟨b.key, zeroCl, kg, 0, P⟩ : Ro).gone, .int .i64 (⟨b.key, zeroCl, kg, 0, P⟩ : Ro).shade, (.slice ac P.length cc)])) ?_ rfl ⟨_, rfl, TIn.keep g6 b5 (by decide) (TIn.own hC.own), hC.extw.grown g6 (fun q hq => by cases hq; omega)⟩
      simp [results, Tryz.results43, go_sem, z0, z1, z2, z3, z4, z5, z6, z7]
end Go.Proofs.YtolkhjdododdaaaGreatDoor

/- clerestoryref08.CopyRow, Copy. -/
namespace Go.Proofs.YtolkhjdododdaaaGreatDoor
open Go Go.RowKit
attribute [local go_sem] yields yUpon ro8

set_option maxRecDepth 100000 in
set_option maxHeartbeats 4000000 in
theorem copyRow_any (r : Ro) (v : Value) (w : World) (h : ColsIn w v r.cols) (hlen : r.cols.length ≤ 1000000) :
  Calls Tryz.prog 59 #[(.agg #[.string r.key, .string r.live.val, .bool r.live.dead, .int .i64 r.live.at_, .int .i64 r.live.fin, .int .i64 r.gone, .int .i64 r.shade, v])] w fun e w' => ∃ v', e = .returned (.agg #[.string r.key, .string r.live.val, .bool r.live.dead, .int .i64 r.live.at_, .int .i64 r.live.fin, .int .i64 r.gone, .int .i64 r.shade, v']) ∧ ColsT w' v' r.cols ∧ Ext w w' := by
 obtain ⟨a0, a1, hE⟩ := boxes2 w (ro8 r v) (ro8 ⟨⟨#[]⟩, zeroCl, 0, 0, []⟩ (.slice none 0 0)) 47 47
 have h0 := h.ext hE
 obtain ⟨av, cv, rfl⟩ := h.shape
 obtain ⟨n, hn⟩ : ∃ n, n = r.cols.length := ⟨_, rfl⟩
 rw [← hn] at a0 a1 hE h0 hlen ⊢
 have HN := Lib.hid hn
 clear hn h
 go_enter Tryz.func59, Tryz.ntmps59
 go_wp2_with (first
  | (((guard_target =~ wpList _ _ _ (Oper.mk none (Op.store _ (Operand.tmp 3) (Operand.tmp 4)) _ _ _ _ :: _) _ _); go_must (refine storeBox rfl 47 (.tmp 3) (.tmp 4) rfl (w.heap.size + 1 + 1) _ _ _ (by rfl) (by rfl) ((BoxAt.madeN (ro8 ⟨⟨#[]⟩, zeroCl, 0, 0, []⟩ (.slice none 0 0)) 47 (by simp))) (by kernel_rfl) (by rfl) (by simp [Value.oneCell']) ?_); intro w4 c4 g4); have hX4 : Ext w w4 := (hE.alloc (.cells (ro8 ⟨⟨#[]⟩, zeroCl, 0, 0, []⟩ (.slice none 0 0)) 47)).grown g4 (fun q hq => by cases hq; omega); have b0 : BoxAt w4 w.heap.size (ro8 r (.slice av n cv)) 47 := (a0.ext ((Ext.refl _).alloc _)).grown g4 (fun e => by have := Option.some.inj e; omega); have b1 : BoxAt w4 (w.heap.size + 1) (ro8 ⟨⟨#[]⟩, zeroCl, 0, 0, []⟩ (.slice none 0 0)) 47 := (a1.ext ((Ext.refl _).alloc _)).grown g4 (fun e => by have := Option.some.inj e; omega); have h4 : ColsIn w4 (.slice av n cv) r.cols := h0.ext (((Ext.refl _).alloc (.cells (ro8 ⟨⟨#[]⟩, zeroCl, 0, 0, []⟩ (.slice none 0 0)) 47)).grown g4 (fun q hq => by cases hq; simp)); have y7 : w4.cell? ⟨w.heap.size, 7, none⟩ = some (.slice av n cv) := b0.cell 7)
  | ((guard_target =~ wpList _ _ _ (Oper.mk (some 7) _ _ _ _ _ :: _) _ _); go_must (refine wpList_cloneS rfl info_Col und_Cols rfl (by decide) (.const (.slice none 0 0)) (.tmp 6) rfl (by rfl) h4 (by rfl) (coCells_length _) (coCells_one _) (by unfold maxLen; have := HN.out; omega) (by have := HN.out; omega) ?_); intro v5 w5 hown5 hE5; obtain ⟨a5, c5, rfl⟩ := own_shape hown5; have d3 : BoxAt w5 (w.heap.size + 1 + 1) (ro8 r (.slice av n cv)) 47 := BoxAt.ext hE5 c4; have d1 := b1.ext hE5; obtain ⟨z0, z1, z2, z3, z4, z5, z6, z7⟩ := d3.ro; have zf := d3.free 7)
  | (((guard_target =~ wpList _ _ _ (Oper.mk none (Op.store _ (Operand.tmp 2) (Operand.tmp 9)) _ _ _ _ :: _) _ _); go_must (refine storeBox rfl 47 (.tmp 2) (.tmp 9) rfl (w.heap.size + 1) _ _ _ (by rfl) (by rfl) ((d1.other (by omega) 7 _)) (by kernel_rfl) (by rfl) (by simp [Value.oneCell']) ?_); intro w6 c6 g6); have hX6 : Ext w w6 := ((hX4.trans hE5).setCell (p := ⟨w.heap.size + 1 + 1, 7, none⟩) (by show w.heap.size ≤ w.heap.size + 1 + 1; omega) _).grown g6 (fun q hq => by cases hq; omega); have h6 : ColsT w6 (.slice a5 r.cols.length c5) r.cols := ColsT.keep g6 (d1.other (by omega) 7 _) (by decide) (TIn.set 7 _ d3 (by decide) (TIn.own hown5))))
 obtain ⟨z0, z1, z2, z3, z4, z5, z6, z7⟩ := BoxAt.ro (r := r) (v := .slice a5 r.cols.length c5) c6
 refine bodyPost_ret (v := (.agg #[.string r.key, .string r.live.val, .bool r.live.dead, .int .i64 r.live.at_, .int .i64 r.live.fin, .int .i64 r.gone, .int .i64 r.shade, (.slice a5 r.cols.length c5)])) ?_ rfl ⟨_, rfl, h6, hX6⟩
 simp [results, Tryz.results59, go_sem, Act.put, z0, z1, z2, z3, z4, z5, z6, z7]
end Go.Proofs.YtolkhjdododdaaaGreatDoor

/- clerestoryref08.CopyRow, Copy. -/

