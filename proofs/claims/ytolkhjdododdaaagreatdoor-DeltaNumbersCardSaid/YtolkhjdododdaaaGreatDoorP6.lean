/- L.Part: a partition by numbers. -/
import Derived.Test.YtolkhjdododdaaaGreatDoorP4
import Derived.Test.YtolkhjdododdaaaGreatDoorP5
set_option linter.unusedSimpArgs false
set_option linter.unusedVariables false
namespace Go.Proofs.YtolkhjdododdaaaGreatDoor
open Go Go.RowKit
attribute [local go_sem] yields yUpon ro8 pa3

/-- The key of a row by numbers. -/
def ik (k : Nat) : ByteArray := str (int8 (k : Int))
/-- Rows by numbers, of the first so many keys. -/
inductive GenRows : Nat → List Ro → Prop
 | nil : GenRows 0 []
 | skip {k l} : GenRows k l → GenRows (k + 1) l
 | put {k l r} : GenRows k l → GenRow r → r.key = ik k → GenRows (k + 1) (l ++ [r])
theorem GenRows.len {k : Nat} {l : List Ro} (h : GenRows k l) : l.length ≤ k := by
 induction h with
 | nil => exact Nat.le_refl 0
 | skip _ ih => omega
 | put _ _ _ ih => simp; omega

/-- The partition under way: its box, the box of the result, the numbers that are left. -/
structure PartAL (W w : World) (p : Nat) (key : ByteArray) (wr : World) (gone : Int) (qs : List (Ro × Value)) (vo : Value) : Prop where
 box : BoxAt wr (w.heap.size + 1) (pa3 key gone vo) 39
 res : BoxAt wr w.heap.size (pa3 ⟨#[]⟩ 0 (.slice none 0 0)) 39
 left : LeftIn W wr p
 grown : w.grownBy wr (some p)
 own : wr.ownsRow (w.heap.size + 2) 47 8 vo qs.length (roCells qs)
 typed : ∀ q ∈ qs, ColsT wr q.2 q.1.cols
/-- What stays true in the round's region. -/
structure PC (W w : World) (p : Nat) (key : ByteArray) (wr : World) (gone : Int) (qs : List (Ro × Value)) (vo : Value) (x : World) : Prop where
 al : PartAL W w p key x gone qs vo
 size : wr.heap.size ≤ x.heap.size
def RP (p : Nat) (vo : Value) (B j : Nat) (x y : World) : Prop :=
 if j = 7 then (∃ m xs, x.ownsRow B 47 8 vo m xs) ∧ x.grownBy y vo.ownBlock else (∃ v, BoxAt x p #[v] 42) ∧ x.grownBy y (some p)
theorem PartAL.ext {W w : World} {p : Nat} {key : ByteArray} {wr wx : World} {gone : Int} {qs : List (Ro × Value)} {vo : Value} (hE : Ext wr wx) (h : PartAL W w p key wr gone qs vo) : PartAL W w p key wx gone qs vo :=
 ⟨h.box.ext hE, h.res.ext hE, h.left.ext hE, grownBy_ext h.grown hE, ownsRow_ext h.own hE, fun q hq => (h.typed q hq).ext hE⟩
theorem PC.ext {W w : World} {p : Nat} {key : ByteArray} {wr x y : World} {gone : Int} {qs : List (Ro × Value)} {vo : Value} (hE : Ext x y) (h : PC W w p key wr gone qs vo x) : PC W w p key wr gone qs vo y := ⟨h.al.ext hE, Nat.le_trans h.size hE.le⟩
theorem LeftIn.box {W w : World} {p : Nat} (h : LeftIn W w p) : ∃ v, BoxAt w p #[v] 42 := let ⟨v, _, h, _⟩ := h; ⟨v, h⟩
theorem RP_ext {W : World} {p : Nat} {vo : Value} {B j : Nat} {x y : World} (hj : j ≠ 7) (hL : LeftIn W x p) (h : Ext x y) : RP p vo B j x y := by
 unfold RP
 rw [if_neg hj]
 exact ⟨hL.box, grownBy_ext (grownBy_refl x _) h⟩
theorem RP_far {p B : Nat} {vo : Value} {wr x y : World} {n : Nat} {xs : List Value} (hown : wr.ownsRow B 47 8 vo n xs) (hpl : p < wr.heap.size) {j : Nat} (h : RP p vo B j x y) {b : Nat} (hb : wr.heap.size ≤ b) {cs : Array Value} {e : TypeId} (hx : BoxAt x b cs e) : BoxAt y b cs e := by
 unfold RP at h
 split at h
 ·exact hx.grown h.2 (fun e => by have := (hown.lt _ e.symm).2; omega)
 ·exact hx.grown h.2 (fun e => by have := Option.some.inj e; omega)
theorem RP_cols {p B : Nat} {vo : Value} {x y : World} {j : Nat} (h : RP p vo B j x y) {v : Value} {l : List Co} (hc : ColsT x v l) : ColsT y v l := by
 unfold RP at h
 split at h
 ·obtain ⟨⟨m, xs, hown⟩, hg⟩ := h
  exact TIn.keepOwn hown hg (by decide) hc
 ·obtain ⟨⟨v, hb⟩, hg⟩ := h
  exact ColsT.keep hg hb (by decide) hc
theorem RP_own {w : World} {p : Nat} {vo : Value} (hpl : p < w.heap.size) {x y : World} {j : Nat} (hj : j ≠ 7) (h : RP p vo (w.heap.size + 2) j x y) {v : Value} {m : Nat} {xs : List Value} (hx : x.ownsRow (w.heap.size + 2) 47 8 v m xs) : y.ownsRow (w.heap.size + 2) 47 8 v m xs := by
 unfold RP at h
 rw [if_neg hj] at h
 refine hx.kept h.2 ?_
 cases e : v.ownBlock with
 | none => exact .inl rfl
 | some g => exact .inr (fun h => by have := (hx.lt g e).1; have := Option.some.inj h; omega)
theorem PartAL.call {W w : World} {p : Nat} {key : ByteArray} {wr x y : World} {gone : Int} {qs : List (Ro × Value)} {vo : Value} (hpl : p < w.heap.size) (h : PC W w p key wr gone qs vo x) (hg : x.grownBy y (some p)) (hl : LeftIn W y p) : PC W w p key wr gone qs vo y := by
 obtain ⟨v0, hb0⟩ := h.al.left.box
 refine ⟨⟨h.al.box.grown hg (by simp; omega), h.al.res.grown hg (by simp; omega), hl, grownBy_trans h.al.grown hg, ?_, fun q hq => ColsT.keep hg hb0 (by decide) (h.al.typed q hq)⟩, Nat.le_trans h.size hg.size⟩
 refine h.al.own.kept hg ?_
 cases e : vo.ownBlock with
 | none => exact .inl rfl
 | some g => exact .inr (fun h' => by have := (h.al.own.lt g e).1; have := Option.some.inj h'; omega)

set_option maxRecDepth 100000 in
set_option maxHeartbeats 8000000 in
theorem lpart_any (W : World) (p : Nat) (hp : W.heap.size ≤ p) (key : ByteArray) (w : World) (hW : Ext W w) (hL : LeftIn W w p) :
  Calls Tryz.prog 23 #[.pointer (some ⟨p, 0, none⟩), .string key] w fun e w' => ∃ (g : Int) (v : Value) (qs : List (Ro × Value)), e = .returned (.agg #[.string key, .int .i64 g, v]) ∧ (0 ≤ g ∧ g ≤ 7) ∧ GenRows 4 (qs.map (·.1)) ∧ RowsT w' v qs ∧ w.grownBy w' (some p) ∧ LeftIn W w' p := by
 have hpl : p < w.heap.size := by obtain ⟨v, l, hv, _⟩ := hL; exact hv.lt
 obtain ⟨a0, a1, hE0⟩ := boxes2 w (pa3 ⟨#[]⟩ 0 (.slice none 0 0)) (pa3 key 0 (.slice none 0 0)) 39 39
 have hL0 := hL.ext hE0
 go_enter Tryz.func23, Tryz.ntmps23
 go_wp2_with fail
 refine (next_ex W p hp _ (hW.trans hE0) hL0).mono ?_
 rintro e w1 ⟨N, N0, N1, rfl, hg, hL1⟩
 have hg8 : Hid (0 ≤ N / 5 % 8 ∧ N / 5 % 8 ≤ 7) := ⟨by omega, by omega⟩
 have A0 : PartAL W w p key w1 0 [] (.slice none 0 0) := ⟨a1.grown hg (by simp; omega), a0.grown hg (by simp; omega), hL1, ext_grownBy hE0 hg, World.ownsRow_nil _ _ _ _, nofun⟩
 have A1 : PartAL W w p key (w1.setCell ⟨w.heap.size + 1, 1, none⟩ (.int .i64 (N / 5 % 8))) (N / 5 % 8) [] (.slice none 0 0) := ⟨A0.box.set 1 _, A0.res.other (by omega) 1 _, A0.left.other (by omega), grownBy_new A0.grown (Nat.le_succ _), World.ownsRow_nil _ _ _ _, nofun⟩
 have x1 := A0.box.cell 1
 have xf := A0.box.free
 simp [pa3] at x1
 clear hE0 hL0 hg hL hL1 a0 a1
 by_cases k1 : N % 5 = 0
 ·go_wp2_with fail
  clear x1 xf k1
  go_loopw [7] (fun i wr => ∃ (k : Nat) (gone : Int) (qs : List (Ro × Value)) (vo : Value), k ≤ 4 ∧ i = .int .i64 k ∧ (0 ≤ gone ∧ gone ≤ 7) ∧ GenRows k (qs.map (·.1)) ∧ PartAL W w p key wr gone qs vo) (fun i _ => 4 - (intOf i).toNat)
  case atStart => exact ⟨0, (N / 5 % 8), [], .slice none 0 0, Nat.zero_le _, rfl, hg8.out, GenRows.nil, A1⟩
  case round =>
   obtain ⟨k, gone, qs, vo, hk, rfl, hgo, hgr, hal⟩ := hrel
   by_cases hlt : k < 4
   ·have hw10 : IntKind.i64.wrap (8 + (k : Int)) = 8 + (k : Int) := by rw [IntKind.wrap_i64]; omega
    have hlen : qs.length ≤ 4 := by have := hgr.len; rw [List.length_map] at this; omega
    have hwsz : w.heap.size ≤ wr.heap.size := hal.grown.size
    have hpl' : p < wr.heap.size := Nat.lt_of_lt_of_le hpl hwsz
    have t1 : decide ((k : Int) < 4) = true := by simp; omega
    go_wp2_with fail
    ·refine wp_region_relE (PC W w p key wr gone qs vo) (RP p vo (w.heap.size + 2)) (Tab.atE [(1, fun v _ => v = vo), (4, fun v _ => v = .string (ik k)), (5, fun v x => ∃ (r : Ro) (vc : Value), v = (.agg #[.string r.key, .string r.live.val, .bool r.live.dead, .int .i64 r.live.at_, .int .i64 r.live.fin, .int .i64 r.gone, .int .i64 r.shade, vc]) ∧ r.key = ik k ∧ GenRow r ∧ ColsT x vc r.cols), (6, fun v x => ∃ (r : Ro) (vc : Value) (b : Nat), v = .slice (some ⟨b, 0, none⟩) 1 1 ∧ wr.heap.size ≤ b ∧ BoxAt x b (ro8 r vc) 47 ∧ r.key = ik k ∧ GenRow r ∧ ColsT x vc r.cols), (7, fun v x => ∃ (r : Ro) (vc : Value), r.key = ik k ∧ GenRow r ∧ ColsT x vc r.cols ∧ x.ownsRow (w.heap.size + 2) 47 8 v (qs.length + 1) (roCells (qs ++ [(r, vc)])))])
      (Tab.staysE ⟨fun _ _ _ _ _ _ h => h, fun _ _ _ _ _ _ h => h, fun _ _ _ _ _ hR ⟨r, vc, e, h1, h2, h3⟩ => ⟨r, vc, e, h1, h2, RP_cols hR h3⟩, fun _ _ _ _ _ hR ⟨r, vc, b, e, hb, hx, h1, h2, h3⟩ => ⟨r, vc, b, e, hb, RP_far hal.own hpl' hR hb hx, h1, h2, RP_cols hR h3⟩, fun _ hj _ _ _ hR ⟨r, vc, h1, h2, h3, h4⟩ => ⟨r, vc, h1, h2, RP_cols hR h3, RP_own hpl hj hR h4⟩, trivial⟩)
      9 (by kernel_rfl) (by kernel_rfl) (by kernel_rfl) ((⟨hal, Nat.le_refl _⟩ : PC W w p key wr gone qs vo wr).ext (Ext.refl wr).drew) ?_
     refine relE_quiet rfl rfl rfl rfl ?_; intro K hK; go_big_quiet_op; (first | refine ⟨_, fun _ _ => rfl, hK _ ?_⟩ | refine hK _ ?_); clear hK K
     refine relE_val [] rfl rfl rfl (by kernel_rfl) (fun x hx hf => ?_) ?_
     ·obtain ⟨q0, q1, q2⟩ := hx.al.box.pa
      go_simp
      exact ⟨hx, RP_ext (W := W) (by decide) hx.al.left (Ext.refl x), rfl⟩
     simp only [Act.put, List.setIfInBounds_toArray, List.set_cons_zero, List.set_cons_succ]
     refine relE_quiet rfl rfl rfl rfl ?_; intro K hK; go_big_quiet_op; (first | refine ⟨_, fun _ _ => rfl, hK _ ?_⟩ | refine hK _ ?_); clear hK K
     refine relE_quiet rfl rfl rfl rfl ?_; intro K hK; go_big_quiet_op; (first | refine ⟨_, fun _ _ => rfl, hK _ ?_⟩ | refine hK _ ?_); clear hK K
     refine relE_val [] rfl rfl rfl (by kernel_rfl) (fun x hx hf => ?_) ?_
     ·go_simp
      exact (rint_any (k : Int) x).mono fun e y ⟨he, hy⟩ => ⟨_, he, hx.ext hy, RP_ext (W := W) (by decide) hx.al.left hy, rfl⟩
     simp only [Act.put, List.setIfInBounds_toArray, List.set_cons_zero, List.set_cons_succ]
     refine relE_fact [] rfl rfl rfl (by kernel_rfl) (fun x hx hf => ?_) (fun v5 x5 hC5 hG5 h5 => ?_)
     ·go_simp
      exact (lrow_any W p hp (ik k) x (hW.grown hx.al.grown (fun q hq => by cases hq; exact hp)) hx.al.left).mono fun e y ⟨r, vc, he, hk', hr, ho, hg, hl⟩ => ⟨_, he, PartAL.call hpl hx hg hl, by unfold RP; rw [if_neg (by decide)]; exact ⟨hx.al.left.box, hg⟩, r, vc, rfl, hk', hr, TIn.own ho⟩
     obtain ⟨r5, vc5, rfl, hk5, hr5, hc5⟩ := h5
     clear hC5 hG5 hk5 hr5 hc5
     simp only [Act.put, List.setIfInBounds_toArray, List.set_cons_zero, List.set_cons_succ]
     refine relE_fact [5] rfl rfl rfl (by kernel_rfl) (fun x hx hf => ?_) (fun v6 x6 hC6 hG6 h6 => ?_)
     ·obtain ⟨r, vc, e, h1, h2, h3⟩ := (hf 5 (by simp)).2 rfl
      go_simp
      refine ⟨hx.ext ((Ext.refl x).alloc _), RP_ext (W := W) (by decide) hx.al.left ((Ext.refl x).alloc _), r, vc, _, rfl, hx.size, ?_, h1, h2, h3.ext ((Ext.refl x).alloc _)⟩
      rw [h1]
      exact BoxAt.made x _ _
     obtain ⟨r6, vc6, b6, rfl, hb6, _⟩ := h6
     clear hC6 hG6
     simp only [Act.put, List.setIfInBounds_toArray, List.set_cons_zero, List.set_cons_succ]
     refine relE_fact [6] rfl rfl rfl (by kernel_rfl) (fun x hx hf => ?_) (fun v7 x7 hC7 hG7 h7 => ?_)
     ·obtain ⟨r, vc, b, e, _, hbox, h1, h2, h3⟩ := (hf 6 (by simp)).2 rfl
      cases e
      obtain ⟨av, cv, rfl⟩ := TIn.shape h3
      refine yields_append info_Row und_Rows rfl (by decide) (.tmp 31) (.tmp 36) rfl (w.heap.size + 2) (by have := hx.al.box.lt; omega) vo qs.length (roCells qs) hx.al.own (by rfl) b6 1 1 (ro8 r (.slice av r.cols.length cv)).toList (by rfl) (by rfl) (fun j u hj => by rw [hbox.cell j]; simpa using hj) (by simp [ro8, Value.oneCell']) (by unfold maxLen; omega) (by omega) ?_
      intro v' y hown' hg hkeep
      have hne : ∀ q, some q = vo.ownBlock → w.heap.size + 2 ≤ q := fun q hq => (hx.al.own.lt q hq.symm).1
      have HR : RP p vo (w.heap.size + 2) 7 x y := by unfold RP; rw [if_pos rfl]; exact ⟨⟨_, _, hx.al.own⟩, hg⟩
      refine ⟨⟨⟨hx.al.box.grown hg (fun e => by have := hne _ e; omega), hx.al.res.grown hg (fun e => by have := hne _ e; omega), ?_, ?_, hkeep, fun q hq => RP_cols HR (hx.al.typed q hq)⟩, Nat.le_trans hx.size hg.size⟩, HR, r, _, h1, h2, RP_cols HR h3, ?_⟩
      ·obtain ⟨vl, l, hv, hin⟩ := hx.al.left
       exact ⟨vl, l, hv.grown hg (fun e => by have := hne _ e; omega), hin⟩
      ·refine ⟨hg.os.trans hx.al.grown.os, hg.tape.trans hx.al.grown.tape, hg.output.trans hx.al.grown.output, Nat.le_trans hx.al.grown.size hg.size, fun q hq hqp => (hg.block q (Nat.lt_of_lt_of_le hq hx.al.grown.size) (fun e => by have := hne _ e; omega)).trans (hx.al.grown.block q hq hqp)⟩
      ·rw [roCells_append]
       exact hown'
     obtain ⟨r7, vc7, _, _, _, hown7⟩ := h7
     obtain ⟨a7, c7, rfl⟩ := ownsRow_shape hown7
     clear hC7 hG7 hown7
     simp only [Act.put, List.setIfInBounds_toArray, List.set_cons_zero, List.set_cons_succ]
     refine relE_quiet rfl rfl rfl rfl ?_; intro K hK; go_big_quiet_op; (first | refine ⟨_, fun _ _ => rfl, hK _ ?_⟩ | refine hK _ ?_); clear hK K
     refine relE_tail rfl rfl fun x hx hG => ?_
     obtain ⟨r, vc, h1, h2, h3, hown'⟩ := (hG 7).2 rfl
     clear hG
     obtain ⟨q0, q1, q2⟩ := hx.al.box.pa
     have qf := hx.al.box.free 2
     go_wp2_with fail
     go_roundw
     case rel =>
      refine ⟨k + 1, gone, qs ++ [(r, vc)], _, by omega, by go_num, hgo, ?_, hx.al.box.set 2 _, hx.al.res.other (by omega) 2 _, hx.al.left.other (by omega), grownBy_new hx.al.grown (Nat.le_succ _), ?_, ?_⟩
      ·rw [List.map_append]
       exact hgr.put h2 h1
      ·rw [List.length_append]
       exact ownsRow_setCell_below hown' (a := ⟨w.heap.size + 1, 2, none⟩) (by show w.heap.size + 1 < w.heap.size + 2; omega) _
      ·intro q hq
       rcases List.mem_append.1 hq with hq | hq
       ·exact TIn.set 2 _ hx.al.box (by decide) (hx.al.typed q hq)
       ·rw [List.mem_singleton.1 hq]
        exact TIn.set 2 _ hx.al.box (by decide) h3
     case measure => simp [intOf] <;> omega
    ·go_roundw
     case rel => exact ⟨k + 1, gone, qs, vo, by omega, by go_num, hgo, hgr.skip, hal⟩
     case measure => simp [intOf] <;> omega
   ·obtain rfl : k = 4 := by omega
    obtain ⟨y0, y1, y2⟩ := hal.box.pa
    have hres := hal.res
    obtain ⟨av, cv, rfl⟩ := ownsRow_shape hal.own
    go_wp2_with ((guard_target =~ wpList _ _ _ (Oper.mk none (Op.store _ (Operand.tmp 4) (Operand.tmp 39)) _ _ _ _ :: _) _ _); go_must (refine storeBox rfl 39 (.tmp 4) (.tmp 39) rfl (w.heap.size) _ _ _ (by rfl) (by rfl) (hres) (by kernel_rfl) (by rfl) (by simp [Value.oneCell']) ?_); intro w3 c3 g3)
    have hleft : LeftIn W w3 p := by
     obtain ⟨vl, l, hv, hin⟩ := hal.left
     exact ⟨vl, l, hv.grown g3 (fun e => by have := Option.some.inj e; omega), hin⟩
    have hgr' : w.grownBy w3 (some p) := ⟨g3.os.trans hal.grown.os, g3.tape.trans hal.grown.tape, g3.output.trans hal.grown.output, Nat.le_trans hal.grown.size g3.size, fun q hq hqp => (g3.block q (Nat.lt_of_lt_of_le hq hal.grown.size) (fun e => by have := Option.some.inj e; omega)).trans (hal.grown.block q hq hqp)⟩
    have hrows : RowsT w3 (.slice av qs.length cv) qs := ⟨(TIn.own hal.own).keep g3 hres (by decide), fun q hq => (hal.typed q hq).keep g3 hres (by decide)⟩
    obtain ⟨z0, z1, z2⟩ := BoxAt.pa (k := key) (g := gone) (u := .slice av qs.length cv) c3
    refine bodyPost_ret (v := .agg #[.string key, .int .i64 gone, .slice av qs.length cv]) ?_ rfl ⟨gone, _, qs, rfl, hgo, hgr, hrows, hgr', hleft⟩
    simp [results, Tryz.results23, go_sem, Act.put, z0, z1, z2]
 ·go_wp2_with fail
  clear x1 xf k1
  go_loopw [7] (fun i wr => ∃ (k : Nat) (gone : Int) (qs : List (Ro × Value)) (vo : Value), k ≤ 4 ∧ i = .int .i64 k ∧ (0 ≤ gone ∧ gone ≤ 7) ∧ GenRows k (qs.map (·.1)) ∧ PartAL W w p key wr gone qs vo) (fun i _ => 4 - (intOf i).toNat)
  case atStart => exact ⟨0, 0, [], .slice none 0 0, Nat.zero_le _, rfl, ⟨Int.le_refl 0, by decide⟩, GenRows.nil, A0⟩
  case round =>
   obtain ⟨k, gone, qs, vo, hk, rfl, hgo, hgr, hal⟩ := hrel
   by_cases hlt : k < 4
   ·have hw10 : IntKind.i64.wrap (8 + (k : Int)) = 8 + (k : Int) := by rw [IntKind.wrap_i64]; omega
    have hlen : qs.length ≤ 4 := by have := hgr.len; rw [List.length_map] at this; omega
    have hwsz : w.heap.size ≤ wr.heap.size := hal.grown.size
    have hpl' : p < wr.heap.size := Nat.lt_of_lt_of_le hpl hwsz
    have t1 : decide ((k : Int) < 4) = true := by simp; omega
    go_wp2_with fail
    ·refine wp_region_relE (PC W w p key wr gone qs vo) (RP p vo (w.heap.size + 2)) (Tab.atE [(1, fun v _ => v = vo), (4, fun v _ => v = .string (ik k)), (5, fun v x => ∃ (r : Ro) (vc : Value), v = (.agg #[.string r.key, .string r.live.val, .bool r.live.dead, .int .i64 r.live.at_, .int .i64 r.live.fin, .int .i64 r.gone, .int .i64 r.shade, vc]) ∧ r.key = ik k ∧ GenRow r ∧ ColsT x vc r.cols), (6, fun v x => ∃ (r : Ro) (vc : Value) (b : Nat), v = .slice (some ⟨b, 0, none⟩) 1 1 ∧ wr.heap.size ≤ b ∧ BoxAt x b (ro8 r vc) 47 ∧ r.key = ik k ∧ GenRow r ∧ ColsT x vc r.cols), (7, fun v x => ∃ (r : Ro) (vc : Value), r.key = ik k ∧ GenRow r ∧ ColsT x vc r.cols ∧ x.ownsRow (w.heap.size + 2) 47 8 v (qs.length + 1) (roCells (qs ++ [(r, vc)])))])
      (Tab.staysE ⟨fun _ _ _ _ _ _ h => h, fun _ _ _ _ _ _ h => h, fun _ _ _ _ _ hR ⟨r, vc, e, h1, h2, h3⟩ => ⟨r, vc, e, h1, h2, RP_cols hR h3⟩, fun _ _ _ _ _ hR ⟨r, vc, b, e, hb, hx, h1, h2, h3⟩ => ⟨r, vc, b, e, hb, RP_far hal.own hpl' hR hb hx, h1, h2, RP_cols hR h3⟩, fun _ hj _ _ _ hR ⟨r, vc, h1, h2, h3, h4⟩ => ⟨r, vc, h1, h2, RP_cols hR h3, RP_own hpl hj hR h4⟩, trivial⟩)
      9 (by kernel_rfl) (by kernel_rfl) (by kernel_rfl) ((⟨hal, Nat.le_refl _⟩ : PC W w p key wr gone qs vo wr).ext (Ext.refl wr).drew) ?_
     refine relE_quiet rfl rfl rfl rfl ?_; intro K hK; go_big_quiet_op; (first | refine ⟨_, fun _ _ => rfl, hK _ ?_⟩ | refine hK _ ?_); clear hK K
     refine relE_val [] rfl rfl rfl (by kernel_rfl) (fun x hx hf => ?_) ?_
     ·obtain ⟨q0, q1, q2⟩ := hx.al.box.pa
      go_simp
      exact ⟨hx, RP_ext (W := W) (by decide) hx.al.left (Ext.refl x), rfl⟩
     simp only [Act.put, List.setIfInBounds_toArray, List.set_cons_zero, List.set_cons_succ]
     refine relE_quiet rfl rfl rfl rfl ?_; intro K hK; go_big_quiet_op; (first | refine ⟨_, fun _ _ => rfl, hK _ ?_⟩ | refine hK _ ?_); clear hK K
     refine relE_quiet rfl rfl rfl rfl ?_; intro K hK; go_big_quiet_op; (first | refine ⟨_, fun _ _ => rfl, hK _ ?_⟩ | refine hK _ ?_); clear hK K
     refine relE_val [] rfl rfl rfl (by kernel_rfl) (fun x hx hf => ?_) ?_
     ·go_simp
      exact (rint_any (k : Int) x).mono fun e y ⟨he, hy⟩ => ⟨_, he, hx.ext hy, RP_ext (W := W) (by decide) hx.al.left hy, rfl⟩
     simp only [Act.put, List.setIfInBounds_toArray, List.set_cons_zero, List.set_cons_succ]
     refine relE_fact [] rfl rfl rfl (by kernel_rfl) (fun x hx hf => ?_) (fun v5 x5 hC5 hG5 h5 => ?_)
     ·go_simp
      exact (lrow_any W p hp (ik k) x (hW.grown hx.al.grown (fun q hq => by cases hq; exact hp)) hx.al.left).mono fun e y ⟨r, vc, he, hk', hr, ho, hg, hl⟩ => ⟨_, he, PartAL.call hpl hx hg hl, by unfold RP; rw [if_neg (by decide)]; exact ⟨hx.al.left.box, hg⟩, r, vc, rfl, hk', hr, TIn.own ho⟩
     obtain ⟨r5, vc5, rfl, hk5, hr5, hc5⟩ := h5
     clear hC5 hG5 hk5 hr5 hc5
     simp only [Act.put, List.setIfInBounds_toArray, List.set_cons_zero, List.set_cons_succ]
     refine relE_fact [5] rfl rfl rfl (by kernel_rfl) (fun x hx hf => ?_) (fun v6 x6 hC6 hG6 h6 => ?_)
     ·obtain ⟨r, vc, e, h1, h2, h3⟩ := (hf 5 (by simp)).2 rfl
      go_simp
      refine ⟨hx.ext ((Ext.refl x).alloc _), RP_ext (W := W) (by decide) hx.al.left ((Ext.refl x).alloc _), r, vc, _, rfl, hx.size, ?_, h1, h2, h3.ext ((Ext.refl x).alloc _)⟩
      rw [h1]
      exact BoxAt.made x _ _
     obtain ⟨r6, vc6, b6, rfl, hb6, _⟩ := h6
     clear hC6 hG6
     simp only [Act.put, List.setIfInBounds_toArray, List.set_cons_zero, List.set_cons_succ]
     refine relE_fact [6] rfl rfl rfl (by kernel_rfl) (fun x hx hf => ?_) (fun v7 x7 hC7 hG7 h7 => ?_)
     ·obtain ⟨r, vc, b, e, _, hbox, h1, h2, h3⟩ := (hf 6 (by simp)).2 rfl
      cases e
      obtain ⟨av, cv, rfl⟩ := TIn.shape h3
      refine yields_append info_Row und_Rows rfl (by decide) (.tmp 31) (.tmp 36) rfl (w.heap.size + 2) (by have := hx.al.box.lt; omega) vo qs.length (roCells qs) hx.al.own (by rfl) b6 1 1 (ro8 r (.slice av r.cols.length cv)).toList (by rfl) (by rfl) (fun j u hj => by rw [hbox.cell j]; simpa using hj) (by simp [ro8, Value.oneCell']) (by unfold maxLen; omega) (by omega) ?_
      intro v' y hown' hg hkeep
      have hne : ∀ q, some q = vo.ownBlock → w.heap.size + 2 ≤ q := fun q hq => (hx.al.own.lt q hq.symm).1
      have HR : RP p vo (w.heap.size + 2) 7 x y := by unfold RP; rw [if_pos rfl]; exact ⟨⟨_, _, hx.al.own⟩, hg⟩
      refine ⟨⟨⟨hx.al.box.grown hg (fun e => by have := hne _ e; omega), hx.al.res.grown hg (fun e => by have := hne _ e; omega), ?_, ?_, hkeep, fun q hq => RP_cols HR (hx.al.typed q hq)⟩, Nat.le_trans hx.size hg.size⟩, HR, r, _, h1, h2, RP_cols HR h3, ?_⟩
      ·obtain ⟨vl, l, hv, hin⟩ := hx.al.left
       exact ⟨vl, l, hv.grown hg (fun e => by have := hne _ e; omega), hin⟩
      ·refine ⟨hg.os.trans hx.al.grown.os, hg.tape.trans hx.al.grown.tape, hg.output.trans hx.al.grown.output, Nat.le_trans hx.al.grown.size hg.size, fun q hq hqp => (hg.block q (Nat.lt_of_lt_of_le hq hx.al.grown.size) (fun e => by have := hne _ e; omega)).trans (hx.al.grown.block q hq hqp)⟩
      ·rw [roCells_append]
       exact hown'
     obtain ⟨r7, vc7, _, _, _, hown7⟩ := h7
     obtain ⟨a7, c7, rfl⟩ := ownsRow_shape hown7
     clear hC7 hG7 hown7
     simp only [Act.put, List.setIfInBounds_toArray, List.set_cons_zero, List.set_cons_succ]
     refine relE_quiet rfl rfl rfl rfl ?_; intro K hK; go_big_quiet_op; (first | refine ⟨_, fun _ _ => rfl, hK _ ?_⟩ | refine hK _ ?_); clear hK K
     refine relE_tail rfl rfl fun x hx hG => ?_
     obtain ⟨r, vc, h1, h2, h3, hown'⟩ := (hG 7).2 rfl
     clear hG
     obtain ⟨q0, q1, q2⟩ := hx.al.box.pa
     have qf := hx.al.box.free 2
     go_wp2_with fail
     go_roundw
     case rel =>
      refine ⟨k + 1, gone, qs ++ [(r, vc)], _, by omega, by go_num, hgo, ?_, hx.al.box.set 2 _, hx.al.res.other (by omega) 2 _, hx.al.left.other (by omega), grownBy_new hx.al.grown (Nat.le_succ _), ?_, ?_⟩
      ·rw [List.map_append]
       exact hgr.put h2 h1
      ·rw [List.length_append]
       exact ownsRow_setCell_below hown' (a := ⟨w.heap.size + 1, 2, none⟩) (by show w.heap.size + 1 < w.heap.size + 2; omega) _
      ·intro q hq
       rcases List.mem_append.1 hq with hq | hq
       ·exact TIn.set 2 _ hx.al.box (by decide) (hx.al.typed q hq)
       ·rw [List.mem_singleton.1 hq]
        exact TIn.set 2 _ hx.al.box (by decide) h3
     case measure => simp [intOf] <;> omega
    ·go_roundw
     case rel => exact ⟨k + 1, gone, qs, vo, by omega, by go_num, hgo, hgr.skip, hal⟩
     case measure => simp [intOf] <;> omega
   ·obtain rfl : k = 4 := by omega
    obtain ⟨y0, y1, y2⟩ := hal.box.pa
    have hres := hal.res
    obtain ⟨av, cv, rfl⟩ := ownsRow_shape hal.own
    go_wp2_with ((guard_target =~ wpList _ _ _ (Oper.mk none (Op.store _ (Operand.tmp 4) (Operand.tmp 39)) _ _ _ _ :: _) _ _); go_must (refine storeBox rfl 39 (.tmp 4) (.tmp 39) rfl (w.heap.size) _ _ _ (by rfl) (by rfl) (hres) (by kernel_rfl) (by rfl) (by simp [Value.oneCell']) ?_); intro w3 c3 g3)
    have hleft : LeftIn W w3 p := by
     obtain ⟨vl, l, hv, hin⟩ := hal.left
     exact ⟨vl, l, hv.grown g3 (fun e => by have := Option.some.inj e; omega), hin⟩
    have hgr' : w.grownBy w3 (some p) := ⟨g3.os.trans hal.grown.os, g3.tape.trans hal.grown.tape, g3.output.trans hal.grown.output, Nat.le_trans hal.grown.size g3.size, fun q hq hqp => (g3.block q (Nat.lt_of_lt_of_le hq hal.grown.size) (fun e => by have := Option.some.inj e; omega)).trans (hal.grown.block q hq hqp)⟩
    have hrows : RowsT w3 (.slice av qs.length cv) qs := ⟨(TIn.own hal.own).keep g3 hres (by decide), fun q hq => (hal.typed q hq).keep g3 hres (by decide)⟩
    obtain ⟨z0, z1, z2⟩ := BoxAt.pa (k := key) (g := gone) (u := .slice av qs.length cv) c3
    refine bodyPost_ret (v := .agg #[.string key, .int .i64 gone, .slice av qs.length cv]) ?_ rfl ⟨gone, _, qs, rfl, hgo, hgr, hrows, hgr', hleft⟩
    simp [results, Tryz.results23, go_sem, Act.put, z0, z1, z2]
end Go.Proofs.YtolkhjdododdaaaGreatDoor

/- Made, Several: partitions by numbers. (what a smaller cut has) -/
namespace Go.Proofs.YtolkhjdododdaaaGreatDoor
open Go Go.RowKit
attribute [local go_sem] yields yUpon ro8 pa3

/-- A partition by numbers, of a key. -/
structure GenPa (key : ByteArray) (p : Pa) : Prop where
 key : p.key = key
 gone : 0 ≤ p.gone ∧ p.gone ≤ 7
 rows : GenRows 4 (p.ps.map (·.1))
end Go.Proofs.YtolkhjdododdaaaGreatDoor

/- The type of a list of partitions (not every seat has it). -/
namespace Go.Proofs.YtolkhjdododdaaaGreatDoor
open Go Go.RowKit
theorem und_Parts : Tryz.prog.underlying 34 = some (.slice 39) := by kernel_rfl
end Go.Proofs.YtolkhjdododdaaaGreatDoor

/- Made, Several: partitions by numbers. -/
namespace Go.Proofs.YtolkhjdododdaaaGreatDoor
open Go Go.RowKit
attribute [local go_sem] yields yUpon ro8 pa3
set_option maxRecDepth 100000 in
set_option maxHeartbeats 4000000 in
theorem several_own (v : Value) (l : List Int) (many : Nat) (hm : many ≤ 1000) (key : ByteArray) (w : World) (hin : IntsIn w v .i64 l) :
  Calls Tryz.prog 6 #[v, .int .i64 (many : Int), .string key] w fun e w' => ∃ (v' : Value) (L : List Pa), e = .returned v' ∧ L.length = many ∧ PartsT w' v' L ∧ (∀ p ∈ L, GenPa key p) ∧ Ext w w' ∧ ∀ q, v'.ownBlock = some q → w.heap.size ≤ q := by
 have a0 := BoxAt.made w #[v] 42
 have hE0 := (Ext.refl w).alloc (.cells #[v] 42)
 obtain ⟨av, cv, rfl, _⟩ := hin.block
 go_enter Tryz.func6, Tryz.ntmps6
 go_wp2_with fail
 go_loopw [8, 9] (fun m i wr => ∃ (k : Nat) (vo : Value) (L : List Pa), k ≤ many ∧ i = .int .i64 k ∧ m = vo ∧ L.length = k ∧ wr.ownsRow (w.heap.size + 1) 39 3 vo L.length (paCells L) ∧ (∀ p ∈ L, RowsT wr p.rv p.ps) ∧ (∀ p ∈ L, GenPa key p) ∧ LeftIn w wr w.heap.size ∧ w.heap.size < wr.heap.size ∧ Ext w wr) (fun _ i _ => many - (intOf i).toNat)
 case atStart => exact ⟨0, _, [], Nat.zero_le _, rfl, rfl, rfl, World.ownsRow_nil _ _ _ _, nofun, nofun, ⟨_, l, a0, hin⟩, a0.lt, hE0⟩
 case round =>
  obtain ⟨k, vo, L, hk, rfl, rfl, hLk, hown, hrows, hgen, hleft, hlt0, hE⟩ := hrel
  clear a0 hE0
  subst hLk
  obtain ⟨ao, co, rfl⟩ := own_shape hown
  by_cases hlt : L.length < many
  ·have t1 : decide ((L.length : Int) < (many : Int)) = true := by simp; omega
   go_wp2_with fail
   refine (lpart_any w w.heap.size (Nat.le_refl _) key wr hE hleft).mono ?_
   rintro e w1 ⟨g, v1, qs, rfl, hg8, hgr, hq, hg, hleft1⟩
   obtain ⟨v0, hb0⟩ := hleft.box
   have hrows1 : ∀ p ∈ L, RowsT w1 p.rv p.ps := fun p hp => (hrows p hp).keep hg hb0 (by decide) (by decide)
   have hown1 : w1.ownsRow (w.heap.size + 1) 39 3 (.slice ao L.length co) L.length (paCells L) := hown.kept hg (own_ne_box hown hb0 (by decide))
   have hX1 : Ext w w1 := hE.grown hg (fun q hq => by cases hq; omega)
   have hsz1 : w.heap.size + 1 ≤ w1.heap.size := by have := hg.size; omega
   obtain ⟨aq, cq, rfl⟩ := hq.shape
   obtain ⟨nq, hnq⟩ : ∃ nq, nq = qs.length := ⟨_, rfl⟩
   rw [← hnq] at hq ⊢
   clear hnq hown hrows hleft hb0 hg
   go_wp2_with (at_builtin; go_must (refine appR info_Part und_Parts rfl (by decide) w1 rfl (.tmp 18) (.tmp 22) rfl (w.heap.size + 1) hsz1 (.slice ao L.length co) L.length (paCells L) hown1 rfl 1 (pa3 key g (.slice aq nq cq)) rfl rfl (by simp [pa3, Value.oneCell']) (by unfold maxLen; omega) (by omega) ?_); intro v20 w20 hown20 hg20)
   go_roundw
   case rel =>
    have hXa := (Ext.refl w1).alloc (.cells (pa3 key g (.slice aq nq cq)) 39)
    have howna := ownsRow_ext hown1 hXa
    have hkr : ∀ {rv ps}, RowsT w1 rv ps → RowsT w20 rv ps := fun h => (h.ext hXa).keepOwn howna hg20 (by decide) (by decide)
    refine ⟨L.length + 1, _, L ++ [⟨key, g, .slice aq nq cq, qs⟩], by omega, by go_num, rfl, by simp, ?_, fun p hp => ?_, fun p hp => ?_, ?_, ?_, ?_⟩
    ·rw [paCells_append, List.length_append]
     exact hown20
    ·rcases List.mem_append.1 hp with hp | hp
     ·exact hkr (hrows1 p hp)
     ·rw [List.mem_singleton.1 hp]
      exact hkr hq
    ·rcases List.mem_append.1 hp with hp | hp
     ·exact hgen p hp
     ·rw [List.mem_singleton.1 hp]
      exact ⟨rfl, hg8, hgr⟩
    ·obtain ⟨vl, ll, hv, hli⟩ := hleft1.ext hXa
     exact ⟨vl, ll, hv.grown hg20 (fun e => by have := (howna.lt _ e.symm).1; omega), hli⟩
    ·have := hg20.size
     have := hXa.le
     omega
    ·exact (hX1.trans hXa).grown hg20 (fun q hq => by have := (howna.lt _ hq).1; omega)
   case measure => simp [intOf]; omega
  ·go_wp2_with fail
   have hkm : L.length = many := by omega
   go_ret
   exact ⟨_, L, rfl, hkm, ⟨TIn.own hown, hrows⟩, hgen, hE, fun q hq => Nat.le_trans (Nat.le_succ _) (hown.lt q hq).1⟩
theorem several_any (v : Value) (l : List Int) (many : Nat) (hm : many ≤ 1000) (key : ByteArray) (w : World) (hin : IntsIn w v .i64 l) :
  Calls Tryz.prog 6 #[v, .int .i64 (many : Int), .string key] w fun e w' => ∃ (v' : Value) (L : List Pa), e = .returned v' ∧ L.length = many ∧ PartsT w' v' L ∧ (∀ p ∈ L, GenPa key p) ∧ Ext w w' :=
 (several_own v l many hm key w hin).mono fun e w' ⟨v', L, h1, h2, h3, h4, h5, _⟩ => ⟨v', L, h1, h2, h3, h4, h5⟩
end Go.Proofs.YtolkhjdododdaaaGreatDoor
